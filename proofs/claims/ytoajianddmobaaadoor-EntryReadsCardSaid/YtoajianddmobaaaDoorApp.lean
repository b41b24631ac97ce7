/- APPEND, onto nil or onto a row that the call owns: what the new value owns, and that the old one owns what it did. -/
import Derived.Test.YtoajianddmobaaaDoorPk2
import Derived.Deep.AppendLies
import Derived.Lib.AppendStr
import Derived.Laws.OwnMore
namespace Go.Proofs.YtoajianddmobaaaDoor
open Go.RowKit
set_option linter.unusedSimpArgs false
set_option linter.unusedVariables false
set_option maxRecDepth 100000

/-- The slice value v owns the elements l. -/
def OwnL {α : Type} (base e size : Nat) (enc : α → Array Value) (w : World) (v : Value) (l : List α) : Prop :=
  w.ownsRow base e size v l.length (l.flatMap fun x => (enc x).toList)
def Enc1 {α : Type} (size : Nat) (enc : α → Array Value) : Prop := ∀ x, (enc x).size = size ∧ ∀ u ∈ (enc x).toList, u.oneCell' = true
def elemB (P : Program) (t e size bytes : Nat) : Bool :=
  (match P.underlying t with | some (.slice e') => e' == e | _ => false) && (match P.info? e with | some i => i.size == size && i.bytes == bytes && (match i.zero with | some z => z.cells.size == size | none => false) | none => false) && decide (0 < size)
theorem elem_parts {P : Program} {t e size bytes : Nat} (h : elemB P t e size bytes = true) :
    ∃ i z, P.underlying t = some (.slice e) ∧ P.info? e = some i ∧ i.zero = some z ∧ i.size = size ∧ i.bytes = bytes ∧ z.cells.size = size ∧ 0 < size := by
  unfold elemB at h
  simp only [Bool.and_eq_true, decide_eq_true_eq] at h
  obtain ⟨⟨h1, h2⟩, h3⟩ := h
  have hu : P.underlying t = some (.slice e) := by
    cases hq : P.underlying t with
    | none => rw [hq] at h1; cases h1
    | some d =>
      rw [hq] at h1
      cases d <;> first | (cases h1; done) | skip
      rename_i e'
      have : e' = e := by simpa using h1
      rw [this]
  cases hi : P.info? e with
  | none => rw [hi] at h2; cases h2
  | some i =>
    rw [hi] at h2
    cases hz : i.zero with
    | none => simp [hz] at h2
    | some z =>
      simp only [hz, Bool.and_eq_true, beq_iff_eq] at h2
      exact ⟨i, z, hu, rfl, hz, h2.1.1, h2.1.2, h2.2, h3⟩

section
variable {α : Type} {base e size : Nat} {enc : α → Array Value} {w w' : World} {v : Value} {l news : List α}
theorem flat_length (h1 : Enc1 size enc) (l : List α) : (l.flatMap fun x => (enc x).toList).length = l.length * size := by
  induction l with
  | nil => simp
  | cons x l ih =>
    rw [List.flatMap_cons, List.length_append, ih, List.length_cons, Nat.add_mul, Nat.one_mul, Array.length_toList, (h1 x).1]
    omega
theorem flat_at (h1 : Enc1 size enc) : ∀ (l : List α) (k j : Nat) (x : α) (u : Value), l[k]? = some x → j < size → (enc x)[j]? = some u → (l.flatMap fun x => (enc x).toList)[k * size + j]? = some u
  | [], k, j, x, u, h, _, _ => by simp at h
  | y :: l, 0, j, x, u, h, hj, hu => by
    simp only [List.getElem?_cons_zero, Option.some.injEq] at h
    subst h
    rw [List.flatMap_cons, Nat.zero_mul, Nat.zero_add, List.getElem?_append_left (by rw [Array.length_toList, (h1 y).1]; exact hj)]
    simpa using hu
  | y :: l, k + 1, j, x, u, h, hj, hu => by
    simp only [List.getElem?_cons_succ] at h
    rw [List.flatMap_cons, List.getElem?_append_right (by rw [Array.length_toList, (h1 y).1, Nat.add_mul]; omega), Array.length_toList, (h1 y).1,
      show (k + 1) * size + j - size = k * size + j by rw [Nat.add_mul]; omega]
    exact flat_at h1 l k j x u h hj hu
theorem flat_of (h1 : Enc1 size enc) (hs : 0 < size) (l : List α) (i : Nat) (u : Value) (h : (l.flatMap fun x => (enc x).toList)[i]? = some u) :
    ∃ x, l[i / size]? = some x ∧ (enc x)[i % size]? = some u := by
  have hi : i < l.length * size := by rw [← flat_length h1]; exact (List.getElem?_eq_some_iff.1 h).1
  have hk : i / size < l.length := Nat.div_lt_of_lt_mul (by rw [Nat.mul_comm]; exact hi)
  have hm := Nat.mod_lt i hs
  refine ⟨l[i / size], by simp [hk], ?_⟩
  have hm2 : i % size < (enc l[i / size]).size := by rw [(h1 _).1]; exact hm
  have := flat_at h1 l (i / size) (i % size) l[i / size] ((enc l[i / size])[i % size]) (List.getElem?_eq_getElem hk) hm (Array.getElem?_eq_getElem hm2)
  rw [show i / size * size + i % size = i by rw [Nat.mul_comm]; exact Nat.div_add_mod i size, h] at this
  rw [Option.some.inj this]
  exact Array.getElem?_eq_getElem hm2
theorem flat_one (h1 : Enc1 size enc) (l : List α) : ∀ u ∈ (l.flatMap fun x => (enc x).toList), u.oneCell' = true := fun u hu => by
  obtain ⟨x, _, hx⟩ := List.mem_flatMap.1 hu
  exact (h1 x).2 u hx
theorem add_lit' (b off j : Nat) : (⟨b, off, none⟩ : Addr).add j = ⟨b, off + j, none⟩ := by
  unfold Addr.add
  split
  · rename_i h; subst h; rfl
  · rfl
/-- The cells of a slice of rows. -/
theorem SlR.cells (h1 : Enc1 size enc) (hs : 0 < size) {b off : Nat} (h : SlR size enc w (some ⟨b, off, none⟩) l) :
    ∀ j u, (l.flatMap fun x => (enc x).toList)[j]? = some u → w.cell? ((⟨b, off, none⟩ : Addr).add j) = some u := fun j u hu => by
  obtain ⟨x, hx, hc⟩ := flat_of h1 hs l j u hu
  have := row_cell (h.at hx) (j % size) (Nat.mod_lt j hs) hc
  rw [add_lit']
  rw [show off + j / size * size + j % size = off + j by have := Nat.div_add_mod j size; rw [Nat.mul_comm] at this; omega] at this
  exact this

/-! What owning gives. -/
theorem OwnL.nil : OwnL base e size enc w (.slice none 0 0) [] := World.ownsRow_nil w base e size
theorem OwnL.alloc (h : OwnL base e size enc w v l) (o : Obj) : OwnL base e size enc (w.alloc o) v l := World.ownsRow.alloc h o
theorem OwnL.drew (h : OwnL base e size enc w v l) : OwnL base e size enc w.drew v l := World.ownsRow.drew h
theorem OwnL.blocks (h : OwnL base e size enc w v l) (hb : ∀ k, k < w.heap.size → w'.heap[k]? = w.heap[k]?) : OwnL base e size enc w' v l := by
  refine ⟨h.1, ?_⟩
  rcases h.2 with hn | ⟨g, cap, cur, hv, hbg, hg, rest⟩
  · exact .inl hn
  · exact .inr ⟨g, cap, cur, hv, hbg, (hb g (Array.getElem?_eq_some_iff.1 hg).1).trans hg, rest⟩
theorem OwnL.grew (h : OwnL base e size enc w v l) (hg : Grew w w') : OwnL base e size enc w' v l := h.blocks fun k hk => hg.block hk
theorem OwnL.mono {base' : Nat} (h : OwnL base e size enc w v l) (hb : base' ≤ base) : OwnL base' e size enc w v l := by
  refine ⟨h.1, ?_⟩
  rcases h.2 with hn | ⟨g, cap, cur, hv, hbg, rest⟩
  · exact .inl hn
  · exact .inr ⟨g, cap, cur, hv, Nat.le_trans hb hbg, rest⟩
theorem OwnL.form (h1 : Enc1 size enc) (hs : 0 < size) (h : OwnL base e size enc w v l) : ∃ a cap, v = .slice a l.length cap ∧ SlR size enc w a l ∧ l.length ≤ cap ∧ (a = none → l = [] ∧ cap = 0) ∧ (∀ p, a = some p → base ≤ p.block ∧ p.block < w.heap.size ∧ p.off = 0 ∧ v.ownBlock = some p.block ∧ ∀ j, w.frozen? ⟨p.block, j, none⟩ = false) := by
  rcases h.2 with ⟨rfl, h0⟩ | ⟨g, cap, cur, rfl, hbg, hg, hnc, hcm, hcs, htake⟩
  · have hl : l = [] := List.eq_nil_of_length_eq_zero h0
    subst hl
    exact ⟨none, 0, rfl, SlR.nil, Nat.le_refl _, fun _ => ⟨rfl, rfl⟩, fun p hp => by cases hp⟩
  · refine ⟨_, cap, rfl, fun k x hx => ⟨g, 0, rfl, ?_⟩, hnc, (fun e => by cases e), fun p hp => by cases hp; exact ⟨hbg, (Array.getElem?_eq_some_iff.1 hg).1, rfl, rfl, fun j => frozen_of hg j⟩⟩
    have hk : k < l.length := (List.getElem?_eq_some_iff.1 hx).1
    refine rowAt_of_cells hs (h1 x).1 fun j u hj => ?_
    have hjs : j < size := by rw [← (h1 x).1]; exact (Array.getElem?_eq_some_iff.1 hj).1
    have := flat_at h1 l k j x u hx hjs hj
    rw [cell_of hg, Nat.zero_add]
    rw [← htake, List.getElem?_take] at this
    split at this
    · simpa using this
    · cases this

end

/-! ### append -/
section
variable {P : Program} {α : Type} {base t e size bytes : Nat} {enc : α → Array Value} {w : World} {v : Value} {l news : List α}
/-- What append leaves. -/
def Appended (base e size : Nat) (enc : α → Array Value) (w : World) (v : Value) (l l2 : List α) (v' : Value) (w' : World) : Prop :=
  OwnL base e size enc w' v' l2 ∧ OwnL base e size enc w' v l ∧ w.grownBy w' v.ownBlock ∧ Below base w w' ∧ (v'.ownBlock = v.ownBlock ∨ v'.ownBlock = some w.heap.size)
theorem below_of_grown {w w' : World} {row : Option Nat} (h : w.grownBy w' row) (hr : ∀ k, row = some k → base ≤ k) (hb : base ≤ w.heap.size) : Below base w w' :=
  ⟨h.os, h.tape, h.output, h.size, fun k hk => h.block k (by omega) fun e => by have := hr k e.symm; omega⟩
theorem run_app (he : elemB P t e size bytes = true) (h1 : Enc1 size enc) (ty : TypeId) (hown : OwnL base e size enc w v l) {ad : Option Addr} {c : Nat} (hs : SlR size enc w ad news) (hnil : ad = none → news = [] ∧ c = 0)
    (hlen : l.length + news.length ≤ 1099511627776) (hby : bytes ≤ 128 ∨ (l.length + news.length) * bytes ≤ 140737488355328) (hbase : base ≤ w.heap.size) :
    ∃ v' w', (Builtin.append_ #[t, t] ty #[v, .slice ad news.length c]).run P w = .ok v' w' ∧ Appended base e size enc w v l (l ++ news) v' w' := by
  obtain ⟨i, z, ht, hi, hz, rfl, hby2, hzs, hsz⟩ := elem_parts he
  have hbytes : (l.length + news.length) * i.bytes ≤ 140737488355328 := by
    rw [hby2]
    rcases hby with h | h
    · exact Nat.le_trans (Nat.mul_le_mul hlen h) (by omega)
    · exact h
  have hmax : l.length + news.length ≤ maxLen := by simp only [maxLen]; omega
  have hblk : ∀ k, v.ownBlock = some k → base ≤ k := fun k hk => (hown.lt k hk).1
  by_cases hn0 : news.length = 0
  · have hnn : news = [] := List.eq_nil_of_length_eq_zero hn0
    subst hnn
    rw [List.append_nil]
    cases ad with
    | none =>
      obtain ⟨_, rfl⟩ := hnil rfl
      exact ⟨v, w, run_append_owned_none (P := P) w base t ty e i i.size ht hi v l.length _ hown, hown, hown, World.grownBy.refl _ _, Below.refl _ _, .inl rfl⟩
    | some a =>
      obtain ⟨v', w', hr, h2, h3, h4, h5⟩ := run_append_own_at (P := P) w base t ty e i z i.size i.bytes ht hi hz rfl rfl hzs hsz v l.length _ hown a 0 c [] (by simp) (by simp) (by simp) (by omega) (by omega) hbase
      simp only [Nat.add_zero, List.append_nil] at h2
      have hv : v' = v ∧ w' = w ∨ OwnL base e i.size enc w' v l := by
        rcases hown.2 with ⟨rfl, h0⟩ | ⟨g, cap, cur, rfl, hbg, hg, hnc, hcm, hcs, htake⟩
        · right
          have hl : l = [] := List.eq_nil_of_length_eq_zero h0
          subst hl
          exact OwnL.nil
        · right
          have hr2 := run_append_room (P := P) w t ty e i ht hi g l.length cap cur hg a 0 c [] (by simp) (by simp) (by simp) (by omega) (by rw [hcs]; simpa using Nat.mul_le_mul_right _ hnc)
          rw [hr] at hr2
          cases hr2
          exact h2
      refine ⟨v', w', hr, h2, ?_, h3, below_of_grown h3 hblk hbase, h5⟩
      rcases hv with ⟨rfl, rfl⟩ | h
      · exact hown
      · exact h
  · cases ad with
    | none => exact absurd (hnil rfl).1 (fun e => hn0 (by rw [e]; rfl))
    | some a =>
      have hb0 : ∃ b off, a = ⟨b, off, none⟩ := by
        obtain ⟨b, off, ha, _⟩ := hs 0 news[0] (by simp [Nat.pos_of_ne_zero hn0])
        cases ha
        exact ⟨b, off, rfl⟩
      obtain ⟨b, off, rfl⟩ := hb0
      have hnews := hs.cells h1 hsz
      have hnl : (news.flatMap fun x => (enc x).toList).length = news.length * i.size := flat_length h1 news
      obtain ⟨v', w', hr, h2, h3, h4, h5⟩ := run_append_own_at (P := P) w base t ty e i z i.size i.bytes ht hi hz rfl rfl hzs hsz v l.length _ hown ⟨b, off, none⟩ news.length c (news.flatMap fun x => (enc x).toList) hnl hnews (flat_one h1 news) hmax hbytes hbase
      have h2' : OwnL base e i.size enc w' v' (l ++ news) := by
        unfold OwnL
        rw [List.length_append, List.flatMap_append]
        exact h2
      refine ⟨v', w', hr, h2', ?_, h3, below_of_grown h3 hblk hbase, h5⟩
      rcases hown.2 with ⟨rfl, h0⟩ | ⟨g, cap, cur, rfl, hbg, hg, hnc, hcm, hcs, htake⟩
      · have hl : l = [] := List.eq_nil_of_length_eq_zero h0
        subst hl
        exact OwnL.nil
      · by_cases hroom : l.length + news.length ≤ cap
        · have hr2 := run_append_room (P := P) w t ty e i ht hi g l.length cap cur hg ⟨b, off, none⟩ news.length c _ hnl hnews (flat_one h1 news) hroom (by rw [hnl, hcs, ← Nat.add_mul]; exact Nat.mul_le_mul_right _ hroom)
          rw [hr] at hr2
          cases hr2
          refine ⟨flat_length h1 l, .inr ⟨g, cap, _, rfl, hbg, setRow_heap w g cur _ e _ hg, hnc, hcm, ?_, ?_⟩⟩
          · simp only [List.size_toArray, List.length_append, List.length_take, List.length_drop, Array.length_toList, hnl, hcs]
            have : l.length * i.size + news.length * i.size ≤ cap * i.size := by rw [← Nat.add_mul]; exact Nat.mul_le_mul_right _ hroom
            omega
          · rw [htake]
            simp only [List.append_assoc]
            rw [← flat_length h1 l]
            exact List.take_left
        · have holds : ∀ j u, (l.flatMap fun x => (enc x).toList)[j]? = some u → w.cell? ((⟨g, 0, none⟩ : Addr).add j) = some u := hown.cells (g := g) rfl
          have hr2 := run_append_grow (P := P) w t ty e i z ht hi hz ⟨g, 0, none⟩ l.length cap _ hown.1 holds ⟨b, off, none⟩ news.length c _ hnl hnews (by omega) (by omega) (growslice_fits (by omega) hbytes)
          rw [hr] at hr2
          cases hr2
          exact (OwnL.drew hown).alloc _
theorem run_app_str (he : elemB P t e 1 1 = true) {u : TypeId} (hu : P.underlying u = some .string) (hz0 : (P.info? e).bind (·.zero) = some (.int .u8 0)) (ty : TypeId) {l : List UInt8} (hown : OwnL base e 1 (fun b => #[encByte b]) w v l) (s : ByteArray)
    (hlen : l.length + s.size ≤ 1099511627776) (hbase : base ≤ w.heap.size) :
    ∃ v' w', (Builtin.append_ #[t, u] ty #[v, .string s]).run P w = .ok v' w' ∧ Appended base e 1 (fun b => #[encByte b]) w v l (l ++ s.data.toList) v' w' := by
  obtain ⟨i, z, ht, hi, hz, hs1, hby2, hzs, hsz⟩ := elem_parts he
  have hz1 : i.zero = some (.int .u8 0) := by simpa [hi] using hz0
  have hE : Enc1 1 (fun b => #[encByte b]) := fun x => ⟨rfl, fun u hu => by simp at hu; subst hu; rfl⟩
  have hmax : l.length + s.size ≤ maxLen := by simp only [maxLen]; omega
  have hblk : ∀ k, v.ownBlock = some k → base ≤ k := fun k hk => (hown.lt k hk).1
  obtain ⟨v', w', hr, h2, h3, h4⟩ := Lib.run_append_own_string (P := P) w base t u ty e i ht hu hi hz1 hs1 hby2 v l.length _ hown s hmax (by omega) hbase
  have hsl : s.data.toList.length = s.size := by simp
  have hcs2 : Lib.strCells s = s.data.toList.flatMap fun b => (#[encByte b] : Array Value).toList := by
    unfold Lib.strCells
    induction s.data.toList with
    | nil => rfl
    | cons b l ih => simp only [List.map_cons, List.flatMap_cons, ih]; rfl
  have h2' : OwnL base e 1 (fun b => #[encByte b]) w' v' (l ++ s.data.toList) := by
    unfold OwnL
    rw [List.length_append, List.flatMap_append, hsl, ← hcs2]
    exact h2
  have hfl : (l.flatMap fun b => (#[encByte b] : Array Value).toList).length = l.length := by rw [flat_length hE]; omega
  refine ⟨v', w', hr, h2', ?_, h3, below_of_grown h3 hblk hbase, ?_⟩
  · rcases hown.2 with ⟨rfl, h0⟩ | ⟨g, cap, cur, rfl, hbg, hg, hnc, hcm, hcs, htake⟩
    · have hl : l = [] := List.eq_nil_of_length_eq_zero h0
      subst hl
      exact OwnL.nil
    · by_cases hroom : l.length + s.size ≤ cap
      · have hcs' : cur.size = cap := by simpa using hcs
        have hr2 := Lib.run_append_room_string (P := P) w t u ty e i ht hu hi hs1 g l.length cap cur hg s hroom (by omega)
        rw [hr] at hr2
        cases hr2
        refine ⟨by rw [hfl]; omega, .inr ⟨g, cap, _, rfl, hbg, setRow_heap w g cur _ e _ hg, hnc, hcm, ?_, ?_⟩⟩
        · simp only [List.size_toArray, List.length_append, List.length_take, List.length_drop, Array.length_toList, Lib.strCells_length]
          omega
        · have ht' : cur.toList.take l.length = (l.flatMap fun b => (#[encByte b] : Array Value).toList) := by simpa using htake
          rw [ht', List.append_assoc]
          conv => lhs; arg 1; rw [Nat.mul_one, ← hfl]
          exact List.take_left
      · have holds : ∀ j u, (l.flatMap fun b => (#[encByte b] : Array Value).toList)[j]? = some u → w.cell? ((⟨g, 0, none⟩ : Addr).add j) = some u := hown.cells (g := g) rfl
        have hr2 := Lib.run_append_grow_string (P := P) w t u ty e i _ ht hu hi hz1 ⟨g, 0, none⟩ l.length cap _ (by rw [hs1]; exact hown.1) holds s (by omega) (by omega) (by rw [hby2]; exact growslice_fits (by omega) (by omega))
        rw [hr] at hr2
        cases hr2
        exact (OwnL.drew hown).alloc _
  · rcases hown.2 with ⟨rfl, h0⟩ | ⟨g, cap, cur, rfl, hbg, hg, hnc, hcm, hcs, htake⟩
    · have hl : l = [] := List.eq_nil_of_length_eq_zero h0
      subst hl
      by_cases hm : s.size = 0
      · left; rw [h4.2 ⟨rfl, hm⟩]
      · have hr2 := run_append_nil_string (P := P) w t u ty e i (.int .u8 0) ht hu hi hz1 s (by omega) (by omega) (by rw [hby2]; omega)
        rw [hr] at hr2
        cases hr2
        right; rfl
    · by_cases hroom : l.length + s.size ≤ cap
      · have hcs' : cur.size = cap := by simpa using hcs
        have hr2 := Lib.run_append_room_string (P := P) w t u ty e i ht hu hi hs1 g l.length cap cur hg s hroom (by omega)
        rw [hr] at hr2
        cases hr2
        left; rfl
      · have holds : ∀ j u, (l.flatMap fun b => (#[encByte b] : Array Value).toList)[j]? = some u → w.cell? ((⟨g, 0, none⟩ : Addr).add j) = some u := hown.cells (g := g) rfl
        have hr2 := Lib.run_append_grow_string (P := P) w t u ty e i _ ht hu hi hz1 ⟨g, 0, none⟩ l.length cap _ (by rw [hs1]; exact hown.1) holds s (by omega) (by omega) (by rw [hby2]; exact growslice_fits (by omega) (by omega))
        rw [hr] at hr2
        cases hr2
        right; rfl

/-! The same at the operation: in a plain region, and at a step of a region that draws. -/
theorem wp_app {o : Oper} {a : Act} {K : Act → World → Prop} {Q : Exit → Act → World → Prop} (s x : Operand) (ho : o.op = .call { callee := .builtin .append, args := #[s, x], argTypes := #[t, t] })
    (he : elemB P t e size bytes = true) (h1 : Enc1 size enc) (hv : a.eval s = v) (hown : OwnL base e size enc w v l) {ad : Option Addr} {m c : Nat} (hx : a.eval x = .slice ad m c) (hm : m = news.length) (hs : SlR size enc w ad news) (hnil : ad = none → news = [] ∧ c = 0)
    (hlen : l.length + news.length ≤ 1099511627776) (hby : bytes ≤ 128 ∨ (l.length + news.length) * bytes ≤ 140737488355328) (hbase : base ≤ w.heap.size)
    (h : ∀ v' w', Appended base e size enc w v l (l ++ news) v' w' → K (a.put o.dst v') w') : o.wp P a w K Q := by
  subst hm
  obtain ⟨v', w', hr, h2⟩ := run_app (P := P) he h1 o.type hown hs hnil hlen hby hbase
  unfold Oper.wp execOp
  simp only [ho, resolve, invoke, builtin, Sem.run_bind, Sem.run_pure, Result.andThen_ok, List.map_toArray, List.map_cons, List.map_nil, hv, hx, hr]
  exact h v' w' h2
theorem wp_app_str {o : Oper} {a : Act} {K : Act → World → Prop} {Q : Exit → Act → World → Prop} (s x : Operand) {u : TypeId} (ho : o.op = .call { callee := .builtin .append, args := #[s, x], argTypes := #[t, u] })
    (he : elemB P t e 1 1 = true) (hu : P.underlying u = some .string) (hz0 : (P.info? e).bind (·.zero) = some (.int .u8 0)) (hv : a.eval s = v) {l : List UInt8} (hown : OwnL base e 1 (fun b => #[encByte b]) w v l) {d : ByteArray} (hx : a.eval x = .string d)
    (hlen : l.length + d.size ≤ 1099511627776) (hbase : base ≤ w.heap.size)
    (h : ∀ v' w', Appended base e 1 (fun b => #[encByte b]) w v l (l ++ d.data.toList) v' w' → K (a.put o.dst v') w') : o.wp P a w K Q := by
  obtain ⟨v', w', hr, h2⟩ := run_app_str (P := P) he hu hz0 o.type hown d hlen hbase
  unfold Oper.wp execOp
  simp only [ho, resolve, invoke, builtin, Sem.run_bind, Sem.run_pure, Result.andThen_ok, List.map_toArray, List.map_cons, List.map_nil, hv, hx, hr]
  exact h v' w' h2
theorem wpList_app {ops : Array Oper} {rest : List Oper} {o : Oper} {a : Act} {Q : Exit → Act → World → Prop} (hgd : o.guard = none) (s x : Operand) (ho : o.op = .call { callee := .builtin .append, args := #[s, x], argTypes := #[t, t] })
    (he : elemB P t e size bytes = true) (h1 : Enc1 size enc) (hv : a.eval s = v) (hown : OwnL base e size enc w v l) {ad : Option Addr} {m c : Nat} (hx : a.eval x = .slice ad m c) (hm : m = news.length) (hs : SlR size enc w ad news) (hnil : ad = none → news = [] ∧ c = 0)
    (hlen : l.length + news.length ≤ 1099511627776) (hby : bytes ≤ 128 ∨ (l.length + news.length) * bytes ≤ 140737488355328) (hbase : base ≤ w.heap.size)
    (h : ∀ v' w', Appended base e size enc w v l (l ++ news) v' w' → wpList P ops Q rest (a.put o.dst v') w') : wpList P ops Q (o :: rest) a w :=
  wpList_plain hgd fun _ hK => wp_app s x ho he h1 hv hown hx hm hs hnil hlen hby hbase fun v' w' h2 => hK _ _ (h v' w' h2)
theorem wpList_app_str {ops : Array Oper} {rest : List Oper} {o : Oper} {a : Act} {Q : Exit → Act → World → Prop} (hgd : o.guard = none) (s x : Operand) {u : TypeId} (ho : o.op = .call { callee := .builtin .append, args := #[s, x], argTypes := #[t, u] })
    (he : elemB P t e 1 1 = true) (hu : P.underlying u = some .string) (hz0 : (P.info? e).bind (·.zero) = some (.int .u8 0)) (hv : a.eval s = v) {l : List UInt8} (hown : OwnL base e 1 (fun b => #[encByte b]) w v l) {d : ByteArray} (hx : a.eval x = .string d)
    (hlen : l.length + d.size ≤ 1099511627776) (hbase : base ≤ w.heap.size)
    (h : ∀ v' w', Appended base e 1 (fun b => #[encByte b]) w v l (l ++ d.data.toList) v' w' → wpList P ops Q rest (a.put o.dst v') w') : wpList P ops Q (o :: rest) a w :=
  wpList_plain hgd fun _ hK => wp_app_str s x ho he hu hz0 hv hown hx hlen hbase fun v' w' h2 => hK _ _ (h v' w' h2)
theorem step_app {ops : Array Oper} {E : Prop} {o : Oper} {a : Act} {K : Act → World → Prop} {Q : Exit → Act → World → Prop} (hgd : o.guard = none) (s x : Operand) (ho : o.op = .call { callee := .builtin .append, args := #[s, x], argTypes := #[t, t] })
    (he : elemB P t e size bytes = true) (h1 : Enc1 size enc) (hv : a.eval s = v) (hown : OwnL base e size enc w v l) {ad : Option Addr} {m c : Nat} (hx : a.eval x = .slice ad m c) (hm : m = news.length) (hs : SlR size enc w ad news) (hnil : ad = none → news = [] ∧ c = 0)
    (hlen : l.length + news.length ≤ 1099511627776) (hby : bytes ≤ 128 ∨ (l.length + news.length) * bytes ≤ 140737488355328) (hbase : base ≤ w.heap.size)
    (h : ∀ v' w', Appended base e size enc w v l (l ++ news) v' w' → K (a.put o.dst v') w') : if Region.wanted o (yielded ops a.tmps) = true then Oper.wp P o a w K Q else E := by
  have hw : Region.wanted o (yielded ops a.tmps) = true := by simp [Region.wanted, hgd]
  rw [if_pos hw]
  exact wp_app s x ho he h1 hv hown hx hm hs hnil hlen hby hbase h
theorem step_app_str {ops : Array Oper} {E : Prop} {o : Oper} {a : Act} {K : Act → World → Prop} {Q : Exit → Act → World → Prop} (hgd : o.guard = none) (s x : Operand) {u : TypeId} (ho : o.op = .call { callee := .builtin .append, args := #[s, x], argTypes := #[t, u] })
    (he : elemB P t e 1 1 = true) (hu : P.underlying u = some .string) (hz0 : (P.info? e).bind (·.zero) = some (.int .u8 0)) (hv : a.eval s = v) {l : List UInt8} (hown : OwnL base e 1 (fun b => #[encByte b]) w v l) {d : ByteArray} (hx : a.eval x = .string d)
    (hlen : l.length + d.size ≤ 1099511627776) (hbase : base ≤ w.heap.size)
    (h : ∀ v' w', Appended base e 1 (fun b => #[encByte b]) w v l (l ++ d.data.toList) v' w' → K (a.put o.dst v') w') : if Region.wanted o (yielded ops a.tmps) = true then Oper.wp P o a w K Q else E := by
  have hw : Region.wanted o (yielded ops a.tmps) = true := by simp [Region.wanted, hgd]
  rw [if_pos hw]
  exact wp_app_str s x ho he hu hz0 hv hown hx hlen hbase h
end
end Go.Proofs.YtoajianddmobaaaDoor
