/- A REGION THAT DRAWS ITS ORDER, walked once in the order of the text: each operation comes to a value that is known ahead, or of which a fact is known that lasts, in whatever world the region's earlier operations may have left. -/
import Derived.Test.YtoajianddmobaaaDoorMem
import Derived.Deep.RegionHeld3
namespace Go.Proofs.YtoajianddmobaaaDoor
set_option linter.unusedSimpArgs false
set_option linter.unusedVariables false

/-- What an operation comes to: it is passed over; a value; some value of which R holds. -/
inductive Res where
  | skip
  | det (c : Value)
  | und (R : Value → World → Prop)
def Res.Good : Res → Value → World → Prop
  | .skip, v, _ => v = undef
  | .det c, v, _ => v = c
  | .und R, v, w => R v w
def Res.compat : Res → Value → Prop
  | .skip, v => v = undef
  | .det c, v => v = c
  | .und _, _ => True
theorem Res.Good.compat {r : Res} {v : Value} {w : World} (h : r.Good v w) : r.compat v := by cases r <;> first | exact h | trivial

def dirs (o : Oper) : List Nat := (o.after.toList.filter (Region.binds .any)).map (·.on)
def plainOp : Op → Bool
  | .defer _ => false
  | .select _ _ => false
  | _ => true
def okOp (ops : Array Oper) (sz i : Nat) (o : Oper) : Bool :=
  (dirs o).all (fun j => decide (j < i)) && plainOp o.op &&
  ((o.looksAt ops).all fun t => (List.range ops.size).all fun j => match ops[j]? with
     | some oj => !(oj.dst == some t) || j == i || (dirs o).contains j || (dirs oj).contains i
     | none => true) &&
  (match o.dst with
   | none => true
   | some d => decide (d < sz) && (List.range ops.size).all fun j => match ops[j]? with
     | some oj => j == i || !(oj.dst == some d)
     | none => true)
def okOrder (ops : Array Oper) (sz : Nat) : Bool := (List.range ops.size).all fun i => match ops[i]? with | some o => okOp ops sz i o | none => false

theorem ok_spec {ops : Array Oper} {sz i : Nat} {o : Oper} (h : okOrder ops sz = true) (ho : ops[i]? = some o) :
    (∀ j ∈ dirs o, j < i) ∧ plainOp o.op = true ∧ (∀ t ∈ o.looksAt ops, ∀ j oj, ops[j]? = some oj → oj.dst = some t → j = i ∨ j ∈ dirs o ∨ i ∈ dirs oj) ∧
    (∀ d, o.dst = some d → d < sz ∧ ∀ j oj, ops[j]? = some oj → oj.dst = some d → j = i) := by
  have hi : i < ops.size := (Array.getElem?_eq_some_iff.1 ho).1
  have h1 := List.all_eq_true.1 h i (List.mem_range.2 hi)
  simp only [ho, okOp, Bool.and_eq_true] at h1
  obtain ⟨⟨⟨ha, hb⟩, hc⟩, hd⟩ := h1
  refine ⟨fun j hj => by simpa using List.all_eq_true.1 ha j hj, hb, fun t ht j oj hj hdj => ?_, fun d hdd => ?_⟩
  · have := List.all_eq_true.1 (List.all_eq_true.1 hc t ht) j (List.mem_range.2 (Array.getElem?_eq_some_iff.1 hj).1)
    simp only [hj, hdj, beq_self_eq_true, Bool.not_true, Bool.false_or, Bool.or_eq_true, beq_iff_eq, List.contains_iff_mem] at this
    rcases this with (h | h) | h
    · exact .inl h
    · exact .inr (.inl h)
    · exact .inr (.inr h)
  · simp only [hdd, Bool.and_eq_true, decide_eq_true_eq] at hd
    refine ⟨hd.1, fun j oj hj hdj => ?_⟩
    have := List.all_eq_true.1 hd.2 j (List.mem_range.2 (Array.getElem?_eq_some_iff.1 hj).1)
    simpa [hj, hdj] using this

/-! ### The walk in the order of the text -/
abbrev Ctx := List (Option Tmp × (World → Prop))
def deps (ops : Array Oper) (o : Oper) (ctx : Ctx) (w : World) : Prop := ∀ p ∈ ctx, ∀ t, p.1 = some t → t ∈ o.looksAt ops → p.2 w
section
variable (P : Program) (ops : Array Oper) (Q : Exit → Act → World → Prop) (S : World → Prop) (T : World → World → Prop)
def Obl (o : Oper) (r : Res) (dep : World → Prop) (a : Act) : Prop :=
  ∀ (K : Act → World → Prop) (w : World), S w → dep w → (∀ v w', r.Good v w' → T w w' → K (a.put o.dst v) w') → o.wp P a w K (NoPanic Q)

def TextW : List Oper → List Res → Ctx → Act → (Act → World → Prop) → Prop
  | [], _, ctx, a, F => ∀ w, S w → (∀ p ∈ ctx, p.2 w) → F a w
  | o :: l, .skip :: rs, ctx, a, F => Region.wanted o (yielded ops a.tmps) = false ∧ TextW l rs ctx (a.put o.dst undef) F
  | o :: l, .det c :: rs, ctx, a, F => Region.wanted o (yielded ops a.tmps) = true ∧ Obl P Q S T o (.det c) (deps ops o ctx) a ∧ TextW l rs ctx (a.put o.dst c) F
  | o :: l, .und R :: rs, ctx, a, F => Region.wanted o (yielded ops a.tmps) = true ∧ Obl P Q S T o (.und R) (deps ops o ctx) a ∧ ∀ v, TextW l rs ((o.dst, R v) :: ctx) (a.put o.dst v) F
  | _ :: _, [], _, _, _ => False
end

def putsFrom (val : Nat → Value) : Nat → List Oper → Act → Act
  | _, [], a => a
  | k, o :: l, a => putsFrom val (k + 1) l (a.put o.dst (val k))
def ctxFrom (val : Nat → Value) : Nat → List Oper → List Res → Ctx → Ctx
  | k, o :: l, .und R :: rs, ctx => ctxFrom val (k + 1) l rs ((o.dst, R (val k)) :: ctx)
  | k, _ :: l, _ :: rs, ctx => ctxFrom val (k + 1) l rs ctx
  | _, _, _, ctx => ctx

section
variable {P : Program} {ops : Array Oper} {Q : Exit → Act → World → Prop} {S : World → Prop} {T : World → World → Prop}

theorem put_slot (a : Act) (d : Option Tmp) (v : Value) (t : Tmp) (h : d ≠ some t) : (a.put d v).tmps[t]? = a.tmps[t]? := by
  cases d with
  | none => rfl
  | some d => simp only [Act.put]; rw [Array.getElem?_setIfInBounds_ne (fun e => h (by rw [e]))]
theorem put_same (a : Act) (d : Tmp) (v : Value) (h : d < a.tmps.size) : (a.put (some d) v).tmps[d]? = some v := by
  simp [Act.put, h]
theorem put_size (a : Act) (d : Option Tmp) (v : Value) : (a.put d v).tmps.size = a.tmps.size := by cases d <;> simp [Act.put]
theorem put_defers (a : Act) (d : Option Tmp) (v : Value) : (a.put d v).defers = a.defers := by cases d <;> rfl

theorem putsFrom_size (val : Nat → Value) : ∀ (l : List Oper) (k : Nat) (a : Act), (putsFrom val k l a).tmps.size = a.tmps.size
  | [], _, _ => rfl
  | o :: l, k, a => by rw [putsFrom, putsFrom_size val l, put_size]
theorem putsFrom_defers (val : Nat → Value) : ∀ (l : List Oper) (k : Nat) (a : Act), (putsFrom val k l a).defers = a.defers
  | [], _, _ => rfl
  | o :: l, k, a => by rw [putsFrom, putsFrom_defers val l, put_defers]
theorem putsFrom_none (val : Nat → Value) (t : Tmp) : ∀ (l : List Oper) (k : Nat) (a : Act), (∀ o ∈ l, o.dst ≠ some t) → (putsFrom val k l a).tmps[t]? = a.tmps[t]?
  | [], _, _, _ => rfl
  | o :: l, k, a, h => by rw [putsFrom, putsFrom_none val t l _ _ (fun o ho => h o (by simp [ho])), put_slot _ _ _ _ (h o (by simp))]
theorem putsFrom_some (val : Nat → Value) (t : Tmp) : ∀ (l : List Oper) (k : Nat) (a : Act) (j : Nat) (o : Oper), l[j]? = some o → o.dst = some t → t < a.tmps.size →
    (∀ j' o', l[j']? = some o' → o'.dst = some t → j' = j) → (putsFrom val k l a).tmps[t]? = some (val (k + j))
  | [], _, _, _, _, h, _, _, _ => by simp at h
  | o :: l, k, a, 0, o', h, hd, ht, hu => by
    simp only [List.getElem?_cons_zero, Option.some.injEq] at h
    subst h
    rw [putsFrom, putsFrom_none val t l _ _ (fun o2 h2 hd2 => by
      obtain ⟨j2, hj2⟩ := List.getElem?_of_mem h2
      have := hu (j2 + 1) o2 (by simpa using hj2) hd2
      omega), hd, put_same _ _ _ ht]
    rfl
  | o :: l, k, a, j + 1, o', h, hd, ht, hu => by
    rw [putsFrom, putsFrom_some val t l (k + 1) _ j o' (by simpa using h) hd (by rw [put_size]; exact ht) (fun j' o2 hj' hd' => by
      have := hu (j' + 1) o2 (by simpa using hj') hd'
      omega)]
    congr 2
    omega

theorem ctxFrom_mem (val : Nat → Value) : ∀ (l : List Oper) (rs : List Res) (k : Nat) (ctx : Ctx) (p : Option Tmp × (World → Prop)), p ∈ ctxFrom val k l rs ctx →
    p ∈ ctx ∨ ∃ (j : Nat) (o : Oper) (R : Value → World → Prop), l[j]? = some o ∧ rs[j]? = some (Res.und R) ∧ p = (o.dst, R (val (k + j)))
  | [], rs, k, ctx, p, h => by cases rs <;> exact .inl (by simpa [ctxFrom] using h)
  | o :: l, [], k, ctx, p, h => .inl (by simpa [ctxFrom] using h)
  | o :: l, r :: rs, k, ctx, p, h => by
    cases r with
    | und R =>
      rcases ctxFrom_mem val l rs (k + 1) _ p h with h | ⟨j, o', R', h1, h2, h3⟩
      · rcases List.mem_cons.1 h with h | h
        · exact .inr ⟨0, o, R, rfl, rfl, h⟩
        · exact .inl h
      · exact .inr ⟨j + 1, o', R', by simpa using h1, by simpa using h2, by rw [h3, show k + 1 + j = k + (j + 1) by omega]⟩
    | skip =>
      rcases ctxFrom_mem val l rs (k + 1) _ p h with h | ⟨j, o', R', h1, h2, h3⟩
      · exact .inl h
      · exact .inr ⟨j + 1, o', R', by simpa using h1, by simpa using h2, by rw [h3, show k + 1 + j = k + (j + 1) by omega]⟩
    | det c =>
      rcases ctxFrom_mem val l rs (k + 1) _ p h with h | ⟨j, o', R', h1, h2, h3⟩
      · exact .inl h
      · exact .inr ⟨j + 1, o', R', by simpa using h1, by simpa using h2, by rw [h3, show k + 1 + j = k + (j + 1) by omega]⟩

/-- The walk's duty at operation number 'i'. -/
theorem textw_at (val : Nat → Value) : ∀ (l : List Oper) (rs : List Res) (ctx : Ctx) (k : Nat) (a : Act) (F : Act → World → Prop), TextW P ops Q S T l rs ctx a F →
    ∀ (i : Nat) (o : Oper), l[i]? = some o → (∀ j r, j < i → rs[j]? = some r → r.compat (val (k + j))) →
    ∃ r, rs[i]? = some r ∧ (match r with
      | .skip => Region.wanted o (yielded ops (putsFrom val k (l.take i) a).tmps) = false
      | r => Region.wanted o (yielded ops (putsFrom val k (l.take i) a).tmps) = true ∧ Obl P Q S T o r (deps ops o (ctxFrom val k (l.take i) rs ctx)) (putsFrom val k (l.take i) a))
  | [], _, _, _, _, _, _, i, o, hi, _ => by simp at hi
  | o :: l, [], _, _, _, _, h, _, _, _, _ => by simp [TextW] at h
  | o :: l, r :: rs, ctx, k, a, F, h, 0, o', hi, hc => by
    simp only [List.getElem?_cons_zero, Option.some.injEq] at hi
    subst hi
    refine ⟨r, rfl, ?_⟩
    cases r with
    | skip => simp only [TextW] at h; exact h.1
    | det c => simp only [TextW] at h; exact ⟨h.1, h.2.1⟩
    | und R => simp only [TextW] at h; exact ⟨h.1, h.2.1⟩
  | o :: l, r :: rs, ctx, k, a, F, h, i + 1, o', hi, hc => by
    have hc0 := hc 0 r (by omega) rfl
    have hcs : ∀ j r', j < i → rs[j]? = some r' → r'.compat (val (k + 1 + j)) := fun j r' hj hr => by
      have := hc (j + 1) r' (by omega) (by simpa using hr)
      rwa [show k + (j + 1) = k + 1 + j by omega] at this
    have hi' : l[i]? = some o' := by simpa using hi
    simp only [List.take_succ_cons, putsFrom, List.getElem?_cons_succ]
    cases r with
    | skip =>
      simp only [TextW] at h
      have hv : val k = undef := hc0
      rw [hv]
      obtain ⟨r', h1, h2⟩ := textw_at val l rs ctx (k + 1) _ F h.2 i o' hi' hcs
      exact ⟨r', h1, h2⟩
    | det c =>
      simp only [TextW] at h
      have hv : val k = c := hc0
      rw [hv]
      obtain ⟨r', h1, h2⟩ := textw_at val l rs ctx (k + 1) _ F h.2.2 i o' hi' hcs
      exact ⟨r', h1, h2⟩
    | und R =>
      simp only [TextW] at h
      obtain ⟨r', h1, h2⟩ := textw_at val l rs _ (k + 1) _ F (h.2.2 (val k)) i o' hi' hcs
      exact ⟨r', h1, h2⟩

theorem textw_end (val : Nat → Value) : ∀ (l : List Oper) (rs : List Res) (ctx : Ctx) (k : Nat) (a : Act) (F : Act → World → Prop), TextW P ops Q S T l rs ctx a F →
    (∀ j r, j < l.length → rs[j]? = some r → r.compat (val (k + j))) → ∀ w, S w → (∀ p ∈ ctxFrom val k l rs ctx, p.2 w) → F (putsFrom val k l a) w
  | [], rs, ctx, k, a, F, h, hc, w, hS, hp => by
    simp only [TextW] at h
    exact h w hS (fun p hp' => hp p (by cases rs <;> simpa [ctxFrom] using hp'))
  | o :: l, [], _, _, _, _, h, _, _, _, _ => by simp [TextW] at h
  | o :: l, r :: rs, ctx, k, a, F, h, hc, w, hS, hp => by
    have hc0 := hc 0 r (by simp) rfl
    have hcs : ∀ j r', j < l.length → rs[j]? = some r' → r'.compat (val (k + 1 + j)) := fun j r' hj hr => by
      have := hc (j + 1) r' (by simpa using hj) (by simpa using hr)
      rwa [show k + (j + 1) = k + 1 + j by omega] at this
    rw [putsFrom]
    cases r with
    | skip =>
      simp only [TextW] at h
      have hv : val k = undef := hc0
      rw [hv]
      exact textw_end val l rs ctx (k + 1) _ F h.2 hcs w hS hp
    | det c =>
      simp only [TextW] at h
      have hv : val k = c := hc0
      rw [hv]
      exact textw_end val l rs ctx (k + 1) _ F h.2.2 hcs w hS hp
    | und R =>
      simp only [TextW] at h
      exact textw_end val l rs _ (k + 1) _ F (h.2.2 (val k)) hcs w hS hp

/-! ### Any order -/
theorem wp_transfer {o : Oper} {a b : Act} {w : World} {K K2 : Act → World → Prop} (he : execOp a.eval o = execOp b.eval o)
    (hd : ∀ d w', ¬ K (Act.put { b with defers := d :: b.defers } o.dst undef) w') (hK : ∀ v w', K (b.put o.dst v) w' → K2 (a.put o.dst v) w') (h : o.wp P b w K (NoPanic Q)) : o.wp P a w K2 (NoPanic Q) := by
  unfold Oper.wp at *
  rw [he]
  generalize (execOp b.eval o).run P w = r at *
  cases r with
  | ok n w' =>
    cases n <;> simp only [Oper.upon] at h ⊢
    case value v => exact hK _ _ h
    case skip => exact hK _ _ h
    case defer d => exact (hd _ _ h).elim
    case enter f args =>
      refine Calls.mono h fun e w'' hh => ?_
      cases e with
      | returned v => exact hK _ _ hh
      | panicked c => exact (hh : False).elim
      | outgrown => exact hh
    case row r args => exact Rows.mono h fun v w'' hh => hK _ _ hh
  | halt x w' =>
    cases x <;> simp only [Oper.upon] at h ⊢
    case panic u => exact (h : False).elim

structure Inv (ops : Array Oper) (S : World → Prop) (rs : List Res) (a0 : Act) (L : Array Bool) (a : Act) (w : World) : Prop where
  size : L.size = ops.size
  closed : ∀ j o, L.getD j false = true → ops[j]? = some o → ∀ e ∈ dirs o, L.getD e false = true
  holds : S w
  defers : a.defers = a0.defers
  slots : a.tmps.size = a0.tmps.size
  written : ∀ j o r, L.getD j false = true → ops[j]? = some o → rs[j]? = some r → ∃ v, r.Good v w ∧ ∀ t, o.dst = some t → a.tmps[t]? = some v
  rest : ∀ t, (∀ j o, L.getD j false = true → ops[j]? = some o → o.dst ≠ some t) → a.tmps[t]? = a0.tmps[t]?

theorem getD_set (L : Array Bool) (i j : Nat) (hi : i < L.size) : (L.setIfInBounds i true).getD j false = if j = i then true else L.getD j false := by
  by_cases h : j = i
  · subst h; simp [hi]
  · simp only [Array.getD_eq_getD_getElem?, if_neg h]
    rw [Array.getElem?_setIfInBounds_ne (Ne.symm h)]

theorem ready_spec {L : Array Bool} {i : Nat} (h : i ∈ Region.ready .any ops L) : ∃ o, ops[i]? = some o ∧ L.getD i true = false ∧ ∀ e ∈ dirs o, L.getD e false = true := by
  unfold Region.ready at h
  obtain ⟨h1, h2⟩ := List.mem_filter.1 h
  have hi := List.mem_range.1 h1
  have ho : ops[i]? = some ops[i] := Array.getElem?_eq_getElem hi
  simp only [ho, Option.map_some, Option.getD_some, Bool.and_eq_true, Bool.not_eq_true'] at h2
  refine ⟨_, ho, h2.1, fun e he => ?_⟩
  obtain ⟨e', he', rfl⟩ := List.mem_map.1 he
  obtain ⟨h3, h4⟩ := List.mem_filter.1 he'
  have := Array.all_eq_true'.1 h2.2 e' (by simpa using h3)
  simpa [h4] using this

theorem ready_of {L : Array Bool} {i : Nat} {o : Oper} (ho : ops[i]? = some o) (hu : L.getD i true = false) (hd : ∀ e ∈ dirs o, L.getD e false = true) : i ∈ Region.ready .any ops L := by
  unfold Region.ready
  refine List.mem_filter.2 ⟨List.mem_range.2 (Array.getElem?_eq_some_iff.1 ho).1, ?_⟩
  simp only [ho, Option.map_some, Option.getD_some, hu, Bool.not_false, Bool.true_and]
  refine Array.all_eq_true'.2 fun e he => ?_
  by_cases hb : Region.binds .any e = true
  · have := hd e.on (List.mem_map.2 ⟨e, List.mem_filter.2 ⟨by simpa using he, hb⟩, rfl⟩)
    simp [this]
  · simp [hb]

theorem getD_tf {L : Array Bool} {j : Nat} (h : j < L.size) : L.getD j true = L.getD j false := by simp [h]

variable {rs : List Res} {a0 : Act} {sz : Nat}

theorem inv_val {L : Array Bool} {a : Act} {w : World} (h : Inv ops S rs a0 L a w) :
    ∃ val : Nat → Value, ∀ j r, rs[j]? = some r → r.compat (val j) ∧ (L.getD j false = true → ∀ o, ops[j]? = some o → r.Good (val j) w ∧ ∀ t, o.dst = some t → a.tmps[t]? = some (val j)) := by
  have : ∀ j, ∃ v, ∀ r, rs[j]? = some r → r.compat v ∧ (L.getD j false = true → ∀ o, ops[j]? = some o → r.Good v w ∧ ∀ t, o.dst = some t → a.tmps[t]? = some v) := by
    intro j
    cases hr : rs[j]? with
    | none => exact ⟨undef, fun r h => by cases h⟩
    | some r =>
      by_cases hl : L.getD j false = true
      · cases ho : ops[j]? with
        | none =>
          cases r with
          | skip => exact ⟨undef, fun r h => by cases h; exact ⟨rfl, fun _ o h => by cases h⟩⟩
          | det c => exact ⟨c, fun r h => by cases h; exact ⟨rfl, fun _ o h => by cases h⟩⟩
          | und R => exact ⟨undef, fun r h => by cases h; exact ⟨trivial, fun _ o h => by cases h⟩⟩
        | some o =>
          obtain ⟨v, h1, h2⟩ := h.written j o r hl ho hr
          exact ⟨v, fun r h => by cases h; exact ⟨h1.compat, fun _ o h => by cases h; exact ⟨h1, h2⟩⟩⟩
      · cases r with
        | skip => exact ⟨undef, fun r h => by cases h; exact ⟨rfl, fun h => (hl h).elim⟩⟩
        | det c => exact ⟨c, fun r h => by cases h; exact ⟨rfl, fun h => (hl h).elim⟩⟩
        | und R => exact ⟨undef, fun r h => by cases h; exact ⟨trivial, fun h => (hl h).elim⟩⟩
  exact ⟨fun j => Classical.choose (this j), fun j => Classical.choose_spec (this j)⟩

theorem step_inv (hok : okOrder ops sz = true) (hsz : a0.tmps.size = sz) (hT : ∀ w, T w w) (hS : ∀ w w', S w → T w w' → S w')
    (hR : ∀ r ∈ rs, ∀ v w w', r.Good v w → T w w' → r.Good v w') {F : Act → World → Prop} (ht : TextW P ops Q S T ops.toList rs [] a0 F)
    {L : Array Bool} {a : Act} {w : World} (h : Inv ops S rs a0 L a w) {i : Nat} (hi : i ∈ Region.ready .any ops L) :
    wpOp P ops (NoPanic Q) i (fun a' w' => Inv ops S rs a0 (L.setIfInBounds i true) a' w') a w := by
  obtain ⟨o, ho, hun, hdir⟩ := ready_spec hi
  have hil : i < ops.size := (Array.getElem?_eq_some_iff.1 ho).1
  have hiL : i < L.size := by rw [h.size]; exact hil
  have hunf : L.getD i false = false := by rw [← getD_tf hiL]; exact hun
  obtain ⟨ok1, ok2, ok3, ok4⟩ := ok_spec hok ho
  obtain ⟨val, hval⟩ := inv_val h
  obtain ⟨r, hr, hobl⟩ := textw_at val ops.toList rs [] 0 a0 F ht i o (by simpa using ho) (fun j r hj hr => by simpa using (hval j r hr).1)
  -- the two frames agree on what the operation looks at
  have hgl : ∀ j oj, ops[j]? = some oj → (ops.toList.take i)[j]? = if j < i then some oj else none := fun j oj hj => by
    rw [List.getElem?_take]
    split <;> simp_all
  have agree : ∀ t ∈ o.looksAt ops, a.tmps[t]? = (putsFrom val 0 (ops.toList.take i) a0).tmps[t]? := by
    intro t htl
    by_cases hw : ∃ (j : Nat) (oj : Oper), j < i ∧ ops[j]? = some oj ∧ oj.dst = some t
    · obtain ⟨j, oj, hji, hj, hdj⟩ := hw
      have hjd : j ∈ dirs o := by
        rcases ok3 t htl j oj hj hdj with e | e | e
        · omega
        · exact e
        · have := (ok_spec hok hj).1 i e
          omega
      have hjl := hdir j hjd
      obtain ⟨rj, hrj⟩ : ∃ rj, rs[j]? = some rj := by
        obtain ⟨rj, h1, _⟩ := textw_at val ops.toList rs [] 0 a0 F ht j oj (by simpa using hj) (fun j r _ hr => by simpa using (hval j r hr).1)
        exact ⟨rj, h1⟩
      rw [((hval j rj hrj).2 hjl oj hj).2 t hdj]
      have hu := (ok_spec hok hj).2.2.2 t hdj
      rw [putsFrom_some val t (ops.toList.take i) 0 a0 j oj (by rw [hgl j oj hj, if_pos hji]) hdj (by rw [hsz]; exact hu.1) (fun j' o' hj' hd' => by
        rw [List.getElem?_take] at hj'
        split at hj'
        · exact hu.2 j' o' (by simpa using hj') hd'
        · cases hj')]
      simp
    · rw [putsFrom_none val t _ 0 a0 (fun o' ho' hd' => by
        obtain ⟨j', hj'⟩ := List.getElem?_of_mem ho'
        rw [List.getElem?_take] at hj'
        split at hj'
        · rename_i hlt
          exact hw ⟨j', o', hlt, by simpa using hj', hd'⟩
        · cases hj')]
      refine h.rest t fun j oj hjl hj hdj => ?_
      rcases ok3 t htl j oj hj hdj with e | e | e
      · subst e; rw [hunf] at hjl; cases hjl
      · exact hw ⟨j, oj, ok1 j e, hj, hdj⟩
      · have := h.closed j oj hjl hj i e
        rw [hunf] at this; cases this
  have heval : execOp a.eval o = execOp (putsFrom val 0 (ops.toList.take i) a0).eval o := by
    refine execOp_congr o (fun cs b e => by rw [e] at ok2; cases ok2) fun x hx => ?_
    cases x with
    | tmp t =>
      have := agree t (List.mem_append_left _ (List.mem_filterMap.2 ⟨.tmp t, by simpa using hx, rfl⟩))
      simp only [Act.eval]
      simp [this]
    | _ => rfl
  have hwant : Region.wanted o (yielded ops a.tmps) = Region.wanted o (yielded ops (putsFrom val 0 (ops.toList.take i) a0).tmps) := by
    unfold Region.wanted
    cases hg : o.guard with
    | none => rfl
    | some gw =>
      obtain ⟨g, want⟩ := gw
      have : yielded ops a.tmps g = yielded ops (putsFrom val 0 (ops.toList.take i) a0).tmps g := by
        unfold yielded
        cases hgd : (ops[g]?).bind (·.dst) with
        | none => rfl
        | some t =>
          have := agree t (List.mem_append_right _ (by simp [hg, hgd]))
          simp [this]
      simp only [this]
  -- what one more operation does to the invariant
  have more : ∀ v w', r.Good v w' → T w w' → Inv ops S rs a0 (L.setIfInBounds i true) (a.put o.dst v) w' := by
    intro v w' hg hTw
    refine ⟨by simp [h.size], ?_, hS _ _ h.holds hTw, by rw [put_defers, h.defers], by rw [put_size, h.slots], ?_, ?_⟩
    · intro j oj hjl hj e he
      rw [getD_set _ _ _ hiL] at hjl ⊢
      split
      · rfl
      · by_cases hji : j = i
        · subst hji
          rw [ho] at hj
          cases hj
          exact hdir e he
        · rw [if_neg hji] at hjl
          exact h.closed j oj hjl hj e he
    · intro j oj rj hjl hj hrj
      rw [getD_set _ _ _ hiL] at hjl
      by_cases hji : j = i
      · subst hji
        rw [ho] at hj
        rw [hr] at hrj
        cases hj
        cases hrj
        refine ⟨v, hg, fun t hdt => ?_⟩
        rw [hdt]
        exact put_same a t v (by rw [h.slots, hsz]; exact (ok4 t hdt).1)
      · rw [if_neg hji] at hjl
        obtain ⟨u, hu1, hu2⟩ := h.written j oj rj hjl hj hrj
        refine ⟨u, hR rj (List.mem_of_getElem? hrj) _ _ _ hu1 hTw, fun t hdt => ?_⟩
        rw [put_slot _ _ _ _ (fun e => hji ((ok4 t e).2 j oj hj hdt)), hu2 t hdt]
    · intro t htw
      have h1 : o.dst ≠ some t := htw i o (by rw [getD_set _ _ _ hiL]; simp) ho
      rw [put_slot _ _ _ _ h1]
      refine h.rest t fun j oj hjl hj => htw j oj ?_ hj
      rw [getD_set _ _ _ hiL, hjl]
      simp
  unfold wpOp
  simp only [ho]
  have obl : ∀ (hne : Region.wanted o (yielded ops (putsFrom val 0 (ops.toList.take i) a0).tmps) = true ∧ Obl P Q S T o r (deps ops o (ctxFrom val 0 (ops.toList.take i) rs [])) (putsFrom val 0 (ops.toList.take i) a0)),
      if Region.wanted o (yielded ops a.tmps) = true then o.wp P a w (fun a' w' => Inv ops S rs a0 (L.setIfInBounds i true) a' w') (NoPanic Q) ∨ (o.asks P a w ∧ LetsOut (NoPanic Q)) else Inv ops S rs a0 (L.setIfInBounds i true) (a.put o.dst undef) w := by
    rintro ⟨h1, h2⟩
    rw [hwant, if_pos h1]
    left
    refine wp_transfer (K := fun a' w' => ∃ v, a' = (putsFrom val 0 (ops.toList.take i) a0).put o.dst v ∧ r.Good v w' ∧ T w w') heval ?_ ?_
      (h2 _ w h.holds ?_ (fun v w' hg ht => ⟨v, rfl, hg, ht⟩))
    · rintro d w' ⟨v, hv, _⟩
      have := congrArg (fun x => x.defers.length) hv
      simp [put_defers] at this
    · rintro v w' ⟨u, hu, hg, ht⟩
      have key : Inv ops S rs a0 (L.setIfInBounds i true) (a.put o.dst u) w' := more u w' hg ht
      cases hd : o.dst with
      | none =>
        rw [hd] at key
        exact key
      | some d =>
        have hlt : d < (putsFrom val 0 (ops.toList.take i) a0).tmps.size := by rw [putsFrom_size, hsz]; exact (ok4 d hd).1
        have e := congrArg (fun x => x.tmps[d]?) hu
        simp only [hd] at e
        rw [put_same _ _ _ hlt, put_same _ _ _ hlt] at e
        cases e
        rw [hd] at key
        exact key
    · intro p hp t hpt htl
      rcases ctxFrom_mem val _ _ _ _ p hp with hp | ⟨j, oj, R, hj, hrj, rfl⟩
      · cases hp
      · rw [List.getElem?_take] at hj
        split at hj
        · rename_i hji
          have hj' : ops[j]? = some oj := by simpa using hj
          have hjd : j ∈ dirs o := by
            rcases ok3 t htl j oj hj' hpt with e | e | e
            · omega
            · exact e
            · have := (ok_spec hok hj').1 i e
              omega
          have := ((hval j _ hrj).2 (hdir j hjd) oj hj').1
          simpa [Res.Good] using this
        · cases hj
  cases r with
  | skip =>
    have hobl' : Region.wanted o (yielded ops (putsFrom val 0 (ops.toList.take i) a0).tmps) = false := hobl
    rw [hwant, hobl']
    simp only [Bool.false_eq_true, if_false]
    exact more undef w rfl (hT w)
  | det c => exact obl hobl
  | und R => exact obl hobl

theorem end_inv {F : Act → World → Prop} (hok : okOrder ops sz = true) (hsz : a0.tmps.size = sz) (ht : TextW P ops Q S T ops.toList rs [] a0 F) {L : Array Bool} {a : Act} {w : World} (h : Inv ops S rs a0 L a w)
    (hall : ∀ j, j < ops.size → L.getD j false = true) : F a w := by
  obtain ⟨val, hval⟩ := inv_val h
  have hr : ∀ j, j < ops.size → ∃ r, rs[j]? = some r := fun j hj => by
    obtain ⟨rj, h1, _⟩ := textw_at val ops.toList rs [] 0 a0 F ht j ops[j] (by simp [hj]) (fun j r _ hr => by simpa using (hval j r hr).1)
    exact ⟨rj, h1⟩
  have e : putsFrom val 0 ops.toList a0 = a := by
    have h1 : (putsFrom val 0 ops.toList a0).tmps = a.tmps := by
      apply Array.ext_getElem?
      intro t
      by_cases hw : ∃ (j : Nat) (oj : Oper), ops[j]? = some oj ∧ oj.dst = some t
      · obtain ⟨j, oj, hj, hdj⟩ := hw
        have hjs := (Array.getElem?_eq_some_iff.1 hj).1
        obtain ⟨rj, hrj⟩ := hr j hjs
        rw [((hval j rj hrj).2 (hall j hjs) oj hj).2 t hdj]
        have hu := (ok_spec hok hj).2.2.2 t hdj
        rw [putsFrom_some val t ops.toList 0 a0 j oj (by simpa using hj) hdj (by rw [hsz]; exact hu.1) (fun j' o' hj' hd' => hu.2 j' o' (by simpa using hj') hd')]
        simp
      · rw [putsFrom_none val t _ 0 a0 (fun o' ho' hd' => by
          obtain ⟨j', hj'⟩ := List.getElem?_of_mem ho'
          exact hw ⟨j', o', by simpa using hj', hd'⟩)]
        exact (h.rest t fun j oj _ hj hdj => hw ⟨j, oj, hj, hdj⟩).symm
    have h2 : (putsFrom val 0 ops.toList a0).defers = a.defers := by rw [putsFrom_defers, h.defers]
    cases hp : putsFrom val 0 ops.toList a0
    cases a
    rw [hp] at h1 h2
    simp_all
  rw [← e]
  refine textw_end val ops.toList rs [] 0 a0 F ht (fun j r _ hr => by simpa using (hval j r hr).1) w h.holds fun p hp => ?_
  rcases ctxFrom_mem val _ _ _ _ p hp with hp | ⟨j, oj, R, hj, hrj, rfl⟩
  · cases hp
  · have hj' : ops[j]? = some oj := by simpa using hj
    have := ((hval j _ hrj).2 (hall j (Array.getElem?_eq_some_iff.1 hj').1) oj hj').1
    simpa [Res.Good] using this

theorem filter_lt {p q : Nat → Bool} : ∀ (l : List Nat) (i : Nat), i ∈ l → (∀ j, q j = true → p j = true) → p i = true → q i = false → (l.filter q).length < (l.filter p).length
  | x :: l, i, hm, hpq, hp, hq => by
    have hle : ∀ l : List Nat, (l.filter q).length ≤ (l.filter p).length := by
      intro l
      induction l with
      | nil => simp
      | cons y l ih =>
        simp only [List.filter_cons]
        by_cases hy : q y = true
        · simp [hy, hpq y hy, ih]
        · by_cases hy2 : p y = true
          · simp [hy, hy2]; omega
          · simp [hy, hy2, ih]
    rcases List.mem_cons.1 hm with rfl | hm
    · have := hle l
      simp [List.filter_cons, hp, hq]; omega
    · have ih := filter_lt l i hm hpq hp hq
      simp only [List.filter_cons]
      by_cases hy : q x = true
      · simp [hy, hpq x hy, ih]
      · by_cases hy2 : p x = true
        · simp [hy, hy2]; omega
        · simp [hy, hy2, ih]

theorem all_of_none_ready (hok : okOrder ops sz = true) {L : Array Bool} (hs : L.size = ops.size) (h : Region.ready .any ops L = []) : ∀ j, j < ops.size → L.getD j false = true := by
  intro j
  induction j using Nat.strongRecOn with
  | ind j ih =>
    intro hj
    by_cases hl : L.getD j false = true
    · exact hl
    · have ho : ops[j]? = some ops[j] := Array.getElem?_eq_getElem hj
      have hu : L.getD j true = false := by rw [getD_tf (by rw [hs]; exact hj)]; simpa using hl
      have : j ∈ Region.ready .any ops L := ready_of ho hu (fun e he => by
        have := (ok_spec hok ho).1 e he
        exact ih e this (by omega))
      rw [h] at this
      cases this

theorem wpAny_of_inv (hok : okOrder ops sz = true) (hsz : a0.tmps.size = sz) (hT : ∀ w, T w w) (hS : ∀ w w', S w → T w w' → S w')
    (hR : ∀ r ∈ rs, ∀ v w w', r.Good v w → T w w' → r.Good v w') (ht : TextW P ops Q S T ops.toList rs [] a0 (Q .normal)) :
    ∀ (fuel : Nat) (L : Array Bool) (a : Act) (w : World), Inv ops S rs a0 L a w → ((List.range ops.size).filter fun j => !L.getD j false).length ≤ fuel → wpAny P .any ops (NoPanic Q) fuel L a w
  | 0, L, a, w, h, hf => by
    have hall : ∀ j, j < ops.size → L.getD j false = true := fun j hj => by
      have he : ((List.range ops.size).filter fun j => !L.getD j false) = [] := List.eq_nil_of_length_eq_zero (by omega)
      have := List.filter_eq_nil_iff.1 he j (List.mem_range.2 hj)
      simpa using this
    refine ⟨?_, end_inv hok hsz ht h hall⟩
    cases hr : Region.ready .any ops L with
    | nil => rfl
    | cons i l =>
      obtain ⟨o, ho, hu, _⟩ := ready_spec (ops := ops) (L := L) (i := i) (by rw [hr]; simp)
      have hi := (Array.getElem?_eq_some_iff.1 ho).1
      rw [getD_tf (by rw [h.size]; exact hi), hall i hi] at hu
      cases hu
  | fuel + 1, L, a, w, h, hf => by
    refine ⟨fun hr => end_inv hok hsz ht h (all_of_none_ready hok h.size hr), fun i hi => ?_⟩
    refine wpOp_mono (fun a' w' h' => wpAny_of_inv hok hsz hT hS hR ht fuel _ a' w' h' ?_) (step_inv hok hsz hT hS hR ht h hi)
    obtain ⟨o, ho, hu, _⟩ := ready_spec hi
    have hil := (Array.getElem?_eq_some_iff.1 ho).1
    have hiL : i < L.size := by rw [h.size]; exact hil
    have := filter_lt (p := fun j => !L.getD j false) (q := fun j => !(L.setIfInBounds i true).getD j false) (List.range ops.size) i (List.mem_range.2 hil)
      (fun j hj => by
        rw [getD_set _ _ _ hiL] at hj
        split at hj
        · cases hj
        · exact hj) (by rw [getD_tf hiL] at hu; simp [hu]) (by rw [getD_set _ _ _ hiL]; simp)
    omega

/-- THE LAW. -/
theorem wp_region_text {id : Nat} {l : List Oper} {w : World} (rs : List Res) (S : World → Prop) (T : World → World → Prop) (hm : P.follows .mixedOrders = true) (hok : okOrder l.toArray a0.tmps.size = true) (hT : ∀ w, T w w)
    (hS : ∀ w w', S w → T w w' → S w') (hR : ∀ r ∈ rs, ∀ v w w', r.Good v w → T w w' → r.Good v w') (h0 : S w.drew)
    (ht : TextW P l.toArray Q S T l rs [] a0 (Q .normal)) : (Code.region id l.toArray true).wp P Q a0 w := by
  refine wp_region_noPanic (wp_region_any hm ?_)
  refine wpAny_of_inv (ops := l.toArray) hok rfl hT hS hR ht _ _ a0 _ ?_ (by
    refine Nat.le_trans (List.length_filter_le _ _) (by simp))
  refine ⟨by simp, ?_, h0, rfl, rfl, ?_, fun t _ => rfl⟩
  · intro j o hj
    simp [Array.getD_eq_getD_getElem?, Array.getElem?_replicate] at hj
    split at hj <;> simp at hj
  · intro j o r hj
    simp [Array.getD_eq_getD_getElem?, Array.getElem?_replicate] at hj
    split at hj <;> simp at hj

/-! ### For the walk's script -/
theorem TextW.skip' {o : Oper} {l : List Oper} {rs : List Res} {ctx : Ctx} {a : Act} {F : Act → World → Prop} (hw : Region.wanted o (yielded ops a.tmps) = false) (h : TextW P ops Q S T l rs ctx (a.put o.dst undef) F) :
    TextW P ops Q S T (o :: l) (.skip :: rs) ctx a F := ⟨hw, h⟩
theorem TextW.det' {o : Oper} {l : List Oper} {rs : List Res} {ctx : Ctx} {a : Act} {F : Act → World → Prop} {c : Value} (hw : Region.wanted o (yielded ops a.tmps) = true)
    (h1 : ∀ (K : Act → World → Prop) (w : World), S w → deps ops o ctx w → (∀ w', T w w' → K (a.put o.dst c) w') → o.wp P a w K (NoPanic Q)) (h : TextW P ops Q S T l rs ctx (a.put o.dst c) F) :
    TextW P ops Q S T (o :: l) (.det c :: rs) ctx a F := ⟨hw, fun K w hS hd hK => h1 K w hS hd (fun w' ht => hK c w' rfl ht), h⟩
theorem TextW.und' {o : Oper} {l : List Oper} {rs : List Res} {ctx : Ctx} {a : Act} {F : Act → World → Prop} {R : Value → World → Prop} (hw : Region.wanted o (yielded ops a.tmps) = true)
    (h1 : ∀ (K : Act → World → Prop) (w : World), S w → deps ops o ctx w → (∀ v w', R v w' → T w w' → K (a.put o.dst v) w') → o.wp P a w K (NoPanic Q)) (h : ∀ v, TextW P ops Q S T l rs ((o.dst, R v) :: ctx) (a.put o.dst v) F) :
    TextW P ops Q S T (o :: l) (.und R :: rs) ctx a F := ⟨hw, h1, h⟩
/-! The same where each operation comes to a known value. -/
def Res.isDet : Res → Bool
  | .und _ => false
  | _ => true
def TD (P : Program) (ops : Array Oper) (Q : Exit → Act → World → Prop) (S : World → Prop) (T : World → World → Prop) (l : List Oper) (a : Act) (F : Act → World → Prop) : Prop :=
  ∃ rs : List Res, (∀ r ∈ rs, r.isDet = true) ∧ TextW P ops Q S T l rs [] a F
theorem TD.skip {o : Oper} {l : List Oper} {a : Act} {F : Act → World → Prop} (hw : Region.wanted o (yielded ops a.tmps) = false) (h : TD P ops Q S T l (a.put o.dst undef) F) : TD P ops Q S T (o :: l) a F := by
  obtain ⟨rs, h1, h2⟩ := h
  exact ⟨.skip :: rs, fun r hr => by rcases List.mem_cons.1 hr with rfl | hr; rfl; exact h1 r hr, hw, h2⟩
theorem TD.det {o : Oper} {l : List Oper} {a : Act} {F : Act → World → Prop} {c : Value} (hw : Region.wanted o (yielded ops a.tmps) = true)
    (h1 : ∀ (K : Act → World → Prop) (w : World), S w → (∀ w', T w w' → K (a.put o.dst c) w') → o.wp P a w K (NoPanic Q)) (h : TD P ops Q S T l (a.put o.dst c) F) : TD P ops Q S T (o :: l) a F := by
  obtain ⟨rs, h2, h3⟩ := h
  exact ⟨.det c :: rs, fun r hr => by rcases List.mem_cons.1 hr with rfl | hr; rfl; exact h2 r hr, hw, fun K w hS hd hK => h1 K w hS (fun w' ht => hK c w' rfl ht), h3⟩
theorem TD.done {a : Act} {F : Act → World → Prop} (h : ∀ w, S w → F a w) : TD P ops Q S T [] a F :=
  ⟨[], fun r hr => by simp at hr, fun w hS _ => h w hS⟩
theorem wp_region_det {id : Nat} {l : List Oper} {w : World} (S : World → Prop) (T : World → World → Prop) (hm : P.follows .mixedOrders = true) (hok : okOrder l.toArray a0.tmps.size = true) (hT : ∀ w, T w w)
    (hS : ∀ w w', S w → T w w' → S w') (h0 : S w.drew) (ht : TD P l.toArray Q S T l a0 (Q .normal)) : (Code.region id l.toArray true).wp P Q a0 w := by
  obtain ⟨rs, h1, h2⟩ := ht
  refine wp_region_text rs S T hm hok hT hS (fun r hr v w w' hg _ => ?_) h0 h2
  have := h1 r hr
  cases r with
  | und R => cases this
  | skip => exact hg
  | det c => exact hg

theorem TextW.done' {rs : List Res} {ctx : Ctx} {a : Act} {F : Act → World → Prop} (h : ∀ w, S w → (∀ p ∈ ctx, p.2 w) → F a w) : TextW P ops Q S T [] rs ctx a F := h
end
end Go.Proofs.YtoajianddmobaaaDoor
