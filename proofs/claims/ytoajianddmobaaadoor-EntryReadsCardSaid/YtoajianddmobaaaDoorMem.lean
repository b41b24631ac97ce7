/- Rows of cells in memory: what a load, a store, an allocation of a struct or an array comes to, over any program. -/
import Derived.Test.YtoajianddmobaaaDoorEnc
namespace Go.Proofs.YtoajianddmobaaaDoor
open Go.RowKit
set_option linter.unusedSimpArgs false
set_option linter.unusedVariables false

/-- The 'n' cells from place 'off' of block 'b' on. -/
def _root_.Go.World.rowAt (w : World) (b off n : Nat) : Option (Array Value) :=
  match w.heap[b]? with
  | some (.cells cs _ _) => rowOf cs off n
  | _ => none

/-- Block 'b' is a row of cells, none of them frozen. -/
def _root_.Go.World.freeAt (w : World) (b : Nat) : Bool :=
  match w.heap[b]? with
  | some (.cells _ _ (lo, hi)) => lo == 0 && hi == 0
  | _ => false

def _root_.Go.World.putRow (w : World) (b off : Nat) (new : Array Value) : World :=
  { w with heap := w.heap.modify b fun
      | .cells c e fr => .cells (splice c off new) e fr
      | o => o }

def oneCells (cs : Array Value) : Bool := cs.all Value.oneCell'

section
variable {w : World} {b off n : Nat} {cs : Array Value} {t : TypeId} {fr : Nat × Nat} {new : Array Value}

theorem rowAt_of (h : w.heap[b]? = some (.cells cs t fr)) : w.rowAt b off n = rowOf cs off n := by simp [World.rowAt, h]
theorem freeAt_of (h : w.heap[b]? = some (.cells cs t (0, 0))) : w.freeAt b = true := by simp [World.freeAt, h]
theorem cell_of (h : w.heap[b]? = some (.cells cs t fr)) (i : Nat) : w.cell? ⟨b, i, none⟩ = cs[i]? := by simp [World.cell?, h]
theorem frozen_of (h : w.heap[b]? = some (.cells cs t (0, 0))) (i : Nat) : w.frozen? ⟨b, i, none⟩ = false := by simp [World.frozen?, h]
/-- All that the walk wants of a block. -/
theorem blk_facts (h : w.heap[b]? = some (.cells cs t (0, 0))) :
    (∀ i, w.cell? ⟨b, i, none⟩ = cs[i]?) ∧ (∀ i, w.frozen? ⟨b, i, none⟩ = false) ∧ (∀ off n, w.rowAt b off n = rowOf cs off n) ∧ w.freeAt b = true ∧ b < w.heap.size :=
  ⟨cell_of h, frozen_of h, fun _ _ => rowAt_of h, freeAt_of h, (Array.getElem?_eq_some_iff.1 h).1⟩

theorem rowAt_some (h : w.rowAt b off n = some cs) : ∃ cur t fr, w.heap[b]? = some (.cells cur t fr) ∧ off + n ≤ cur.size ∧ cs = cur.extract off (off + n) := by
  unfold World.rowAt at h
  split at h
  · rename_i c t fr hb
    unfold rowOf at h
    split at h
    · rename_i hle
      exact ⟨c, t, fr, hb, hle, by simpa using h.symm⟩
    · cases h
  · cases h
theorem rowAt_size (h : w.rowAt b off n = some cs) : cs.size = n := by
  obtain ⟨cur, t, fr, _, hle, rfl⟩ := rowAt_some h
  simp; omega
theorem rowAt_lt (h : w.rowAt b off n = some cs) : b < w.heap.size := by
  obtain ⟨cur, t, fr, hb, _, _⟩ := rowAt_some h
  exact (Array.getElem?_eq_some_iff.1 hb).1
theorem rowAt_cell (h : w.rowAt b off n = some cs) (j : Nat) (hj : j < n) : w.cell? ⟨b, off + j, none⟩ = cs[j]? := by
  obtain ⟨cur, t, fr, hb, hle, rfl⟩ := rowAt_some h
  rw [cell_of hb, Array.getElem?_extract]
  rw [if_pos (by omega)]
theorem row_cell {v : Value} (h : w.rowAt b off n = some cs) (j : Nat) (hj : j < n) (hv : cs[j]? = some v) : w.cell? ⟨b, off + j, none⟩ = some v := (rowAt_cell h j hj).trans hv
theorem row_cell0 {v : Value} (h : w.rowAt b off n = some cs) (hj : 0 < n) (hv : cs[0]? = some v) : w.cell? ⟨b, off, none⟩ = some v := row_cell h 0 hj hv
/-- Cells that follow one another, each known, are a row. -/
theorem rowAt_of_cells (hn : 0 < n) (hs : cs.size = n) (h : ∀ j v, cs[j]? = some v → w.cell? ⟨b, off + j, none⟩ = some v) : w.rowAt b off n = some cs := by
  have h0 := h 0 cs[0] (by simp)
  unfold World.cell? at h0
  unfold World.rowAt
  split at h0
  · rename_i cur t fr hb
    have hb : w.heap[b]? = some (.cells cur t fr) := hb
    rw [hb]
    have hc : ∀ j v, cs[j]? = some v → cur[off + j]? = some v := fun j v hj => by rw [← cell_of hb]; exact h j v hj
    have hl : off + n ≤ cur.size := by
      have := hc (n - 1) cs[n - 1] (by simp)
      have := (Array.getElem?_eq_some_iff.1 this).1
      omega
    simp only [rowOf, if_pos hl]
    congr 1
    apply Array.ext_getElem?
    intro j
    by_cases hj : j < n
    · rw [Array.getElem?_extract, if_pos (by omega)]
      rw [hc j cs[j] (by simp)]
      simp
    · simp [Array.getElem?_eq_none (show cs.size ≤ j by omega), Array.getElem?_eq_none (show (cur.extract off (off + n)).size ≤ j by simp; omega)]
  · cases h0

/-! ### Through new blocks, draws, changes -/
@[go_sem] theorem rowAt_alloc_at (hn : b = w.heap.size) : (w.alloc (.cells cs t fr)).rowAt b off n = rowOf cs off n := by
  subst hn; simp [World.rowAt, World.alloc, -World.alloc_eq]
@[go_sem] theorem rowAt_alloc_past (o : Obj) (hn : b < w.heap.size) : (w.alloc o).rowAt b off n = w.rowAt b off n := by
  simp [World.rowAt, World.alloc, -World.alloc_eq, Array.getElem?_push, Nat.ne_of_lt hn]
@[go_sem] theorem rowAt_drew : w.drew.rowAt b off n = w.rowAt b off n := rfl
@[go_sem] theorem freeAt_alloc_at (hn : b = w.heap.size) : (w.alloc (.cells cs t)).freeAt b = true := by
  subst hn; simp [World.freeAt, World.alloc, -World.alloc_eq]
@[go_sem] theorem freeAt_alloc_past (o : Obj) (hn : b < w.heap.size) : (w.alloc o).freeAt b = w.freeAt b := by
  simp [World.freeAt, World.alloc, -World.alloc_eq, Array.getElem?_push, Nat.ne_of_lt hn]
@[go_sem] theorem freeAt_drew : w.drew.freeAt b = w.freeAt b := rfl
@[go_sem] theorem putRow_alloc_at (hn : b = w.heap.size) : (w.alloc (.cells cs t fr)).putRow b off new = w.alloc (.cells (splice cs off new) t fr) := by
  subst hn
  unfold World.putRow World.alloc
  congr 1
  apply Array.ext_getElem?
  intro k
  simp only [Array.getElem?_modify, Array.getElem?_push]
  by_cases hk : k = w.heap.size
  · subst hk; simp
  · simp [hk, Ne.symm hk]
@[go_sem] theorem putRow_alloc_past (o : Obj) (hn : b < w.heap.size) : (w.alloc o).putRow b off new = (w.putRow b off new).alloc o := by
  unfold World.putRow World.alloc
  congr 1
  apply Array.ext_getElem?
  intro k
  simp only [Array.getElem?_modify, Array.getElem?_push, Array.size_modify]
  by_cases hk : k = w.heap.size
  · subst hk; simp [Nat.ne_of_lt hn]
  · simp [hk]
@[go_sem] theorem putRow_drew : w.drew.putRow b off new = (w.putRow b off new).drew := rfl
@[go_sem, simp] theorem size_putRow : (w.putRow b off new).heap.size = w.heap.size := by simp [World.putRow]
theorem heap_putRow_same (h : w.heap[b]? = some (.cells cs t fr)) : (w.putRow b off new).heap[b]? = some (.cells (splice cs off new) t fr) := by
  simp [World.putRow, Array.getElem?_modify, h]
theorem heap_putRow_other {k : Nat} (h : k ≠ b) : (w.putRow b off new).heap[k]? = w.heap[k]? := by
  simp [World.putRow, Array.getElem?_modify, Ne.symm h]
theorem setRow_eq_putRow (h : w.heap[b]? = some (.cells cs t fr)) : w.setRow b (splice cs off new) = w.putRow b off new := by
  unfold World.setRow World.putRow
  congr 1
  apply Array.ext_getElem?
  intro k
  simp only [Array.getElem?_modify]
  by_cases hk : b = k
  · subst hk; simp [h]
  · simp [hk]
end

/-! ### What a call that writes nothing old leaves -/
def Grew (w w' : World) : Prop := Below w.heap.size w w'
theorem Grew.refl (w : World) : Grew w w := Below.refl _ _
theorem Grew.trans {a b c : World} (h : Grew a b) (k : Grew b c) : Grew a c := Below.trans h (Below.mono k h.size)
theorem Grew.after {a b c : World} (k : Grew b c) (h : Grew a b) : Grew a c := h.trans k
theorem Grew.alloc {a w : World} (h : Grew a w) (o : Obj) : Grew a (w.alloc o) := Below.alloc h h.size o
theorem Grew.drew {a w : World} (h : Grew a w) : Grew a w.drew := Below.drew h
theorem Grew.setCell {a w : World} (h : Grew a w) {p : Addr} (hp : a.heap.size ≤ p.block) (u : Value) : Grew a (w.setCell p u) := Below.setCell h hp u
theorem Grew.putRow {a w : World} (h : Grew a w) {b : Nat} (hp : a.heap.size ≤ b) (off : Nat) (new : Array Value) : Grew a (w.putRow b off new) :=
  Below.trans h ⟨rfl, rfl, rfl, by simp, fun k hk => heap_putRow_other (by omega)⟩
theorem Grew.setRow {a w : World} (h : Grew a w) {b : Nat} (hp : a.heap.size ≤ b) (cs : Array Value) : Grew a (w.setRow b cs) :=
  Below.trans h ⟨rfl, rfl, rfl, by simp, fun k hk => setRow_other w b k cs (by omega)⟩
theorem Grew.le {a w : World} (h : Grew a w) : a.heap.size ≤ w.heap.size := Below.size h
theorem Grew.block {a w : World} (h : Grew a w) {k : Nat} (hk : k < a.heap.size) : w.heap[k]? = a.heap[k]? := Below.block h k hk
theorem Grew.facts {W w1 : World} (h : Grew W w1) :
    (∀ b o, b < W.heap.size → w1.cell? ⟨b, o, none⟩ = W.cell? ⟨b, o, none⟩) ∧ (∀ b o, b < W.heap.size → w1.frozen? ⟨b, o, none⟩ = W.frozen? ⟨b, o, none⟩) ∧
    (∀ b off n, b < W.heap.size → w1.rowAt b off n = W.rowAt b off n) ∧ (∀ b, b < W.heap.size → w1.freeAt b = W.freeAt b) ∧ (∀ b, b < W.heap.size → b < w1.heap.size) :=
  ⟨fun b o hb => Below.cell (p := ⟨b, o, none⟩) h hb, fun b o hb => Below.frozen (p := ⟨b, o, none⟩) h hb,
   fun b off n hb => by unfold World.rowAt; rw [h.block hb], fun b hb => by unfold World.freeAt; rw [h.block hb], fun b hb => Nat.lt_of_lt_of_le hb h.le⟩

/-- All that 'Grew' tells the walk, and itself. -/
abbrev Old (W w1 : World) : Prop :=
    (∀ b o, b < W.heap.size → w1.cell? ⟨b, o, none⟩ = W.cell? ⟨b, o, none⟩) ∧ (∀ b o, b < W.heap.size → w1.frozen? ⟨b, o, none⟩ = W.frozen? ⟨b, o, none⟩) ∧
    (∀ b off n, b < W.heap.size → w1.rowAt b off n = W.rowAt b off n) ∧ (∀ b, b < W.heap.size → w1.freeAt b = W.freeAt b) ∧ (∀ b, b < W.heap.size → b < w1.heap.size) ∧ Grew W w1
theorem Old.of {W w1 : World} (h : Grew W w1) : Old W w1 := ⟨h.facts.1, h.facts.2.1, h.facts.2.2.1, h.facts.2.2.2.1, h.facts.2.2.2.2, h⟩
theorem Old.grew {W w1 : World} (h : Old W w1) : Grew W w1 := h.2.2.2.2.2
theorem Old.step {W w1 w2 : World} (h : Old W w1) (g : Grew w1 w2) : Old W w2 := Old.of (h.grew.trans g)

/-! ### The operations -/
section
variable {P : Program} {t : TypeId} {n : Nat}
/-- Is a type's value a row of cells? -/
def aggB (P : Program) (t : TypeId) : Bool := match P.underlying t with | some (.struct _) | some (.array _ _) => true | _ => false
def sizeB (P : Program) (t : TypeId) (n : Nat) : Bool := match P.info? t with | some i => i.size == n | none => false

theorem run_isAgg (h : aggB P t = true) (w : World) : (isAgg t).run P w = .ok true w := by
  unfold aggB at h
  unfold isAgg
  rw [Sem.run_bind]
  split at h
  · rename_i fs hu; rw [run_underlying hu]; rfl
  · rename_i k e hu; rw [run_underlying hu]; rfl
  · cases h
theorem run_sizeOf (h : sizeB P t n = true) (w : World) : (sizeOf t).run P w = .ok n w := by
  unfold sizeB at h
  split at h
  · rename_i i hi
    have : i.size = n := by simpa using h
    subst this
    simp [sizeOf, typeInfo, hi]
  · cases h

theorem run_loadVar_row_at (ha : aggB P t = true) (hs : sizeB P t n = true) {w : World} {b off : Nat} {cs : Array Value} (h : w.rowAt b off n = some cs) :
    (loadVar t ⟨b, off, none⟩).run P w = .ok (.agg cs) w := by
  have hsz := rowAt_size h
  have hl : (loadCells ⟨b, off, none⟩ cs.toList.length).run P w = .ok cs.toList.toArray w :=
    run_loadCells_list (P := P) w ⟨b, off, none⟩ cs.toList (fun j v hv => by
      have hadd : (⟨b, off, none⟩ : Addr).add j = ⟨b, off + j, none⟩ := by unfold Addr.add; split <;> simp_all
      have hj : j < n := by
        rw [← hsz, ← Array.length_toList]
        exact (List.getElem?_eq_some_iff.1 hv).1
      rw [hadd, rowAt_cell h j hj]
      simpa using hv)
  simp only [Array.length_toList, hsz, Array.toArray_toList] at hl
  simp only [loadVar, Sem.run_bind, run_isAgg ha, Result.andThen_ok, if_true, run_sizeOf hs, hl, Sem.run_pure]

/-- Names for the operations at one type, so that the walk's simp doesn't open them ahead of these laws. -/
def AllocOf (t : TypeId) : Sem Value := Instr.alloc t true (.tuple #[])
def LoadOf (t : TypeId) (x : Value) : Sem Value := Instr.loadAt t x
def StoreOf (t : TypeId) (x v : Value) : Sem Unit := Instr.storeAt t x v
def BuildOf (t : TypeId) (parts : Array (Nat × Value)) : Sem Value := Instr.build t parts

theorem run_loadAt_row (ha : aggB P t = true) (hs : sizeB P t n = true) (w : World) (b off : Nat) :
    (LoadOf t (.pointer (some ⟨b, off, none⟩))).run P w = match w.rowAt b off n with | some cs => .ok (.agg cs) w | none => (loadVar t ⟨b, off, none⟩).run P w := by
  have e : (LoadOf t (.pointer (some ⟨b, off, none⟩))).run P w = (loadVar t ⟨b, off, none⟩).run P w := by
    simp [LoadOf, Instr.loadAt, Instr.sureAddr]
  rw [e]
  split
  · rename_i cs h; exact run_loadVar_row_at ha hs h
  · rfl

theorem run_storeVar_row_at (hs : sizeB P t n = true) {w : World} {b off : Nat} {cs new : Array Value} (h : w.rowAt b off n = some cs) (hf : w.freeAt b = true) (hn : new.size = n) (h1 : oneCells new = true) :
    (storeVar t ⟨b, off, none⟩ (.agg new)).run P w = .ok () (w.putRow b off new) := by
  obtain ⟨cur, t0, fr, hb, hle, rfl⟩ := rowAt_some h
  have hfr : fr = (0, 0) := by
    unfold World.freeAt at hf
    rw [hb] at hf
    obtain ⟨lo, hi⟩ := fr
    simp at hf
    simp [hf]
  subst hfr
  have hone : ∀ u ∈ new.toList, u.oneCell' = true := by
    intro u hu
    have := Array.all_eq_true'.1 h1 u (by simpa using hu)
    simpa using this
  have hst := run_storeCells_at P b off t0 new.toList 0 cur w hb (by simp; omega) hone
  simp only [Nat.add_zero] at hst
  have hadd : ∀ i, (⟨b, off, none⟩ : Addr).add i = ⟨b, off + i, none⟩ := fun i => by unfold Addr.add; split <;> simp_all
  have e : storeCells ⟨b, off, none⟩ new.toList = storeCells ⟨b, off, none⟩ new.toList 0 := rfl
  simp only [storeVar, Sem.run_bind, run_sizeOf hs, Result.andThen_ok, Value.cells, hn, ne_eq, not_true_eq_false, if_false, Sem.run_pure]
  rw [e]
  refine hst.trans ?_
  congr 1
  rw [← setRow_eq_putRow hb]
  congr 1
  apply Array.ext'
  simp only [splice, Array.toList_append, Array.toList_extract, List.extract_eq_take_drop, Array.length_toList, List.drop_zero, Nat.sub_zero]
  rw [List.take_of_length_le (l := List.drop (off + new.size) cur.toList) (by simp)]

theorem run_storeAt_row (hs : sizeB P t n = true) (w : World) (b off : Nat) (new : Array Value) :
    (StoreOf t (.pointer (some ⟨b, off, none⟩)) (.agg new)).run P w =
      if (w.rowAt b off n).isSome && w.freeAt b && new.size == n && oneCells new then .ok () (w.putRow b off new) else (storeVar t ⟨b, off, none⟩ (.agg new)).run P w := by
  have e : (StoreOf t (.pointer (some ⟨b, off, none⟩)) (.agg new)).run P w = (storeVar t ⟨b, off, none⟩ (.agg new)).run P w := by
    simp [StoreOf, Instr.storeAt, Instr.sureAddr]
  rw [e]
  split
  · rename_i h
    simp only [Bool.and_eq_true, beq_iff_eq] at h
    obtain ⟨⟨⟨h1, h2⟩, h3⟩, h4⟩ := h
    obtain ⟨cs, hcs⟩ := Option.isSome_iff_exists.1 h1
    exact run_storeVar_row_at hs hcs h2 h3 h4
  · rfl

/-! ### Building structs, arrays, slices out of parts -/
theorem splice_one (cs : Array Value) (off : Nat) (v : Value) (h : off < cs.size) : splice cs off #[v] = cs.setIfInBounds off v := by
  apply Array.ext'
  simp [splice, List.set_eq_take_append_cons_drop, h]
  rw [List.take_of_length_le (by simp)]

theorem foldl_splice (v : List Value) : ∀ (cs : Array Value) (off k : Nat), off + k + v.length ≤ cs.size →
    (v.zipIdx k).foldl (fun cs (p : Value × Nat) => cs.setIfInBounds (off + p.2) p.1) cs = splice cs (off + k) v.toArray := by
  induction v with
  | nil =>
    intro cs off k h
    apply Array.ext'
    simp [splice]
    exact (List.take_of_length_le (by simp; omega)).symm
  | cons x v ih =>
    intro cs off k h
    simp only [List.length_cons] at h
    rw [List.zipIdx_cons, List.foldl_cons, ih _ off (k + 1) (by simp; omega)]
    apply Array.ext'
    apply List.ext_getElem?
    intro j
    simp only [splice, Array.toList_append, Array.toList_extract, List.extract_eq_take_drop, List.drop_zero, Nat.sub_zero, Array.toList_setIfInBounds, Array.size_setIfInBounds, List.toList_toArray, List.size_toArray, List.length_cons]
    simp only [List.getElem?_append, List.length_take, List.length_append, List.length_set, Array.length_toList, List.getElem?_take, List.getElem?_drop, List.getElem?_set, List.length_cons]
    by_cases h1 : j < off + k
    · have e1 : min (off + k) cs.size = off + k := by omega
      have e2 : min (off + (k + 1)) cs.size = off + k + 1 := by omega
      simp [e1, e2, h1, show j < off + k + 1 by omega, show j < off + (k + 1) by omega, show ¬ (off + k = j) by omega, show j < off + k + (v.length + 1) by omega, show j < off + k + 1 + v.length by omega]
    · by_cases h2 : j = off + k
      · subst h2
        have e1 : min (off + k) cs.size = off + k := by omega
        have e2 : min (off + (k + 1)) cs.size = off + k + 1 := by omega
        simp [e1, e2, show off + k < off + k + 1 + v.length by omega, show off + k < off + (k + 1) by omega, show off + k < cs.size by omega]
      · by_cases h3 : j < off + k + 1 + v.length
        · have e1 : min (off + k) cs.size = off + k := by omega
          have e2 : min (off + (k + 1)) cs.size = off + k + 1 := by omega
          have e3 : j - (off + k) = (j - (off + k + 1)) + 1 := by omega
          simp [e1, e2, h1, h3, show ¬ j < off + k + 1 by omega, show j < off + k + (v.length + 1) by omega, e3]
        · have e1 : min (off + k) cs.size = off + k := by omega
          have e2 : min (off + (k + 1)) cs.size = off + k + 1 := by omega
          simp [e1, e2, h3, show ¬ j < off + k + (v.length + 1) by omega]
          congr 1
          · rw [show off + (k + 1) + v.length = off + k + (v.length + 1) by omega, show off + k + 1 + v.length = off + k + (v.length + 1) by omega]
          · simp only [show off + (k + 1) + v.length + (j - (off + k + 1 + v.length)) = j by omega, show off + k + (v.length + 1) + (j - (off + k + (v.length + 1))) = j by omega, show ¬ (off + k = j) by omega, if_false]

/-- The parts laid in their places. -/
def fillS (place : Nat → Option (Nat × Nat)) (cs : Array Value) : List (Nat × Value) → Array Value
  | [] => cs
  | (i, v) :: rest => fillS place (splice cs ((place i).getD (0, 0)).1 v.cells) rest
def fillOk (place : Nat → Option (Nat × Nat)) (n : Nat) : List (Nat × Value) → Bool
  | [] => true
  | (i, v) :: rest => (match place i with | some (off, size) => v.cells.size == size && decide (off + size ≤ n) | none => false) && fillOk place n rest
theorem fill_eq (place : Nat → Option (Nat × Nat)) : ∀ (ps : List (Nat × Value)) (cs : Array Value), fillOk place cs.size ps = true → Instr.fill place cs ps = some (fillS place cs ps)
  | [], cs, _ => rfl
  | (i, v) :: rest, cs, h => by
    simp only [fillOk, Bool.and_eq_true] at h
    obtain ⟨h1, h2⟩ := h
    cases hp : place i with
    | none => simp [hp] at h1
    | some q =>
      obtain ⟨off, size⟩ := q
      simp only [hp, Bool.and_eq_true, beq_iff_eq, decide_eq_true_eq] at h1
      have hle : off + v.cells.size ≤ cs.size := by rw [h1.1]; exact h1.2
      have hf : v.cells.zipIdx.foldl (fun cs (p : Value × Nat) => cs.setIfInBounds (off + p.2) p.1) cs = splice cs off v.cells := by
        have := foldl_splice v.cells.toList cs off 0 (by simpa using hle)
        rw [← Array.foldl_toList, Array.toList_zipIdx]
        simpa using this
      have hsz : (splice cs off v.cells).size = cs.size := by simp [splice]; omega
      simp only [Instr.fill, hp, fillS, Option.getD_some]
      rw [if_neg (by simp [h1.1]; omega)]
      rw [← fill_eq place rest (splice cs off v.cells) (by rw [hsz]; exact h2)]
      congr 1

theorem splice_size (cs : Array Value) (off : Nat) (new : Array Value) (h : off + new.size ≤ cs.size) : (splice cs off new).size = cs.size := by
  simp [splice]; omega

def placesB (P : Program) (t : TypeId) (pl : List (Nat × Nat)) : Bool :=
  match P.underlying t with
  | some (.struct fs) => (fs.toList.map fun f => (some (f.offset, (P.info? f.type).map (·.size)))) == (pl.map fun p => some (p.1, some p.2))
  | _ => false
theorem run_build_struct {z : Array Value} {pl : List (Nat × Nat)} (hp : placesB P t pl = true) (hz : ((P.info? t).bind (·.zero)).map Value.cells = some z) (w : World) (ps : Array (Nat × Value)) :
    (BuildOf t ps).run P w = if fillOk (pl[·]?) z.size ps.toList then .ok (.agg (fillS (pl[·]?) z ps.toList)) w else (Instr.build t ps).run P w := by
  split
  · rename_i hok
    unfold placesB at hp
    split at hp
    · rename_i fs hu
      have hz' : (zeroValue t).run P w = .ok ((((P.info? t).bind (·.zero)).getD undef)) w ∧ (((P.info? t).bind (·.zero)).getD undef).cells = z := by
        cases hi : P.info? t with
        | none => simp [hi] at hz
        | some i =>
          cases hzz : i.zero with
          | none => simp [hi, hzz] at hz
          | some v =>
            simp only [hi, hzz, Option.bind_some, Option.map_some, Option.some.injEq] at hz
            simp [zeroValue, typeInfo, hi, hzz, hz]
      have key : ∀ (l : List Field) (q : List (Nat × Nat)), (l.map fun f => (some (f.offset, (P.info? f.type).map (·.size)))) = (q.map fun p => some (p.1, some p.2)) →
          (l.mapM (m := Sem) fun f => do pure (f.offset, ← sizeOf f.type)).run P w = .ok q w := by
        intro l
        induction l with
        | nil => intro q h; cases q with
          | nil => rfl
          | cons _ _ => simp at h
        | cons f l ih =>
          intro q h
          cases q with
          | nil => simp at h
          | cons p q =>
            simp only [List.map_cons, List.cons.injEq, Option.some.injEq, Prod.mk.injEq] at h
            obtain ⟨⟨h1, h2⟩, h3⟩ := h
            have hs : (sizeOf f.type).run P w = .ok p.2 w := by
              cases hi : P.info? f.type with
              | none => simp [hi] at h2
              | some i => simp [hi] at h2; simp [sizeOf, typeInfo, hi, h2]
            rw [List.mapM_cons]
            simp only [Sem.run_bind, hs, Result.andThen_ok, Sem.run_pure, ih q h3]
            rw [h1]
      have hm : (fs.mapM (m := Sem) fun f => do pure (f.offset, ← sizeOf f.type)).run P w = .ok pl.toArray w := by
        have e : (fs.mapM (m := Sem) fun f => do pure (f.offset, ← sizeOf f.type)) = (do let l ← fs.toList.mapM (m := Sem) (fun f => do pure (f.offset, ← sizeOf f.type)); pure l.toArray) := by
          cases fs; simp
        rw [e]
        simp only [Sem.run_bind, key fs.toList pl (by simpa using hp), Result.andThen_ok, Sem.run_pure]
      simp only [BuildOf, Instr.build, Sem.run_bind, hz'.1, Result.andThen_ok, run_underlying hu, hm, hz'.2]
      rw [show (fun x : Nat => pl.toArray[x]?) = fun x => pl[x]? from by funext x; simp]
      rw [fill_eq _ _ _ hok]
      rfl
    · cases hp
  · rfl

/-! A slice built of rows. -/
def BuildSliceOf (t : TypeId) (len : Nat) (parts : Array (Nat × Value)) : Sem Value := Instr.buildSlice t len parts
def sliceB (P : Program) (t e n : Nat) : Bool := (match P.underlying t with | some (.slice e') => e' == e | _ => false) && (match P.info? e with | some i => i.size == n && (match i.zero with | some z => z.cells.size == n | none => false) | none => false) && decide (0 < n) && decide (n ≤ 1000)
theorem run_buildSlice_rows {e : TypeId} {len : Nat} (hb : sliceB P t e n = true) (w : World) (ps : Array (Nat × Value)) (out : Array Value) (hl : len ≤ 1000)
    (hok : fillOk (fun i => some (i * n, n)) (len * n) ps.toList = true) (hout : ∀ z : Array Value, z.size = len * n → fillS (fun i => some (i * n, n)) z ps.toList = out) (h0 : 0 < len) :
    (BuildSliceOf t len ps).run P w = .ok (.slice (some ⟨w.heap.size, 0, none⟩) len len) (w.alloc (.cells out e)) := by
  unfold sliceB at hb
  simp only [Bool.and_eq_true, decide_eq_true_eq] at hb
  obtain ⟨⟨⟨h1, h2⟩, hn⟩, hn2⟩ := hb
  have hu : P.underlying t = some (.slice e) := by
    cases hq : P.underlying t with
    | none => rw [hq] at h1; cases h1
    | some d =>
      rw [hq] at h1
      cases d <;> first | (cases h1; done) | skip
      rename_i e'
      have : e' = e := by simpa using h1
      rw [this]
  cases hi : P.info? e with
  | none => rw [hi] at h2; cases h2
  | some i =>
    rw [hi] at h2
    cases hz : i.zero with
    | none => simp [hz] at h2
    | some z =>
      simp only [hz, Bool.and_eq_true, beq_iff_eq] at h2
      have hs : (sizeOf e).run P w = .ok n w := by simp [sizeOf, typeInfo, hi, h2.1]
      have hzv : (zeroValue e).run P w = .ok z w := by simp [zeroValue, typeInfo, hi, hz]
      have hlt : ¬ (len * n > 2 ^ 24) := by
        have : len * n ≤ 1000 * 1000 := Nat.mul_le_mul hl hn2
        omega
      have hne : len * n ≠ 0 := Nat.mul_ne_zero (by omega) (by omega)
      simp only [BuildSliceOf, Instr.buildSlice, Sem.run_bind, run_underlying hu, hs, Result.andThen_ok, if_neg hlt, if_neg hne, hzv, Sem.run_pure]
      rw [fill_eq _ _ _ (by simpa using hok), hout _ (by simp)]
      rfl
theorem fill1 {v0 : Value} (h : v0.cells.size = n) (z : Array Value) (hz : z.size = 1 * n) : fillS (fun i => some (i * n, n)) z [(0, v0)] = v0.cells := by
  simp only [fillS, Option.getD_some, Nat.zero_mul]
  exact splice_all _ _ (by omega)
theorem splice_toList (cs : Array Value) (off : Nat) (new : Array Value) : (splice cs off new).toList = cs.toList.take off ++ new.toList ++ cs.toList.drop (off + new.size) := by
  simp only [splice, Array.toList_append, Array.toList_extract, List.extract_eq_take_drop, Array.length_toList, List.drop_zero, Nat.sub_zero]
  rw [List.take_of_length_le (l := List.drop (off + new.size) cs.toList) (by simp)]
theorem run_bs1 {e : TypeId} (hb : sliceB P t e n = true) (w : World) (v0 : Value) :
    (BuildSliceOf t 1 #[(0, v0)]).run P w = if v0.cells.size == n then .ok (.slice (some ⟨w.heap.size, 0, none⟩) 1 1) (w.alloc (.cells v0.cells e)) else (Instr.buildSlice t 1 #[(0, v0)]).run P w := by
  split
  · rename_i h
    have h : v0.cells.size = n := by simpa using h
    exact run_buildSlice_rows hb w _ _ (by omega) (by simp [fillOk, h]) (fun z hz => fill1 h z hz) (by omega)
  · rfl
theorem fill2 {v0 v1 : Value} (h0 : v0.cells.size = n) (h1 : v1.cells.size = n) (z : Array Value) (hz : z.size = 2 * n) : fillS (fun i => some (i * n, n)) z [(0, v0), (1, v1)] = ap v0.cells v1.cells := by
  simp only [fillS, Option.getD_some, Nat.zero_mul, Nat.one_mul]
  apply Array.ext'
  have e1 : (splice z 0 v0.cells).toList = v0.cells.toList ++ z.toList.drop n := by rw [splice_toList]; simp [h0]
  rw [splice_toList, e1, List.take_left' (by simpa using h0), List.drop_of_length_le (by simp; omega)]
  simp [ap]
theorem fill3 {v0 v1 v2 : Value} (h0 : v0.cells.size = n) (h1 : v1.cells.size = n) (h2 : v2.cells.size = n) (z : Array Value) (hz : z.size = 3 * n) :
    fillS (fun i => some (i * n, n)) z [(0, v0), (1, v1), (2, v2)] = ap v0.cells (ap v1.cells v2.cells) := by
  simp only [fillS, Option.getD_some, Nat.zero_mul, Nat.one_mul]
  apply Array.ext'
  have e1 : (splice z 0 v0.cells).toList = v0.cells.toList ++ z.toList.drop n := by rw [splice_toList]; simp [h0]
  have e2 : (splice (splice z 0 v0.cells) n v1.cells).toList = (v0.cells.toList ++ v1.cells.toList) ++ z.toList.drop (2 * n) := by
    rw [splice_toList, e1, List.take_left' (by simpa using h0), List.drop_append]
    simp only [Array.length_toList, h0, h1]
    rw [List.drop_of_length_le (by simp; omega), List.drop_drop]
    simp only [List.nil_append, show n + (n + n - n) = 2 * n by omega]
  rw [splice_toList, e2, List.take_left' (by simp; omega), List.drop_of_length_le (by simp; omega)]
  simp [ap]
theorem run_bs2 {e : TypeId} (hb : sliceB P t e n = true) (w : World) (v0 v1 : Value) :
    (BuildSliceOf t 2 #[(0, v0), (1, v1)]).run P w = if v0.cells.size == n && v1.cells.size == n then .ok (.slice (some ⟨w.heap.size, 0, none⟩) 2 2) (w.alloc (.cells (ap v0.cells v1.cells) e)) else (Instr.buildSlice t 2 #[(0, v0), (1, v1)]).run P w := by
  split
  · rename_i h
    simp only [Bool.and_eq_true, beq_iff_eq] at h
    exact run_buildSlice_rows hb w _ _ (by omega) (by simp [fillOk, h]; omega) (fun z hz => fill2 h.1 h.2 z hz) (by omega)
  · rfl

theorem run_bs3 {e : TypeId} (hb : sliceB P t e n = true) (w : World) (v0 v1 v2 : Value) :
    (BuildSliceOf t 3 #[(0, v0), (1, v1), (2, v2)]).run P w = if v0.cells.size == n && v1.cells.size == n && v2.cells.size == n then .ok (.slice (some ⟨w.heap.size, 0, none⟩) 3 3) (w.alloc (.cells (ap v0.cells (ap v1.cells v2.cells)) e)) else (Instr.buildSlice t 3 #[(0, v0), (1, v1), (2, v2)]).run P w := by
  split
  · rename_i h
    simp only [Bool.and_eq_true, beq_iff_eq] at h
    exact run_buildSlice_rows hb w _ _ (by omega) (by simp [fillOk, h]; omega) (fun z hz => fill3 h.1.1 h.1.2 h.2 z hz) (by omega)
  · rfl

/-! ### '==' of structs, field by field -/
inductive EqF (P : Program) (d : Nat) (xs ys : Array Value) (w : World) : List (TypeId × Nat) → Bool → Prop
  | nil : EqF P d xs ys w [] true
  | cons {t : TypeId} {o : Nat} {fs : List (TypeId × Nat)} {a b : Value} {r s : Bool} (ha : (part t xs o).run P w = .ok a w) (hb : (part t ys o).run P w = .ok b w) (he : (Op.equalIn d t a b).run P w = .ok r w)
      (hr : EqF P d xs ys w fs s) : EqF P d xs ys w ((t, o) :: fs) (r && s)

theorem run_eqFields_of {d : Nat} {xs ys : Array Value} {w : World} : ∀ (fl : List Field) (fs : List (TypeId × Nat)) (r : Bool),
    (fl.map fun f => (f.name == "_", f.type, f.offset)) = (fs.map fun p => (false, p.1, p.2)) → EqF P d xs ys w fs r → (Op.eqFields d xs ys fl).run P w = .ok r w
  | [], fs, r, hm, h => by
    cases fs with
    | nil => cases h; simp [Op.eqFields]
    | cons p fs => simp at hm
  | f :: fl, fs, r, hm, h => by
    cases h with
    | nil => simp at hm
    | cons ha hb he hr =>
      rename_i t o fs a b r s
      simp only [List.map_cons, List.cons.injEq, Prod.mk.injEq] at hm
      obtain ⟨⟨hn, ht, ho⟩, hm⟩ := hm
      subst ht; subst ho
      have hn' : f.name ≠ "_" := by simpa using hn
      have ih := run_eqFields_of fl fs s hm hr
      simp only [Op.eqFields, if_pos hn', Sem.run_bind, ha, hb, he, Result.andThen_ok]
      cases r
      · simp
      · simpa using ih

def fieldsB (P : Program) (t : TypeId) (fs : List (TypeId × Nat)) : Bool :=
  match P.underlying t with
  | some (.struct fl) => ((fl.toList.map fun f => (f.name == "_", f.type, f.offset)) == (fs.map fun p => (false, p.1, p.2))) && !P.stoodInHeld t
  | _ => false

theorem run_equalIn_fields {d : Nat} {xs ys : Array Value} {w : World} {fs : List (TypeId × Nat)} {r : Bool} (hf : fieldsB P t fs = true) (h : EqF P d xs ys w fs r) :
    (Op.equalIn (d + 1) t (.agg xs) (.agg ys)).run P w = .ok r w := by
  unfold fieldsB at hf
  split at hf
  · rename_i fl hu
    simp only [Bool.and_eq_true, Bool.not_eq_true', beq_iff_eq] at hf
    have e : P.fieldsOf t = fl := by simp [Program.fieldsOf, hu]
    rw [run_equalIn_struct w d t xs ys (by rw [e]; exact hu) hf.2, e]
    exact run_eqFields_of _ _ _ hf.1 h
  · cases hf

def kindB (P : Program) (t : TypeId) (d : TypeDesc → Bool) : Bool := match P.underlying t with | some x => d x | none => false

theorem run_part_agg (ha : aggB P t = true) (hs : sizeB P t n = true) (w : World) (cs : Array Value) (off : Nat) : (part t cs off).run P w = .ok (.agg (cs.extract off (off + n))) w := by
  simp only [part, Sem.run_bind, run_isAgg ha, Result.andThen_ok, if_true, run_sizeOf hs, Sem.run_pure]
def plainB (P : Program) (t : TypeId) : Bool := match P.underlying t with | some (.struct _) | some (.array _ _) => false | some _ => true | none => false
theorem run_part_one (ha : plainB P t = true) (w : World) (cs : Array Value) (off : Nat) (v : Value) (h : cs[off]? = some v) : (part t cs off).run P w = .ok v w := by
  unfold plainB at ha
  have : (isAgg t).run P w = .ok false w := by
    unfold isAgg
    rw [Sem.run_bind]
    split at ha
    · cases ha
    · cases ha
    · rename_i d h1 h2 hu
      rw [run_underlying hu]
      cases d <;> first | rfl | (exfalso; exact h1 _ rfl) | (exfalso; exact h2 _ _ rfl)
    · cases ha
  simp only [part, Sem.run_bind, this, Result.andThen_ok, Bool.false_eq_true, if_false, h, Sem.run_pure]
end

end Go.Proofs.YtoajianddmobaaaDoor
