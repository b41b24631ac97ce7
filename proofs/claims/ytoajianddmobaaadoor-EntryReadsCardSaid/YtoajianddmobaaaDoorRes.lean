/- RESULTS of any shape: temporaries, cells that hold a row, cells that hold one value. -/
import Derived.Test.YtoajianddmobaaaDoorApp
namespace Go.Proofs.YtoajianddmobaaaDoor
open Go.RowKit
set_option linter.unusedSimpArgs false
set_option linter.unusedVariables false

inductive RV (P : Program) (tmps : Array Value) (w : World) : List ResultVar → List Value → Prop where
  | nil : RV P tmps w [] []
  | tmp {u : Tmp} {rs : List ResultVar} {vs : List Value} (h : RV P tmps w rs vs) : RV P tmps w (.tmp u :: rs) (tmps.getD u undef :: vs)
  | row {p : Tmp} {ty : TypeId} {rs : List ResultVar} {vs : List Value} {b off n : Nat} {cs : Array Value}
      (hp : tmps.getD p undef = .pointer (some ⟨b, off, none⟩)) (ha : aggB P ty = true) (hs : sizeB P ty n = true) (hrow : w.rowAt b off n = some cs)
      (h : RV P tmps w rs vs) : RV P tmps w (.cell p ty :: rs) (.agg cs :: vs)
  | one {p : Tmp} {ty : TypeId} {rs : List ResultVar} {vs : List Value} {b off : Nat} {v : Value}
      (hp : tmps.getD p undef = .pointer (some ⟨b, off, none⟩)) (ha : plainB P ty = true) (hc : w.cell? ⟨b, off, none⟩ = some v)
      (h : RV P tmps w rs vs) : RV P tmps w (.cell p ty :: rs) (v :: vs)
section
variable {P : Program} {tmps : Array Value} {w : World}
theorem run_loadVar_one {ty : TypeId} (ha : plainB P ty = true) {w : World} {p : Addr} {v : Value} (h : w.cell? p = some v) : (loadVar ty p).run P w = .ok v w := by
  have hi : (isAgg ty).run P w = .ok false w := by
    unfold plainB at ha
    cases hq : P.underlying ty with
    | none => rw [hq] at ha; cases ha
    | some d =>
      rw [hq] at ha
      have hu := run_underlying (P := P) (w := w) hq
      cases d <;> first | (cases ha; done) | (simp [isAgg, hu])
  simp [loadVar, hi, h]
theorem rv_run {rs : List ResultVar} {vs : List Value} (hv : RV P tmps w rs vs) (f : ResultVar → Sem Value) (hf : ∀ u, f (.tmp u) = pure (tmps.getD u undef)) (hc : ∀ a t, f (.cell a t) = (do loadVar t (← asAddr (tmps.getD a undef)))) :
    (rs.mapM f).run P w = .ok vs w := by
  induction hv with
  | nil => simp
  | tmp h ih => simp [List.mapM_cons, hf, ih]
  | row hp ha hs hrow h ih =>
    rw [List.mapM_cons, hc, hp]
    simp [asAddr, run_loadVar_row_at ha hs hrow, ih]
  | one hp ha hcell h ih =>
    rw [List.mapM_cons, hc, hp]
    simp [asAddr, run_loadVar_one ha hcell, ih]
theorem rv_list {fn : Func} {rs : List ResultVar} {vs : List Value} (h : fn.results = rs.toArray) (hl : vs.length ≠ 1) (hv : RV P tmps w rs vs) : (results fn tmps).run P w = .ok (.tuple vs.toArray) w := by
  unfold results
  rw [h, List.mapM_toArray]
  simp only [Sem.run_bind, Sem.run_map]
  rw [rv_run hv]
  · simp [hl]
  · intro u
    rfl
  · intro a t
    rfl
theorem rv_one {fn : Func} {r : ResultVar} {v : Value} (h : fn.results = #[r]) (hv : RV P tmps w [r] [v]) : (results fn tmps).run P w = .ok v w := by
  unfold results
  rw [show fn.results = [r].toArray from h, List.mapM_toArray]
  simp only [Sem.run_bind, Sem.run_map]
  rw [rv_run hv]
  · simp
  · intro u
    rfl
  · intro a t
    rfl
end

theorem rowOf_splice (cs : Array Value) (off n : Nat) (new : Array Value) (h : off + n ≤ cs.size) (hn : new.size = n) : rowOf (splice cs off new) off n = some new := by
  have hsz := splice_size cs off new (by omega)
  rw [rowOf, if_pos (by rw [hsz]; exact h)]
  congr 1
  apply Array.ext'
  rw [Array.toList_extract, splice_toList, List.extract_eq_take_drop]
  have h1 : (cs.toList.take off).length = off := by rw [List.length_take, Array.length_toList]; omega
  rw [List.append_assoc, List.drop_left' h1, show off + n - off = n by omega, List.take_left' (by rw [Array.length_toList, hn])]
theorem rowAt_put {w : World} {b off n : Nat} {cs new : Array Value} (h : w.rowAt b off n = some cs) (hn : new.size = n) : (w.putRow b off new).rowAt b off n = some new := by
  obtain ⟨cur, t, fr, hb, hl, _⟩ := rowAt_some h
  rw [rowAt_of (heap_putRow_same hb)]
  exact rowOf_splice cur off n new hl hn
theorem freeAt_put {w : World} {b off : Nat} {new : Array Value} {k : Nat} (h : w.freeAt k = true) : (w.putRow b off new).freeAt k = true := by
  by_cases hk : k = b
  · subst hk
    unfold World.freeAt at h ⊢
    split at h
    · rename_i cs t lo hi hb
      rw [heap_putRow_same hb]
      exact h
    · cases h
  · unfold World.freeAt at h ⊢
    rw [heap_putRow_other hk]
    exact h
theorem rowAt_put_far {w : World} {b off k o n : Nat} {new : Array Value} (h : k ≠ b) : (w.putRow b off new).rowAt k o n = w.rowAt k o n := by unfold World.rowAt; rw [heap_putRow_other h]
theorem cell_put_far {w : World} {b off k o : Nat} {new : Array Value} (h : k ≠ b) : (w.putRow b off new).cell? ⟨k, o, none⟩ = w.cell? ⟨k, o, none⟩ := by unfold World.cell?; simp only [heap_putRow_other h]
end Go.Proofs.YtoajianddmobaaaDoor
