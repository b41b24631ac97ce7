/- CONTRACTS: the program's may, put, and both Lays. -/
import Derived.Test.YtoajianddmobaaaDoorPk3
namespace Go.Proofs.YtoajianddmobaaaDoor
open Go.RowKit
set_option linter.unusedSimpArgs false
set_option linter.unusedVariables false
set_option maxRecDepth 100000

def mayP (tag last : Int) (n : Nat) : Int := if 255 < tag ∨ tag ≤ last then 1 else if 65536 < n then 2 else 0
theorem may_call (f : Fld) (last : Int) (w : World) : Calls Tryd.prog 156 #[.agg (encFld f), .int .i64 last] w fun e w' => e = .returned (.int .i64 (mayP f.tag last f.data.size)) ∧ Grew w w' := by
  unfold mayP
  by_cases h1 : 255 < f.tag
  · rw [if_pos (.inl h1)]
    go_enter Tryd.func156, Tryd.ntmps156
    go_wp2
    go_ret
    exact ⟨rfl, by (repeat (first | exact Grew.refl _ | refine Grew.alloc ?_ _ | refine Grew.drew ?_ | refine Grew.after (by assumption) ?_ | refine Grew.after (Old.grew (by assumption)) ?_))⟩
  · by_cases h2 : f.tag ≤ last
    · rw [if_pos (.inr h2)]
      go_enter Tryd.func156, Tryd.ntmps156
      go_wp2
      go_ret
      exact ⟨rfl, by (repeat (first | exact Grew.refl _ | refine Grew.alloc ?_ _ | refine Grew.drew ?_ | refine Grew.after (by assumption) ?_ | refine Grew.after (Old.grew (by assumption)) ?_))⟩
    · rw [if_neg (by omega)]
      by_cases h3 : 65536 < f.data.size
      all_goals
        simp only [h3, if_true, if_false]
        go_enter Tryd.func156, Tryd.ntmps156
        go_wp2
        go_ret
        exact ⟨rfl, by (repeat (first | exact Grew.refl _ | refine Grew.alloc ?_ _ | refine Grew.drew ?_ | refine Grew.after (by assumption) ?_ | refine Grew.after (Old.grew (by assumption)) ?_))⟩
/-- What appending, once or often, leaves. -/
def Pushed {α : Type} (base e size : Nat) (enc : α → Array Value) (w : World) (v : Value) (l2 : List α) (v' : Value) (w' : World) : Prop :=
  OwnL base e size enc w' v' l2 ∧ w.grownBy w' v.ownBlock ∧ Below base w w' ∧ (v'.ownBlock = v.ownBlock ∨ ∃ g, v'.ownBlock = some g ∧ w.heap.size ≤ g)
section
variable {α : Type} {base e size : Nat} {enc : α → Array Value} {w w1 w' : World} {v v1 v' : Value} {l l1 l2 : List α}
theorem Appended.pushed (h : Appended base e size enc w v l l2 v' w') : Pushed base e size enc w v l2 v' w' :=
  ⟨h.1, h.2.2.1, h.2.2.2.1, h.2.2.2.2.imp id fun h => ⟨_, h, Nat.le_refl _⟩⟩
theorem Pushed.trans (h : Pushed base e size enc w v l1 v1 w1) (k : Pushed base e size enc w1 v1 l2 v' w') : Pushed base e size enc w v l2 v' w' := by
  obtain ⟨h1, h2, h3, h4⟩ := h
  obtain ⟨k1, k2, k3, k4⟩ := k
  refine ⟨k1, ⟨k2.os.trans h2.os, k2.tape.trans h2.tape, k2.output.trans h2.output, Nat.le_trans h2.size k2.size, fun j hj hne => ?_⟩, h3.trans k3, ?_⟩
  · refine (k2.block j (Nat.lt_of_lt_of_le hj h2.size) fun e => ?_).trans (h2.block j hj hne)
    rcases h4 with h4 | ⟨g, h4, hg⟩
    · exact hne (e.trans h4)
    · have := Option.some.inj (e.trans h4); omega
  · rcases k4 with k4 | ⟨g, k4, hg⟩
    · rw [k4]; exact h4
    · exact .inr ⟨g, k4, Nat.le_trans h2.size hg⟩
theorem Pushed.pre (g : Grew w w1) (hb : base ≤ w.heap.size) (k : Pushed base e size enc w1 v l2 v' w') : Pushed base e size enc w v l2 v' w' := by
  obtain ⟨k1, k2, k3, k4⟩ := k
  have g' : Below w.heap.size w w1 := g
  refine ⟨k1, ⟨k2.os.trans g'.os, k2.tape.trans g'.tape, k2.output.trans g'.output, Nat.le_trans g'.size k2.size, fun j hj hne => (k2.block j (Nat.lt_of_lt_of_le hj g'.size) hne).trans (g'.block j hj)⟩, (Below.mono g' hb).trans k3, ?_⟩
  rcases k4 with k4 | ⟨x, k4, hg⟩
  · exact .inl k4
  · exact .inr ⟨x, k4, Nat.le_trans g'.size hg⟩
theorem Pushed.post (h : Pushed base e size enc w v l2 v' w1) (g : Grew w1 w') (hb : base ≤ w.heap.size) : Pushed base e size enc w v l2 v' w' := by
  obtain ⟨k1, k2, k3, k4⟩ := h
  have g' : Below w1.heap.size w1 w' := g
  exact ⟨k1.grew g, ⟨g'.os.trans k2.os, g'.tape.trans k2.tape, g'.output.trans k2.output, Nat.le_trans k2.size g'.size, fun j hj hne => (g'.block j (Nat.lt_of_lt_of_le hj k2.size)).trans (k2.block j hj hne)⟩, k3.trans (Below.mono g' (Nat.le_trans hb k2.size)), k4⟩
/-- Old cells and rows that are not the row's own are as they were. -/
theorem Pushed.far (h : Pushed base e size enc w v l2 v' w') {b : Nat} (hb : b < w.heap.size) (hne : some b ≠ v.ownBlock) : w'.heap[b]? = w.heap[b]? := h.2.1.block b hb hne
theorem Pushed.row (h : Pushed base e size enc w v l2 v' w') {b : Nat} (hb : b < w.heap.size) (hne : some b ≠ v.ownBlock) (off n : Nat) : w'.rowAt b off n = w.rowAt b off n := by unfold World.rowAt; rw [h.far hb hne]
theorem Pushed.cellf (h : Pushed base e size enc w v l2 v' w') {b : Nat} (hb : b < w.heap.size) (hne : some b ≠ v.ownBlock) (i : Nat) : w'.cell? ⟨b, i, none⟩ = w.cell? ⟨b, i, none⟩ := by unfold World.cell?; simp only [h.far hb hne]
end
theorem sl_hdr {w : World} {b : Nat} (tag : Int) (n : Nat) (h : w.heap[b]? = some (.cells #[Value.int .u8 (tag % 256), Value.int .u8 ((n : Int) / 65536 % 256), Value.int .u8 ((n : Int) / 256 % 256), Value.int .u8 ((n : Int) % 256)] 5 (0, 0))) :
    SlR 1 EB w (some ⟨b, 0, none⟩) (hdr tag n) := by
  obtain ⟨a, cap, hv, hs, _⟩ := (own_hdr (base := 0) tag n h (Nat.zero_le _)).form EB1 (by omega)
  cases hv
  exact hs
theorem put_call (f : Fld) (v : Value) (l : List UInt8) (base : Nat) (w : World) (hown : OwnB base w v l) (hb : base ≤ w.heap.size) (hl : l.length ≤ 500000000000) (hd : f.data.size ≤ 1000000000) :
    Calls Tryd.prog 157 #[v, .agg (encFld f)] w fun e w' => ∃ v', e = .returned v' ∧ Pushed base 5 1 EB w v (l ++ fieldB f.tag f.data.data.toList) v' w' := by
  have hc0 : (w.alloc (.cells (encFld f) 87)).cell? ⟨w.heap.size, 0, none⟩ = some (.int .i64 f.tag) := by rw [World.cell?_alloc_new]; simp [encFld, ap]
  have hc1 : (w.alloc (.cells (encFld f) 87)).cell? ⟨w.heap.size, 1, none⟩ = some (.string f.data) := by rw [World.cell?_alloc_new]; simp [encFld, ap]
  have hs1 : w.heap.size < (w.alloc (.cells (encFld f) 87)).heap.size := by simp
  have hh4 : (hdr f.tag f.data.size).length = 4 := rfl
  have hbo : some w.heap.size ≠ v.ownBlock := fun e => by have := (hown.lt _ e.symm).2; omega
  have ho : OwnB base (((w.alloc (.cells (encFld f) 87)).alloc (.cells #[Value.int .u8 (f.tag % 256), Value.int .u8 ((f.data.size : Int) / 65536 % 256), Value.int .u8 ((f.data.size : Int) / 256 % 256), Value.int .u8 ((f.data.size : Int) % 256)] 5 (0, 0))).drew) v l := (((hown.alloc _).alloc _).drew)
  have hbk : (((w.alloc (.cells (encFld f) 87)).alloc (.cells #[Value.int .u8 (f.tag % 256), Value.int .u8 ((f.data.size : Int) / 65536 % 256), Value.int .u8 ((f.data.size : Int) / 256 % 256), Value.int .u8 ((f.data.size : Int) % 256)] 5 (0, 0))).drew).heap[w.heap.size + 1]? = some (.cells #[Value.int .u8 (f.tag % 256), Value.int .u8 ((f.data.size : Int) / 65536 % 256), Value.int .u8 ((f.data.size : Int) / 256 % 256), Value.int .u8 ((f.data.size : Int) % 256)] 5 (0, 0)) := by
    have h := heap_alloc_new (w.alloc (.cells (encFld f) 87)) (.cells #[Value.int .u8 (f.tag % 256), Value.int .u8 ((f.data.size : Int) / 65536 % 256), Value.int .u8 ((f.data.size : Int) / 256 % 256), Value.int .u8 ((f.data.size : Int) % 256)] 5 (0, 0))
    have e : (w.alloc (.cells (encFld f) 87)).heap.size = w.heap.size + 1 := by simp
    rw [← e]
    exact h
  have hb2 : base ≤ (((w.alloc (.cells (encFld f) 87)).alloc (.cells #[Value.int .u8 (f.tag % 256), Value.int .u8 ((f.data.size : Int) / 65536 % 256), Value.int .u8 ((f.data.size : Int) / 256 % 256), Value.int .u8 ((f.data.size : Int) % 256)] 5 (0, 0))).drew).heap.size := by simp; omega
  have hb3 : (((w.alloc (.cells (encFld f) 87)).alloc (.cells #[Value.int .u8 (f.tag % 256), Value.int .u8 ((f.data.size : Int) / 65536 % 256), Value.int .u8 ((f.data.size : Int) / 256 % 256), Value.int .u8 ((f.data.size : Int) % 256)] 5 (0, 0))).drew).heap.size = w.heap.size + 2 := by simp
  go_enter Tryd.func157, Tryd.ntmps157
  go_wp2
  go_region_held3 (fun w' => w'.cell? ⟨w.heap.size, 0, none⟩ = some (.int .i64 f.tag) ∧ w'.cell? ⟨w.heap.size, 1, none⟩ = some (.string f.data) ∧ w.heap.size < w'.heap.size)
    (refine ⟨?_, ?_, ?_⟩ <;> first | exact hc0 | exact hc1 | exact hs1 | assumption | (go_keep; done) | (simp; omega))
    ((first
      | (refine step_app (base := base) (l := l) (news := hdr f.tag f.data.size) (by rfl) _ _ (by rfl) elemBytes EB1 (by rfl) ho (by rfl) hh4 (sl_hdr f.tag f.data.size hbk) (fun h => by cases h) (by rw [hh4]; omega) (.inl (by omega)) hb2 ?_
         intro v1 w1 hap1
         have p1 := hap1.pushed
         obtain ⟨ho1, _, hg1, hb1, hv1⟩ := hap1
         have hn1 : some w.heap.size ≠ v1.ownBlock := fun e => by
           rcases hv1 with h | h
           · exact hbo (e.trans h)
           · have h3 := Option.some.inj (e.trans h); have h4 := h3.trans hb3; omega
         have k0 := hg1.cell (a := ⟨w.heap.size, 0, none⟩) (v := .int .i64 f.tag) (by go_keep) hbo
         have k1 := hg1.cell (a := ⟨w.heap.size, 1, none⟩) (v := .string f.data) (by go_keep) hbo
         have k2 : w.heap.size < w1.heap.size := by have := hg1.size; simp at this; omega)
      | (refine step_app_str (base := base) (by rfl) _ _ (by rfl) elemBytes strT zeroByte (by rfl) ho1 (by rfl) (by rw [List.length_append, hh4]; omega) (by omega) ?_
         intro v2 w2 hap2
         have p2 := hap2.pushed
         obtain ⟨ho2, _, hg2, hb4, _⟩ := hap2
         have k0' := hg2.cell (a := ⟨w.heap.size, 0, none⟩) (v := .int .i64 f.tag) (by assumption) hn1
         have k1' := hg2.cell (a := ⟨w.heap.size, 1, none⟩) (v := .string f.data) (by assumption) hn1
         have k2' : w.heap.size < w2.heap.size := by have := hg2.size; omega)))
  go_wp2
  go_ret
  refine ⟨_, rfl, ?_⟩
  have h3 := Pushed.pre ((((Grew.refl w).alloc _).alloc _).drew) hb (p1.trans p2)
  rw [List.append_assoc, show f.data.size = f.data.data.toList.length by simp] at h3
  exact h3
end Go.Proofs.YtoajianddmobaaaDoor
