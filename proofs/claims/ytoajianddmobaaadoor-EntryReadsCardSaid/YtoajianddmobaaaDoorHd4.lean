/- CONTRACTS: head.row.digest, head.of. -/
import Derived.Test.YtoajianddmobaaaDoorCpy
namespace Go.Proofs.YtoajianddmobaaaDoor
open Go.RowKit
set_option linter.unusedSimpArgs false
set_option linter.unusedVariables false
set_option maxRecDepth 100000

theorem StepX.putRow {X : Nat → Prop} (A : World) (b off : Nat) (new : Array Value) (h : X b) : StepX X A (A.putRow b off new) := ⟨rfl, rfl, rfl, by simp, fun k hk hx => heap_putRow_other (fun e => hx (e ▸ h))⟩
theorem StepX.putFresh {X : Nat → Prop} {w A : World} (h : StepX X w A) {b : Nat} (hb : w.heap.size ≤ b) (off : Nat) (new : Array Value) : StepX X w (A.putRow b off new) :=
  ⟨h.os, h.tape, h.output, by rw [size_putRow]; exact h.size, fun k hk hx => (heap_putRow_other (by omega)).trans (h.block k hk hx)⟩
set_option maxHeartbeats 2000000 in
theorem digest_call (B : Nat → Prop) (l : List ByteArray) (ok : Bool) (rb kb : Nat) (w : World) (hBw : ∀ k, B k → k < w.heap.size) (h : RowSt B w rb kb l ok) (hm : l.length ≤ 1000000000) :
    Calls Tryd.prog 116 #[.pointer (some ⟨rb, 0, none⟩), .pointer (some ⟨kb, 0, none⟩)] w fun e w' => ∃ d : Dig, e = .returned (.agg (encDig d)) ∧ RowSt B w' rb kb l.tail (ok && !l.isEmpty && (hd l).size == 32) ∧ StepX (fun k => k = rb ∨ k = kb) w w' ∧ ((ok && !l.isEmpty && (hd l).size == 32) = true → d.toList = (hd l).data.toList) := by
  have hrb : rb < w.heap.size := by obtain ⟨a, cap, h1, h2, _⟩ := h; exact (Array.getElem?_eq_some_iff.1 h1).1
  have hkb : kb < w.heap.size := by obtain ⟨a, cap, h1, h2, _⟩ := h; exact (Array.getElem?_eq_some_iff.1 h2).1
  have hA := heap_alloc_new (w.alloc (.cells (encDig Dig.zero) 25)) (.cells (encDig Dig.zero) 25)
  rw [World.size_alloc] at hA
  have hA0 := (heap_alloc_old (w.alloc (.cells (encDig Dig.zero) 25)) (.cells (encDig Dig.zero) 25) (show w.heap.size < _ by simp)).trans (heap_alloc_new w (.cells (encDig Dig.zero) 25))
  have gW : Grew w ((w.alloc (.cells (encDig Dig.zero) 25)).alloc (.cells (encDig Dig.zero) 25)) := ((Grew.refl w).alloc _).alloc _
  have h' := h.grew gW
  have ne1 : w.heap.size + 1 ≠ kb := by omega
  have ne2 : w.heap.size ≠ kb := by omega
  have ne3 : kb ≠ w.heap.size + 1 := by omega
  cases hok : (ok && !l.isEmpty)
  · go_enter Tryd.func116, Tryd.ntmps116
    go_wp2_with (first
      | (go_at_call 114; refine (next_call _ _ _ _ _ _ h' hm).mono ?_; rintro e w1 ⟨rfl, hr1, hs1⟩; rw [hok] at hr1; have hr3 := hr1; obtain ⟨a2, cp2, e1, e2, e3, -⟩ := hr3; obtain ⟨d1, d2, d3, d4, d5⟩ := blk_facts e2; have d0 := cell_blk e2;
          have hA1 := step_blk hs1 hA (by intro hx; rcases hx with hx | hx <;> omega); have hA2 := step_blk hs1 hA0 (by intro hx; rcases hx with hx | hx <;> omega); obtain ⟨m1, m2, m3, m4, m5⟩ := blk_facts hA1; obtain ⟨n1, n2, n3, n4, n5⟩ := blk_facts hA2))
    ((try simp only [Exit.inBlock, Exit.then]); refine bodyPost_ret (rv_one rfl (.row (by rfl) agg_Digest siz_Digest (rowAt_put ((rowAt_setCell_ne ne2).trans ((n3 0 32).trans (encDig_row _))) (encDig_size _)) .nil)) rfl ?_)
    refine ⟨Dig.zero, rfl, ?_, ?_, by simp⟩
    · exact (hr1.setOk false).step (StepX.putRow (X := fun k => k = w.heap.size) _ _ _ _ rfl) (by omega) (by omega) (fun k hk hb => by have := hBw k hb; omega)
    · exact (((StepX.grew gW).trans hs1).trans (StepX.setCell _ ⟨kb, 0, none⟩ _ (.inr rfl))).putFresh (Nat.le_refl _) _ _
  · have hs9 : (hd l).data.toList.length = (hd l).size := by simp
    by_cases hz : (hd l).size = 32
    · have r1 : (true && (hd l).size == 32) = true := by simp [hz]
      go_enter Tryd.func116, Tryd.ntmps116
      go_wp2_with (first
        | (go_at_call 114; refine (next_call _ _ _ _ _ _ h' hm).mono ?_; rintro e w1 ⟨rfl, hr1, hs1⟩; rw [hok] at hr1; have hr3 := hr1; obtain ⟨a2, cp2, e1, e2, e3, -⟩ := hr3; obtain ⟨d1, d2, d3, d4, d5⟩ := blk_facts e2; have d0 := cell_blk e2;
            have hA1 := step_blk hs1 hA (by intro hx; rcases hx with hx | hx <;> omega); have hA2 := step_blk hs1 hA0 (by intro hx; rcases hx with hx | hx <;> omega); obtain ⟨m1, m2, m3, m4, m5⟩ := blk_facts hA1; obtain ⟨n1, n2, n3, n4, n5⟩ := blk_facts hA2))
      ((try simp only [Exit.inBlock, Exit.then]); refine bodyPost_ret (rv_one rfl (.row (by rfl) agg_Digest siz_Digest (rowAt_put ((rowAt_setCell_ne ne2).trans ((rowAt_putRow_ne (by omega)).trans ((n3 0 32).trans (encDig_row _)))) (encDig_size _)) .nil)) rfl ?_)
      refine ⟨_, rfl, ?_, ?_, ?_⟩
      · rw [r1]
        exact (((hr1.step (StepX.putRow (X := fun k => k = w.heap.size + 1) _ _ _ _ rfl) (by omega) (by omega) (fun k hk hb => by have := hBw k hb; omega)).setOk true).step (StepX.putRow (X := fun k => k = w.heap.size) _ _ _ _ rfl) (by omega) (by omega) (fun k hk hb => by have := hBw k hb; omega))
      · exact (((((StepX.grew gW).trans hs1).putFresh (by omega) _ _).trans (StepX.setCell _ ⟨kb, 0, none⟩ _ (.inr rfl))).putFresh (Nat.le_refl _) _ _)
      · exact fun _ => digPut_full _ _ (by omega)
    · have r1 : (true && (hd l).size == 32) = false := by simp [hz]
      have z2 : (((hd l).size : Int) == 32) = false := by rw [beq_eq_false_iff_ne]; omega
      have z3 : ((hd l).size == 32) = false := by rw [beq_eq_false_iff_ne]; exact hz
      rcases Nat.lt_or_ge (hd l).size 32 with hlt | hge
      · have z4 : min (hd l).size 32 = (hd l).size := by omega
        clear hz
        go_enter Tryd.func116, Tryd.ntmps116
        go_wp2_with (first
          | (go_at_call 114; refine (next_call _ _ _ _ _ _ h' hm).mono ?_; rintro e w1 ⟨rfl, hr1, hs1⟩; rw [hok] at hr1; have hr3 := hr1; obtain ⟨a2, cp2, e1, e2, e3, -⟩ := hr3; obtain ⟨d1, d2, d3, d4, d5⟩ := blk_facts e2; have d0 := cell_blk e2;
              have hA1 := step_blk hs1 hA (by intro hx; rcases hx with hx | hx <;> omega); have hA2 := step_blk hs1 hA0 (by intro hx; rcases hx with hx | hx <;> omega); obtain ⟨m1, m2, m3, m4, m5⟩ := blk_facts hA1; obtain ⟨n1, n2, n3, n4, n5⟩ := blk_facts hA2))
        ((try simp only [Exit.inBlock, Exit.then]); refine bodyPost_ret (rv_one rfl (.row (by rfl) agg_Digest siz_Digest (rowAt_put ((rowAt_setCell_ne ne2).trans ((rowAt_putRow_ne (by omega)).trans ((n3 0 32).trans (encDig_row _)))) (encDig_size _)) .nil)) rfl ?_)
        refine ⟨_, rfl, ?_, ?_, ?_⟩
        · rw [r1]
          exact (((hr1.step (StepX.putRow (X := fun k => k = w.heap.size + 1) _ _ _ _ rfl) (by omega) (by omega) (fun k hk hb => by have := hBw k hb; omega)).setOk false).step (StepX.putRow (X := fun k => k = w.heap.size) _ _ _ _ rfl) (by omega) (by omega) (fun k hk hb => by have := hBw k hb; omega))
        · exact (((((StepX.grew gW).trans hs1).putFresh (by omega) _ _).trans (StepX.setCell _ ⟨kb, 0, none⟩ _ (.inr rfl))).putFresh (Nat.le_refl _) _ _)
        · rw [r1]; exact fun h => by cases h
      · have z4 : min (hd l).size 32 = 32 := by omega
        have z5 : ((32 : Int) == ((hd l).size : Int)) = false := by rw [beq_eq_false_iff_ne]; omega
        have z6 : (32 == (hd l).size) = false := by rw [beq_eq_false_iff_ne]; omega
        clear hz
        go_enter Tryd.func116, Tryd.ntmps116
        go_wp2_with (first
          | (go_at_call 114; refine (next_call _ _ _ _ _ _ h' hm).mono ?_; rintro e w1 ⟨rfl, hr1, hs1⟩; rw [hok] at hr1; have hr3 := hr1; obtain ⟨a2, cp2, e1, e2, e3, -⟩ := hr3; obtain ⟨d1, d2, d3, d4, d5⟩ := blk_facts e2; have d0 := cell_blk e2;
              have hA1 := step_blk hs1 hA (by intro hx; rcases hx with hx | hx <;> omega); have hA2 := step_blk hs1 hA0 (by intro hx; rcases hx with hx | hx <;> omega); obtain ⟨m1, m2, m3, m4, m5⟩ := blk_facts hA1; obtain ⟨n1, n2, n3, n4, n5⟩ := blk_facts hA2))
        ((try simp only [Exit.inBlock, Exit.then]); refine bodyPost_ret (rv_one rfl (.row (by rfl) agg_Digest siz_Digest (rowAt_put ((rowAt_setCell_ne ne2).trans ((rowAt_putRow_ne (by omega)).trans ((n3 0 32).trans (encDig_row _)))) (encDig_size _)) .nil)) rfl ?_)
        refine ⟨_, rfl, ?_, ?_, ?_⟩
        · rw [r1]
          exact (((hr1.step (StepX.putRow (X := fun k => k = w.heap.size + 1) _ _ _ _ rfl) (by omega) (by omega) (fun k hk hb => by have := hBw k hb; omega)).setOk false).step (StepX.putRow (X := fun k => k = w.heap.size) _ _ _ _ rfl) (by omega) (by omega) (fun k hk hb => by have := hBw k hb; omega))
        · exact (((((StepX.grew gW).trans hs1).putFresh (by omega) _ _).trans (StepX.setCell _ ⟨kb, 0, none⟩ _ (.inr rfl))).putFresh (Nat.le_refl _) _ _)
        · rw [r1]; exact fun h => by cases h
end Go.Proofs.YtoajianddmobaaaDoor
