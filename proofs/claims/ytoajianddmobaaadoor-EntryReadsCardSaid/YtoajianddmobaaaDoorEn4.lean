/- CONTRACTS: entry.PutItem. -/
import Derived.Test.YtoajianddmobaaaDoorEn3
namespace Go.Proofs.YtoajianddmobaaaDoor
open Go.RowKit
set_option linter.unusedSimpArgs false
set_option linter.unusedVariables false
set_option maxRecDepth 100000

set_option maxHeartbeats 2000000 in
theorem putItem_call (x : Item) (w : World) : Calls Tryd.prog 23 #[.agg (encItem x)] w fun e w' => ∃ v, e = .returned (.tuple #[v, .int .i64 (errIf 60 x.ok)]) ∧ OwnB w.heap.size w' v (itemB x) ∧ Grew w w' := by
  have hb0 := heap_alloc_new w (.cells (encItem x) 41)
  cases hE : x.entry.ok
  · have hok : x.ok = false := by simp [Item.ok, hE]
    rw [hok]
    go_enter Tryd.func23, Tryd.ntmps23
    go_wp2_with (go_at_call 22; refine (entryPut_call _ _).mono ?_; rintro e w1 ⟨v1, rfl, ho1, hg1⟩; rw [hE]; simp only [errIf])
    go_ret2
    refine ⟨_, rfl, ?_, by (repeat (first | exact Grew.refl _ | refine Grew.alloc ?_ _ | refine Grew.drew ?_ | refine Grew.after (by assumption) ?_ | refine Grew.after (Old.grew (by assumption)) ?_))⟩
    rw [itemB, if_neg (by simp [hok])]; exact OwnL.nil
  · cases hN : within x.epoch 1 900000000
    · have hok : x.ok = false := by simp [Item.ok, hN]
      rw [hok]
      go_enter Tryd.func23, Tryd.ntmps23
      go_wp2_with (first
        | (go_at_call 22; refine (entryPut_call _ _).mono ?_; rintro e w1 ⟨v1, rfl, ho1, hg1⟩; rw [hE]; simp only [errIf]; have hb1 := (hg1.block (by simp)).trans hb0; obtain ⟨c1, c2, c3, c4, c5⟩ := blk_facts hb1)
        | (go_at_call 75; refine (within_1 _ _ _ _).mono ?_; rintro e w' ⟨rfl, rfl⟩; rw [hN]))
      go_ret2
      refine ⟨_, rfl, ?_, by (repeat (first | exact Grew.refl _ | refine Grew.alloc ?_ _ | refine Grew.drew ?_ | refine Grew.after (by assumption) ?_ | refine Grew.after (Old.grew (by assumption)) ?_))⟩
      rw [itemB, if_neg (by simp [hok])]; exact OwnL.nil
    · have hok : x.ok = true := by simp [Item.ok, hE, hN]
      have hlay : layE 0 (rowFrom 0 (itemRow x)) = 0 := by simpa using rowFrom_lay (itemRow x) 0 (by simp [itemRow]) (item_row_ok hok)
      have hB : itemB x = layR (rowFrom 0 (itemRow x)) := if_pos hok
      have hF : rowFrom 0 (itemRow x) = [⟨1, str (numB x.epoch)⟩, ⟨2, str (entryB x.entry)⟩] := rfl
      rw [hok, hB]
      rw [hF] at hlay ⊢
      have hlay2 := hlay
      clear hF hlay hB
      go_enter Tryd.func23, Tryd.ntmps23
      go_wp2_with (first
        | (go_at_call 22; refine (entryPut_call _ _).mono ?_; rintro e w1 ⟨v1, rfl, ho1, hg1⟩; rw [hE]; simp only [errIf]; have hb1 := (hg1.block (by simp)).trans hb0; have hlt1 : w.heap.size < w1.heap.size := (Array.getElem?_eq_some_iff.1 hb1).1; obtain ⟨c1, c2, c3, c4, c5⟩ := blk_facts hb1; obtain ⟨a1, cp1, rfl, hce1, hlc1, hp1⟩ := ho1.ce EB1;
            have hr1 := box_new (t := 112) (e := 87) (size := 2) (enc := encFld) w1; have hce2 := hce1.grew ((Grew.refl w1).alloc (.cells #[.slice none 0 0] 112)); have hG1 : Below w.heap.size w (w1.alloc (.cells #[.slice none 0 0] 112)) := (((Grew.refl w).alloc _).trans hg1).alloc _; have hb2 := (heap_alloc_old w1 (.cells #[.slice none 0 0] 112) hlt1).trans hb1;
            have hP1 : ∀ p, a1 = some p → ¬ (p.block = w1.heap.size ∨ w1.heap.size + 1 ≤ p.block) := (fun p hp => by have := (hp1 p hp).2; omega); obtain ⟨c1, c2, c3, c4, c5⟩ := blk_facts hb2)
        | (go_at_call 75; refine (within_1 _ _ _ _).mono ?_; rintro e w' ⟨rfl, rfl⟩; rw [hN])
        | (go_at_call 71; refine (flds_n_call _ _ _ _ _ _ hr1 (by simp)).mono ?_; rintro e w2 ⟨rfl, hr2, hs2⟩; have hcv2 := bytes_str (hce2.stepX hs2 hP1) cp1; have hb4 := step_blk hs2 hb2 (by omega); have hG2 := step_below (n₀ := w.heap.size) (w := w) hs2 hG1 (Nat.le_refl _) (by intro k hk; rcases hk with hk | hk <;> omega); have hr3 := hr2; obtain ⟨v, hvb, hvo, h8, h9⟩ := hr3; obtain ⟨av, cv, rfl, hsl, hlc, hnv, hpv⟩ := hvo.form F1 (by omega); clear hpv; obtain ⟨d1, d2, d3, d4, d5⟩ := blk_facts hvb; have d0 := cell_blk hvb)
        | (go_at_call 72; refine (flds_s_call _ _ _ _ _ _ hr2 (by simp)).mono ?_; rintro e w3 ⟨rfl, hr2, hs3⟩; have hG3 := step_below (n₀ := w.heap.size) (w := w) hs3 hG2 (Nat.le_refl _) (by intro k hk; rcases hk with hk | hk <;> omega); have hr3 := hr2; obtain ⟨v, hvb, hvo, h8, h9⟩ := hr3; obtain ⟨av, cv, rfl, hsl, hlc, hnv, hpv⟩ := hvo.form F1 (by omega); clear hpv; obtain ⟨d1, d2, d3, d4, d5⟩ := blk_facts hvb; have d0 := cell_blk hvb)
        | (go_at_call 73; refine (flds_bytes_call _ _ _ _ hsl (by simp)).mono ?_; rintro e w4 ⟨v3, rfl, ho3, hg3⟩; simp only [List.nil_append, List.cons_append] at ho3 ⊢; rw [hlay2]))
      go_ret2
      exact ⟨_, rfl, ho3.mono hG3.size, Below.trans hG3 (Below.mono hg3 hG3.size)⟩
end Go.Proofs.YtoajianddmobaaaDoor
