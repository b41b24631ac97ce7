/- CONTRACTS: entry.Put, PutItem. -/
import Derived.Test.YtoajianddmobaaaDoorEn2
namespace Go.Proofs.YtoajianddmobaaaDoor
open Go.RowKit
set_option linter.unusedSimpArgs false
set_option linter.unusedVariables false
set_option maxRecDepth 100000

set_option maxHeartbeats 2000000 in
theorem entryPut_call (x : Entry) (w : World) : Calls Tryd.prog 22 #[.agg (encEntry x)] w fun e w' => ∃ v, e = .returned (.tuple #[v, .int .i64 (errIf 60 x.ok)]) ∧ OwnB w.heap.size w' v (entryB x) ∧ Grew w w' := by
  have hb0 := heap_alloc_new w (.cells (encEntry x) 37)
  cases hok : x.ok
  · go_enter Tryd.func22, Tryd.ntmps22
    go_wp2_with (go_at_call 26; refine (entryCheck_call _ _).mono ?_; rintro e w1 ⟨rfl, hg1⟩; rw [hok]; simp only [told])
    go_ret2
    refine ⟨_, rfl, ?_, by (repeat (first | exact Grew.refl _ | refine Grew.alloc ?_ _ | refine Grew.drew ?_ | refine Grew.after (by assumption) ?_ | refine Grew.after (Old.grew (by assumption)) ?_))⟩
    rw [entryB, if_neg (by simp [hok])]; exact OwnL.nil
  · have hlay := entry_lay hok
    have hkinds : (x.kind = 1 ∧ entryF x = [⟨1, str (numB 1)⟩, ⟨2, str (numB x.client)⟩, ⟨3, str (numB x.seq)⟩, ⟨4, x.text⟩]) ∨ (x.kind = 2 ∧ entryF x = [⟨1, str (numB 2)⟩, ⟨5, str (signedB x.head)⟩]) ∨ (x.kind = 3 ∧ entryF x = [⟨1, str (numB 3)⟩, ⟨6, str (claimB x.claim)⟩]) := by
      rcases Entry.ok_cases hok with ⟨c, s, t, rfl, -, -, -⟩ | ⟨s, rfl, -⟩ | ⟨c, rfl, -⟩
      · exact .inl ⟨rfl, rfl⟩
      · exact .inr (.inl ⟨rfl, rfl⟩)
      · exact .inr (.inr ⟨rfl, rfl⟩)
    have hB : entryB x = layR (entryF x) := if_pos hok
    rw [hB]
    rcases hkinds with ⟨hk, hF⟩ | ⟨hk, hF⟩ | ⟨hk, hF⟩
    · rw [hF] at hlay ⊢
      have hlay2 := hlay
      clear hF hlay
      go_enter Tryd.func22, Tryd.ntmps22
      go_wp2_with (first
      | (go_at_call 26; refine (entryCheck_call _ _).mono ?_; rintro e w1 ⟨rfl, hg1⟩; rw [hok]; simp only [told]; have hb1 := (hg1.block (by simp)).trans hb0; have hlt1 : w.heap.size < w1.heap.size := (Array.getElem?_eq_some_iff.1 hb1).1; have hb2 := (heap_alloc_old w1 (.cells #[.slice none 0 0] 112) hlt1).trans hb1; have hr1 := box_new (t := 112) (e := 87) (size := 2) (enc := encFld) w1; have hG1 : Below w.heap.size w (w1.alloc (.cells #[.slice none 0 0] 112)) := (((Grew.refl w).alloc _).trans hg1).alloc _; obtain ⟨c1, c2, c3, c4, c5⟩ := blk_facts hb2)
      | (go_at_call 71; refine (flds_n_call _ _ _ _ _ _ (by assumption) (by simp)).mono ?_; rintro e w2 ⟨rfl, hr2, hs2⟩; have hb2 := step_blk hs2 (b := w.heap.size) (o := .cells (encEntry x) 37 (0, 0)) (by assumption) (by intro hx; rcases hx with hx | hx <;> omega); have hG2 := step_below (n₀ := w.heap.size) (w := w) hs2 (by assumption) (Nat.le_refl _) (by intro k hk; rcases hk with hk | hk <;> omega); obtain ⟨c1, c2, c3, c4, c5⟩ := blk_facts hb2; have hr3 := hr2; obtain ⟨v, hvb, hvo, h8, h9⟩ := hr3; obtain ⟨av, cv, rfl, hsl, hlc, hnv, hpv⟩ := hvo.form F1 (by omega); clear hpv; obtain ⟨d1, d2, d3, d4, d5⟩ := blk_facts hvb; have d0 := cell_blk hvb)
      | (go_at_call 72; refine (flds_s_call _ _ _ _ _ _ (by assumption) (by simp)).mono ?_; rintro e w2 ⟨rfl, hr2, hs2⟩; have hb2 := step_blk hs2 (b := w.heap.size) (o := .cells (encEntry x) 37 (0, 0)) (by assumption) (by intro hx; rcases hx with hx | hx <;> omega); have hG2 := step_below (n₀ := w.heap.size) (w := w) hs2 (by assumption) (Nat.le_refl _) (by intro k hk; rcases hk with hk | hk <;> omega); obtain ⟨c1, c2, c3, c4, c5⟩ := blk_facts hb2; have hr3 := hr2; obtain ⟨v, hvb, hvo, h8, h9⟩ := hr3; obtain ⟨av, cv, rfl, hsl, hlc, hnv, hpv⟩ := hvo.form F1 (by omega); clear hpv; obtain ⟨d1, d2, d3, d4, d5⟩ := blk_facts hvb; have d0 := cell_blk hvb)
      | (go_at_call 73; refine (flds_bytes_call _ _ _ _ hsl (by simp)).mono ?_; rintro e w3 ⟨v3, rfl, ho3, hg3⟩; simp only [List.nil_append, List.cons_append] at ho3 ⊢; rw [hlay2]))
      go_ret2
      exact ⟨_, rfl, ho3.mono hG2.size, Below.trans hG2 (Below.mono hg3 hG2.size)⟩
    · rw [hF] at hlay ⊢
      have hlay2 := hlay
      clear hF hlay
      go_enter Tryd.func22, Tryd.ntmps22
      go_wp2_with (first
      | (go_at_call 26; refine (entryCheck_call _ _).mono ?_; rintro e w1 ⟨rfl, hg1⟩; rw [hok]; simp only [told]; have hb1 := (hg1.block (by simp)).trans hb0; have hlt1 : w.heap.size < w1.heap.size := (Array.getElem?_eq_some_iff.1 hb1).1; have hb2 := (heap_alloc_old w1 (.cells #[.slice none 0 0] 112) hlt1).trans hb1; have hr1 := box_new (t := 112) (e := 87) (size := 2) (enc := encFld) w1; have hG1 : Below w.heap.size w (w1.alloc (.cells #[.slice none 0 0] 112)) := (((Grew.refl w).alloc _).trans hg1).alloc _; obtain ⟨c1, c2, c3, c4, c5⟩ := blk_facts hb2)
      | (go_at_call 74; refine (headPutSigned_call _ _).mono ?_; rintro e w5 ⟨v5, rfl, ho5, hg5⟩; obtain ⟨a1, cp1, rfl, hce1, -, -⟩ := ho5.bytes; have hcv1 := bytes_str hce1 cp1; have hr6 := hr2.grew hg5; have hb6 := (hg5.block c5).trans hb2; obtain ⟨c1, c2, c3, c4, c5⟩ := blk_facts hb6; have hG6 : Below w.heap.size w w5 := Below.trans hG2 (Below.mono hg5 hG2.size))
      | (go_at_call 71; refine (flds_n_call _ _ _ _ _ _ (by assumption) (by simp)).mono ?_; rintro e w2 ⟨rfl, hr2, hs2⟩; have hb2 := step_blk hs2 (b := w.heap.size) (o := .cells (encEntry x) 37 (0, 0)) (by assumption) (by intro hx; rcases hx with hx | hx <;> omega); have hG2 := step_below (n₀ := w.heap.size) (w := w) hs2 (by assumption) (Nat.le_refl _) (by intro k hk; rcases hk with hk | hk <;> omega); obtain ⟨c1, c2, c3, c4, c5⟩ := blk_facts hb2; have hr3 := hr2; obtain ⟨v, hvb, hvo, h8, h9⟩ := hr3; obtain ⟨av, cv, rfl, hsl, hlc, hnv, hpv⟩ := hvo.form F1 (by omega); clear hpv; obtain ⟨d1, d2, d3, d4, d5⟩ := blk_facts hvb; have d0 := cell_blk hvb)
      | (go_at_call 72; refine (flds_s_call _ _ _ _ _ _ (by assumption) (by simp)).mono ?_; rintro e w2 ⟨rfl, hr2, hs2⟩; have hb2 := step_blk hs2 (b := w.heap.size) (o := .cells (encEntry x) 37 (0, 0)) (by assumption) (by intro hx; rcases hx with hx | hx <;> omega); have hG2 := step_below (n₀ := w.heap.size) (w := w) hs2 (by assumption) (Nat.le_refl _) (by intro k hk; rcases hk with hk | hk <;> omega); obtain ⟨c1, c2, c3, c4, c5⟩ := blk_facts hb2; have hr3 := hr2; obtain ⟨v, hvb, hvo, h8, h9⟩ := hr3; obtain ⟨av, cv, rfl, hsl, hlc, hnv, hpv⟩ := hvo.form F1 (by omega); clear hpv; obtain ⟨d1, d2, d3, d4, d5⟩ := blk_facts hvb; have d0 := cell_blk hvb)
      | (go_at_call 73; refine (flds_bytes_call _ _ _ _ hsl (by simp)).mono ?_; rintro e w3 ⟨v3, rfl, ho3, hg3⟩; simp only [List.nil_append, List.cons_append] at ho3 ⊢; rw [hlay2]))
      go_ret2
      exact ⟨_, rfl, ho3.mono hG2.size, Below.trans hG2 (Below.mono hg3 hG2.size)⟩
    · rw [hF] at hlay ⊢
      have hlay2 := hlay
      clear hF hlay
      go_enter Tryd.func22, Tryd.ntmps22
      go_wp2_with (first
      | (go_at_call 26; refine (entryCheck_call _ _).mono ?_; rintro e w1 ⟨rfl, hg1⟩; rw [hok]; simp only [told]; have hb1 := (hg1.block (by simp)).trans hb0; have hlt1 : w.heap.size < w1.heap.size := (Array.getElem?_eq_some_iff.1 hb1).1; have hb2 := (heap_alloc_old w1 (.cells #[.slice none 0 0] 112) hlt1).trans hb1; have hr1 := box_new (t := 112) (e := 87) (size := 2) (enc := encFld) w1; have hG1 : Below w.heap.size w (w1.alloc (.cells #[.slice none 0 0] 112)) := (((Grew.refl w).alloc _).trans hg1).alloc _; obtain ⟨c1, c2, c3, c4, c5⟩ := blk_facts hb2)
      | (go_at_call 21; refine (putClaim_call _ _).mono ?_; rintro e w5 ⟨v5, rfl, ho5, hg5⟩; obtain ⟨a1, cp1, rfl, hce1, -, -⟩ := ho5.bytes; have hcv1 := bytes_str hce1 cp1; have hr6 := hr2.grew hg5; have hb6 := (hg5.block c5).trans hb2; obtain ⟨c1, c2, c3, c4, c5⟩ := blk_facts hb6; have hG6 : Below w.heap.size w w5 := Below.trans hG2 (Below.mono hg5 hG2.size))
      | (go_at_call 71; refine (flds_n_call _ _ _ _ _ _ (by assumption) (by simp)).mono ?_; rintro e w2 ⟨rfl, hr2, hs2⟩; have hb2 := step_blk hs2 (b := w.heap.size) (o := .cells (encEntry x) 37 (0, 0)) (by assumption) (by intro hx; rcases hx with hx | hx <;> omega); have hG2 := step_below (n₀ := w.heap.size) (w := w) hs2 (by assumption) (Nat.le_refl _) (by intro k hk; rcases hk with hk | hk <;> omega); obtain ⟨c1, c2, c3, c4, c5⟩ := blk_facts hb2; have hr3 := hr2; obtain ⟨v, hvb, hvo, h8, h9⟩ := hr3; obtain ⟨av, cv, rfl, hsl, hlc, hnv, hpv⟩ := hvo.form F1 (by omega); clear hpv; obtain ⟨d1, d2, d3, d4, d5⟩ := blk_facts hvb; have d0 := cell_blk hvb)
      | (go_at_call 72; refine (flds_s_call _ _ _ _ _ _ (by assumption) (by simp)).mono ?_; rintro e w2 ⟨rfl, hr2, hs2⟩; have hb2 := step_blk hs2 (b := w.heap.size) (o := .cells (encEntry x) 37 (0, 0)) (by assumption) (by intro hx; rcases hx with hx | hx <;> omega); have hG2 := step_below (n₀ := w.heap.size) (w := w) hs2 (by assumption) (Nat.le_refl _) (by intro k hk; rcases hk with hk | hk <;> omega); obtain ⟨c1, c2, c3, c4, c5⟩ := blk_facts hb2; have hr3 := hr2; obtain ⟨v, hvb, hvo, h8, h9⟩ := hr3; obtain ⟨av, cv, rfl, hsl, hlc, hnv, hpv⟩ := hvo.form F1 (by omega); clear hpv; obtain ⟨d1, d2, d3, d4, d5⟩ := blk_facts hvb; have d0 := cell_blk hvb)
      | (go_at_call 73; refine (flds_bytes_call _ _ _ _ hsl (by simp)).mono ?_; rintro e w3 ⟨v3, rfl, ho3, hg3⟩; simp only [List.nil_append, List.cons_append] at ho3 ⊢; rw [hlay2]))
      go_ret2
      exact ⟨_, rfl, ho3.mono hG2.size, Below.trans hG2 (Below.mono hg3 hG2.size)⟩
end Go.Proofs.YtoajianddmobaaaDoor
