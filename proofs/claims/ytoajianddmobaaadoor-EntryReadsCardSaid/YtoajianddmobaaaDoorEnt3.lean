/- CONTRACTS: estreatref08.Right and RightItem come to 'Entry.ok', 'Item.ok'. No condition. -/
import Derived.Test.YtoajianddmobaaaDoorEnt2
namespace Go.Proofs.YtoajianddmobaaaDoor
open Go.RowKit
set_option linter.unusedSimpArgs false
set_option linter.unusedVariables false
theorem empty_str (s : ByteArray) : (s.toList = []) = (s = ByteArray.empty) := by
  have h := str_eq s ByteArray.empty
  have e : ByteArray.empty.toList = [] := by rw [ByteArray.toList_eq]; rfl
  rw [e] at h
  by_cases hs : s = ByteArray.empty
  · subst hs; simp [e]
  · simp [hs] at h; simp [hs, h]
theorem right08_1 (x : Entry) (w : World) (h : x.kind = 1) : Calls Tryd.prog 65 #[.agg (encEntry x)] w fun e w' => e = .returned (.bool x.ok) ∧ Grew w w' := by
  have hb1 : (x.kind == 1) = true := by simp [h]
  have H := Lib.hid h; clear h
  go_enter Tryd.func65, Tryd.ntmps65
  go_wp2_with (first | (go_at_call 111; refine (within_6 _ _ _ _).mono ?_; rintro e w' ⟨rfl, rfl⟩) | (go_at_call 120; refine (may07_call _ _).mono ?_; rintro e w1 ⟨rfl, hg⟩; have hf := hg.facts) | (go_at_call 59; refine (rightClaim_call _ _).mono ?_; rintro e w1 ⟨rfl, hg⟩; have hf := hg.facts))
  all_goals
    go_ret
    refine ⟨ret_bool ?_, ?_⟩
    rotate_left
    (repeat (first | exact Grew.refl _ | refine Grew.alloc ?_ _ | refine Grew.drew ?_ | refine Grew.after (by assumption) ?_ | refine Grew.after (Old.grew (by assumption)) ?_))
    have h := H.out
    clear H hb1
    try clear hf hg
    simp_all [Entry.ok, empty_str]
  all_goals (first | done | (intro h9; exfalso; omega))

theorem right08_2 (x : Entry) (w : World) (h : x.kind = 2) : Calls Tryd.prog 65 #[.agg (encEntry x)] w fun e w' => e = .returned (.bool x.ok) ∧ Grew w w' := by
  have hb1 : (x.kind == 1) = false := by simp [h]
  have hb2 : (x.kind == 2) = true := by simp [h]
  have H := Lib.hid h; clear h
  go_enter Tryd.func65, Tryd.ntmps65
  go_wp2_with (first | (go_at_call 111; refine (within_6 _ _ _ _).mono ?_; rintro e w' ⟨rfl, rfl⟩) | (go_at_call 120; refine (may07_call _ _).mono ?_; rintro e w1 ⟨rfl, hg⟩; have hf := hg.facts) | (go_at_call 59; refine (rightClaim_call _ _).mono ?_; rintro e w1 ⟨rfl, hg⟩; have hf := hg.facts))
  all_goals
    go_ret
    refine ⟨ret_bool ?_, ?_⟩
    rotate_left
    (repeat (first | exact Grew.refl _ | refine Grew.alloc ?_ _ | refine Grew.drew ?_ | refine Grew.after (by assumption) ?_ | refine Grew.after (Old.grew (by assumption)) ?_))
    have h := H.out
    clear H hb1 hb2
    try clear hf hg
    simp_all [Entry.ok, empty_str]

theorem right08_3 (x : Entry) (w : World) (h : x.kind = 3) : Calls Tryd.prog 65 #[.agg (encEntry x)] w fun e w' => e = .returned (.bool x.ok) ∧ Grew w w' := by
  have hb1 : (x.kind == 1) = false := by simp [h]
  have hb2 : (x.kind == 2) = false := by simp [h]
  have hb3 : (x.kind == 3) = true := by simp [h]
  have H := Lib.hid h; clear h
  go_enter Tryd.func65, Tryd.ntmps65
  go_wp2_with (first | (go_at_call 111; refine (within_6 _ _ _ _).mono ?_; rintro e w' ⟨rfl, rfl⟩) | (go_at_call 120; refine (may07_call _ _).mono ?_; rintro e w1 ⟨rfl, hg⟩; have hf := hg.facts) | (go_at_call 59; refine (rightClaim_call _ _).mono ?_; rintro e w1 ⟨rfl, hg⟩; have hf := hg.facts))
  all_goals
    go_ret
    refine ⟨ret_bool ?_, ?_⟩
    rotate_left
    (repeat (first | exact Grew.refl _ | refine Grew.alloc ?_ _ | refine Grew.drew ?_ | refine Grew.after (by assumption) ?_ | refine Grew.after (Old.grew (by assumption)) ?_))
    have h := H.out
    clear H hb1 hb2 hb3
    try clear hf hg
    simp_all [Entry.ok, empty_str]

theorem right08_0 (x : Entry) (w : World) (h1 : x.kind ≠ 1) (h2 : x.kind ≠ 2) (h3 : x.kind ≠ 3) : Calls Tryd.prog 65 #[.agg (encEntry x)] w fun e w' => e = .returned (.bool x.ok) ∧ Grew w w' := by
  have hb1 : (x.kind == 1) = false := by simp [h1]
  have hb2 : (x.kind == 2) = false := by simp [h2]
  have hb3 : (x.kind == 3) = false := by simp [h3]
  have hk : x.ok = false := by simp [Entry.ok, h1, h2, h3]
  have H := Lib.hid hk; clear hk h1 h2 h3
  go_enter Tryd.func65, Tryd.ntmps65
  go_wp2_with (first | (go_at_call 111; refine (within_6 _ _ _ _).mono ?_; rintro e w' ⟨rfl, rfl⟩) | (go_at_call 120; refine (may07_call _ _).mono ?_; rintro e w1 ⟨rfl, hg⟩; have hf := hg.facts) | (go_at_call 59; refine (rightClaim_call _ _).mono ?_; rintro e w1 ⟨rfl, hg⟩; have hf := hg.facts))
  go_ret
  refine ⟨ret_bool (by rw [H.out]), ?_⟩
  (repeat (first | exact Grew.refl _ | refine Grew.alloc ?_ _ | refine Grew.drew ?_ | refine Grew.after (by assumption) ?_ | refine Grew.after (Old.grew (by assumption)) ?_))

theorem right08_call (x : Entry) (w : World) : Calls Tryd.prog 65 #[.agg (encEntry x)] w fun e w' => e = .returned (.bool x.ok) ∧ Grew w w' := by
  by_cases h1 : x.kind = 1
  · exact right08_1 x w h1
  · by_cases h2 : x.kind = 2
    · exact right08_2 x w h2
    · by_cases h3 : x.kind = 3
      · exact right08_3 x w h3
      · exact right08_0 x w h1 h2 h3

theorem rightItem_call (x : Item) (w : World) : Calls Tryd.prog 69 #[.agg (encItem x)] w fun e w' => e = .returned (.bool x.ok) ∧ Grew w w' := by
  go_enter Tryd.func69, Tryd.ntmps69
  go_wp2_with (first | (go_at_call 111; refine (within_6 _ _ _ _).mono ?_; rintro e w' ⟨rfl, rfl⟩) | (go_at_call 65; refine (right08_call _ _).mono ?_; rintro e w1 ⟨rfl, hg⟩; have hf := hg.facts))
  all_goals
    go_ret
    refine ⟨ret_bool ?_, ?_⟩
    rotate_left
    (repeat (first | exact Grew.refl _ | refine Grew.alloc ?_ _ | refine Grew.drew ?_ | refine Grew.after (by assumption) ?_ | refine Grew.after (Old.grew (by assumption)) ?_))
    try clear hf hg
    simp_all [Item.ok]
end Go.Proofs.YtoajianddmobaaaDoor
