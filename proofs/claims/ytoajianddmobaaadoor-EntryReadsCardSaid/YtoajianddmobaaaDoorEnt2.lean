/- CONTRACTS: entry.Check and history.right, by the program: told of 'Entry.ok', 'Item.ok'. No condition. -/
import Derived.Test.YtoajianddmobaaaDoorEnt
namespace Go.Proofs.YtoajianddmobaaaDoor
open Go.RowKit
set_option linter.unusedSimpArgs false
set_option linter.unusedVariables false
theorem ret_told {a b : Bool} (h : a = b) : Ending.returned (.int .i64 (told a)) = .returned (.int .i64 (told b)) := by rw [h]
theorem ret_bool {a b : Bool} (h : a = b) : Ending.returned (.bool a) = .returned (.bool b) := by rw [h]
theorem ret_i {a b : Int} (h : a = b) : Ending.returned (.int .i64 a) = .returned (.int .i64 b) := by rw [h]
theorem err_ok (n : Int) (hn : n ≠ 0) (b : Bool) : (errIf n b == 0) = b := by cases b <;> simp [errIf, hn]
theorem told_ok (b : Bool) : (told b == 0) = b := by cases b <;> rfl
theorem told_no (b : Bool) : (told b != 0) = !b := by cases b <;> rfl
theorem entry_eq1 (x : Entry) (hd : Signed) (cl : Claim) (h : x.kind = 1) : decide (({ kind := 1, client := x.client, seq := x.seq, text := x.text, head := hd, claim := cl } : Entry) = x) = (decide (x.head = hd) && decide (x.claim = cl)) := by
  cases x; simp at h; subst h; rw [Bool.eq_iff_iff]; simp; constructor <;> (rintro ⟨rfl, rfl⟩; exact ⟨rfl, rfl⟩)
theorem entry_eq2 (x : Entry) (c s : Int) (t : ByteArray) (cl : Claim) (h : x.kind = 2) : decide (({ kind := 2, client := c, seq := s, text := t, head := x.head, claim := cl } : Entry) = x) = (decide (x.client = c) && decide (x.seq = s) && decide (x.text = t) && decide (x.claim = cl)) := by
  cases x; simp at h; subst h; rw [Bool.eq_iff_iff]; simp [and_assoc]; constructor <;> (rintro ⟨rfl, rfl, rfl, rfl⟩; exact ⟨rfl, rfl, rfl, rfl⟩)
theorem entry_eq3 (x : Entry) (c s : Int) (t : ByteArray) (hd : Signed) (h : x.kind = 3) : decide (({ kind := 3, client := c, seq := s, text := t, head := hd, claim := x.claim } : Entry) = x) = (decide (x.client = c) && decide (x.seq = s) && decide (x.text = t) && decide (x.head = hd)) := by
  cases x; simp at h; subst h; rw [Bool.eq_iff_iff]; simp [and_assoc]; constructor <;> (rintro ⟨rfl, rfl, rfl, rfl⟩; exact ⟨rfl, rfl, rfl, rfl⟩)

theorem entryCheck_1 (x : Entry) (w : World) (h : x.kind = 1) : Calls Tryd.prog 26 #[.agg (encEntry x)] w fun e w' => e = .returned (.int .i64 (told x.ok)) ∧ Grew w w' := by
  have hb : (x.kind == 1) = true := by simp [h]
  have H := Lib.hid h; clear h
  go_enter Tryd.func26, Tryd.ntmps26
  go_wp2_with (first | (go_at_call 75; refine (within_1 _ _ _ _).mono ?_; rintro e w' ⟨rfl, rfl⟩) | (go_at_call 78; refine (told_call _ _).mono ?_; rintro e w' ⟨rfl, rfl⟩) | (go_at_call 77; refine (headCheck_call _ _).mono ?_; rintro e w1 ⟨rfl, hg⟩; have hf := hg.facts) | (go_at_call 70; refine (checkClaim_call _ _).mono ?_; rintro e w1 ⟨rfl, hg⟩; have hf := hg.facts))
  go_region
  go_wp2_with (first | (go_at_call 75; refine (within_1 _ _ _ _).mono ?_; rintro e w' ⟨rfl, rfl⟩) | (go_at_call 78; refine (told_call _ _).mono ?_; rintro e w' ⟨rfl, rfl⟩) | (go_at_call 77; refine (headCheck_call _ _).mono ?_; rintro e w1 ⟨rfl, hg⟩; have hf := hg.facts) | (go_at_call 70; refine (checkClaim_call _ _).mono ?_; rintro e w1 ⟨rfl, hg⟩; have hf := hg.facts))
  all_goals
    go_ret
    refine ⟨ret_told ?_, ?_⟩
    rotate_left
    (repeat (first | exact Grew.refl _ | refine Grew.alloc ?_ _ | refine Grew.drew ?_ | refine Grew.after (by assumption) ?_ | refine Grew.after (Old.grew (by assumption)) ?_))
    have h := H.out
    clear hb H
    try clear hf hg
    simp_all [Entry.ok, entry_eq1, Entry.zero, Signed.may, told, errIf]
  all_goals (intro h9; exfalso; omega)
theorem entryCheck_2 (x : Entry) (w : World) (h : x.kind = 2) : Calls Tryd.prog 26 #[.agg (encEntry x)] w fun e w' => e = .returned (.int .i64 (told x.ok)) ∧ Grew w w' := by
  have hb : (x.kind == 2) = true := by simp [h]
  have hb1 : (x.kind == 1) = false := by simp [h]
  have H := Lib.hid h; clear h
  go_enter Tryd.func26, Tryd.ntmps26
  go_wp2_with (first | (go_at_call 75; refine (within_1 _ _ _ _).mono ?_; rintro e w' ⟨rfl, rfl⟩) | (go_at_call 78; refine (told_call _ _).mono ?_; rintro e w' ⟨rfl, rfl⟩) | (go_at_call 77; refine (headCheck_call _ _).mono ?_; rintro e w1 ⟨rfl, hg⟩; have hf := hg.facts) | (go_at_call 70; refine (checkClaim_call _ _).mono ?_; rintro e w1 ⟨rfl, hg⟩; have hf := hg.facts))
  all_goals
    go_ret
    refine ⟨ret_told ?_, ?_⟩
    rotate_left
    (repeat (first | exact Grew.refl _ | refine Grew.alloc ?_ _ | refine Grew.drew ?_ | refine Grew.after (by assumption) ?_ | refine Grew.after (Old.grew (by assumption)) ?_))
    have h := H.out
    clear hb H
    try clear hf hg
    simp_all [Entry.ok, entry_eq2, Entry.zero, Signed.may, told, errIf]
theorem entryCheck_3 (x : Entry) (w : World) (h : x.kind = 3) : Calls Tryd.prog 26 #[.agg (encEntry x)] w fun e w' => e = .returned (.int .i64 (told x.ok)) ∧ Grew w w' := by
  have hb : (x.kind == 3) = true := by simp [h]
  have hb1 : (x.kind == 1) = false := by simp [h]
  have hb2 : (x.kind == 2) = false := by simp [h]
  have H := Lib.hid h; clear h
  go_enter Tryd.func26, Tryd.ntmps26
  go_wp2_with (first | (go_at_call 75; refine (within_1 _ _ _ _).mono ?_; rintro e w' ⟨rfl, rfl⟩) | (go_at_call 78; refine (told_call _ _).mono ?_; rintro e w' ⟨rfl, rfl⟩) | (go_at_call 77; refine (headCheck_call _ _).mono ?_; rintro e w1 ⟨rfl, hg⟩; have hf := hg.facts) | (go_at_call 70; refine (checkClaim_call _ _).mono ?_; rintro e w1 ⟨rfl, hg⟩; have hf := hg.facts))
  all_goals
    go_ret
    refine ⟨ret_told ?_, ?_⟩
    rotate_left
    (repeat (first | exact Grew.refl _ | refine Grew.alloc ?_ _ | refine Grew.drew ?_ | refine Grew.after (by assumption) ?_ | refine Grew.after (Old.grew (by assumption)) ?_))
    have h := H.out
    clear hb H
    try clear hf hg
    simp_all [Entry.ok, entry_eq3, Entry.zero, Signed.may, told, errIf]
theorem entryCheck_0 (x : Entry) (w : World) (h1 : x.kind ≠ 1) (h2 : x.kind ≠ 2) (h3 : x.kind ≠ 3) : Calls Tryd.prog 26 #[.agg (encEntry x)] w fun e w' => e = .returned (.int .i64 (told x.ok)) ∧ Grew w w' := by
  have hb1 : (x.kind == 1) = false := by simp [h1]
  have hb2 : (x.kind == 2) = false := by simp [h2]
  have hb3 : (x.kind == 3) = false := by simp [h3]
  have hk : x.ok = false := by simp [Entry.ok, h1, h2, h3]
  have H := Lib.hid hk; clear hk h1 h2 h3
  go_enter Tryd.func26, Tryd.ntmps26
  go_wp2_with (first | (go_at_call 75; refine (within_1 _ _ _ _).mono ?_; rintro e w' ⟨rfl, rfl⟩) | (go_at_call 78; refine (told_call _ _).mono ?_; rintro e w' ⟨rfl, rfl⟩) | (go_at_call 77; refine (headCheck_call _ _).mono ?_; rintro e w1 ⟨rfl, hg⟩; have hf := hg.facts) | (go_at_call 70; refine (checkClaim_call _ _).mono ?_; rintro e w1 ⟨rfl, hg⟩; have hf := hg.facts))
  go_ret
  refine ⟨ret_told (by rw [H.out]), ?_⟩
  (repeat (first | exact Grew.refl _ | refine Grew.alloc ?_ _ | refine Grew.drew ?_ | refine Grew.after (by assumption) ?_ | refine Grew.after (Old.grew (by assumption)) ?_))

theorem entryCheck_call (x : Entry) (w : World) : Calls Tryd.prog 26 #[.agg (encEntry x)] w fun e w' => e = .returned (.int .i64 (told x.ok)) ∧ Grew w w' := by
  by_cases h1 : x.kind = 1
  · exact entryCheck_1 x w h1
  · by_cases h2 : x.kind = 2
    · exact entryCheck_2 x w h2
    · by_cases h3 : x.kind = 3
      · exact entryCheck_3 x w h3
      · exact entryCheck_0 x w h1 h2 h3

theorem right_call (x : Item) (w : World) : Calls Tryd.prog 83 #[.agg (encItem x)] w fun e w' => e = .returned (.bool x.ok) ∧ Grew w w' := by
  go_enter Tryd.func83, Tryd.ntmps83
  go_wp2_with (first | (go_at_call 131; refine (within_3 _ _ _ _).mono ?_; rintro e w' ⟨rfl, rfl⟩) | (go_at_call 26; refine (entryCheck_call _ _).mono ?_; rintro e w1 ⟨rfl, hg⟩; have hf := hg.facts))
  all_goals
    go_ret
    refine ⟨ret_bool ?_, ?_⟩
    rotate_left
    (repeat (first | exact Grew.refl _ | refine Grew.alloc ?_ _ | refine Grew.drew ?_ | refine Grew.after (by assumption) ?_ | refine Grew.after (Old.grew (by assumption)) ?_))
    try clear hf hg
    simp_all [Item.ok, told_ok]
end Go.Proofs.YtoajianddmobaaaDoor
