/- THE WALK of estreatlaw08.EntryKinds: whatever the input, true; nothing old is written. -/
import Derived.Test.YtoajianddmobaaaDoorLw
namespace Go.Proofs.YtoajianddmobaaaDoor
open Go.RowKit
set_option linter.unusedSimpArgs false
set_option linter.unusedVariables false
set_option maxRecDepth 100000

theorem str_isEmpty (s : ByteArray) : s.toList.isEmpty = decide (s = ByteArray.empty) := by
  by_cases h : s = ByteArray.empty
  · subst h; simp [ByteArray.toList_eq]
  · have h0 : 0 < s.size := by
      rcases Nat.eq_zero_or_pos s.size with h0 | h0
      · exfalso
        apply h
        have : s.data.toList = [] := List.eq_nil_of_length_eq_zero (by simpa using h0)
        rw [← str_data s, this]; rfl
      · exact h0
    rw [str_ne h0, decide_eq_false h]
set_option maxHeartbeats 2000000 in
theorem kinds_early (x : Entry) (t : ByteArray) (c : Claim) (w : World) (h : 16384 < (x.text.size : Int) ∨ 16384 < (t.size : Int) ∨ x.ok = false) : Calls Tryd.prog 5 #[.agg (encEntry x), .string t, .agg (encClaim c)] w fun e w' => e = .returned (.bool true) ∧ Grew w w' := by
  by_cases h1 : 16384 < (x.text.size : Int)
  · go_enter Tryd.func5, Tryd.ntmps5
    go_wp2_with (go_at_call 25; refine (items_call _).mono ?_; rintro e w1 ⟨rfl, hg1⟩)
    go_ret
    exact ⟨rfl, by (repeat (first | exact Grew.refl _ | refine Grew.alloc ?_ _ | refine Grew.drew ?_ | refine Grew.after (by assumption) ?_ | refine Grew.after (Old.grew (by assumption)) ?_))⟩
  · by_cases h2 : 16384 < (t.size : Int)
    · go_enter Tryd.func5, Tryd.ntmps5
      go_wp2_with (go_at_call 25; refine (items_call _).mono ?_; rintro e w1 ⟨rfl, hg1⟩)
      go_ret
      exact ⟨rfl, by (repeat (first | exact Grew.refl _ | refine Grew.alloc ?_ _ | refine Grew.drew ?_ | refine Grew.after (by assumption) ?_ | refine Grew.after (Old.grew (by assumption)) ?_))⟩
    · have h3 : x.ok = false := by rcases h with h | h | h; exact (h1 h).elim; exact (h2 h).elim; exact h
      clear h
      go_enter Tryd.func5, Tryd.ntmps5
      go_wp2_with (first
        | (go_at_call 25; refine (items_call _).mono ?_; rintro e w1 ⟨rfl, hg1⟩)
        | (go_at_call 26; refine (entryCheck_call _ _).mono ?_; rintro e w2 ⟨rfl, hg2⟩; rw [h3]; simp only [told]))
      go_ret
      exact ⟨rfl, by (repeat (first | exact Grew.refl _ | refine Grew.alloc ?_ _ | refine Grew.drew ?_ | refine Grew.after (by assumption) ?_ | refine Grew.after (Old.grew (by assumption)) ?_))⟩
set_option maxHeartbeats 2000000 in
theorem kinds_1z (x : Entry) (t : ByteArray) (c : Claim) (w : World) (h1 : ¬ 16384 < (x.text.size : Int)) (h2 : ¬ 16384 < (t.size : Int)) (hok : x.ok = true) (hk : x.kind = 1) (hh : decide (x.head = Signed.zero) = true) (hc : decide (c = Claim.zero) = true) :
    Calls Tryd.prog 5 #[.agg (encEntry x), .string t, .agg (encClaim c)] w fun e w' => e = .returned (.bool true) ∧ Grew w w' := by
  have hb0 := (heap_alloc_old (w.alloc (.cells (encEntry x) 37)) (.cells (encClaim c) 27) (show w.heap.size < _ by simp)).trans (heap_alloc_new w (.cells (encEntry x) 37))
  have hb1 := blk_two w (.cells (encEntry x) 37) (.cells (encClaim c) 27)
  go_enter Tryd.func5, Tryd.ntmps5
  go_wp2_with (first
    | (go_at_call 26; refine (entryCheck_call _ _).mono ?_; rintro e w1 ⟨rfl, hg1⟩; rw [hok]; simp only [told]; have K0 := (hg1.block (by simp; omega)).trans hb0; have K1 := (hg1.block (by simp)).trans hb1; obtain ⟨p1, p2, p3, p4, L0⟩ := blk_facts K0; obtain ⟨q1, q2, q3, q4, L1⟩ := blk_facts K1)
    | (go_at_call 25; refine (items_call _).mono ?_; rintro e w5 ⟨rfl, hg5⟩; have Gw5 : Grew w1 w5 := (by (repeat (first | exact Grew.refl _ | refine Grew.alloc ?_ _ | refine Grew.drew ?_ | refine Grew.after (by assumption) ?_ | refine Grew.after (Old.grew (by assumption)) ?_))); have K0w5 := (Gw5.block L0).trans K0; have K1w5 := (Gw5.block L1).trans K1; obtain ⟨p1, p2, p3, p4, p5⟩ := blk_facts K0w5; obtain ⟨q1, q2, q3, q4, q5⟩ := blk_facts K1w5))
  go_ret
  exact ⟨rfl, by (repeat (first | exact Grew.refl _ | refine Grew.alloc ?_ _ | refine Grew.drew ?_ | refine Grew.after (by assumption) ?_ | refine Grew.after (Old.grew (by assumption)) ?_))⟩
set_option maxHeartbeats 2000000 in
theorem kinds_1n (x : Entry) (t : ByteArray) (c : Claim) (w : World) (h1 : ¬ 16384 < (x.text.size : Int)) (h2 : ¬ 16384 < (t.size : Int)) (hok : x.ok = true) (hk : x.kind = 1) (hh : decide (x.head = Signed.zero) = true) (hc : decide (c = Claim.zero) = false) (HB : Hid (Entry.ok { kind := 1, client := x.client, seq := x.seq, text := x.text, head := x.head, claim := c } = false)) :
    Calls Tryd.prog 5 #[.agg (encEntry x), .string t, .agg (encClaim c)] w fun e w' => e = .returned (.bool true) ∧ Grew w w' := by
  have hb0 := (heap_alloc_old (w.alloc (.cells (encEntry x) 37)) (.cells (encClaim c) 27) (show w.heap.size < _ by simp)).trans (heap_alloc_new w (.cells (encEntry x) 37))
  have hb1 := blk_two w (.cells (encEntry x) 37) (.cells (encClaim c) 27)
  go_enter Tryd.func5, Tryd.ntmps5
  go_wp2_with (first
    | (go_at_call 26; refine (entryCheck_call _ _).mono ?_; rintro e w1 ⟨rfl, hg1⟩; rw [hok]; simp only [told]; have K0 := (hg1.block (by simp; omega)).trans hb0; have K1 := (hg1.block (by simp)).trans hb1; obtain ⟨p1, p2, p3, p4, L0⟩ := blk_facts K0; obtain ⟨q1, q2, q3, q4, L1⟩ := blk_facts K1)
    | (go_at_call 26; refine (entryCheck_call _ _).mono ?_; rintro e w4 ⟨rfl, hg4⟩; rw [HB.out]; simp only [told]; have Gw4 : Grew w1 w4 := (by (repeat (first | exact Grew.refl _ | refine Grew.alloc ?_ _ | refine Grew.drew ?_ | refine Grew.after (by assumption) ?_ | refine Grew.after (Old.grew (by assumption)) ?_))); have K0w4 := (Gw4.block L0).trans K0; have K1w4 := (Gw4.block L1).trans K1; obtain ⟨p1, p2, p3, p4, p5⟩ := blk_facts K0w4; obtain ⟨q1, q2, q3, q4, q5⟩ := blk_facts K1w4)
    | (go_at_call 25; refine (items_call _).mono ?_; rintro e w5 ⟨rfl, hg5⟩; have Gw5 : Grew w1 w5 := (by (repeat (first | exact Grew.refl _ | refine Grew.alloc ?_ _ | refine Grew.drew ?_ | refine Grew.after (by assumption) ?_ | refine Grew.after (Old.grew (by assumption)) ?_))); have K0w5 := (Gw5.block L0).trans K0; have K1w5 := (Gw5.block L1).trans K1; obtain ⟨p1, p2, p3, p4, p5⟩ := blk_facts K0w5; obtain ⟨q1, q2, q3, q4, q5⟩ := blk_facts K1w5))
  go_ret
  exact ⟨rfl, by (repeat (first | exact Grew.refl _ | refine Grew.alloc ?_ _ | refine Grew.drew ?_ | refine Grew.after (by assumption) ?_ | refine Grew.after (Old.grew (by assumption)) ?_))⟩
set_option maxHeartbeats 2000000 in
theorem kinds_2zz (x : Entry) (t : ByteArray) (c : Claim) (w : World) (h1 : ¬ 16384 < (x.text.size : Int)) (h2 : ¬ 16384 < (t.size : Int)) (hok : x.ok = true) (hk : x.kind = 2) (hx1 : x.client = 0) (hx2 : x.seq = 0) (ht : t.toList.isEmpty = true) (hc : decide (c = Claim.zero) = true) :
    Calls Tryd.prog 5 #[.agg (encEntry x), .string t, .agg (encClaim c)] w fun e w' => e = .returned (.bool true) ∧ Grew w w' := by
  have hb0 := (heap_alloc_old (w.alloc (.cells (encEntry x) 37)) (.cells (encClaim c) 27) (show w.heap.size < _ by simp)).trans (heap_alloc_new w (.cells (encEntry x) 37))
  have hb1 := blk_two w (.cells (encEntry x) 37) (.cells (encClaim c) 27)
  go_enter Tryd.func5, Tryd.ntmps5
  go_wp2_with (first
    | (go_at_call 26; refine (entryCheck_call _ _).mono ?_; rintro e w1 ⟨rfl, hg1⟩; rw [hok]; simp only [told]; have K0 := (hg1.block (by simp; omega)).trans hb0; have K1 := (hg1.block (by simp)).trans hb1; obtain ⟨p1, p2, p3, p4, L0⟩ := blk_facts K0; obtain ⟨q1, q2, q3, q4, L1⟩ := blk_facts K1)
    | (go_at_call 25; refine (items_call _).mono ?_; rintro e w5 ⟨rfl, hg5⟩; have Gw5 : Grew w1 w5 := (by (repeat (first | exact Grew.refl _ | refine Grew.alloc ?_ _ | refine Grew.drew ?_ | refine Grew.after (by assumption) ?_ | refine Grew.after (Old.grew (by assumption)) ?_))); have K0w5 := (Gw5.block L0).trans K0; have K1w5 := (Gw5.block L1).trans K1; obtain ⟨p1, p2, p3, p4, p5⟩ := blk_facts K0w5; obtain ⟨q1, q2, q3, q4, q5⟩ := blk_facts K1w5))
  go_ret
  exact ⟨rfl, by (repeat (first | exact Grew.refl _ | refine Grew.alloc ?_ _ | refine Grew.drew ?_ | refine Grew.after (by assumption) ?_ | refine Grew.after (Old.grew (by assumption)) ?_))⟩
set_option maxHeartbeats 2000000 in
theorem kinds_2nz (x : Entry) (t : ByteArray) (c : Claim) (w : World) (h1 : ¬ 16384 < (x.text.size : Int)) (h2 : ¬ 16384 < (t.size : Int)) (hok : x.ok = true) (hk : x.kind = 2) (hx1 : x.client = 0) (hx2 : x.seq = 0) (ht : t.toList.isEmpty = false) (HA : Hid (Entry.ok { kind := 2, client := 0, seq := 0, text := t, head := x.head, claim := x.claim } = false)) (hc : decide (c = Claim.zero) = true) :
    Calls Tryd.prog 5 #[.agg (encEntry x), .string t, .agg (encClaim c)] w fun e w' => e = .returned (.bool true) ∧ Grew w w' := by
  have hb0 := (heap_alloc_old (w.alloc (.cells (encEntry x) 37)) (.cells (encClaim c) 27) (show w.heap.size < _ by simp)).trans (heap_alloc_new w (.cells (encEntry x) 37))
  have hb1 := blk_two w (.cells (encEntry x) 37) (.cells (encClaim c) 27)
  go_enter Tryd.func5, Tryd.ntmps5
  go_wp2_with (first
    | (go_at_call 26; refine (entryCheck_call _ _).mono ?_; rintro e w1 ⟨rfl, hg1⟩; rw [hok]; simp only [told]; have K0 := (hg1.block (by simp; omega)).trans hb0; have K1 := (hg1.block (by simp)).trans hb1; obtain ⟨p1, p2, p3, p4, L0⟩ := blk_facts K0; obtain ⟨q1, q2, q3, q4, L1⟩ := blk_facts K1)
    | (go_at_call 26; refine (entryCheck_call _ _).mono ?_; rintro e w3 ⟨rfl, hg3⟩; rw [HA.out]; simp only [told]; have Gw3 : Grew w1 w3 := (by (repeat (first | exact Grew.refl _ | refine Grew.alloc ?_ _ | refine Grew.drew ?_ | refine Grew.after (by assumption) ?_ | refine Grew.after (Old.grew (by assumption)) ?_))); have K0w3 := (Gw3.block L0).trans K0; have K1w3 := (Gw3.block L1).trans K1; obtain ⟨p1, p2, p3, p4, p5⟩ := blk_facts K0w3; obtain ⟨q1, q2, q3, q4, q5⟩ := blk_facts K1w3; have KB := (hg3.block (by simp)).trans (blk_two w1 _ _); obtain ⟨r1, r2, r3, r4, r5⟩ := blk_facts KB)
    | (go_at_call 25; refine (items_call _).mono ?_; rintro e w5 ⟨rfl, hg5⟩; have Gw5 : Grew w1 w5 := (by (repeat (first | exact Grew.refl _ | refine Grew.alloc ?_ _ | refine Grew.drew ?_ | refine Grew.after (by assumption) ?_ | refine Grew.after (Old.grew (by assumption)) ?_))); have K0w5 := (Gw5.block L0).trans K0; have K1w5 := (Gw5.block L1).trans K1; obtain ⟨p1, p2, p3, p4, p5⟩ := blk_facts K0w5; obtain ⟨q1, q2, q3, q4, q5⟩ := blk_facts K1w5))
  go_ret
  exact ⟨rfl, by (repeat (first | exact Grew.refl _ | refine Grew.alloc ?_ _ | refine Grew.drew ?_ | refine Grew.after (by assumption) ?_ | refine Grew.after (Old.grew (by assumption)) ?_))⟩
set_option maxHeartbeats 2000000 in
theorem kinds_2zn (x : Entry) (t : ByteArray) (c : Claim) (w : World) (h1 : ¬ 16384 < (x.text.size : Int)) (h2 : ¬ 16384 < (t.size : Int)) (hok : x.ok = true) (hk : x.kind = 2) (hx1 : x.client = 0) (hx2 : x.seq = 0) (ht : t.toList.isEmpty = true) (hc : decide (c = Claim.zero) = false) (HB : Hid (Entry.ok { kind := 2, client := 0, seq := 0, text := x.text, head := x.head, claim := c } = false)) :
    Calls Tryd.prog 5 #[.agg (encEntry x), .string t, .agg (encClaim c)] w fun e w' => e = .returned (.bool true) ∧ Grew w w' := by
  have hb0 := (heap_alloc_old (w.alloc (.cells (encEntry x) 37)) (.cells (encClaim c) 27) (show w.heap.size < _ by simp)).trans (heap_alloc_new w (.cells (encEntry x) 37))
  have hb1 := blk_two w (.cells (encEntry x) 37) (.cells (encClaim c) 27)
  go_enter Tryd.func5, Tryd.ntmps5
  go_wp2_with (first
    | (go_at_call 26; refine (entryCheck_call _ _).mono ?_; rintro e w1 ⟨rfl, hg1⟩; rw [hok]; simp only [told]; have K0 := (hg1.block (by simp; omega)).trans hb0; have K1 := (hg1.block (by simp)).trans hb1; obtain ⟨p1, p2, p3, p4, L0⟩ := blk_facts K0; obtain ⟨q1, q2, q3, q4, L1⟩ := blk_facts K1)
    | (go_at_call 26; refine (entryCheck_call _ _).mono ?_; rintro e w4 ⟨rfl, hg4⟩; rw [HB.out]; simp only [told]; have Gw4 : Grew w1 w4 := (by (repeat (first | exact Grew.refl _ | refine Grew.alloc ?_ _ | refine Grew.drew ?_ | refine Grew.after (by assumption) ?_ | refine Grew.after (Old.grew (by assumption)) ?_))); have K0w4 := (Gw4.block L0).trans K0; have K1w4 := (Gw4.block L1).trans K1; obtain ⟨p1, p2, p3, p4, p5⟩ := blk_facts K0w4; obtain ⟨q1, q2, q3, q4, q5⟩ := blk_facts K1w4)
    | (go_at_call 25; refine (items_call _).mono ?_; rintro e w5 ⟨rfl, hg5⟩; have Gw5 : Grew w1 w5 := (by (repeat (first | exact Grew.refl _ | refine Grew.alloc ?_ _ | refine Grew.drew ?_ | refine Grew.after (by assumption) ?_ | refine Grew.after (Old.grew (by assumption)) ?_))); have K0w5 := (Gw5.block L0).trans K0; have K1w5 := (Gw5.block L1).trans K1; obtain ⟨p1, p2, p3, p4, p5⟩ := blk_facts K0w5; obtain ⟨q1, q2, q3, q4, q5⟩ := blk_facts K1w5))
  go_ret
  exact ⟨rfl, by (repeat (first | exact Grew.refl _ | refine Grew.alloc ?_ _ | refine Grew.drew ?_ | refine Grew.after (by assumption) ?_ | refine Grew.after (Old.grew (by assumption)) ?_))⟩
set_option maxHeartbeats 2000000 in
theorem kinds_2nn (x : Entry) (t : ByteArray) (c : Claim) (w : World) (h1 : ¬ 16384 < (x.text.size : Int)) (h2 : ¬ 16384 < (t.size : Int)) (hok : x.ok = true) (hk : x.kind = 2) (hx1 : x.client = 0) (hx2 : x.seq = 0) (ht : t.toList.isEmpty = false) (HA : Hid (Entry.ok { kind := 2, client := 0, seq := 0, text := t, head := x.head, claim := x.claim } = false)) (hc : decide (c = Claim.zero) = false) (HB : Hid (Entry.ok { kind := 2, client := 0, seq := 0, text := x.text, head := x.head, claim := c } = false)) :
    Calls Tryd.prog 5 #[.agg (encEntry x), .string t, .agg (encClaim c)] w fun e w' => e = .returned (.bool true) ∧ Grew w w' := by
  have hb0 := (heap_alloc_old (w.alloc (.cells (encEntry x) 37)) (.cells (encClaim c) 27) (show w.heap.size < _ by simp)).trans (heap_alloc_new w (.cells (encEntry x) 37))
  have hb1 := blk_two w (.cells (encEntry x) 37) (.cells (encClaim c) 27)
  go_enter Tryd.func5, Tryd.ntmps5
  go_wp2_with (first
    | (go_at_call 26; refine (entryCheck_call _ _).mono ?_; rintro e w1 ⟨rfl, hg1⟩; rw [hok]; simp only [told]; have K0 := (hg1.block (by simp; omega)).trans hb0; have K1 := (hg1.block (by simp)).trans hb1; obtain ⟨p1, p2, p3, p4, L0⟩ := blk_facts K0; obtain ⟨q1, q2, q3, q4, L1⟩ := blk_facts K1)
    | (go_at_call 26; refine (entryCheck_call _ _).mono ?_; rintro e w3 ⟨rfl, hg3⟩; rw [HA.out]; simp only [told]; have Gw3 : Grew w1 w3 := (by (repeat (first | exact Grew.refl _ | refine Grew.alloc ?_ _ | refine Grew.drew ?_ | refine Grew.after (by assumption) ?_ | refine Grew.after (Old.grew (by assumption)) ?_))); have K0w3 := (Gw3.block L0).trans K0; have K1w3 := (Gw3.block L1).trans K1; obtain ⟨p1, p2, p3, p4, p5⟩ := blk_facts K0w3; obtain ⟨q1, q2, q3, q4, q5⟩ := blk_facts K1w3; have KB := (hg3.block (by simp)).trans (blk_two w1 _ _); obtain ⟨r1, r2, r3, r4, r5⟩ := blk_facts KB)
    | (go_at_call 26; refine (entryCheck_call _ _).mono ?_; rintro e w4 ⟨rfl, hg4⟩; rw [HB.out]; simp only [told]; have Gw4 : Grew w1 w4 := (by (repeat (first | exact Grew.refl _ | refine Grew.alloc ?_ _ | refine Grew.drew ?_ | refine Grew.after (by assumption) ?_ | refine Grew.after (Old.grew (by assumption)) ?_))); have K0w4 := (Gw4.block L0).trans K0; have K1w4 := (Gw4.block L1).trans K1; obtain ⟨p1, p2, p3, p4, p5⟩ := blk_facts K0w4; obtain ⟨q1, q2, q3, q4, q5⟩ := blk_facts K1w4)
    | (go_at_call 25; refine (items_call _).mono ?_; rintro e w5 ⟨rfl, hg5⟩; have Gw5 : Grew w1 w5 := (by (repeat (first | exact Grew.refl _ | refine Grew.alloc ?_ _ | refine Grew.drew ?_ | refine Grew.after (by assumption) ?_ | refine Grew.after (Old.grew (by assumption)) ?_))); have K0w5 := (Gw5.block L0).trans K0; have K1w5 := (Gw5.block L1).trans K1; obtain ⟨p1, p2, p3, p4, p5⟩ := blk_facts K0w5; obtain ⟨q1, q2, q3, q4, q5⟩ := blk_facts K1w5))
  go_ret
  exact ⟨rfl, by (repeat (first | exact Grew.refl _ | refine Grew.alloc ?_ _ | refine Grew.drew ?_ | refine Grew.after (by assumption) ?_ | refine Grew.after (Old.grew (by assumption)) ?_))⟩
set_option maxHeartbeats 2000000 in
theorem kinds_3z (x : Entry) (t : ByteArray) (c : Claim) (w : World) (h1 : ¬ 16384 < (x.text.size : Int)) (h2 : ¬ 16384 < (t.size : Int)) (hok : x.ok = true) (hk : x.kind = 3) (hx1 : x.client = 0) (hx2 : x.seq = 0) (hh : decide (x.head = Signed.zero) = true) (ht : t.toList.isEmpty = true) :
    Calls Tryd.prog 5 #[.agg (encEntry x), .string t, .agg (encClaim c)] w fun e w' => e = .returned (.bool true) ∧ Grew w w' := by
  have hb0 := (heap_alloc_old (w.alloc (.cells (encEntry x) 37)) (.cells (encClaim c) 27) (show w.heap.size < _ by simp)).trans (heap_alloc_new w (.cells (encEntry x) 37))
  have hb1 := blk_two w (.cells (encEntry x) 37) (.cells (encClaim c) 27)
  go_enter Tryd.func5, Tryd.ntmps5
  go_wp2_with (first
    | (go_at_call 26; refine (entryCheck_call _ _).mono ?_; rintro e w1 ⟨rfl, hg1⟩; rw [hok]; simp only [told]; have K0 := (hg1.block (by simp; omega)).trans hb0; have K1 := (hg1.block (by simp)).trans hb1; obtain ⟨p1, p2, p3, p4, L0⟩ := blk_facts K0; obtain ⟨q1, q2, q3, q4, L1⟩ := blk_facts K1)
    | (go_at_call 25; refine (items_call _).mono ?_; rintro e w5 ⟨rfl, hg5⟩; have Gw5 : Grew w1 w5 := (by (repeat (first | exact Grew.refl _ | refine Grew.alloc ?_ _ | refine Grew.drew ?_ | refine Grew.after (by assumption) ?_ | refine Grew.after (Old.grew (by assumption)) ?_))); have K0w5 := (Gw5.block L0).trans K0; have K1w5 := (Gw5.block L1).trans K1; obtain ⟨p1, p2, p3, p4, p5⟩ := blk_facts K0w5; obtain ⟨q1, q2, q3, q4, q5⟩ := blk_facts K1w5))
  go_ret
  exact ⟨rfl, by (repeat (first | exact Grew.refl _ | refine Grew.alloc ?_ _ | refine Grew.drew ?_ | refine Grew.after (by assumption) ?_ | refine Grew.after (Old.grew (by assumption)) ?_))⟩
set_option maxHeartbeats 2000000 in
theorem kinds_3n (x : Entry) (t : ByteArray) (c : Claim) (w : World) (h1 : ¬ 16384 < (x.text.size : Int)) (h2 : ¬ 16384 < (t.size : Int)) (hok : x.ok = true) (hk : x.kind = 3) (hx1 : x.client = 0) (hx2 : x.seq = 0) (hh : decide (x.head = Signed.zero) = true) (ht : t.toList.isEmpty = false) (HA : Hid (Entry.ok { kind := 3, client := 0, seq := 0, text := t, head := x.head, claim := x.claim } = false)) :
    Calls Tryd.prog 5 #[.agg (encEntry x), .string t, .agg (encClaim c)] w fun e w' => e = .returned (.bool true) ∧ Grew w w' := by
  have hb0 := (heap_alloc_old (w.alloc (.cells (encEntry x) 37)) (.cells (encClaim c) 27) (show w.heap.size < _ by simp)).trans (heap_alloc_new w (.cells (encEntry x) 37))
  have hb1 := blk_two w (.cells (encEntry x) 37) (.cells (encClaim c) 27)
  go_enter Tryd.func5, Tryd.ntmps5
  go_wp2_with (first
    | (go_at_call 26; refine (entryCheck_call _ _).mono ?_; rintro e w1 ⟨rfl, hg1⟩; rw [hok]; simp only [told]; have K0 := (hg1.block (by simp; omega)).trans hb0; have K1 := (hg1.block (by simp)).trans hb1; obtain ⟨p1, p2, p3, p4, L0⟩ := blk_facts K0; obtain ⟨q1, q2, q3, q4, L1⟩ := blk_facts K1)
    | (go_at_call 26; refine (entryCheck_call _ _).mono ?_; rintro e w3 ⟨rfl, hg3⟩; rw [HA.out]; simp only [told]; have Gw3 : Grew w1 w3 := (by (repeat (first | exact Grew.refl _ | refine Grew.alloc ?_ _ | refine Grew.drew ?_ | refine Grew.after (by assumption) ?_ | refine Grew.after (Old.grew (by assumption)) ?_))); have K0w3 := (Gw3.block L0).trans K0; have K1w3 := (Gw3.block L1).trans K1; obtain ⟨p1, p2, p3, p4, p5⟩ := blk_facts K0w3; obtain ⟨q1, q2, q3, q4, q5⟩ := blk_facts K1w3; have KB := (hg3.block (by simp)).trans (blk_two w1 _ _); obtain ⟨r1, r2, r3, r4, r5⟩ := blk_facts KB)
    | (go_at_call 25; refine (items_call _).mono ?_; rintro e w5 ⟨rfl, hg5⟩; have Gw5 : Grew w1 w5 := (by (repeat (first | exact Grew.refl _ | refine Grew.alloc ?_ _ | refine Grew.drew ?_ | refine Grew.after (by assumption) ?_ | refine Grew.after (Old.grew (by assumption)) ?_))); have K0w5 := (Gw5.block L0).trans K0; have K1w5 := (Gw5.block L1).trans K1; obtain ⟨p1, p2, p3, p4, p5⟩ := blk_facts K0w5; obtain ⟨q1, q2, q3, q4, q5⟩ := blk_facts K1w5))
  go_ret
  exact ⟨rfl, by (repeat (first | exact Grew.refl _ | refine Grew.alloc ?_ _ | refine Grew.drew ?_ | refine Grew.after (by assumption) ?_ | refine Grew.after (Old.grew (by assumption)) ?_))⟩
theorem kinds_call (x : Entry) (t : ByteArray) (c : Claim) (w : World) : Calls Tryd.prog 5 #[.agg (encEntry x), .string t, .agg (encClaim c)] w fun e w' => e = .returned (.bool true) ∧ Grew w w' := by
  by_cases h1 : 16384 < (x.text.size : Int)
  · exact kinds_early x t c w (.inl h1)
  by_cases h2 : 16384 < (t.size : Int)
  · exact kinds_early x t c w (.inr (.inl h2))
  cases hok : x.ok
  · exact kinds_early x t c w (.inr (.inr hok))
  rcases Entry.ok_cases hok with ⟨a, s, tx, rfl, -, -, -⟩ | ⟨s, rfl, hs⟩ | ⟨d, rfl, hd⟩
  · by_cases hc : c = Claim.zero
    · exact kinds_1z _ t c w h1 h2 hok rfl (decide_eq_true rfl) (decide_eq_true hc)
    · exact kinds_1n _ t c w h1 h2 hok rfl (decide_eq_true rfl) (decide_eq_false hc) (Lib.hid (by simp [Entry.ok, Entry.user, hc]))
  · by_cases ht : t = ByteArray.empty
    · by_cases hc : c = Claim.zero
      · exact kinds_2zz _ t c w h1 h2 hok rfl rfl rfl ((str_isEmpty t).trans (decide_eq_true ht)) (decide_eq_true hc)
      · exact kinds_2zn _ t c w h1 h2 hok rfl rfl rfl ((str_isEmpty t).trans (decide_eq_true ht)) (decide_eq_false hc) (Lib.hid (by simp [Entry.ok, Entry.anchor, hc]))
    · by_cases hc : c = Claim.zero
      · exact kinds_2nz _ t c w h1 h2 hok rfl rfl rfl ((str_isEmpty t).trans (decide_eq_false ht)) (Lib.hid (by simp [Entry.ok, Entry.anchor, ht])) (decide_eq_true hc)
      · exact kinds_2nn _ t c w h1 h2 hok rfl rfl rfl ((str_isEmpty t).trans (decide_eq_false ht)) (Lib.hid (by simp [Entry.ok, Entry.anchor, ht])) (decide_eq_false hc) (Lib.hid (by simp [Entry.ok, Entry.anchor, hc]))
  · by_cases ht : t = ByteArray.empty
    · exact kinds_3z _ t c w h1 h2 hok rfl rfl rfl (decide_eq_true rfl) ((str_isEmpty t).trans (decide_eq_true ht))
    · exact kinds_3n _ t c w h1 h2 hok rfl rfl rfl (decide_eq_true rfl) ((str_isEmpty t).trans (decide_eq_false ht)) (Lib.hid (by simp [Entry.ok, Entry.claimed, ht]))
end Go.Proofs.YtoajianddmobaaaDoor
