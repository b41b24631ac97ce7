/- CONTRACTS: what a right claim, head, entry and item is: the program's and the reference's tests come to the same Bools. No condition. -/
import Derived.Test.YtoajianddmobaaaDoorTyp
namespace Go.Proofs.YtoajianddmobaaaDoor
open Go.RowKit
set_option linter.unusedSimpArgs false
set_option linter.unusedVariables false

def within (n lo hi : Int) : Bool := decide (lo ≤ n) && decide (n ≤ hi)
def told (b : Bool) : Int := if b then 0 else 60
/-- The error's number 'n', or OK. -/
def errIf (n : Int) (b : Bool) : Int := if b then 0 else n
def Claim.ok (c : Claim) : Bool := within c.region 1 5 && within c.epoch 1 900000000 && within c.node 1 3 && within c.size 0 100000
def Head.ok (h : Head) : Bool := within h.region 1 5 && within h.epoch 1 900000000 && within h.size 0 100000 && within h.tick 0 900000000
def Signed.may (s : Signed) : Bool := s.head.ok && within s.node 1 3
def Entry.user (k c s : Int) (t : ByteArray) : Entry := ⟨k, c, s, t, Signed.zero, Claim.zero⟩
def Entry.anchor (s : Signed) : Entry := ⟨2, 0, 0, ByteArray.empty, s, Claim.zero⟩
def Entry.claimed (c : Claim) : Entry := ⟨3, 0, 0, ByteArray.empty, Signed.zero, c⟩
def Entry.ok (e : Entry) : Bool :=
  if e.kind = 1 then within e.client 1 3 && within e.seq 1 1000000 && decide ((e.text.size : Int) ≤ 200) && decide (e.head = Signed.zero) && decide (e.claim = Claim.zero)
  else if e.kind = 2 then decide (e.client = 0) && decide (e.seq = 0) && decide (e.text = ByteArray.empty) && e.head.may && decide (e.claim = Claim.zero)
  else if e.kind = 3 then decide (e.client = 0) && decide (e.seq = 0) && decide (e.text = ByteArray.empty) && decide (e.head = Signed.zero) && e.claim.ok
  else false
def Item.ok (x : Item) : Bool := within x.epoch 1 900000000 && x.entry.ok

theorem within_1 (n lo hi : Int) (w : World) : Calls Tryd.prog 75 #[.int .i64 n, .int .i64 lo, .int .i64 hi] w fun e w' => e = .returned (.bool (within n lo hi)) ∧ w = w' := by
  by_cases h1 : lo ≤ n
  · have e1 : decide (lo ≤ n) = true := by simp; omega
    go_enter Tryd.func75, Tryd.ntmps75
    go_wp2
    go_ret
    simp [within, e1]
  · have e1 : decide (lo ≤ n) = false := by simp; omega
    go_enter Tryd.func75, Tryd.ntmps75
    go_wp2
    go_ret
    simp [within, e1]
theorem within_2 (n lo hi : Int) (w : World) : Calls Tryd.prog 117 #[.int .i64 n, .int .i64 lo, .int .i64 hi] w fun e w' => e = .returned (.bool (within n lo hi)) ∧ w = w' := by
  by_cases h1 : lo ≤ n
  · have e1 : decide (lo ≤ n) = true := by simp; omega
    go_enter Tryd.func117, Tryd.ntmps117
    go_wp2
    go_ret
    simp [within, e1]
  · have e1 : decide (lo ≤ n) = false := by simp; omega
    go_enter Tryd.func117, Tryd.ntmps117
    go_wp2
    go_ret
    simp [within, e1]
theorem within_3 (n lo hi : Int) (w : World) : Calls Tryd.prog 131 #[.int .i64 n, .int .i64 lo, .int .i64 hi] w fun e w' => e = .returned (.bool (within n lo hi)) ∧ w = w' := by
  by_cases h1 : lo ≤ n
  · have e1 : decide (lo ≤ n) = true := by simp; omega
    go_enter Tryd.func131, Tryd.ntmps131
    go_wp2
    go_ret
    simp [within, e1]
  · have e1 : decide (lo ≤ n) = false := by simp; omega
    go_enter Tryd.func131, Tryd.ntmps131
    go_wp2
    go_ret
    simp [within, e1]
theorem within_5 (n lo hi : Int) (w : World) : Calls Tryd.prog 98 #[.int .i64 n, .int .i64 lo, .int .i64 hi] w fun e w' => e = .returned (.bool (within n lo hi)) ∧ w = w' := by
  by_cases h1 : lo ≤ n
  · have e1 : decide (lo ≤ n) = true := by simp; omega
    go_enter Tryd.func98, Tryd.ntmps98
    go_wp2
    go_ret
    simp [within, e1]
  · have e1 : decide (lo ≤ n) = false := by simp; omega
    go_enter Tryd.func98, Tryd.ntmps98
    go_wp2
    go_ret
    simp [within, e1]
theorem within_6 (n lo hi : Int) (w : World) : Calls Tryd.prog 111 #[.int .i64 n, .int .i64 lo, .int .i64 hi] w fun e w' => e = .returned (.bool (within n lo hi)) ∧ w = w' := by
  by_cases h1 : lo ≤ n
  · have e1 : decide (lo ≤ n) = true := by simp; omega
    go_enter Tryd.func111, Tryd.ntmps111
    go_wp2
    go_ret
    simp [within, e1]
  · have e1 : decide (lo ≤ n) = false := by simp; omega
    go_enter Tryd.func111, Tryd.ntmps111
    go_wp2
    go_ret
    simp [within, e1]

theorem told_call (b : Bool) (w : World) : Calls Tryd.prog 78 #[.bool b] w fun e w' => e = .returned (.int .i64 (told b)) ∧ w = w' := by
  cases b
  · go_enter Tryd.func78, Tryd.ntmps78
    go_wp2
    go_ret
    simp [told]
  · go_enter Tryd.func78, Tryd.ntmps78
    go_wp2
    go_ret
    simp [told]

theorem checkClaim_call (c : Claim) (w : World) : Calls Tryd.prog 70 #[.agg (encClaim c)] w fun e w' => e = .returned (.int .i64 (told c.ok)) ∧ Grew w w' := by
  go_enter Tryd.func70, Tryd.ntmps70
  go_wp2_with (first | (go_at_call 75; refine (within_1 _ _ _ _).mono ?_; rintro e w' ⟨rfl, rfl⟩) | (go_at_call 78; refine (told_call _ _).mono ?_; rintro e w' ⟨rfl, rfl⟩))
  all_goals
    go_ret
    refine ⟨by simp_all [Claim.ok], ?_⟩
    (repeat (first | exact Grew.refl _ | refine Grew.alloc ?_ _ | refine Grew.drew ?_ | refine Grew.after (by assumption) ?_ | refine Grew.after (Old.grew (by assumption)) ?_))

theorem rightClaim_call (c : Claim) (w : World) : Calls Tryd.prog 59 #[.agg (encClaim c)] w fun e w' => e = .returned (.bool c.ok) ∧ Grew w w' := by
  go_enter Tryd.func59, Tryd.ntmps59
  go_wp2_with (first | (go_at_call 111; refine (within_6 _ _ _ _).mono ?_; rintro e w' ⟨rfl, rfl⟩))
  all_goals
    go_ret
    refine ⟨by simp_all [Claim.ok], ?_⟩
    (repeat (first | exact Grew.refl _ | refine Grew.alloc ?_ _ | refine Grew.drew ?_ | refine Grew.after (by assumption) ?_ | refine Grew.after (Old.grew (by assumption)) ?_))

theorem headCheck_call (h : Head) (w : World) : Calls Tryd.prog 77 #[.agg (encHead h)] w fun e w' => e = .returned (.int .i64 (errIf 70 h.ok)) ∧ Grew w w' := by
  go_enter Tryd.func77, Tryd.ntmps77
  go_wp2_with (first | (go_at_call 117; refine (within_2 _ _ _ _).mono ?_; rintro e w' ⟨rfl, rfl⟩))
  all_goals
    go_ret
    refine ⟨by simp_all [Head.ok, errIf], ?_⟩
    (repeat (first | exact Grew.refl _ | refine Grew.alloc ?_ _ | refine Grew.drew ?_ | refine Grew.after (by assumption) ?_ | refine Grew.after (Old.grew (by assumption)) ?_))

theorem right07_call (h : Head) (w : World) : Calls Tryd.prog 46 #[.agg (encHead h)] w fun e w' => e = .returned (.bool h.ok) ∧ Grew w w' := by
  go_enter Tryd.func46, Tryd.ntmps46
  go_wp2_with (first | (go_at_call 98; refine (within_5 _ _ _ _).mono ?_; rintro e w' ⟨rfl, rfl⟩))
  all_goals
    go_ret
    refine ⟨by simp_all [Head.ok, errIf], ?_⟩
    (repeat (first | exact Grew.refl _ | refine Grew.alloc ?_ _ | refine Grew.drew ?_ | refine Grew.after (by assumption) ?_ | refine Grew.after (Old.grew (by assumption)) ?_))

theorem may07_call (s : Signed) (w : World) : Calls Tryd.prog 120 #[.agg (encSigned s)] w fun e w' => e = .returned (.bool s.may) ∧ Grew w w' := by
  go_enter Tryd.func120, Tryd.ntmps120
  go_wp2_with (first | (go_at_call 98; refine (within_5 _ _ _ _).mono ?_; rintro e w' ⟨rfl, rfl⟩) | (go_at_call 46; refine (right07_call _ _).mono ?_; rintro e w1 ⟨rfl, hg⟩; have hf := hg.facts))
  all_goals
    go_ret
    refine ⟨by simp_all [Signed.may], ?_⟩
    (repeat (first | exact Grew.refl _ | refine Grew.alloc ?_ _ | refine Grew.drew ?_ | refine Grew.after (by assumption) ?_ | refine Grew.after (Old.grew (by assumption)) ?_))
end Go.Proofs.YtoajianddmobaaaDoor
