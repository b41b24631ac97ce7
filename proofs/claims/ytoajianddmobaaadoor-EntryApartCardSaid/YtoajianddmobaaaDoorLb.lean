/- THE WALK of estreatlaw08.EntryApart: the rest. -/
import Derived.Test.YtoajianddmobaaaDoorLa
namespace Go.Proofs.YtoajianddmobaaaDoor
open Go.RowKit
set_option linter.unusedSimpArgs false
set_option linter.unusedVariables false
set_option maxRecDepth 100000

set_option maxHeartbeats 2000000 in
theorem apart_TF_TTt (x y : Item) (c d : Claim) (w : World) (h1 : ¬ 16384 < (x.entry.text.size : Int)) (h2 : ¬ 16384 < (y.entry.text.size : Int)) (hx : x.ok = true) (hy : y.ok = false) (hc : c.ok = true) (hd : d.ok = true) (hs2 : ((str (claimB c)).toList == (str (claimB d)).toList) = true) (hi2 : decide (c = d) = true) :
    Calls Tryd.prog 4 #[.agg (encItem x), .agg (encItem y), .agg (encClaim c), .agg (encClaim d)] w fun e w' => e = .returned (.bool true) ∧ Grew w w' := by
  obtain ⟨Ka0, Ka1, Ka2, Ka3⟩ := four w (.cells (encItem x) 41) (.cells (encItem y) 41) (.cells (encClaim c) 27) (.cells (encClaim d) 27)
  have MARKA : True := trivial
  have MARKC : True := trivial
  go_enter Tryd.func4, Tryd.ntmps4
  go_wp2_with (first
    | (go_at_call 23; clear MARKA; refine (putItem_call x _).mono ?_; rintro e w1 ⟨v1, rfl, ho1, hg1⟩; rw [hx]; simp only [errIf]; obtain ⟨a1, cp1, rfl, hce1, -, -⟩ := ho1.ce EB1; have Kb0 := (hg1.block (Array.getElem?_eq_some_iff.1 Ka0).1).trans Ka0; have Kb1 := (hg1.block (Array.getElem?_eq_some_iff.1 Ka1).1).trans Ka1; have Kb2 := (hg1.block (Array.getElem?_eq_some_iff.1 Ka2).1).trans Ka2; have Kb3 := (hg1.block (Array.getElem?_eq_some_iff.1 Ka3).1).trans Ka3; obtain ⟨p0, q0, r0, s0, L0⟩ := blk_facts Kb0; obtain ⟨p1, q1, r1, s1, L1⟩ := blk_facts Kb1; obtain ⟨p2, q2, r2, s2, L2⟩ := blk_facts Kb2; obtain ⟨p3, q3, r3, s3, L3⟩ := blk_facts Kb3)
    | (go_at_call 23; refine (putItem_call y _).mono ?_; rintro e w2 ⟨v2, rfl, ho2, hg2⟩; rw [hy]; simp only [errIf]; obtain ⟨a2, cp2, rfl, hce2, -, -⟩ := ho2.ce EB1; have Kc0 := (hg2.block (Array.getElem?_eq_some_iff.1 Kb0).1).trans Kb0; have Kc1 := (hg2.block (Array.getElem?_eq_some_iff.1 Kb1).1).trans Kb1; have Kc2 := (hg2.block (Array.getElem?_eq_some_iff.1 Kb2).1).trans Kb2; have Kc3 := (hg2.block (Array.getElem?_eq_some_iff.1 Kb3).1).trans Kb3; obtain ⟨p0, q0, r0, s0, L0⟩ := blk_facts Kc0; obtain ⟨p1, q1, r1, s1, L1⟩ := blk_facts Kc1; obtain ⟨p2, q2, r2, s2, L2⟩ := blk_facts Kc2; obtain ⟨p3, q3, r3, s3, L3⟩ := blk_facts Kc3)
    | (go_at_call 21; clear MARKC; refine (putClaim_call c _).mono ?_; rintro e w3 ⟨v3, rfl, ho3, hg3⟩; rw [hc]; simp only [errIf]; obtain ⟨a3, cp3, rfl, hce3, -, -⟩ := ho3.ce EB1; have Kd0 := (hg3.block (Array.getElem?_eq_some_iff.1 Kc0).1).trans Kc0; have Kd1 := (hg3.block (Array.getElem?_eq_some_iff.1 Kc1).1).trans Kc1; have Kd2 := (hg3.block (Array.getElem?_eq_some_iff.1 Kc2).1).trans Kc2; have Kd3 := (hg3.block (Array.getElem?_eq_some_iff.1 Kc3).1).trans Kc3; obtain ⟨p0, q0, r0, s0, L0⟩ := blk_facts Kd0; obtain ⟨p1, q1, r1, s1, L1⟩ := blk_facts Kd1; obtain ⟨p2, q2, r2, s2, L2⟩ := blk_facts Kd2; obtain ⟨p3, q3, r3, s3, L3⟩ := blk_facts Kd3)
    | (go_at_call 21; refine (putClaim_call d _).mono ?_; rintro e w4 ⟨v4, rfl, ho4, hg4⟩; rw [hd]; simp only [errIf]; obtain ⟨a4, cp4, rfl, hce4, -, -⟩ := ho4.ce EB1; have Ke0 := (hg4.block (Array.getElem?_eq_some_iff.1 Kd0).1).trans Kd0; have Ke1 := (hg4.block (Array.getElem?_eq_some_iff.1 Kd1).1).trans Kd1; have Ke2 := (hg4.block (Array.getElem?_eq_some_iff.1 Kd2).1).trans Kd2; have Ke3 := (hg4.block (Array.getElem?_eq_some_iff.1 Kd3).1).trans Kd3; obtain ⟨p0, q0, r0, s0, L0⟩ := blk_facts Ke0; obtain ⟨p1, q1, r1, s1, L1⟩ := blk_facts Ke1; obtain ⟨p2, q2, r2, s2, L2⟩ := blk_facts Ke2; obtain ⟨p3, q3, r3, s3, L3⟩ := blk_facts Ke3))
  refine wp_region_det (fun w' => Old w4 w') Grew (by kernel_rfl) (by kernel_rfl) Grew.refl (fun _ _ h g => Old.step h g) (Old.of (Grew.refl _).drew) ?_
  repeat (first | (refine TD.skip rfl ?_; simp only [Act.put, List.setIfInBounds_toArray, List.set_cons_zero, List.set_cons_succ]) | (refine' TD.det rfl ?_ ?_; rotate_left; (focus (intro K w9 hS hK; have hv1 := bytes_str (hce1.grew ((hg2.trans (hg3.trans hg4)).trans hS.grew)) cp1; have hv2 := bytes_str (hce2.grew ((hg3.trans hg4).trans hS.grew)) cp2; go_wp2_with fail; first | exact Grew.refl _ | assumption | exact (Grew.refl _).alloc _)); simp only [Act.put, List.setIfInBounds_toArray, List.set_cons_zero, List.set_cons_succ]))
  refine TD.done (fun w8 hS => ?_)
  have hG8 := hS.grew
  have Kf0 := (hG8.block (Array.getElem?_eq_some_iff.1 Ke0).1).trans Ke0
  have Kf1 := (hG8.block (Array.getElem?_eq_some_iff.1 Ke1).1).trans Ke1
  have Kf2 := (hG8.block (Array.getElem?_eq_some_iff.1 Ke2).1).trans Ke2
  have Kf3 := (hG8.block (Array.getElem?_eq_some_iff.1 Ke3).1).trans Ke3
  obtain ⟨p0, q0, r0, s0, L0⟩ := blk_facts Kf0
  obtain ⟨p1, q1, r1, s1, L1⟩ := blk_facts Kf1
  obtain ⟨p2, q2, r2, s2, L2⟩ := blk_facts Kf2
  obtain ⟨p3, q3, r3, s3, L3⟩ := blk_facts Kf3
  have hce38 := hce3.grew (hg4.trans hG8)
  have hce48 := hce4.grew hG8
  clear hS
  go_wp2
  refine wp_region_det (fun w' => Old w8 w') Grew (by kernel_rfl) (by kernel_rfl) Grew.refl (fun _ _ h g => Old.step h g) (Old.of (Grew.refl _).drew) ?_
  repeat (first | (refine TD.skip rfl ?_; simp only [Act.put, List.setIfInBounds_toArray, List.set_cons_zero, List.set_cons_succ]) | (refine' TD.det rfl ?_ ?_; rotate_left; (focus (intro K w9 hS hK; have hv1 := bytes_str (hce38.grew hS.grew) cp3; have hv2 := bytes_str (hce48.grew hS.grew) cp4; go_wp2_with (first | (go_at_call 24; refine (claims_call _).mono ?_; rintro e w1 ⟨rfl, hg⟩; have hf := hg.facts) | (go_at_call 25; refine (items_call _).mono ?_; rintro e w1 ⟨rfl, hg⟩; have hf := hg.facts)); first | exact Grew.refl _ | assumption | exact (Grew.refl _).alloc _)); simp only [Act.put, List.setIfInBounds_toArray, List.set_cons_zero, List.set_cons_succ]))
  refine TD.done (fun w8 hS => ?_)
  go_wp2
  go_ret
  exact ⟨rfl, by (repeat (first | exact Grew.refl _ | refine Grew.alloc ?_ _ | refine Grew.drew ?_ | refine Grew.after (by assumption) ?_ | refine Grew.after (Old.grew (by assumption)) ?_))⟩
set_option maxHeartbeats 2000000 in
theorem apart_TF_TTf (x y : Item) (c d : Claim) (w : World) (h1 : ¬ 16384 < (x.entry.text.size : Int)) (h2 : ¬ 16384 < (y.entry.text.size : Int)) (hx : x.ok = true) (hy : y.ok = false) (hc : c.ok = true) (hd : d.ok = true) (hs2 : ((str (claimB c)).toList == (str (claimB d)).toList) = false) (hi2 : decide (c = d) = false) :
    Calls Tryd.prog 4 #[.agg (encItem x), .agg (encItem y), .agg (encClaim c), .agg (encClaim d)] w fun e w' => e = .returned (.bool true) ∧ Grew w w' := by
  obtain ⟨Ka0, Ka1, Ka2, Ka3⟩ := four w (.cells (encItem x) 41) (.cells (encItem y) 41) (.cells (encClaim c) 27) (.cells (encClaim d) 27)
  have MARKA : True := trivial
  have MARKC : True := trivial
  go_enter Tryd.func4, Tryd.ntmps4
  go_wp2_with (first
    | (go_at_call 23; clear MARKA; refine (putItem_call x _).mono ?_; rintro e w1 ⟨v1, rfl, ho1, hg1⟩; rw [hx]; simp only [errIf]; obtain ⟨a1, cp1, rfl, hce1, -, -⟩ := ho1.ce EB1; have Kb0 := (hg1.block (Array.getElem?_eq_some_iff.1 Ka0).1).trans Ka0; have Kb1 := (hg1.block (Array.getElem?_eq_some_iff.1 Ka1).1).trans Ka1; have Kb2 := (hg1.block (Array.getElem?_eq_some_iff.1 Ka2).1).trans Ka2; have Kb3 := (hg1.block (Array.getElem?_eq_some_iff.1 Ka3).1).trans Ka3; obtain ⟨p0, q0, r0, s0, L0⟩ := blk_facts Kb0; obtain ⟨p1, q1, r1, s1, L1⟩ := blk_facts Kb1; obtain ⟨p2, q2, r2, s2, L2⟩ := blk_facts Kb2; obtain ⟨p3, q3, r3, s3, L3⟩ := blk_facts Kb3)
    | (go_at_call 23; refine (putItem_call y _).mono ?_; rintro e w2 ⟨v2, rfl, ho2, hg2⟩; rw [hy]; simp only [errIf]; obtain ⟨a2, cp2, rfl, hce2, -, -⟩ := ho2.ce EB1; have Kc0 := (hg2.block (Array.getElem?_eq_some_iff.1 Kb0).1).trans Kb0; have Kc1 := (hg2.block (Array.getElem?_eq_some_iff.1 Kb1).1).trans Kb1; have Kc2 := (hg2.block (Array.getElem?_eq_some_iff.1 Kb2).1).trans Kb2; have Kc3 := (hg2.block (Array.getElem?_eq_some_iff.1 Kb3).1).trans Kb3; obtain ⟨p0, q0, r0, s0, L0⟩ := blk_facts Kc0; obtain ⟨p1, q1, r1, s1, L1⟩ := blk_facts Kc1; obtain ⟨p2, q2, r2, s2, L2⟩ := blk_facts Kc2; obtain ⟨p3, q3, r3, s3, L3⟩ := blk_facts Kc3)
    | (go_at_call 21; clear MARKC; refine (putClaim_call c _).mono ?_; rintro e w3 ⟨v3, rfl, ho3, hg3⟩; rw [hc]; simp only [errIf]; obtain ⟨a3, cp3, rfl, hce3, -, -⟩ := ho3.ce EB1; have Kd0 := (hg3.block (Array.getElem?_eq_some_iff.1 Kc0).1).trans Kc0; have Kd1 := (hg3.block (Array.getElem?_eq_some_iff.1 Kc1).1).trans Kc1; have Kd2 := (hg3.block (Array.getElem?_eq_some_iff.1 Kc2).1).trans Kc2; have Kd3 := (hg3.block (Array.getElem?_eq_some_iff.1 Kc3).1).trans Kc3; obtain ⟨p0, q0, r0, s0, L0⟩ := blk_facts Kd0; obtain ⟨p1, q1, r1, s1, L1⟩ := blk_facts Kd1; obtain ⟨p2, q2, r2, s2, L2⟩ := blk_facts Kd2; obtain ⟨p3, q3, r3, s3, L3⟩ := blk_facts Kd3)
    | (go_at_call 21; refine (putClaim_call d _).mono ?_; rintro e w4 ⟨v4, rfl, ho4, hg4⟩; rw [hd]; simp only [errIf]; obtain ⟨a4, cp4, rfl, hce4, -, -⟩ := ho4.ce EB1; have Ke0 := (hg4.block (Array.getElem?_eq_some_iff.1 Kd0).1).trans Kd0; have Ke1 := (hg4.block (Array.getElem?_eq_some_iff.1 Kd1).1).trans Kd1; have Ke2 := (hg4.block (Array.getElem?_eq_some_iff.1 Kd2).1).trans Kd2; have Ke3 := (hg4.block (Array.getElem?_eq_some_iff.1 Kd3).1).trans Kd3; obtain ⟨p0, q0, r0, s0, L0⟩ := blk_facts Ke0; obtain ⟨p1, q1, r1, s1, L1⟩ := blk_facts Ke1; obtain ⟨p2, q2, r2, s2, L2⟩ := blk_facts Ke2; obtain ⟨p3, q3, r3, s3, L3⟩ := blk_facts Ke3))
  refine wp_region_det (fun w' => Old w4 w') Grew (by kernel_rfl) (by kernel_rfl) Grew.refl (fun _ _ h g => Old.step h g) (Old.of (Grew.refl _).drew) ?_
  repeat (first | (refine TD.skip rfl ?_; simp only [Act.put, List.setIfInBounds_toArray, List.set_cons_zero, List.set_cons_succ]) | (refine' TD.det rfl ?_ ?_; rotate_left; (focus (intro K w9 hS hK; have hv1 := bytes_str (hce1.grew ((hg2.trans (hg3.trans hg4)).trans hS.grew)) cp1; have hv2 := bytes_str (hce2.grew ((hg3.trans hg4).trans hS.grew)) cp2; go_wp2_with fail; first | exact Grew.refl _ | assumption | exact (Grew.refl _).alloc _)); simp only [Act.put, List.setIfInBounds_toArray, List.set_cons_zero, List.set_cons_succ]))
  refine TD.done (fun w8 hS => ?_)
  have hG8 := hS.grew
  have Kf0 := (hG8.block (Array.getElem?_eq_some_iff.1 Ke0).1).trans Ke0
  have Kf1 := (hG8.block (Array.getElem?_eq_some_iff.1 Ke1).1).trans Ke1
  have Kf2 := (hG8.block (Array.getElem?_eq_some_iff.1 Ke2).1).trans Ke2
  have Kf3 := (hG8.block (Array.getElem?_eq_some_iff.1 Ke3).1).trans Ke3
  obtain ⟨p0, q0, r0, s0, L0⟩ := blk_facts Kf0
  obtain ⟨p1, q1, r1, s1, L1⟩ := blk_facts Kf1
  obtain ⟨p2, q2, r2, s2, L2⟩ := blk_facts Kf2
  obtain ⟨p3, q3, r3, s3, L3⟩ := blk_facts Kf3
  have hce38 := hce3.grew (hg4.trans hG8)
  have hce48 := hce4.grew hG8
  clear hS
  go_wp2
  refine wp_region_det (fun w' => Old w8 w') Grew (by kernel_rfl) (by kernel_rfl) Grew.refl (fun _ _ h g => Old.step h g) (Old.of (Grew.refl _).drew) ?_
  repeat (first | (refine TD.skip rfl ?_; simp only [Act.put, List.setIfInBounds_toArray, List.set_cons_zero, List.set_cons_succ]) | (refine' TD.det rfl ?_ ?_; rotate_left; (focus (intro K w9 hS hK; have hv1 := bytes_str (hce38.grew hS.grew) cp3; have hv2 := bytes_str (hce48.grew hS.grew) cp4; go_wp2_with (first | (go_at_call 24; refine (claims_call _).mono ?_; rintro e w1 ⟨rfl, hg⟩; have hf := hg.facts) | (go_at_call 25; refine (items_call _).mono ?_; rintro e w1 ⟨rfl, hg⟩; have hf := hg.facts)); first | exact Grew.refl _ | assumption | exact (Grew.refl _).alloc _)); simp only [Act.put, List.setIfInBounds_toArray, List.set_cons_zero, List.set_cons_succ]))
  refine TD.done (fun w8 hS => ?_)
  go_wp2
  go_ret
  exact ⟨rfl, by (repeat (first | exact Grew.refl _ | refine Grew.alloc ?_ _ | refine Grew.drew ?_ | refine Grew.after (by assumption) ?_ | refine Grew.after (Old.grew (by assumption)) ?_))⟩
set_option maxHeartbeats 2000000 in
theorem apart_TTt_FF (x y : Item) (c d : Claim) (w : World) (h1 : ¬ 16384 < (x.entry.text.size : Int)) (h2 : ¬ 16384 < (y.entry.text.size : Int)) (hx : x.ok = true) (hy : y.ok = true) (hs1 : ((str (itemB x)).toList == (str (itemB y)).toList) = true) (hi1 : decide (x = y) = true) (hc : c.ok = false) (hd : d.ok = false) :
    Calls Tryd.prog 4 #[.agg (encItem x), .agg (encItem y), .agg (encClaim c), .agg (encClaim d)] w fun e w' => e = .returned (.bool true) ∧ Grew w w' := by
  obtain ⟨Ka0, Ka1, Ka2, Ka3⟩ := four w (.cells (encItem x) 41) (.cells (encItem y) 41) (.cells (encClaim c) 27) (.cells (encClaim d) 27)
  have MARKA : True := trivial
  have MARKC : True := trivial
  go_enter Tryd.func4, Tryd.ntmps4
  go_wp2_with (first
    | (go_at_call 23; clear MARKA; refine (putItem_call x _).mono ?_; rintro e w1 ⟨v1, rfl, ho1, hg1⟩; rw [hx]; simp only [errIf]; obtain ⟨a1, cp1, rfl, hce1, -, -⟩ := ho1.ce EB1; have Kb0 := (hg1.block (Array.getElem?_eq_some_iff.1 Ka0).1).trans Ka0; have Kb1 := (hg1.block (Array.getElem?_eq_some_iff.1 Ka1).1).trans Ka1; have Kb2 := (hg1.block (Array.getElem?_eq_some_iff.1 Ka2).1).trans Ka2; have Kb3 := (hg1.block (Array.getElem?_eq_some_iff.1 Ka3).1).trans Ka3; obtain ⟨p0, q0, r0, s0, L0⟩ := blk_facts Kb0; obtain ⟨p1, q1, r1, s1, L1⟩ := blk_facts Kb1; obtain ⟨p2, q2, r2, s2, L2⟩ := blk_facts Kb2; obtain ⟨p3, q3, r3, s3, L3⟩ := blk_facts Kb3)
    | (go_at_call 23; refine (putItem_call y _).mono ?_; rintro e w2 ⟨v2, rfl, ho2, hg2⟩; rw [hy]; simp only [errIf]; obtain ⟨a2, cp2, rfl, hce2, -, -⟩ := ho2.ce EB1; have Kc0 := (hg2.block (Array.getElem?_eq_some_iff.1 Kb0).1).trans Kb0; have Kc1 := (hg2.block (Array.getElem?_eq_some_iff.1 Kb1).1).trans Kb1; have Kc2 := (hg2.block (Array.getElem?_eq_some_iff.1 Kb2).1).trans Kb2; have Kc3 := (hg2.block (Array.getElem?_eq_some_iff.1 Kb3).1).trans Kb3; obtain ⟨p0, q0, r0, s0, L0⟩ := blk_facts Kc0; obtain ⟨p1, q1, r1, s1, L1⟩ := blk_facts Kc1; obtain ⟨p2, q2, r2, s2, L2⟩ := blk_facts Kc2; obtain ⟨p3, q3, r3, s3, L3⟩ := blk_facts Kc3)
    | (go_at_call 21; clear MARKC; refine (putClaim_call c _).mono ?_; rintro e w3 ⟨v3, rfl, ho3, hg3⟩; rw [hc]; simp only [errIf]; obtain ⟨a3, cp3, rfl, hce3, -, -⟩ := ho3.ce EB1; have Kd0 := (hg3.block (Array.getElem?_eq_some_iff.1 Kc0).1).trans Kc0; have Kd1 := (hg3.block (Array.getElem?_eq_some_iff.1 Kc1).1).trans Kc1; have Kd2 := (hg3.block (Array.getElem?_eq_some_iff.1 Kc2).1).trans Kc2; have Kd3 := (hg3.block (Array.getElem?_eq_some_iff.1 Kc3).1).trans Kc3; obtain ⟨p0, q0, r0, s0, L0⟩ := blk_facts Kd0; obtain ⟨p1, q1, r1, s1, L1⟩ := blk_facts Kd1; obtain ⟨p2, q2, r2, s2, L2⟩ := blk_facts Kd2; obtain ⟨p3, q3, r3, s3, L3⟩ := blk_facts Kd3)
    | (go_at_call 21; refine (putClaim_call d _).mono ?_; rintro e w4 ⟨v4, rfl, ho4, hg4⟩; rw [hd]; simp only [errIf]; obtain ⟨a4, cp4, rfl, hce4, -, -⟩ := ho4.ce EB1; have Ke0 := (hg4.block (Array.getElem?_eq_some_iff.1 Kd0).1).trans Kd0; have Ke1 := (hg4.block (Array.getElem?_eq_some_iff.1 Kd1).1).trans Kd1; have Ke2 := (hg4.block (Array.getElem?_eq_some_iff.1 Kd2).1).trans Kd2; have Ke3 := (hg4.block (Array.getElem?_eq_some_iff.1 Kd3).1).trans Kd3; obtain ⟨p0, q0, r0, s0, L0⟩ := blk_facts Ke0; obtain ⟨p1, q1, r1, s1, L1⟩ := blk_facts Ke1; obtain ⟨p2, q2, r2, s2, L2⟩ := blk_facts Ke2; obtain ⟨p3, q3, r3, s3, L3⟩ := blk_facts Ke3))
  refine wp_region_det (fun w' => Old w4 w') Grew (by kernel_rfl) (by kernel_rfl) Grew.refl (fun _ _ h g => Old.step h g) (Old.of (Grew.refl _).drew) ?_
  repeat (first | (refine TD.skip rfl ?_; simp only [Act.put, List.setIfInBounds_toArray, List.set_cons_zero, List.set_cons_succ]) | (refine' TD.det rfl ?_ ?_; rotate_left; (focus (intro K w9 hS hK; have hv1 := bytes_str (hce1.grew ((hg2.trans (hg3.trans hg4)).trans hS.grew)) cp1; have hv2 := bytes_str (hce2.grew ((hg3.trans hg4).trans hS.grew)) cp2; go_wp2_with fail; first | exact Grew.refl _ | assumption | exact (Grew.refl _).alloc _)); simp only [Act.put, List.setIfInBounds_toArray, List.set_cons_zero, List.set_cons_succ]))
  refine TD.done (fun w8 hS => ?_)
  have hG8 := hS.grew
  have Kf0 := (hG8.block (Array.getElem?_eq_some_iff.1 Ke0).1).trans Ke0
  have Kf1 := (hG8.block (Array.getElem?_eq_some_iff.1 Ke1).1).trans Ke1
  have Kf2 := (hG8.block (Array.getElem?_eq_some_iff.1 Ke2).1).trans Ke2
  have Kf3 := (hG8.block (Array.getElem?_eq_some_iff.1 Ke3).1).trans Ke3
  obtain ⟨p0, q0, r0, s0, L0⟩ := blk_facts Kf0
  obtain ⟨p1, q1, r1, s1, L1⟩ := blk_facts Kf1
  obtain ⟨p2, q2, r2, s2, L2⟩ := blk_facts Kf2
  obtain ⟨p3, q3, r3, s3, L3⟩ := blk_facts Kf3
  have hce38 := hce3.grew (hg4.trans hG8)
  have hce48 := hce4.grew hG8
  clear hS
  go_wp2
  refine wp_region_det (fun w' => Old w8 w') Grew (by kernel_rfl) (by kernel_rfl) Grew.refl (fun _ _ h g => Old.step h g) (Old.of (Grew.refl _).drew) ?_
  repeat (first | (refine TD.skip rfl ?_; simp only [Act.put, List.setIfInBounds_toArray, List.set_cons_zero, List.set_cons_succ]) | (refine' TD.det rfl ?_ ?_; rotate_left; (focus (intro K w9 hS hK; have hv1 := bytes_str (hce38.grew hS.grew) cp3; have hv2 := bytes_str (hce48.grew hS.grew) cp4; go_wp2_with (first | (go_at_call 24; refine (claims_call _).mono ?_; rintro e w1 ⟨rfl, hg⟩; have hf := hg.facts) | (go_at_call 25; refine (items_call _).mono ?_; rintro e w1 ⟨rfl, hg⟩; have hf := hg.facts)); first | exact Grew.refl _ | assumption | exact (Grew.refl _).alloc _)); simp only [Act.put, List.setIfInBounds_toArray, List.set_cons_zero, List.set_cons_succ]))
  refine TD.done (fun w8 hS => ?_)
  go_wp2
  go_ret
  exact ⟨rfl, by (repeat (first | exact Grew.refl _ | refine Grew.alloc ?_ _ | refine Grew.drew ?_ | refine Grew.after (by assumption) ?_ | refine Grew.after (Old.grew (by assumption)) ?_))⟩
set_option maxHeartbeats 2000000 in
theorem apart_TTt_FT (x y : Item) (c d : Claim) (w : World) (h1 : ¬ 16384 < (x.entry.text.size : Int)) (h2 : ¬ 16384 < (y.entry.text.size : Int)) (hx : x.ok = true) (hy : y.ok = true) (hs1 : ((str (itemB x)).toList == (str (itemB y)).toList) = true) (hi1 : decide (x = y) = true) (hc : c.ok = false) (hd : d.ok = true) :
    Calls Tryd.prog 4 #[.agg (encItem x), .agg (encItem y), .agg (encClaim c), .agg (encClaim d)] w fun e w' => e = .returned (.bool true) ∧ Grew w w' := by
  obtain ⟨Ka0, Ka1, Ka2, Ka3⟩ := four w (.cells (encItem x) 41) (.cells (encItem y) 41) (.cells (encClaim c) 27) (.cells (encClaim d) 27)
  have MARKA : True := trivial
  have MARKC : True := trivial
  go_enter Tryd.func4, Tryd.ntmps4
  go_wp2_with (first
    | (go_at_call 23; clear MARKA; refine (putItem_call x _).mono ?_; rintro e w1 ⟨v1, rfl, ho1, hg1⟩; rw [hx]; simp only [errIf]; obtain ⟨a1, cp1, rfl, hce1, -, -⟩ := ho1.ce EB1; have Kb0 := (hg1.block (Array.getElem?_eq_some_iff.1 Ka0).1).trans Ka0; have Kb1 := (hg1.block (Array.getElem?_eq_some_iff.1 Ka1).1).trans Ka1; have Kb2 := (hg1.block (Array.getElem?_eq_some_iff.1 Ka2).1).trans Ka2; have Kb3 := (hg1.block (Array.getElem?_eq_some_iff.1 Ka3).1).trans Ka3; obtain ⟨p0, q0, r0, s0, L0⟩ := blk_facts Kb0; obtain ⟨p1, q1, r1, s1, L1⟩ := blk_facts Kb1; obtain ⟨p2, q2, r2, s2, L2⟩ := blk_facts Kb2; obtain ⟨p3, q3, r3, s3, L3⟩ := blk_facts Kb3)
    | (go_at_call 23; refine (putItem_call y _).mono ?_; rintro e w2 ⟨v2, rfl, ho2, hg2⟩; rw [hy]; simp only [errIf]; obtain ⟨a2, cp2, rfl, hce2, -, -⟩ := ho2.ce EB1; have Kc0 := (hg2.block (Array.getElem?_eq_some_iff.1 Kb0).1).trans Kb0; have Kc1 := (hg2.block (Array.getElem?_eq_some_iff.1 Kb1).1).trans Kb1; have Kc2 := (hg2.block (Array.getElem?_eq_some_iff.1 Kb2).1).trans Kb2; have Kc3 := (hg2.block (Array.getElem?_eq_some_iff.1 Kb3).1).trans Kb3; obtain ⟨p0, q0, r0, s0, L0⟩ := blk_facts Kc0; obtain ⟨p1, q1, r1, s1, L1⟩ := blk_facts Kc1; obtain ⟨p2, q2, r2, s2, L2⟩ := blk_facts Kc2; obtain ⟨p3, q3, r3, s3, L3⟩ := blk_facts Kc3)
    | (go_at_call 21; clear MARKC; refine (putClaim_call c _).mono ?_; rintro e w3 ⟨v3, rfl, ho3, hg3⟩; rw [hc]; simp only [errIf]; obtain ⟨a3, cp3, rfl, hce3, -, -⟩ := ho3.ce EB1; have Kd0 := (hg3.block (Array.getElem?_eq_some_iff.1 Kc0).1).trans Kc0; have Kd1 := (hg3.block (Array.getElem?_eq_some_iff.1 Kc1).1).trans Kc1; have Kd2 := (hg3.block (Array.getElem?_eq_some_iff.1 Kc2).1).trans Kc2; have Kd3 := (hg3.block (Array.getElem?_eq_some_iff.1 Kc3).1).trans Kc3; obtain ⟨p0, q0, r0, s0, L0⟩ := blk_facts Kd0; obtain ⟨p1, q1, r1, s1, L1⟩ := blk_facts Kd1; obtain ⟨p2, q2, r2, s2, L2⟩ := blk_facts Kd2; obtain ⟨p3, q3, r3, s3, L3⟩ := blk_facts Kd3)
    | (go_at_call 21; refine (putClaim_call d _).mono ?_; rintro e w4 ⟨v4, rfl, ho4, hg4⟩; rw [hd]; simp only [errIf]; obtain ⟨a4, cp4, rfl, hce4, -, -⟩ := ho4.ce EB1; have Ke0 := (hg4.block (Array.getElem?_eq_some_iff.1 Kd0).1).trans Kd0; have Ke1 := (hg4.block (Array.getElem?_eq_some_iff.1 Kd1).1).trans Kd1; have Ke2 := (hg4.block (Array.getElem?_eq_some_iff.1 Kd2).1).trans Kd2; have Ke3 := (hg4.block (Array.getElem?_eq_some_iff.1 Kd3).1).trans Kd3; obtain ⟨p0, q0, r0, s0, L0⟩ := blk_facts Ke0; obtain ⟨p1, q1, r1, s1, L1⟩ := blk_facts Ke1; obtain ⟨p2, q2, r2, s2, L2⟩ := blk_facts Ke2; obtain ⟨p3, q3, r3, s3, L3⟩ := blk_facts Ke3))
  refine wp_region_det (fun w' => Old w4 w') Grew (by kernel_rfl) (by kernel_rfl) Grew.refl (fun _ _ h g => Old.step h g) (Old.of (Grew.refl _).drew) ?_
  repeat (first | (refine TD.skip rfl ?_; simp only [Act.put, List.setIfInBounds_toArray, List.set_cons_zero, List.set_cons_succ]) | (refine' TD.det rfl ?_ ?_; rotate_left; (focus (intro K w9 hS hK; have hv1 := bytes_str (hce1.grew ((hg2.trans (hg3.trans hg4)).trans hS.grew)) cp1; have hv2 := bytes_str (hce2.grew ((hg3.trans hg4).trans hS.grew)) cp2; go_wp2_with fail; first | exact Grew.refl _ | assumption | exact (Grew.refl _).alloc _)); simp only [Act.put, List.setIfInBounds_toArray, List.set_cons_zero, List.set_cons_succ]))
  refine TD.done (fun w8 hS => ?_)
  have hG8 := hS.grew
  have Kf0 := (hG8.block (Array.getElem?_eq_some_iff.1 Ke0).1).trans Ke0
  have Kf1 := (hG8.block (Array.getElem?_eq_some_iff.1 Ke1).1).trans Ke1
  have Kf2 := (hG8.block (Array.getElem?_eq_some_iff.1 Ke2).1).trans Ke2
  have Kf3 := (hG8.block (Array.getElem?_eq_some_iff.1 Ke3).1).trans Ke3
  obtain ⟨p0, q0, r0, s0, L0⟩ := blk_facts Kf0
  obtain ⟨p1, q1, r1, s1, L1⟩ := blk_facts Kf1
  obtain ⟨p2, q2, r2, s2, L2⟩ := blk_facts Kf2
  obtain ⟨p3, q3, r3, s3, L3⟩ := blk_facts Kf3
  have hce38 := hce3.grew (hg4.trans hG8)
  have hce48 := hce4.grew hG8
  clear hS
  go_wp2
  refine wp_region_det (fun w' => Old w8 w') Grew (by kernel_rfl) (by kernel_rfl) Grew.refl (fun _ _ h g => Old.step h g) (Old.of (Grew.refl _).drew) ?_
  repeat (first | (refine TD.skip rfl ?_; simp only [Act.put, List.setIfInBounds_toArray, List.set_cons_zero, List.set_cons_succ]) | (refine' TD.det rfl ?_ ?_; rotate_left; (focus (intro K w9 hS hK; have hv1 := bytes_str (hce38.grew hS.grew) cp3; have hv2 := bytes_str (hce48.grew hS.grew) cp4; go_wp2_with (first | (go_at_call 24; refine (claims_call _).mono ?_; rintro e w1 ⟨rfl, hg⟩; have hf := hg.facts) | (go_at_call 25; refine (items_call _).mono ?_; rintro e w1 ⟨rfl, hg⟩; have hf := hg.facts)); first | exact Grew.refl _ | assumption | exact (Grew.refl _).alloc _)); simp only [Act.put, List.setIfInBounds_toArray, List.set_cons_zero, List.set_cons_succ]))
  refine TD.done (fun w8 hS => ?_)
  go_wp2
  go_ret
  exact ⟨rfl, by (repeat (first | exact Grew.refl _ | refine Grew.alloc ?_ _ | refine Grew.drew ?_ | refine Grew.after (by assumption) ?_ | refine Grew.after (Old.grew (by assumption)) ?_))⟩
set_option maxHeartbeats 2000000 in
theorem apart_TTt_TF (x y : Item) (c d : Claim) (w : World) (h1 : ¬ 16384 < (x.entry.text.size : Int)) (h2 : ¬ 16384 < (y.entry.text.size : Int)) (hx : x.ok = true) (hy : y.ok = true) (hs1 : ((str (itemB x)).toList == (str (itemB y)).toList) = true) (hi1 : decide (x = y) = true) (hc : c.ok = true) (hd : d.ok = false) :
    Calls Tryd.prog 4 #[.agg (encItem x), .agg (encItem y), .agg (encClaim c), .agg (encClaim d)] w fun e w' => e = .returned (.bool true) ∧ Grew w w' := by
  obtain ⟨Ka0, Ka1, Ka2, Ka3⟩ := four w (.cells (encItem x) 41) (.cells (encItem y) 41) (.cells (encClaim c) 27) (.cells (encClaim d) 27)
  have MARKA : True := trivial
  have MARKC : True := trivial
  go_enter Tryd.func4, Tryd.ntmps4
  go_wp2_with (first
    | (go_at_call 23; clear MARKA; refine (putItem_call x _).mono ?_; rintro e w1 ⟨v1, rfl, ho1, hg1⟩; rw [hx]; simp only [errIf]; obtain ⟨a1, cp1, rfl, hce1, -, -⟩ := ho1.ce EB1; have Kb0 := (hg1.block (Array.getElem?_eq_some_iff.1 Ka0).1).trans Ka0; have Kb1 := (hg1.block (Array.getElem?_eq_some_iff.1 Ka1).1).trans Ka1; have Kb2 := (hg1.block (Array.getElem?_eq_some_iff.1 Ka2).1).trans Ka2; have Kb3 := (hg1.block (Array.getElem?_eq_some_iff.1 Ka3).1).trans Ka3; obtain ⟨p0, q0, r0, s0, L0⟩ := blk_facts Kb0; obtain ⟨p1, q1, r1, s1, L1⟩ := blk_facts Kb1; obtain ⟨p2, q2, r2, s2, L2⟩ := blk_facts Kb2; obtain ⟨p3, q3, r3, s3, L3⟩ := blk_facts Kb3)
    | (go_at_call 23; refine (putItem_call y _).mono ?_; rintro e w2 ⟨v2, rfl, ho2, hg2⟩; rw [hy]; simp only [errIf]; obtain ⟨a2, cp2, rfl, hce2, -, -⟩ := ho2.ce EB1; have Kc0 := (hg2.block (Array.getElem?_eq_some_iff.1 Kb0).1).trans Kb0; have Kc1 := (hg2.block (Array.getElem?_eq_some_iff.1 Kb1).1).trans Kb1; have Kc2 := (hg2.block (Array.getElem?_eq_some_iff.1 Kb2).1).trans Kb2; have Kc3 := (hg2.block (Array.getElem?_eq_some_iff.1 Kb3).1).trans Kb3; obtain ⟨p0, q0, r0, s0, L0⟩ := blk_facts Kc0; obtain ⟨p1, q1, r1, s1, L1⟩ := blk_facts Kc1; obtain ⟨p2, q2, r2, s2, L2⟩ := blk_facts Kc2; obtain ⟨p3, q3, r3, s3, L3⟩ := blk_facts Kc3)
    | (go_at_call 21; clear MARKC; refine (putClaim_call c _).mono ?_; rintro e w3 ⟨v3, rfl, ho3, hg3⟩; rw [hc]; simp only [errIf]; obtain ⟨a3, cp3, rfl, hce3, -, -⟩ := ho3.ce EB1; have Kd0 := (hg3.block (Array.getElem?_eq_some_iff.1 Kc0).1).trans Kc0; have Kd1 := (hg3.block (Array.getElem?_eq_some_iff.1 Kc1).1).trans Kc1; have Kd2 := (hg3.block (Array.getElem?_eq_some_iff.1 Kc2).1).trans Kc2; have Kd3 := (hg3.block (Array.getElem?_eq_some_iff.1 Kc3).1).trans Kc3; obtain ⟨p0, q0, r0, s0, L0⟩ := blk_facts Kd0; obtain ⟨p1, q1, r1, s1, L1⟩ := blk_facts Kd1; obtain ⟨p2, q2, r2, s2, L2⟩ := blk_facts Kd2; obtain ⟨p3, q3, r3, s3, L3⟩ := blk_facts Kd3)
    | (go_at_call 21; refine (putClaim_call d _).mono ?_; rintro e w4 ⟨v4, rfl, ho4, hg4⟩; rw [hd]; simp only [errIf]; obtain ⟨a4, cp4, rfl, hce4, -, -⟩ := ho4.ce EB1; have Ke0 := (hg4.block (Array.getElem?_eq_some_iff.1 Kd0).1).trans Kd0; have Ke1 := (hg4.block (Array.getElem?_eq_some_iff.1 Kd1).1).trans Kd1; have Ke2 := (hg4.block (Array.getElem?_eq_some_iff.1 Kd2).1).trans Kd2; have Ke3 := (hg4.block (Array.getElem?_eq_some_iff.1 Kd3).1).trans Kd3; obtain ⟨p0, q0, r0, s0, L0⟩ := blk_facts Ke0; obtain ⟨p1, q1, r1, s1, L1⟩ := blk_facts Ke1; obtain ⟨p2, q2, r2, s2, L2⟩ := blk_facts Ke2; obtain ⟨p3, q3, r3, s3, L3⟩ := blk_facts Ke3))
  refine wp_region_det (fun w' => Old w4 w') Grew (by kernel_rfl) (by kernel_rfl) Grew.refl (fun _ _ h g => Old.step h g) (Old.of (Grew.refl _).drew) ?_
  repeat (first | (refine TD.skip rfl ?_; simp only [Act.put, List.setIfInBounds_toArray, List.set_cons_zero, List.set_cons_succ]) | (refine' TD.det rfl ?_ ?_; rotate_left; (focus (intro K w9 hS hK; have hv1 := bytes_str (hce1.grew ((hg2.trans (hg3.trans hg4)).trans hS.grew)) cp1; have hv2 := bytes_str (hce2.grew ((hg3.trans hg4).trans hS.grew)) cp2; go_wp2_with fail; first | exact Grew.refl _ | assumption | exact (Grew.refl _).alloc _)); simp only [Act.put, List.setIfInBounds_toArray, List.set_cons_zero, List.set_cons_succ]))
  refine TD.done (fun w8 hS => ?_)
  have hG8 := hS.grew
  have Kf0 := (hG8.block (Array.getElem?_eq_some_iff.1 Ke0).1).trans Ke0
  have Kf1 := (hG8.block (Array.getElem?_eq_some_iff.1 Ke1).1).trans Ke1
  have Kf2 := (hG8.block (Array.getElem?_eq_some_iff.1 Ke2).1).trans Ke2
  have Kf3 := (hG8.block (Array.getElem?_eq_some_iff.1 Ke3).1).trans Ke3
  obtain ⟨p0, q0, r0, s0, L0⟩ := blk_facts Kf0
  obtain ⟨p1, q1, r1, s1, L1⟩ := blk_facts Kf1
  obtain ⟨p2, q2, r2, s2, L2⟩ := blk_facts Kf2
  obtain ⟨p3, q3, r3, s3, L3⟩ := blk_facts Kf3
  have hce38 := hce3.grew (hg4.trans hG8)
  have hce48 := hce4.grew hG8
  clear hS
  go_wp2
  refine wp_region_det (fun w' => Old w8 w') Grew (by kernel_rfl) (by kernel_rfl) Grew.refl (fun _ _ h g => Old.step h g) (Old.of (Grew.refl _).drew) ?_
  repeat (first | (refine TD.skip rfl ?_; simp only [Act.put, List.setIfInBounds_toArray, List.set_cons_zero, List.set_cons_succ]) | (refine' TD.det rfl ?_ ?_; rotate_left; (focus (intro K w9 hS hK; have hv1 := bytes_str (hce38.grew hS.grew) cp3; have hv2 := bytes_str (hce48.grew hS.grew) cp4; go_wp2_with (first | (go_at_call 24; refine (claims_call _).mono ?_; rintro e w1 ⟨rfl, hg⟩; have hf := hg.facts) | (go_at_call 25; refine (items_call _).mono ?_; rintro e w1 ⟨rfl, hg⟩; have hf := hg.facts)); first | exact Grew.refl _ | assumption | exact (Grew.refl _).alloc _)); simp only [Act.put, List.setIfInBounds_toArray, List.set_cons_zero, List.set_cons_succ]))
  refine TD.done (fun w8 hS => ?_)
  go_wp2
  go_ret
  exact ⟨rfl, by (repeat (first | exact Grew.refl _ | refine Grew.alloc ?_ _ | refine Grew.drew ?_ | refine Grew.after (by assumption) ?_ | refine Grew.after (Old.grew (by assumption)) ?_))⟩
set_option maxHeartbeats 2000000 in
theorem apart_TTt_TTt (x y : Item) (c d : Claim) (w : World) (h1 : ¬ 16384 < (x.entry.text.size : Int)) (h2 : ¬ 16384 < (y.entry.text.size : Int)) (hx : x.ok = true) (hy : y.ok = true) (hs1 : ((str (itemB x)).toList == (str (itemB y)).toList) = true) (hi1 : decide (x = y) = true) (hc : c.ok = true) (hd : d.ok = true) (hs2 : ((str (claimB c)).toList == (str (claimB d)).toList) = true) (hi2 : decide (c = d) = true) :
    Calls Tryd.prog 4 #[.agg (encItem x), .agg (encItem y), .agg (encClaim c), .agg (encClaim d)] w fun e w' => e = .returned (.bool true) ∧ Grew w w' := by
  obtain ⟨Ka0, Ka1, Ka2, Ka3⟩ := four w (.cells (encItem x) 41) (.cells (encItem y) 41) (.cells (encClaim c) 27) (.cells (encClaim d) 27)
  have MARKA : True := trivial
  have MARKC : True := trivial
  go_enter Tryd.func4, Tryd.ntmps4
  go_wp2_with (first
    | (go_at_call 23; clear MARKA; refine (putItem_call x _).mono ?_; rintro e w1 ⟨v1, rfl, ho1, hg1⟩; rw [hx]; simp only [errIf]; obtain ⟨a1, cp1, rfl, hce1, -, -⟩ := ho1.ce EB1; have Kb0 := (hg1.block (Array.getElem?_eq_some_iff.1 Ka0).1).trans Ka0; have Kb1 := (hg1.block (Array.getElem?_eq_some_iff.1 Ka1).1).trans Ka1; have Kb2 := (hg1.block (Array.getElem?_eq_some_iff.1 Ka2).1).trans Ka2; have Kb3 := (hg1.block (Array.getElem?_eq_some_iff.1 Ka3).1).trans Ka3; obtain ⟨p0, q0, r0, s0, L0⟩ := blk_facts Kb0; obtain ⟨p1, q1, r1, s1, L1⟩ := blk_facts Kb1; obtain ⟨p2, q2, r2, s2, L2⟩ := blk_facts Kb2; obtain ⟨p3, q3, r3, s3, L3⟩ := blk_facts Kb3)
    | (go_at_call 23; refine (putItem_call y _).mono ?_; rintro e w2 ⟨v2, rfl, ho2, hg2⟩; rw [hy]; simp only [errIf]; obtain ⟨a2, cp2, rfl, hce2, -, -⟩ := ho2.ce EB1; have Kc0 := (hg2.block (Array.getElem?_eq_some_iff.1 Kb0).1).trans Kb0; have Kc1 := (hg2.block (Array.getElem?_eq_some_iff.1 Kb1).1).trans Kb1; have Kc2 := (hg2.block (Array.getElem?_eq_some_iff.1 Kb2).1).trans Kb2; have Kc3 := (hg2.block (Array.getElem?_eq_some_iff.1 Kb3).1).trans Kb3; obtain ⟨p0, q0, r0, s0, L0⟩ := blk_facts Kc0; obtain ⟨p1, q1, r1, s1, L1⟩ := blk_facts Kc1; obtain ⟨p2, q2, r2, s2, L2⟩ := blk_facts Kc2; obtain ⟨p3, q3, r3, s3, L3⟩ := blk_facts Kc3)
    | (go_at_call 21; clear MARKC; refine (putClaim_call c _).mono ?_; rintro e w3 ⟨v3, rfl, ho3, hg3⟩; rw [hc]; simp only [errIf]; obtain ⟨a3, cp3, rfl, hce3, -, -⟩ := ho3.ce EB1; have Kd0 := (hg3.block (Array.getElem?_eq_some_iff.1 Kc0).1).trans Kc0; have Kd1 := (hg3.block (Array.getElem?_eq_some_iff.1 Kc1).1).trans Kc1; have Kd2 := (hg3.block (Array.getElem?_eq_some_iff.1 Kc2).1).trans Kc2; have Kd3 := (hg3.block (Array.getElem?_eq_some_iff.1 Kc3).1).trans Kc3; obtain ⟨p0, q0, r0, s0, L0⟩ := blk_facts Kd0; obtain ⟨p1, q1, r1, s1, L1⟩ := blk_facts Kd1; obtain ⟨p2, q2, r2, s2, L2⟩ := blk_facts Kd2; obtain ⟨p3, q3, r3, s3, L3⟩ := blk_facts Kd3)
    | (go_at_call 21; refine (putClaim_call d _).mono ?_; rintro e w4 ⟨v4, rfl, ho4, hg4⟩; rw [hd]; simp only [errIf]; obtain ⟨a4, cp4, rfl, hce4, -, -⟩ := ho4.ce EB1; have Ke0 := (hg4.block (Array.getElem?_eq_some_iff.1 Kd0).1).trans Kd0; have Ke1 := (hg4.block (Array.getElem?_eq_some_iff.1 Kd1).1).trans Kd1; have Ke2 := (hg4.block (Array.getElem?_eq_some_iff.1 Kd2).1).trans Kd2; have Ke3 := (hg4.block (Array.getElem?_eq_some_iff.1 Kd3).1).trans Kd3; obtain ⟨p0, q0, r0, s0, L0⟩ := blk_facts Ke0; obtain ⟨p1, q1, r1, s1, L1⟩ := blk_facts Ke1; obtain ⟨p2, q2, r2, s2, L2⟩ := blk_facts Ke2; obtain ⟨p3, q3, r3, s3, L3⟩ := blk_facts Ke3))
  refine wp_region_det (fun w' => Old w4 w') Grew (by kernel_rfl) (by kernel_rfl) Grew.refl (fun _ _ h g => Old.step h g) (Old.of (Grew.refl _).drew) ?_
  repeat (first | (refine TD.skip rfl ?_; simp only [Act.put, List.setIfInBounds_toArray, List.set_cons_zero, List.set_cons_succ]) | (refine' TD.det rfl ?_ ?_; rotate_left; (focus (intro K w9 hS hK; have hv1 := bytes_str (hce1.grew ((hg2.trans (hg3.trans hg4)).trans hS.grew)) cp1; have hv2 := bytes_str (hce2.grew ((hg3.trans hg4).trans hS.grew)) cp2; go_wp2_with fail; first | exact Grew.refl _ | assumption | exact (Grew.refl _).alloc _)); simp only [Act.put, List.setIfInBounds_toArray, List.set_cons_zero, List.set_cons_succ]))
  refine TD.done (fun w8 hS => ?_)
  have hG8 := hS.grew
  have Kf0 := (hG8.block (Array.getElem?_eq_some_iff.1 Ke0).1).trans Ke0
  have Kf1 := (hG8.block (Array.getElem?_eq_some_iff.1 Ke1).1).trans Ke1
  have Kf2 := (hG8.block (Array.getElem?_eq_some_iff.1 Ke2).1).trans Ke2
  have Kf3 := (hG8.block (Array.getElem?_eq_some_iff.1 Ke3).1).trans Ke3
  obtain ⟨p0, q0, r0, s0, L0⟩ := blk_facts Kf0
  obtain ⟨p1, q1, r1, s1, L1⟩ := blk_facts Kf1
  obtain ⟨p2, q2, r2, s2, L2⟩ := blk_facts Kf2
  obtain ⟨p3, q3, r3, s3, L3⟩ := blk_facts Kf3
  have hce38 := hce3.grew (hg4.trans hG8)
  have hce48 := hce4.grew hG8
  clear hS
  go_wp2
  refine wp_region_det (fun w' => Old w8 w') Grew (by kernel_rfl) (by kernel_rfl) Grew.refl (fun _ _ h g => Old.step h g) (Old.of (Grew.refl _).drew) ?_
  repeat (first | (refine TD.skip rfl ?_; simp only [Act.put, List.setIfInBounds_toArray, List.set_cons_zero, List.set_cons_succ]) | (refine' TD.det rfl ?_ ?_; rotate_left; (focus (intro K w9 hS hK; have hv1 := bytes_str (hce38.grew hS.grew) cp3; have hv2 := bytes_str (hce48.grew hS.grew) cp4; go_wp2_with (first | (go_at_call 24; refine (claims_call _).mono ?_; rintro e w1 ⟨rfl, hg⟩; have hf := hg.facts) | (go_at_call 25; refine (items_call _).mono ?_; rintro e w1 ⟨rfl, hg⟩; have hf := hg.facts)); first | exact Grew.refl _ | assumption | exact (Grew.refl _).alloc _)); simp only [Act.put, List.setIfInBounds_toArray, List.set_cons_zero, List.set_cons_succ]))
  refine TD.done (fun w8 hS => ?_)
  go_wp2
  go_ret
  exact ⟨rfl, by (repeat (first | exact Grew.refl _ | refine Grew.alloc ?_ _ | refine Grew.drew ?_ | refine Grew.after (by assumption) ?_ | refine Grew.after (Old.grew (by assumption)) ?_))⟩
set_option maxHeartbeats 2000000 in
theorem apart_TTt_TTf (x y : Item) (c d : Claim) (w : World) (h1 : ¬ 16384 < (x.entry.text.size : Int)) (h2 : ¬ 16384 < (y.entry.text.size : Int)) (hx : x.ok = true) (hy : y.ok = true) (hs1 : ((str (itemB x)).toList == (str (itemB y)).toList) = true) (hi1 : decide (x = y) = true) (hc : c.ok = true) (hd : d.ok = true) (hs2 : ((str (claimB c)).toList == (str (claimB d)).toList) = false) (hi2 : decide (c = d) = false) :
    Calls Tryd.prog 4 #[.agg (encItem x), .agg (encItem y), .agg (encClaim c), .agg (encClaim d)] w fun e w' => e = .returned (.bool true) ∧ Grew w w' := by
  obtain ⟨Ka0, Ka1, Ka2, Ka3⟩ := four w (.cells (encItem x) 41) (.cells (encItem y) 41) (.cells (encClaim c) 27) (.cells (encClaim d) 27)
  have MARKA : True := trivial
  have MARKC : True := trivial
  go_enter Tryd.func4, Tryd.ntmps4
  go_wp2_with (first
    | (go_at_call 23; clear MARKA; refine (putItem_call x _).mono ?_; rintro e w1 ⟨v1, rfl, ho1, hg1⟩; rw [hx]; simp only [errIf]; obtain ⟨a1, cp1, rfl, hce1, -, -⟩ := ho1.ce EB1; have Kb0 := (hg1.block (Array.getElem?_eq_some_iff.1 Ka0).1).trans Ka0; have Kb1 := (hg1.block (Array.getElem?_eq_some_iff.1 Ka1).1).trans Ka1; have Kb2 := (hg1.block (Array.getElem?_eq_some_iff.1 Ka2).1).trans Ka2; have Kb3 := (hg1.block (Array.getElem?_eq_some_iff.1 Ka3).1).trans Ka3; obtain ⟨p0, q0, r0, s0, L0⟩ := blk_facts Kb0; obtain ⟨p1, q1, r1, s1, L1⟩ := blk_facts Kb1; obtain ⟨p2, q2, r2, s2, L2⟩ := blk_facts Kb2; obtain ⟨p3, q3, r3, s3, L3⟩ := blk_facts Kb3)
    | (go_at_call 23; refine (putItem_call y _).mono ?_; rintro e w2 ⟨v2, rfl, ho2, hg2⟩; rw [hy]; simp only [errIf]; obtain ⟨a2, cp2, rfl, hce2, -, -⟩ := ho2.ce EB1; have Kc0 := (hg2.block (Array.getElem?_eq_some_iff.1 Kb0).1).trans Kb0; have Kc1 := (hg2.block (Array.getElem?_eq_some_iff.1 Kb1).1).trans Kb1; have Kc2 := (hg2.block (Array.getElem?_eq_some_iff.1 Kb2).1).trans Kb2; have Kc3 := (hg2.block (Array.getElem?_eq_some_iff.1 Kb3).1).trans Kb3; obtain ⟨p0, q0, r0, s0, L0⟩ := blk_facts Kc0; obtain ⟨p1, q1, r1, s1, L1⟩ := blk_facts Kc1; obtain ⟨p2, q2, r2, s2, L2⟩ := blk_facts Kc2; obtain ⟨p3, q3, r3, s3, L3⟩ := blk_facts Kc3)
    | (go_at_call 21; clear MARKC; refine (putClaim_call c _).mono ?_; rintro e w3 ⟨v3, rfl, ho3, hg3⟩; rw [hc]; simp only [errIf]; obtain ⟨a3, cp3, rfl, hce3, -, -⟩ := ho3.ce EB1; have Kd0 := (hg3.block (Array.getElem?_eq_some_iff.1 Kc0).1).trans Kc0; have Kd1 := (hg3.block (Array.getElem?_eq_some_iff.1 Kc1).1).trans Kc1; have Kd2 := (hg3.block (Array.getElem?_eq_some_iff.1 Kc2).1).trans Kc2; have Kd3 := (hg3.block (Array.getElem?_eq_some_iff.1 Kc3).1).trans Kc3; obtain ⟨p0, q0, r0, s0, L0⟩ := blk_facts Kd0; obtain ⟨p1, q1, r1, s1, L1⟩ := blk_facts Kd1; obtain ⟨p2, q2, r2, s2, L2⟩ := blk_facts Kd2; obtain ⟨p3, q3, r3, s3, L3⟩ := blk_facts Kd3)
    | (go_at_call 21; refine (putClaim_call d _).mono ?_; rintro e w4 ⟨v4, rfl, ho4, hg4⟩; rw [hd]; simp only [errIf]; obtain ⟨a4, cp4, rfl, hce4, -, -⟩ := ho4.ce EB1; have Ke0 := (hg4.block (Array.getElem?_eq_some_iff.1 Kd0).1).trans Kd0; have Ke1 := (hg4.block (Array.getElem?_eq_some_iff.1 Kd1).1).trans Kd1; have Ke2 := (hg4.block (Array.getElem?_eq_some_iff.1 Kd2).1).trans Kd2; have Ke3 := (hg4.block (Array.getElem?_eq_some_iff.1 Kd3).1).trans Kd3; obtain ⟨p0, q0, r0, s0, L0⟩ := blk_facts Ke0; obtain ⟨p1, q1, r1, s1, L1⟩ := blk_facts Ke1; obtain ⟨p2, q2, r2, s2, L2⟩ := blk_facts Ke2; obtain ⟨p3, q3, r3, s3, L3⟩ := blk_facts Ke3))
  refine wp_region_det (fun w' => Old w4 w') Grew (by kernel_rfl) (by kernel_rfl) Grew.refl (fun _ _ h g => Old.step h g) (Old.of (Grew.refl _).drew) ?_
  repeat (first | (refine TD.skip rfl ?_; simp only [Act.put, List.setIfInBounds_toArray, List.set_cons_zero, List.set_cons_succ]) | (refine' TD.det rfl ?_ ?_; rotate_left; (focus (intro K w9 hS hK; have hv1 := bytes_str (hce1.grew ((hg2.trans (hg3.trans hg4)).trans hS.grew)) cp1; have hv2 := bytes_str (hce2.grew ((hg3.trans hg4).trans hS.grew)) cp2; go_wp2_with fail; first | exact Grew.refl _ | assumption | exact (Grew.refl _).alloc _)); simp only [Act.put, List.setIfInBounds_toArray, List.set_cons_zero, List.set_cons_succ]))
  refine TD.done (fun w8 hS => ?_)
  have hG8 := hS.grew
  have Kf0 := (hG8.block (Array.getElem?_eq_some_iff.1 Ke0).1).trans Ke0
  have Kf1 := (hG8.block (Array.getElem?_eq_some_iff.1 Ke1).1).trans Ke1
  have Kf2 := (hG8.block (Array.getElem?_eq_some_iff.1 Ke2).1).trans Ke2
  have Kf3 := (hG8.block (Array.getElem?_eq_some_iff.1 Ke3).1).trans Ke3
  obtain ⟨p0, q0, r0, s0, L0⟩ := blk_facts Kf0
  obtain ⟨p1, q1, r1, s1, L1⟩ := blk_facts Kf1
  obtain ⟨p2, q2, r2, s2, L2⟩ := blk_facts Kf2
  obtain ⟨p3, q3, r3, s3, L3⟩ := blk_facts Kf3
  have hce38 := hce3.grew (hg4.trans hG8)
  have hce48 := hce4.grew hG8
  clear hS
  go_wp2
  refine wp_region_det (fun w' => Old w8 w') Grew (by kernel_rfl) (by kernel_rfl) Grew.refl (fun _ _ h g => Old.step h g) (Old.of (Grew.refl _).drew) ?_
  repeat (first | (refine TD.skip rfl ?_; simp only [Act.put, List.setIfInBounds_toArray, List.set_cons_zero, List.set_cons_succ]) | (refine' TD.det rfl ?_ ?_; rotate_left; (focus (intro K w9 hS hK; have hv1 := bytes_str (hce38.grew hS.grew) cp3; have hv2 := bytes_str (hce48.grew hS.grew) cp4; go_wp2_with (first | (go_at_call 24; refine (claims_call _).mono ?_; rintro e w1 ⟨rfl, hg⟩; have hf := hg.facts) | (go_at_call 25; refine (items_call _).mono ?_; rintro e w1 ⟨rfl, hg⟩; have hf := hg.facts)); first | exact Grew.refl _ | assumption | exact (Grew.refl _).alloc _)); simp only [Act.put, List.setIfInBounds_toArray, List.set_cons_zero, List.set_cons_succ]))
  refine TD.done (fun w8 hS => ?_)
  go_wp2
  go_ret
  exact ⟨rfl, by (repeat (first | exact Grew.refl _ | refine Grew.alloc ?_ _ | refine Grew.drew ?_ | refine Grew.after (by assumption) ?_ | refine Grew.after (Old.grew (by assumption)) ?_))⟩
set_option maxHeartbeats 2000000 in
theorem apart_TTf_FF (x y : Item) (c d : Claim) (w : World) (h1 : ¬ 16384 < (x.entry.text.size : Int)) (h2 : ¬ 16384 < (y.entry.text.size : Int)) (hx : x.ok = true) (hy : y.ok = true) (hs1 : ((str (itemB x)).toList == (str (itemB y)).toList) = false) (hi1 : decide (x = y) = false) (hc : c.ok = false) (hd : d.ok = false) :
    Calls Tryd.prog 4 #[.agg (encItem x), .agg (encItem y), .agg (encClaim c), .agg (encClaim d)] w fun e w' => e = .returned (.bool true) ∧ Grew w w' := by
  obtain ⟨Ka0, Ka1, Ka2, Ka3⟩ := four w (.cells (encItem x) 41) (.cells (encItem y) 41) (.cells (encClaim c) 27) (.cells (encClaim d) 27)
  have MARKA : True := trivial
  have MARKC : True := trivial
  go_enter Tryd.func4, Tryd.ntmps4
  go_wp2_with (first
    | (go_at_call 23; clear MARKA; refine (putItem_call x _).mono ?_; rintro e w1 ⟨v1, rfl, ho1, hg1⟩; rw [hx]; simp only [errIf]; obtain ⟨a1, cp1, rfl, hce1, -, -⟩ := ho1.ce EB1; have Kb0 := (hg1.block (Array.getElem?_eq_some_iff.1 Ka0).1).trans Ka0; have Kb1 := (hg1.block (Array.getElem?_eq_some_iff.1 Ka1).1).trans Ka1; have Kb2 := (hg1.block (Array.getElem?_eq_some_iff.1 Ka2).1).trans Ka2; have Kb3 := (hg1.block (Array.getElem?_eq_some_iff.1 Ka3).1).trans Ka3; obtain ⟨p0, q0, r0, s0, L0⟩ := blk_facts Kb0; obtain ⟨p1, q1, r1, s1, L1⟩ := blk_facts Kb1; obtain ⟨p2, q2, r2, s2, L2⟩ := blk_facts Kb2; obtain ⟨p3, q3, r3, s3, L3⟩ := blk_facts Kb3)
    | (go_at_call 23; refine (putItem_call y _).mono ?_; rintro e w2 ⟨v2, rfl, ho2, hg2⟩; rw [hy]; simp only [errIf]; obtain ⟨a2, cp2, rfl, hce2, -, -⟩ := ho2.ce EB1; have Kc0 := (hg2.block (Array.getElem?_eq_some_iff.1 Kb0).1).trans Kb0; have Kc1 := (hg2.block (Array.getElem?_eq_some_iff.1 Kb1).1).trans Kb1; have Kc2 := (hg2.block (Array.getElem?_eq_some_iff.1 Kb2).1).trans Kb2; have Kc3 := (hg2.block (Array.getElem?_eq_some_iff.1 Kb3).1).trans Kb3; obtain ⟨p0, q0, r0, s0, L0⟩ := blk_facts Kc0; obtain ⟨p1, q1, r1, s1, L1⟩ := blk_facts Kc1; obtain ⟨p2, q2, r2, s2, L2⟩ := blk_facts Kc2; obtain ⟨p3, q3, r3, s3, L3⟩ := blk_facts Kc3)
    | (go_at_call 21; clear MARKC; refine (putClaim_call c _).mono ?_; rintro e w3 ⟨v3, rfl, ho3, hg3⟩; rw [hc]; simp only [errIf]; obtain ⟨a3, cp3, rfl, hce3, -, -⟩ := ho3.ce EB1; have Kd0 := (hg3.block (Array.getElem?_eq_some_iff.1 Kc0).1).trans Kc0; have Kd1 := (hg3.block (Array.getElem?_eq_some_iff.1 Kc1).1).trans Kc1; have Kd2 := (hg3.block (Array.getElem?_eq_some_iff.1 Kc2).1).trans Kc2; have Kd3 := (hg3.block (Array.getElem?_eq_some_iff.1 Kc3).1).trans Kc3; obtain ⟨p0, q0, r0, s0, L0⟩ := blk_facts Kd0; obtain ⟨p1, q1, r1, s1, L1⟩ := blk_facts Kd1; obtain ⟨p2, q2, r2, s2, L2⟩ := blk_facts Kd2; obtain ⟨p3, q3, r3, s3, L3⟩ := blk_facts Kd3)
    | (go_at_call 21; refine (putClaim_call d _).mono ?_; rintro e w4 ⟨v4, rfl, ho4, hg4⟩; rw [hd]; simp only [errIf]; obtain ⟨a4, cp4, rfl, hce4, -, -⟩ := ho4.ce EB1; have Ke0 := (hg4.block (Array.getElem?_eq_some_iff.1 Kd0).1).trans Kd0; have Ke1 := (hg4.block (Array.getElem?_eq_some_iff.1 Kd1).1).trans Kd1; have Ke2 := (hg4.block (Array.getElem?_eq_some_iff.1 Kd2).1).trans Kd2; have Ke3 := (hg4.block (Array.getElem?_eq_some_iff.1 Kd3).1).trans Kd3; obtain ⟨p0, q0, r0, s0, L0⟩ := blk_facts Ke0; obtain ⟨p1, q1, r1, s1, L1⟩ := blk_facts Ke1; obtain ⟨p2, q2, r2, s2, L2⟩ := blk_facts Ke2; obtain ⟨p3, q3, r3, s3, L3⟩ := blk_facts Ke3))
  refine wp_region_det (fun w' => Old w4 w') Grew (by kernel_rfl) (by kernel_rfl) Grew.refl (fun _ _ h g => Old.step h g) (Old.of (Grew.refl _).drew) ?_
  repeat (first | (refine TD.skip rfl ?_; simp only [Act.put, List.setIfInBounds_toArray, List.set_cons_zero, List.set_cons_succ]) | (refine' TD.det rfl ?_ ?_; rotate_left; (focus (intro K w9 hS hK; have hv1 := bytes_str (hce1.grew ((hg2.trans (hg3.trans hg4)).trans hS.grew)) cp1; have hv2 := bytes_str (hce2.grew ((hg3.trans hg4).trans hS.grew)) cp2; go_wp2_with fail; first | exact Grew.refl _ | assumption | exact (Grew.refl _).alloc _)); simp only [Act.put, List.setIfInBounds_toArray, List.set_cons_zero, List.set_cons_succ]))
  refine TD.done (fun w8 hS => ?_)
  have hG8 := hS.grew
  have Kf0 := (hG8.block (Array.getElem?_eq_some_iff.1 Ke0).1).trans Ke0
  have Kf1 := (hG8.block (Array.getElem?_eq_some_iff.1 Ke1).1).trans Ke1
  have Kf2 := (hG8.block (Array.getElem?_eq_some_iff.1 Ke2).1).trans Ke2
  have Kf3 := (hG8.block (Array.getElem?_eq_some_iff.1 Ke3).1).trans Ke3
  obtain ⟨p0, q0, r0, s0, L0⟩ := blk_facts Kf0
  obtain ⟨p1, q1, r1, s1, L1⟩ := blk_facts Kf1
  obtain ⟨p2, q2, r2, s2, L2⟩ := blk_facts Kf2
  obtain ⟨p3, q3, r3, s3, L3⟩ := blk_facts Kf3
  have hce38 := hce3.grew (hg4.trans hG8)
  have hce48 := hce4.grew hG8
  clear hS
  go_wp2
  refine wp_region_det (fun w' => Old w8 w') Grew (by kernel_rfl) (by kernel_rfl) Grew.refl (fun _ _ h g => Old.step h g) (Old.of (Grew.refl _).drew) ?_
  repeat (first | (refine TD.skip rfl ?_; simp only [Act.put, List.setIfInBounds_toArray, List.set_cons_zero, List.set_cons_succ]) | (refine' TD.det rfl ?_ ?_; rotate_left; (focus (intro K w9 hS hK; have hv1 := bytes_str (hce38.grew hS.grew) cp3; have hv2 := bytes_str (hce48.grew hS.grew) cp4; go_wp2_with (first | (go_at_call 24; refine (claims_call _).mono ?_; rintro e w1 ⟨rfl, hg⟩; have hf := hg.facts) | (go_at_call 25; refine (items_call _).mono ?_; rintro e w1 ⟨rfl, hg⟩; have hf := hg.facts)); first | exact Grew.refl _ | assumption | exact (Grew.refl _).alloc _)); simp only [Act.put, List.setIfInBounds_toArray, List.set_cons_zero, List.set_cons_succ]))
  refine TD.done (fun w8 hS => ?_)
  go_wp2
  go_ret
  exact ⟨rfl, by (repeat (first | exact Grew.refl _ | refine Grew.alloc ?_ _ | refine Grew.drew ?_ | refine Grew.after (by assumption) ?_ | refine Grew.after (Old.grew (by assumption)) ?_))⟩
set_option maxHeartbeats 2000000 in
theorem apart_TTf_FT (x y : Item) (c d : Claim) (w : World) (h1 : ¬ 16384 < (x.entry.text.size : Int)) (h2 : ¬ 16384 < (y.entry.text.size : Int)) (hx : x.ok = true) (hy : y.ok = true) (hs1 : ((str (itemB x)).toList == (str (itemB y)).toList) = false) (hi1 : decide (x = y) = false) (hc : c.ok = false) (hd : d.ok = true) :
    Calls Tryd.prog 4 #[.agg (encItem x), .agg (encItem y), .agg (encClaim c), .agg (encClaim d)] w fun e w' => e = .returned (.bool true) ∧ Grew w w' := by
  obtain ⟨Ka0, Ka1, Ka2, Ka3⟩ := four w (.cells (encItem x) 41) (.cells (encItem y) 41) (.cells (encClaim c) 27) (.cells (encClaim d) 27)
  have MARKA : True := trivial
  have MARKC : True := trivial
  go_enter Tryd.func4, Tryd.ntmps4
  go_wp2_with (first
    | (go_at_call 23; clear MARKA; refine (putItem_call x _).mono ?_; rintro e w1 ⟨v1, rfl, ho1, hg1⟩; rw [hx]; simp only [errIf]; obtain ⟨a1, cp1, rfl, hce1, -, -⟩ := ho1.ce EB1; have Kb0 := (hg1.block (Array.getElem?_eq_some_iff.1 Ka0).1).trans Ka0; have Kb1 := (hg1.block (Array.getElem?_eq_some_iff.1 Ka1).1).trans Ka1; have Kb2 := (hg1.block (Array.getElem?_eq_some_iff.1 Ka2).1).trans Ka2; have Kb3 := (hg1.block (Array.getElem?_eq_some_iff.1 Ka3).1).trans Ka3; obtain ⟨p0, q0, r0, s0, L0⟩ := blk_facts Kb0; obtain ⟨p1, q1, r1, s1, L1⟩ := blk_facts Kb1; obtain ⟨p2, q2, r2, s2, L2⟩ := blk_facts Kb2; obtain ⟨p3, q3, r3, s3, L3⟩ := blk_facts Kb3)
    | (go_at_call 23; refine (putItem_call y _).mono ?_; rintro e w2 ⟨v2, rfl, ho2, hg2⟩; rw [hy]; simp only [errIf]; obtain ⟨a2, cp2, rfl, hce2, -, -⟩ := ho2.ce EB1; have Kc0 := (hg2.block (Array.getElem?_eq_some_iff.1 Kb0).1).trans Kb0; have Kc1 := (hg2.block (Array.getElem?_eq_some_iff.1 Kb1).1).trans Kb1; have Kc2 := (hg2.block (Array.getElem?_eq_some_iff.1 Kb2).1).trans Kb2; have Kc3 := (hg2.block (Array.getElem?_eq_some_iff.1 Kb3).1).trans Kb3; obtain ⟨p0, q0, r0, s0, L0⟩ := blk_facts Kc0; obtain ⟨p1, q1, r1, s1, L1⟩ := blk_facts Kc1; obtain ⟨p2, q2, r2, s2, L2⟩ := blk_facts Kc2; obtain ⟨p3, q3, r3, s3, L3⟩ := blk_facts Kc3)
    | (go_at_call 21; clear MARKC; refine (putClaim_call c _).mono ?_; rintro e w3 ⟨v3, rfl, ho3, hg3⟩; rw [hc]; simp only [errIf]; obtain ⟨a3, cp3, rfl, hce3, -, -⟩ := ho3.ce EB1; have Kd0 := (hg3.block (Array.getElem?_eq_some_iff.1 Kc0).1).trans Kc0; have Kd1 := (hg3.block (Array.getElem?_eq_some_iff.1 Kc1).1).trans Kc1; have Kd2 := (hg3.block (Array.getElem?_eq_some_iff.1 Kc2).1).trans Kc2; have Kd3 := (hg3.block (Array.getElem?_eq_some_iff.1 Kc3).1).trans Kc3; obtain ⟨p0, q0, r0, s0, L0⟩ := blk_facts Kd0; obtain ⟨p1, q1, r1, s1, L1⟩ := blk_facts Kd1; obtain ⟨p2, q2, r2, s2, L2⟩ := blk_facts Kd2; obtain ⟨p3, q3, r3, s3, L3⟩ := blk_facts Kd3)
    | (go_at_call 21; refine (putClaim_call d _).mono ?_; rintro e w4 ⟨v4, rfl, ho4, hg4⟩; rw [hd]; simp only [errIf]; obtain ⟨a4, cp4, rfl, hce4, -, -⟩ := ho4.ce EB1; have Ke0 := (hg4.block (Array.getElem?_eq_some_iff.1 Kd0).1).trans Kd0; have Ke1 := (hg4.block (Array.getElem?_eq_some_iff.1 Kd1).1).trans Kd1; have Ke2 := (hg4.block (Array.getElem?_eq_some_iff.1 Kd2).1).trans Kd2; have Ke3 := (hg4.block (Array.getElem?_eq_some_iff.1 Kd3).1).trans Kd3; obtain ⟨p0, q0, r0, s0, L0⟩ := blk_facts Ke0; obtain ⟨p1, q1, r1, s1, L1⟩ := blk_facts Ke1; obtain ⟨p2, q2, r2, s2, L2⟩ := blk_facts Ke2; obtain ⟨p3, q3, r3, s3, L3⟩ := blk_facts Ke3))
  refine wp_region_det (fun w' => Old w4 w') Grew (by kernel_rfl) (by kernel_rfl) Grew.refl (fun _ _ h g => Old.step h g) (Old.of (Grew.refl _).drew) ?_
  repeat (first | (refine TD.skip rfl ?_; simp only [Act.put, List.setIfInBounds_toArray, List.set_cons_zero, List.set_cons_succ]) | (refine' TD.det rfl ?_ ?_; rotate_left; (focus (intro K w9 hS hK; have hv1 := bytes_str (hce1.grew ((hg2.trans (hg3.trans hg4)).trans hS.grew)) cp1; have hv2 := bytes_str (hce2.grew ((hg3.trans hg4).trans hS.grew)) cp2; go_wp2_with fail; first | exact Grew.refl _ | assumption | exact (Grew.refl _).alloc _)); simp only [Act.put, List.setIfInBounds_toArray, List.set_cons_zero, List.set_cons_succ]))
  refine TD.done (fun w8 hS => ?_)
  have hG8 := hS.grew
  have Kf0 := (hG8.block (Array.getElem?_eq_some_iff.1 Ke0).1).trans Ke0
  have Kf1 := (hG8.block (Array.getElem?_eq_some_iff.1 Ke1).1).trans Ke1
  have Kf2 := (hG8.block (Array.getElem?_eq_some_iff.1 Ke2).1).trans Ke2
  have Kf3 := (hG8.block (Array.getElem?_eq_some_iff.1 Ke3).1).trans Ke3
  obtain ⟨p0, q0, r0, s0, L0⟩ := blk_facts Kf0
  obtain ⟨p1, q1, r1, s1, L1⟩ := blk_facts Kf1
  obtain ⟨p2, q2, r2, s2, L2⟩ := blk_facts Kf2
  obtain ⟨p3, q3, r3, s3, L3⟩ := blk_facts Kf3
  have hce38 := hce3.grew (hg4.trans hG8)
  have hce48 := hce4.grew hG8
  clear hS
  go_wp2
  refine wp_region_det (fun w' => Old w8 w') Grew (by kernel_rfl) (by kernel_rfl) Grew.refl (fun _ _ h g => Old.step h g) (Old.of (Grew.refl _).drew) ?_
  repeat (first | (refine TD.skip rfl ?_; simp only [Act.put, List.setIfInBounds_toArray, List.set_cons_zero, List.set_cons_succ]) | (refine' TD.det rfl ?_ ?_; rotate_left; (focus (intro K w9 hS hK; have hv1 := bytes_str (hce38.grew hS.grew) cp3; have hv2 := bytes_str (hce48.grew hS.grew) cp4; go_wp2_with (first | (go_at_call 24; refine (claims_call _).mono ?_; rintro e w1 ⟨rfl, hg⟩; have hf := hg.facts) | (go_at_call 25; refine (items_call _).mono ?_; rintro e w1 ⟨rfl, hg⟩; have hf := hg.facts)); first | exact Grew.refl _ | assumption | exact (Grew.refl _).alloc _)); simp only [Act.put, List.setIfInBounds_toArray, List.set_cons_zero, List.set_cons_succ]))
  refine TD.done (fun w8 hS => ?_)
  go_wp2
  go_ret
  exact ⟨rfl, by (repeat (first | exact Grew.refl _ | refine Grew.alloc ?_ _ | refine Grew.drew ?_ | refine Grew.after (by assumption) ?_ | refine Grew.after (Old.grew (by assumption)) ?_))⟩
set_option maxHeartbeats 2000000 in
theorem apart_TTf_TF (x y : Item) (c d : Claim) (w : World) (h1 : ¬ 16384 < (x.entry.text.size : Int)) (h2 : ¬ 16384 < (y.entry.text.size : Int)) (hx : x.ok = true) (hy : y.ok = true) (hs1 : ((str (itemB x)).toList == (str (itemB y)).toList) = false) (hi1 : decide (x = y) = false) (hc : c.ok = true) (hd : d.ok = false) :
    Calls Tryd.prog 4 #[.agg (encItem x), .agg (encItem y), .agg (encClaim c), .agg (encClaim d)] w fun e w' => e = .returned (.bool true) ∧ Grew w w' := by
  obtain ⟨Ka0, Ka1, Ka2, Ka3⟩ := four w (.cells (encItem x) 41) (.cells (encItem y) 41) (.cells (encClaim c) 27) (.cells (encClaim d) 27)
  have MARKA : True := trivial
  have MARKC : True := trivial
  go_enter Tryd.func4, Tryd.ntmps4
  go_wp2_with (first
    | (go_at_call 23; clear MARKA; refine (putItem_call x _).mono ?_; rintro e w1 ⟨v1, rfl, ho1, hg1⟩; rw [hx]; simp only [errIf]; obtain ⟨a1, cp1, rfl, hce1, -, -⟩ := ho1.ce EB1; have Kb0 := (hg1.block (Array.getElem?_eq_some_iff.1 Ka0).1).trans Ka0; have Kb1 := (hg1.block (Array.getElem?_eq_some_iff.1 Ka1).1).trans Ka1; have Kb2 := (hg1.block (Array.getElem?_eq_some_iff.1 Ka2).1).trans Ka2; have Kb3 := (hg1.block (Array.getElem?_eq_some_iff.1 Ka3).1).trans Ka3; obtain ⟨p0, q0, r0, s0, L0⟩ := blk_facts Kb0; obtain ⟨p1, q1, r1, s1, L1⟩ := blk_facts Kb1; obtain ⟨p2, q2, r2, s2, L2⟩ := blk_facts Kb2; obtain ⟨p3, q3, r3, s3, L3⟩ := blk_facts Kb3)
    | (go_at_call 23; refine (putItem_call y _).mono ?_; rintro e w2 ⟨v2, rfl, ho2, hg2⟩; rw [hy]; simp only [errIf]; obtain ⟨a2, cp2, rfl, hce2, -, -⟩ := ho2.ce EB1; have Kc0 := (hg2.block (Array.getElem?_eq_some_iff.1 Kb0).1).trans Kb0; have Kc1 := (hg2.block (Array.getElem?_eq_some_iff.1 Kb1).1).trans Kb1; have Kc2 := (hg2.block (Array.getElem?_eq_some_iff.1 Kb2).1).trans Kb2; have Kc3 := (hg2.block (Array.getElem?_eq_some_iff.1 Kb3).1).trans Kb3; obtain ⟨p0, q0, r0, s0, L0⟩ := blk_facts Kc0; obtain ⟨p1, q1, r1, s1, L1⟩ := blk_facts Kc1; obtain ⟨p2, q2, r2, s2, L2⟩ := blk_facts Kc2; obtain ⟨p3, q3, r3, s3, L3⟩ := blk_facts Kc3)
    | (go_at_call 21; clear MARKC; refine (putClaim_call c _).mono ?_; rintro e w3 ⟨v3, rfl, ho3, hg3⟩; rw [hc]; simp only [errIf]; obtain ⟨a3, cp3, rfl, hce3, -, -⟩ := ho3.ce EB1; have Kd0 := (hg3.block (Array.getElem?_eq_some_iff.1 Kc0).1).trans Kc0; have Kd1 := (hg3.block (Array.getElem?_eq_some_iff.1 Kc1).1).trans Kc1; have Kd2 := (hg3.block (Array.getElem?_eq_some_iff.1 Kc2).1).trans Kc2; have Kd3 := (hg3.block (Array.getElem?_eq_some_iff.1 Kc3).1).trans Kc3; obtain ⟨p0, q0, r0, s0, L0⟩ := blk_facts Kd0; obtain ⟨p1, q1, r1, s1, L1⟩ := blk_facts Kd1; obtain ⟨p2, q2, r2, s2, L2⟩ := blk_facts Kd2; obtain ⟨p3, q3, r3, s3, L3⟩ := blk_facts Kd3)
    | (go_at_call 21; refine (putClaim_call d _).mono ?_; rintro e w4 ⟨v4, rfl, ho4, hg4⟩; rw [hd]; simp only [errIf]; obtain ⟨a4, cp4, rfl, hce4, -, -⟩ := ho4.ce EB1; have Ke0 := (hg4.block (Array.getElem?_eq_some_iff.1 Kd0).1).trans Kd0; have Ke1 := (hg4.block (Array.getElem?_eq_some_iff.1 Kd1).1).trans Kd1; have Ke2 := (hg4.block (Array.getElem?_eq_some_iff.1 Kd2).1).trans Kd2; have Ke3 := (hg4.block (Array.getElem?_eq_some_iff.1 Kd3).1).trans Kd3; obtain ⟨p0, q0, r0, s0, L0⟩ := blk_facts Ke0; obtain ⟨p1, q1, r1, s1, L1⟩ := blk_facts Ke1; obtain ⟨p2, q2, r2, s2, L2⟩ := blk_facts Ke2; obtain ⟨p3, q3, r3, s3, L3⟩ := blk_facts Ke3))
  refine wp_region_det (fun w' => Old w4 w') Grew (by kernel_rfl) (by kernel_rfl) Grew.refl (fun _ _ h g => Old.step h g) (Old.of (Grew.refl _).drew) ?_
  repeat (first | (refine TD.skip rfl ?_; simp only [Act.put, List.setIfInBounds_toArray, List.set_cons_zero, List.set_cons_succ]) | (refine' TD.det rfl ?_ ?_; rotate_left; (focus (intro K w9 hS hK; have hv1 := bytes_str (hce1.grew ((hg2.trans (hg3.trans hg4)).trans hS.grew)) cp1; have hv2 := bytes_str (hce2.grew ((hg3.trans hg4).trans hS.grew)) cp2; go_wp2_with fail; first | exact Grew.refl _ | assumption | exact (Grew.refl _).alloc _)); simp only [Act.put, List.setIfInBounds_toArray, List.set_cons_zero, List.set_cons_succ]))
  refine TD.done (fun w8 hS => ?_)
  have hG8 := hS.grew
  have Kf0 := (hG8.block (Array.getElem?_eq_some_iff.1 Ke0).1).trans Ke0
  have Kf1 := (hG8.block (Array.getElem?_eq_some_iff.1 Ke1).1).trans Ke1
  have Kf2 := (hG8.block (Array.getElem?_eq_some_iff.1 Ke2).1).trans Ke2
  have Kf3 := (hG8.block (Array.getElem?_eq_some_iff.1 Ke3).1).trans Ke3
  obtain ⟨p0, q0, r0, s0, L0⟩ := blk_facts Kf0
  obtain ⟨p1, q1, r1, s1, L1⟩ := blk_facts Kf1
  obtain ⟨p2, q2, r2, s2, L2⟩ := blk_facts Kf2
  obtain ⟨p3, q3, r3, s3, L3⟩ := blk_facts Kf3
  have hce38 := hce3.grew (hg4.trans hG8)
  have hce48 := hce4.grew hG8
  clear hS
  go_wp2
  refine wp_region_det (fun w' => Old w8 w') Grew (by kernel_rfl) (by kernel_rfl) Grew.refl (fun _ _ h g => Old.step h g) (Old.of (Grew.refl _).drew) ?_
  repeat (first | (refine TD.skip rfl ?_; simp only [Act.put, List.setIfInBounds_toArray, List.set_cons_zero, List.set_cons_succ]) | (refine' TD.det rfl ?_ ?_; rotate_left; (focus (intro K w9 hS hK; have hv1 := bytes_str (hce38.grew hS.grew) cp3; have hv2 := bytes_str (hce48.grew hS.grew) cp4; go_wp2_with (first | (go_at_call 24; refine (claims_call _).mono ?_; rintro e w1 ⟨rfl, hg⟩; have hf := hg.facts) | (go_at_call 25; refine (items_call _).mono ?_; rintro e w1 ⟨rfl, hg⟩; have hf := hg.facts)); first | exact Grew.refl _ | assumption | exact (Grew.refl _).alloc _)); simp only [Act.put, List.setIfInBounds_toArray, List.set_cons_zero, List.set_cons_succ]))
  refine TD.done (fun w8 hS => ?_)
  go_wp2
  go_ret
  exact ⟨rfl, by (repeat (first | exact Grew.refl _ | refine Grew.alloc ?_ _ | refine Grew.drew ?_ | refine Grew.after (by assumption) ?_ | refine Grew.after (Old.grew (by assumption)) ?_))⟩
set_option maxHeartbeats 2000000 in
theorem apart_TTf_TTt (x y : Item) (c d : Claim) (w : World) (h1 : ¬ 16384 < (x.entry.text.size : Int)) (h2 : ¬ 16384 < (y.entry.text.size : Int)) (hx : x.ok = true) (hy : y.ok = true) (hs1 : ((str (itemB x)).toList == (str (itemB y)).toList) = false) (hi1 : decide (x = y) = false) (hc : c.ok = true) (hd : d.ok = true) (hs2 : ((str (claimB c)).toList == (str (claimB d)).toList) = true) (hi2 : decide (c = d) = true) :
    Calls Tryd.prog 4 #[.agg (encItem x), .agg (encItem y), .agg (encClaim c), .agg (encClaim d)] w fun e w' => e = .returned (.bool true) ∧ Grew w w' := by
  obtain ⟨Ka0, Ka1, Ka2, Ka3⟩ := four w (.cells (encItem x) 41) (.cells (encItem y) 41) (.cells (encClaim c) 27) (.cells (encClaim d) 27)
  have MARKA : True := trivial
  have MARKC : True := trivial
  go_enter Tryd.func4, Tryd.ntmps4
  go_wp2_with (first
    | (go_at_call 23; clear MARKA; refine (putItem_call x _).mono ?_; rintro e w1 ⟨v1, rfl, ho1, hg1⟩; rw [hx]; simp only [errIf]; obtain ⟨a1, cp1, rfl, hce1, -, -⟩ := ho1.ce EB1; have Kb0 := (hg1.block (Array.getElem?_eq_some_iff.1 Ka0).1).trans Ka0; have Kb1 := (hg1.block (Array.getElem?_eq_some_iff.1 Ka1).1).trans Ka1; have Kb2 := (hg1.block (Array.getElem?_eq_some_iff.1 Ka2).1).trans Ka2; have Kb3 := (hg1.block (Array.getElem?_eq_some_iff.1 Ka3).1).trans Ka3; obtain ⟨p0, q0, r0, s0, L0⟩ := blk_facts Kb0; obtain ⟨p1, q1, r1, s1, L1⟩ := blk_facts Kb1; obtain ⟨p2, q2, r2, s2, L2⟩ := blk_facts Kb2; obtain ⟨p3, q3, r3, s3, L3⟩ := blk_facts Kb3)
    | (go_at_call 23; refine (putItem_call y _).mono ?_; rintro e w2 ⟨v2, rfl, ho2, hg2⟩; rw [hy]; simp only [errIf]; obtain ⟨a2, cp2, rfl, hce2, -, -⟩ := ho2.ce EB1; have Kc0 := (hg2.block (Array.getElem?_eq_some_iff.1 Kb0).1).trans Kb0; have Kc1 := (hg2.block (Array.getElem?_eq_some_iff.1 Kb1).1).trans Kb1; have Kc2 := (hg2.block (Array.getElem?_eq_some_iff.1 Kb2).1).trans Kb2; have Kc3 := (hg2.block (Array.getElem?_eq_some_iff.1 Kb3).1).trans Kb3; obtain ⟨p0, q0, r0, s0, L0⟩ := blk_facts Kc0; obtain ⟨p1, q1, r1, s1, L1⟩ := blk_facts Kc1; obtain ⟨p2, q2, r2, s2, L2⟩ := blk_facts Kc2; obtain ⟨p3, q3, r3, s3, L3⟩ := blk_facts Kc3)
    | (go_at_call 21; clear MARKC; refine (putClaim_call c _).mono ?_; rintro e w3 ⟨v3, rfl, ho3, hg3⟩; rw [hc]; simp only [errIf]; obtain ⟨a3, cp3, rfl, hce3, -, -⟩ := ho3.ce EB1; have Kd0 := (hg3.block (Array.getElem?_eq_some_iff.1 Kc0).1).trans Kc0; have Kd1 := (hg3.block (Array.getElem?_eq_some_iff.1 Kc1).1).trans Kc1; have Kd2 := (hg3.block (Array.getElem?_eq_some_iff.1 Kc2).1).trans Kc2; have Kd3 := (hg3.block (Array.getElem?_eq_some_iff.1 Kc3).1).trans Kc3; obtain ⟨p0, q0, r0, s0, L0⟩ := blk_facts Kd0; obtain ⟨p1, q1, r1, s1, L1⟩ := blk_facts Kd1; obtain ⟨p2, q2, r2, s2, L2⟩ := blk_facts Kd2; obtain ⟨p3, q3, r3, s3, L3⟩ := blk_facts Kd3)
    | (go_at_call 21; refine (putClaim_call d _).mono ?_; rintro e w4 ⟨v4, rfl, ho4, hg4⟩; rw [hd]; simp only [errIf]; obtain ⟨a4, cp4, rfl, hce4, -, -⟩ := ho4.ce EB1; have Ke0 := (hg4.block (Array.getElem?_eq_some_iff.1 Kd0).1).trans Kd0; have Ke1 := (hg4.block (Array.getElem?_eq_some_iff.1 Kd1).1).trans Kd1; have Ke2 := (hg4.block (Array.getElem?_eq_some_iff.1 Kd2).1).trans Kd2; have Ke3 := (hg4.block (Array.getElem?_eq_some_iff.1 Kd3).1).trans Kd3; obtain ⟨p0, q0, r0, s0, L0⟩ := blk_facts Ke0; obtain ⟨p1, q1, r1, s1, L1⟩ := blk_facts Ke1; obtain ⟨p2, q2, r2, s2, L2⟩ := blk_facts Ke2; obtain ⟨p3, q3, r3, s3, L3⟩ := blk_facts Ke3))
  refine wp_region_det (fun w' => Old w4 w') Grew (by kernel_rfl) (by kernel_rfl) Grew.refl (fun _ _ h g => Old.step h g) (Old.of (Grew.refl _).drew) ?_
  repeat (first | (refine TD.skip rfl ?_; simp only [Act.put, List.setIfInBounds_toArray, List.set_cons_zero, List.set_cons_succ]) | (refine' TD.det rfl ?_ ?_; rotate_left; (focus (intro K w9 hS hK; have hv1 := bytes_str (hce1.grew ((hg2.trans (hg3.trans hg4)).trans hS.grew)) cp1; have hv2 := bytes_str (hce2.grew ((hg3.trans hg4).trans hS.grew)) cp2; go_wp2_with fail; first | exact Grew.refl _ | assumption | exact (Grew.refl _).alloc _)); simp only [Act.put, List.setIfInBounds_toArray, List.set_cons_zero, List.set_cons_succ]))
  refine TD.done (fun w8 hS => ?_)
  have hG8 := hS.grew
  have Kf0 := (hG8.block (Array.getElem?_eq_some_iff.1 Ke0).1).trans Ke0
  have Kf1 := (hG8.block (Array.getElem?_eq_some_iff.1 Ke1).1).trans Ke1
  have Kf2 := (hG8.block (Array.getElem?_eq_some_iff.1 Ke2).1).trans Ke2
  have Kf3 := (hG8.block (Array.getElem?_eq_some_iff.1 Ke3).1).trans Ke3
  obtain ⟨p0, q0, r0, s0, L0⟩ := blk_facts Kf0
  obtain ⟨p1, q1, r1, s1, L1⟩ := blk_facts Kf1
  obtain ⟨p2, q2, r2, s2, L2⟩ := blk_facts Kf2
  obtain ⟨p3, q3, r3, s3, L3⟩ := blk_facts Kf3
  have hce38 := hce3.grew (hg4.trans hG8)
  have hce48 := hce4.grew hG8
  clear hS
  go_wp2
  refine wp_region_det (fun w' => Old w8 w') Grew (by kernel_rfl) (by kernel_rfl) Grew.refl (fun _ _ h g => Old.step h g) (Old.of (Grew.refl _).drew) ?_
  repeat (first | (refine TD.skip rfl ?_; simp only [Act.put, List.setIfInBounds_toArray, List.set_cons_zero, List.set_cons_succ]) | (refine' TD.det rfl ?_ ?_; rotate_left; (focus (intro K w9 hS hK; have hv1 := bytes_str (hce38.grew hS.grew) cp3; have hv2 := bytes_str (hce48.grew hS.grew) cp4; go_wp2_with (first | (go_at_call 24; refine (claims_call _).mono ?_; rintro e w1 ⟨rfl, hg⟩; have hf := hg.facts) | (go_at_call 25; refine (items_call _).mono ?_; rintro e w1 ⟨rfl, hg⟩; have hf := hg.facts)); first | exact Grew.refl _ | assumption | exact (Grew.refl _).alloc _)); simp only [Act.put, List.setIfInBounds_toArray, List.set_cons_zero, List.set_cons_succ]))
  refine TD.done (fun w8 hS => ?_)
  go_wp2
  go_ret
  exact ⟨rfl, by (repeat (first | exact Grew.refl _ | refine Grew.alloc ?_ _ | refine Grew.drew ?_ | refine Grew.after (by assumption) ?_ | refine Grew.after (Old.grew (by assumption)) ?_))⟩
set_option maxHeartbeats 2000000 in
theorem apart_TTf_TTf (x y : Item) (c d : Claim) (w : World) (h1 : ¬ 16384 < (x.entry.text.size : Int)) (h2 : ¬ 16384 < (y.entry.text.size : Int)) (hx : x.ok = true) (hy : y.ok = true) (hs1 : ((str (itemB x)).toList == (str (itemB y)).toList) = false) (hi1 : decide (x = y) = false) (hc : c.ok = true) (hd : d.ok = true) (hs2 : ((str (claimB c)).toList == (str (claimB d)).toList) = false) (hi2 : decide (c = d) = false) :
    Calls Tryd.prog 4 #[.agg (encItem x), .agg (encItem y), .agg (encClaim c), .agg (encClaim d)] w fun e w' => e = .returned (.bool true) ∧ Grew w w' := by
  obtain ⟨Ka0, Ka1, Ka2, Ka3⟩ := four w (.cells (encItem x) 41) (.cells (encItem y) 41) (.cells (encClaim c) 27) (.cells (encClaim d) 27)
  have MARKA : True := trivial
  have MARKC : True := trivial
  go_enter Tryd.func4, Tryd.ntmps4
  go_wp2_with (first
    | (go_at_call 23; clear MARKA; refine (putItem_call x _).mono ?_; rintro e w1 ⟨v1, rfl, ho1, hg1⟩; rw [hx]; simp only [errIf]; obtain ⟨a1, cp1, rfl, hce1, -, -⟩ := ho1.ce EB1; have Kb0 := (hg1.block (Array.getElem?_eq_some_iff.1 Ka0).1).trans Ka0; have Kb1 := (hg1.block (Array.getElem?_eq_some_iff.1 Ka1).1).trans Ka1; have Kb2 := (hg1.block (Array.getElem?_eq_some_iff.1 Ka2).1).trans Ka2; have Kb3 := (hg1.block (Array.getElem?_eq_some_iff.1 Ka3).1).trans Ka3; obtain ⟨p0, q0, r0, s0, L0⟩ := blk_facts Kb0; obtain ⟨p1, q1, r1, s1, L1⟩ := blk_facts Kb1; obtain ⟨p2, q2, r2, s2, L2⟩ := blk_facts Kb2; obtain ⟨p3, q3, r3, s3, L3⟩ := blk_facts Kb3)
    | (go_at_call 23; refine (putItem_call y _).mono ?_; rintro e w2 ⟨v2, rfl, ho2, hg2⟩; rw [hy]; simp only [errIf]; obtain ⟨a2, cp2, rfl, hce2, -, -⟩ := ho2.ce EB1; have Kc0 := (hg2.block (Array.getElem?_eq_some_iff.1 Kb0).1).trans Kb0; have Kc1 := (hg2.block (Array.getElem?_eq_some_iff.1 Kb1).1).trans Kb1; have Kc2 := (hg2.block (Array.getElem?_eq_some_iff.1 Kb2).1).trans Kb2; have Kc3 := (hg2.block (Array.getElem?_eq_some_iff.1 Kb3).1).trans Kb3; obtain ⟨p0, q0, r0, s0, L0⟩ := blk_facts Kc0; obtain ⟨p1, q1, r1, s1, L1⟩ := blk_facts Kc1; obtain ⟨p2, q2, r2, s2, L2⟩ := blk_facts Kc2; obtain ⟨p3, q3, r3, s3, L3⟩ := blk_facts Kc3)
    | (go_at_call 21; clear MARKC; refine (putClaim_call c _).mono ?_; rintro e w3 ⟨v3, rfl, ho3, hg3⟩; rw [hc]; simp only [errIf]; obtain ⟨a3, cp3, rfl, hce3, -, -⟩ := ho3.ce EB1; have Kd0 := (hg3.block (Array.getElem?_eq_some_iff.1 Kc0).1).trans Kc0; have Kd1 := (hg3.block (Array.getElem?_eq_some_iff.1 Kc1).1).trans Kc1; have Kd2 := (hg3.block (Array.getElem?_eq_some_iff.1 Kc2).1).trans Kc2; have Kd3 := (hg3.block (Array.getElem?_eq_some_iff.1 Kc3).1).trans Kc3; obtain ⟨p0, q0, r0, s0, L0⟩ := blk_facts Kd0; obtain ⟨p1, q1, r1, s1, L1⟩ := blk_facts Kd1; obtain ⟨p2, q2, r2, s2, L2⟩ := blk_facts Kd2; obtain ⟨p3, q3, r3, s3, L3⟩ := blk_facts Kd3)
    | (go_at_call 21; refine (putClaim_call d _).mono ?_; rintro e w4 ⟨v4, rfl, ho4, hg4⟩; rw [hd]; simp only [errIf]; obtain ⟨a4, cp4, rfl, hce4, -, -⟩ := ho4.ce EB1; have Ke0 := (hg4.block (Array.getElem?_eq_some_iff.1 Kd0).1).trans Kd0; have Ke1 := (hg4.block (Array.getElem?_eq_some_iff.1 Kd1).1).trans Kd1; have Ke2 := (hg4.block (Array.getElem?_eq_some_iff.1 Kd2).1).trans Kd2; have Ke3 := (hg4.block (Array.getElem?_eq_some_iff.1 Kd3).1).trans Kd3; obtain ⟨p0, q0, r0, s0, L0⟩ := blk_facts Ke0; obtain ⟨p1, q1, r1, s1, L1⟩ := blk_facts Ke1; obtain ⟨p2, q2, r2, s2, L2⟩ := blk_facts Ke2; obtain ⟨p3, q3, r3, s3, L3⟩ := blk_facts Ke3))
  refine wp_region_det (fun w' => Old w4 w') Grew (by kernel_rfl) (by kernel_rfl) Grew.refl (fun _ _ h g => Old.step h g) (Old.of (Grew.refl _).drew) ?_
  repeat (first | (refine TD.skip rfl ?_; simp only [Act.put, List.setIfInBounds_toArray, List.set_cons_zero, List.set_cons_succ]) | (refine' TD.det rfl ?_ ?_; rotate_left; (focus (intro K w9 hS hK; have hv1 := bytes_str (hce1.grew ((hg2.trans (hg3.trans hg4)).trans hS.grew)) cp1; have hv2 := bytes_str (hce2.grew ((hg3.trans hg4).trans hS.grew)) cp2; go_wp2_with fail; first | exact Grew.refl _ | assumption | exact (Grew.refl _).alloc _)); simp only [Act.put, List.setIfInBounds_toArray, List.set_cons_zero, List.set_cons_succ]))
  refine TD.done (fun w8 hS => ?_)
  have hG8 := hS.grew
  have Kf0 := (hG8.block (Array.getElem?_eq_some_iff.1 Ke0).1).trans Ke0
  have Kf1 := (hG8.block (Array.getElem?_eq_some_iff.1 Ke1).1).trans Ke1
  have Kf2 := (hG8.block (Array.getElem?_eq_some_iff.1 Ke2).1).trans Ke2
  have Kf3 := (hG8.block (Array.getElem?_eq_some_iff.1 Ke3).1).trans Ke3
  obtain ⟨p0, q0, r0, s0, L0⟩ := blk_facts Kf0
  obtain ⟨p1, q1, r1, s1, L1⟩ := blk_facts Kf1
  obtain ⟨p2, q2, r2, s2, L2⟩ := blk_facts Kf2
  obtain ⟨p3, q3, r3, s3, L3⟩ := blk_facts Kf3
  have hce38 := hce3.grew (hg4.trans hG8)
  have hce48 := hce4.grew hG8
  clear hS
  go_wp2
  refine wp_region_det (fun w' => Old w8 w') Grew (by kernel_rfl) (by kernel_rfl) Grew.refl (fun _ _ h g => Old.step h g) (Old.of (Grew.refl _).drew) ?_
  repeat (first | (refine TD.skip rfl ?_; simp only [Act.put, List.setIfInBounds_toArray, List.set_cons_zero, List.set_cons_succ]) | (refine' TD.det rfl ?_ ?_; rotate_left; (focus (intro K w9 hS hK; have hv1 := bytes_str (hce38.grew hS.grew) cp3; have hv2 := bytes_str (hce48.grew hS.grew) cp4; go_wp2_with (first | (go_at_call 24; refine (claims_call _).mono ?_; rintro e w1 ⟨rfl, hg⟩; have hf := hg.facts) | (go_at_call 25; refine (items_call _).mono ?_; rintro e w1 ⟨rfl, hg⟩; have hf := hg.facts)); first | exact Grew.refl _ | assumption | exact (Grew.refl _).alloc _)); simp only [Act.put, List.setIfInBounds_toArray, List.set_cons_zero, List.set_cons_succ]))
  refine TD.done (fun w8 hS => ?_)
  go_wp2
  go_ret
  exact ⟨rfl, by (repeat (first | exact Grew.refl _ | refine Grew.alloc ?_ _ | refine Grew.drew ?_ | refine Grew.after (by assumption) ?_ | refine Grew.after (Old.grew (by assumption)) ?_))⟩
theorem apart_call (x y : Item) (c d : Claim) (w : World) : Calls Tryd.prog 4 #[.agg (encItem x), .agg (encItem y), .agg (encClaim c), .agg (encClaim d)] w fun e w' => e = .returned (.bool true) ∧ Grew w w' := by
  by_cases h1 : 16384 < (x.entry.text.size : Int)
  · exact apart_early x y c d w (.inl h1)
  by_cases h2 : 16384 < (y.entry.text.size : Int)
  · exact apart_early x y c d w (.inr h2)
  have HI : x.ok = true → y.ok = true → ((str (itemB x)).toList == (str (itemB y)).toList) = decide (x = y) := fun hx hy => by
    rw [str_dec, decide_eq_decide]
    exact ⟨itemB_inj hx hy, fun h => by rw [h]⟩
  have HC : c.ok = true → d.ok = true → ((str (claimB c)).toList == (str (claimB d)).toList) = decide (c = d) := fun hx hy => by
    rw [str_dec, decide_eq_decide]
    exact ⟨claimB_inj hx hy, fun h => by rw [h]⟩
  cases hx : x.ok <;> cases hy : y.ok
  · cases hc : c.ok <;> cases hd : d.ok
    · exact apart_FF_FF x y c d w h1 h2 hx hy hc hd
    · exact apart_FF_FT x y c d w h1 h2 hx hy hc hd
    · exact apart_FF_TF x y c d w h1 h2 hx hy hc hd
    · have hs2 := HC hc hd
      cases hi2 : decide (c = d) <;> rw [hi2] at hs2
      · exact apart_FF_TTf x y c d w h1 h2 hx hy hc hd hs2 hi2
      · exact apart_FF_TTt x y c d w h1 h2 hx hy hc hd hs2 hi2
  · cases hc : c.ok <;> cases hd : d.ok
    · exact apart_FT_FF x y c d w h1 h2 hx hy hc hd
    · exact apart_FT_FT x y c d w h1 h2 hx hy hc hd
    · exact apart_FT_TF x y c d w h1 h2 hx hy hc hd
    · have hs2 := HC hc hd
      cases hi2 : decide (c = d) <;> rw [hi2] at hs2
      · exact apart_FT_TTf x y c d w h1 h2 hx hy hc hd hs2 hi2
      · exact apart_FT_TTt x y c d w h1 h2 hx hy hc hd hs2 hi2
  · cases hc : c.ok <;> cases hd : d.ok
    · exact apart_TF_FF x y c d w h1 h2 hx hy hc hd
    · exact apart_TF_FT x y c d w h1 h2 hx hy hc hd
    · exact apart_TF_TF x y c d w h1 h2 hx hy hc hd
    · have hs2 := HC hc hd
      cases hi2 : decide (c = d) <;> rw [hi2] at hs2
      · exact apart_TF_TTf x y c d w h1 h2 hx hy hc hd hs2 hi2
      · exact apart_TF_TTt x y c d w h1 h2 hx hy hc hd hs2 hi2
  · have hs1 := HI hx hy
    cases hi1 : decide (x = y) <;> rw [hi1] at hs1
    · cases hc : c.ok <;> cases hd : d.ok
      · exact apart_TTf_FF x y c d w h1 h2 hx hy hs1 hi1 hc hd
      · exact apart_TTf_FT x y c d w h1 h2 hx hy hs1 hi1 hc hd
      · exact apart_TTf_TF x y c d w h1 h2 hx hy hs1 hi1 hc hd
      · have hs2 := HC hc hd
        cases hi2 : decide (c = d) <;> rw [hi2] at hs2
        · exact apart_TTf_TTf x y c d w h1 h2 hx hy hs1 hi1 hc hd hs2 hi2
        · exact apart_TTf_TTt x y c d w h1 h2 hx hy hs1 hi1 hc hd hs2 hi2
    · cases hc : c.ok <;> cases hd : d.ok
      · exact apart_TTt_FF x y c d w h1 h2 hx hy hs1 hi1 hc hd
      · exact apart_TTt_FT x y c d w h1 h2 hx hy hs1 hi1 hc hd
      · exact apart_TTt_TF x y c d w h1 h2 hx hy hs1 hi1 hc hd
      · have hs2 := HC hc hd
        cases hi2 : decide (c = d) <;> rw [hi2] at hs2
        · exact apart_TTt_TTf x y c d w h1 h2 hx hy hs1 hi1 hc hd hs2 hi2
        · exact apart_TTt_TTt x y c d w h1 h2 hx hy hs1 hi1 hc hd hs2 hi2
end Go.Proofs.YtoajianddmobaaaDoor
