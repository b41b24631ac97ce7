/- CONTRACTS: estreatlaw08: claims, user, items; entry.Leaf of no item. -/
import Derived.Test.YtoajianddmobaaaDoorGo7
namespace Go.Proofs.YtoajianddmobaaaDoor
open Go.RowKit
set_option linter.unusedSimpArgs false
set_option linter.unusedVariables false
set_option maxRecDepth 100000

abbrev c0 : Claim := { region := 1, epoch := 2, node := 3, size := Claim.zero.size, root := Claim.zero.root }
theorem c0_ok : Claim.ok { region := 1, epoch := 2, node := 3, size := Claim.zero.size, root := Claim.zero.root } = true := by decide
theorem cz_ok : Claim.zero.ok = false := by decide
theorem claimB_short (c : Claim) : (claimB c).length ≤ 1000000000 := Nat.le_trans (claimB_len c) (by decide)
set_option maxHeartbeats 1000000 in
theorem claims_call (w : World) : Calls Tryd.prog 24 #[] w fun e w' => e = .returned (.bool true) ∧ Grew w w' := by
  have hb0 := heap_alloc_new w (.cells (encClaim { region := 1, epoch := 2, node := 3, size := Claim.zero.size, root := Claim.zero.root }) 27)
  obtain ⟨-, -, -, hgood, hget⟩ := claim_round c0_ok
  go_enter Tryd.func24, Tryd.ntmps24
  go_wp2_with (first
    | (go_at_call 21; refine (putClaim_call _ _).mono ?_; rintro e w1 ⟨v1, rfl, ho1, hg1⟩; rw [c0_ok]; simp only [errIf]; obtain ⟨a1, cp1, rfl, hce1, hlc1, hp1⟩ := ho1.ce EB1; have hb1 := (hg1.block (by simp)).trans hb0)
    | (go_at_call 14; refine (getClaim_call _ _ _ _ hce1 hlc1 (claimB_short _)).mono ?_; rintro e w2 ⟨rfl, hg2⟩; rw [hgood, hget]; simp only [errIf]; have hb2 := (hg2.block (Array.getElem?_eq_some_iff.1 hb1).1).trans hb1; obtain ⟨m1, m2, m3, m4, m5⟩ := blk_facts hb2)
    | (go_at_call 70; refine (checkClaim_call _ _).mono ?_; rintro e w3 ⟨rfl, hg3⟩; first | rw [c0_ok] | rw [cz_ok]; simp only [told]))
  go_ret
  exact ⟨rfl, by (repeat (first | exact Grew.refl _ | refine Grew.alloc ?_ _ | refine Grew.drew ?_ | refine Grew.after (by assumption) ?_ | refine Grew.after (Old.grew (by assumption)) ?_))⟩
theorem user_call (w : World) : Calls Tryd.prog 76 #[] w fun e w' => e = .returned (.agg (encEntry { kind := 1, client := 1, seq := 2, text := { data := #[97, 98] }, head := Entry.zero.head, claim := Entry.zero.claim })) ∧ Grew w w' := by
  go_enter Tryd.func76, Tryd.ntmps76
  go_wp2
  ((try simp only [Exit.inBlock, Exit.then]); refine bodyPost_ret (rv_one rfl (.row (by rfl) agg_Entry siz_Entry (by rw [rowAt_alloc_at rfl]; exact encEntry_row _) .nil)) rfl ?_)
  exact ⟨rfl, by (repeat (first | exact Grew.refl _ | refine Grew.alloc ?_ _ | refine Grew.drew ?_ | refine Grew.after (by assumption) ?_ | refine Grew.after (Old.grew (by assumption)) ?_))⟩
abbrev e0 : Entry := { kind := 1, client := 1, seq := 2, text := { data := #[97, 98] }, head := Entry.zero.head, claim := Entry.zero.claim }
abbrev x0 : Item := { epoch := 1, entry := { kind := 1, client := 1, seq := 2, text := { data := #[97, 98] }, head := Entry.zero.head, claim := Entry.zero.claim } }
theorem e0_ok : Entry.ok { kind := 1, client := 1, seq := 2, text := { data := #[97, 98] }, head := Entry.zero.head, claim := Entry.zero.claim } = true := by decide
theorem x0_ok : Item.ok { epoch := 1, entry := { kind := 1, client := 1, seq := 2, text := { data := #[97, 98] }, head := Entry.zero.head, claim := Entry.zero.claim } } = true := by decide
theorem ez_ok : Entry.zero.ok = false := by decide
theorem xz_ok : Item.zero.ok = false := by decide
theorem numB1 : numB 1 = [1] := by rw [numB, if_pos (by decide), show (1 : Int).toNat = 1 from rfl, be_pos (by decide), show 1 / 256 = 0 from rfl, be_zero]; rfl
theorem numB2 : numB 2 = [2] := by rw [numB, if_pos (by decide), show (2 : Int).toNat = 2 from rfl, be_pos (by decide), show 2 / 256 = 0 from rfl, be_zero]; rfl
theorem entryB_e0 : entryB { kind := 1, client := 1, seq := 2, text := { data := #[97, 98] }, head := Entry.zero.head, claim := Entry.zero.claim } = [1, 0, 0, 1, 1, 2, 0, 0, 1, 1, 3, 0, 0, 1, 2, 4, 0, 0, 2, 97, 98] := by
  rw [entryB, if_pos e0_ok, layR, if_pos (entry_lay e0_ok)]
  simp only [entryF, numB1, numB2]
  rfl
theorem itemB_x0 : itemB { epoch := 1, entry := { kind := 1, client := 1, seq := 2, text := { data := #[97, 98] }, head := Entry.zero.head, claim := Entry.zero.claim } } = [1, 0, 0, 1, 1, 2, 0, 0, 21, 1, 0, 0, 1, 1, 2, 0, 0, 1, 1, 3, 0, 0, 1, 2, 4, 0, 0, 2, 97, 98] := by
  have h : layE 0 (rowFrom 0 (itemRow x0)) = 0 := by simpa using rowFrom_lay (itemRow x0) 0 (by simp [itemRow]) (item_row_ok x0_ok)
  rw [itemB, if_pos x0_ok, layR, if_pos h]
  simp only [itemRow, numB1, entryB_e0]
  rfl
theorem entry_nil : entryGood [] = false := by
  unfold entryGood
  have : entryX [] = Entry.zero := by rw [entryX, readR, (read_nil 0).2, ite_self]; rfl
  rw [this, ez_ok]
  simp
set_option maxHeartbeats 1000000 in
theorem leafZero_call (w : World) : Calls Tryd.prog 50 #[.agg (encItem Item.zero)] w fun e w' => e = .returned (.tuple #[.agg (encDig Dig.zero), .int .i64 60]) ∧ Grew w w' := by
  have hb0 := heap_alloc_new w (.cells (encItem Item.zero) 41)
  have hb1 := blk_two w (.cells (encItem Item.zero) 41) (.cells (encDig Dig.zero) 25)
  go_enter Tryd.func50, Tryd.ntmps50
  go_wp2_with (go_at_call 23; refine (putItem_call _ _).mono ?_; rintro e w1 ⟨v1, rfl, ho1, hg1⟩; rw [xz_ok]; simp only [errIf]; have hb2 := (hg1.block (Array.getElem?_eq_some_iff.1 hb1).1).trans hb1; obtain ⟨m1, m2, m3, m4, m5⟩ := blk_facts hb2)
  ((try simp only [Exit.inBlock, Exit.then]); refine bodyPost_ret (rv_list rfl (by simp) (.row (by rfl) agg_Digest siz_Digest (rowAt_put ((m3 0 32).trans (encDig_row _)) (encDig_size _)) (.tmp .nil))) rfl ?_)
  exact ⟨rfl, step_below (StepX.putRow (X := fun k => k = w.heap.size + 1) _ _ _ _ rfl) (show Below w.heap.size w w1 from (((Grew.refl w).alloc _).alloc _).trans hg1) (Nat.le_refl _) (by intro k hk; omega)⟩
set_option maxHeartbeats 2000000 in
theorem items_call (w : World) : Calls Tryd.prog 25 #[] w fun e w' => e = .returned (.bool true) ∧ Grew w w' := by
  obtain ⟨-, -, -, hgood, hget⟩ := item_round x0_ok
  rw [itemB_x0] at hgood hget
  go_enter Tryd.func25, Tryd.ntmps25
  go_wp2_with (first
    | (go_at_call 76; refine (user_call _).mono ?_; rintro e w1 ⟨rfl, hg1⟩)
    | (go_at_call 23; refine (putItem_call _ _).mono ?_; rintro e w2 ⟨v2, rfl, ho2, hg2⟩; rw [x0_ok]; simp only [errIf]; rw [itemB_x0] at ho2; obtain ⟨a2, cp2, rfl, hce2, hlc2, hp2⟩ := ho2.ce EB1; have hb2 := (hg2.block (by simp)).trans (heap_alloc_new w1 _))
    | (go_at_call 18; refine (getItem_call _ _ _ _ hce2 hlc2 (by decide)).mono ?_; rintro e w3 ⟨rfl, hg3⟩; rw [hgood, hget]; simp only [errIf]; have hb3 := (hg3.block (Array.getElem?_eq_some_iff.1 hb2).1).trans hb2; have hce3 := hce2.grew hg3; have hlt3 := (Array.getElem?_eq_some_iff.1 hb3).1)
    | (go_at_call 16; refine (getEntry_call [] none 0 _ CeR.nil (Nat.le_refl _) (by decide)).mono ?_; rintro e w4 ⟨rfl, hg4⟩; rw [show errIf 60 (entryGood []) = 60 by rw [entry_nil]; rfl, show entryGet [] = Entry.zero by rw [entryGet, entry_nil]; rfl])
    | (go_at_call 50; refine (leafZero_call _).mono ?_; rintro e w5 ⟨rfl, hg5⟩; have hG5 := (hg4.alloc _).trans hg5; have k1 := (hG5.block (by simp; omega)).trans ((heap_alloc_old w3 (.cells (encItem { epoch := 1, entry := { kind := 1, client := 1, seq := 2, text := { data := #[97, 98] }, head := Entry.zero.head, claim := Entry.zero.claim } }) 41) hlt3).trans hb3); have k2 := (hG5.block (by simp)).trans (heap_alloc_new w3 (.cells (encItem { epoch := 1, entry := { kind := 1, client := 1, seq := 2, text := { data := #[97, 98] }, head := Entry.zero.head, claim := Entry.zero.claim } }) 41));
        have hcv : (convert 22 9 (.slice a2 30 cp2)).run Tryd.prog (w5.alloc (.cells (encDig Dig.zero) 25)) = .ok (.string { data := #[1, 0, 0, 1, 1, 2, 0, 0, 21, 1, 0, 0, 1, 1, 2, 0, 0, 1, 1, 3, 0, 0, 1, 2, 4, 0, 0, 2, 97, 98] }) (w5.alloc (.cells (encDig Dig.zero) 25)) := bytes_str (hce3.grew ((((Grew.refl w3).alloc _).trans hG5).alloc _)) cp2;
        obtain ⟨m1, m2, m3, m4, m5⟩ := blk_facts k1; obtain ⟨n1, n2, n3, n4, n5⟩ := blk_facts k2)
    | (go_at_call 26; refine (entryCheck_call _ _).mono ?_; rintro e w6 ⟨rfl, hg6⟩; first | rw [e0_ok] | rw [ez_ok]; simp only [told]))
  go_ret
  exact ⟨rfl, by (repeat (first | exact Grew.refl _ | refine Grew.alloc ?_ _ | refine Grew.drew ?_ | refine Grew.after (by assumption) ?_ | refine Grew.after (Old.grew (by assumption)) ?_))⟩
end Go.Proofs.YtoajianddmobaaaDoor
