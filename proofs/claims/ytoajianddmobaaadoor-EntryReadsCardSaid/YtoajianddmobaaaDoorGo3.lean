/- CONTRACTS: entry.GetClaim, entry.Get$1. -/
import Derived.Test.YtoajianddmobaaaDoorGo2
namespace Go.Proofs.YtoajianddmobaaaDoor
open Go.RowKit
set_option linter.unusedSimpArgs false
set_option linter.unusedVariables false
set_option maxRecDepth 100000

theorem getClaim_call (l : List UInt8) (a : Option Addr) (cap : Nat) (w : World) (hs : CeR encByte w a l) (hc : l.length ≤ cap) (hm : l.length ≤ 1000000000) :
    Calls Tryd.prog 14 #[.slice a l.length cap] w fun e w' => e = .returned (.tuple #[.agg (encClaim (claimGet l)), .int .i64 (errIf 60 (claimGood l))]) ∧ Grew w w' := by
  have h0 := heap_alloc_new w (.cells (encClaim Claim.zero) 27)
  go_enter Tryd.func14, Tryd.ntmps14
  go_wp2_with (go_at_call 53; refine (got_claim_call l a cap _ (hs.grew ((Grew.refl w).alloc _)) hc hm).mono ?_; rintro e w1 ⟨rfl, hg1⟩; have k0 := (hg1.block (by simp)).trans h0; obtain ⟨m1, m2, m3, m4, m5⟩ := blk_facts k0)
  ((try simp only [Exit.inBlock, Exit.then]); refine bodyPost_ret (rv_list rfl (by simp) (.row (by rfl) agg_Claim siz_Claim (rowAt_put ((m3 0 36).trans (encClaim_row _)) (encClaim_len _)) (.tmp .nil))) rfl ?_)
  refine ⟨rfl, ?_⟩
  exact step_below (StepX.putRow (X := fun k => k = w.heap.size) _ _ _ _ rfl) (show Below w.heap.size w w1 from ((Grew.refl w).alloc _).trans hg1) (Nat.le_refl _) (by intro k hk; omega)
set_option maxHeartbeats 400000 in
theorem entryTake_call (c : Entry) (f : Fld) (b : Nat) (w : World) (hb : w.heap[b]? = some (.cells (encEntry c) 37 (0, 0))) (hz : f.data.size ≤ 1000000) :
    Calls Tryd.prog 61 #[.pointer (some ⟨b, 0, none⟩), .agg (encFld f)] w fun e w' => e = .returned (.tuple #[]) ∧ Turned b 37 (encEntry (entryTake c f)) w w' := by
  obtain ⟨c1, c2, c3, c4, c5⟩ := blk_facts hb
  have h0 := heap_alloc_new w (.cells (encFld f) 87)
  have hbn := (heap_alloc_old w (.cells (encFld f) 87) c5).trans hb
  obtain ⟨d1, d2, d3, d4, d5⟩ := blk_facts hbn
  have hdt := encFld_data f
  have hsl : f.data.data.toList.length = f.data.size := by simp
  by_cases h1 : f.tag = 1
  · have hT : entryTake c f = { c with kind := valN f.data.data.toList } := by simp [entryTake, h1]
    go_enter Tryd.func61, Tryd.ntmps61
    go_wp2_with (go_at_call 55; refine (enumber_call _ _).mono ?_; rintro e w1 ⟨rfl, hg1⟩; have hb1 := (hg1.block d5).trans hbn; obtain ⟨e1, e2, e3, e4, e5⟩ := blk_facts hb1)
    go_end0
    exact ⟨rfl, by rw [hT, heap_set_at hb1, encEntry_set_kind], (step_none (((Grew.refl w).alloc _).trans hg1)).trans (StepX.setCell (X := fun k => k = b) _ _ _ rfl)⟩
  · by_cases h2 : f.tag = 2
    · have hT : entryTake c f = { c with client := valN f.data.data.toList } := by simp [entryTake, h2]
      go_enter Tryd.func61, Tryd.ntmps61
      go_wp2_with (go_at_call 55; refine (enumber_call _ _).mono ?_; rintro e w1 ⟨rfl, hg1⟩; have hb1 := (hg1.block d5).trans hbn; obtain ⟨e1, e2, e3, e4, e5⟩ := blk_facts hb1)
      go_end0
      exact ⟨rfl, by rw [hT, heap_set_at hb1, encEntry_set_client], (step_none (((Grew.refl w).alloc _).trans hg1)).trans (StepX.setCell (X := fun k => k = b) _ _ _ rfl)⟩
    · by_cases h3 : f.tag = 3
      · have hT : entryTake c f = { c with seq := valN f.data.data.toList } := by simp [entryTake, h3]
        go_enter Tryd.func61, Tryd.ntmps61
        go_wp2_with (go_at_call 55; refine (enumber_call _ _).mono ?_; rintro e w1 ⟨rfl, hg1⟩; have hb1 := (hg1.block d5).trans hbn; obtain ⟨e1, e2, e3, e4, e5⟩ := blk_facts hb1)
        go_end0
        exact ⟨rfl, by rw [hT, heap_set_at hb1, encEntry_set_seq], (step_none (((Grew.refl w).alloc _).trans hg1)).trans (StepX.setCell (X := fun k => k = b) _ _ _ rfl)⟩
      · by_cases h4 : f.tag = 4
        · have hT : entryTake c f = { c with text := f.data } := by simp [entryTake, h4]
          go_enter Tryd.func61, Tryd.ntmps61
          go_wp2
          go_end0
          exact ⟨rfl, by rw [hT, heap_alloc_old _ _ (by rw [size_setCell]; exact c5), heap_set_at hb, encEntry_set_text], (StepX.setCell (X := fun k => k = b) _ _ _ rfl).trans (step_none ((Grew.refl _).alloc _))⟩
        · by_cases h5 : f.tag = 5
          · have hT : entryTake c f = { c with head := signedGet f.data.data.toList } := by simp [entryTake, h5]
            obtain ⟨w2, cp2, hcv2, hg2, hce2, hcp2⟩ := str_bytes2 f.data (w.alloc (.cells (encFld f) 87))
            rw [World.size_alloc] at hcv2 hce2
            have hl1 : f.data.data.toList.length ≤ cp2 := by rw [hsl]; exact hcp2
            have hl2 : f.data.data.toList.length ≤ 1000000000 := by rw [hsl]; exact Nat.le_trans hz (by decide)
            go_enter Tryd.func61, Tryd.ntmps61
            go_wp2_with (go_at_call 62; rw [← hsl]; refine (headGetSigned_call f.data.data.toList _ cp2 w2 hce2 hl1 hl2).mono ?_; rintro e w1 ⟨rfl, hg1⟩; have hb1 := ((hg2.trans hg1).block d5).trans hbn; obtain ⟨e1, e2, e3, e4, e5⟩ := blk_facts hb1)
            go_end0
            have hW : Grew w w1 := Grew.trans (Grew.alloc (Grew.refl w) _) (Grew.trans hg2 hg1)
            rw [hT, ← encEntry_put_head]
            exact ⟨rfl, Turned.put hb1 (step_none hW) _ _⟩
          · by_cases h6 : f.tag = 6
            · have hT : entryTake c f = { c with claim := claimGet f.data.data.toList } := by simp [entryTake, h6]
              obtain ⟨w2, cp2, hcv2, hg2, hce2, hcp2⟩ := str_bytes2 f.data (w.alloc (.cells (encFld f) 87))
              rw [World.size_alloc] at hcv2 hce2
              have hl1 : f.data.data.toList.length ≤ cp2 := by rw [hsl]; exact hcp2
              have hl2 : f.data.data.toList.length ≤ 1000000000 := by rw [hsl]; exact Nat.le_trans hz (by decide)
              go_enter Tryd.func61, Tryd.ntmps61
              go_wp2_with (go_at_call 14; rw [← hsl]; refine (getClaim_call f.data.data.toList _ cp2 w2 hce2 hl1 hl2).mono ?_; rintro e w1 ⟨rfl, hg1⟩; have hb1 := ((hg2.trans hg1).block d5).trans hbn; obtain ⟨e1, e2, e3, e4, e5⟩ := blk_facts hb1)
              go_end0
              have hW : Grew w w1 := Grew.trans (Grew.alloc (Grew.refl w) _) (Grew.trans hg2 hg1)
              rw [hT, ← encEntry_put_claim]
              exact ⟨rfl, Turned.put hb1 (step_none hW) _ _⟩
            · have hT : entryTake c f = c := by simp [entryTake, h1, h2, h3, h4, h5, h6]
              go_enter Tryd.func61, Tryd.ntmps61
              go_wp2
              go_end0
              exact ⟨rfl, by rw [hT]; exact hbn, step_none ((Grew.refl w).alloc _)⟩
end Go.Proofs.YtoajianddmobaaaDoor
