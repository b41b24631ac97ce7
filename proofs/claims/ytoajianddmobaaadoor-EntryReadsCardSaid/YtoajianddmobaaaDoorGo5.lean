/- CONTRACTS: entry.Get, entry.GetItem$1. -/
import Derived.Test.YtoajianddmobaaaDoorGo4
namespace Go.Proofs.YtoajianddmobaaaDoor
open Go.RowKit
set_option linter.unusedSimpArgs false
set_option linter.unusedVariables false
set_option maxRecDepth 100000

theorem getEntry_call (l : List UInt8) (a : Option Addr) (cap : Nat) (w : World) (hs : CeR encByte w a l) (hc : l.length ≤ cap) (hm : l.length ≤ 1000000000) :
    Calls Tryd.prog 16 #[.slice a l.length cap] w fun e w' => e = .returned (.tuple #[.agg (encEntry (entryGet l)), .int .i64 (errIf 60 (entryGood l))]) ∧ Grew w w' := by
  have h0 := heap_alloc_new w (.cells (encEntry Entry.zero) 37)
  go_enter Tryd.func16, Tryd.ntmps16
  go_wp2_with (go_at_call 60; refine (got_entry_call l a cap _ (hs.grew ((Grew.refl w).alloc _)) hc hm).mono ?_; rintro e w1 ⟨rfl, hg1⟩; have k0 := (hg1.block (by simp)).trans h0; obtain ⟨m1, m2, m3, m4, m5⟩ := blk_facts k0)
  ((try simp only [Exit.inBlock, Exit.then]); refine bodyPost_ret (rv_list rfl (by simp) (.row (by rfl) agg_Entry siz_Entry (rowAt_put ((m3 0 109).trans (encEntry_row _)) (encEntry_len _)) (.tmp .nil))) rfl ?_)
  refine ⟨rfl, ?_⟩
  exact step_below (StepX.putRow (X := fun k => k = w.heap.size) _ _ _ _ rfl) (show Below w.heap.size w w1 from ((Grew.refl w).alloc _).trans hg1) (Nat.le_refl _) (by intro k hk; omega)
set_option maxHeartbeats 2000000 in
theorem itemTake_call (c : Item) (f : Fld) (b : Nat) (w : World) (hb : w.heap[b]? = some (.cells (encItem c) 41 (0, 0))) (hz : f.data.size ≤ 1000000) :
    Calls Tryd.prog 68 #[.pointer (some ⟨b, 0, none⟩), .agg (encFld f)] w fun e w' => e = .returned (.tuple #[]) ∧ Turned b 41 (encItem (itemTake c f)) w w' := by
  obtain ⟨c1, c2, c3, c4, c5⟩ := blk_facts hb
  have h0 := heap_alloc_new w (.cells (encFld f) 87)
  have hbn := (heap_alloc_old w (.cells (encFld f) 87) c5).trans hb
  obtain ⟨d1, d2, d3, d4, d5⟩ := blk_facts hbn
  have hdt := encFld_data f
  have hsl : f.data.data.toList.length = f.data.size := by simp
  by_cases h1 : f.tag = 1
  · have hT : itemTake c f = { c with epoch := valN f.data.data.toList } := by simp [itemTake, h1]
    go_enter Tryd.func68, Tryd.ntmps68
    go_wp2_with (go_at_call 55; refine (enumber_call _ _).mono ?_; rintro e w1 ⟨rfl, hg1⟩; have hb1 := (hg1.block d5).trans hbn; obtain ⟨e1, e2, e3, e4, e5⟩ := blk_facts hb1)
    go_end0
    exact ⟨rfl, by rw [hT, heap_set_at hb1, encItem_set_epoch], (step_none (((Grew.refl w).alloc _).trans hg1)).trans (StepX.setCell (X := fun k => k = b) _ _ _ rfl)⟩
  · by_cases h2 : f.tag = 2
    · have hT : itemTake c f = { c with entry := entryGet f.data.data.toList } := by simp [itemTake, h2]
      obtain ⟨w2, cp2, hcv2, hg2, hce2, hcp2⟩ := str_bytes2 f.data (w.alloc (.cells (encFld f) 87))
      rw [World.size_alloc] at hcv2 hce2
      have hl1 : f.data.data.toList.length ≤ cp2 := by rw [hsl]; exact hcp2
      have hl2 : f.data.data.toList.length ≤ 1000000000 := by rw [hsl]; exact Nat.le_trans hz (by decide)
      go_enter Tryd.func68, Tryd.ntmps68
      go_wp2_with (go_at_call 16; rw [← hsl]; refine (getEntry_call f.data.data.toList _ cp2 w2 hce2 hl1 hl2).mono ?_; rintro e w1 ⟨rfl, hg1⟩; have hb1 := ((hg2.trans hg1).block d5).trans hbn; obtain ⟨e1, e2, e3, e4, e5⟩ := blk_facts hb1)
      go_end0
      have hW : Grew w w1 := Grew.trans (Grew.alloc (Grew.refl w) _) (Grew.trans hg2 hg1)
      rw [hT, ← encItem_put_entry]
      exact ⟨rfl, Turned.put hb1 (step_none hW) _ _⟩
    · have hT : itemTake c f = c := by simp [itemTake, h1, h2]
      go_enter Tryd.func68, Tryd.ntmps68
      go_wp2
      go_end0
      exact ⟨rfl, by rw [hT]; exact hbn, step_none ((Grew.refl w).alloc _)⟩
end Go.Proofs.YtoajianddmobaaaDoor
