/- CONTRACTS: entry.GetItem. -/
import Derived.Test.YtoajianddmobaaaDoorGo6
namespace Go.Proofs.YtoajianddmobaaaDoor
open Go.RowKit
set_option linter.unusedSimpArgs false
set_option linter.unusedVariables false
set_option maxRecDepth 100000

theorem getItem_call (l : List UInt8) (a : Option Addr) (cap : Nat) (w : World) (hs : CeR encByte w a l) (hc : l.length ≤ cap) (hm : l.length ≤ 1000000000) :
    Calls Tryd.prog 18 #[.slice a l.length cap] w fun e w' => e = .returned (.tuple #[.agg (encItem (itemGet l)), .int .i64 (errIf 60 (itemGood l))]) ∧ Grew w w' := by
  have h0 := heap_alloc_new w (.cells (encItem Item.zero) 41)
  go_enter Tryd.func18, Tryd.ntmps18
  go_wp2_with (go_at_call 67; refine (got_item_call l a cap _ (hs.grew ((Grew.refl w).alloc _)) hc hm).mono ?_; rintro e w1 ⟨rfl, hg1⟩; have k0 := (hg1.block (by simp)).trans h0; obtain ⟨m1, m2, m3, m4, m5⟩ := blk_facts k0)
  ((try simp only [Exit.inBlock, Exit.then]); refine bodyPost_ret (rv_list rfl (by simp) (.row (by rfl) agg_Item siz_Item (rowAt_put ((m3 0 110).trans (encItem_row _)) (encItem_len _)) (.tmp .nil))) rfl ?_)
  refine ⟨rfl, ?_⟩
  exact step_below (StepX.putRow (X := fun k => k = w.heap.size) _ _ _ _ rfl) (show Below w.heap.size w w1 from ((Grew.refl w).alloc _).trans hg1) (Nat.le_refl _) (by intro k hk; omega)
end Go.Proofs.YtoajianddmobaaaDoor
