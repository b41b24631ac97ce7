/- CONTRACTS: entry.got of Entry, entry.Get. -/
import Derived.Test.YtoajianddmobaaaDoorGo3
namespace Go.Proofs.YtoajianddmobaaaDoor
open Go.RowKit
set_option linter.unusedSimpArgs false
set_option linter.unusedVariables false
set_option maxRecDepth 100000

set_option maxHeartbeats 2000000 in
theorem got_entry_call (l : List UInt8) (a : Option Addr) (cap : Nat) (w : World) (hs : CeR encByte w a l) (hc : l.length ≤ cap) (hm : l.length ≤ 1000000000) :
    Calls Tryd.prog 60 #[.slice a l.length cap, .func (.func 61) #[] #[], .func (.func 22) #[] #[]] w fun e w' => e = .returned (.tuple #[.agg (encEntry (entryGet l)), .int .i64 (errIf 60 (entryGood l))]) ∧ Grew w w' := by
  have hG : entryGood l = (decide (readE 0 l = 0) && (entryX l).ok && decide (entryB (entryX l) = l)) := rfl
  have hV : entryGet l = if entryGood l then entryX l else Entry.zero := rfl
  have hX : entryX l = (readR l).foldl entryTake Entry.zero := rfl
  have hap : ∀ p, a = some p → p.block < w.heap.size := fun p hp => by
    rcases hs with ⟨h, _⟩ | ⟨b, off, h, hlt, _⟩
    · rw [h] at hp; cases hp
    · rw [h] at hp; cases hp; exact hlt
  have HAP := Lib.hid hap; clear hap
  have hfl := readR_len l
  have hsz := readR_size l
  obtain ⟨A3, hA3⟩ : ∃ A3, A3 = ((w.alloc (.cells (encEntry Entry.zero) 37)).alloc (.cells (encEntry Entry.zero) 37)).alloc (.cells (encEntry Entry.zero) 37) := ⟨_, rfl⟩
  have hg0 : Grew w A3 := by rw [hA3]; exact (((Grew.refl w).alloc _).alloc _).alloc _
  have hz : A3.heap.size = w.heap.size + 3 := by rw [hA3]; simp
  have hce := hs.grew hg0
  have e0 : A3.heap[w.heap.size]? = some (.cells (encEntry Entry.zero) 37 (0, 0)) := by rw [hA3, heap_alloc_old _ _ (by simp; omega), heap_alloc_old _ _ (by simp)]; exact heap_alloc_new w _
  have e1 : A3.heap[w.heap.size + 1]? = some (.cells (encEntry Entry.zero) 37 (0, 0)) := by rw [hA3, heap_alloc_old _ _ (by simp)]; exact heap_alloc_at _ (by simp)
  have e2 : A3.heap[w.heap.size + 1 + 1]? = some (.cells (encEntry Entry.zero) 37 (0, 0)) := by rw [hA3]; exact heap_alloc_at _ (by simp)
  have hR := read_call l a cap A3 hce hc hm
  generalize hF : readR l = fs at *
  generalize hE0 : readE 0 l = re at *
  have HF := Lib.hid hF; clear hF
  have HSZ := Lib.hid hsz; clear hsz
  have HE0 := Lib.hid hE0; clear hE0
  generalize entryX l = x at *
  have HV := Lib.hid hV; clear hV
  have HG := Lib.hid hG; clear hG
  rw [hA3] at hR
  go_enter Tryd.func60, Tryd.ntmps60
  go_wp2_with (go_at_call 107; refine hR.mono ?_; rintro e w1 ⟨v1, rfl, ho1, hg1⟩; rw [← hA3] at ho1 hg1; rw [hz] at ho1; obtain ⟨av, cv, rfl, hsl, hlc, hnv, hpv⟩ := ho1.form F1 (by omega); have HPV := Lib.hid hpv; clear hpv)
  have f0 := (hg1.block (by omega)).trans e0
  have f1 := (hg1.block (by omega)).trans e1
  have f2 := (hg1.block (by omega)).trans e2
  have hw1 : w.heap.size + 3 ≤ w1.heap.size := by have := hg1.le; omega
  have HA3 := Lib.hid hA3; clear hA3
  go_loopw [13, 23] (fun _ i_ wr => ∃ (k : Nat), k ≤ fs.length ∧ i_ = .int .i64 k ∧ wr.heap[w.heap.size + 1]? = some (.cells (encEntry ((fs.take k).foldl entryTake Entry.zero)) 37 (0, 0)) ∧ StepX (fun k => k = w.heap.size + 1) w1 wr) (fun _ i _ => fs.length - (intOf i).toNat)
  case atStart => exact ⟨0, Nat.zero_le _, rfl, f1, step_none (Grew.refl _)⟩
  case round =>
    obtain ⟨k, hk, rfl, hfo, hst⟩ := hrel
    by_cases hlt : k < fs.length
    · obtain ⟨b, off, rfl, hrow0⟩ := hsl k fs[k] (by simp [hlt])
      have hb1 := rowAt_lt hrow0
      have hbw := (HPV.out _ rfl).1
      have hrow : wr.rowAt b (off + k * 2) 2 = some (encFld fs[k]) := by
        rw [← hrow0]; unfold World.rowAt; rw [hst.block b hb1 (by simp at hbw; omega)]
      have hsn := take_snoc fs k hlt
      have hfz : fs[k].data.size ≤ 1000000 := Nat.le_trans (HSZ.out _ (List.getElem_mem hlt)) (by decide)
      generalize fs[k] = f at hrow hsn hfz
      have Hsn := Lib.hid hsn; clear hsn hrow0
      have hszr := hst.size
      have hne : w.heap.size + 1 ≠ wr.heap.size := by omega
      have hfo2 := (heap_alloc_old wr (.cells (encFld f) 87) (by omega)).trans hfo
      have hfn := heap_alloc_new wr (.cells (encFld f) 87)
      obtain ⟨m1, m2, m3, m4, m5⟩ := blk_facts hfn
      go_wp2_with (go_at_call 61; refine (entryTake_call _ _ _ _ hfo2 hfz).mono ?_; rintro e w2 ⟨rfl, ht1, ht2⟩)
      refine ⟨⟨k + 1, by omega, by go_num, ?_, (hst.trans (step_none ((Grew.refl wr).alloc _))).trans ht2⟩, by simp [intOf]; omega⟩
      rw [Hsn.out, List.foldl_append]
      exact ht1
    · have hk9 : k = fs.length := by omega
      have hd0 : decide (k < fs.length) = false := decide_eq_false hlt
      have ht9 : fs.take k = fs := List.take_of_length_le (by omega)
      rw [ht9, ← hX] at hfo
      have g0 := step_blk hst f0 (by omega)
      have g2 := step_blk hst f2 (by omega)
      have hszr := hst.size
      obtain ⟨m1, m2, m3, m4, m5⟩ := blk_facts hfo
      obtain ⟨n1, n2, n3, n4, n5⟩ := blk_facts g0
      obtain ⟨o1, o2, o3, o4, o5⟩ := blk_facts g2
      have hlow := step_below hst (Below.trans (show Below w.heap.size w A3 from hg0) (Below.mono (show Below _ A3 w1 from hg1) (by omega))) (Nat.le_refl _) (by intro k hk; omega)
      have hcb := (hce.grew hg1).stepX hst (fun p hp => by have := HAP.out p hp; omega)
      have HT9 := Lib.hid ht9; clear ht9
      have HX := Lib.hid hX; clear hX
      have hnz : w.heap.size ≠ w.heap.size + 1 := by omega
      have hput : ∀ ok : Bool, x.ok = ok → ∀ w9 : World, Calls Tryd.prog 22 #[.agg (encEntry x)] w9 fun e w' => ∃ v, e = .returned (.tuple #[v, .int .i64 (errIf 60 ok)]) ∧ OwnB w9.heap.size w' v (entryB x) ∧ Grew w9 w' := fun ok h w9 => by rw [← h]; exact entryPut_call x w9
      by_cases hre : re = 0
      · cases hok : x.ok
        · go_wp2_with (first
           | (go_at_call 22; refine (hput _ hok _).mono ?_; rintro e w4 ⟨v4, rfl, ho4, hg4⟩; simp only [errIf]; obtain ⟨a4, cp4, rfl, hce4, hlc4, hp4⟩ := ho4.ce EB1; have hcb4 := hcb.grew hg4; have k0 := (hg4.block n5).trans g0; have k1 := (hg4.block m5).trans hfo; have k2 := (hg4.block o5).trans g2; obtain ⟨m1, m2, m3, m4, m5⟩ := blk_facts k1; obtain ⟨n1, n2, n3, n4, n5⟩ := blk_facts k0; obtain ⟨o1, o2, o3, o4, o5⟩ := blk_facts k2)
           | (go_at_call 108; refine (equal_call _ _ _ _ _ _ _ hce4 hcb4).mono ?_; rintro e w' ⟨rfl, rfl⟩; rw [hB]))
          ((try simp only [Exit.inBlock, Exit.then]); refine bodyPost_ret (rv_list rfl (by simp) (.row (by rfl) agg_Entry siz_Entry (rowAt_put ((n3 0 109).trans (encEntry_row _)) (encEntry_len _)) (.tmp .nil))) rfl ?_)
          have hl4 : Below w.heap.size w w4 := Below.trans hlow (Below.mono (show Below _ wr w4 from hg4) hlow.size)
          exact ⟨by rw [HV.out, HG.out]; simp [hre, hok, errIf], step_below (StepX.putRow (X := fun k => k = w.heap.size) _ _ _ _ rfl) hl4 (Nat.le_refl _) (by intro k hk; omega)⟩
        · cases hB : decide (entryB x = l)
          · go_wp2_with (first
             | (go_at_call 22; refine (hput _ hok _).mono ?_; rintro e w4 ⟨v4, rfl, ho4, hg4⟩; simp only [errIf]; obtain ⟨a4, cp4, rfl, hce4, hlc4, hp4⟩ := ho4.ce EB1; have hcb4 := hcb.grew hg4; have k0 := (hg4.block n5).trans g0; have k1 := (hg4.block m5).trans hfo; have k2 := (hg4.block o5).trans g2; obtain ⟨m1, m2, m3, m4, m5⟩ := blk_facts k1; obtain ⟨n1, n2, n3, n4, n5⟩ := blk_facts k0; obtain ⟨o1, o2, o3, o4, o5⟩ := blk_facts k2)
             | (go_at_call 108; refine (equal_call _ _ _ _ _ _ _ hce4 hcb4).mono ?_; rintro e w' ⟨rfl, rfl⟩; rw [hB]))
            ((try simp only [Exit.inBlock, Exit.then]); refine bodyPost_ret (rv_list rfl (by simp) (.row (by rfl) agg_Entry siz_Entry (rowAt_put ((n3 0 109).trans (encEntry_row _)) (encEntry_len _)) (.tmp .nil))) rfl ?_)
            have hl4 : Below w.heap.size w w4 := Below.trans hlow (Below.mono (show Below _ wr w4 from hg4) hlow.size)
            exact ⟨by rw [HV.out, HG.out]; simp [hre, hok, hB, errIf], step_below (StepX.putRow (X := fun k => k = w.heap.size) _ _ _ _ rfl) hl4 (Nat.le_refl _) (by intro k hk; omega)⟩
          · go_wp2_with (first
             | (go_at_call 22; refine (hput _ hok _).mono ?_; rintro e w4 ⟨v4, rfl, ho4, hg4⟩; simp only [errIf]; obtain ⟨a4, cp4, rfl, hce4, hlc4, hp4⟩ := ho4.ce EB1; have hcb4 := hcb.grew hg4; have k0 := (hg4.block n5).trans g0; have k1 := (hg4.block m5).trans hfo; have k2 := (hg4.block o5).trans g2; obtain ⟨m1, m2, m3, m4, m5⟩ := blk_facts k1; obtain ⟨n1, n2, n3, n4, n5⟩ := blk_facts k0; obtain ⟨o1, o2, o3, o4, o5⟩ := blk_facts k2)
             | (go_at_call 108; refine (equal_call _ _ _ _ _ _ _ hce4 hcb4).mono ?_; rintro e w' ⟨rfl, rfl⟩; rw [hB]))
            ((try simp only [Exit.inBlock, Exit.then]); refine bodyPost_ret (rv_list rfl (by simp) (.row (by rfl) agg_Entry siz_Entry (rowAt_put ((n3 0 109).trans (encEntry_row _)) (encEntry_len _)) (.tmp .nil))) rfl ?_)
            have hl4 : Below w.heap.size w w4 := Below.trans hlow (Below.mono (show Below _ wr w4 from hg4) hlow.size)
            exact ⟨by rw [HV.out, HG.out]; simp [hre, hok, hB, errIf], step_below (StepX.putRow (X := fun k => k = w.heap.size) _ _ _ _ rfl) hl4 (Nat.le_refl _) (by intro k hk; omega)⟩
      · have hd2 : (re == 0) = false := by rw [beq_eq_false_iff_ne]; exact hre
        cases hok : x.ok
        · go_wp2_with (first
           | (go_at_call 22; refine (hput _ hok _).mono ?_; rintro e w4 ⟨v4, rfl, ho4, hg4⟩; simp only [errIf]; obtain ⟨a4, cp4, rfl, hce4, hlc4, hp4⟩ := ho4.ce EB1; have hcb4 := hcb.grew hg4; have k0 := (hg4.block n5).trans g0; have k1 := (hg4.block m5).trans hfo; have k2 := (hg4.block o5).trans g2; obtain ⟨m1, m2, m3, m4, m5⟩ := blk_facts k1; obtain ⟨n1, n2, n3, n4, n5⟩ := blk_facts k0; obtain ⟨o1, o2, o3, o4, o5⟩ := blk_facts k2)
           | (go_at_call 108; refine (equal_call _ _ _ _ _ _ _ hce4 hcb4).mono ?_; rintro e w' ⟨rfl, rfl⟩; rw [hB]))
          ((try simp only [Exit.inBlock, Exit.then]); refine bodyPost_ret (rv_list rfl (by simp) (.row (by rfl) agg_Entry siz_Entry (rowAt_put ((n3 0 109).trans (encEntry_row _)) (encEntry_len _)) (.tmp .nil))) rfl ?_)
          have hl4 : Below w.heap.size w w4 := Below.trans hlow (Below.mono (show Below _ wr w4 from hg4) hlow.size)
          exact ⟨by rw [HV.out, HG.out]; simp [hre, hok, errIf], step_below (StepX.putRow (X := fun k => k = w.heap.size) _ _ _ _ rfl) hl4 (Nat.le_refl _) (by intro k hk; omega)⟩
        · go_wp2_with (first
           | (go_at_call 22; refine (hput _ hok _).mono ?_; rintro e w4 ⟨v4, rfl, ho4, hg4⟩; simp only [errIf]; obtain ⟨a4, cp4, rfl, hce4, hlc4, hp4⟩ := ho4.ce EB1; have hcb4 := hcb.grew hg4; have k0 := (hg4.block n5).trans g0; have k1 := (hg4.block m5).trans hfo; have k2 := (hg4.block o5).trans g2; obtain ⟨m1, m2, m3, m4, m5⟩ := blk_facts k1; obtain ⟨n1, n2, n3, n4, n5⟩ := blk_facts k0; obtain ⟨o1, o2, o3, o4, o5⟩ := blk_facts k2)
           | (go_at_call 108; refine (equal_call _ _ _ _ _ _ _ hce4 hcb4).mono ?_; rintro e w' ⟨rfl, rfl⟩; rw [hB]))
          ((try simp only [Exit.inBlock, Exit.then]); refine bodyPost_ret (rv_list rfl (by simp) (.row (by rfl) agg_Entry siz_Entry (rowAt_put ((n3 0 109).trans (encEntry_row _)) (encEntry_len _)) (.tmp .nil))) rfl ?_)
          have hl4 : Below w.heap.size w w4 := Below.trans hlow (Below.mono (show Below _ wr w4 from hg4) hlow.size)
          exact ⟨by rw [HV.out, HG.out]; simp [hre, hok, errIf], step_below (StepX.putRow (X := fun k => k = w.heap.size) _ _ _ _ rfl) hl4 (Nat.le_refl _) (by intro k hk; omega)⟩
end Go.Proofs.YtoajianddmobaaaDoor
