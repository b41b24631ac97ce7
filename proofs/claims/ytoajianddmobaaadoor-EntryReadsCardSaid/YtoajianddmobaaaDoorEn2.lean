/- CONTRACTS: entry.PutClaim, Put, PutItem. -/
import Derived.Test.YtoajianddmobaaaDoorEn
namespace Go.Proofs.YtoajianddmobaaaDoor
open Go.RowKit
set_option linter.unusedSimpArgs false
set_option linter.unusedVariables false
set_option maxRecDepth 100000

set_option maxHeartbeats 1000000 in
theorem putClaim_call (c : Claim) (w : World) : Calls Tryd.prog 21 #[.agg (encClaim c)] w fun e w' => ∃ v, e = .returned (.tuple #[v, .int .i64 (errIf 60 c.ok)]) ∧ OwnB w.heap.size w' v (claimB c) ∧ Grew w w' := by
  have hb0 := heap_alloc_new w (.cells (encClaim c) 27)
  cases hok : c.ok
  · go_enter Tryd.func21, Tryd.ntmps21
    go_wp2_with (go_at_call 70; refine (checkClaim_call _ _).mono ?_; rintro e w1 ⟨rfl, hg1⟩; rw [hok]; simp only [told])
    go_ret2
    refine ⟨_, rfl, ?_, by (repeat (first | exact Grew.refl _ | refine Grew.alloc ?_ _ | refine Grew.drew ?_ | refine Grew.after (by assumption) ?_ | refine Grew.after (Old.grew (by assumption)) ?_))⟩
    rw [claimB, if_neg (by simp [hok])]; exact OwnL.nil
  · have hlay : layE 0 (rowFrom 0 (claimRow c)) = 0 := by simpa using rowFrom_lay (claimRow c) 0 (by simp [claimRow]) (claim_row_ok c)
    go_enter Tryd.func21, Tryd.ntmps21
    go_wp2_with (go_at_call 70; refine (checkClaim_call _ _).mono ?_; rintro e w1 ⟨rfl, hg1⟩; rw [hok]; simp only [told]; have hb1 := (hg1.block (by simp)).trans hb0; obtain ⟨c1, c2, c3, c4, c5⟩ := blk_facts hb1)
    have hints : (((w1.alloc (.cells #[.slice none 0 0] 112)).alloc (.cells #[.int .i64 c.region, .int .i64 c.epoch, .int .i64 c.node, .int .i64 c.size] 3))).heap[w1.heap.size + 1]? = _ := blk_two w1 _ _
    have hsz1 : (((w1.alloc (.cells #[.slice none 0 0] 112)).alloc (.cells #[.int .i64 c.region, .int .i64 c.epoch, .int .i64 c.node, .int .i64 c.size] 3))).heap.size = w1.heap.size + 2 := by simp
    have hbox : FldsOwn (w1.heap.size + 2) ((w1.alloc (.cells #[.slice none 0 0] 112)).alloc (.cells #[.int .i64 c.region, .int .i64 c.epoch, .int .i64 c.node, .int .i64 c.size] 3)) w1.heap.size [] :=
      ⟨_, (heap_alloc_old _ _ (by simp)).trans (heap_alloc_new w1 _), OwnL.nil, by omega, by omega⟩
    have hG1 : Grew w ((w1.alloc (.cells #[.slice none 0 0] 112)).alloc (.cells #[.int .i64 c.region, .int .i64 c.epoch, .int .i64 c.node, .int .i64 c.size] 3)) := ((((Grew.refl w).alloc _).trans hg1).alloc _).alloc _
    have hcl : ((w1.alloc (.cells #[.slice none 0 0] 112)).alloc (.cells #[.int .i64 c.region, .int .i64 c.epoch, .int .i64 c.node, .int .i64 c.size] 3)).heap[w.heap.size]? = _ := (heap_alloc_old _ _ (by simp; omega)).trans ((heap_alloc_old _ _ c5).trans hb1)
    obtain ⟨ns, hns⟩ : ∃ ns : List Int, ns = [c.region, c.epoch, c.node, c.size] := ⟨_, rfl⟩
    have hnl : ns.length = 4 := by rw [hns]; rfl
    have hce : CeR (fun n : Int => Value.int .i64 n) ((w1.alloc (.cells #[.slice none 0 0] 112)).alloc (.cells #[.int .i64 c.region, .int .i64 c.epoch, .int .i64 c.node, .int .i64 c.size] 3)) (some ⟨w1.heap.size + 1, 0, none⟩) ns := by
      refine .inr ⟨_, 0, rfl, by rw [hsz1]; omega, fun k x hx => ?_⟩
      rw [hns] at hx
      rw [(blk_facts hints).1]
      have hk : k < 4 := (List.getElem?_eq_some_iff.1 hx).1
      have : k = 0 ∨ k = 1 ∨ k = 2 ∨ k = 3 := by omega
      rcases this with rfl | rfl | rfl | rfl <;> simp_all
    have hrow : claimRow c = ns.map (fun n => str (numB n)) ++ [str c.root.toList] := by rw [hns]; rfl
    clear hns
    generalize (w1.alloc (.cells #[.slice none 0 0] 112)).alloc (.cells #[.int .i64 c.region, .int .i64 c.epoch, .int .i64 c.node, .int .i64 c.size] 3) = W1 at *
    go_loopw [6, 7, 23] (fun _ _ i_ wr => ∃ (k : Nat), k ≤ 4 ∧ i_ = .int .i64 k ∧ FldsOwn (w1.heap.size + 2) wr w1.heap.size (rowFrom 0 ((ns.map fun n => str (numB n)).take k)) ∧ StepX (fun k => k = w1.heap.size ∨ w1.heap.size + 2 ≤ k) W1 wr) (fun _ _ i _ => 4 - (intOf i).toNat)
    case atStart => exact ⟨0, Nat.zero_le _, rfl, by simpa [rowFrom] using hbox, step_none (Grew.refl _)⟩
    case round =>
      obtain ⟨k, hk, rfl, hfo, hst⟩ := hrel
      by_cases hlt : k < 4
      · have hcx := (hce.stepX hst (fun p hp => by cases hp; show ¬ (_ ∨ _); simp only []; omega)).at (k := k) (x := ns[k]) (by simp [hnl, hlt])
        obtain ⟨b, off, hbo, hbb, hcx⟩ := hcx
        cases hbo
        rw [Nat.zero_add] at hcx
        have hsn := take_snoc (ns.map fun n => str (numB n)) k (by simp [hnl, hlt])
        rw [List.getElem_map] at hsn
        have hl9 : (rowFrom 0 ((ns.map fun n => str (numB n)).take k)).length ≤ 1000000 := by rw [rowFrom_len, List.length_take, List.length_map]; omega
        have hl8 : ((ns.map fun n => str (numB n)).take k).length = k := by rw [List.length_take, List.length_map]; omega
        generalize ns[k] = n at hcx hsn
        have Hsn := Lib.hid hsn; clear hsn
        have Hl8 := Lib.hid hl8; clear hl8
        have kw : IntKind.i64.wrap ((k : Int) + 1) = (k : Int) + 1 := IntWalk.i64_in _ (by omega)
        go_wp2_with (go_at_call 71; refine (flds_n_call _ _ _ _ _ _ hfo hl9).mono ?_; rintro e w2 ⟨rfl, hr2, hs2⟩)
        refine ⟨⟨k + 1, by omega, by go_num, ?_, hst.trans hs2⟩, by simp [intOf]; omega⟩
        rw [Hsn.out, rowFrom_snoc, Hl8.out, Nat.zero_add]
        exact hr2
      · have hk9 : k = 4 := by omega
        have hd0 : decide (k < 4) = false := decide_eq_false hlt
        have ht9 : (ns.map fun n => str (numB n)).take k = ns.map fun n => str (numB n) := List.take_of_length_le (by rw [List.length_map]; omega)
        rw [ht9] at hfo
        have Hcl := Lib.hid hcl
        have hb2 := step_blk hst hcl (by omega)
        obtain ⟨c1, c2, c3, c4, c5⟩ := blk_facts hb2
        have hcv := dig_str (b := w.heap.size) (off := 4) (d := c.root) (by rw [rowAt_of hb2]; exact encClaim_row_root c) 32
        have hlen9 : (rowFrom 0 (ns.map fun n => str (numB n))).length ≤ 1000000 := by rw [rowFrom_len, List.length_map]; omega
        have hfull : rowFrom 0 (ns.map fun n => str (numB n)) ++ [⟨5, str c.root.toList⟩] = rowFrom 0 (claimRow c) := by
          rw [hrow, rowFrom_snoc, List.length_map, hnl]; rfl
        have hlen8 : (rowFrom 0 (claimRow c)).length ≤ 1000000 := by rw [rowFrom_len]; simp [claimRow]
        have HT := Lib.hid ht9; clear ht9
        have HR := Lib.hid hrow; clear hrow
        go_wp2_with (first
          | (go_at_call 72; refine (flds_s_call _ _ _ _ _ _ hfo hlen9).mono ?_; rintro e w2 ⟨rfl, hr2, hs2⟩; rw [hfull] at hr2; have hr3 := hr2; obtain ⟨v, hvb, hvo, h8, h9⟩ := hr3; obtain ⟨av, cv, rfl, hsl, hlc, hnv, hpv⟩ := hvo.form F1 (by omega); have HPV := Lib.hid hpv; clear hpv; obtain ⟨d1, d2, d3, d4, d5⟩ := blk_facts hvb; have d0 := cell_blk hvb)
          | (go_at_call 73; refine (flds_bytes_call _ _ _ _ hsl hlen8).mono ?_; rintro e w3 ⟨v3, rfl, ho3, hg3⟩; rw [hlay]))
        go_ret2
        have hL : Below w.heap.size w w2 := step_below hs2 (step_below hst hG1 (Nat.le_refl _) (by intro k hk; have := hg1.le; simp at this; omega)) (Nat.le_refl _) (by intro k hk; have := hg1.le; simp at this; omega)
        refine ⟨_, rfl, ?_, Below.trans hL (Below.mono hg3 hL.size)⟩
        rw [claimB, if_pos hok]
        exact ho3.mono hL.size
end Go.Proofs.YtoajianddmobaaaDoor
