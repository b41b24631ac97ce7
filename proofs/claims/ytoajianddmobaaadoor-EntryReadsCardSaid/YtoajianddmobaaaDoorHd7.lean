/- CONTRACTS: head.GetSigned. -/
import Derived.Test.YtoajianddmobaaaDoorHd6
namespace Go.Proofs.YtoajianddmobaaaDoor
open Go.RowKit
set_option linter.unusedSimpArgs false
set_option linter.unusedVariables false
set_option maxRecDepth 100000

theorem str_bytes2 (s : ByteArray) (w : World) : ∃ w1 cap, (convert 9 22 (.string s)).run Tryd.prog w = .ok (.slice (some ⟨w.heap.size, 0, none⟩) s.size cap) w1 ∧ Grew w w1 ∧ CeR encByte w1 (some ⟨w.heap.size, 0, none⟩) s.data.toList ∧ s.size ≤ cap := by
  obtain ⟨w1, cap, h1, h2, h3⟩ := str_bytes s w
  refine ⟨w1, cap, h1, h2, h3, ?_⟩
  have := Lib.run_convert_string_bytes (P := Tryd.prog) w 9 22 5 s (u := .string) (by kernel_rfl) (by kernel_rfl) (by kernel_rfl)
  rw [h1] at this
  cases this
  exact grownCap_ge w _ 0 _
theorem RowSt.lt {B : Nat → Prop} {w : World} {rb kb : Nat} {l : List ByteArray} {ok : Bool} (h : RowSt B w rb kb l ok) : rb < w.heap.size ∧ kb < w.heap.size := by
  obtain ⟨a, cap, h1, h2, _⟩ := h
  exact ⟨(Array.getElem?_eq_some_iff.1 h1).1, (Array.getElem?_eq_some_iff.1 h2).1⟩
theorem layE_sizes : ∀ (l : List Fld) (last : Int), layE last l = 0 → ∀ f ∈ l, f.data.size ≤ 65536
  | [], _, _, f, hf => by cases hf
  | g :: l, last, h, f, hf => by
    by_cases hm : mayP g.tag last g.data.size = 0
    · rw [layE_ok hm] at h
      rcases List.mem_cons.1 hf with rfl | h2
      · exact (mayP_size hm).1
      · exact layE_sizes l g.tag h f h2
    · rw [layE_bad hm] at h
      exact (hm h).elim
theorem readR_size (b : List UInt8) : ∀ f ∈ readR b, f.data.size ≤ 65536 := by
  by_cases h : readE 0 b = 0
  · exact layE_sizes _ 0 (layR_read h).1
  · intro f hf
    rw [readR, if_neg h] at hf
    cases hf
theorem ofL_size (b : List UInt8) : ∀ s ∈ ofL b, s.size ≤ 65536 := by
  intro s hs
  obtain ⟨f, hf, rfl⟩ := List.mem_map.1 hs
  exact readR_size b f hf
set_option maxHeartbeats 2000000 in
theorem headGetSigned_call (l : List UInt8) (a : Option Addr) (cap : Nat) (w : World) (hs : CeR encByte w a l) (hc : l.length ≤ cap) (hm : l.length ≤ 1000000000) :
    Calls Tryd.prog 62 #[.slice a l.length cap] w fun e w' => e = .returned (.tuple #[.agg (encSigned (signedGet l)), .int .i64 (errIf 70 (signedGood l))]) ∧ Grew w w' := by
  have hsz := ofL_size l
  have hLn : (ofL l).length ≤ 1000000000 := by rw [ofL, List.length_map]; exact Nat.le_trans (readR_len l) hm
  have hOF := fun kb b0 W h1 h2 => of_call l a cap kb b0 W h1 hc hm h2
  have hG : signedGood l = (signedFlag (ofOk l) (ofL l) && headGood (hd (ofL l)).data.toList && (ofL l).tail.tail.tail.isEmpty && within (signedVals (ofL l)).node 1 3) := rfl
  have hV : signedGet l = if signedGood l then signedVals (ofL l) else Signed.zero := rfl
  rw [hV, hG]
  clear hV hG
  generalize ofL l = L at *
  generalize ofOk l = ok0 at *
  obtain ⟨A2, hA2⟩ : ∃ A2, A2 = (w.alloc (.cells (encSigned Signed.zero) 35)).alloc (.cells #[.bool false] 4) := ⟨_, rfl⟩
  have hg0 : Grew w A2 := by rw [hA2]; exact ((Grew.refl w).alloc _).alloc _
  have hz : A2.heap.size = w.heap.size + 2 := by rw [hA2]; simp
  have hce := hs.grew hg0
  have e0 : A2.heap[w.heap.size]? = some (.cells (encSigned Signed.zero) 35 (0, 0)) := by rw [hA2, heap_alloc_old _ _ (by simp)]; exact heap_alloc_new w _
  have e1 : A2.heap[w.heap.size + 1]? = some (.cells #[.bool false] 4 (0, 0)) := by rw [hA2]; exact heap_alloc_at _ (by simp)
  have hO2 := hOF (w.heap.size + 1) false A2 hce e1
  rw [hA2] at hO2
  have hs0 : (hd L).size ≤ 1000000000 := by
    cases L with
    | nil => exact Nat.zero_le _
    | cons s r => exact Nat.le_trans (hsz s (by simp)) (by decide)
  have hsl : (hd L).data.toList.length = (hd L).size := by simp
  have ne6 : w.heap.size ≠ w.heap.size + 1 := by omega
  cases hF : signedFlag ok0 L
  · skip
    go_enter Tryd.func62, Tryd.ntmps62
    go_wp2_with (first
      | (go_at_call 112; refine hO2.mono ?_; rintro e w1 ⟨rb, rfl, hrb, hrs, hst⟩; rw [← hA2] at hrb hrs hst; rw [hz] at hrb hrs)
      | (go_at_call 114; refine (next_call _ _ _ _ _ _ hrs hLn).mono ?_; rintro e w2 ⟨rfl, hrs2, hst2⟩; obtain ⟨w3, cp3, hcv3, hg3, hce3, hcp3⟩ := str_bytes2 (hd L) w2)
      | (go_at_call 113; rw [← hsl]; refine (headGet_call _ _ _ _ hce3 (by omega) (by omega)).mono ?_; rintro e w4 ⟨rfl, hg4⟩; 
          have hzz := hst.size; have hzz2 := hst2.size; have hzz3 := (hg3.trans hg4).le; have hG9 := ((hg3.trans hg4).alloc (.cells (encHead (headGet (hd L).data.toList)) 33)).alloc (.cells (encSigned { head := headGet (hd L).data.toList, node := Signed.zero.node, tag := Signed.zero.tag }) 35); have hs9 := hst2.trans (step_none hG9);
          have hr2 : RdSt w w1.heap.size rb (w.heap.size + 1) (w4.heap.size + 1) w.heap.size 35 _ (encSigned Signed.zero) _ L.tail (ok0 && !L.isEmpty) (encSigned { head := headGet (hd L).data.toList, node := Signed.zero.node, tag := Signed.zero.tag }) := ⟨hrs2.grew hG9, blk_two w4 _ _, step_blk hs9 (step_blk hst e0 (by omega)) (by intro hk; omega), step_below hs9 (step_below hst hg0 (Nat.le_refl _) (by intro k hk; omega)) (Nat.le_refl _) (by intro k hk; omega), (fun k hk => hk.2.1), (by have := hG9.le; omega), (by intro hk; have := hk.2.1; omega), (by have := hrs2.lt.1; omega), (by omega), (by omega), (by omega), (by omega), (by omega), (by omega), (by omega), tail_len hLn⟩;
          obtain ⟨ra, rc, c1, c2, c3, c4, c5, c6, c7, c8, c9, c10⟩ := hr2.facts)
      | (go_at_call 115; refine (RdSt.number (w := w) (by assumption)).mono ?_; rintro e w2 ⟨rfl, hr2⟩; have hr3 := hr2.store 36 (.int .i64 (valN (hd L.tail).data.toList)); simp only [encSigned_set_node] at hr3;
          obtain ⟨ra, rc, c1, c2, c3, c4, c5, c6, c7, c8, c9, c10⟩ := hr2.facts)
      | (go_at_call 116; refine (RdSt.digest (w := w) (by assumption)).mono ?_; rintro e w2 ⟨d, rfl, hr2, hD⟩; have HD := Lib.hid hD; clear hD; have hr5 := hr2.put 37 (encDig d); simp only [encSigned_put_tag] at hr5; rw [signedFlag] at hF; rw [hF] at hr5;
          obtain ⟨ra, rc, c1, c2, c3, c4, c5, c6, c7, c8, c9, c10⟩ := hr2.facts; obtain ⟨qa, qc, b1, b2, b3, b4, b5, b6, b7, b8, b9, b10⟩ := hr5.facts; have ne9 := hr2.ne5))
    ((try simp only [Exit.inBlock, Exit.then]); refine bodyPost_ret (rv_list rfl (by simp) (.row (by rfl) agg_Signed siz_Signed (rowAt_put ((b5 0 69).trans (encSigned_row _)) (encSigned_len _)) (.tmp .nil))) rfl ?_)
    exact ⟨rfl, step_below (StepX.putRow (X := fun k => k = w.heap.size) _ _ _ _ rfl) hr5.low (Nat.le_refl _) (by intro k hk; omega)⟩
  · cases hK : headGood (hd L).data.toList
    · skip
      go_enter Tryd.func62, Tryd.ntmps62
      go_wp2_with (first
        | (go_at_call 112; refine hO2.mono ?_; rintro e w1 ⟨rb, rfl, hrb, hrs, hst⟩; rw [← hA2] at hrb hrs hst; rw [hz] at hrb hrs)
        | (go_at_call 114; refine (next_call _ _ _ _ _ _ hrs hLn).mono ?_; rintro e w2 ⟨rfl, hrs2, hst2⟩; obtain ⟨w3, cp3, hcv3, hg3, hce3, hcp3⟩ := str_bytes2 (hd L) w2)
        | (go_at_call 113; rw [← hsl]; refine (headGet_call _ _ _ _ hce3 (by omega) (by omega)).mono ?_; rintro e w4 ⟨rfl, hg4⟩; rw [hK]; simp only [errIf];
            have hzz := hst.size; have hzz2 := hst2.size; have hzz3 := (hg3.trans hg4).le; have hG9 := ((hg3.trans hg4).alloc (.cells (encHead (headGet (hd L).data.toList)) 33)).alloc (.cells (encSigned { head := headGet (hd L).data.toList, node := Signed.zero.node, tag := Signed.zero.tag }) 35); have hs9 := hst2.trans (step_none hG9);
            have hr2 : RdSt w w1.heap.size rb (w.heap.size + 1) (w4.heap.size + 1) w.heap.size 35 _ (encSigned Signed.zero) _ L.tail (ok0 && !L.isEmpty) (encSigned { head := headGet (hd L).data.toList, node := Signed.zero.node, tag := Signed.zero.tag }) := ⟨hrs2.grew hG9, blk_two w4 _ _, step_blk hs9 (step_blk hst e0 (by omega)) (by intro hk; omega), step_below hs9 (step_below hst hg0 (Nat.le_refl _) (by intro k hk; omega)) (Nat.le_refl _) (by intro k hk; omega), (fun k hk => hk.2.1), (by have := hG9.le; omega), (by intro hk; have := hk.2.1; omega), (by have := hrs2.lt.1; omega), (by omega), (by omega), (by omega), (by omega), (by omega), (by omega), (by omega), tail_len hLn⟩;
            obtain ⟨ra, rc, c1, c2, c3, c4, c5, c6, c7, c8, c9, c10⟩ := hr2.facts)
        | (go_at_call 115; refine (RdSt.number (w := w) (by assumption)).mono ?_; rintro e w2 ⟨rfl, hr2⟩; have hr3 := hr2.store 36 (.int .i64 (valN (hd L.tail).data.toList)); simp only [encSigned_set_node] at hr3;
            obtain ⟨ra, rc, c1, c2, c3, c4, c5, c6, c7, c8, c9, c10⟩ := hr2.facts)
        | (go_at_call 116; refine (RdSt.digest (w := w) (by assumption)).mono ?_; rintro e w2 ⟨d, rfl, hr2, hD⟩; have HD := Lib.hid hD; clear hD; have hr5 := hr2.put 37 (encDig d); simp only [encSigned_put_tag] at hr5; rw [signedFlag] at hF; rw [hF] at hr5;
            obtain ⟨ra, rc, c1, c2, c3, c4, c5, c6, c7, c8, c9, c10⟩ := hr2.facts; obtain ⟨qa, qc, b1, b2, b3, b4, b5, b6, b7, b8, b9, b10⟩ := hr5.facts; have ne9 := hr2.ne5))
      ((try simp only [Exit.inBlock, Exit.then]); refine bodyPost_ret (rv_list rfl (by simp) (.row (by rfl) agg_Signed siz_Signed (rowAt_put ((b5 0 69).trans (encSigned_row _)) (encSigned_len _)) (.tmp .nil))) rfl ?_)
      exact ⟨rfl, step_below (StepX.putRow (X := fun k => k = w.heap.size) _ _ _ _ rfl) hr5.low (Nat.le_refl _) (by intro k hk; omega)⟩
    · by_cases hE : L.tail.tail.tail.length = 0
      · have i1 : L.tail.tail.tail.isEmpty = true := by rw [List.eq_nil_of_length_eq_zero hE]; rfl
        have i2 : L.length - 1 - 1 - 1 = 0 := by simpa only [List.length_tail] using hE
        clear hE
        rw [i1]
        cases hN : within (signedVals L).node 1 3
        · skip
          have hN2 : within (valN (hd L.tail).data.toList) 1 3 = false := hN
          go_enter Tryd.func62, Tryd.ntmps62
          go_wp2_with (first
            | (go_at_call 112; refine hO2.mono ?_; rintro e w1 ⟨rb, rfl, hrb, hrs, hst⟩; rw [← hA2] at hrb hrs hst; rw [hz] at hrb hrs)
            | (go_at_call 114; refine (next_call _ _ _ _ _ _ hrs hLn).mono ?_; rintro e w2 ⟨rfl, hrs2, hst2⟩; obtain ⟨w3, cp3, hcv3, hg3, hce3, hcp3⟩ := str_bytes2 (hd L) w2)
            | (go_at_call 113; rw [← hsl]; refine (headGet_call _ _ _ _ hce3 (by omega) (by omega)).mono ?_; rintro e w4 ⟨rfl, hg4⟩; rw [hK]; simp only [errIf];
                have hzz := hst.size; have hzz2 := hst2.size; have hzz3 := (hg3.trans hg4).le; have hG9 := ((hg3.trans hg4).alloc (.cells (encHead (headGet (hd L).data.toList)) 33)).alloc (.cells (encSigned { head := headGet (hd L).data.toList, node := Signed.zero.node, tag := Signed.zero.tag }) 35); have hs9 := hst2.trans (step_none hG9);
                have hr2 : RdSt w w1.heap.size rb (w.heap.size + 1) (w4.heap.size + 1) w.heap.size 35 _ (encSigned Signed.zero) _ L.tail (ok0 && !L.isEmpty) (encSigned { head := headGet (hd L).data.toList, node := Signed.zero.node, tag := Signed.zero.tag }) := ⟨hrs2.grew hG9, blk_two w4 _ _, step_blk hs9 (step_blk hst e0 (by omega)) (by intro hk; omega), step_below hs9 (step_below hst hg0 (Nat.le_refl _) (by intro k hk; omega)) (Nat.le_refl _) (by intro k hk; omega), (fun k hk => hk.2.1), (by have := hG9.le; omega), (by intro hk; have := hk.2.1; omega), (by have := hrs2.lt.1; omega), (by omega), (by omega), (by omega), (by omega), (by omega), (by omega), (by omega), tail_len hLn⟩;
                obtain ⟨ra, rc, c1, c2, c3, c4, c5, c6, c7, c8, c9, c10⟩ := hr2.facts)
            | (go_at_call 115; refine (RdSt.number (w := w) (by assumption)).mono ?_; rintro e w2 ⟨rfl, hr2⟩; have hr3 := hr2.store 36 (.int .i64 (valN (hd L.tail).data.toList)); simp only [encSigned_set_node] at hr3;
                obtain ⟨ra, rc, c1, c2, c3, c4, c5, c6, c7, c8, c9, c10⟩ := hr2.facts)
            | (go_at_call 116; refine (RdSt.digest (w := w) (by assumption)).mono ?_; rintro e w2 ⟨d, rfl, hr2, hD⟩; have HD := Lib.hid hD; clear hD; have hr5 := hr2.put 37 (encDig d); simp only [encSigned_put_tag] at hr5; rw [signedFlag] at hF; rw [hF] at hr5;
                obtain ⟨ra, rc, c1, c2, c3, c4, c5, c6, c7, c8, c9, c10⟩ := hr2.facts; obtain ⟨qa, qc, b1, b2, b3, b4, b5, b6, b7, b8, b9, b10⟩ := hr5.facts; have ne9 := hr2.ne5)
            | (go_at_call 117; refine (within_2 _ _ _ _).mono ?_; rintro e w' ⟨rfl, rfl⟩; rw [hN2]))
          ((try simp only [Exit.inBlock, Exit.then]); refine bodyPost_ret (rv_list rfl (by simp) (.row (by rfl) agg_Signed siz_Signed (rowAt_put ((b5 0 69).trans (encSigned_row _)) (encSigned_len _)) (.tmp .nil))) rfl ?_)
          exact ⟨rfl, step_below (StepX.putRow (X := fun k => k = w.heap.size) _ _ _ _ rfl) hr5.low (Nat.le_refl _) (by intro k hk; omega)⟩
        · skip
          have hN2 : within (valN (hd L.tail).data.toList) 1 3 = true := hN
          go_enter Tryd.func62, Tryd.ntmps62
          go_wp2_with (first
            | (go_at_call 112; refine hO2.mono ?_; rintro e w1 ⟨rb, rfl, hrb, hrs, hst⟩; rw [← hA2] at hrb hrs hst; rw [hz] at hrb hrs)
            | (go_at_call 114; refine (next_call _ _ _ _ _ _ hrs hLn).mono ?_; rintro e w2 ⟨rfl, hrs2, hst2⟩; obtain ⟨w3, cp3, hcv3, hg3, hce3, hcp3⟩ := str_bytes2 (hd L) w2)
            | (go_at_call 113; rw [← hsl]; refine (headGet_call _ _ _ _ hce3 (by omega) (by omega)).mono ?_; rintro e w4 ⟨rfl, hg4⟩; rw [hK]; simp only [errIf];
                have hzz := hst.size; have hzz2 := hst2.size; have hzz3 := (hg3.trans hg4).le; have hG9 := ((hg3.trans hg4).alloc (.cells (encHead (headGet (hd L).data.toList)) 33)).alloc (.cells (encSigned { head := headGet (hd L).data.toList, node := Signed.zero.node, tag := Signed.zero.tag }) 35); have hs9 := hst2.trans (step_none hG9);
                have hr2 : RdSt w w1.heap.size rb (w.heap.size + 1) (w4.heap.size + 1) w.heap.size 35 _ (encSigned Signed.zero) _ L.tail (ok0 && !L.isEmpty) (encSigned { head := headGet (hd L).data.toList, node := Signed.zero.node, tag := Signed.zero.tag }) := ⟨hrs2.grew hG9, blk_two w4 _ _, step_blk hs9 (step_blk hst e0 (by omega)) (by intro hk; omega), step_below hs9 (step_below hst hg0 (Nat.le_refl _) (by intro k hk; omega)) (Nat.le_refl _) (by intro k hk; omega), (fun k hk => hk.2.1), (by have := hG9.le; omega), (by intro hk; have := hk.2.1; omega), (by have := hrs2.lt.1; omega), (by omega), (by omega), (by omega), (by omega), (by omega), (by omega), (by omega), tail_len hLn⟩;
                obtain ⟨ra, rc, c1, c2, c3, c4, c5, c6, c7, c8, c9, c10⟩ := hr2.facts)
            | (go_at_call 115; refine (RdSt.number (w := w) (by assumption)).mono ?_; rintro e w2 ⟨rfl, hr2⟩; have hr3 := hr2.store 36 (.int .i64 (valN (hd L.tail).data.toList)); simp only [encSigned_set_node] at hr3;
                obtain ⟨ra, rc, c1, c2, c3, c4, c5, c6, c7, c8, c9, c10⟩ := hr2.facts)
            | (go_at_call 116; refine (RdSt.digest (w := w) (by assumption)).mono ?_; rintro e w2 ⟨d, rfl, hr2, hD⟩; have HD := Lib.hid hD; clear hD; have hr5 := hr2.put 37 (encDig d); simp only [encSigned_put_tag] at hr5; rw [signedFlag] at hF; rw [hF] at hr5;
                obtain ⟨ra, rc, c1, c2, c3, c4, c5, c6, c7, c8, c9, c10⟩ := hr2.facts; obtain ⟨qa, qc, b1, b2, b3, b4, b5, b6, b7, b8, b9, b10⟩ := hr5.facts; have ne9 := hr2.ne5)
            | (go_at_call 117; refine (within_2 _ _ _ _).mono ?_; rintro e w' ⟨rfl, rfl⟩; rw [hN2]))
          have hd2 := HD.out hF
          subst hd2
          ((try simp only [Exit.inBlock, Exit.then]); refine bodyPost_ret (rv_list rfl (by simp) (.row (by rfl) agg_Signed siz_Signed (rowAt_put ((b5 0 69).trans (encSigned_row _)) (encSigned_len _)) (.tmp .nil))) rfl ?_)
          exact ⟨rfl, step_below (StepX.putRow (X := fun k => k = w.heap.size) _ _ _ _ rfl) hr5.low (Nat.le_refl _) (by intro k hk; omega)⟩
      · have i1 : L.tail.tail.tail.isEmpty = false := by rw [← Bool.not_eq_true, List.isEmpty_iff]; intro h; rw [h] at hE; exact hE rfl
        have i2 : ¬ (L.length - 1 - 1 - 1 = 0) := by simpa only [List.length_tail] using hE
        rw [i1]
        clear hE
        go_enter Tryd.func62, Tryd.ntmps62
        go_wp2_with (first
          | (go_at_call 112; refine hO2.mono ?_; rintro e w1 ⟨rb, rfl, hrb, hrs, hst⟩; rw [← hA2] at hrb hrs hst; rw [hz] at hrb hrs)
          | (go_at_call 114; refine (next_call _ _ _ _ _ _ hrs hLn).mono ?_; rintro e w2 ⟨rfl, hrs2, hst2⟩; obtain ⟨w3, cp3, hcv3, hg3, hce3, hcp3⟩ := str_bytes2 (hd L) w2)
          | (go_at_call 113; rw [← hsl]; refine (headGet_call _ _ _ _ hce3 (by omega) (by omega)).mono ?_; rintro e w4 ⟨rfl, hg4⟩; rw [hK]; simp only [errIf];
              have hzz := hst.size; have hzz2 := hst2.size; have hzz3 := (hg3.trans hg4).le; have hG9 := ((hg3.trans hg4).alloc (.cells (encHead (headGet (hd L).data.toList)) 33)).alloc (.cells (encSigned { head := headGet (hd L).data.toList, node := Signed.zero.node, tag := Signed.zero.tag }) 35); have hs9 := hst2.trans (step_none hG9);
              have hr2 : RdSt w w1.heap.size rb (w.heap.size + 1) (w4.heap.size + 1) w.heap.size 35 _ (encSigned Signed.zero) _ L.tail (ok0 && !L.isEmpty) (encSigned { head := headGet (hd L).data.toList, node := Signed.zero.node, tag := Signed.zero.tag }) := ⟨hrs2.grew hG9, blk_two w4 _ _, step_blk hs9 (step_blk hst e0 (by omega)) (by intro hk; omega), step_below hs9 (step_below hst hg0 (Nat.le_refl _) (by intro k hk; omega)) (Nat.le_refl _) (by intro k hk; omega), (fun k hk => hk.2.1), (by have := hG9.le; omega), (by intro hk; have := hk.2.1; omega), (by have := hrs2.lt.1; omega), (by omega), (by omega), (by omega), (by omega), (by omega), (by omega), (by omega), tail_len hLn⟩;
              obtain ⟨ra, rc, c1, c2, c3, c4, c5, c6, c7, c8, c9, c10⟩ := hr2.facts)
          | (go_at_call 115; refine (RdSt.number (w := w) (by assumption)).mono ?_; rintro e w2 ⟨rfl, hr2⟩; have hr3 := hr2.store 36 (.int .i64 (valN (hd L.tail).data.toList)); simp only [encSigned_set_node] at hr3;
              obtain ⟨ra, rc, c1, c2, c3, c4, c5, c6, c7, c8, c9, c10⟩ := hr2.facts)
          | (go_at_call 116; refine (RdSt.digest (w := w) (by assumption)).mono ?_; rintro e w2 ⟨d, rfl, hr2, hD⟩; have HD := Lib.hid hD; clear hD; have hr5 := hr2.put 37 (encDig d); simp only [encSigned_put_tag] at hr5; rw [signedFlag] at hF; rw [hF] at hr5;
              obtain ⟨ra, rc, c1, c2, c3, c4, c5, c6, c7, c8, c9, c10⟩ := hr2.facts; obtain ⟨qa, qc, b1, b2, b3, b4, b5, b6, b7, b8, b9, b10⟩ := hr5.facts; have ne9 := hr2.ne5))
        ((try simp only [Exit.inBlock, Exit.then]); refine bodyPost_ret (rv_list rfl (by simp) (.row (by rfl) agg_Signed siz_Signed (rowAt_put ((b5 0 69).trans (encSigned_row _)) (encSigned_len _)) (.tmp .nil))) rfl ?_)
        exact ⟨rfl, step_below (StepX.putRow (X := fun k => k = w.heap.size) _ _ _ _ rfl) hr5.low (Nat.le_refl _) (by intro k hk; omega)⟩
end Go.Proofs.YtoajianddmobaaaDoor
