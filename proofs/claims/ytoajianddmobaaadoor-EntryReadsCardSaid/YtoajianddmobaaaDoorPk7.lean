/- CONTRACTS: the program's Get. -/
import Derived.Test.YtoajianddmobaaaDoorPk6
namespace Go.Proofs.YtoajianddmobaaaDoor
open Go.RowKit
set_option linter.unusedSimpArgs false
set_option linter.unusedVariables false
set_option maxRecDepth 100000

theorem or16 (x y : Int) (h0 : 0 ≤ x) (h1 : x % 65536 = 0) (h2 : x < 9223372036854775808) (h3 : 0 ≤ y) (h4 : y < 65536) : bits .or .i64 x y = x + y :=
  bits_join .i64 63 (by decide) wrap_i64 16 x y h0 (by simpa using h1) (by omega) h3 (by simpa using h4) (by omega)
theorem getN_or (b1 b2 b3 : UInt8) : bits .or .i64 (bits .or .i64 ((b1.toNat : Int) * 65536) ((b2.toNat : Int) * 256)) (b3.toNat : Int) = (getN b1 b2 b3 : Int) := by
  have l1 := byte_lt b1
  have l2 := byte_lt b2
  have l3 := byte_lt b3
  rw [or16 ((b1.toNat : Int) * 65536) ((b2.toNat : Int) * 256) (by omega) (by omega) (by omega) (by omega) (by omega),
    or8 ((b1.toNat : Int) * 65536 + (b2.toNat : Int) * 256) (b3.toNat : Int) (by omega) (by omega) (by omega) (by omega) (by omega)]
  unfold getN
  omega
theorem get_short (a : Option Addr) (L cap : Nat) (w : World) (h : L < 4) :
    Calls Tryd.prog 174 #[.slice a L cap] w fun e w' => e = retG (Fld.zero, 0, 10) ∧ Grew w w' := by
  have h1 : (L : Int) < 4 := by omega
  go_enter Tryd.func174, Tryd.ntmps174
  go_wp2
  ((try simp only [Exit.inBlock, Exit.then]); refine bodyPost_ret (rv_list rfl (by simp) (.row (by rfl) agg_Field siz_Field (by rw [rowAt_alloc_at rfl]; exact encFld_row _) (.tmp (.tmp .nil)))) rfl ?_)
  exact ⟨rfl, by (repeat (first | exact Grew.refl _ | refine Grew.alloc ?_ _ | refine Grew.drew ?_ | refine Grew.after (by assumption) ?_ | refine Grew.after (Old.grew (by assumption)) ?_))⟩
set_option maxHeartbeats 2000000 in
theorem get_long (t b1 b2 b3 : UInt8) (r : List UInt8) (a : Option Addr) (cap : Nat) (w : World) (hs : CeR encByte w a (t :: b1 :: b2 :: b3 :: r)) (hc : r.length + 4 ≤ cap) (hm : r.length ≤ 1000000000000) :
    Calls Tryd.prog 174 #[.slice a (r.length + 4) cap] w fun e w' => e = retG (getR (t :: b1 :: b2 :: b3 :: r)) ∧ Grew w w' := by
  obtain ⟨b, off, rfl, hb, hc0⟩ := hs.at (k := 0) rfl
  have hc0 : w.cell? ⟨b, off, none⟩ = some (encByte t) := hc0
  have hc1 : w.cell? ⟨b, off + 1, none⟩ = some (encByte b1) := by obtain ⟨_, _, e, _, h⟩ := hs.at (k := 1) rfl; cases e; exact h
  have hc2 : w.cell? ⟨b, off + 2, none⟩ = some (encByte b2) := by obtain ⟨_, _, e, _, h⟩ := hs.at (k := 2) rfl; cases e; exact h
  have hc3 : w.cell? ⟨b, off + 3, none⟩ = some (encByte b3) := by obtain ⟨_, _, e, _, h⟩ := hs.at (k := 3) rfl; cases e; exact h
  have hL4 : ¬ ((r.length : Int) + 4 < 4) := by omega
  have l1 := byte_lt b1
  have l2 := byte_lt b2
  have l3 := byte_lt b3
  obtain ⟨N, hN⟩ : ∃ N, N = getN b1 b2 b3 := ⟨_, rfl⟩
  have hNi : bits .or .i64 (bits .or .i64 ((b1.toNat : Int) * 65536) ((b2.toNat : Int) * 256)) (b3.toNat : Int) = (N : Int) := by rw [hN]; exact getN_or b1 b2 b3
  by_cases ht : t = 0
  · have hz : ((t.toNat : Int) == 0) = true := by subst ht; rfl
    have hres : getR (t :: b1 :: b2 :: b3 :: r) = (Fld.zero, 0, 11) := by simp [getR, ht]
    rw [hres]
    clear ht hres
    go_enter Tryd.func174, Tryd.ntmps174
    go_wp2
    refine wp_region_det (fun w' => Old (w.alloc (.cells (encFld Fld.zero) 87)) w') Grew (by kernel_rfl) (by kernel_rfl) Grew.refl (fun _ _ h g => Old.step h g) (Old.of (Grew.refl _).drew) ?_
    repeat (first | (refine TD.skip rfl ?_; simp only [Act.put, List.setIfInBounds_toArray, List.set_cons_zero, List.set_cons_succ]) | (refine' TD.det rfl ?_ ?_; rotate_left; (focus (intro K w9 hS hK; go_wp2_with fail; first | exact Grew.refl _ | assumption | exact (Grew.refl _).alloc _)); simp only [Act.put, List.setIfInBounds_toArray, List.set_cons_zero, List.set_cons_succ]))
    refine TD.done (fun w8 hS => ?_)
    go_wp2
    have q0 : w8.rowAt w.heap.size 0 2 = some (encFld Fld.zero) := (hS.2.2.1 _ _ _ (by simp)).trans (by rw [rowAt_alloc_at rfl]; exact encFld_row _)
    ((try simp only [Exit.inBlock, Exit.then]); refine bodyPost_ret (rv_list rfl (by simp) (.row (by rfl) agg_Field siz_Field (rowAt_put q0 (encFld_len _)) (.tmp (.tmp .nil)))) rfl ?_)
    exact ⟨rfl, (((Grew.refl w).alloc _).trans hS.grew).putRow (Nat.le_refl _) _ _⟩
  · have hz : ((t.toNat : Int) == 0) = false := by
      rw [beq_eq_false_iff_ne]; intro e; exact ht (UInt8.toNat_inj.1 (by simpa using e))
    by_cases hbig : 65536 < N
    · have hres : getR (t :: b1 :: b2 :: b3 :: r) = (Fld.zero, 0, 11) := by simp [getR, ← hN, hbig]
      rw [hres]
      clear hres hN
      go_enter Tryd.func174, Tryd.ntmps174
      go_wp2
      refine wp_region_det (fun w' => Old (w.alloc (.cells (encFld Fld.zero) 87)) w') Grew (by kernel_rfl) (by kernel_rfl) Grew.refl (fun _ _ h g => Old.step h g) (Old.of (Grew.refl _).drew) ?_
      repeat (first | (refine TD.skip rfl ?_; simp only [Act.put, List.setIfInBounds_toArray, List.set_cons_zero, List.set_cons_succ]) | (refine' TD.det rfl ?_ ?_; rotate_left; (focus (intro K w9 hS hK; go_wp2_with fail; first | exact Grew.refl _ | assumption | exact (Grew.refl _).alloc _)); simp only [Act.put, List.setIfInBounds_toArray, List.set_cons_zero, List.set_cons_succ]))
      refine TD.done (fun w8 hS => ?_)
      go_wp2
      have q0 : w8.rowAt w.heap.size 0 2 = some (encFld Fld.zero) := (hS.2.2.1 _ _ _ (by simp)).trans (by rw [rowAt_alloc_at rfl]; exact encFld_row _)
      ((try simp only [Exit.inBlock, Exit.then]); refine bodyPost_ret (rv_list rfl (by simp) (.row (by rfl) agg_Field siz_Field (rowAt_put q0 (encFld_len _)) (.tmp (.tmp .nil)))) rfl ?_)
      exact ⟨rfl, (((Grew.refl w).alloc _).trans hS.grew).putRow (Nat.le_refl _) _ _⟩
    · by_cases hend : r.length < N
      · have hres : getR (t :: b1 :: b2 :: b3 :: r) = (Fld.zero, 0, 10) := by simp [getR, ← hN, hbig, hend, ht]
        rw [hres]
        clear hres hN
        have he2 : (r.length : Int) + 4 - 4 < (N : Int) := by omega
        go_enter Tryd.func174, Tryd.ntmps174
        go_wp2
        refine wp_region_det (fun w' => Old (w.alloc (.cells (encFld Fld.zero) 87)) w') Grew (by kernel_rfl) (by kernel_rfl) Grew.refl (fun _ _ h g => Old.step h g) (Old.of (Grew.refl _).drew) ?_
        repeat (first | (refine TD.skip rfl ?_; simp only [Act.put, List.setIfInBounds_toArray, List.set_cons_zero, List.set_cons_succ]) | (refine' TD.det rfl ?_ ?_; rotate_left; (focus (intro K w9 hS hK; go_wp2_with fail; first | exact Grew.refl _ | assumption | exact (Grew.refl _).alloc _)); simp only [Act.put, List.setIfInBounds_toArray, List.set_cons_zero, List.set_cons_succ]))
        refine TD.done (fun w8 hS => ?_)
        go_wp2
        have q0 : w8.rowAt w.heap.size 0 2 = some (encFld Fld.zero) := (hS.2.2.1 _ _ _ (by simp)).trans (by rw [rowAt_alloc_at rfl]; exact encFld_row _)
        ((try simp only [Exit.inBlock, Exit.then]); refine bodyPost_ret (rv_list rfl (by simp) (.row (by rfl) agg_Field siz_Field (rowAt_put q0 (encFld_len _)) (.tmp (.tmp .nil)))) rfl ?_)
        exact ⟨rfl, (((Grew.refl w).alloc _).trans hS.grew).putRow (Nat.le_refl _) _ _⟩
      · have hres : getR (t :: b1 :: b2 :: b3 :: r) = (⟨t.toNat, str (r.take N)⟩, 4 + N, 0) := by simp [getR, ← hN, hbig, hend, ht]
        rw [hres]
        clear hres hN
        have he2 : ¬ ((r.length : Int) + 4 - 4 < (N : Int)) := by omega
        have hs4 : CeR encByte w (some ⟨b, off + 4, none⟩) (r.take N) := (CeR.drop hs rfl 4).take N (by simp)
        have hN4 : (r.take N).length = N := by rw [List.length_take]; omega
        have hbn : b ≠ w.heap.size := by omega
        have i0 : (0 : Int) < (r.length : Int) + 4 := by omega
        have i1 : IntKind.i64.wrap (4 + (N : Int)) = 4 + (N : Int) := IntWalk.i64_in _ (by omega)
        have i2 : (4 : Int) ≤ 4 + (N : Int) := by omega
        have i4 : (4 + (N : Int)).toNat = 4 + N := by omega
        have i5 : 4 + N - 4 = N := by omega
        have i6 := byte_wrap t
        rcases Nat.eq_or_lt_of_le (show 4 ≤ cap by omega) with hcap | hcap
        · subst hcap
          have hz4 : CeR encByte w (some ⟨b, off, none⟩) (r.take N) := by
            rw [show r.take N = [] from List.eq_nil_of_length_eq_zero (by omega)]
            exact hs.take 0 (by simp)
          have hcv : ∀ w', Grew w w' → (convert 22 9 (.slice (some ⟨b, off, none⟩) N 0)).run Tryd.prog w' = .ok (.string (str (r.take N))) w' := fun w' g => by
            have := bytes_str (hz4.grew g) 0
            rwa [hN4] at this
          have i3 : 4 + (N : Int) ≤ (4 : Int) := by omega
          go_enter Tryd.func174, Tryd.ntmps174
          go_wp2
          refine wp_region_det (fun w' => Old (w.alloc (.cells (encFld Fld.zero) 87)) w') Grew (by kernel_rfl) (by kernel_rfl) Grew.refl (fun _ _ h g => Old.step h g) (Old.of (Grew.refl _).drew) ?_
          repeat (first | (refine TD.skip rfl ?_; simp only [Act.put, List.setIfInBounds_toArray, List.set_cons_zero, List.set_cons_succ]) | (refine' TD.det rfl ?_ ?_; rotate_left; (focus (intro K w9 hS hK; go_wp2_with fail; first | exact Grew.refl _ | assumption | exact (Grew.refl _).alloc _)); simp only [Act.put, List.setIfInBounds_toArray, List.set_cons_zero, List.set_cons_succ]))
          refine TD.done (fun w8 hS => ?_)
          go_wp2
          have q0 : w8.rowAt w.heap.size 0 2 = some (encFld Fld.zero) := (hS.2.2.1 _ _ _ (by simp)).trans (by rw [rowAt_alloc_at rfl]; exact encFld_row _)
          have q1 : w8.freeAt w.heap.size = true := (hS.2.2.2.1 _ (by simp)).trans (by rw [freeAt_alloc_at rfl])
          have g8 : Grew w w8 := ((Grew.refl w).alloc _).trans hS.grew
          have q2 := (g8.facts.1 _ off hb).trans hc0
          have q3 := g8.facts.2.2.2.2 _ hb
          have hcv8 := hcv _ g8.drew
          have q0' : (w8.drew.rowAt w.heap.size 0 2).isSome = true := by show (w8.rowAt w.heap.size 0 2).isSome = true; rw [q0]; rfl
          have p0 : ∀ x : Fld, ((w8.drew.putRow w.heap.size 0 (encFld x)).rowAt w.heap.size 0 2).isSome = true := fun x => by rw [rowAt_put (show w8.drew.rowAt w.heap.size 0 2 = _ from q0) (encFld_len x)]; rfl
          have p1 : ∀ x : Fld, (w8.drew.putRow w.heap.size 0 (encFld x)).freeAt w.heap.size = true := fun x => freeAt_put q1
          have p2 : ∀ x : Fld, (w8.drew.putRow w.heap.size 0 (encFld x)).cell? ⟨b, off, none⟩ = some (encByte t) := fun x => (cell_put_far hbn).trans q2
          have pg : ∀ x : Fld, Grew w (w8.drew.putRow w.heap.size 0 (encFld x)) := fun x => g8.drew.putRow (Nat.le_refl _) _ _
          go_region_held3 (fun w' => w'.cell? ⟨b, off, none⟩ = some (encByte t) ∧ (w'.rowAt w.heap.size 0 2).isSome = true ∧ w'.freeAt w.heap.size = true ∧ (convert 22 9 (.slice (some ⟨b, off, none⟩) N 0)).run Tryd.prog w' = .ok (.string (str (r.take N))) w' ∧ b < w'.heap.size)
            (refine ⟨?_, ?_, ?_, ?_, ?_⟩ <;> first | exact q2 | exact q0' | exact q1 | exact hcv8 | exact q3 | exact p0 ⟨_, _⟩ | exact p1 ⟨_, _⟩ | exact p2 ⟨_, _⟩ | exact hcv _ (pg ⟨_, _⟩) | exact (pg ⟨_, _⟩).facts.2.2.2.2 _ hb)
            (fail)
          go_wp2
          ((try simp only [Exit.inBlock, Exit.then]); refine bodyPost_ret (rv_list rfl (by simp) (.row (by rfl) agg_Field siz_Field (rowAt_put (show w8.drew.rowAt w.heap.size 0 2 = _ from q0) (encFld_len _)) (.tmp (.tmp .nil)))) rfl ?_)
          exact ⟨by simp only [i6, retG]; rfl, pg ⟨_, _⟩⟩
        · have hcv : ∀ w', Grew w w' → (convert 22 9 (.slice (some ⟨b, off + 4, none⟩) N (cap - 4))).run Tryd.prog w' = .ok (.string (str (r.take N))) w' := fun w' g => by
            have := bytes_str (hs4.grew g) (cap - 4)
            rwa [hN4] at this
          have i3 : 4 + (N : Int) ≤ (cap : Int) := by omega
          have i7 : ¬ cap = 4 := by omega
          have i8 : ¬ cap - 4 = 0 := by omega
          have i9 : (cap == 4) = false := by simp; omega
          go_enter Tryd.func174, Tryd.ntmps174
          go_wp2
          refine wp_region_det (fun w' => Old (w.alloc (.cells (encFld Fld.zero) 87)) w') Grew (by kernel_rfl) (by kernel_rfl) Grew.refl (fun _ _ h g => Old.step h g) (Old.of (Grew.refl _).drew) ?_
          repeat (first | (refine TD.skip rfl ?_; simp only [Act.put, List.setIfInBounds_toArray, List.set_cons_zero, List.set_cons_succ]) | (refine' TD.det rfl ?_ ?_; rotate_left; (focus (intro K w9 hS hK; go_wp2_with fail; first | exact Grew.refl _ | assumption | exact (Grew.refl _).alloc _)); simp only [Act.put, List.setIfInBounds_toArray, List.set_cons_zero, List.set_cons_succ]))
          refine TD.done (fun w8 hS => ?_)
          go_wp2
          have q0 : w8.rowAt w.heap.size 0 2 = some (encFld Fld.zero) := (hS.2.2.1 _ _ _ (by simp)).trans (by rw [rowAt_alloc_at rfl]; exact encFld_row _)
          have q1 : w8.freeAt w.heap.size = true := (hS.2.2.2.1 _ (by simp)).trans (by rw [freeAt_alloc_at rfl])
          have g8 : Grew w w8 := ((Grew.refl w).alloc _).trans hS.grew
          have q2 := (g8.facts.1 _ off hb).trans hc0
          have q3 := g8.facts.2.2.2.2 _ hb
          have hcv8 := hcv _ g8.drew
          have q0' : (w8.drew.rowAt w.heap.size 0 2).isSome = true := by show (w8.rowAt w.heap.size 0 2).isSome = true; rw [q0]; rfl
          have p0 : ∀ x : Fld, ((w8.drew.putRow w.heap.size 0 (encFld x)).rowAt w.heap.size 0 2).isSome = true := fun x => by rw [rowAt_put (show w8.drew.rowAt w.heap.size 0 2 = _ from q0) (encFld_len x)]; rfl
          have p1 : ∀ x : Fld, (w8.drew.putRow w.heap.size 0 (encFld x)).freeAt w.heap.size = true := fun x => freeAt_put q1
          have p2 : ∀ x : Fld, (w8.drew.putRow w.heap.size 0 (encFld x)).cell? ⟨b, off, none⟩ = some (encByte t) := fun x => (cell_put_far hbn).trans q2
          have pg : ∀ x : Fld, Grew w (w8.drew.putRow w.heap.size 0 (encFld x)) := fun x => g8.drew.putRow (Nat.le_refl _) _ _
          go_region_held3 (fun w' => w'.cell? ⟨b, off, none⟩ = some (encByte t) ∧ (w'.rowAt w.heap.size 0 2).isSome = true ∧ w'.freeAt w.heap.size = true ∧ (convert 22 9 (.slice (some ⟨b, off + 4, none⟩) N (cap - 4))).run Tryd.prog w' = .ok (.string (str (r.take N))) w' ∧ b < w'.heap.size)
            (refine ⟨?_, ?_, ?_, ?_, ?_⟩ <;> first | exact q2 | exact q0' | exact q1 | exact hcv8 | exact q3 | exact p0 ⟨_, _⟩ | exact p1 ⟨_, _⟩ | exact p2 ⟨_, _⟩ | exact hcv _ (pg ⟨_, _⟩) | exact (pg ⟨_, _⟩).facts.2.2.2.2 _ hb)
            (fail)
          go_wp2
          ((try simp only [Exit.inBlock, Exit.then]); refine bodyPost_ret (rv_list rfl (by simp) (.row (by rfl) agg_Field siz_Field (rowAt_put (show w8.drew.rowAt w.heap.size 0 2 = _ from q0) (encFld_len _)) (.tmp (.tmp .nil)))) rfl ?_)
          exact ⟨by simp only [i6, retG]; rfl, pg ⟨_, _⟩⟩
theorem get_call (l : List UInt8) (a : Option Addr) (cap : Nat) (w : World) (hs : CeR encByte w a l) (hc : l.length ≤ cap) (hm : l.length ≤ 1000000000000) :
    Calls Tryd.prog 174 #[.slice a l.length cap] w fun e w' => e = retG (getR l) ∧ Grew w w' := by
  match l, hs, hc, hm with
  | [], hs, hc, hm => exact get_short a 0 cap w (by omega)
  | [_], hs, hc, hm => exact get_short a 1 cap w (by omega)
  | [_, _], hs, hc, hm => exact get_short a 2 cap w (by omega)
  | [_, _, _], hs, hc, hm => exact get_short a 3 cap w (by omega)
  | t :: b1 :: b2 :: b3 :: r, hs, hc, hm => exact get_long t b1 b2 b3 r a cap w hs (by simpa using hc) (by simp at hm; omega)
theorem rget_call (l : List UInt8) (a : Option Addr) (cap : Nat) (w : World) (hs : CeR encByte w a l) (hc : l.length ≤ cap) (hm : l.length ≤ 1000000000000) :
    Calls Tryd.prog 118 #[.slice a l.length cap] w fun e w' => e = retG (getR l) ∧ Grew w w' := by
  match l, hs, hc, hm with
  | [], hs, hc, hm => exact rget_short a 0 cap w (by omega)
  | [_], hs, hc, hm => exact rget_short a 1 cap w (by omega)
  | [_, _], hs, hc, hm => exact rget_short a 2 cap w (by omega)
  | [_, _, _], hs, hc, hm => exact rget_short a 3 cap w (by omega)
  | t :: b1 :: b2 :: b3 :: r, hs, hc, hm => exact rget_long t b1 b2 b3 r a cap w hs (by simpa using hc) (by simp at hm; omega)
end Go.Proofs.YtoajianddmobaaaDoor
