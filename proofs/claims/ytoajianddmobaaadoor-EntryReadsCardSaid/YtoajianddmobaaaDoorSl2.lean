/- CONTRACTS: estreatref11.Right, Big, Same: what they come to. -/
import Derived.Test.YtoajianddmobaaaDoorSl
import Derived.Test.YtoajianddmobaaaDoorReg
namespace Go.Proofs.YtoajianddmobaaaDoor
open Go.RowKit
set_option linter.unusedSimpArgs false
set_option linter.unusedVariables false

theorem ok_epoch {x : Item} (h : x.ok = true) : 0 ≤ x.epoch := by
  simp [Item.ok, within] at h
  omega
set_option maxHeartbeats 1000000 in
theorem right11_call (l : List Item) (a : Option Addr) (cap : Nat) (w : World) (hs : SlR 110 encItem w a l) (hm : l.length ≤ 9223372036854775806) :
    Calls Tryd.prog 140 #[.slice a l.length cap] w fun e w' => e = .returned (.bool (logOk l)) ∧ Grew w w' := by
  by_cases hlen : l.length ≤ 2000
  · go_enter Tryd.func140, Tryd.ntmps140
    go_wp2
    go_loopw [3] (fun i wr => ∃ (k : Nat) (e : Int), k ≤ l.length ∧ i = .int .i64 k ∧ chk 0 l = chk e (l.drop k) ∧ (k = 0 → e = 0) ∧ (∀ y, 0 < k → l[k - 1]? = some y → e = y.epoch) ∧ Grew w wr) (fun i _ => l.length - (intOf i).toNat)
    case atStart => exact ⟨0, 0, Nat.zero_le _, rfl, rfl, fun _ => rfl, fun _ h => absurd h (by omega), Grew.refl _⟩
    case round =>
      obtain ⟨k, e, hk, rfl, hc, he0, hes, hg⟩ := hrel
      have HE := Lib.hid hes; clear hes
      by_cases hlt : k < l.length
      · obtain ⟨b, off, rfl, hrow⟩ := hs.grew hg k l[k] (by simp [hlt])
        have hb := rowAt_lt hrow
        rw [drop_at hlt] at hc
        obtain ⟨x, Hx⟩ : ∃ x, Hid (l[k]? = some x) := ⟨l[k], by simp [Hid, hlt]⟩
        have hxk : l[k] = x := by have := Hx.out; rw [List.getElem?_eq_getElem hlt] at this; exact Option.some.inj this
        rw [hxk] at hrow hc
        clear hxk
        have Hc := Lib.hid hc; clear hc
        by_cases hx : x.ok = true
        · by_cases h0 : k = 0
          · have h1 : decide (0 < k) = false := by simp; omega
            have H0 := Lib.hid (he0 h0); clear he0
            have H1 := Lib.hid h0; clear h0
            go_wp2_with fail
            refine wp_region_det (fun w' => Old wr w') Grew (by kernel_rfl) (by kernel_rfl) Grew.refl (fun _ _ h g => Old.step h g) (Old.of (Grew.refl _).drew) ?_
            repeat (first | (refine TD.skip rfl ?_; simp only [Act.put, List.setIfInBounds_toArray, List.set_cons_zero, List.set_cons_succ]) | (refine' TD.det rfl ?_ ?_; rotate_left; (focus (intro K w9 hS hK; go_wp2_with (first | (go_at_call 69; refine (rightItem_call _ _).mono ?_; rintro e w1 ⟨rfl, hg⟩; have hf := hg.facts)); first | exact Grew.refl _ | assumption | exact (Grew.refl _).alloc _)); simp only [Act.put, List.setIfInBounds_toArray, List.set_cons_zero, List.set_cons_succ]))
            refine TD.done (fun w8 hS => ?_)
            go_wp2
            go_roundw
            case rel =>
              refine ⟨k + 1, x.epoch, by omega, by go_num, ?_, fun h => absurd h (by omega), fun y _ hy => ?_, hg.trans hS.grew⟩
              · rw [Hc.out, H0.out, chk_on hx (ok_epoch hx)]
              · have h2 := Hx.out
                rw [show k + 1 - 1 = k from by omega, h2] at hy
                cases hy; rfl
            case measure => first | (simp [intOf]; done) | (simp [intOf]; omega)
          · have h1 : decide (0 < k) = true := decide_eq_true (by omega)
            obtain ⟨y, hy⟩ : ∃ y, l[k - 1]? = some y := ⟨l[k - 1]'(by omega), List.getElem?_eq_getElem (by omega)⟩
            obtain rfl : e = y.epoch := HE.out y (by omega) hy
            have hrow2 := (hs.grew hg).at hy
            have hcy : wr.cell? ⟨b, off + (k - 1) * 110, none⟩ = some (.int .i64 y.epoch) := row_cell0 hrow2 (by omega) (encItem_epoch y)
            have hcx : wr.cell? ⟨b, off + k * 110, none⟩ = some (.int .i64 x.epoch) := row_cell0 hrow (by omega) (encItem_epoch x)
            have hk1 : ((k : Int) - 1).toNat = k - 1 := by omega
            have hk2 : (1 : Int) ≤ (k : Int) := by omega
            have hk3 : (k : Int) - 1 < (l.length : Int) := by omega
            have H1 := Lib.hid h0; clear h0 he0
            clear hy
            go_wp2_with fail
            refine wp_region_det (fun w' => Old wr w') Grew (by kernel_rfl) (by kernel_rfl) Grew.refl (fun _ _ h g => Old.step h g) (Old.of (Grew.refl _).drew) ?_
            repeat (first | (refine TD.skip rfl ?_; simp only [Act.put, List.setIfInBounds_toArray, List.set_cons_zero, List.set_cons_succ]) | (refine' TD.det rfl ?_ ?_; rotate_left; (focus (intro K w9 hS hK; go_wp2_with (first | (go_at_call 69; refine (rightItem_call _ _).mono ?_; rintro e w1 ⟨rfl, hg⟩; have hf := hg.facts)); first | exact Grew.refl _ | assumption | exact (Grew.refl _).alloc _)); simp only [Act.put, List.setIfInBounds_toArray, List.set_cons_zero, List.set_cons_succ]))
            refine TD.done (fun w8 hS => ?_)
            go_wp2
            · have hlt2 : x.epoch < y.epoch := by assumption
              go_ret
              refine ⟨ret_bool ?_, hg.trans hS.grew⟩
              rw [logOk, Hc.out, chk_low hlt2]; rfl
            · have hlt2 : y.epoch ≤ x.epoch := by assumption
              go_roundw
              case rel =>
                refine ⟨k + 1, x.epoch, by omega, by go_num, ?_, fun h => absurd h (by omega), fun y _ hy => ?_, hg.trans hS.grew⟩
                · rw [Hc.out, chk_on hx hlt2]
                · have h2 := Hx.out
                  rw [show k + 1 - 1 = k from by omega, h2] at hy
                  cases hy; rfl
              case measure => first | (simp [intOf]; done) | (simp [intOf]; omega)
        · have hxf : x.ok = false := by simpa using hx
          go_wp2_with fail
          refine wp_region_det (fun w' => Old wr w') Grew (by kernel_rfl) (by kernel_rfl) Grew.refl (fun _ _ h g => Old.step h g) (Old.of (Grew.refl _).drew) ?_
          repeat (first | (refine TD.skip rfl ?_; simp only [Act.put, List.setIfInBounds_toArray, List.set_cons_zero, List.set_cons_succ]) | (refine' TD.det rfl ?_ ?_; rotate_left; (focus (intro K w9 hS hK; go_wp2_with (first | (go_at_call 69; refine (rightItem_call _ _).mono ?_; rintro e w1 ⟨rfl, hg⟩; have hf := hg.facts)); first | exact Grew.refl _ | assumption | exact (Grew.refl _).alloc _)); simp only [Act.put, List.setIfInBounds_toArray, List.set_cons_zero, List.set_cons_succ]))
          refine TD.done (fun w8 hS => ?_)
          go_wp2
          go_ret
          refine ⟨ret_bool ?_, hg.trans hS.grew⟩
          rw [logOk, Hc.out, chk_bad hx]; rfl
      · have hd : l.drop k = [] := List.drop_eq_nil_of_le (by omega)
        rw [hd] at hc
        have Hc := Lib.hid hc; clear hc hd he0
        go_wp2
        go_ret
        refine ⟨ret_bool ?_, hg⟩
        rw [logOk, Hc.out]
        simp [chk, hlen]
  · go_enter Tryd.func140, Tryd.ntmps140
    go_wp2
    go_ret
    refine ⟨ret_bool (by simp [logOk, hlen]), Grew.refl _⟩

def bigOf (l : List Item) : Bool := decide (60 < l.length) || l.any fun x => decide (1000 < (x.entry.text.size : Int))
theorem big_drop {l : List Item} {k : Nat} {x : Item} {r : List Item} (h : l.drop k = x :: r) : True := trivial

theorem big11_call (l : List Item) (a : Option Addr) (cap : Nat) (w : World) (hs : SlR 110 encItem w a l) (hm : l.length ≤ 9223372036854775806) :
    Calls Tryd.prog 27 #[.slice a l.length cap] w fun e w' => e = .returned (.bool (bigOf l)) ∧ Grew w w' := by
  by_cases hlen : 60 < l.length
  · go_enter Tryd.func27, Tryd.ntmps27
    go_wp2
    go_ret
    exact ⟨ret_bool (by simp [bigOf, hlen]), Grew.refl _⟩
  · go_enter Tryd.func27, Tryd.ntmps27
    go_wp2
    go_loopw [3] (fun i wr => ∃ (k : Nat), k ≤ l.length ∧ i = .int .i64 k ∧ bigOf l = (l.drop k).any (fun x => decide (1000 < (x.entry.text.size : Int))) ∧ Grew w wr) (fun i _ => l.length - (intOf i).toNat)
    case atStart => exact ⟨0, Nat.zero_le _, rfl, by simp [bigOf, hlen], Grew.refl _⟩
    case round =>
      obtain ⟨k, hk, rfl, hc, hg⟩ := hrel
      by_cases hlt : k < l.length
      · obtain ⟨b, off, rfl, hrow⟩ := hs.grew hg k l[k] (by simp [hlt])
        rw [drop_at hlt] at hc
        have Hc := Lib.hid hc; clear hc
        generalize l[k] = x at hrow Hc
        have hcx : wr.cell? ⟨b, off + k * 110 + 4, none⟩ = some (.string x.entry.text) := row_cell hrow 4 (by omega) (encItem_entry_text x)
        go_wp2
        · have h9 : (1000 : Int) < (x.entry.text.size : Int) := by assumption
          go_ret
          exact ⟨ret_bool (by rw [Hc.out]; simp [h9]), hg⟩
        · have h9 : (x.entry.text.size : Int) ≤ 1000 := by assumption
          go_roundw
          case rel => exact ⟨k + 1, by omega, by go_num, by rw [Hc.out, List.any_cons, decide_eq_false (by omega), Bool.false_or], hg⟩
          case measure => first | (simp [intOf]; done) | (simp [intOf]; omega)
      · have hd : l.drop k = [] := List.drop_eq_nil_of_le (by omega)
        rw [hd] at hc
        have Hc := Lib.hid hc; clear hc hd
        go_wp2
        go_ret
        exact ⟨ret_bool (by rw [Hc.out]; rfl), hg⟩
end Go.Proofs.YtoajianddmobaaaDoor
