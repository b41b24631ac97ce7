/- CONTRACTS: both Lays. -/
import Derived.Test.YtoajianddmobaaaDoorPk4
namespace Go.Proofs.YtoajianddmobaaaDoor
open Go.RowKit
set_option linter.unusedSimpArgs false
set_option linter.unusedVariables false
set_option maxRecDepth 100000

/-- The error of a row that is laid, the tags beginning behind 'last'. -/
def layE : Int → List Fld → Int
  | _, [] => 0
  | last, f :: l => if mayP f.tag last f.data.size = 0 then layE f.tag l else mayP f.tag last f.data.size
def layB (l : List Fld) : List UInt8 := l.flatMap fun f => fieldB f.tag f.data.data.toList
def layR (l : List Fld) : List UInt8 := if layE 0 l = 0 then layB l else []
theorem layB_snoc (l : List Fld) (f : Fld) : layB (l ++ [f]) = layB l ++ fieldB f.tag f.data.data.toList := by simp [layB]
theorem fieldB_len (t : Int) (d : List UInt8) : (fieldB t d).length = 4 + d.length := by simp [fieldB, hdr]; omega
theorem take_snoc {α : Type} (l : List α) (k : Nat) (h : k < l.length) : l.take (k + 1) = l.take k ++ [l[k]] := List.take_succ_eq_append_getElem h
theorem layE_ok {f : Fld} {last : Int} {l : List Fld} (h : mayP f.tag last f.data.size = 0) : layE last (f :: l) = layE f.tag l := by simp [layE, h]
theorem layE_bad {f : Fld} {last : Int} {l : List Fld} (h : ¬ mayP f.tag last f.data.size = 0) : layE last (f :: l) = mayP f.tag last f.data.size := by simp [layE, h]
theorem mayP_size {tag last : Int} {n : Nat} (h : mayP tag last n = 0) : n ≤ 65536 ∧ last < tag ∧ tag ≤ 255 := by
  unfold mayP at h
  split at h
  · cases h
  · split at h
    · cases h
    · omega
theorem own_ne {α : Type} {base e size : Nat} {enc : α → Array Value} {w : World} {v : Value} {l : List α} (h : OwnL base e size enc w v l) : some w.heap.size ≠ v.ownBlock := fun e => by have := (World.ownsRow.lt h _ e.symm).2; omega
theorem ret_pair {v : Value} {a b : Int} (h : a = b) : Ending.returned (.tuple #[v, .int .i64 a]) = .returned (.tuple #[v, .int .i64 b]) := by rw [h]
theorem lay_call (l : List Fld) (a : Option Addr) (cap : Nat) (w : World) (hs : SlR 2 encFld w a l) (hm : l.length ≤ 1000000) :
    Calls Tryd.prog 124 #[.slice a l.length cap] w fun e w' => ∃ v, e = .returned (.tuple #[v, .int .i64 (layE 0 l)]) ∧ OwnB w.heap.size w' v (layR l) ∧ Grew w w' := by
  go_enter Tryd.func124, Tryd.ntmps124
  go_wp2
  go_loopw [4, 5, 11] (fun b_ last_ i_ wr => ∃ (k : Nat) (last : Int), k ≤ l.length ∧ i_ = .int .i64 k ∧ last_ = .int .i64 last ∧ OwnB w.heap.size wr b_ (layB (l.take k)) ∧ layE 0 l = layE last (l.drop k) ∧ (layB (l.take k)).length ≤ k * 65540 ∧ Grew w wr) (fun _ _ i _ => l.length - (intOf i).toNat)
  case atStart => exact ⟨0, 0, Nat.zero_le _, rfl, rfl, OwnL.nil, rfl, by simp [layB], Grew.refl _⟩
  case round =>
    obtain ⟨k, last, hk, rfl, rfl, ho, hc, hbl, hg⟩ := hrel
    by_cases hlt : k < l.length
    · obtain ⟨b, off, rfl, hrow⟩ := hs.grew hg k l[k] (by simp [hlt])
      rw [drop_at hlt] at hc
      have hsn := take_snoc l k hlt
      have Hc := Lib.hid hc; clear hc
      generalize l[k] = f at hrow Hc hsn
      have Hsn := Lib.hid hsn; clear hsn
      by_cases hmay : mayP f.tag last f.data.size = 0
      · have hsz := mayP_size hmay
        have hbo := own_ne ho
        have q1 : (wr.alloc (.cells (encFld f) 87)).rowAt wr.heap.size 0 2 = some (encFld f) := by rw [rowAt_alloc_at rfl]; exact encFld_row f
        have q2 : (wr.alloc (.cells (encFld f) 87)).cell? ⟨wr.heap.size, 0, none⟩ = some (.int .i64 f.tag) := row_cell0 q1 (by omega) (encFld_tag f)
        have q3 : wr.heap.size < (wr.alloc (.cells (encFld f) 87)).heap.size := by simp
        go_wp2_with (go_at_call 156; refine (may_call _ _ _).mono ?_; rintro e w1 ⟨rfl, hg1⟩; have hf1 := hg1.facts; rw [hmay])
        have ho1 := (ho.alloc (.cells (encFld f) 87)).grew hg1
        have r1 := (hf1.2.2.1 _ 0 2 q3).trans q1
        have r2 := (hf1.1 _ 0 q3).trans q2
        have r3 := hf1.2.2.2.2 _ q3
        have r4 := (hg.alloc (.cells (encFld f) 87)).trans hg1
        go_region_held3 (fun w' => w'.rowAt wr.heap.size 0 2 = some (encFld f) ∧ w'.cell? ⟨wr.heap.size, 0, none⟩ = some (.int .i64 f.tag) ∧ wr.heap.size < w'.heap.size)
          (refine ⟨?_, ?_, ?_⟩ <;> first | exact r1 | exact r2 | exact r3 | assumption)
          ((go_at_call 157
            refine (put_call f _ (layB (l.take k)) w.heap.size _ ho1.drew r4.le (by omega) (by omega)).mono ?_
            rintro e w2 ⟨v2, rfl, p2⟩
            have k0 := (p2.row r3 hbo 0 2).trans r1
            have k1 := (p2.cellf r3 hbo 0).trans r2
            have k2 : wr.heap.size < w2.heap.size := Nat.lt_of_lt_of_le r3 p2.2.1.size))
        go_wp2
        go_roundw
        case rel =>
          refine ⟨k + 1, f.tag, by omega, by go_num, rfl, ?_, ?_, ?_, r4.drew.trans0 p2.2.2.1⟩
          · rw [Hsn.out, layB_snoc]; exact p2.1
          · rw [Hc.out, layE_ok hmay]
          · rw [Hsn.out, layB_snoc, List.length_append, fieldB_len]
            have : f.data.data.toList.length = f.data.size := by simp
            omega
        case measure => simp [intOf]; omega
      · have hm2 : (mayP f.tag last f.data.size == 0) = false := by simpa using hmay
        have hres : layE 0 l = mayP f.tag last f.data.size := by rw [Hc.out, layE_bad hmay]
        have Hres := Lib.hid hres; clear hres
        go_wp2_with (first | (go_at_call 156; refine (may_call _ _ _).mono ?_; rintro e w1 ⟨rfl, hg⟩; have hf := hg.facts))
        go_ret2
        refine ⟨_, ret_pair Hres.out.symm, ?_, ?_⟩
        · rw [layR, if_neg (by rw [Hres.out]; exact hmay)]; exact OwnL.nil
        · (repeat (first | exact Grew.refl _ | refine Grew.alloc ?_ _ | refine Grew.drew ?_ | refine Grew.after (by assumption) ?_ | refine Grew.after (Old.grew (by assumption)) ?_))
    · have hk2 : k = l.length := by omega
      have hd0 : decide (k < l.length) = false := decide_eq_false hlt
      have hfin : layE 0 l = 0 ∧ layB (l.take k) = layB l := by
        rw [hc, hk2]
        simp [layE]
      have HF := Lib.hid hfin; clear hfin hc
      go_wp2
      go_ret2
      refine ⟨_, ret_pair HF.out.1.symm, ?_, hg⟩
      rw [layR, if_pos HF.out.1, ← HF.out.2]
      exact ho

theorem mayP_ref {tag last : Int} {n : Nat} (h : 0 ≤ last) : mayP tag last n = if tag ≤ last then 1 else mayE tag n := by
  unfold mayP mayE
  by_cases h1 : tag ≤ last
  · simp [h1]
  · by_cases h2 : 255 < tag
    · simp [h1, h2]
    · simp [h1, h2, show ¬ tag < 1 by omega]
theorem rlay_call (l : List Fld) (a : Option Addr) (cap : Nat) (w : World) (hs : SlR 2 encFld w a l) (hm : l.length ≤ 1000000) :
    Calls Tryd.prog 121 #[.slice a l.length cap] w fun e w' => ∃ v, e = .returned (.tuple #[v, .int .i64 (layE 0 l)]) ∧ OwnB w.heap.size w' v (layR l) ∧ Grew w w' := by
  go_enter Tryd.func121, Tryd.ntmps121
  go_wp2
  go_loopw [4, 5, 6] (fun b_ last_ i_ wr => ∃ (k : Nat) (last : Int), k ≤ l.length ∧ i_ = .int .i64 k ∧ last_ = .int .i64 last ∧ 0 ≤ last ∧ OwnB w.heap.size wr b_ (layB (l.take k)) ∧ layE 0 l = layE last (l.drop k) ∧ (layB (l.take k)).length ≤ k * 65540 ∧ Grew w wr) (fun _ _ i _ => l.length - (intOf i).toNat)
  case atStart => exact ⟨0, 0, Nat.zero_le _, rfl, rfl, Int.le_refl _, OwnL.nil, rfl, by simp [layB], Grew.refl _⟩
  case round =>
    obtain ⟨k, last, hk, rfl, rfl, hl0, ho, hc, hbl, hg⟩ := hrel
    by_cases hlt : k < l.length
    · obtain ⟨b, off, rfl, hrow0⟩ := hs k l[k] (by simp [hlt])
      have hb0 := rowAt_lt hrow0
      have hrow := (hg.facts.2.2.1 _ _ _ hb0).trans hrow0
      have hb := Nat.lt_of_lt_of_le hb0 hg.le
      rw [drop_at hlt] at hc
      have hsn := take_snoc l k hlt
      have Hc := Lib.hid hc; clear hc
      generalize l[k] = f at hrow0 hrow Hc hsn
      have Hsn := Lib.hid hsn; clear hsn
      have hmp := mayP_ref (tag := f.tag) (n := f.data.size) hl0
      have Hmp := Lib.hid hmp; clear hmp
      have hcx : wr.cell? ⟨b, off + k * 2, none⟩ = some (.int .i64 f.tag) := row_cell0 hrow (by omega) (encFld_tag f)
      have hcy : wr.cell? ⟨b, off + k * 2 + 1, none⟩ = some (.string f.data) := row_cell hrow 1 (by omega) (encFld_data f)
      by_cases htl : f.tag ≤ last
      · have hres : layE 0 l = 1 ∧ mayP f.tag last f.data.size = 1 := by
          have h1 := Hmp.out
          rw [if_pos htl] at h1
          rw [Hc.out, layE_bad (by rw [h1]; decide), h1]
          exact ⟨rfl, rfl⟩
        have Hres := Lib.hid hres; clear hres
        go_wp2_with fail
        refine wp_region_det (fun w' => Old wr w') Grew (by kernel_rfl) (by kernel_rfl) Grew.refl (fun _ _ h g => Old.step h g) (Old.of (Grew.refl _).drew) ?_
        repeat (first | (refine TD.skip rfl ?_; simp only [Act.put, List.setIfInBounds_toArray, List.set_cons_zero, List.set_cons_succ]) | (refine' TD.det rfl ?_ ?_; rotate_left; (focus (intro K w9 hS hK; go_wp2_with (first | (go_at_call 151; refine (may01_call _ _ _).mono ?_; rintro e w' ⟨rfl, rfl⟩)); first | exact Grew.refl _ | assumption | exact (Grew.refl _).alloc _)); simp only [Act.put, List.setIfInBounds_toArray, List.set_cons_zero, List.set_cons_succ]))
        refine TD.done (fun w8 hS => ?_)
        go_wp2
        go_ret2
        refine ⟨_, ret_pair Hres.out.1.symm, ?_, hg.trans hS.grew⟩
        rw [layR, if_neg (by rw [Hres.out.1]; decide)]; exact OwnL.nil
      · by_cases hmay : mayE f.tag f.data.size = 0
        · have hmy : mayP f.tag last f.data.size = 0 := by rw [Hmp.out, if_neg htl]; exact hmay
          have hsz := mayP_size hmy
          have Hmy := Lib.hid hmy; clear hmy
          go_wp2_with fail
          refine wp_region_det (fun w' => Old wr w') Grew (by kernel_rfl) (by kernel_rfl) Grew.refl (fun _ _ h g => Old.step h g) (Old.of (Grew.refl _).drew) ?_
          repeat (first | (refine TD.skip rfl ?_; simp only [Act.put, List.setIfInBounds_toArray, List.set_cons_zero, List.set_cons_succ]) | (refine' TD.det rfl ?_ ?_; rotate_left; (focus (intro K w9 hS hK; go_wp2_with (first | (go_at_call 151; refine (may01_call _ _ _).mono ?_; rintro e w' ⟨rfl, rfl⟩; simp only [hmay])); first | exact Grew.refl _ | assumption | exact (Grew.refl _).alloc _)); simp only [Act.put, List.setIfInBounds_toArray, List.set_cons_zero, List.set_cons_succ]))
          refine TD.done (fun w8 hS => ?_)
          go_wp2
          have c1 := (hS.1 _ (off + k * 2) hb).trans hcx
          have c2 := (hS.1 _ (off + k * 2 + 1) hb).trans hcy
          have c3 := hS.2.2.2.2.1 _ hb
          have hg8 := hg.trans hS.grew
          have ho8 := ho.grew hS.grew
          have hsz2 : f.data.data.toList.length = f.data.size := by simp
          have hfl := fieldB_len f.tag f.data.data.toList
          go_region_held3 (fun w' => w'.cell? ⟨b, off + k * 2, none⟩ = some (.int .i64 f.tag) ∧ w'.cell? ⟨b, off + k * 2 + 1, none⟩ = some (.string f.data) ∧ b < w'.heap.size)
            (refine ⟨?_, ?_, ?_⟩ <;> first | exact c1 | exact c2 | exact c3 | assumption)
            ((go_at_call 152
              refine (bytes01_call _ _ _ (by omega)).mono ?_
              rintro e w2 ⟨v2, rfl, ob, gb⟩
              obtain ⟨a2, cap2, rfl, hce, _, hn2⟩ := ob.bytes
              have g2 := hg8.drew.trans gb
              have d1 := (gb.facts.1 _ (off + k * 2) c3).trans c1
              have d2 := (gb.facts.1 _ (off + k * 2 + 1) c3).trans c2
              have d3 := gb.facts.2.2.2.2 _ c3
              have ho2 := ho8.drew.grew gb))
          have hcx0 : w.cell? ⟨b, off + k * 2, none⟩ = some (.int .i64 f.tag) := row_cell0 hrow0 (by omega) (encFld_tag f)
          go_wp2_with (at_builtin; refine wpList_app (base := w.heap.size) (l := layB (l.take k)) (news := fieldB f.tag f.data.data.toList) rfl _ _ rfl elemBytes EB1 (by rfl) ho2 (by rfl) (by omega) hce.sl hn2 (by omega) (.inl (by omega)) g2.le ?_; intro v3 w3 hap; have g3 := g2.trans0 hap.pushed.2.2.1; have e3 := (g3.facts.1 _ (off + k * 2) hb0).trans hcx0)
          go_roundw
          case rel =>
            refine ⟨k + 1, f.tag, by omega, by go_num, rfl, by omega, ?_, ?_, ?_, g3⟩
            · rw [Hsn.out, layB_snoc]; exact hap.1
            · rw [Hc.out, layE_ok Hmy.out]
            · rw [Hsn.out, layB_snoc, List.length_append, fieldB_len]
              omega
          case measure => simp [intOf]; omega
        · have hm2 : (mayE f.tag f.data.size == 0) = false := by simpa using hmay
          have hmy : mayP f.tag last f.data.size = mayE f.tag f.data.size := by rw [Hmp.out, if_neg htl]
          have hres : layE 0 l = mayE f.tag f.data.size := by rw [Hc.out, layE_bad (by rw [hmy]; exact hmay), hmy]
          have Hres := Lib.hid hres; clear hres
          have Hmy := Lib.hid hmy; clear hmy
          go_wp2_with fail
          refine wp_region_det (fun w' => Old wr w') Grew (by kernel_rfl) (by kernel_rfl) Grew.refl (fun _ _ h g => Old.step h g) (Old.of (Grew.refl _).drew) ?_
          repeat (first | (refine TD.skip rfl ?_; simp only [Act.put, List.setIfInBounds_toArray, List.set_cons_zero, List.set_cons_succ]) | (refine' TD.det rfl ?_ ?_; rotate_left; (focus (intro K w9 hS hK; go_wp2_with (first | (go_at_call 151; refine (may01_call _ _ _).mono ?_; rintro e w' ⟨rfl, rfl⟩)); first | exact Grew.refl _ | assumption | exact (Grew.refl _).alloc _)); simp only [Act.put, List.setIfInBounds_toArray, List.set_cons_zero, List.set_cons_succ]))
          refine TD.done (fun w8 hS => ?_)
          go_wp2
          go_ret2
          refine ⟨_, ret_pair Hres.out.symm, ?_, hg.trans hS.grew⟩
          rw [layR, if_neg (by rw [Hres.out]; exact hmay)]; exact OwnL.nil
    · have hk2 : k = l.length := by omega
      have hd0 : decide (k < l.length) = false := decide_eq_false hlt
      have hfin : layE 0 l = 0 ∧ layB (l.take k) = layB l := by
        rw [hc, hk2]
        simp [layE]
      have HF := Lib.hid hfin; clear hfin hc
      go_wp2
      go_ret2
      refine ⟨_, ret_pair HF.out.1.symm, ?_, hg⟩
      rw [layR, if_pos HF.out.1, ← HF.out.2]
      exact ho
end Go.Proofs.YtoajianddmobaaaDoor
