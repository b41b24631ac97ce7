/- CONTRACTS: head.of. -/
import Derived.Test.YtoajianddmobaaaDoorHd4
namespace Go.Proofs.YtoajianddmobaaaDoor
open Go.RowKit
set_option linter.unusedSimpArgs false
set_option linter.unusedVariables false
set_option maxRecDepth 100000

/-- The tags are k + 1, k + 2, .. -/
def tagsOk : Nat → List Fld → Bool
  | _, [] => true
  | k, f :: l => decide (f.tag = (k : Int) + 1) && tagsOk (k + 1) l
/-- What 'of' makes of bytes. -/
def ofL (b : List UInt8) : List ByteArray := (readR b).map (·.data)
def ofOk (b : List UInt8) : Bool := decide (readE 0 b = 0) && tagsOk 0 (readR b)
theorem tagsOk_snoc : ∀ (l : List Fld) (k : Nat) (f : Fld), tagsOk k (l ++ [f]) = (tagsOk k l && decide (f.tag = ((k + l.length : Nat) : Int) + 1))
  | [], k, f => by simp [tagsOk]
  | x :: l, k, f => by simp only [List.cons_append, tagsOk, tagsOk_snoc l (k + 1) f, List.length_cons, Bool.and_assoc]; rw [show k + 1 + l.length = k + (l.length + 1) by omega]
theorem OwnL.ce {α : Type} {f : α → Value} {base e : Nat} {w : World} {v : Value} {l : List α} (h1 : Enc1 1 (fun x => #[f x])) (h : OwnL base e 1 (fun x => #[f x]) w v l) : ∃ a cap, v = .slice a l.length cap ∧ CeR f w a l ∧ l.length ≤ cap ∧ ∀ p, a = some p → base ≤ p.block ∧ p.block < w.heap.size := by
  obtain ⟨a, cap, hv, hs, hc, hn, hp⟩ := h.form h1 (by omega)
  cases a with
  | none => exact ⟨none, cap, hv, by rw [(hn rfl).1]; exact CeR.nil, hc, fun p hp => by cases hp⟩
  | some p =>
    rcases h.2 with ⟨rfl, h0⟩ | ⟨g, cap2, cur, rfl, hbg, hg, _⟩
    · cases hv
    · cases hv
      have hlt := (Array.getElem?_eq_some_iff.1 hg).1
      refine ⟨_, _, rfl, .inr ⟨g, 0, rfl, hlt, fun k x hx => ?_⟩, hc, fun p hp => by cases hp; exact ⟨hbg, hlt⟩⟩
      have := row_cell0 (hs.at hx) (by omega) (v := f x) rfl
      rwa [Nat.mul_one] at this
theorem stF_len : ∀ (xs : List (Fld × Int)) (last : Int), (stF last xs).length ≤ xs.length
  | [], last => by simp [stF]
  | (f, e) :: xs, last => by
    have := stF_len xs f.tag
    unfold stF
    split
    · simp
    · split
      · simp
      · simp; omega
theorem readR_len (b : List UInt8) : (readR b).length ≤ b.length := by
  unfold readR
  split
  · rw [(read_it 0 b).2]; exact Nat.le_trans (stF_len _ _) (it_len b)
  · simp
set_option maxHeartbeats 2000000 in
theorem of_call (l : List UInt8) (a : Option Addr) (cap kb : Nat) (b0 : Bool) (w : World) (hs : CeR encByte w a l) (hc : l.length ≤ cap) (hm : l.length ≤ 1000000000) (hk : w.heap[kb]? = some (.cells #[.bool b0] 4 (0, 0))) :
    Calls Tryd.prog 112 #[.slice a l.length cap, .pointer (some ⟨kb, 0, none⟩)] w fun e w' => ∃ rb, e = .returned (.pointer (some ⟨rb, 0, none⟩)) ∧ w.heap.size ≤ rb ∧ RowSt (fun k => w.heap.size ≤ k ∧ k < w'.heap.size ∧ k ≠ rb) w' rb kb (ofL l) (ofOk l) ∧ StepX (fun k => k = kb) w w' := by
  obtain ⟨c1, c2, c3, c4, c5⟩ := blk_facts hk
  have c0 := cell_blk hk
  go_enter Tryd.func112, Tryd.ntmps112
  go_wp2_with (go_at_call 107; refine (read_call l _ _ _ hs hc hm).mono ?_; rintro e w1 ⟨v1, rfl, ho1, hg1⟩; have hk1 := (hg1.block c5).trans hk; obtain ⟨d1, d2, d3, d4, d5⟩ := blk_facts hk1; have d0 := cell_blk hk1; obtain ⟨av, cv, rfl, hsl, hlc, hnv, hpv⟩ := ho1.form F1 (by omega); have HPV := Lib.hid hpv; clear hpv)
  have hkw : kb < w1.heap.size := Nat.lt_of_lt_of_le c5 hg1.le
  have hfl := readR_len l
  generalize hF : readR l = fs at *
  go_loopw [21] (fun i_ wr => ∃ (k : Nat), k ≤ fs.length ∧ i_ = .int .i64 k ∧ wr.heap[kb]? = some (.cells #[.bool (decide (readE 0 l = 0) && tagsOk 0 (fs.take k))] 4 (0, 0)) ∧ RowOwn (w1.heap.size + 1) wr w1.heap.size ((fs.take k).map (·.data)) ∧ StepX (fun k => k = kb ∨ w1.heap.size ≤ k) w1 wr) (fun i _ => fs.length - (intOf i).toNat)
  case atStart =>
    refine ⟨0, Nat.zero_le _, rfl, ?_, ⟨_, ?_, OwnL.nil, by omega, by rw [World.size_alloc, size_setCell]; exact Nat.le_refl _⟩, ?_⟩
    · rw [heap_alloc_old _ _ (by rw [size_setCell]; exact hkw), heap_set_one hk1]
      simp [tagsOk]
      rfl
    · exact heap_alloc_at _ (by rw [size_setCell])
    · exact (StepX.setCell (X := fun k => k = kb ∨ w1.heap.size ≤ k) w1 ⟨kb, 0, none⟩ _ (.inl rfl)).trans (StepX.grew ((Grew.refl _).alloc _))
  case round =>
    obtain ⟨k, hk, rfl, hkb, ⟨v, hvb, hvo, -, hvs⟩, hst⟩ := hrel
    obtain ⟨vv, vc, rfl, hvl, hvlc, hvn, hvp⟩ := hvo.form ES1 (by omega)
    have HVP := Lib.hid hvp; clear hvp hvl
    obtain ⟨e1, e2, e3, e4, e5⟩ := blk_facts hvb
    have e0 := cell_blk hvb
    have hsn9 : ((fs.take k).map (·.data)).length = k := by rw [List.length_map, List.length_take]; omega
    rw [hsn9] at hvo hvb hvlc e1 e3 e0
    have n2' : w1.heap.size ≠ kb := by omega
    by_cases hlt : k < fs.length
    · obtain ⟨b, off, rfl, hrow0⟩ := hsl k fs[k] (by simp [hlt])
      have hb1 := rowAt_lt hrow0
      have hbw := (HPV.out _ rfl).1
      have hrow : wr.rowAt b (off + k * 2) 2 = some (encFld fs[k]) := by
        rw [← hrow0]; unfold World.rowAt; rw [hst.block b hb1 (by intro hx; simp at hbw; rcases hx with hx | hx <;> omega)]
      have hsn := take_snoc fs k hlt
      generalize fs[k] = f at hrow hsn
      have Hsn := Lib.hid hsn; clear hsn hrow0
      obtain ⟨m1, m2, m3, m4, m5⟩ := blk_facts hkb
      have m0 := cell_blk hkb
      have kw : IntKind.i64.wrap ((k : Int) + 1) = (k : Int) + 1 := IntWalk.i64_in _ (by omega)
      have n1 : kb ≠ w1.heap.size := by omega
      have n2 : w1.heap.size ≠ kb := by omega
      cases hB : (decide (readE 0 l = 0) && tagsOk 0 (fs.take k))
      · rw [hB] at hkb m0 m1 m3
        have hvm := hvo.stepI (B0 := 0) (X := fun j => j = kb) (StepX.setCell (X := fun j => j = kb) wr ⟨kb, 0, none⟩ (.bool false) rfl).toI (fun j hj => by omega)
        have hvbm := (Below.heap_setCell wr ⟨kb, 0, none⟩ (.bool false) _ n2).trans hvb
        have hszm : (wr.setCell ⟨kb, 0, none⟩ (.bool false)).heap.size = wr.heap.size := size_setCell _ _ _
        have hbk := blk_two (wr.setCell ⟨kb, 0, none⟩ (.bool false)) (.cells (encFld f) 87) (.cells #[.string f.data] 9)
        rw [hszm] at hbk
        go_wp2_with (at_builtin; refine wpList_app (base := w1.heap.size + 1) (l := (fs.take k).map (·.data)) (news := [f.data]) rfl _ _ rfl elemRow ES1 (by rfl) ((hvm.alloc (.cells (encFld f) 87)).alloc (.cells #[.string f.data] 9)) (by rfl) rfl (sl_one ES1 hbk) (fun h => by cases h) (by rw [hsn9, List.length_singleton]; omega) (.inl (by omega)) (by rw [World.size_alloc, World.size_alloc, hszm]; omega) ?_; intro v3 w3 hap; have hfin := BoxOwn.appended hvbm (by omega) (by rw [hszm]; omega) (((Grew.refl _).alloc _).alloc _) hap hvm; obtain ⟨p1, p2, p3, p4, p5⟩ := blk_facts hfin.2.2; obtain ⟨a3, cp3, rfl, -, -, -, -⟩ := hap.1.form ES1 (by omega))
        have hl2 : ((fs.take k).map (·.data) ++ [f.data]).length = k + 1 := by rw [List.length_append, hsn9]; rfl
        rw [hl2] at hfin
        refine ⟨⟨k + 1, by omega, by go_num, ?_, ?_, ?_⟩, by simp [intOf]; omega⟩
        · rw [Below.heap_setCell _ _ _ _ n1, hap.pushed.far (by rw [World.size_alloc, World.size_alloc, hszm]; omega) (fun e => by have := (World.ownsRow.lt hvm _ e.symm).1; omega), heap_alloc_old _ _ (by rw [World.size_alloc, hszm]; omega), heap_alloc_old _ _ (by rw [hszm]; omega), heap_set_one hkb, Hsn.out, tagsOk_snoc, ← Bool.and_assoc, hB]
          rw [List.length_take, show 0 + min k fs.length = k by omega]
          rfl
        · rw [Hsn.out, List.map_append]
          exact hfin.1
        · exact (hst.trans ((StepX.setCell (X := fun j => j = kb) wr ⟨kb, 0, none⟩ (.bool false) rfl).mono (fun j hj => .inl hj))).trans (hfin.2.1.mono (fun j hj => by omega))
      · rw [hB] at hkb m0 m1 m3
        by_cases ht : f.tag = (k : Int) + 1
        · have ht1 : (f.tag == (k : Int) + 1) = true := by rw [beq_iff_eq]; exact ht
          have hvm := hvo.stepI (B0 := 0) (X := fun j => j = kb) (StepX.setCell (X := fun j => j = kb) wr ⟨kb, 0, none⟩ (.bool true) rfl).toI (fun j hj => by omega)
          have hvbm := (Below.heap_setCell wr ⟨kb, 0, none⟩ (.bool true) _ n2).trans hvb
          have hszm : (wr.setCell ⟨kb, 0, none⟩ (.bool true)).heap.size = wr.heap.size := size_setCell _ _ _
          have hbk := blk_two (wr.setCell ⟨kb, 0, none⟩ (.bool true)) (.cells (encFld f) 87) (.cells #[.string f.data] 9)
          rw [hszm] at hbk
          go_wp2_with (at_builtin; refine wpList_app (base := w1.heap.size + 1) (l := (fs.take k).map (·.data)) (news := [f.data]) rfl _ _ rfl elemRow ES1 (by rfl) ((hvm.alloc (.cells (encFld f) 87)).alloc (.cells #[.string f.data] 9)) (by rfl) rfl (sl_one ES1 hbk) (fun h => by cases h) (by rw [hsn9, List.length_singleton]; omega) (.inl (by omega)) (by rw [World.size_alloc, World.size_alloc, hszm]; omega) ?_; intro v3 w3 hap; have hfin := BoxOwn.appended hvbm (by omega) (by rw [hszm]; omega) (((Grew.refl _).alloc _).alloc _) hap hvm; obtain ⟨p1, p2, p3, p4, p5⟩ := blk_facts hfin.2.2; obtain ⟨a3, cp3, rfl, -, -, -, -⟩ := hap.1.form ES1 (by omega))
          have hl2 : ((fs.take k).map (·.data) ++ [f.data]).length = k + 1 := by rw [List.length_append, hsn9]; rfl
          rw [hl2] at hfin
          refine ⟨⟨k + 1, by omega, by go_num, ?_, ?_, ?_⟩, by simp [intOf]; omega⟩
          · rw [Below.heap_setCell _ _ _ _ n1, hap.pushed.far (by rw [World.size_alloc, World.size_alloc, hszm]; omega) (fun e => by have := (World.ownsRow.lt hvm _ e.symm).1; omega), heap_alloc_old _ _ (by rw [World.size_alloc, hszm]; omega), heap_alloc_old _ _ (by rw [hszm]; omega), heap_set_one hkb, Hsn.out, tagsOk_snoc, ← Bool.and_assoc, hB]
            rw [List.length_take, show 0 + min k fs.length = k by omega]
            simp [ht]
          · rw [Hsn.out, List.map_append]
            exact hfin.1
          · exact (hst.trans ((StepX.setCell (X := fun j => j = kb) wr ⟨kb, 0, none⟩ (.bool true) rfl).mono (fun j hj => .inl hj))).trans (hfin.2.1.mono (fun j hj => by omega))
        · have ht1 : (f.tag == (k : Int) + 1) = false := by rw [beq_eq_false_iff_ne]; exact ht
          have hvm := hvo.stepI (B0 := 0) (X := fun j => j = kb) (StepX.setCell (X := fun j => j = kb) wr ⟨kb, 0, none⟩ (.bool false) rfl).toI (fun j hj => by omega)
          have hvbm := (Below.heap_setCell wr ⟨kb, 0, none⟩ (.bool false) _ n2).trans hvb
          have hszm : (wr.setCell ⟨kb, 0, none⟩ (.bool false)).heap.size = wr.heap.size := size_setCell _ _ _
          have hbk := blk_two (wr.setCell ⟨kb, 0, none⟩ (.bool false)) (.cells (encFld f) 87) (.cells #[.string f.data] 9)
          rw [hszm] at hbk
          go_wp2_with (at_builtin; refine wpList_app (base := w1.heap.size + 1) (l := (fs.take k).map (·.data)) (news := [f.data]) rfl _ _ rfl elemRow ES1 (by rfl) ((hvm.alloc (.cells (encFld f) 87)).alloc (.cells #[.string f.data] 9)) (by rfl) rfl (sl_one ES1 hbk) (fun h => by cases h) (by rw [hsn9, List.length_singleton]; omega) (.inl (by omega)) (by rw [World.size_alloc, World.size_alloc, hszm]; omega) ?_; intro v3 w3 hap; have hfin := BoxOwn.appended hvbm (by omega) (by rw [hszm]; omega) (((Grew.refl _).alloc _).alloc _) hap hvm; obtain ⟨p1, p2, p3, p4, p5⟩ := blk_facts hfin.2.2; obtain ⟨a3, cp3, rfl, -, -, -, -⟩ := hap.1.form ES1 (by omega))
          have hl2 : ((fs.take k).map (·.data) ++ [f.data]).length = k + 1 := by rw [List.length_append, hsn9]; rfl
          rw [hl2] at hfin
          refine ⟨⟨k + 1, by omega, by go_num, ?_, ?_, ?_⟩, by simp [intOf]; omega⟩
          · rw [Below.heap_setCell _ _ _ _ n1, hap.pushed.far (by rw [World.size_alloc, World.size_alloc, hszm]; omega) (fun e => by have := (World.ownsRow.lt hvm _ e.symm).1; omega), heap_alloc_old _ _ (by rw [World.size_alloc, hszm]; omega), heap_alloc_old _ _ (by rw [hszm]; omega), heap_set_one hkb, Hsn.out, tagsOk_snoc, ← Bool.and_assoc, hB]
            rw [List.length_take, show 0 + min k fs.length = k by omega]
            simp [ht]
          · rw [Hsn.out, List.map_append]
            exact hfin.1
          · exact (hst.trans ((StepX.setCell (X := fun j => j = kb) wr ⟨kb, 0, none⟩ (.bool false) rfl).mono (fun j hj => .inl hj))).trans (hfin.2.1.mono (fun j hj => by omega))
    · have hk9 : k = fs.length := by omega
      have hd0 : decide (k < fs.length) = false := decide_eq_false hlt
      have ht9 : fs.take k = fs := List.take_of_length_le (by omega)
      rw [ht9] at hvo hkb
      obtain ⟨a9, c9, hv9, hce9, hlc9, hp9⟩ := hvo.ce ES1
      have hoL : ofL l = fs.map (·.data) := by rw [ofL, hF]
      have H9 := Lib.hid hp9; clear hp9
      have HV9 := Lib.hid hv9; clear hv9
      have HT9 := Lib.hid ht9; clear ht9
      go_wp2
      go_ret
      refine ⟨_, rfl, hg1.le, ⟨a9, c9, ?_, ?_, n2', ?_, ?_, fun p hp => ?_⟩, ?_⟩
      · rw [hoL, ← HV9.out]; exact hvb
      · rw [ofOk, hF]; exact hkb
      · rw [hoL]; exact hlc9
      · rw [hoL]; exact hce9
      · have h9 := H9.out p hp
        have h8 := hg1.le
        exact ⟨by omega, by omega, by omega, h9.2, by omega⟩
      · have g' : Below w.heap.size w w1 := hg1
        exact ⟨hst.os.trans g'.os, hst.tape.trans g'.tape, hst.output.trans g'.output, Nat.le_trans g'.size hst.size, fun j hj hx => (hst.block j (by have := hg1.le; omega) (fun hy => by have := hg1.le; rcases hy with hy | hy <;> omega)).trans (hg1.block hj)⟩
end Go.Proofs.YtoajianddmobaaaDoor
