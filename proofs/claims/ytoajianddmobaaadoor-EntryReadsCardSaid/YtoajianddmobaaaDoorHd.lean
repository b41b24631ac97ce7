/- CONTRACTS: head.row: n, s, bytes. -/
import Derived.Test.YtoajianddmobaaaDoorRf3
namespace Go.Proofs.YtoajianddmobaaaDoor
open Go.RowKit
set_option linter.unusedSimpArgs false
set_option linter.unusedVariables false
set_option maxRecDepth 100000

abbrev ES : ByteArray → Array Value := fun s => #[.string s]
theorem ES1 : Enc1 1 ES := fun x => ⟨rfl, fun u hu => by simp at hu; subst hu; rfl⟩
theorem elemRow : elemB Tryd.prog 164 9 1 16 = true := by kernel_rfl
abbrev OwnS (base : Nat) (w : World) (v : Value) (l : List ByteArray) : Prop := OwnL base 9 1 ES w v l
/-- A variable (block b, of type t) that holds a slice of its own. -/
def BoxOwn {α : Type} (base t e size : Nat) (enc : α → Array Value) (w : World) (b : Nat) (l : List α) : Prop :=
  ∃ v, w.heap[b]? = some (.cells #[v] t (0, 0)) ∧ OwnL base e size enc w v l ∧ b < base ∧ base ≤ w.heap.size
abbrev RowOwn (base : Nat) (w : World) (b : Nat) (l : List ByteArray) : Prop := BoxOwn base 164 9 1 ES w b l
section
variable {α : Type} {base t e size b : Nat} {enc : α → Array Value} {w w' : World} {l : List α}
theorem BoxOwn.step {X : Nat → Prop} (h : BoxOwn base t e size enc w b l) (hs : StepX X w w') (hX : ∀ k, X k → k ≠ b ∧ k < base) : BoxOwn base t e size enc w' b l := by
  obtain ⟨v, hb, ho, h1, h2⟩ := h
  exact ⟨v, (hs.block b (by omega) (fun hx => (hX b hx).1 rfl)).trans hb, ho.stepI (B0 := 0) hs.toI (fun k hk => (hX k hk).2), h1, Nat.le_trans h2 hs.size⟩
theorem BoxOwn.grew (h : BoxOwn base t e size enc w b l) (hg : Grew w w') : BoxOwn base t e size enc w' b l := h.step (X := fun _ => False) (StepX.grew hg) (fun _ h => h.elim)
theorem BoxOwn.mono (h : BoxOwn base t e size enc w b l) {base' : Nat} (h1 : base' ≤ base) (h2 : b < base') : BoxOwn base' t e size enc w b l := by
  obtain ⟨v, hb, ho, h3, h4⟩ := h
  exact ⟨v, hb, ho.mono h1, h2, Nat.le_trans h1 h4⟩
/-- A new element: what lies behind 'x = append(x, ..)'. -/
theorem BoxOwn.appended {v v' : Value} {l2 : List α} {w1 w2 : World} (hb : w.heap[b]? = some (.cells #[v] t (0, 0))) (hlb : b < base) (hbase : base ≤ w.heap.size) (hg : Grew w w1) (hap : Appended base e size enc w1 v l l2 v' w2) (hv : OwnL base e size enc w v l) :
    BoxOwn base t e size enc (w2.setCell ⟨b, 0, none⟩ v') b l2 ∧ StepX (fun k => k = b ∨ base ≤ k) w (w2.setCell ⟨b, 0, none⟩ v') ∧ w2.heap[b]? = some (.cells #[v] t (0, 0)) := by
  have hne : some b ≠ v.ownBlock := fun e => by have := (World.ownsRow.lt hv _ e.symm).1; omega
  have hb2 : w2.heap[b]? = some (.cells #[v] t (0, 0)) := (hap.pushed.far (by have := hg.le; omega) hne).trans ((hg.block (by omega)).trans hb)
  have hst : StepX (fun k => k = b ∨ base ≤ k) w1 w2 := ⟨hap.2.2.2.1.os, hap.2.2.2.1.tape, hap.2.2.2.1.output, hap.2.2.2.1.size, fun k hk hx => hap.2.2.2.1.block k (by omega)⟩
  refine ⟨⟨v', heap_set_one hb2, hap.1.stepI (B0 := 0) (StepX.setCell (X := fun k => k = b) _ ⟨b, 0, none⟩ _ rfl).toI (fun k hk => by omega), hlb, by rw [size_setCell]; have := hg.le; have := hap.2.2.2.1.size; omega⟩,
    ((StepX.grew hg).trans hst).trans (StepX.setCell _ ⟨b, 0, none⟩ _ (.inl rfl)), hb2⟩
end
theorem row_s_call (s : ByteArray) (l : List ByteArray) (base b : Nat) (w : World) (h : RowOwn base w b l) (hl : l.length ≤ 1000000) :
    Calls Tryd.prog 126 #[.pointer (some ⟨b, 0, none⟩), .string s] w fun e w' => e = .returned (.tuple #[]) ∧ RowOwn base w' b (l ++ [s]) ∧ StepX (fun k => k = b ∨ base ≤ k) w w' := by
  obtain ⟨v, hb, ho, h1, h2⟩ := h
  obtain ⟨av, cv, rfl, hsl, hlc, hnv, hpv⟩ := ho.form ES1 (by omega)
  have HPV := Lib.hid hpv; clear hpv hsl
  obtain ⟨c1, c2, c3, c4, c5⟩ := blk_facts hb
  have c0 := cell_blk hb
  go_enter Tryd.func126, Tryd.ntmps126
  go_wp2_with (at_builtin; refine wpList_app (base := base) (l := l) (news := [s]) rfl _ _ rfl elemRow ES1 (by rfl) (ho.alloc _) (by rfl) rfl (sl_one ES1 (heap_alloc_new w _)) (fun h => by cases h) (by simp; omega) (.inl (by omega)) (by simp; omega) ?_; intro v3 w3 hap; have hfin := BoxOwn.appended hb h1 h2 ((Grew.refl w).alloc _) hap ho; obtain ⟨p1, p2, p3, p4, p5⟩ := blk_facts hfin.2.2; obtain ⟨a3, cp3, rfl, -, -, -, -⟩ := hap.1.form ES1 (by omega))
  go_end0
  have hl1 : (l ++ [s]).length = l.length + 1 := by simp
  rw [hl1] at hfin
  exact ⟨rfl, hfin.1, hfin.2.1⟩
theorem row_n_call (x : Int) (l : List ByteArray) (base b : Nat) (w : World) (h : RowOwn base w b l) (hl : l.length ≤ 1000000) :
    Calls Tryd.prog 127 #[.pointer (some ⟨b, 0, none⟩), .int .i64 x] w fun e w' => e = .returned (.tuple #[]) ∧ RowOwn base w' b (l ++ [str (numB x)]) ∧ StepX (fun k => k = b ∨ base ≤ k) w w' := by
  obtain ⟨v, hb, ho, h1, h2⟩ := h
  obtain ⟨av, cv, rfl, hsl, hlc, hnv, hpv⟩ := ho.form ES1 (by omega)
  have HPV := Lib.hid hpv; clear hpv hsl
  obtain ⟨c1, c2, c3, c4, c5⟩ := blk_facts hb
  have c0 := cell_blk hb
  go_enter Tryd.func127, Tryd.ntmps127
  go_wp2_with (first
    | (go_at_call 123; refine (number_call _ _).mono ?_; rintro e w1 ⟨rfl, hg1⟩; have hf1 := hg1.facts; have hb1 := (hg1.block c5).trans hb; obtain ⟨d1, d2, d3, d4, d5⟩ := blk_facts hb1; have d0 := cell_blk hb1)
    | (at_builtin; refine wpList_app (base := base) (l := l) (news := [str (numB x)]) rfl _ _ rfl elemRow ES1 (by rfl) ((ho.grew hg1).alloc _) (by rfl) rfl (sl_one ES1 (heap_alloc_new w1 _)) (fun h => by cases h) (by simp; omega) (.inl (by omega)) (by have := hg1.le; simp; omega) ?_; intro v3 w3 hap; have hfin := BoxOwn.appended hb h1 h2 (hg1.alloc _) hap ho; obtain ⟨p1, p2, p3, p4, p5⟩ := blk_facts hfin.2.2; obtain ⟨a3, cp3, rfl, -, -, -, -⟩ := hap.1.form ES1 (by omega)))
  go_end0
  have hl1 : (l ++ [str (numB x)]).length = l.length + 1 := by simp
  rw [hl1] at hfin
  exact ⟨rfl, hfin.1, hfin.2.1⟩
/-- The fields of a row, the tags from k + 1 on. -/
def rowFrom : Nat → List ByteArray → List Fld
  | _, [] => []
  | k, s :: l => ⟨(k : Int) + 1, s⟩ :: rowFrom (k + 1) l
theorem rowFrom_snoc : ∀ (l : List ByteArray) (k : Nat) (s : ByteArray), rowFrom k (l ++ [s]) = rowFrom k l ++ [⟨((k + l.length : Nat) : Int) + 1, s⟩]
  | [], k, s => by simp [rowFrom]
  | x :: l, k, s => by simp only [List.cons_append, rowFrom, rowFrom_snoc l (k + 1) s, List.length_cons]; rw [show k + 1 + l.length = k + (l.length + 1) by omega]
theorem rowFrom_len : ∀ (l : List ByteArray) (k : Nat), (rowFrom k l).length = l.length
  | [], k => rfl
  | x :: l, k => by simp [rowFrom, rowFrom_len l]
set_option maxHeartbeats 1000000 in
theorem row_bytes_call (l : List ByteArray) (base b : Nat) (w : World) (h : RowOwn base w b l) (hl : l.length ≤ 100000) :
    Calls Tryd.prog 128 #[.pointer (some ⟨b, 0, none⟩)] w fun e w' => ∃ v, e = .returned v ∧ OwnB w.heap.size w' v (layR (rowFrom 0 l)) ∧ Grew w w' := by
  obtain ⟨v, hb, ho, h1, h2⟩ := h
  obtain ⟨av, cv, rfl, hsl, hlc, hnv, hpv⟩ := ho.form ES1 (by omega)
  have HPV := Lib.hid hpv; clear hpv
  obtain ⟨c1, c2, c3, c4, c5⟩ := blk_facts hb
  have c0 := cell_blk hb
  go_enter Tryd.func128, Tryd.ntmps128
  go_wp2
  go_loopw [3, 12] (fun l_ i_ wr => ∃ (k : Nat), k ≤ l.length ∧ i_ = .int .i64 k ∧ OwnF w.heap.size wr l_ (rowFrom 0 (l.take k)) ∧ Grew w wr) (fun _ i _ => l.length - (intOf i).toNat)
  case atStart => exact ⟨0, Nat.zero_le _, rfl, OwnL.nil, Grew.refl _⟩
  case round =>
    obtain ⟨k, hk, rfl, ho2, hg⟩ := hrel
    have hlen2 : (rowFrom 0 (l.take k)).length = k := by rw [rowFrom_len, List.length_take]; omega
    obtain ⟨a2, cp2, rfl, hsl2, _, hn2, _⟩ := ho2.form F1 (by omega)
    by_cases hlt : k < l.length
    · obtain ⟨bb, off, rfl, hrow⟩ := hsl k l[k] (by simp [hlt])
      have hbb := rowAt_lt hrow
      have hcx : wr.cell? ⟨bb, off + k * 1, none⟩ = some (.string l[k]) := (hg.facts.1 _ _ hbb).trans (row_cell0 hrow (by omega) rfl)
      rw [Nat.mul_one] at hcx
      have hsn := take_snoc l k hlt
      generalize l[k] = s at hcx hsn
      have Hsn := Lib.hid hsn; clear hsn
      have kw : IntKind.i64.wrap ((k : Int) + 1) = (k : Int) + 1 := IntWalk.i64_in _ (by omega)
      go_wp2_with (at_builtin; refine wpList_app (base := w.heap.size) (l := rowFrom 0 (l.take k)) (news := [⟨(k : Int) + 1, s⟩]) rfl _ _ rfl elemFld F1 (by rfl) (ho2.alloc _) (by rfl) rfl (sl_one F1 (heap_alloc_new wr _)) (fun h => by cases h) (by simp [hlen2]; omega) (.inl (by omega)) (by have := hg.le; simp; omega) ?_; intro v3 w3 hap)
      refine ⟨⟨k + 1, by omega, by go_num, ?_, (hg.alloc _).trans0 hap.pushed.2.2.1⟩, by simp [intOf]; omega⟩
      have := hap.1
      rw [Hsn.out, rowFrom_snoc, List.length_take, Nat.zero_add, show min k l.length = k by omega]
      exact this
    · have hk2 : k = l.length := by omega
      have hd0 : decide (k < l.length) = false := decide_eq_false hlt
      have ht : l.take k = l := List.take_of_length_le (by omega)
      rw [ht] at hsl2 ho2 hlen2
      have ht2 : (rowFrom 0 (l.take k)).length = (rowFrom 0 l).length := by rw [ht]
      rw [ht2]
      have HT := Lib.hid ht; clear ht ht2
      have HL := Lib.hid hlen2; clear hlen2
      go_wp2_with (go_at_call 124; refine (lay_call (rowFrom 0 l) _ _ _ hsl2 (by rw [HL.out]; omega)).mono ?_; rintro e w1 ⟨v1, rfl, hv1, hg1⟩)
      go_ret
      exact ⟨_, rfl, hv1.mono hg.le, hg.trans hg1⟩
end Go.Proofs.YtoajianddmobaaaDoor
