/- THE PLAIN LAW of layer 1: numbers and rows of fields go round. -/
import Derived.Test.YtoajianddmobaaaDoorHd5
namespace Go.Proofs.YtoajianddmobaaaDoor
set_option linter.unusedSimpArgs false
set_option linter.unusedVariables false
set_option maxRecDepth 100000

theorem ofNat_toNat8 (b : UInt8) (n : Nat) (h : n % 256 = b.toNat) : UInt8.ofNat n = b := by
  apply UInt8.toNat_inj.1
  rw [UInt8.toNat_ofNat']
  exact h
theorem val_be (n : Nat) : val (be n) = n := by
  induction n using Nat.strongRecOn with
  | ind n ih =>
    by_cases h : n = 0
    · subst h; rw [be_zero]; rfl
    · rw [be_pos h, val_snoc, ih (n / 256) (by omega), UInt8.toNat_ofNat']
      omega
theorem be_head (n : Nat) : (be n).head? ≠ some 0 := by
  induction n using Nat.strongRecOn with
  | ind n ih =>
    by_cases h : n = 0
    · subst h; rw [be_zero]; simp
    · rw [be_pos h]
      by_cases h2 : n / 256 = 0
      · rw [h2, be_zero]
        intro e
        have e2 : UInt8.ofNat n = 0 := by simpa using e
        have e3 := congrArg UInt8.toNat e2
        rw [UInt8.toNat_ofNat'] at e3
        simp at e3
        omega
      · have hne : be (n / 256) ≠ [] := fun e => by rw [be_pos h2] at e; simp at e
        have := ih (n / 256) (by omega)
        cases hb : be (n / 256) with
        | nil => exact (hne hb).elim
        | cons x r => rw [hb] at this; simpa using this
theorem be_val_rev : ∀ (r : List UInt8), r.reverse.head? ≠ some 0 → be (val r.reverse) = r.reverse
  | [], _ => by simp [val, be_zero]
  | b :: r, h => by
    rw [List.reverse_cons] at h ⊢
    rw [val_snoc]
    have hb := b.toNat_lt
    cases hr : r.reverse with
    | nil =>
      rw [hr] at h
      have hb0 : b ≠ 0 := by intro e; subst e; simp at h
      have hn : b.toNat ≠ 0 := fun e => hb0 (UInt8.toNat_inj.1 (by simpa using e))
      rw [show val [] * 256 + b.toNat = b.toNat by simp [val], be_pos hn, show b.toNat / 256 = 0 by omega, be_zero]
      simp
    | cons x t =>
      have h2 : r.reverse.head? ≠ some 0 := by rw [hr] at h ⊢; simpa using h
      have ih := be_val_rev r h2
      rw [hr] at ih
      have hv : val (x :: t) ≠ 0 := fun e => by rw [e, be_zero] at ih; cases ih
      rw [be_pos (by omega), show (val (x :: t) * 256 + b.toNat) / 256 = val (x :: t) by omega, ih, ofNat_toNat8 b _ (by omega)]
theorem be_val (l : List UInt8) (h : l.head? ≠ some 0) : be (val l) = l := by
  have := be_val_rev l.reverse (by rwa [List.reverse_reverse])
  rwa [List.reverse_reverse] at this
theorem be_len8 (n : Nat) (h : n ≤ 4611686018427387903) : (be n).length ≤ 8 := be_len 8 n (by omega)
/-- The number that is read is laid as the same bytes. -/
theorem num_val {l : List UInt8} (h : valOk l = true) : numB (valN l) = l := by
  have h0 := h
  simp only [valOk, Bool.and_eq_true, bne_iff_ne, ne_eq, decide_eq_true_eq] at h
  rw [valN, if_pos h0, numB, if_pos (by omega), Int.toNat_natCast]
  exact be_val l h.1.2
theorem val_num {n : Int} (h : numOk n = true) : valOk (numB n) = true ∧ valN (numB n) = n := by
  simp only [numOk, Bool.and_eq_true, decide_eq_true_eq] at h
  have h1 : numB n = be n.toNat := by rw [numB, if_pos h]
  have h2 : valOk (be n.toNat) = true := by
    simp only [valOk, Bool.and_eq_true, bne_iff_ne, ne_eq, decide_eq_true_eq]
    refine ⟨⟨be_len8 _ (by omega), be_head _⟩, ?_⟩
    rw [val_be]; omega
  rw [h1]
  refine ⟨h2, ?_⟩
  rw [valN, if_pos h2, val_be]; omega
theorem num_ok {n lo hi : Int} (h : within n lo hi = true) (h0 : 0 ≤ lo) (h1 : hi ≤ 4611686018427387903) : numOk n = true := by
  simp only [within, Bool.and_eq_true, decide_eq_true_eq] at h
  simp only [numOk, Bool.and_eq_true, decide_eq_true_eq]
  omega

/-! Rows. -/
theorem hdr_get (n : Nat) (h : n ≤ 65536) : getN (UInt8.ofNat (n / 65536)) (UInt8.ofNat (n / 256)) (UInt8.ofNat n) = n := by
  unfold getN
  rw [UInt8.toNat_ofNat', UInt8.toNat_ofNat', UInt8.toNat_ofNat']
  omega
theorem tag_ofNat {tag : Int} (h1 : 1 ≤ tag) (h2 : tag ≤ 255) : UInt8.ofNat (tag % 256).toNat ≠ 0 ∧ ((UInt8.ofNat (tag % 256).toNat).toNat : Int) = tag := by
  have e : ((UInt8.ofNat (tag % 256).toNat).toNat : Int) = tag := by
    rw [UInt8.toNat_ofNat']; omega
  refine ⟨fun h => ?_, e⟩
  rw [h] at e
  simp at e
  omega
theorem get_field {tag : Int} {d r : List UInt8} (h1 : 1 ≤ tag) (h2 : tag ≤ 255) (hd : d.length ≤ 65536) : getR (fieldB tag d ++ r) = (⟨tag, str d⟩, 4 + d.length, 0) := by
  obtain ⟨t1, t2⟩ := tag_ofNat h1 h2
  have hn := hdr_get d.length hd
  simp only [fieldB, hdr, List.cons_append, List.nil_append, getR]
  rw [hn, if_neg (by intro h; rcases h with h | h; exact t1 h; omega), if_neg (by rw [List.length_append]; omega), List.take_left, t2]
theorem fieldB_ne (tag : Int) (d r : List UInt8) : fieldB tag d ++ r ≠ [] := by simp [fieldB, hdr]
/-- What is laid is read. -/
theorem read_lay : ∀ (l : List Fld) (last : Int), 0 ≤ last → layE last l = 0 → readE last (layB l) = 0 ∧ readF last (layB l) = l
  | [], last, _, _ => read_nil last
  | f :: l, last, h0, h => by
    by_cases hm : mayP f.tag last f.data.size = 0
    · rw [layE_ok hm] at h
      obtain ⟨m1, m2, m3⟩ := mayP_size hm
      have ih := read_lay l f.tag (by omega) h
      have hb : layB (f :: l) = fieldB f.tag f.data.data.toList ++ layB l := by simp [layB]
      have hsz : f.data.data.toList.length = f.data.size := by simp
      have hg := get_field (tag := f.tag) (d := f.data.data.toList) (r := layB l) (by omega) m3 (by omega)
      rw [str_data] at hg
      have hr := read_ok (last := last) (fieldB_ne _ _ _) hg (by show ¬ f.tag ≤ last; omega)
      have hd : (fieldB f.tag f.data.data.toList ++ layB l).drop (4 + f.data.data.toList.length) = layB l := List.drop_left' (fieldB_len _ _)
      rw [hd] at hr
      rw [hb, hr.1, hr.2]
      exact ⟨ih.1, by rw [ih.2]⟩
    · rw [layE_bad hm] at h
      exact (hm h).elim
theorem readR_lay {l : List Fld} (h : layE 0 l = 0) : readE 0 (layR l) = 0 ∧ readR (layR l) = l := by
  have := read_lay l 0 (Int.le_refl _) h
  rw [layR, if_pos h]
  exact ⟨this.1, by rw [readR, if_pos this.1, this.2]⟩
theorem field_of_get {b : List UInt8} {f : Fld} {n : Nat} (h : getR b = (f, n, 0)) : fieldB f.tag f.data.data.toList ++ b.drop n = b := by
  obtain ⟨t, b1, b2, b3, r, rfl, h1, h2, h3, rfl, rfl⟩ := getR_ok h
  have l1 := t.toNat_lt
  have l2 := b1.toNat_lt
  have l3 := b2.toNat_lt
  have l4 := b3.toNat_lt
  have hl : ((r.take (getN b1 b2 b3)).length) = getN b1 b2 b3 := by rw [List.length_take]; omega
  simp only [fieldB, str_toList, hdr, hl]
  have e0 : UInt8.ofNat (((t.toNat : Nat) : Int) % 256).toNat = t := ofNat_toNat8 t _ (by omega)
  have hN : getN b1 b2 b3 = 65536 * b1.toNat + 256 * b2.toNat + b3.toNat := rfl
  have e1 : UInt8.ofNat (getN b1 b2 b3 / 65536) = b1 := ofNat_toNat8 _ _ (by rw [hN]; omega)
  have e2 : UInt8.ofNat (getN b1 b2 b3 / 256) = b2 := ofNat_toNat8 _ _ (by rw [hN]; omega)
  have e3 : UInt8.ofNat (getN b1 b2 b3) = b3 := ofNat_toNat8 _ _ (by rw [hN]; omega)
  rw [e0, e1, e2, e3]
  simp only [List.cons_append, List.nil_append]
  rw [show 4 + getN b1 b2 b3 = getN b1 b2 b3 + 4 by omega]
  simp only [List.drop_succ_cons]
  rw [List.take_append_drop]
/-- What is read is laid as the same bytes. -/
theorem lay_read (k : Nat) : ∀ (b : List UInt8) (last : Int), b.length ≤ k → readE last b = 0 → layE last (readF last b) = 0 ∧ layB (readF last b) = b := by
  induction k with
  | zero =>
    intro b last hb h
    have : b = [] := List.eq_nil_of_length_eq_zero (by omega)
    subst this
    rw [(read_nil last).2]
    exact ⟨rfl, rfl⟩
  | succ k ih =>
    intro b last hb h
    by_cases h0 : b = []
    · subst h0
      rw [(read_nil last).2]
      exact ⟨rfl, rfl⟩
    · obtain ⟨f, n, er, hG⟩ : ∃ f n er, getR b = (f, n, er) := ⟨_, _, _, rfl⟩
      by_cases her : er = 0
      · subst her
        by_cases ht : f.tag ≤ last
        · rw [(read_low h0 hG ht).1] at h; cases h
        · have hr := read_ok h0 hG ht
          have hn := getR_n hG
          rw [hr.1] at h
          have := ih (b.drop n) f.tag (by rw [List.length_drop]; omega) h
          rw [hr.2, layE_ok (by unfold mayP; rw [if_neg (by omega), if_neg (by omega)])]
          refine ⟨this.1, ?_⟩
          have hb2 : layB (f :: readF f.tag (b.drop n)) = fieldB f.tag f.data.data.toList ++ layB (readF f.tag (b.drop n)) := by simp [layB]
          rw [hb2, this.2, field_of_get hG]
      · rw [(read_bad h0 hG her).1] at h
        exact (her h).elim
theorem layR_read {b : List UInt8} (h : readE 0 b = 0) : layE 0 (readR b) = 0 ∧ layR (readR b) = b := by
  have := lay_read b.length b 0 (Nat.le_refl _) h
  rw [readR, if_pos h]
  exact ⟨this.1, by rw [layR, if_pos this.1, this.2]⟩
end Go.Proofs.YtoajianddmobaaaDoor
