/- CONTRACTS of layer 1 (pack): numbers and rows of fields. First the plain data: bytes as lists. -/
import Derived.Test.YtoajianddmobaaaDoorSl2
namespace Go.Proofs.YtoajianddmobaaaDoor
open Go.RowKit
set_option linter.unusedSimpArgs false
set_option linter.unusedVariables false

/-- The bytes of a number, the highest first, no zero ahead. -/
def be (n : Nat) : List UInt8 := if h : n = 0 then [] else be (n / 256) ++ [UInt8.ofNat n]
theorem be_zero : be 0 = [] := by unfold be; simp
theorem be_pos {n : Nat} (h : n ≠ 0) : be n = be (n / 256) ++ [UInt8.ofNat n] := by rw [be]; simp [h]
theorem be_len : ∀ (k n : Nat), n < 256 ^ k → (be n).length ≤ k
  | 0, n, h => by
    have : n = 0 := by simpa using h
    subst this; simp [be_zero]
  | k + 1, n, h => by
    by_cases h0 : n = 0
    · subst h0; simp [be_zero]
    · rw [be_pos h0]
      have := be_len k (n / 256) (by rw [Nat.div_lt_iff_lt_mul (by omega)]; rw [Nat.pow_succ] at h; exact h)
      simp; omega
def str (l : List UInt8) : ByteArray := ⟨l.toArray⟩
theorem str_toList (l : List UInt8) : (str l).data.toList = l := rfl
theorem str_size (l : List UInt8) : (str l).size = l.length := by simp [str, ByteArray.size]
theorem str_data (s : ByteArray) : str s.data.toList = s := by cases s; rfl
theorem str_inj {a b : List UInt8} (h : str a = str b) : a = b := by
  have := congrArg (fun s => s.data.toList) h
  simpa [str] using this

@[go_sem] theorem encByte_int (b : UInt8) : encByte b = .int .u8 (b.toNat : Int) := rfl
/-- A slice's cells, one an element. -/
def CeR {α : Type} (f : α → Value) (w : World) (a : Option Addr) (l : List α) : Prop :=
  (a = none ∧ l = []) ∨ ∃ b off, a = some ⟨b, off, none⟩ ∧ b < w.heap.size ∧ ∀ k x, l[k]? = some x → w.cell? ⟨b, off + k, none⟩ = some (f x)
section
variable {α : Type} {f : α → Value} {w w' : World} {a : Option Addr} {l : List α}
theorem CeR.nil : CeR f w none [] := .inl ⟨rfl, rfl⟩
theorem CeR.grew (h : CeR f w a l) (g : Grew w w') : CeR f w' a l := by
  rcases h with h | ⟨b, off, ha, hb, hc⟩
  · exact .inl h
  · exact .inr ⟨b, off, ha, Nat.lt_of_lt_of_le hb g.le, fun k x hx => by rw [g.facts.1 _ _ hb]; exact hc k x hx⟩
theorem CeR.at (h : CeR f w a l) {k : Nat} {x : α} (hx : l[k]? = some x) : ∃ b off, a = some ⟨b, off, none⟩ ∧ b < w.heap.size ∧ w.cell? ⟨b, off + k, none⟩ = some (f x) := by
  rcases h with ⟨_, rfl⟩ | ⟨b, off, ha, hb, hc⟩
  · simp at hx
  · exact ⟨b, off, ha, hb, hc k x hx⟩
theorem CeR.drop (h : CeR f w a l) {b off : Nat} (ha : a = some ⟨b, off, none⟩) (n : Nat) : CeR f w (some ⟨b, off + n, none⟩) (l.drop n) := by
  rcases h with ⟨rfl, _⟩ | ⟨b2, off2, ha2, hb, hc⟩
  · cases ha
  · rw [ha] at ha2
    cases ha2
    exact .inr ⟨b, off + n, rfl, hb, fun k x hx => by rw [Nat.add_assoc]; exact hc (n + k) x (by simpa using hx)⟩
theorem CeR.take (h : CeR f w a l) (n : Nat) (hn : a ≠ none) : CeR f w a (l.take n) := by
  rcases h with ⟨rfl, _⟩ | ⟨b2, off2, ha2, hb, hc⟩
  · exact (hn rfl).elim
  · exact .inr ⟨b2, off2, ha2, hb, fun k x hx => by
      rw [List.getElem?_take] at hx
      split at hx
      · exact hc k x hx
      · cases hx⟩
end
theorem bytes_str {w : World} {a : Option Addr} {l : List UInt8} (h : CeR encByte w a l) (cap : Nat) : (convert 22 9 (.slice a l.length cap)).run Tryd.prog w = .ok (.string (str l)) w := by
  rcases h with ⟨rfl, rfl⟩ | ⟨b, off, rfl, _, hc⟩
  · exact run_convert_bytes_nil w 22 5 (by kernel_rfl) (by kernel_rfl) _ _ 9 (by kernel_rfl)
  · have := run_convert_bytes_arg (P := Tryd.prog) w 22 5 (by kernel_rfl) (by kernel_rfl) b off l.length cap (l.map fun b => (b.toNat : Int)) (by simp) (fun i hi => by
      rw [hc i l[i] (by simp [hi])]
      simp [encByte, List.getD, hi]) 9 (by kernel_rfl)
    have e : strOfNums (l.map fun b => (b.toNat : Int)) = str l := by
      unfold strOfNums str
      rw [List.map_map, show ((fun n : Int => UInt8.ofNat n.toNat) ∘ fun b : UInt8 => (b.toNat : Int)) = id from by funext b; simp]
      simp
    rw [this, e]

theorem encByte_ofNat (m : Nat) : Value.int .u8 ((m : Int) % 256) = encByte (UInt8.ofNat m) := by
  simp only [encByte, UInt8.toNat_ofNat']
  rfl
theorem bytes_set (l : List UInt8) (i : Nat) (b : UInt8) : (l.map encByte).toArray.setIfInBounds i (encByte b) = ((l.set i b).map encByte).toArray := by simp [List.map_set]
theorem drop_set (l : List UInt8) (k : Nat) (b : UInt8) (h : k - 1 < l.length) (hk : 1 ≤ k) : (l.set (k - 1) b).drop (k - 1) = b :: l.drop k := by
  rw [List.drop_eq_getElem_cons (by simpa using h)]
  simp only [List.getElem_set_self, show k - 1 + 1 = k by omega, List.cons.injEq, true_and]
  rw [List.drop_set_of_lt (by omega)]

theorem ret_str {a b : List UInt8} {n : Int} (h : a = b) : Ending.returned (.tuple #[.string (str a), .int .i64 n]) = .returned (.tuple #[.string (str b), .int .i64 n]) := by rw [h]

/-! ### Number -/
theorem number_bad (n : Int) (w : World) (h : n < 0 ∨ 4611686018427387903 < n) :
    Calls Tryd.prog 123 #[.int .i64 n] w fun e w' => e = .returned (.tuple #[.string (str []), .int .i64 1]) ∧ w = w' := by
  rcases h with h | h
  · go_enter Tryd.func123, Tryd.ntmps123
    go_wp2
    go_ret2
    exact ⟨rfl, rfl⟩
  · have h0 : ¬ n < 0 := by omega
    go_enter Tryd.func123, Tryd.ntmps123
    go_wp2
    go_ret2
    exact ⟨rfl, rfl⟩
set_option maxHeartbeats 1000000 in
set_option maxRecDepth 100000 in
theorem number_good (n : Int) (w : World) (h0 : 0 ≤ n) (h1 : n ≤ 4611686018427387903) :
    Calls Tryd.prog 123 #[.int .i64 n] w fun e w' => e = .returned (.tuple #[.string (str (be n.toNat)), .int .i64 0]) ∧ Grew w w' := by
  obtain ⟨N, rfl⟩ := Int.eq_ofNat_of_zero_le h0
  rw [Int.toNat_natCast]
  go_enter Tryd.func123, Tryd.ntmps123
  go_wp2
  go_loopw [0, 5] (fun n_ at_ wr => ∃ (m at' : Nat) (l : List UInt8), at' ≤ 8 ∧ n_ = .int .i64 m ∧ at_ = .int .i64 at' ∧ l.length = 8 ∧ wr.heap[w.heap.size]? = some (.cells (l.map encByte).toArray 207 (0, 0)) ∧ be N = be m ++ l.drop at' ∧ (be m).length ≤ at' ∧ m ≤ 4611686018427387903 ∧ Grew w wr) (fun n_ _ _ => (intOf n_).toNat)
  case atStart => exact ⟨N, 8, [0, 0, 0, 0, 0, 0, 0, 0], by omega, rfl, rfl, rfl, heap_alloc_new _ _, by simp, be_len 8 N (by omega), by omega, (Grew.refl _).alloc _⟩
  case round =>
    obtain ⟨m, k, l, hk, rfl, rfl, hl, hh, hb, hbl, hm, hg⟩ := hrel
    obtain ⟨hf1, hf2, hf3, hf4, hf5⟩ := blk_facts hh
    have HB := Lib.hid hb
    have HH := Lib.hid hh
    have HL := Lib.hid hl
    clear hb hh hl
    by_cases h0 : 0 < m
    · have hpos : 1 ≤ k := by
        rw [be_pos (by omega)] at hbl
        simp at hbl
        omega
      have hk1 : ((k : Int) - 1).toNat = k - 1 := by omega
      have hk2 : (1 : Int) ≤ (k : Int) := by omega
      have hk3 : (k : Int) - 1 < 8 := by omega
      have hcell : wr.cell? ⟨w.heap.size, k - 1, none⟩ = some (encByte (l[k - 1]'(by have := HL.out; omega))) := by
        rw [hf1]
        simp [show k - 1 < l.length by have := HL.out; omega]
      clear hf1
      go_wp2
      go_roundw
      case rel =>
        have hb := HB.out
        refine ⟨m / 256, k - 1, l.set (k - 1) (UInt8.ofNat m), by omega, by rw [Int.natCast_ediv]; rfl, by rw [show ((k : Int) - 1) = ((k - 1 : Nat) : Int) by omega], by rw [List.length_set]; exact HL.out, ?_, ?_, ?_, by omega, hg.setCell (Nat.le_refl _) _⟩
        · rw [encByte_ofNat, heap_setCell_same _ _ _ _ _ _ HH.out, bytes_set]
        · rw [hb, be_pos (show m ≠ 0 by omega), drop_set l k _ (by have := HL.out; omega) hpos, List.append_assoc]; rfl
        · rw [be_pos (by omega)] at hbl
          simp at hbl
          omega
      case measure => simp [intOf]; omega
    · have HM : Hid (m = 0) := by show m = 0; omega
      have hd0 : decide (0 < m) = false := decide_eq_false h0
      have hs : CeR encByte wr (some ⟨w.heap.size, k, none⟩) (l.drop k) := .inr ⟨_, _, rfl, hf5, fun j x hx => by
        rw [hf1]
        simp at hx
        simp [hx]⟩
      have hcv := bytes_str hs (8 - k)
      rw [List.length_drop, HL.out] at hcv
      have hs0 : CeR encByte wr (some ⟨w.heap.size, 0, none⟩) ([] : List UInt8) := .inr ⟨_, _, rfl, hf5, fun j x hx => by simp at hx⟩
      have hcv0 := bytes_str hs0 0
      rw [List.length_nil] at hcv0
      have hk3 : (0 : Int) ≤ (k : Int) := by omega
      have hk4 : (k : Int) ≤ 8 := by omega
      clear hf1
      have hfin : be N = l.drop k := by rw [HB.out, HM.out, be_zero, List.nil_append]
      have HF := Lib.hid hfin; clear hfin
      go_wp2
      · go_ret2
        refine ⟨ret_str ?_, hg⟩
        have h8 : k = 8 := by omega
        rw [HF.out, List.drop_of_length_le (by rw [HL.out]; omega)]
      · go_ret2
        exact ⟨ret_str HF.out.symm, hg⟩

/-- What Number comes to. -/
def numOk (n : Int) : Bool := decide (0 ≤ n) && decide (n ≤ 4611686018427387903)
def numB (n : Int) : List UInt8 := if 0 ≤ n ∧ n ≤ 4611686018427387903 then be n.toNat else []
theorem number_call (n : Int) (w : World) : Calls Tryd.prog 123 #[.int .i64 n] w fun e w' => e = .returned (.tuple #[.string (str (numB n)), .int .i64 (errIf 1 (numOk n))]) ∧ Grew w w' := by
  by_cases h : 0 ≤ n ∧ n ≤ 4611686018427387903
  · refine (number_good n w h.1 h.2).mono ?_
    rintro e w' ⟨rfl, hg⟩
    exact ⟨by simp [numB, numOk, h, errIf], hg⟩
  · refine (number_bad n w (by omega)).mono ?_
    rintro e w' ⟨rfl, rfl⟩
    refine ⟨?_, Grew.refl _⟩
    have h2 : numOk n = false := by
      simp [numOk]; omega
    simp [numB, h2, h, errIf]
end Go.Proofs.YtoajianddmobaaaDoor
