/- CONTRACTS: the reference's Number, May, Bytes; the program's may, put. -/
import Derived.Test.YtoajianddmobaaaDoorApp
namespace Go.Proofs.YtoajianddmobaaaDoor
open Go.RowKit
set_option linter.unusedSimpArgs false
set_option linter.unusedVariables false
set_option maxRecDepth 100000

theorem str_append (a b : List UInt8) : str a ++ str b = str (a ++ b) := by
  apply ByteArray.ext
  simp [str]
theorem rnumber_good (n : Int) (w : World) (h0 : 0 ≤ n) (h1 : n ≤ 4611686018427387903) :
    Calls Tryd.prog 175 #[.int .i64 n] w fun e w' => e = .returned (.tuple #[.string (str (be n.toNat)), .int .i64 0]) ∧ Grew w w' := by
  obtain ⟨N, rfl⟩ := Int.eq_ofNat_of_zero_le h0
  rw [Int.toNat_natCast]
  go_enter Tryd.func175, Tryd.ntmps175
  go_wp2
  go_loopw [0, 4] (fun n_ s_ wr => ∃ (m : Nat) (l : List UInt8), n_ = .int .i64 m ∧ s_ = .string (str l) ∧ be N = be m ++ l ∧ (be m).length + l.length ≤ 8 ∧ m ≤ 4611686018427387903 ∧ Grew w wr) (fun n_ _ _ => (intOf n_).toNat)
  case atStart => exact ⟨N, [], rfl, rfl, by simp, by simpa using be_len 8 N (by omega), by omega, Grew.refl _⟩
  case round =>
    obtain ⟨m, l, rfl, rfl, hb, hbl, hm, hg⟩ := hrel
    have HB := Lib.hid hb; clear hb
    by_cases hpos : 0 < m
    · have hs : CeR encByte (wr.alloc (.cells #[Value.int .u8 ((m : Int) % 256)] 5)) (some ⟨wr.heap.size, 0, none⟩) [UInt8.ofNat m] := .inr ⟨_, _, rfl, by simp, fun k x hx => by
        cases k with
        | zero =>
          simp only [List.getElem?_cons_zero, Option.some.injEq] at hx
          subst hx
          rw [World.cell?_alloc_new, ← encByte_ofNat]
          rfl
        | succ k => simp at hx⟩
      have hcv := bytes_str hs 1
      rw [show [UInt8.ofNat m].length = 1 from rfl] at hcv
      have hsz : ¬ (9223372036854775807 < ((str [UInt8.ofNat m]).size : Int) + ((str l).size : Int)) := by
        rw [str_size, str_size, List.length_singleton]; omega
      have HBL := Lib.hid hbl; clear hbl
      go_wp2
      go_roundw
      case rel =>
        have hbl := HBL.out
        refine ⟨m / 256, UInt8.ofNat m :: l, by rw [Int.natCast_ediv]; rfl, ?_, ?_, ?_, by omega, ?_⟩
        · rw [str_append]; rfl
        · rw [HB.out, be_pos (show m ≠ 0 by omega), List.append_assoc]; rfl
        · rw [be_pos (show m ≠ 0 by omega)] at hbl
          simp at hbl ⊢
          omega
        · (repeat (first | exact Grew.refl _ | refine Grew.alloc ?_ _ | refine Grew.drew ?_ | refine Grew.after (by assumption) ?_ | refine Grew.after (Old.grew (by assumption)) ?_))
      case measure => simp [intOf]; omega
    · have HM : Hid (m = 0) := by show m = 0; omega
      have hd0 : decide (0 < m) = false := decide_eq_false hpos
      have hfin : be N = l := by rw [HB.out, HM.out, be_zero, List.nil_append]
      have HF := Lib.hid hfin; clear hfin
      go_wp2
      go_ret2
      exact ⟨ret_str HF.out.symm, hg⟩
theorem rnumber_bad (n : Int) (w : World) (h : n < 0 ∨ 4611686018427387903 < n) :
    Calls Tryd.prog 175 #[.int .i64 n] w fun e w' => e = .returned (.tuple #[.string (str []), .int .i64 1]) ∧ w = w' := by
  rcases h with h | h
  · go_enter Tryd.func175, Tryd.ntmps175
    go_wp2
    go_ret2
    exact ⟨rfl, rfl⟩
  · have h0 : ¬ n < 0 := by omega
    go_enter Tryd.func175, Tryd.ntmps175
    go_wp2
    go_ret2
    exact ⟨rfl, rfl⟩
theorem rnumber_call (n : Int) (w : World) : Calls Tryd.prog 175 #[.int .i64 n] w fun e w' => e = .returned (.tuple #[.string (str (numB n)), .int .i64 (errIf 1 (numOk n))]) ∧ Grew w w' := by
  by_cases h : 0 ≤ n ∧ n ≤ 4611686018427387903
  · refine (rnumber_good n w h.1 h.2).mono ?_
    rintro e w' ⟨rfl, hg⟩
    exact ⟨by simp [numB, numOk, h, errIf], hg⟩
  · refine (rnumber_bad n w (by omega)).mono ?_
    rintro e w' ⟨rfl, rfl⟩
    refine ⟨?_, Grew.refl _⟩
    have h2 : numOk n = false := by
      simp [numOk]; omega
    simp [numB, h2, h, errIf]
/-- ref07.Number. -/
theorem number07_call (n : Int) (w : World) : Calls Tryd.prog 153 #[.int .i64 n] w fun e w' => e = .returned (.string (str (numB n))) ∧ Grew w w' := by
  go_enter Tryd.func153, Tryd.ntmps153
  go_wp2_with (first | (go_at_call 175; refine (rnumber_call _ _).mono ?_; rintro e w1 ⟨rfl, hg⟩; have hf := hg.facts))
  go_ret
  exact ⟨rfl, by assumption⟩
/-- ref07.Value. -/
theorem value07_call (s : ByteArray) (w : World) : Calls Tryd.prog 58 #[.string s] w fun e w' => e = .returned (.int .i64 (if valOk s.data.toList then valN s.data.toList else -1)) ∧ Grew w w' := by
  cases hv : valOk s.data.toList
  all_goals
    have he : errIf 11 (valOk s.data.toList) = errIf 11 _ := congrArg _ hv
    go_enter Tryd.func58, Tryd.ntmps58
    go_wp2_with (go_at_call 110; refine (rvalue_call _ _).mono ?_; rintro e w1 ⟨rfl, hg⟩; rw [hv]; simp only [errIf])
    go_ret
    exact ⟨rfl, by assumption⟩
/-- entry.number. -/
theorem enumber_call (s : ByteArray) (w : World) : Calls Tryd.prog 55 #[.string s] w fun e w' => e = .returned (.int .i64 (valN s.data.toList)) ∧ Grew w w' := by
  go_enter Tryd.func55, Tryd.ntmps55
  go_wp2_with (first | (go_at_call 109; refine (value_call _ _).mono ?_; rintro e w1 ⟨rfl, hg⟩; have hf := hg.facts))
  go_ret
  exact ⟨rfl, by assumption⟩

/-! ### May, Bytes, may, put -/
def mayE (tag : Int) (n : Nat) : Int := if tag < 1 ∨ 255 < tag then 1 else if 65536 < n then 2 else 0
theorem may01_call (tag : Int) (d : ByteArray) (w : World) : Calls Tryd.prog 151 #[.int .i64 tag, .string d] w fun e w' => e = .returned (.int .i64 (mayE tag d.size)) ∧ w = w' := by
  unfold mayE
  split
  · rename_i h
    rcases h with h | h
    all_goals
      go_enter Tryd.func151, Tryd.ntmps151
      go_wp2
      go_ret
      exact ⟨rfl, rfl⟩
  · split
    all_goals
      have h1 : ¬ tag < 1 := by omega
      have h2 : ¬ 255 < tag := by omega
      go_enter Tryd.func151, Tryd.ntmps151
      go_wp2
      go_ret
      exact ⟨rfl, rfl⟩

/-! Bytes. -/
theorem Grew.trans0 {a b c : World} (h : Grew a b) (k : Below a.heap.size b c) : Grew a c := Below.trans h k
abbrev EB : UInt8 → Array Value := fun b => #[encByte b]
theorem EB1 : Enc1 1 EB := fun x => ⟨rfl, fun u hu => by simp at hu; subst hu; rfl⟩
/-- The slice value v owns the bytes l. -/
abbrev OwnB (base : Nat) (w : World) (v : Value) (l : List UInt8) : Prop := OwnL base 5 1 EB w v l
theorem elemBytes : elemB Tryd.prog 22 5 1 1 = true := by kernel_rfl
theorem strT : Tryd.prog.underlying 9 = some .string := by kernel_rfl
theorem zeroByte : (Tryd.prog.info? 5).bind (·.zero) = some (.int .u8 0) := by kernel_rfl
theorem SlR.ce {w : World} {b off : Nat} {l : List UInt8} (h : SlR 1 EB w (some ⟨b, off, none⟩) l) (hb : b < w.heap.size) : CeR encByte w (some ⟨b, off, none⟩) l :=
  .inr ⟨b, off, rfl, hb, fun k x hx => by have := row_cell0 (h.at hx) (by omega) (v := encByte x) rfl; rwa [Nat.mul_one] at this⟩
theorem CeR.sl {w : World} {a : Option Addr} {l : List UInt8} (h : CeR encByte w a l) : SlR 1 EB w a l := fun k x hx => by
  obtain ⟨b, off, ha, hb, hc⟩ := h.at hx
  refine ⟨b, off, ha, rowAt_of_cells (by omega) rfl fun j u hj => ?_⟩
  cases j with
  | zero => rw [Nat.mul_one, Nat.add_zero, hc]; simpa using hj
  | succ j => simp at hj
theorem OwnL.bytes {base : Nat} {w : World} {v : Value} {l : List UInt8} (h : OwnB base w v l) : ∃ a cap, v = .slice a l.length cap ∧ CeR encByte w a l ∧ l.length ≤ cap ∧ (a = none → l = [] ∧ cap = 0) := by
  obtain ⟨a, cap, hv, hs, hc, hn, hp⟩ := h.form EB1 (by omega)
  cases a with
  | none => exact ⟨none, cap, hv, by rw [(hn rfl).1]; exact CeR.nil, hc, hn⟩
  | some p =>
    rcases h.2 with ⟨rfl, h0⟩ | ⟨g, cap2, cur, rfl, _, hg, _⟩
    · cases hv
    · cases hv
      exact ⟨_, _, rfl, hs.ce (Array.getElem?_eq_some_iff.1 hg).1, hc, hn⟩
def hdr (tag : Int) (n : Nat) : List UInt8 := [UInt8.ofNat (tag % 256).toNat, UInt8.ofNat (n / 65536), UInt8.ofNat (n / 256), UInt8.ofNat n]
def fieldB (tag : Int) (d : List UInt8) : List UInt8 := hdr tag d.length ++ d
theorem encByte_mod (m : Int) (h : 0 ≤ m) : Value.int .u8 (m % 256) = encByte (UInt8.ofNat m.toNat) := by
  obtain ⟨N, rfl⟩ := Int.eq_ofNat_of_zero_le h
  exact encByte_ofNat N
theorem encByte_tag (m : Int) : Value.int .u8 (m % 256) = encByte (UInt8.ofNat (m % 256).toNat) := by
  rw [← encByte_mod _ (by omega)]
  congr 1
  omega
/-- A block of bytes that was just laid. -/
theorem own_block {w : World} {b : Nat} {l : List UInt8} {base : Nat} (h : w.heap[b]? = some (.cells (l.map encByte).toArray 5 (0, 0))) (hb : base ≤ b) (hm : l.length ≤ maxLen) : OwnB base w (.slice (some ⟨b, 0, none⟩) l.length l.length) l := by
  have e : (l.flatMap fun x => (EB x).toList) = l.map encByte := by
    clear h hm
    induction l with
    | nil => rfl
    | cons x l ih => rw [List.flatMap_cons, ih, List.map_cons]; rfl
  refine ⟨by rw [e]; simp, .inr ⟨b, l.length, _, rfl, hb, h, Nat.le_refl _, hm, by simp, ?_⟩⟩
  rw [e, Nat.mul_one]
  simp [List.take_of_length_le]
theorem hdr_cells (tag : Int) (n : Nat) : ((hdr tag n).map encByte).toArray = #[Value.int .u8 (tag % 256), Value.int .u8 ((n : Int) / 65536 % 256), Value.int .u8 ((n : Int) / 256 % 256), Value.int .u8 ((n : Int) % 256)] := by
  have h1 : Value.int .u8 ((n : Int) / 65536 % 256) = encByte (UInt8.ofNat (n / 65536)) := by rw [← encByte_ofNat]; rw [Int.natCast_ediv]; rfl
  have h2 : Value.int .u8 ((n : Int) / 256 % 256) = encByte (UInt8.ofNat (n / 256)) := by rw [← encByte_ofNat]; rw [Int.natCast_ediv]; rfl
  rw [encByte_tag, h1, h2, encByte_ofNat]
  rfl
theorem own_hdr {w : World} {b base : Nat} (tag : Int) (n : Nat) (h : w.heap[b]? = some (.cells #[Value.int .u8 (tag % 256), Value.int .u8 ((n : Int) / 65536 % 256), Value.int .u8 ((n : Int) / 256 % 256), Value.int .u8 ((n : Int) % 256)] 5 (0, 0))) (hb : base ≤ b) :
    OwnB base w (.slice (some ⟨b, 0, none⟩) 4 4) (hdr tag n) := own_block (l := hdr tag n) (by rw [hdr_cells]; exact h) hb (by simp [hdr, maxLen])
theorem bytes01_call (tag : Int) (d : ByteArray) (w : World) (hd : d.size ≤ 1000000000) : Calls Tryd.prog 152 #[.int .i64 tag, .string d] w fun e w' => ∃ v, e = .returned v ∧ OwnB w.heap.size w' v (fieldB tag d.data.toList) ∧ Grew w w' := by
  have hl : (hdr tag d.size).length = 4 := rfl
  go_enter Tryd.func152, Tryd.ntmps152
  go_wp2_with (at_builtin; refine wpList_app_str (base := w.heap.size) rfl _ _ rfl elemBytes strT zeroByte (by rfl) (own_hdr tag d.size (heap_alloc_new _ _) (Nat.le_refl _)) (by rfl) (by omega) (by simp) ?_; intro v' w' hap)
  go_ret
  refine ⟨_, rfl, ?_, ?_⟩
  · have := hap.1
    rw [show d.size = d.data.toList.length by simp] at this
    exact this
  · exact ((Grew.refl _).alloc _).trans0 hap.2.2.2.1
end Go.Proofs.YtoajianddmobaaaDoor
