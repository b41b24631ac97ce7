/- CONTRACTS: Value of both packages. -/
import Derived.Test.YtoajianddmobaaaDoorPk
import Derived.Lib.ConvBytes
import Derived.WalkSpells
namespace Go.Proofs.YtoajianddmobaaaDoor
open Go.RowKit
set_option linter.unusedSimpArgs false
set_option linter.unusedVariables false
set_option maxRecDepth 100000

def val (l : List UInt8) : Nat := l.foldl (fun n b => n * 256 + b.toNat) 0
def valOk (l : List UInt8) : Bool := decide (l.length ≤ 8) && (l.head? != some 0) && decide (val l ≤ 4611686018427387903)
def valN (l : List UInt8) : Int := if valOk l then (val l : Int) else 0
theorem val_snoc (l : List UInt8) (b : UInt8) : val (l ++ [b]) = val l * 256 + b.toNat := by simp [val]
theorem foldl_ge : ∀ (l : List UInt8) (n : Nat), n * 256 ^ l.length ≤ l.foldl (fun n b => n * 256 + b.toNat) n
  | [], n => by simp
  | b :: l, n => by
    have h := foldl_ge l (n * 256 + b.toNat)
    simp only [List.foldl_cons, List.length_cons, Nat.pow_succ]
    refine Nat.le_trans ?_ h
    have : n * 256 * 256 ^ l.length ≤ (n * 256 + b.toNat) * 256 ^ l.length := Nat.mul_le_mul_right _ (by omega)
    rw [Nat.mul_comm (256 ^ l.length) 256, ← Nat.mul_assoc]
    exact this
theorem val_take_big (l : List UInt8) (k : Nat) (hk : k < l.length) (h : 18014398509481983 < val (l.take k)) : 4611686018427387903 < val l := by
  have e : val l = (l.drop k).foldl (fun n b => n * 256 + b.toNat) (val (l.take k)) := by
    rw [val, val, ← List.foldl_append, List.take_append_drop]
  have h1 := foldl_ge (l.drop k) (val (l.take k))
  rw [← e, List.length_drop] at h1
  have h2 : 256 ^ 1 ≤ 256 ^ (l.length - k) := Nat.pow_le_pow_right (by omega) (by omega)
  have h3 : 18014398509481984 * 256 ≤ val (l.take k) * 256 ^ (l.length - k) := Nat.mul_le_mul (by omega) (by simpa using h2)
  omega
theorem val_lt (l : List UInt8) : val l < 256 ^ l.length := by
  have : ∀ (l : List UInt8) (n : Nat), l.foldl (fun n b => n * 256 + b.toNat) n < (n + 1) * 256 ^ l.length := by
    intro l
    induction l with
    | nil => intro n; simp
    | cons b l ih =>
      intro n
      simp only [List.foldl_cons, List.length_cons, Nat.pow_succ]
      have h1 := ih (n * 256 + b.toNat)
      have h2 := b.toNat_lt
      have h3 : (n * 256 + b.toNat + 1) * 256 ^ l.length ≤ ((n + 1) * 256) * 256 ^ l.length := Nat.mul_le_mul_right _ (by omega)
      rw [Nat.mul_comm (256 ^ l.length) 256, ← Nat.mul_assoc]
      omega
  simpa [val] using this l 0

theorem value_1 (s : ByteArray) (w : World) (h : 8 < s.size) : Calls Tryd.prog 109 #[.string s] w fun e w' => e = .returned (.tuple #[.int .i64 0, .int .i64 11]) ∧ Grew w w' := by
  go_enter Tryd.func109, Tryd.ntmps109
  go_wp2
  go_ret2
  exact ⟨rfl, Grew.refl _⟩
theorem wrap_i64 (n : Int) (h0 : 0 ≤ n) (h1 : n < 2 ^ 63) : IntKind.i64.wrap n = n := IntWalk.i64_in _ (by omega)
theorem or8 (x y : Int) (h0 : 0 ≤ x) (h1 : x % 256 = 0) (h2 : x < 9223372036854775808) (h3 : 0 ≤ y) (h4 : y < 256) : bits .or .i64 x y = x + y :=
  bits_join .i64 63 (by decide) wrap_i64 8 x y h0 (by simpa using h1) (by omega) h3 (by simpa using h4) (by omega)
theorem wrap64_byte' (b : UInt8) : wrap64 (b.toNat : Int) = (b.toNat : Int) := by
  have := b.toNat_lt
  unfold wrap64
  omega
theorem val_take (l : List UInt8) (k : Nat) (h : k < l.length) : val (l.take (k + 1)) = val (l.take k) * 256 + l[k].toNat := by
  rw [List.take_succ_eq_append_getElem h, val_snoc]
/-- '[]byte(s)'. -/
theorem str_bytes (s : ByteArray) (w : World) : ∃ w1 cap, (convert 9 22 (.string s)).run Tryd.prog w = .ok (.slice (some ⟨w.heap.size, 0, none⟩) s.size cap) w1 ∧ Grew w w1 ∧ CeR encByte w1 (some ⟨w.heap.size, 0, none⟩) s.data.toList := by
  refine ⟨_, _, Lib.run_convert_string_bytes (P := Tryd.prog) w 9 22 5 s (u := .string) (by kernel_rfl) (by kernel_rfl) (by kernel_rfl), ?_, .inr ⟨_, _, rfl, by rw [Lib.bytesWorld_size]; omega, fun k x hx => ?_⟩⟩
  · exact ⟨rfl, rfl, rfl, by rw [Lib.bytesWorld_size]; omega, fun k hk => Lib.bytesWorld_at_old w _ s k hk⟩
  · have hk : k < s.size := by
      have := (List.getElem?_eq_some_iff.1 hx).1
      simpa using this
    rw [Nat.zero_add, Lib.bytesWorld_cell w _ s k hk]
    simp [encByte, List.getD, hx]
theorem str_ne {s : ByteArray} (h : 0 < s.size) : s.toList.isEmpty = false := by
  rw [ByteArray.toList_eq]
  cases hs : s.data.toList with
  | nil =>
    have : s.data.toList.length = 0 := by rw [hs]; rfl
    have : s.size = 0 := by simpa using this
    omega
  | cons x l => rfl
theorem str_head {s : ByteArray} (h : 0 < s.size) : s.data.toList.head? = some s[0] := by
  rw [List.head?_eq_getElem?]
  exact List.getElem?_eq_getElem (by simpa using h)

theorem value_2 (s : ByteArray) (w : World) (h : s.size ≤ 8) (h0 : 0 < s.size) (hz : s.data.toList.head? = some 0) : Calls Tryd.prog 109 #[.string s] w fun e w' => e = .returned (.tuple #[.int .i64 0, .int .i64 11]) ∧ Grew w w' := by
  have hne := str_ne h0
  rw [str_head h0] at hz
  have hz0 : ((s[0].toNat : Int) == 0) = true := by simp [Option.some.inj hz]
  clear hz
  go_enter Tryd.func109, Tryd.ntmps109
  go_wp2
  go_ret2
  exact ⟨rfl, Grew.refl _⟩
theorem value_3 (s : ByteArray) (w : World) (h : s.size ≤ 8) (hz : s.data.toList.head? ≠ some 0) : Calls Tryd.prog 109 #[.string s] w fun e w' => e = .returned (.tuple #[.int .i64 (valN s.data.toList), .int .i64 (errIf 11 (valOk s.data.toList))]) ∧ Grew w w' := by
  obtain ⟨w1, cap, hcv, hg1, hce⟩ := str_bytes s w
  have hif : s.toList.isEmpty = true ∨ ∃ h0 : 0 < s.size, ((s[0].toNat : Int) == 0) = false ∧ s.toList.isEmpty = false := by
    by_cases h0 : 0 < s.size
    · refine .inr ⟨h0, ?_, str_ne h0⟩
      rw [str_head h0] at hz
      have : s[0] ≠ 0 := fun e => hz (by rw [e])
      rw [beq_eq_false_iff_ne]
      intro e
      exact this (UInt8.toNat_inj.1 (by simpa using e))
    · refine .inl ?_
      have h9 : s.data.toList.length = s.size := by simp
      have : s.data.toList.length = 0 := by omega
      rw [ByteArray.toList_eq, List.eq_nil_of_length_eq_zero this]; rfl
  have HZ := Lib.hid hz; clear hz
  rcases hif with he | ⟨h0, hz0, hne⟩
  all_goals
    go_enter Tryd.func109, Tryd.ntmps109
    go_wp2
    go_loop [4, 21] (fun n_ i_ => ∃ k : Nat, k ≤ s.size ∧ i_ = .int .i64 k ∧ n_ = .int .i64 (val (s.data.toList.take k)) ∧ val (s.data.toList.take k) ≤ 4611686018427387903) (fun _ i_ => s.size - (intOf i_).toNat)
    case atStart => exact ⟨0, Nat.zero_le _, rfl, rfl, by simp [val]⟩
    case round =>
      obtain ⟨k, hk, rfl, rfl, hv⟩ := hrel
      by_cases hlt : k < s.size
      · have hk2 : k < s.data.toList.length := by simpa using hlt
        obtain ⟨b, off, hbo, hb, hcell⟩ := hce.at (k := k) (x := s.data.toList[k]) (by simp [hlt])
        cases hbo
        rw [Nat.zero_add] at hcell
        generalize hn : val (s.data.toList.take k) = n at hv
        have HN := Lib.hid hn; clear hn
        go_wp2
        · have hbig : (18014398509481983 : Int) < (n : Int) := by assumption
          go_ret2
          have hno : valOk s.data.toList = false := by
            have := val_take_big s.data.toList k hk2 (by rw [HN.out]; omega)
            simp [valOk]
            intro _ _
            omega
          refine ⟨?_, hg1⟩
          simp only [valN, hno]
          rfl
        · have hsm : (n : Int) ≤ 18014398509481983 := by assumption
          go_round
          case rel =>
            have e := val_take s.data.toList k hk2
            have hb8 := (s.data.toList[k]).toNat_lt
            have eb : (s.data.toList[k]).toNat = s.data[k].toNat := by simp
            refine ⟨k + 1, by omega, by go_num, ?_, by rw [e, HN.out]; omega⟩
            rw [e, HN.out, wrap64_byte', or8 _ _ (by omega) (by omega) (by omega) (by omega) (by omega), eb]
            rfl
          case measure => simp [intOf]; omega
      · have hk3 : k = s.size := by omega
        have ht : s.data.toList.take k = s.data.toList := List.take_of_length_le (by simp; omega)
        rw [ht] at hv ⊢
        have hok : valOk s.data.toList = true := by
          have h9 : s.data.toList.length = s.size := by simp
          simp only [valOk, Bool.and_eq_true, decide_eq_true_eq, bne_iff_ne]
          exact ⟨⟨by omega, HZ.out⟩, hv⟩
        have hfin : valN s.data.toList = (val s.data.toList : Int) ∧ errIf 11 (valOk s.data.toList) = 0 := by simp [valN, hok, errIf]
        have HF := Lib.hid hfin; clear hfin hok ht hk3
        go_wp2
        go_ret2
        refine ⟨?_, hg1⟩
        rw [HF.out.1, HF.out.2]
        rfl

theorem value_call (s : ByteArray) (w : World) : Calls Tryd.prog 109 #[.string s] w fun e w' => e = .returned (.tuple #[.int .i64 (valN s.data.toList), .int .i64 (errIf 11 (valOk s.data.toList))]) ∧ Grew w w' := by
  have h9 : s.data.toList.length = s.size := by simp
  by_cases h8 : 8 < s.size
  · refine (value_1 s w h8).mono ?_
    rintro e w' ⟨rfl, hg⟩
    have hno : valOk s.data.toList = false := by simp only [valOk, h9, decide_eq_false (show ¬ s.size ≤ 8 by omega), Bool.false_and]
    exact ⟨by simp [valN, hno, errIf], hg⟩
  · by_cases hz : s.data.toList.head? = some 0
    · have h0 : 0 < s.size := by
        rcases Nat.eq_zero_or_pos s.size with h | h
        · have h7 : s.data.toList = [] := List.eq_nil_of_length_eq_zero (by omega)
          rw [h7] at hz; cases hz
        · exact h
      refine (value_2 s w (by omega) h0 hz).mono ?_
      rintro e w' ⟨rfl, hg⟩
      have hno : valOk s.data.toList = false := by simp [valOk, hz]
      exact ⟨by simp [valN, hno, errIf], hg⟩
    · exact value_3 s w (by omega) hz

/-! ### The reference's Value and Number -/
theorem rvalue_1 (s : ByteArray) (w : World) (h : 8 < s.size) : Calls Tryd.prog 110 #[.string s] w fun e w' => e = .returned (.tuple #[.int .i64 0, .int .i64 11]) ∧ Grew w w' := by
  go_enter Tryd.func110, Tryd.ntmps110
  go_wp2
  go_ret2
  exact ⟨rfl, Grew.refl _⟩
theorem rvalue_2 (s : ByteArray) (w : World) (h : s.size ≤ 8) (h0 : 0 < s.size) (hz : s.data.toList.head? = some 0) : Calls Tryd.prog 110 #[.string s] w fun e w' => e = .returned (.tuple #[.int .i64 0, .int .i64 11]) ∧ Grew w w' := by
  rw [str_head h0] at hz
  have hz0 : ((s[0].toNat : Int) == 0) = true := by simp [Option.some.inj hz]
  have hp : (0 : Int) < (s.size : Int) := by omega
  clear hz
  go_enter Tryd.func110, Tryd.ntmps110
  go_wp2
  go_ret2
  exact ⟨rfl, Grew.refl _⟩
theorem rvalue_big (s : ByteArray) (w : World) (h0 : 0 < s.size) (h : s.size = 8) (hb : 64 ≤ s[0].toNat) : Calls Tryd.prog 110 #[.string s] w fun e w' => e = .returned (.tuple #[.int .i64 0, .int .i64 11]) ∧ Grew w w' := by
  have hz0 : ((s[0].toNat : Int) == 0) = false := by
    rw [beq_eq_false_iff_ne]; omega
  have h8 : ((s.size : Int) == 8) = true := by rw [beq_iff_eq]; omega
  have h8b : (s.size == 8) = true := by rw [beq_iff_eq]; omega
  have hp : (0 : Int) < (s.size : Int) := by omega
  have hle : (s.size : Int) ≤ 8 := by omega
  have hb2 : (64 : Int) ≤ (s[0].toNat : Int) := by omega
  clear h hb
  go_enter Tryd.func110, Tryd.ntmps110
  go_wp2
  go_ret2
  exact ⟨rfl, Grew.refl _⟩
theorem rvalue_loop (s : ByteArray) (w : World) (h : s.size ≤ 8) (hz : (s.size = 0) ∨ ∃ h0 : 0 < s.size, s[0].toNat ≠ 0 ∧ (s.size = 8 → s[0].toNat < 64)) (hv : val s.data.toList ≤ 4611686018427387903) :
    Calls Tryd.prog 110 #[.string s] w fun e w' => e = .returned (.tuple #[.int .i64 (val s.data.toList), .int .i64 0]) ∧ Grew w w' := by
  have hcase : (decide ((0 : Int) < (s.size : Int)) = false ∧ decide (0 < s.size) = false ∧ ((s.size : Int) == 8) = false) ∨ ∃ h0 : 0 < s.size, ((s[0].toNat : Int) == 0) = false ∧ (((s.size : Int) == 8) = false ∨ ((s.size : Int) == 8) = true ∧ (s[0].toNat : Int) < 64) := by
    rcases hz with hz | ⟨h0, h1, h2⟩
    · exact .inl ⟨decide_eq_false (by omega), decide_eq_false (by omega), by rw [beq_eq_false_iff_ne]; omega⟩
    · refine .inr ⟨h0, by rw [beq_eq_false_iff_ne]; omega, ?_⟩
      by_cases h8 : s.size = 8
      · exact .inr ⟨by rw [beq_iff_eq]; omega, by have := h2 h8; omega⟩
      · exact .inl (by rw [beq_eq_false_iff_ne]; omega)
  have hvk : ∀ k, k < s.size → val (s.data.toList.take (k + 1)) ≤ 4611686018427387903 := by
    intro k hk
    have e : val s.data.toList = (s.data.toList.drop (k + 1)).foldl (fun n b => n * 256 + b.toNat) (val (s.data.toList.take (k + 1))) := by
      rw [val, val, ← List.foldl_append, List.take_append_drop]
    have h1 := foldl_ge (s.data.toList.drop (k + 1)) (val (s.data.toList.take (k + 1)))
    rw [← e] at h1
    have h2 : 1 ≤ 256 ^ (s.data.toList.drop (k + 1)).length := Nat.one_le_pow _ _ (by omega)
    have h3 : val (s.data.toList.take (k + 1)) * 1 ≤ val (s.data.toList.take (k + 1)) * 256 ^ (s.data.toList.drop (k + 1)).length := Nat.mul_le_mul_left _ h2
    omega
  have HV := Lib.hid hvk; clear hvk hz
  rcases hcase with ⟨ha, hb, hc⟩ | ⟨h0, h1, h2 | ⟨h2, h3⟩⟩
  all_goals
    go_enter Tryd.func110, Tryd.ntmps110
    go_wp2
    go_loop [4, 5] (fun n_ i_ => ∃ k : Nat, k ≤ s.size ∧ i_ = .int .i64 k ∧ n_ = .int .i64 (val (s.data.toList.take k))) (fun _ i_ => s.size - (intOf i_).toNat)
    case atStart => exact ⟨0, Nat.zero_le _, rfl, rfl⟩
    case round =>
      obtain ⟨k, hk, rfl, rfl⟩ := hrel
      by_cases hlt : k < s.size
      · have hk2 : k < s.data.toList.length := by simpa using hlt
        have e := val_take s.data.toList k hk2
        have hb8 := (s.data.toList[k]).toNat_lt
        have eb : (s.data.toList[k]).toNat = s[k].toNat := rfl
        have hvv := HV.out k hlt
        rw [eb] at hb8
        have hn : (val (s.data.toList.take k) : Int) ≤ 18014398509481983 := by omega
        have hn0 : (0 : Int) ≤ (val (s.data.toList.take k) : Int) := by omega
        have hb9 : (s[k].toNat : Int) < 256 := by omega
        have E := Lib.hid e; clear e eb hvv hb8
        generalize hnn : val (s.data.toList.take k) = n at hn hn0 E
        have HN := Lib.hid hnn; clear hnn
        go_wp2
        go_round
        case rel =>
          refine ⟨k + 1, by omega, by go_num, ?_⟩
          rw [E.out]
          have eb : (s.data.toList[k]).toNat = s[k].toNat := rfl
          rw [eb]
          congr 1
          omega
        case measure => simp [intOf]; omega
      · have hk3 : k = s.size := by omega
        have ht : s.data.toList.take k = s.data.toList := List.take_of_length_le (by simp; omega)
        have HT := Lib.hid ht; clear ht hk3
        go_wp2
        go_ret2
        refine ⟨?_, Grew.refl _⟩
        rw [HT.out]
        rfl

theorem val_big (l : List UInt8) (h : l.length = 8) (b : UInt8) (hb : l.head? = some b) : 64 ≤ b.toNat ↔ 4611686018427387903 < val l := by
  cases l with
  | nil => cases hb
  | cons x l =>
    simp only [List.head?_cons, Option.some.injEq] at hb
    subst hb
    simp only [List.length_cons] at h
    have h7 : l.length = 7 := by omega
    have h1 := foldl_ge l x.toNat
    have e : val (x :: l) = l.foldl (fun n b => n * 256 + b.toNat) x.toNat := by simp [val]
    have h2 : ∀ (l : List UInt8) (n : Nat), l.foldl (fun n b => n * 256 + b.toNat) n < (n + 1) * 256 ^ l.length := by
      intro l
      induction l with
      | nil => intro n; simp
      | cons b l ih =>
        intro n
        simp only [List.foldl_cons, List.length_cons, Nat.pow_succ]
        have h1 := ih (n * 256 + b.toNat)
        have h2 := b.toNat_lt
        have h3 : (n * 256 + b.toNat + 1) * 256 ^ l.length ≤ ((n + 1) * 256) * 256 ^ l.length := Nat.mul_le_mul_right _ (by omega)
        rw [Nat.mul_comm (256 ^ l.length) 256, ← Nat.mul_assoc]
        omega
    have h3 := h2 l x.toNat
    rw [h7] at h1 h3
    rw [e]
    constructor
    · intro hx; omega
    · intro hx
      rcases Nat.lt_or_ge x.toNat 64 with hlt | hge
      · have : (x.toNat + 1) * 256 ^ 7 ≤ 64 * 256 ^ 7 := Nat.mul_le_mul_right _ (by omega)
        omega
      · exact hge

theorem rvalue_call (s : ByteArray) (w : World) : Calls Tryd.prog 110 #[.string s] w fun e w' => e = .returned (.tuple #[.int .i64 (valN s.data.toList), .int .i64 (errIf 11 (valOk s.data.toList))]) ∧ Grew w w' := by
  have h9 : s.data.toList.length = s.size := by simp
  have bad : ∀ (hno : valOk s.data.toList = false), Calls Tryd.prog 110 #[.string s] w (fun e w' => e = .returned (.tuple #[.int .i64 0, .int .i64 11]) ∧ Grew w w') →
      Calls Tryd.prog 110 #[.string s] w fun e w' => e = .returned (.tuple #[.int .i64 (valN s.data.toList), .int .i64 (errIf 11 (valOk s.data.toList))]) ∧ Grew w w' := by
    intro hno h
    refine h.mono ?_
    rintro e w' ⟨rfl, hg⟩
    exact ⟨by simp [valN, hno, errIf], hg⟩
  by_cases h8 : 8 < s.size
  · exact bad (by simp only [valOk, h9, decide_eq_false (show ¬ s.size ≤ 8 by omega), Bool.false_and]) (rvalue_1 s w h8)
  · by_cases h0 : 0 < s.size
    · by_cases hz : s.data.toList.head? = some 0
      · exact bad (by simp [valOk, hz]) (rvalue_2 s w (by omega) h0 hz)
      · have hz1 : s[0].toNat ≠ 0 := fun e => hz (by rw [str_head h0]; congr 1; exact UInt8.toNat_inj.1 (by simpa using e))
        by_cases hb : s.size = 8 ∧ 64 ≤ s[0].toNat
        · have := (val_big s.data.toList (by omega) s[0] (str_head h0)).1 hb.2
          exact bad (by simp only [valOk, decide_eq_false (show ¬ val s.data.toList ≤ 4611686018427387903 by omega), Bool.and_false]) (rvalue_big s w h0 hb.1 hb.2)
        · have hv : val s.data.toList ≤ 4611686018427387903 := by
            by_cases h88 : s.size = 8
            · have := (val_big s.data.toList (by omega) s[0] (str_head h0))
              omega
            · have h1 := val_lt s.data.toList
              have h2 : 256 ^ s.data.toList.length ≤ 256 ^ 7 := Nat.pow_le_pow_right (by omega) (by omega)
              omega
          have hok : valOk s.data.toList = true := by
            simp only [valOk, Bool.and_eq_true, decide_eq_true_eq, bne_iff_ne]
            exact ⟨⟨by omega, hz⟩, hv⟩
          refine (rvalue_loop s w (by omega) (.inr ⟨h0, hz1, fun e => by omega⟩) hv).mono ?_
          rintro e w' ⟨rfl, hg⟩
          exact ⟨by simp [valN, hok, errIf], hg⟩
    · have hnil : s.data.toList = [] := List.eq_nil_of_length_eq_zero (by omega)
      have hok : valOk s.data.toList = true := by rw [hnil]; rfl
      refine (rvalue_loop s w (by omega) (.inl (by omega)) (by rw [hnil]; simp [val])).mono ?_
      rintro e w' ⟨rfl, hg⟩
      exact ⟨by simp [valN, hok, errIf], hg⟩
end Go.Proofs.YtoajianddmobaaaDoor
