/- copy(d[:], s): a string's bytes into a digest. -/
import Derived.Test.YtoajianddmobaaaDoorHd3
import Derived.Lib.BufferWrite
namespace Go.Proofs.YtoajianddmobaaaDoor
open Go.RowKit
set_option linter.unusedSimpArgs false
set_option linter.unusedVariables false
set_option maxRecDepth 100000

/-- A digest over which a text's first bytes have gone. -/
def digPut (d : Dig) (l : List UInt8) : Dig := Vector.ofFn fun i => if h : i.val < l.length then l[i.val] else d[i]
theorem digPut_toList (d : Dig) (l : List UInt8) : (digPut d l).toList = l.take 32 ++ d.toList.drop (min l.length 32) := by
  apply List.ext_getElem?
  intro i
  by_cases hi : i < 32
  · have h1 : (digPut d l).toList[i]? = some (if h : i < l.length then l[i] else d[i]) := by simp [digPut, hi]
    rw [h1]
    by_cases hl : i < l.length
    · rw [List.getElem?_append_left (by rw [List.length_take]; omega), List.getElem?_take, if_pos hi]
      simp [hl]
    · rw [List.getElem?_append_right (by rw [List.length_take]; omega), List.length_take, List.getElem?_drop, show min l.length 32 + (i - min 32 l.length) = i by omega]
      simp [hl, hi]
  · rw [List.getElem?_eq_none (by simp; omega), List.getElem?_eq_none (by simp; omega)]
theorem digPut_full (d : Dig) (l : List UInt8) (h : l.length = 32) : (digPut d l).toList = l := by
  rw [digPut_toList, List.take_of_length_le (by omega), h, List.drop_of_length_le (by simp)]
  simp
theorem put_dig_list (cur : Array Value) (o : Nat) (d : Dig) (l : List UInt8) (hfit : o + 32 ≤ cur.size) (hcs : encDig d = cur.extract o (o + 32)) :
    (cur.toList.take o ++ (l.take 32).map encByte ++ cur.toList.drop (o + min l.length 32)).toArray = splice cur o (encDig (digPut d l)) := by
  apply Array.ext'
  rw [splice_toList]
  have h1 : (encDig (digPut d l)).toList = (l.take 32).map encByte ++ (d.toList.map encByte).drop (min l.length 32) := by
    rw [encDig, digPut_toList, List.map_append, List.map_drop]
  have h2 : d.toList.map encByte = (cur.toList.drop o).take 32 := by
    have := congrArg Array.toList hcs
    rw [encDig, Array.toList_extract, List.extract_eq_take_drop, show o + 32 - o = 32 by omega] at this
    exact this
  have h3 : cur.toList.length = cur.size := by simp
  have tl : cur.toList.drop (o + min l.length 32) = ((cur.toList.drop o).take 32).drop (min l.length 32) ++ cur.toList.drop (o + 32) := by
    apply List.ext_getElem?
    intro i
    by_cases hi2 : i < 32 - min l.length 32
    · rw [List.getElem?_append_left (by rw [List.length_drop, List.length_take, List.length_drop]; omega), List.getElem?_drop, List.getElem?_drop, List.getElem?_take, if_pos (by omega), List.getElem?_drop]
      exact congrArg (fun k => cur.toList[k]?) (by omega)
    · rw [List.getElem?_append_right (by rw [List.length_drop, List.length_take, List.length_drop]; omega), List.getElem?_drop, List.getElem?_drop, List.length_drop, List.length_take, List.length_drop]
      exact congrArg (fun k => cur.toList[k]?) (by omega)
  rw [h1, h2, encDig_size, tl]
  simp only [List.append_assoc]
theorem run_copy_dig {w : World} {g o : Nat} {d : Dig} (ty : TypeId) (hrow : w.rowAt g o 32 = some (encDig d)) (hfree : w.freeAt g = true) (dCap : Nat) (s : ByteArray) :
    (Builtin.copy_ #[22, 9] ty #[.slice (some ⟨g, o, none⟩) 32 dCap, .string s]).run Tryd.prog w = .ok (.int .i64 (min s.size 32 : Nat)) (w.putRow g o (encDig (digPut d s.data.toList))) := by
  obtain ⟨cur, t, fr, hg, hfit, hcs⟩ := rowAt_some hrow
  have hfr : fr = (0, 0) := by
    unfold World.freeAt at hfree
    rw [hg] at hfree
    obtain ⟨lo, hi⟩ := fr
    simpa using hfree
  subst hfr
  have hu : Tryd.prog.underlying 22 = some (.slice 5) := by kernel_rfl
  have hi : ((Tryd.prog.info? 5).map (·.size)) = some 1 := by kernel_rfl
  have hsl : s.data.toList.length = s.size := by simp
  have hlen : ((s.data.toList.take 32).map encByte).length = min s.size 32 := by rw [List.length_map, List.length_take, hsl, Nat.min_comm]
  have hst := run_storeCells_at Tryd.prog g o t ((s.data.toList.take 32).map encByte) 0 cur w hg (by rw [hlen]; omega) (fun v hv => by obtain ⟨b, _, rfl⟩ := List.mem_map.1 hv; rfl)
  rw [hlen] at hst
  simp only [Nat.add_zero] at hst
  have hworld : w.setRow g (cur.toList.take o ++ (s.data.toList.take 32).map encByte ++ cur.toList.drop (o + min s.size 32)).toArray = w.putRow g o (encDig (digPut d s.data.toList)) := by
    rw [← setRow_eq_putRow hg, ← put_dig_list cur o d s.data.toList hfit hcs, hsl]
  cases hq : Tryd.prog.info? 5 with
  | none => simp [hq] at hi
  | some i =>
    have hmin : Nat.min s.size 32 = min s.size 32 := rfl
    have hi1 : i.size = 1 := by simpa [hq] using hi
    simp [Builtin.copy_, run_underlying hu, Builtin.lenOf, Builtin.firstCells, sizeOf, typeInfo, hq, hmin]
    have hl2 : (List.take (min s.size 32) (List.map (fun b : UInt8 => Value.int IntKind.u8 (b.toNat : Int)) s.data.toList)) = (s.data.toList.take 32).map encByte := by
      rw [List.map_take]
      show List.take (min s.size 32) (s.data.toList.map encByte) = List.take 32 (s.data.toList.map encByte)
      have hm : (s.data.toList.map encByte).length = s.size := by rw [List.length_map, hsl]
      rcases Nat.le_total s.size 32 with h | h
      · rw [Nat.min_eq_left h, List.take_of_length_le (by omega), List.take_of_length_le (by omega)]
      · rw [Nat.min_eq_right h]
    rw [hl2, hst, hworld]
    rfl

/-- The walk's own name for the copy of a text into 32 bytes, so that its simp doesn't open it. -/
def CopyOf (ty : TypeId) (args : Array Value) : Sem Value := Builtin.copy_ #[22, 9] ty args
@[go_sem ↓ high] theorem toCopy (ty : TypeId) (args : Array Value) : Builtin.copy_ #[22, 9] ty args = CopyOf ty args := rfl
open Classical in
noncomputable def digOf? (cs : Array Value) : Option Dig := if h : ∃ d : Dig, cs = encDig d then some h.choose else none
theorem digOf_enc (d : Dig) : digOf? (encDig d) = some d := by
  have h : ∃ d' : Dig, encDig d = encDig d' := ⟨d, rfl⟩
  rw [digOf?, dif_pos h]
  exact congrArg some (encDig_inj _ _ h.choose_spec).symm
noncomputable def copied (cs : Array Value) (s : ByteArray) : Array Value := match digOf? cs with | some d => encDig (digPut d s.data.toList) | none => cs
@[go_sem] theorem copied_enc (d : Dig) (s : ByteArray) : copied (encDig d) s = encDig (digPut d s.data.toList) := by rw [copied, digOf_enc]
@[go_sem] theorem isDig_enc (d : Dig) : (digOf? (encDig d)).isSome = true := by rw [digOf_enc]; rfl
@[go_sem] theorem copyOf_run (ty : TypeId) (w : World) (g o dCap : Nat) (s : ByteArray) :
    (CopyOf ty #[.slice (some ⟨g, o, none⟩) 32 dCap, .string s]).run Tryd.prog w = match w.rowAt g o 32 with
      | some cs => if (digOf? cs).isSome && w.freeAt g then .ok (.int .i64 (min s.size 32 : Nat)) (w.putRow g o (copied cs s)) else (Builtin.copy_ #[22, 9] ty #[.slice (some ⟨g, o, none⟩) 32 dCap, .string s]).run Tryd.prog w
      | none => (Builtin.copy_ #[22, 9] ty #[.slice (some ⟨g, o, none⟩) 32 dCap, .string s]).run Tryd.prog w := by
  cases hr : w.rowAt g o 32 with
  | none => rfl
  | some cs =>
    by_cases hd : ∃ d : Dig, cs = encDig d
    · obtain ⟨d, rfl⟩ := hd
      by_cases hf : w.freeAt g = true
      · simp only [isDig_enc, hf, Bool.and_true, if_true, copied_enc]
        exact run_copy_dig ty hr hf dCap s
      · simp only [hf, Bool.and_false, if_false]
        rfl
    · have : digOf? cs = none := by rw [digOf?, dif_neg hd]
      simp only [this, Option.isSome_none, Bool.false_and, if_false]
      rfl

@[go_sem] theorem rowAt_putRow_same {w : World} {b off n : Nat} {new : Array Value} (h : (w.rowAt b off n).isSome = true) (hn : new.size = n) : (w.putRow b off new).rowAt b off n = some new := by
  cases hr : w.rowAt b off n with
  | none => rw [hr] at h; cases h
  | some cs => exact rowAt_put hr hn
@[go_sem] theorem cell_putRow_ne {w : World} {b off k o : Nat} {new : Array Value} (h : k ≠ b) : (w.putRow b off new).cell? ⟨k, o, none⟩ = w.cell? ⟨k, o, none⟩ := cell_put_far h
@[go_sem] theorem rowAt_putRow_ne {w : World} {b off k o n : Nat} {new : Array Value} (h : k ≠ b) : (w.putRow b off new).rowAt k o n = w.rowAt k o n := rowAt_put_far h
@[go_sem] theorem frozen_putRow_ne {w : World} {b off k o : Nat} {new : Array Value} (h : k ≠ b) : (w.putRow b off new).frozen? ⟨k, o, none⟩ = w.frozen? ⟨k, o, none⟩ := by unfold World.frozen?; simp only [heap_putRow_other h]
@[go_sem] theorem freeAt_putRow_ne {w : World} {b off k : Nat} {new : Array Value} (h : k ≠ b) : (w.putRow b off new).freeAt k = w.freeAt k := by unfold World.freeAt; rw [heap_putRow_other h]
@[go_sem] theorem rowAt_setCell_ne {w : World} {b i k off n : Nat} {v : Value} (h : k ≠ b) : (w.setCell ⟨b, i, none⟩ v).rowAt k off n = w.rowAt k off n := by unfold World.rowAt; rw [Below.heap_setCell _ _ _ _ h]
@[go_sem] theorem freeAt_setCell_ne {w : World} {b i k : Nat} {v : Value} (h : k ≠ b) : (w.setCell ⟨b, i, none⟩ v).freeAt k = w.freeAt k := by unfold World.freeAt; rw [Below.heap_setCell _ _ _ _ h]
end Go.Proofs.YtoajianddmobaaaDoor
