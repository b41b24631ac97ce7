/- A struct that came in is one of ours: its cells are the encoding of a Lean value. Written by genopen.py (own work). -/
import Derived.Test.YtoajianddmobaaaDoorTyp
import Derived.Test.YtoajianddmobaaaDoorRows
import Derived.ProofKit
import Derived.OpenShut
import Derived.ShutString
import Derived.ChangeOld
import Derived.Carry
import Derived.Lay
namespace Go.Proofs.YtoajianddmobaaaDoor
open Go.RowKit
set_option linter.unusedSimpArgs false
set_option linter.unusedVariables false
set_option maxRecDepth 100000

section
variable {H : Type} {enc : TypeId × Value → H} {P : Program} {w : World} {base : Nat} {sp : Nat → Bool} {held : Bool} {fuel : Nat} {t : TypeId} {cs : List Value} {x : DataW H × List MemPlace}
def fldAt (P : Program) (t : TypeId) (i : Nat) : Option (TypeId × Nat × Nat) := match P.underlying t with
  | some (.struct fs) => fs[i]?.map fun f => (f.type, f.offset, P.cellsOf f.type)
  | _ => none
theorem open_part {i o n : Nat} {ty : TypeId} (hf : fldAt P t i = some (ty, o, n)) (h : DataW.trod enc P w base sp held fuel t cs = some x) :
    ∃ m y, DataW.trod enc P w base sp held m ty ((cs.drop o).take n) = some y ∧ cs.length = P.cellsOf t := by
  unfold fldAt at hf
  split at hf
  · rename_i fs hu
    simp only [Option.map_eq_some_iff, Prod.mk.injEq] at hf
    obtain ⟨f, h1, rfl, rfl, rfl⟩ := hf
    obtain ⟨xs, m, _, _, hl, hxs, hel⟩ := DataW.trod_struct hu h
    have hi : i < xs.length := by rw [hxs]; exact (Array.getElem?_eq_some_iff.1 h1).1
    exact ⟨m, xs[i], by rw [hel i f h1]; simp [hi], hl⟩
  · cases hf
theorem cut_at {α : Type} (cs : List α) (o n m : Nat) (h : o + n = m) : cs.drop o = (cs.drop o).take n ++ cs.drop m := by
  subst h
  rw [← List.drop_drop, List.take_append_drop]
end
theorem open_dig {H : Type} {enc : TypeId × Value → H} {w : World} {base : Nat} {sp : Nat → Bool} {held : Bool} {fuel : Nat} {cs : List Value} {x : DataW H × List MemPlace}
    (h : DataW.trod enc Tryd.prog w base sp held fuel 25 cs = some x) : ∃ d : Dig, cs = (encDig d).toList := by
  obtain ⟨xs, m, _, _, hl, hxs, hel⟩ := DataW.trod_array (n := 32) (e := 5) (show Tryd.prog.underlying 25 = some (.array 32 5) by kernel_rfl) h
  have hc : Tryd.prog.cellsOf 5 = 1 := by kernel_rfl
  have hl32 : cs.length = 32 := by rw [hl]; kernel_rfl
  have hb : ∀ i : Nat, i < 32 → ∃ b : UInt8, cs[i]? = some (encByte b) := by
    intro i hi
    have h1 := hel i hi
    rw [hc, Nat.mul_one] at h1
    obtain ⟨y, hy⟩ : ∃ y, xs[i]? = some y := ⟨xs[i]'(by omega), by simp [hxs, hi]⟩
    rw [hy] at h1
    obtain ⟨n, h2, -, hw⟩ := DataW.trod_int (k := .u8) (show Tryd.prog.underlying 5 = some (.int .u8) by kernel_rfl) h1
    have hn : 0 ≤ n ∧ n ≤ 255 := by simpa [Lit.wf, IntKind.min, IntKind.max, IntKind.signed, IntKind.bits] using hw
    refine ⟨UInt8.ofNat n.toNat, ?_⟩
    have h3 : (cs.drop i).take 1 = [cs[i]'(by omega)] := by
      rw [List.drop_eq_getElem_cons (by omega)]
      rfl
    rw [h3] at h2
    rw [List.getElem?_eq_getElem (by omega)]
    simp only [List.cons.injEq, and_true] at h2
    rw [h2, encByte, UInt8.toNat_ofNat']
    congr 2
    omega
  refine ⟨Vector.ofFn fun i => Classical.choose (hb i.val i.isLt), ?_⟩
  apply List.ext_getElem?
  intro i
  by_cases hi : i < 32
  · rw [Classical.choose_spec (hb i hi)]
    simp [encDig, hi]
  · rw [List.getElem?_eq_none (by omega), List.getElem?_eq_none (by simp; omega)]
theorem open_Head {H : Type} {enc : TypeId × Value → H} {w : World} {base : Nat} {sp : Nat → Bool} {held : Bool} {fuel : Nat} {cs : List Value} {x : DataW H × List MemPlace}
    (h : DataW.trod enc Tryd.prog w base sp held fuel 33 cs = some x) : ∃ v : Head, cs = (encHead v).toList := by
  obtain ⟨m0, y0, p0, hl⟩ := open_part (i := 0) (o := 0) (n := 1) (ty := 3) (show fldAt Tryd.prog 33 0 = _ by kernel_rfl) h
  obtain ⟨v0, q0, -, -⟩ := DataW.trod_int (k := .i64) (show Tryd.prog.underlying 3 = some (.int .i64) by kernel_rfl) p0
  obtain ⟨m1, y1, p1, hl⟩ := open_part (i := 1) (o := 1) (n := 1) (ty := 3) (show fldAt Tryd.prog 33 1 = _ by kernel_rfl) h
  obtain ⟨v1, q1, -, -⟩ := DataW.trod_int (k := .i64) (show Tryd.prog.underlying 3 = some (.int .i64) by kernel_rfl) p1
  obtain ⟨m2, y2, p2, hl⟩ := open_part (i := 2) (o := 2) (n := 1) (ty := 3) (show fldAt Tryd.prog 33 2 = _ by kernel_rfl) h
  obtain ⟨v2, q2, -, -⟩ := DataW.trod_int (k := .i64) (show Tryd.prog.underlying 3 = some (.int .i64) by kernel_rfl) p2
  obtain ⟨m3, y3, p3, hl⟩ := open_part (i := 3) (o := 3) (n := 32) (ty := 25) (show fldAt Tryd.prog 33 3 = _ by kernel_rfl) h
  obtain ⟨v3, q3⟩ := open_dig p3
  obtain ⟨m4, y4, p4, hl⟩ := open_part (i := 4) (o := 35) (n := 1) (ty := 3) (show fldAt Tryd.prog 33 4 = _ by kernel_rfl) h
  obtain ⟨v4, q4, -, -⟩ := DataW.trod_int (k := .i64) (show Tryd.prog.underlying 3 = some (.int .i64) by kernel_rfl) p4
  have hc : Tryd.prog.cellsOf 33 = 36 := by kernel_rfl
  rw [hc] at hl
  have c0 := cut_at cs 0 1 1 rfl
  rw [q0] at c0
  have c1 := cut_at cs 1 1 2 rfl
  rw [q1] at c1
  have c2 := cut_at cs 2 1 3 rfl
  rw [q2] at c2
  have c3 := cut_at cs 3 32 35 rfl
  rw [q3] at c3
  have c4 := cut_at cs 35 1 36 rfl
  rw [q4] at c4
  have c5 : cs.drop 36 = [] := List.drop_eq_nil_of_le (by omega)
  refine ⟨⟨v0, v1, v2, v3, v4⟩, ?_⟩
  have e : cs = cs.drop 0 := rfl
  rw [c0, c1, c2, c3, c4, c5] at e
  rw [e]
  simp [encHead, ap]
theorem arg_Head {H : Type} {enc : TypeId × Value → H} {w W : World} {r : Reach} {b0 base : Nat} {sp : Nat → Bool} {held : Bool} {v : Value} {d : DataW H} {p : List MemPlace}
    (hv : Value.okWide Tryd.prog W r b0 33 v) (h : DataW.Trod enc Tryd.prog w base sp held 33 v d p) : ∃ x : Head, v = .agg (encHead x) := by
  obtain ⟨cs, rfl, -⟩ := WideShapes.okWide_struct Tryd.underlying33 hv
  obtain ⟨fuel, h⟩ := h
  obtain ⟨x, hx⟩ := open_Head h
  exact ⟨x, congrArg Value.agg (Array.toList_inj.1 hx)⟩
theorem open_Signed {H : Type} {enc : TypeId × Value → H} {w : World} {base : Nat} {sp : Nat → Bool} {held : Bool} {fuel : Nat} {cs : List Value} {x : DataW H × List MemPlace}
    (h : DataW.trod enc Tryd.prog w base sp held fuel 35 cs = some x) : ∃ v : Signed, cs = (encSigned v).toList := by
  obtain ⟨m0, y0, p0, hl⟩ := open_part (i := 0) (o := 0) (n := 36) (ty := 33) (show fldAt Tryd.prog 35 0 = _ by kernel_rfl) h
  obtain ⟨v0, q0⟩ := open_Head p0
  obtain ⟨m1, y1, p1, hl⟩ := open_part (i := 1) (o := 36) (n := 1) (ty := 3) (show fldAt Tryd.prog 35 1 = _ by kernel_rfl) h
  obtain ⟨v1, q1, -, -⟩ := DataW.trod_int (k := .i64) (show Tryd.prog.underlying 3 = some (.int .i64) by kernel_rfl) p1
  obtain ⟨m2, y2, p2, hl⟩ := open_part (i := 2) (o := 37) (n := 32) (ty := 25) (show fldAt Tryd.prog 35 2 = _ by kernel_rfl) h
  obtain ⟨v2, q2⟩ := open_dig p2
  have hc : Tryd.prog.cellsOf 35 = 69 := by kernel_rfl
  rw [hc] at hl
  have c0 := cut_at cs 0 36 36 rfl
  rw [q0] at c0
  have c1 := cut_at cs 36 1 37 rfl
  rw [q1] at c1
  have c2 := cut_at cs 37 32 69 rfl
  rw [q2] at c2
  have c3 : cs.drop 69 = [] := List.drop_eq_nil_of_le (by omega)
  refine ⟨⟨v0, v1, v2⟩, ?_⟩
  have e : cs = cs.drop 0 := rfl
  rw [c0, c1, c2, c3] at e
  rw [e]
  simp [encSigned, ap]
theorem arg_Signed {H : Type} {enc : TypeId × Value → H} {w W : World} {r : Reach} {b0 base : Nat} {sp : Nat → Bool} {held : Bool} {v : Value} {d : DataW H} {p : List MemPlace}
    (hv : Value.okWide Tryd.prog W r b0 35 v) (h : DataW.Trod enc Tryd.prog w base sp held 35 v d p) : ∃ x : Signed, v = .agg (encSigned x) := by
  obtain ⟨cs, rfl, -⟩ := WideShapes.okWide_struct Tryd.underlying35 hv
  obtain ⟨fuel, h⟩ := h
  obtain ⟨x, hx⟩ := open_Signed h
  exact ⟨x, congrArg Value.agg (Array.toList_inj.1 hx)⟩
theorem open_Claim {H : Type} {enc : TypeId × Value → H} {w : World} {base : Nat} {sp : Nat → Bool} {held : Bool} {fuel : Nat} {cs : List Value} {x : DataW H × List MemPlace}
    (h : DataW.trod enc Tryd.prog w base sp held fuel 27 cs = some x) : ∃ v : Claim, cs = (encClaim v).toList := by
  obtain ⟨m0, y0, p0, hl⟩ := open_part (i := 0) (o := 0) (n := 1) (ty := 3) (show fldAt Tryd.prog 27 0 = _ by kernel_rfl) h
  obtain ⟨v0, q0, -, -⟩ := DataW.trod_int (k := .i64) (show Tryd.prog.underlying 3 = some (.int .i64) by kernel_rfl) p0
  obtain ⟨m1, y1, p1, hl⟩ := open_part (i := 1) (o := 1) (n := 1) (ty := 3) (show fldAt Tryd.prog 27 1 = _ by kernel_rfl) h
  obtain ⟨v1, q1, -, -⟩ := DataW.trod_int (k := .i64) (show Tryd.prog.underlying 3 = some (.int .i64) by kernel_rfl) p1
  obtain ⟨m2, y2, p2, hl⟩ := open_part (i := 2) (o := 2) (n := 1) (ty := 3) (show fldAt Tryd.prog 27 2 = _ by kernel_rfl) h
  obtain ⟨v2, q2, -, -⟩ := DataW.trod_int (k := .i64) (show Tryd.prog.underlying 3 = some (.int .i64) by kernel_rfl) p2
  obtain ⟨m3, y3, p3, hl⟩ := open_part (i := 3) (o := 3) (n := 1) (ty := 3) (show fldAt Tryd.prog 27 3 = _ by kernel_rfl) h
  obtain ⟨v3, q3, -, -⟩ := DataW.trod_int (k := .i64) (show Tryd.prog.underlying 3 = some (.int .i64) by kernel_rfl) p3
  obtain ⟨m4, y4, p4, hl⟩ := open_part (i := 4) (o := 4) (n := 32) (ty := 25) (show fldAt Tryd.prog 27 4 = _ by kernel_rfl) h
  obtain ⟨v4, q4⟩ := open_dig p4
  have hc : Tryd.prog.cellsOf 27 = 36 := by kernel_rfl
  rw [hc] at hl
  have c0 := cut_at cs 0 1 1 rfl
  rw [q0] at c0
  have c1 := cut_at cs 1 1 2 rfl
  rw [q1] at c1
  have c2 := cut_at cs 2 1 3 rfl
  rw [q2] at c2
  have c3 := cut_at cs 3 1 4 rfl
  rw [q3] at c3
  have c4 := cut_at cs 4 32 36 rfl
  rw [q4] at c4
  have c5 : cs.drop 36 = [] := List.drop_eq_nil_of_le (by omega)
  refine ⟨⟨v0, v1, v2, v3, v4⟩, ?_⟩
  have e : cs = cs.drop 0 := rfl
  rw [c0, c1, c2, c3, c4, c5] at e
  rw [e]
  simp [encClaim, ap]
theorem arg_Claim {H : Type} {enc : TypeId × Value → H} {w W : World} {r : Reach} {b0 base : Nat} {sp : Nat → Bool} {held : Bool} {v : Value} {d : DataW H} {p : List MemPlace}
    (hv : Value.okWide Tryd.prog W r b0 27 v) (h : DataW.Trod enc Tryd.prog w base sp held 27 v d p) : ∃ x : Claim, v = .agg (encClaim x) := by
  obtain ⟨cs, rfl, -⟩ := WideShapes.okWide_struct Tryd.underlying27 hv
  obtain ⟨fuel, h⟩ := h
  obtain ⟨x, hx⟩ := open_Claim h
  exact ⟨x, congrArg Value.agg (Array.toList_inj.1 hx)⟩
theorem open_Entry {H : Type} {enc : TypeId × Value → H} {w : World} {base : Nat} {sp : Nat → Bool} {held : Bool} {fuel : Nat} {cs : List Value} {x : DataW H × List MemPlace}
    (h : DataW.trod enc Tryd.prog w base sp held fuel 37 cs = some x) : ∃ v : Entry, cs = (encEntry v).toList := by
  obtain ⟨m0, y0, p0, hl⟩ := open_part (i := 0) (o := 0) (n := 1) (ty := 31) (show fldAt Tryd.prog 37 0 = _ by kernel_rfl) h
  obtain ⟨v0, q0, -, -⟩ := DataW.trod_int (k := .i64) (show Tryd.prog.underlying 31 = some (.int .i64) by kernel_rfl) p0
  obtain ⟨m1, y1, p1, hl⟩ := open_part (i := 1) (o := 1) (n := 1) (ty := 3) (show fldAt Tryd.prog 37 1 = _ by kernel_rfl) h
  obtain ⟨v1, q1, -, -⟩ := DataW.trod_int (k := .i64) (show Tryd.prog.underlying 3 = some (.int .i64) by kernel_rfl) p1
  obtain ⟨m2, y2, p2, hl⟩ := open_part (i := 2) (o := 2) (n := 1) (ty := 3) (show fldAt Tryd.prog 37 2 = _ by kernel_rfl) h
  obtain ⟨v2, q2, -, -⟩ := DataW.trod_int (k := .i64) (show Tryd.prog.underlying 3 = some (.int .i64) by kernel_rfl) p2
  obtain ⟨m3, y3, p3, hl⟩ := open_part (i := 3) (o := 3) (n := 1) (ty := 9) (show fldAt Tryd.prog 37 3 = _ by kernel_rfl) h
  obtain ⟨v3, q3, -, -⟩ := DataW.trod_string (show Tryd.prog.underlying 9 = some .string by kernel_rfl) p3
  obtain ⟨m4, y4, p4, hl⟩ := open_part (i := 4) (o := 4) (n := 69) (ty := 35) (show fldAt Tryd.prog 37 4 = _ by kernel_rfl) h
  obtain ⟨v4, q4⟩ := open_Signed p4
  obtain ⟨m5, y5, p5, hl⟩ := open_part (i := 5) (o := 73) (n := 36) (ty := 27) (show fldAt Tryd.prog 37 5 = _ by kernel_rfl) h
  obtain ⟨v5, q5⟩ := open_Claim p5
  have hc : Tryd.prog.cellsOf 37 = 109 := by kernel_rfl
  rw [hc] at hl
  have c0 := cut_at cs 0 1 1 rfl
  rw [q0] at c0
  have c1 := cut_at cs 1 1 2 rfl
  rw [q1] at c1
  have c2 := cut_at cs 2 1 3 rfl
  rw [q2] at c2
  have c3 := cut_at cs 3 1 4 rfl
  rw [q3] at c3
  have c4 := cut_at cs 4 69 73 rfl
  rw [q4] at c4
  have c5 := cut_at cs 73 36 109 rfl
  rw [q5] at c5
  have c6 : cs.drop 109 = [] := List.drop_eq_nil_of_le (by omega)
  refine ⟨⟨v0, v1, v2, v3, v4, v5⟩, ?_⟩
  have e : cs = cs.drop 0 := rfl
  rw [c0, c1, c2, c3, c4, c5, c6] at e
  rw [e]
  simp [encEntry, ap]
theorem arg_Entry {H : Type} {enc : TypeId × Value → H} {w W : World} {r : Reach} {b0 base : Nat} {sp : Nat → Bool} {held : Bool} {v : Value} {d : DataW H} {p : List MemPlace}
    (hv : Value.okWide Tryd.prog W r b0 37 v) (h : DataW.Trod enc Tryd.prog w base sp held 37 v d p) : ∃ x : Entry, v = .agg (encEntry x) := by
  obtain ⟨cs, rfl, -⟩ := WideShapes.okWide_struct Tryd.underlying37 hv
  obtain ⟨fuel, h⟩ := h
  obtain ⟨x, hx⟩ := open_Entry h
  exact ⟨x, congrArg Value.agg (Array.toList_inj.1 hx)⟩
theorem open_Item {H : Type} {enc : TypeId × Value → H} {w : World} {base : Nat} {sp : Nat → Bool} {held : Bool} {fuel : Nat} {cs : List Value} {x : DataW H × List MemPlace}
    (h : DataW.trod enc Tryd.prog w base sp held fuel 41 cs = some x) : ∃ v : Item, cs = (encItem v).toList := by
  obtain ⟨m0, y0, p0, hl⟩ := open_part (i := 0) (o := 0) (n := 1) (ty := 3) (show fldAt Tryd.prog 41 0 = _ by kernel_rfl) h
  obtain ⟨v0, q0, -, -⟩ := DataW.trod_int (k := .i64) (show Tryd.prog.underlying 3 = some (.int .i64) by kernel_rfl) p0
  obtain ⟨m1, y1, p1, hl⟩ := open_part (i := 1) (o := 1) (n := 109) (ty := 37) (show fldAt Tryd.prog 41 1 = _ by kernel_rfl) h
  obtain ⟨v1, q1⟩ := open_Entry p1
  have hc : Tryd.prog.cellsOf 41 = 110 := by kernel_rfl
  rw [hc] at hl
  have c0 := cut_at cs 0 1 1 rfl
  rw [q0] at c0
  have c1 := cut_at cs 1 109 110 rfl
  rw [q1] at c1
  have c2 : cs.drop 110 = [] := List.drop_eq_nil_of_le (by omega)
  refine ⟨⟨v0, v1⟩, ?_⟩
  have e : cs = cs.drop 0 := rfl
  rw [c0, c1, c2] at e
  rw [e]
  simp [encItem, ap]
theorem arg_Item {H : Type} {enc : TypeId × Value → H} {w W : World} {r : Reach} {b0 base : Nat} {sp : Nat → Bool} {held : Bool} {v : Value} {d : DataW H} {p : List MemPlace}
    (hv : Value.okWide Tryd.prog W r b0 41 v) (h : DataW.Trod enc Tryd.prog w base sp held 41 v d p) : ∃ x : Item, v = .agg (encItem x) := by
  obtain ⟨cs, rfl, -⟩ := WideShapes.okWide_struct Tryd.underlying41 hv
  obtain ⟨fuel, h⟩ := h
  obtain ⟨x, hx⟩ := open_Item h
  exact ⟨x, congrArg Value.agg (Array.toList_inj.1 hx)⟩
end Go.Proofs.YtoajianddmobaaaDoor
