/- CONTRACTS: the reference's Read. The plain data of both Reads. -/
import Derived.Test.YtoajianddmobaaaDoorPk7
namespace Go.Proofs.YtoajianddmobaaaDoor
open Go.RowKit
set_option linter.unusedSimpArgs false
set_option linter.unusedVariables false
set_option maxRecDepth 100000

theorem getR_e (b : List UInt8) : (getR b).2.2 = 0 ∨ (getR b).2.2 = 10 ∨ (getR b).2.2 = 11 := by
  unfold getR
  split
  · split
    · simp
    · split <;> simp
  · simp
theorem getR_ok {b : List UInt8} {f : Fld} {n : Nat} (h : getR b = (f, n, 0)) :
    ∃ t b1 b2 b3 r, b = t :: b1 :: b2 :: b3 :: r ∧ t ≠ 0 ∧ getN b1 b2 b3 ≤ 65536 ∧ getN b1 b2 b3 ≤ r.length ∧ f = ⟨t.toNat, str (r.take (getN b1 b2 b3))⟩ ∧ n = 4 + getN b1 b2 b3 := by
  unfold getR at h
  split at h
  · rename_i t b1 b2 b3 r
    split at h
    · simp at h
    · rename_i h1
      split at h
      · simp at h
      · rename_i h2
        simp only [Prod.mk.injEq] at h
        exact ⟨t, b1, b2, b3, r, rfl, fun e => h1 (.inl e), by omega, by omega, h.1.symm, h.2.1.symm⟩
  · simp at h
theorem getR_n {b : List UInt8} {f : Fld} {n : Nat} (h : getR b = (f, n, 0)) : 4 ≤ n ∧ n ≤ b.length ∧ f.data.size ≤ 65536 ∧ 1 ≤ f.tag ∧ f.tag ≤ 255 := by
  obtain ⟨t, b1, b2, b3, r, rfl, h1, h2, h3, rfl, rfl⟩ := getR_ok h
  have : t.toNat ≠ 0 := fun e => h1 (UInt8.toNat_inj.1 (by simpa using e))
  have := t.toNat_lt
  refine ⟨by omega, by simp; omega, ?_, by simp; omega, by simp; omega⟩
  rw [str_size, List.length_take]; omega
/-- The fields that bytes begin with, each tag behind the one before; the error that ends them. -/
def readE (last : Int) (b : List UInt8) : Int :=
  if h : b = [] then 0 else if (getR b).2.2 ≠ 0 then (getR b).2.2 else if (getR b).1.tag ≤ last then 11 else readE (getR b).1.tag (b.drop (max (getR b).2.1 1))
termination_by b.length
decreasing_by
  have : 0 < b.length := List.length_pos_iff.2 h
  simp only [List.length_drop]; omega
def readF (last : Int) (b : List UInt8) : List Fld :=
  if h : b = [] then [] else if (getR b).2.2 ≠ 0 then [] else if (getR b).1.tag ≤ last then [] else (getR b).1 :: readF (getR b).1.tag (b.drop (max (getR b).2.1 1))
termination_by b.length
decreasing_by
  have : 0 < b.length := List.length_pos_iff.2 h
  simp only [List.length_drop]; omega
theorem read_nil (last : Int) : readE last [] = 0 ∧ readF last [] = [] := by
  constructor
  · rw [readE]; simp
  · rw [readF]; simp
theorem read_bad {last : Int} {b : List UInt8} {f : Fld} {n : Nat} {e : Int} (h0 : b ≠ []) (h : getR b = (f, n, e)) (he : e ≠ 0) : readE last b = e ∧ readF last b = [] := by
  constructor
  · rw [readE]; simp [h0, h, he]
  · rw [readF]; simp [h0, h, he]
theorem read_low {last : Int} {b : List UInt8} {f : Fld} {n : Nat} (h0 : b ≠ []) (h : getR b = (f, n, 0)) (ht : f.tag ≤ last) : readE last b = 11 ∧ readF last b = [] := by
  constructor
  · rw [readE]; simp [h0, h, ht]
  · rw [readF]; simp [h0, h, ht]
theorem read_ok {last : Int} {b : List UInt8} {f : Fld} {n : Nat} (h0 : b ≠ []) (h : getR b = (f, n, 0)) (ht : ¬ f.tag ≤ last) : readE last b = readE f.tag (b.drop n) ∧ readF last b = f :: readF f.tag (b.drop n) := by
  have hn := (getR_n h).1
  have hm : max n 1 = n := by omega
  constructor
  · rw [readE]; simp [h0, h, ht, hm]
  · rw [readF]; simp [h0, h, ht, hm]
def readR (b : List UInt8) : List Fld := if readE 0 b = 0 then readF 0 b else []

theorem F1 : Enc1 2 encFld := fun x => ⟨encFld_len x, fun u hu => by
  have : u = .int .i64 x.tag ∨ u = .string x.data := by simpa [encFld, ap] using hu
  rcases this with rfl | rfl <;> rfl⟩
theorem elemFld : elemB Tryd.prog 101 87 2 24 = true := by kernel_rfl
abbrev OwnF (base : Nat) (w : World) (v : Value) (l : List Fld) : Prop := OwnL base 87 2 encFld w v l
theorem sl_one {α : Type} {size : Nat} {enc : α → Array Value} (h1 : Enc1 size enc) {w : World} {b : Nat} {x : α} {t : TypeId} (h : w.heap[b]? = some (.cells (enc x) t (0, 0))) : SlR size enc w (some ⟨b, 0, none⟩) [x] := fun k y hy => by
  cases k with
  | zero =>
    simp only [List.getElem?_cons_zero, Option.some.injEq] at hy
    subst hy
    refine ⟨b, 0, rfl, ?_⟩
    rw [rowAt_of h, rowOf]
    have := (h1 x).1
    simp [this]
  | succ k => simp at hy
theorem blk_two (w : World) (A B : Obj) : ((w.alloc A).alloc B).heap[w.heap.size + 1]? = some B := by
  have h := heap_alloc_new (w.alloc A) B
  rw [World.size_alloc] at h
  exact h
theorem cell_two (w : World) {cs : Array Value} {t : TypeId} {B : Obj} {v : Value} (h : cs[0]? = some v) : ((w.alloc (.cells cs t)).alloc B).cell? ⟨w.heap.size, 0, none⟩ = some v := by
  have h1 : ((w.alloc (.cells cs t)).alloc B).heap[w.heap.size]? = some (.cells cs t) := (heap_alloc_old _ _ (show w.heap.size < (w.alloc (.cells cs t)).heap.size by simp)).trans (heap_alloc_new w _)
  rw [cell_of h1]
  exact h
theorem rread_call (l : List UInt8) (a : Option Addr) (cap : Nat) (w : World) (hs : CeR encByte w a l) (hc : l.length ≤ cap) (hm : l.length ≤ 1000000000) :
    Calls Tryd.prog 63 #[.slice a l.length cap] w fun e w' => ∃ v, e = .returned (.tuple #[v, .int .i64 (readE 0 l)]) ∧ OwnF w.heap.size w' v (readR l) ∧ Grew w w' := by
  go_enter Tryd.func63, Tryd.ntmps63
  go_wp2
  go_loopw [0, 4, 5] (fun b_ o_ last_ wr => ∃ (rest : List UInt8) (pre : List Fld) (a : Option Addr) (cap : Nat) (last : Int), b_ = .slice a rest.length cap ∧ last_ = .int .i64 last ∧ CeR encByte w a rest ∧ rest.length ≤ cap ∧ OwnF w.heap.size wr o_ pre ∧ readE 0 l = readE last rest ∧ readF 0 l = pre ++ readF last rest ∧ pre.length + rest.length ≤ 1000000000 ∧ Grew w wr) (fun b_ _ _ _ => match b_ with | .slice _ n _ => n | _ => 0)
  case atStart => exact ⟨l, [], a, cap, 0, rfl, rfl, hs, hc, OwnL.nil, rfl, rfl, by simpa using hm, Grew.refl _⟩
  case round =>
    obtain ⟨rest, pre, a, cap, last, rfl, rfl, hce, hcap, ho, he, hf, hn, hg⟩ := hrel
    have HE := Lib.hid he; clear he
    have HF := Lib.hid hf; clear hf
    by_cases hpos : 0 < rest.length
    · have hne : rest ≠ [] := List.length_pos_iff.1 hpos
      obtain ⟨f, n, er, hG⟩ : ∃ f n er, getR rest = (f, n, er) := ⟨_, _, _, rfl⟩
      have HG := Lib.hid hG
      by_cases her : er = 0
      · subst her
        have hnn := getR_n hG
        clear hG
        by_cases htl : f.tag ≤ last
        · have hres := read_low (last := last) hne HG.out htl
          have HR := Lib.hid hres; clear hres
          go_wp2_with (go_at_call 118; refine (rget_call rest a cap _ (hce.grew hg) hcap (by omega)).mono ?_; rintro e w1 ⟨rfl, hg1⟩; have hf1 := hg1.facts; rw [HG.out, retG])
          go_ret2
          refine ⟨_, ret_pair (HE.out.trans HR.out.1).symm, ?_, by (repeat (first | exact Grew.refl _ | refine Grew.alloc ?_ _ | refine Grew.drew ?_ | refine Grew.after (by assumption) ?_ | refine Grew.after (Old.grew (by assumption)) ?_))⟩
          rw [readR, if_neg (by rw [HE.out, HR.out.1]; decide)]; exact OwnL.nil
        · have hres := read_ok (last := last) hne HG.out htl
          have HR := Lib.hid hres; clear hres
          obtain ⟨b, off, rfl, _, _⟩ := hce.at (k := 0) (x := rest[0]) (by simp)
          have hn1 : (n : Int) ≤ (rest.length : Int) := by omega
          have hn2 : (rest.length : Int) ≤ (cap : Int) := by omega
          go_wp2_with (first
            | (go_at_call 118; refine (rget_call rest _ cap _ (hce.grew hg) hcap (by omega)).mono ?_; rintro e w1 ⟨rfl, hg1⟩; have hf1 := hg1.facts; have ho2 := ((ho.grew hg1).alloc (.cells (encFld f) 87)).alloc (.cells (encFld f) 87); have g2 := (((hg.trans hg1).alloc (.cells (encFld f) 87)).alloc (.cells (encFld f) 87)); have hb2 := blk_two w1 (.cells (encFld f) 87) (.cells (encFld f) 87); have hne2 := own_ne (ho.grew hg1); rw [HG.out, retG])
            | (at_builtin; refine wpList_app (base := w.heap.size) (l := pre) (news := [f]) rfl _ _ rfl elemFld F1 (by rfl) ho2 (by rfl) rfl (sl_one F1 hb2) (fun h => by cases h) (by rw [List.length_singleton]; omega) (.inl (by omega)) g2.le ?_; intro v3 w3 hap; have q3 := (hap.pushed.cellf (b := w1.heap.size) (by simp; omega) hne2 0).trans (cell_two w1 (encFld_tag f)); have g3 := g2.trans0 hap.pushed.2.2.1))
          refine ⟨⟨rest.drop n, pre ++ [f], _, cap - n, f.tag, by rw [List.length_drop], rfl, ?_, by rw [List.length_drop]; omega, hap.1, HE.out.trans HR.out.1, ?_, by rw [List.length_drop, List.length_append, List.length_singleton]; omega, g3⟩, ?_⟩
          · split
            · rw [show rest.drop n = [] from List.drop_eq_nil_of_le (by omega)]
              exact hce.take 0 (by simp)
            · exact hce.drop rfl n
          · rw [HF.out, HR.out.2, List.append_assoc]; rfl
          · show rest.length - n < rest.length
            omega
      · have hres := read_bad (last := last) hne hG her
        have HR := Lib.hid hres; clear hres hG
        have he2 : (er == 0) = false := by simpa using her
        go_wp2_with (go_at_call 118; refine (rget_call rest a cap _ (hce.grew hg) hcap (by omega)).mono ?_; rintro e w1 ⟨rfl, hg1⟩; have hf1 := hg1.facts; rw [HG.out, retG])
        go_ret2
        refine ⟨_, ret_pair (HE.out.trans HR.out.1).symm, ?_, by (repeat (first | exact Grew.refl _ | refine Grew.alloc ?_ _ | refine Grew.drew ?_ | refine Grew.after (by assumption) ?_ | refine Grew.after (Old.grew (by assumption)) ?_))⟩
        rw [readR, if_neg (by rw [HE.out, HR.out.1]; exact her)]; exact OwnL.nil
    · have hr : rest = [] := List.eq_nil_of_length_eq_zero (by omega)
      have hd0 : decide (0 < rest.length) = false := decide_eq_false hpos
      have hres : readE 0 l = 0 ∧ readF 0 l = pre := by rw [HE.out, HF.out, hr, (read_nil last).1, (read_nil last).2, List.append_nil]; exact ⟨rfl, rfl⟩
      have HR := Lib.hid hres; clear hres hr
      go_wp2
      go_ret2
      refine ⟨_, ret_pair HR.out.1.symm, ?_, hg⟩
      rw [readR, if_pos HR.out.1, HR.out.2]; exact ho
end Go.Proofs.YtoajianddmobaaaDoor
