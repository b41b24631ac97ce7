/- CONTRACTS: pack.fields, the program's Read. -/
import Derived.Test.YtoajianddmobaaaDoorRf
namespace Go.Proofs.YtoajianddmobaaaDoor
open Go.RowKit
set_option linter.unusedSimpArgs false
set_option linter.unusedVariables false
set_option maxRecDepth 100000
attribute [local go_sem] Oper.semAt_some

/-- What 'fields' hands over, one after the other. -/
def itR (b : List UInt8) : List (Fld × Int) :=
  if h : b = [] then [] else ((getR b).1, (getR b).2.2) :: (if (getR b).2.2 ≠ 0 then [] else itR (b.drop (max (getR b).2.1 1)))
termination_by b.length
decreasing_by
  have : 0 < b.length := List.length_pos_iff.2 h
  simp only [List.length_drop]; omega
theorem it_nil : itR [] = [] := by rw [itR]; simp
theorem it_bad {b : List UInt8} {f : Fld} {n : Nat} {e : Int} (h0 : b ≠ []) (h : getR b = (f, n, e)) (he : e ≠ 0) : itR b = [(f, e)] := by rw [itR]; simp [h0, h, he]
theorem it_ok {b : List UInt8} {f : Fld} {n : Nat} (h0 : b ≠ []) (h : getR b = (f, n, 0)) : itR b = (f, 0) :: itR (b.drop n) := by
  have hm : max n 1 = n := by have := (getR_n h).1; omega
  rw [itR]; simp [h0, h, hm]
theorem it_len (b : List UInt8) : (itR b).length ≤ b.length := by
  induction hb : b.length using Nat.strongRecOn generalizing b with
  | ind k ih =>
    by_cases h0 : b = []
    · subst h0; rw [it_nil]; simp
    · have hp : 0 < b.length := List.length_pos_iff.2 h0
      obtain ⟨f, n, e, hG⟩ : ∃ f n e, getR b = (f, n, e) := ⟨_, _, _, rfl⟩
      by_cases he : e = 0
      · subst he
        have hn := getR_n hG
        rw [it_ok h0 hG, List.length_cons]
        have := ih (b.drop n).length (by rw [List.length_drop]; omega) (b.drop n) rfl
        rw [List.length_drop] at this
        omega
      · rw [it_bad h0 hG he]; simp; omega
theorem it_pos {b : List UInt8} (h0 : b ≠ []) : 0 < (itR b).length := by rw [itR]; simp [h0]
def stE : Int → List (Fld × Int) → Int
  | _, [] => 0
  | last, (f, e) :: xs => if e ≠ 0 then e else if f.tag ≤ last then 11 else stE f.tag xs
def stF : Int → List (Fld × Int) → List Fld
  | _, [] => []
  | last, (f, e) :: xs => if e ≠ 0 then [] else if f.tag ≤ last then [] else f :: stF f.tag xs
theorem read_it (last : Int) (b : List UInt8) : readE last b = stE last (itR b) ∧ readF last b = stF last (itR b) := by
  induction hb : b.length using Nat.strongRecOn generalizing b last with
  | ind k ih =>
    by_cases h0 : b = []
    · subst h0; rw [it_nil, (read_nil last).1, (read_nil last).2]; exact ⟨rfl, rfl⟩
    · have hp : 0 < b.length := List.length_pos_iff.2 h0
      obtain ⟨f, n, e, hG⟩ : ∃ f n e, getR b = (f, n, e) := ⟨_, _, _, rfl⟩
      by_cases he : e = 0
      · subst he
        have hn := getR_n hG
        rw [it_ok h0 hG]
        by_cases ht : f.tag ≤ last
        · rw [(read_low h0 hG ht).1, (read_low h0 hG ht).2]; simp [stE, stF, ht]
        · rw [(read_ok h0 hG ht).1, (read_ok h0 hG ht).2]
          have := ih (b.drop n).length (by rw [List.length_drop]; omega) f.tag (b.drop n) rfl
          simp [stE, stF, ht, this.1, this.2]
      · rw [it_bad h0 hG he, (read_bad h0 hG he).1, (read_bad h0 hG he).2]; simp [stE, stF, he]

/-- What a round keeps for an iterator that reads what lay below n₀, and its own box. -/
def KeepB (n₀ Bn : Nat) (A B : World) : Prop := A.heap.size ≤ B.heap.size ∧ ∀ k, (k < n₀ ∨ k = Bn) → B.heap[k]? = A.heap[k]?
theorem KeepB.trans {n₀ Bn : Nat} {A B C : World} (h : KeepB n₀ Bn A B) (k : KeepB n₀ Bn B C) : KeepB n₀ Bn A C := ⟨Nat.le_trans h.1 k.1, fun i hi => (k.2 i hi).trans (h.2 i hi)⟩
theorem CeR.same {α : Type} {f : α → Value} {w w' : World} {a : Option Addr} {l : List α} (h : CeR f w a l) (hs : w.heap.size ≤ w'.heap.size) (hb : ∀ k, k < w.heap.size → w'.heap[k]? = w.heap[k]?) : CeR f w' a l := by
  rcases h with h | ⟨b, off, ha, hlt, hc⟩
  · exact .inl h
  · exact .inr ⟨b, off, ha, Nat.lt_of_lt_of_le hlt hs, fun k x hx => by
      have := hc k x hx
      unfold World.cell? at this ⊢
      simp only [hb b hlt]
      exact this⟩
theorem size_setCell (w : World) (p : Addr) (v : Value) : (w.setCell p v).heap.size = w.heap.size := by show (w.heap.modify _ _).size = _; rw [Array.size_modify]
def boxLen (w : World) (Bn : Nat) : Nat := match w.heap[Bn]? with
  | some (Obj.cells cs _ _) => match cs[0]? with | some (Value.slice _ n _) => n | _ => 0
  | _ => 0
theorem boxLen_of {w : World} {Bn : Nat} {a : Option Addr} {n c : Nat} {t : TypeId} {fr : Nat × Nat} (h : w.heap[Bn]? = some (.cells #[.slice a n c] t fr)) : boxLen w Bn = n := by simp [boxLen, h]
set_option maxHeartbeats 1000000 in
theorem fields_iter (m : Nat) (hm1 : 1 ≤ m) (l0 : List UInt8) (W0 W : World) (Bn : Nat) (a : Option Addr) (cap : Nat) (hB : W.heap[Bn]? = some (.cells #[.slice a l0.length cap] 22 (0, 0))) (hBn : W0.heap.size ≤ Bn) (hce : CeR encByte W0 a l0) (hc : l0.length ≤ cap) (hm : l0.length ≤ 1000000000)
    (hsz : W0.heap.size ≤ W.heap.size) (hbl : ∀ k, k < W0.heap.size → W.heap[k]? = W0.heap[k]?) :
    SeqX Fence.wide m Tryd.prog 173 #[.pointer (some ⟨Bn, 0, none⟩)] (fun x : Fld × Int => #[.agg (encFld x.1), .int .i64 x.2]) (fun k => k = Bn) (KeepB W0.heap.size Bn) (fun xs => xs = itR l0) (fun pre => pre <+: itR l0) (itR l0).length W := fun l J Jx hJ hJx hY h0 => by
  refine callsIn_of_wp Tryd.func173 rfl trivial ?_ rfl
  simp only [Tryd.ntmps173, List.size_toArray, List.length_cons, List.length_nil, Nat.reduceAdd, Nat.reduceSub, Array.replicate_succ, Array.replicate_zero, List.push_toArray, List.append_toArray, List.nil_append, List.cons_append]
  gi_wp2
  gi_loopw [6] (fun _ wr => ∃ (pre : List (Fld × Int)) (rest : List UInt8) (a : Option Addr) (cap : Nat), wr.heap[Bn]? = some (.cells #[.slice a rest.length cap] 22 (0, 0)) ∧ CeR encByte W0 a rest ∧ rest.length ≤ cap ∧ itR l0 = pre ++ itR rest ∧ rest.length ≤ 1000000000 ∧ W0.heap.size ≤ wr.heap.size ∧ (∀ k, k < W0.heap.size → wr.heap[k]? = W0.heap[k]?) ∧ J pre wr) (fun _ wr => boxLen wr Bn)
  case atStart => exact ⟨[], l0, a, cap, hB, hce, hc, rfl, hm, hsz, hbl, h0⟩
  case round =>
    obtain ⟨pre, rest, a, cap, hb, hce, hcap, hit, hlen, hsz, hbl, hJs⟩ := hrel
    have HIT := Lib.hid hit; clear hit
    have HBL := Lib.hid hbl; clear hbl
    have hblt : Bn < wr.heap.size := (Array.getElem?_eq_some_iff.1 hb).1
    obtain ⟨c1, c2, c3, c4, c5⟩ := blk_facts hb
    have c0 : wr.cell? ⟨Bn, 0, none⟩ = some (.slice a rest.length cap) := by rw [c1]; rfl
    by_cases hpos : 0 < rest.length
    · have hne : rest ≠ [] := List.length_pos_iff.1 hpos
      obtain ⟨f, n, er, hG⟩ : ∃ f n er, getR rest = (f, n, er) := ⟨_, _, _, rfl⟩
      have HG := Lib.hid hG; clear hG
      have hce2 := hce.same hsz HBL.out
      have hlt2 : pre.length < (itR l0).length := by rw [HIT.out, List.length_append]; have := it_pos hne; omega
      by_cases her : er = 0
      · subst her
        have hnn := getR_n HG.out
        have hio := it_ok hne HG.out
        have HIO := Lib.hid hio; clear hio
        obtain ⟨b, off, rfl, _, _⟩ := hce.at (k := 0) (x := rest[0]) (by simp)
        have hn1 : (n : Int) ≤ (rest.length : Int) := by omega
        have hn2 : (rest.length : Int) ≤ (cap : Int) := by omega
        gi_wp2_with (refine ⟨trivial, ?_⟩; gi_at_call 174; refine (callsIn_wide.2 (get_call rest _ cap _ hce2 hcap (by omega))).mono ?_; rintro e w1 ⟨rfl, hg1⟩; have hf1 := hg1.facts; have hJ1 := hJ _ _ _ hJs (StepX.grew (hg1.alloc (.cells (encFld f) 87))); obtain ⟨fn, tmps, assign, body, hy, hR⟩ := hY pre (f, 0) _ hJ1 hlt2; dsimp only at hy; rw [HG.out, retG])
        refine hR.mono ?_
        rintro e W' (⟨rfl, hJ', hk⟩ | ⟨rfl, hJx'⟩)
        · have hb' : W'.heap[Bn]? = some (.cells #[.slice (some ⟨b, off, none⟩) rest.length cap] 22 (0, 0)) :=
            (hk.2 Bn (.inr rfl)).trans ((((hg1.alloc (.cells (encFld f) 87))).block hblt).trans hb)
          obtain ⟨d1, d2, d3, d4, d5⟩ := blk_facts hb'
          have d0 : W'.cell? ⟨Bn, 0, none⟩ = some (.slice (some ⟨b, off, none⟩) rest.length cap) := by rw [d1]; rfl
          have hsz' : W0.heap.size ≤ W'.heap.size := Nat.le_trans hsz (Nat.le_trans (hg1.alloc (.cells (encFld f) 87)).le hk.1)
          have hbl' : ∀ k, k < W0.heap.size → W'.heap[k]? = W0.heap[k]? := fun k hk2 => (hk.2 k (.inl hk2)).trans (((hg1.alloc (.cells (encFld f) 87)).block (Nat.lt_of_lt_of_le hk2 hsz)).trans (HBL.out k hk2))
          have HB2 := Lib.hid hbl'; clear hbl'
          have Hb' := Lib.hid hb'; clear hb'
          gi_wp2
          go_roundw
          case rel =>
            refine ⟨pre ++ [(f, 0)], rest.drop n, (if cap = n then some ⟨b, off, none⟩ else some ⟨b, off + n, none⟩), cap - n, ?_, ?_, by rw [List.length_drop]; omega, by rw [HIT.out, HIO.out, List.append_assoc]; rfl, by rw [List.length_drop]; omega, by rw [size_setCell]; exact hsz', fun k hk2 => ?_, hJ _ _ _ hJ' (StepX.setCell (X := fun k => k = Bn) W' ⟨Bn, 0, none⟩ _ rfl)⟩
            · rw [heap_setCell_same _ _ _ _ _ _ Hb'.out, List.length_drop]; rfl
            · split
              · rw [show rest.drop n = [] from List.drop_eq_nil_of_le (by omega)]
                exact hce.take 0 (by simp)
              · exact hce.drop rfl n
            · rw [Below.heap_setCell _ _ _ _ (show k ≠ Bn by omega)]
              exact HB2.out k hk2
          case measure =>
            rw [boxLen_of hb, boxLen_of (heap_setCell_same _ _ _ _ _ _ Hb'.out)]
            omega
        · gi_wp2
          refine bodyPost_ret (results_none rfl _ _ _) rfl ?_
          exact ⟨⟨_, rfl⟩, .inr ⟨pre ++ [(f, 0)], by rw [HIT.out, HIO.out]; exact ⟨itR (rest.drop n), by simp⟩, hJx'⟩⟩
      · have he2 : (er == 0) = false := by simpa using her
        have hio := it_bad hne HG.out her
        have HIO := Lib.hid hio; clear hio
        gi_wp2_with (refine ⟨trivial, ?_⟩; gi_at_call 174; refine (callsIn_wide.2 (get_call rest _ cap _ hce2 hcap (by omega))).mono ?_; rintro e w1 ⟨rfl, hg1⟩; have hf1 := hg1.facts; have hJ1 := hJ _ _ _ hJs (StepX.grew (hg1.alloc (.cells (encFld f) 87))); obtain ⟨fn, tmps, assign, body, hy, hR⟩ := hY pre (f, er) _ hJ1 hlt2; dsimp only at hy; rw [HG.out, retG])
        refine hR.mono ?_
        rintro e W' (⟨rfl, hJ', hk⟩ | ⟨rfl, hJx'⟩)
        · gi_wp2
          refine bodyPost_ret (results_none rfl _ _ _) rfl ?_
          exact ⟨⟨_, rfl⟩, .inl ⟨pre ++ [(f, er)], by rw [HIT.out, HIO.out], hJ'⟩⟩
        · gi_wp2
          refine bodyPost_ret (results_none rfl _ _ _) rfl ?_
          exact ⟨⟨_, rfl⟩, .inr ⟨pre ++ [(f, er)], by rw [HIT.out, HIO.out]; exact List.prefix_refl _, hJx'⟩⟩
    · have hr : rest = [] := List.eq_nil_of_length_eq_zero (by omega)
      have hd0 : decide (0 < rest.length) = false := decide_eq_false hpos
      have hfin : pre = itR l0 := by rw [HIT.out, hr, it_nil, List.append_nil]
      have HF := Lib.hid hfin; clear hfin hr
      gi_wp2
      go_end0
      exact ⟨⟨_, rfl⟩, .inl ⟨pre, HF.out, hJs⟩⟩
end Go.Proofs.YtoajianddmobaaaDoor
