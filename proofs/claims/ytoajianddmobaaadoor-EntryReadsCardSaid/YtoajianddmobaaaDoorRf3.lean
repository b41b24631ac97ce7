/- CONTRACTS: the program's Read. -/
import Derived.Test.YtoajianddmobaaaDoorRf2
namespace Go.Proofs.YtoajianddmobaaaDoor
open Go.RowKit
set_option linter.unusedSimpArgs false
set_option linter.unusedVariables false
set_option maxRecDepth 100000
attribute [local go_sem] Oper.semAt_some

theorem fields_call (a : Option Addr) (n cap : Nat) (w : World) : Calls Tryd.prog 149 #[.slice a n cap] w fun e w' => e = .returned (.func (.func 173) #[] #[.pointer (some ⟨w.heap.size, 0, none⟩)]) ∧ w' = w.alloc (.cells #[.slice a n cap] 22) := by
  go_enter Tryd.func149, Tryd.ntmps149
  go_wp2
  go_ret
  exact ⟨rfl, rfl⟩
theorem heap_alloc_at {w : World} {k : Nat} (o : Obj) (h : k = w.heap.size) : (w.alloc o).heap[k]? = some o := by subst h; exact heap_alloc_new w o
theorem heap_alloc_past {w : World} {k : Nat} (o : Obj) (h : k < w.heap.size) : (w.alloc o).heap[k]? = w.heap[k]? := heap_alloc_old w o h
theorem alloc5 (w : World) (A B C D E : Obj) : (((((w.alloc A).alloc B).alloc C).alloc D).alloc E).heap[w.heap.size]? = some A ∧ (((((w.alloc A).alloc B).alloc C).alloc D).alloc E).heap[w.heap.size + 1]? = some B ∧
    (((((w.alloc A).alloc B).alloc C).alloc D).alloc E).heap[w.heap.size + 1 + 1]? = some C ∧ (((((w.alloc A).alloc B).alloc C).alloc D).alloc E).heap[w.heap.size + 1 + 1 + 1]? = some D := by
  have s1 : (w.alloc A).heap.size = w.heap.size + 1 := World.size_alloc ..
  have s2 : ((w.alloc A).alloc B).heap.size = w.heap.size + 1 + 1 := by rw [World.size_alloc, s1]
  have s3 : (((w.alloc A).alloc B).alloc C).heap.size = w.heap.size + 1 + 1 + 1 := by rw [World.size_alloc, s2]
  have s4 : ((((w.alloc A).alloc B).alloc C).alloc D).heap.size = w.heap.size + 1 + 1 + 1 + 1 := by rw [World.size_alloc, s3]
  refine ⟨?_, ?_, ?_, ?_⟩
  · rw [heap_alloc_past _ (by omega), heap_alloc_past _ (by omega), heap_alloc_past _ (by omega), heap_alloc_past _ (by omega)]; exact heap_alloc_at _ rfl
  · rw [heap_alloc_past _ (by omega), heap_alloc_past _ (by omega), heap_alloc_past _ (by omega)]; exact heap_alloc_at _ s1.symm
  · rw [heap_alloc_past _ (by omega), heap_alloc_past _ (by omega)]; exact heap_alloc_at _ s2.symm
  · rw [heap_alloc_past _ (by omega)]; exact heap_alloc_at _ s3.symm
/-- What the body's own cells hold when 'pre' has come. -/
def ReadI (w : World) (pre : List (Fld × Int)) (W : World) : Prop :=
  ∃ (last : Int) (acc : List Fld) (v x y : Value), W.heap[w.heap.size + 1 + 1]? = some (.cells #[v] 101 (0, 0)) ∧ W.heap[w.heap.size + 1 + 1 + 1]? = some (.cells #[.int .i64 last] 3 (0, 0)) ∧ W.heap[w.heap.size]? = some (.cells #[x] 101 (0, 0)) ∧
    W.heap[w.heap.size + 1]? = some (.cells #[y] 28 (0, 0)) ∧ OwnF (w.heap.size + 1 + 1 + 1 + 1 + 1) W v acc ∧ (∀ xs, stE 0 (pre ++ xs) = stE last xs ∧ stF 0 (pre ++ xs) = acc ++ stF last xs) ∧ acc.length ≤ pre.length ∧ w.heap.size + 1 + 1 + 1 + 1 + 1 ≤ W.heap.size ∧ Below w.heap.size w W
def ReadIx (w : World) (c : Code) (pre : List (Fld × Int)) (W : World) : Prop :=
  c = .ret ∧ ∃ e : Int, W.heap[w.heap.size]? = some (.cells #[.slice none 0 0] 101 (0, 0)) ∧ W.heap[w.heap.size + 1]? = some (.cells #[.int .i64 e] 28 (0, 0)) ∧ e ≠ 0 ∧ (∀ xs, stE 0 (pre ++ xs) = e) ∧ Below w.heap.size w W
theorem StepI.below {B0 n₀ : Nat} {X : Nat → Prop} {w A B : World} (h : StepI B0 X A B) (hX : ∀ k, X k → n₀ ≤ k) (hn : n₀ ≤ B0) (hw : n₀ ≤ A.heap.size) (k : Below n₀ w A) : Below n₀ w B :=
  ⟨h.os.trans k.os, h.tape.trans k.tape, h.output.trans k.output, Nat.le_trans k.size h.size, fun i hi => by
    have hi2 : i < A.heap.size := by omega
    rw [h.block i A.heap[i] (Array.getElem?_eq_getElem hi2) (fun hx => by have := hX i hx; omega) (.inl (by omega)), ← Array.getElem?_eq_getElem hi2]
    exact k.block i hi⟩
theorem StepI.cells {B0 : Nat} {X : Nat → Prop} {A B : World} (h : StepI B0 X A B) {k : Nat} {cs : Array Value} {t : TypeId} {fr : Nat × Nat} (hk : A.heap[k]? = some (.cells cs t fr)) (hx : ¬ X k) : B.heap[k]? = some (.cells cs t fr) := h.block k _ hk hx (.inr rfl)
theorem OwnL.stepI {α : Type} {base e size : Nat} {enc : α → Array Value} {A B : World} {v : Value} {l : List α} {B0 : Nat} {X : Nat → Prop} (h : OwnL base e size enc A v l) (hs : StepI B0 X A B) (hX : ∀ k, X k → k < base) : OwnL base e size enc B v l := by
  refine ⟨h.1, ?_⟩
  rcases h.2 with hn | ⟨g, cap, cur, hv, hbg, hg, rest⟩
  · exact .inl hn
  · exact .inr ⟨g, cap, cur, hv, hbg, hs.cells hg (fun hx => by have := hX g hx; omega), rest⟩
theorem plain_fields : plainB Tryd.prog 101 = true := by kernel_rfl
theorem plain_errno : plainB Tryd.prog 28 = true := by kernel_rfl
theorem cell_blk {w : World} {b : Nat} {v : Value} {t : TypeId} {fr : Nat × Nat} (h : w.heap[b]? = some (.cells #[v] t fr)) : w.cell? ⟨b, 0, none⟩ = some v := by rw [cell_of h]; rfl
theorem heap_set_one {w : World} {b : Nat} {x v : Value} {t : TypeId} (h : w.heap[b]? = some (.cells #[x] t (0, 0))) : (w.setCell ⟨b, 0, none⟩ v).heap[b]? = some (.cells #[v] t (0, 0)) := by rw [heap_setCell_same _ _ _ _ _ _ h]; rfl
theorem readIx_ret {w W' : World} {B0 : Nat} {pre : List (Fld × Int)} {x1 y1 : Value} {e : Int} (e0 : W'.heap[w.heap.size]? = some (.cells #[x1] 101 (0, 0))) (e1 : W'.heap[w.heap.size + 1]? = some (.cells #[y1] 28 (0, 0))) (hne : e ≠ 0)
    (hst : ∀ xs, stE 0 (pre ++ xs) = e) (hB : Below w.heap.size w W') :
    KeepsFrom B0 W' ((W'.setCell ⟨w.heap.size, 0, none⟩ (.slice none 0 0)).setCell ⟨w.heap.size + 1, 0, none⟩ (.int .i64 e)) ∧
    ReadIx w .ret pre ((W'.setCell ⟨w.heap.size, 0, none⟩ (.slice none 0 0)).setCell ⟨w.heap.size + 1, 0, none⟩ (.int .i64 e)) := by
  refine ⟨((KeepsOthers.setCell _ _ _).trans (KeepsOthers.setCell _ _ _)).from _, rfl, e, ?_, ?_, hne, hst, ?_⟩
  · rw [Below.heap_setCell _ _ _ _ (show w.heap.size ≠ w.heap.size + 1 by omega)]
    exact heap_set_one e0
  · exact heap_set_one ((Below.heap_setCell _ _ _ _ (show w.heap.size + 1 ≠ w.heap.size by omega)).trans e1)
  · exact Below.setCell (Below.setCell hB (Nat.le_refl _) _) (show w.heap.size ≤ w.heap.size + 1 by omega) _
set_option maxHeartbeats 1000000 in
theorem read_call (l : List UInt8) (a : Option Addr) (cap : Nat) (w : World) (hs : CeR encByte w a l) (hc : l.length ≤ cap) (hm : l.length ≤ 1000000000) :
    Calls Tryd.prog 107 #[.slice a l.length cap] w fun e w' => ∃ v, e = .returned (.tuple #[v, .int .i64 (readE 0 l)]) ∧ OwnF w.heap.size w' v (readR l) ∧ Grew w w' := by
  refine (callsIn_wide (n := 5)).1 ?_
  refine callsIn_of_wp_marks Tryd.func107 rfl trivial ?_ rfl
  simp only [Tryd.ntmps107, List.size_toArray, List.length_cons, List.length_nil, Nat.reduceAdd, Nat.reduceSub, Array.replicate_succ, Array.replicate_zero, List.push_toArray, List.append_toArray, List.nil_append, List.cons_append]
  gi_wp2_with (refine ⟨trivial, ?_⟩; gi_at_call 149; refine (callsIn_wide.2 (fields_call _ _ _ _)).mono ?_; rintro e w1 ⟨rfl, rfl⟩)
  obtain ⟨W, hW⟩ : ∃ W, (((((w.alloc (.cells #[.slice none 0 0] 101)).alloc (.cells #[.int .i64 0] 28)).alloc (.cells #[.slice none 0 0] 101)).alloc (.cells #[.int .i64 0] 3)).alloc (.cells #[.slice a l.length cap] 22)) = W := ⟨_, rfl⟩
  have hsz : W.heap.size = w.heap.size + 1 + 1 + 1 + 1 + 1 := by rw [← hW]; simp
  have hgW : Grew w W := by rw [← hW]; exact (((((Grew.refl w).alloc _).alloc _).alloc _).alloc _).alloc _
  have hK4 : W.heap[w.heap.size + 1 + 1 + 1 + 1]? = some (.cells #[.slice a l.length cap] 22 (0, 0)) := by
    rw [← hW]; have := heap_alloc_new (((((w.alloc (.cells #[.slice none 0 0] 101)).alloc (.cells #[.int .i64 0] 28)).alloc (.cells #[.slice none 0 0] 101)).alloc (.cells #[.int .i64 0] 3))) (.cells #[.slice a l.length cap] 22)
    simp only [World.size_alloc] at this
    exact this
  rw [hW]
  have h0 : ReadI w [] W := by
    refine ⟨0, [], .slice none 0 0, .slice none 0 0, .int .i64 0, ?_, ?_, ?_, ?_, OwnL.nil, fun xs => ⟨rfl, rfl⟩, Nat.le_refl _, by omega, hgW⟩
    all_goals rw [← hW]
    · exact (alloc5 w _ _ _ _ _).2.2.1
    · exact (alloc5 w _ _ _ _ _).2.2.2
    · exact (alloc5 w _ _ _ _ _).1
    · exact (alloc5 w _ _ _ _ _).2.1
  refine wpIn_rangeFunc_X rfl (by omega) (gf := 173) (lb := #[.pointer (some ⟨w.heap.size + 1 + 1 + 1 + 1, 0, none⟩)]) rfl trivial (enters_of Tryd.func173 (by kernel_rfl) rfl)
    (encs := fun x : Fld × Int => #[.agg (encFld x.1), .int .i64 x.2]) (X := fun k => k = w.heap.size + 1 + 1 + 1 + 1) (Kp := KeepB w.heap.size (w.heap.size + 1 + 1 + 1 + 1)) (S := fun xs => xs = itR l) (Sp := fun pre => pre <+: itR l) (N := (itR l).length)
    (fun k hk => by omega)
    (fun W1 hg1 => fields_iter _ (by omega) l w W1 _ a cap ((hg1.block (by omega)).trans hK4) (by omega) hs hc hm (Nat.le_trans hgW.le hg1.le) (fun k hk => (hg1.block (by omega)).trans (hgW.block hk)))
    (fun h k => h.trans k) (fun W' l o o' hl ho hc => ⟨by simp, fun k hk => World.putObj_heap_other (by omega)⟩) (fun _ => rfl)
    (ReadI w) (ReadIx w) ?hI ?hIx h0
    (fun x a' W' => ∃ Bx, W.heap.size ≤ Bx ∧ W'.heap[Bx]? = some (.cells (encFld x.1) 87 (0, 0)) ∧ (∃ v, W'.heap[w.heap.size + 1 + 1]? = some (.cells #[v] 101 (0, 0)) ∧ v.ownBlock ≠ some Bx) ∧
      a' = { tmps := #[.slice a l.length cap, undef, .pointer (some ⟨w.heap.size, 0, none⟩), .pointer (some ⟨w.heap.size + 1, 0, none⟩), .pointer (some ⟨w.heap.size + 1 + 1, 0, none⟩), .pointer (some ⟨w.heap.size + 1 + 1 + 1, 0, none⟩), .pointer (some ⟨Bx, 0, none⟩), .int .i64 x.2, .slice a l.length cap,
        .func (.func 173) #[] #[.pointer (some ⟨w.heap.size + 1 + 1 + 1 + 1, 0, none⟩)], .agg (encFld x.1), .int .i64 x.2, undef, undef, undef, undef, undef, undef, undef, undef, undef, undef, undef, undef, undef, undef, undef, undef, undef, undef], defers := [] }) ?hAx ?assign ?body ?done ?stop
  case hI =>
    rintro pre A B ⟨last, acc, v, x, y, e2, e3, e0, e1, ho, hst, hacc, hle, hB⟩ hs
    exact ⟨last, acc, v, x, y, hs.cells e2 (by omega), hs.cells e3 (by omega), hs.cells e0 (by omega), hs.cells e1 (by omega), ho.stepI hs (fun k hk => by omega), hst, hacc, Nat.le_trans hle hs.size, hs.below (fun k hk => by omega) (by omega) hB.size hB⟩
  case hIx =>
    rintro c pre A B ⟨rfl, e, e0, e1, hne, hst, hB⟩ hs
    exact ⟨rfl, e, hs.cells e0 (by omega), hs.cells e1 (by omega), hne, hst, hs.below (fun k hk => by omega) (by omega) hB.size hB⟩
  case hAx =>
    rintro x a' A B ⟨Bx, hBx, hbx, ⟨v, hv, hne⟩, rfl⟩ hs
    exact ⟨Bx, hBx, hs.cells hbx (by omega), ⟨v, hs.cells hv (by omega), hne⟩, rfl⟩
  case assign =>
    intro l' pre x W' K hi hK
    have hi2 := hi
    obtain ⟨last, acc, v, x1, y1, e2, e3, e0, e1, ho, hst, hacc, hle, hB⟩ := hi2
    gi_wp2
    refine hK _ _ ((KeepsOthers.alloc _ _).from _) ⟨by simp, fun k hk => ?_⟩ ?_ ⟨W'.heap.size, by omega, heap_alloc_new W' _, ⟨v, (heap_alloc_old W' _ (Array.getElem?_eq_some_iff.1 e2).1).trans e2, fun e => own_ne ho e.symm⟩, rfl⟩
    · exact heap_alloc_old W' _ (by omega)
    · exact ⟨last, acc, v, x1, y1, (heap_alloc_old W' _ (Array.getElem?_eq_some_iff.1 e2).1).trans e2, (heap_alloc_old W' _ (Array.getElem?_eq_some_iff.1 e3).1).trans e3, (heap_alloc_old W' _ (Array.getElem?_eq_some_iff.1 e0).1).trans e0, (heap_alloc_old W' _ (Array.getElem?_eq_some_iff.1 e1).1).trans e1, ho.alloc _, hst, hacc, by simp; omega, Below.alloc hB hB.size _⟩
  case body =>
    rintro l' pre ⟨f, er⟩ a' W' hl ⟨last, acc, v, x1, y1, e2, e3, e0, e1, ho, hst, hacc, hle, hB⟩ ⟨Bx, hBx, hbx, ⟨v0, hv0, hne⟩, rfl⟩ hlen
    have hv : v0 = v := by rw [e2] at hv0; simpa using hv0.symm
    subst hv
    clear hv0
    have hil := it_len l
    have HST := Lib.hid hst; clear hst
    obtain ⟨av, cv, rfl, hsl, hlc, hnv, hpv⟩ := ho.form F1 (by omega)
    have HPV := Lib.hid hpv; clear hpv
    have HSL := Lib.hid hsl; clear hsl
    obtain ⟨c1, c2, c3, c4, c5⟩ := blk_facts e2
    obtain ⟨c1', c2', c3', c4', c5'⟩ := blk_facts e0
    obtain ⟨c1'', c2'', c3'', c4'', c5''⟩ := blk_facts e1
    obtain ⟨k1, k2, k3, k4, k5⟩ := blk_facts e3
    obtain ⟨m1, m2, m3, m4, m5⟩ := blk_facts hbx
    have ht0 : W'.cell? ⟨Bx, 0, none⟩ = some (.int .i64 f.tag) := by rw [m1]; exact encFld_tag f
    by_cases her : er = 0
    · subst her
      by_cases htl : f.tag ≤ last
      · gi_wp2
        exact readIx_ret e0 e1 (by decide) (fun xs => by rw [List.append_assoc, (HST.out _).1]; simp [stE, htl]) hB
      · have hbo : ∀ k, k < w.heap.size + 1 + 1 + 1 + 1 + 1 → some k ≠ (Value.slice av acc.length cv).ownBlock := fun k hk e => by have := (World.ownsRow.lt ho _ e.symm).1; omega
        have HBO := Lib.hid hbo; clear hbo
        have hlb : Bx < W'.heap.size := (Array.getElem?_eq_some_iff.1 hbx).1
        gi_wp2_with (gi_at_builtin; refine wpListIn_app (base := w.heap.size + 1 + 1 + 1 + 1 + 1) (l := acc) (news := [f]) rfl _ _ rfl elemFld F1 (by rfl) (ho.alloc (.cells (encFld f) 87)) (by rfl) rfl (sl_one F1 (heap_alloc_new W' _)) (fun h => by cases h) (by simp at hlen ⊢; omega) (.inl (by omega)) (by simp; omega) ?_; intro v3 w3 hap; have hfar : ∀ k, k < W'.heap.size → some k ≠ (Value.slice av acc.length cv).ownBlock → w3.heap[k]? = W'.heap[k]? := (fun k hk hn => (hap.pushed.far (by simp; omega) hn).trans (heap_alloc_old W' _ hk)); have e2' := (hfar _ c5 (HBO.out _ (by omega))).trans e2; have e3' := (hfar _ k5 (HBO.out _ (by omega))).trans e3; have hbx' := (hfar _ hlb (Ne.symm hne)).trans hbx; obtain ⟨p1, p2, p3, p4, p5⟩ := blk_facts e2'; obtain ⟨q1, q2, q3, q4, q5⟩ := blk_facts e3'; obtain ⟨r1, r2, r3, r4, r5⟩ := blk_facts hbx'; have rt0 : w3.cell? ⟨Bx, 0, none⟩ = some (.int .i64 f.tag) := (by rw [r1]; exact encFld_tag f); obtain ⟨a3, cp3, rfl, -, -, -, -⟩ := hap.1.form F1 (by omega))
        have hsz3 : W'.heap.size ≤ w3.heap.size := Nat.le_trans (by simp) hap.pushed.2.1.size
        obtain ⟨W4, hW4⟩ : ∃ W4, (w3.setCell ⟨w.heap.size + 1 + 1, 0, none⟩ (.slice a3 (acc ++ [f]).length cp3)).setCell ⟨w.heap.size + 1 + 1 + 1, 0, none⟩ (.int .i64 f.tag) = W4 := ⟨_, rfl⟩
        have hfar4 : ∀ k, k < W'.heap.size → some k ≠ (Value.slice av acc.length cv).ownBlock → k ≠ w.heap.size + 1 + 1 → k ≠ w.heap.size + 1 + 1 + 1 → W4.heap[k]? = W'.heap[k]? := fun k hk hn h2 h3 => by
          rw [← hW4, Below.heap_setCell _ _ _ _ h3, Below.heap_setCell _ _ _ _ h2]
          exact hfar k hk hn
        have hsz4 : W4.heap.size = w3.heap.size := by rw [← hW4, size_setCell, size_setCell]
        have n2 : W4.heap[w.heap.size + 1 + 1]? = some (.cells #[.slice a3 (acc ++ [f]).length cp3] 101 (0, 0)) := by
          rw [← hW4, Below.heap_setCell _ _ _ _ (show w.heap.size + 1 + 1 ≠ w.heap.size + 1 + 1 + 1 by omega)]
          exact heap_set_one e2'
        have n3 : W4.heap[w.heap.size + 1 + 1 + 1]? = some (.cells #[.int .i64 f.tag] 3 (0, 0)) := by
          rw [← hW4]
          exact heap_set_one ((Below.heap_setCell _ _ _ _ (show w.heap.size + 1 + 1 + 1 ≠ w.heap.size + 1 + 1 by omega)).trans e3')
        have own4 : OwnF (w.heap.size + 1 + 1 + 1 + 1 + 1) W4 (.slice a3 (acc ++ [f]).length cp3) (acc ++ [f]) := by
          rw [← hW4]
          exact hap.1.stepI (B0 := 0) (X := fun k => k = w.heap.size + 1 + 1 ∨ k = w.heap.size + 1 + 1 + 1) ((StepX.setCell _ ⟨w.heap.size + 1 + 1, 0, none⟩ _ (.inl rfl)).trans (StepX.setCell _ ⟨w.heap.size + 1 + 1 + 1, 0, none⟩ _ (.inr rfl))).toI (fun k hk => by omega)
        have hB4 : Below w.heap.size w W4 := by
          rw [← hW4]
          exact Below.setCell (Below.setCell ((Below.alloc hB hB.size _).trans (Below.mono hap.pushed.2.2.1 (by omega))) (show w.heap.size ≤ w.heap.size + 1 + 1 by omega) _) (show w.heap.size ≤ w.heap.size + 1 + 1 + 1 by omega) _
        have hl1 : (acc ++ [f]).length = acc.length + 1 := by simp
        rw [hl1] at hW4
        rw [hW4]
        refine ⟨⟨by omega, fun k o hk ho2 hc2 => ?_⟩, ⟨by omega, fun k hk => ?_⟩, f.tag, acc ++ [f], _, x1, y1, n2, n3, ?_, ?_, own4, fun xs => ?_, by simp; omega, by omega, hB4⟩
        · have hkl := (Array.getElem?_eq_some_iff.1 ho2).1
          refine (hfar4 k hkl (fun e => ?_) (by omega) (by omega)).trans ho2
          obtain ⟨g, cur, he4, hg4⟩ : ∃ g cur, (Value.slice av acc.length cv).ownBlock = some g ∧ W'.heap[g]? = some (.cells cur 87 (0, 0)) := by
            rcases ho.2 with ⟨e5, _⟩ | ⟨g, cap5, cur, e5, _, hg5, _⟩
            · rw [e5] at e; cases e
            · rw [e5]; exact ⟨g, cur, rfl, hg5⟩
          rw [he4] at e
          cases e
          rw [hg4] at ho2
          cases ho2
          cases hc2
        · exact hfar4 k (by omega) (HBO.out _ (by omega)) (by omega) (by omega)
        · exact (hfar4 _ (by omega) (HBO.out _ (by omega)) (by omega) (by omega)).trans e0
        · exact (hfar4 _ (by omega) (HBO.out _ (by omega)) (by omega) (by omega)).trans e1
        · rw [List.append_assoc, (HST.out _).1, (HST.out _).2, List.append_assoc]
          have htl2 : ¬ f.tag ≤ last := by omega
          simp [stE, stF, htl2]
          try omega
    · have he2 : (er == 0) = false := by simpa using her
      gi_wp2
      exact readIx_ret e0 e1 her (fun xs => by rw [List.append_assoc, (HST.out _).1]; simp [stE, her]) hB
  case done =>
    rintro D xs W' hD rfl ⟨last, acc, v, x1, y1, e2, e3, e0, e1, ho, hst, hacc, hle, hB⟩ hK
    obtain ⟨av, cv, rfl, hsl, hlc, hnv, hpv⟩ := ho.form F1 (by omega)
    obtain ⟨c1, c2, c3, c4, c5⟩ := blk_facts e2
    obtain ⟨c1', c2', c3', c4', c5'⟩ := blk_facts e0
    obtain ⟨c1'', c2'', c3'', c4'', c5''⟩ := blk_facts e1
    gi_wp2
    obtain ⟨W2, hW2⟩ : ∃ W2, (W'.setCell ⟨w.heap.size, 0, none⟩ (.slice av acc.length cv)).setCell ⟨w.heap.size + 1, 0, none⟩ (.int .i64 0) = W2 := ⟨_, rfl⟩
    have hK2 : W2.heap[D]? = some (.deferred (some [])) := by
      rw [← hW2, Below.heap_setCell _ _ _ _ (show D ≠ w.heap.size + 1 by omega), Below.heap_setCell _ _ _ _ (show D ≠ w.heap.size by omega)]
      exact hK
    have hA : W2.heap[w.heap.size]? = some (.cells #[.slice av acc.length cv] 101 (0, 0)) := by
      rw [← hW2, Below.heap_setCell _ _ _ _ (show w.heap.size ≠ w.heap.size + 1 by omega)]
      exact heap_set_one e0
    have hE : W2.heap[w.heap.size + 1]? = some (.cells #[.int .i64 0] 28 (0, 0)) := by
      rw [← hW2]
      exact heap_set_one ((Below.heap_setCell _ _ _ _ (show w.heap.size + 1 ≠ w.heap.size by omega)).trans e1)
    have hst2 : StepI (w.heap.size + 1 + 1 + 1 + 1 + 1) (fun k => k = w.heap.size ∨ k = w.heap.size + 1) W' (W2.putObj D (.deferred none)) := by
      refine StepI.trans (B := W2) ?_ (StepI.putObj _ (by omega) hK2 rfl)
      rw [← hW2]
      exact ((StepX.setCell (X := fun k => k = w.heap.size ∨ k = w.heap.size + 1) W' ⟨w.heap.size, 0, none⟩ _ (.inl rfl)).trans (StepX.setCell _ ⟨w.heap.size + 1, 0, none⟩ _ (.inr rfl))).toI
    rw [hW2]
    have hz := hst []
    rw [List.append_nil] at hz
    have hz1 : readE 0 l = 0 := by rw [(read_it 0 l).1, hz.1]; rfl
    have hz2 : readF 0 l = acc := by rw [(read_it 0 l).2, hz.2]; simp [stF]
    refine ⟨by simp, .inl ⟨_, _, rfl, run_takeDeferred hK2, ?_⟩⟩
    refine ⟨_, rv_list rfl (by simp) (.one rfl plain_fields (cell_blk ((World.putObj_heap_other (by omega)).trans hA)) (.one rfl plain_errno (cell_blk ((World.putObj_heap_other (by omega)).trans hE)) .nil)), _, ret_pair hz1.symm, ?_, ?_⟩
    · rw [readR, if_pos hz1, hz2]
      exact (ho.stepI hst2 (fun k hk => by omega)).mono (by omega)
    · exact hst2.below (fun k hk => by omega) (by omega) hB.size hB
  case stop =>
    rintro D c pre W' hD hpre ⟨rfl, e, e0, e1, hne, hst, hB⟩ hK
    gi_wp2
    obtain ⟨t, ht⟩ := hpre
    have hz1 : readE 0 l = e := by rw [(read_it 0 l).1, ← ht]; exact hst t
    have hst2 : StepI (w.heap.size + 1 + 1 + 1 + 1 + 1) (fun _ => False) W' (W'.putObj D (.deferred none)) := StepI.putObj _ (by omega) hK rfl
    refine ⟨by simp, .inl ⟨_, _, rfl, run_takeDeferred hK, ?_⟩⟩
    refine ⟨_, rv_list rfl (by simp) (.one rfl plain_fields (cell_blk ((World.putObj_heap_other (by omega)).trans e0)) (.one rfl plain_errno (cell_blk ((World.putObj_heap_other (by omega)).trans e1)) .nil)), _, ret_pair hz1.symm, ?_, ?_⟩
    · rw [readR, if_neg (by rw [hz1]; exact hne)]
      exact OwnL.nil
    · exact hst2.below (fun k hk => hk.elim) (by omega) hB.size hB
end Go.Proofs.YtoajianddmobaaaDoor
