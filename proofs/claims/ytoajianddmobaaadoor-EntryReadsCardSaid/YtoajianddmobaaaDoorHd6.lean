/- CONTRACTS: head.Get, head.GetSigned. -/
import Derived.Test.YtoajianddmobaaaDoorPl2
namespace Go.Proofs.YtoajianddmobaaaDoor
open Go.RowKit
set_option linter.unusedSimpArgs false
set_option linter.unusedVariables false
set_option maxRecDepth 100000

theorem step_none {X : Nat → Prop} {A B : World} (g : Grew A B) : StepX X A B := ⟨(show Below _ A B from g).os, (show Below _ A B from g).tape, (show Below _ A B from g).output, g.le, fun k hk _ => g.block hk⟩
theorem heap_set_at {w : World} {b j : Nat} {v : Value} {cs : Array Value} {t : TypeId} (h : w.heap[b]? = some (.cells cs t (0, 0))) : (w.setCell ⟨b, j, none⟩ v).heap[b]? = some (.cells (cs.setIfInBounds j v) t (0, 0)) := heap_setCell_same _ _ _ _ _ _ h
/-- A thing (block sb) that is read out of a row, field by field; rr: the result's block. -/
structure RdSt (w : World) (z rb kb sb rr t : Nat) (B : Nat → Prop) (cr : Array Value) (W : World) (L : List ByteArray) (ok : Bool) (cs : Array Value) : Prop where
  row : RowSt B W rb kb L ok
  st : W.heap[sb]? = some (.cells cs t (0, 0))
  res : W.heap[rr]? = some (.cells cr t (0, 0))
  low : Below w.heap.size w W
  big : ∀ k, B k → k < z
  zW : z ≤ W.heap.size
  far : ¬ B sb
  ne1 : sb ≠ rb
  ne2 : sb ≠ kb
  ne3 : rr ≠ rb
  ne4 : rr ≠ kb
  ne5 : rr ≠ sb
  ge1 : w.heap.size ≤ rb
  ge2 : w.heap.size ≤ kb
  ge3 : w.heap.size ≤ sb
  len : L.length ≤ 1000000000
section
variable {w : World} {z rb kb sb rr t : Nat} {B : Nat → Prop} {cr cs : Array Value} {W W' : World} {L L' : List ByteArray} {ok ok' : Bool}
theorem RdSt.step (h : RdSt w z rb kb sb rr t B cr W L ok cs) (hs : StepX (fun k => k = rb ∨ k = kb) W W') (hr : RowSt B W' rb kb L' ok') (hl : L'.length ≤ 1000000000) : RdSt w z rb kb sb rr t B cr W' L' ok' cs :=
  ⟨hr, step_blk hs h.st (by intro hx; rcases hx with hx | hx; exact h.ne1 hx; exact h.ne2 hx), step_blk hs h.res (by intro hx; rcases hx with hx | hx; exact h.ne3 hx; exact h.ne4 hx), step_below hs h.low (Nat.le_refl _) (by intro k hk; have := h.ge1; have := h.ge2; omega), h.big, Nat.le_trans h.zW hs.size, h.far, h.ne1, h.ne2, h.ne3, h.ne4, h.ne5, h.ge1, h.ge2, h.ge3, hl⟩
theorem RdSt.turn (h : RdSt w z rb kb sb rr t B cr W L ok cs) {cs' : Array Value} (hs : StepX (fun k => k = sb) W W') (hst : W'.heap[sb]? = some (.cells cs' t (0, 0))) : RdSt w z rb kb sb rr t B cr W' L ok cs' :=
  ⟨h.row.step hs (fun e => h.ne1 e.symm) (fun e => h.ne2 e.symm) (fun k hk hb => h.far (by subst hk; exact hb)), hst, step_blk hs h.res h.ne5, step_below hs h.low (Nat.le_refl _) (by intro k hk; have := h.ge3; omega), h.big, Nat.le_trans h.zW hs.size, h.far, h.ne1, h.ne2, h.ne3, h.ne4, h.ne5, h.ge1, h.ge2, h.ge3, h.len⟩
theorem RdSt.store (h : RdSt w z rb kb sb rr t B cr W L ok cs) (j : Nat) (v : Value) : RdSt w z rb kb sb rr t B cr (W.setCell ⟨sb, j, none⟩ v) L ok (cs.setIfInBounds j v) :=
  h.turn (StepX.setCell (X := fun k => k = sb) _ ⟨sb, j, none⟩ _ rfl) (heap_set_at h.st)
theorem RdSt.put (h : RdSt w z rb kb sb rr t B cr W L ok cs) (off : Nat) (new : Array Value) : RdSt w z rb kb sb rr t B cr (W.putRow sb off new) L ok (splice cs off new) :=
  h.turn (StepX.putRow (X := fun k => k = sb) _ _ _ _ rfl) (heap_putRow_same h.st)
theorem RdSt.grew (h : RdSt w z rb kb sb rr t B cr W L ok cs) (g : Grew W W') : RdSt w z rb kb sb rr t B cr W' L ok cs := h.step (step_none g) (h.row.grew g) h.len
theorem tail_len {l : List ByteArray} {n : Nat} (h : l.length ≤ n) : l.tail.length ≤ n := by rw [List.length_tail]; omega
theorem RdSt.number (h : RdSt w z rb kb sb rr t B cr W L ok cs) :
    Calls Tryd.prog 115 #[.pointer (some ⟨rb, 0, none⟩), .pointer (some ⟨kb, 0, none⟩)] W fun e w' => e = .returned (.int .i64 (valN (hd L).data.toList)) ∧ RdSt w z rb kb sb rr t B cr w' L.tail (ok && !L.isEmpty && valOk (hd L).data.toList) cs := by
  refine (rnumber_st_call B L ok rb kb W h.row h.len).mono ?_
  rintro e w' ⟨rfl, hr, hs⟩
  exact ⟨rfl, h.step hs hr (tail_len h.len)⟩
theorem RdSt.digest (h : RdSt w z rb kb sb rr t B cr W L ok cs) :
    Calls Tryd.prog 116 #[.pointer (some ⟨rb, 0, none⟩), .pointer (some ⟨kb, 0, none⟩)] W fun e w' => ∃ d : Dig, e = .returned (.agg (encDig d)) ∧ RdSt w z rb kb sb rr t B cr w' L.tail (ok && !L.isEmpty && (hd L).size == 32) cs ∧ ((ok && !L.isEmpty && (hd L).size == 32) = true → d = digPut Dig.zero (hd L).data.toList) := by
  refine (digest_call B L ok rb kb W (fun k hk => Nat.lt_of_lt_of_le (h.big k hk) h.zW) h.row h.len).mono ?_
  rintro e w' ⟨d, rfl, hr, hs, hd⟩
  refine ⟨d, rfl, h.step hs hr (tail_len h.len), fun hx => ?_⟩
  have h1 := hd hx
  apply Vector.toList_inj.1
  rw [h1, digPut_full]
  simp only [Bool.and_eq_true, beq_iff_eq] at hx
  simpa using hx.2
/-- What the walk wants of it. -/
theorem RdSt.facts (h : RdSt w z rb kb sb rr t B cr W L ok cs) : ∃ a cap,
    (∀ i, W.cell? ⟨sb, i, none⟩ = cs[i]?) ∧ (∀ i, W.frozen? ⟨sb, i, none⟩ = false) ∧ (∀ off n, W.rowAt sb off n = rowOf cs off n) ∧ W.freeAt sb = true ∧
    (∀ off n, W.rowAt rr off n = rowOf cr off n) ∧ W.freeAt rr = true ∧ W.cell? ⟨kb, 0, none⟩ = some (.bool ok) ∧ W.cell? ⟨rb, 0, none⟩ = some (.slice a L.length cap) ∧ sb < W.heap.size ∧ (∀ j v off n, (W.setCell ⟨sb, j, none⟩ v).rowAt sb off n = rowOf (cs.setIfInBounds j v) off n) := by
  obtain ⟨a, cap, e1, e2, -⟩ := h.row
  obtain ⟨c1, c2, c3, c4, c5⟩ := blk_facts h.st
  obtain ⟨d1, d2, d3, d4, d5⟩ := blk_facts h.res
  exact ⟨a, cap, c1, c2, c3, c4, d3, d4, cell_blk e2, cell_blk e1, c5, fun j v => (blk_facts (h.store j v).st).2.2.1⟩
end
theorem headOk_root (h : Head) (d : Dig) : Head.ok ⟨h.region, h.epoch, h.size, d, h.tick⟩ = h.ok := rfl
set_option maxHeartbeats 2000000 in
theorem headGet_call (l : List UInt8) (a : Option Addr) (cap : Nat) (w : World) (hs : CeR encByte w a l) (hc : l.length ≤ cap) (hm : l.length ≤ 1000000000) :
    Calls Tryd.prog 113 #[.slice a l.length cap] w fun e w' => e = .returned (.tuple #[.agg (encHead (headGet l)), .int .i64 (errIf 70 (headGood l))]) ∧ Grew w w' := by
  have hLn : (ofL l).length ≤ 1000000000 := by rw [ofL, List.length_map]; exact Nat.le_trans (readR_len l) hm
  have hOF := fun kb b0 W h1 h2 => of_call l a cap kb b0 W h1 hc hm h2
  have hG : headGood l = (headFlag (ofOk l) (ofL l) && (ofL l).tail.tail.tail.tail.tail.isEmpty && (headVals (ofL l)).ok) := rfl
  have hV : headGet l = if headGood l then headVals (ofL l) else Head.zero := rfl
  rw [hV, hG]
  clear hV hG
  generalize ofL l = L at *
  generalize ofOk l = ok0 at *
  obtain ⟨A3, hA3⟩ : ∃ A3, A3 = ((w.alloc (.cells (encHead Head.zero) 33)).alloc (.cells #[.bool false] 4)).alloc (.cells (encHead Head.zero) 33) := ⟨_, rfl⟩
  have hg0 : Grew w A3 := by rw [hA3]; exact (((Grew.refl w).alloc _).alloc _).alloc _
  have hz : A3.heap.size = w.heap.size + 3 := by rw [hA3]; simp
  have hce := hs.grew hg0
  have e0 : A3.heap[w.heap.size]? = some (.cells (encHead Head.zero) 33 (0, 0)) := by rw [hA3, heap_alloc_old _ _ (by simp; omega), heap_alloc_old _ _ (by simp)]; exact heap_alloc_new w _
  have e1 : A3.heap[w.heap.size + 1]? = some (.cells #[.bool false] 4 (0, 0)) := by rw [hA3, heap_alloc_old _ _ (by simp)]; exact heap_alloc_at _ (by simp)
  have e2 : A3.heap[w.heap.size + 1 + 1]? = some (.cells (encHead Head.zero) 33 (0, 0)) := by rw [hA3]; exact heap_alloc_at _ (by simp)
  have hO2 := hOF (w.heap.size + 1) false A3 hce e1
  rw [hA3] at hO2
  have ne5 : w.heap.size ≠ w.heap.size + 1 + 1 := by omega
  cases hF : headFlag ok0 L
  · go_enter Tryd.func113, Tryd.ntmps113
    go_wp2_with (first
      | (go_at_call 112; refine hO2.mono ?_; rintro e w1 ⟨rb, rfl, hrb, hrs, hst⟩; rw [← hA3] at hrb hrs hst; rw [hz] at hrb hrs;
          have hr2 : RdSt w w1.heap.size rb (w.heap.size + 1) (w.heap.size + 1 + 1) w.heap.size 33 _ (encHead Head.zero) w1 L ok0 (encHead Head.zero) := ⟨hrs, step_blk hst e2 (by omega), step_blk hst e0 (by omega), step_below hst hg0 (Nat.le_refl _) (by intro k hk; omega), (fun k hk => hk.2.1), Nat.le_refl _, (by intro hk; have := hk.1; omega), (by omega), (by omega), (by omega), (by omega), (by omega), (by omega), (by omega), (by omega), hLn⟩;
          obtain ⟨ra, rc, c1, c2, c3, c4, c5, c6, c7, c8, c9, c10⟩ := hr2.facts)
      | (go_at_call 115; refine (RdSt.number (w := w) (by first | assumption | exact RdSt.store (by assumption) _ _ | exact RdSt.put (by assumption) _ _)).mono ?_; rintro e w2 ⟨rfl, hr2⟩; (try simp only [encHead_set_region, encHead_set_epoch, encHead_set_size, encHead_put_root] at hr2);
          obtain ⟨ra, rc, c1, c2, c3, c4, c5, c6, c7, c8, c9, c10⟩ := hr2.facts; (try (rw [headFlag] at hF; rw [hF] at c7)))
      | (go_at_call 116; refine (RdSt.digest (w := w) (by first | assumption | exact RdSt.store (by assumption) _ _ | exact RdSt.put (by assumption) _ _)).mono ?_; rintro e w2 ⟨d, rfl, hr2, hd⟩; (try simp only [encHead_set_region, encHead_set_epoch, encHead_set_size, encHead_put_root] at hr2);
          obtain ⟨ra, rc, c1, c2, c3, c4, c5, c6, c7, c8, c9, c10⟩ := hr2.facts))
    ((try simp only [Exit.inBlock, Exit.then]); refine bodyPost_ret (rv_list rfl (by simp) (.row (by rfl) agg_Head siz_Head (rowAt_put ((rowAt_setCell_ne ne5).trans ((c5 0 36).trans (encHead_row _))) (encHead_len _)) (.tmp .nil))) rfl ?_)
    refine ⟨rfl, ?_⟩
    exact step_below (StepX.putRow (X := fun k => k = w.heap.size) _ _ _ _ rfl) (hr2.store 35 _).low (Nat.le_refl _) (by intro k hk; omega)
  · by_cases hE : L.tail.tail.tail.tail.tail.length = 0
    · have i1 : L.tail.tail.tail.tail.tail.isEmpty = true := by rw [List.eq_nil_of_length_eq_zero hE]; rfl
      have i2 : L.length - 1 - 1 - 1 - 1 - 1 = 0 := by simpa only [List.length_tail] using hE
      clear hE
      rw [i1]
      cases hK : (headVals L).ok
      · skip
        have hK2 : ∀ d : Dig, (Head.mk (valN (hd L).data.toList) (valN (hd L.tail).data.toList) (valN (hd L.tail.tail).data.toList) d (valN (hd L.tail.tail.tail.tail).data.toList)).ok = false := fun d => (headOk_root (headVals L) d).trans hK
        go_enter Tryd.func113, Tryd.ntmps113
        go_wp2_with (first
          | (go_at_call 112; refine hO2.mono ?_; rintro e w1 ⟨rb, rfl, hrb, hrs, hst⟩; rw [← hA3] at hrb hrs hst; rw [hz] at hrb hrs;
              have hr2 : RdSt w w1.heap.size rb (w.heap.size + 1) (w.heap.size + 1 + 1) w.heap.size 33 _ (encHead Head.zero) w1 L ok0 (encHead Head.zero) := ⟨hrs, step_blk hst e2 (by omega), step_blk hst e0 (by omega), step_below hst hg0 (Nat.le_refl _) (by intro k hk; omega), (fun k hk => hk.2.1), Nat.le_refl _, (by intro hk; have := hk.1; omega), (by omega), (by omega), (by omega), (by omega), (by omega), (by omega), (by omega), (by omega), hLn⟩;
              obtain ⟨ra, rc, c1, c2, c3, c4, c5, c6, c7, c8, c9, c10⟩ := hr2.facts)
          | (go_at_call 115; refine (RdSt.number (w := w) (by first | assumption | exact RdSt.store (by assumption) _ _ | exact RdSt.put (by assumption) _ _)).mono ?_; rintro e w2 ⟨rfl, hr2⟩; (try simp only [encHead_set_region, encHead_set_epoch, encHead_set_size, encHead_put_root] at hr2);
              obtain ⟨ra, rc, c1, c2, c3, c4, c5, c6, c7, c8, c9, c10⟩ := hr2.facts; (try (rw [headFlag] at hF; rw [hF] at c7)))
          | (go_at_call 116; refine (RdSt.digest (w := w) (by first | assumption | exact RdSt.store (by assumption) _ _ | exact RdSt.put (by assumption) _ _)).mono ?_; rintro e w2 ⟨d, rfl, hr2, hd⟩; (try simp only [encHead_set_region, encHead_set_epoch, encHead_set_size, encHead_put_root] at hr2);
              obtain ⟨ra, rc, c1, c2, c3, c4, c5, c6, c7, c8, c9, c10⟩ := hr2.facts)
          | (go_at_call 77; refine (headCheck_call _ _).mono ?_; rintro e w3 ⟨rfl, hg3⟩; rw [hK2]; simp only [errIf]; have hr4 := (hr2.store 35 _).grew hg3; simp only [encHead_set_tick] at hr4; obtain ⟨qa, qc, b1, b2, b3, b4, b5, b6, b7, b8, b9, b10⟩ := hr4.facts))
        ((try simp only [Exit.inBlock, Exit.then]); refine bodyPost_ret (rv_list rfl (by simp) (.row (by rfl) agg_Head siz_Head (rowAt_put ((b5 0 36).trans (encHead_row _)) (encHead_len _)) (.tmp .nil))) rfl ?_)
        exact ⟨rfl, step_below (StepX.putRow (X := fun k => k = w.heap.size) _ _ _ _ rfl) hr4.low (Nat.le_refl _) (by intro k hk; omega)⟩
      · skip
        have hK2 : ∀ d : Dig, (Head.mk (valN (hd L).data.toList) (valN (hd L.tail).data.toList) (valN (hd L.tail.tail).data.toList) d (valN (hd L.tail.tail.tail.tail).data.toList)).ok = true := fun d => (headOk_root (headVals L) d).trans hK
        go_enter Tryd.func113, Tryd.ntmps113
        go_wp2_with (first
          | (go_at_call 112; refine hO2.mono ?_; rintro e w1 ⟨rb, rfl, hrb, hrs, hst⟩; rw [← hA3] at hrb hrs hst; rw [hz] at hrb hrs;
              have hr2 : RdSt w w1.heap.size rb (w.heap.size + 1) (w.heap.size + 1 + 1) w.heap.size 33 _ (encHead Head.zero) w1 L ok0 (encHead Head.zero) := ⟨hrs, step_blk hst e2 (by omega), step_blk hst e0 (by omega), step_below hst hg0 (Nat.le_refl _) (by intro k hk; omega), (fun k hk => hk.2.1), Nat.le_refl _, (by intro hk; have := hk.1; omega), (by omega), (by omega), (by omega), (by omega), (by omega), (by omega), (by omega), (by omega), hLn⟩;
              obtain ⟨ra, rc, c1, c2, c3, c4, c5, c6, c7, c8, c9, c10⟩ := hr2.facts)
          | (go_at_call 115; refine (RdSt.number (w := w) (by first | assumption | exact RdSt.store (by assumption) _ _ | exact RdSt.put (by assumption) _ _)).mono ?_; rintro e w2 ⟨rfl, hr2⟩; (try simp only [encHead_set_region, encHead_set_epoch, encHead_set_size, encHead_put_root] at hr2);
              obtain ⟨ra, rc, c1, c2, c3, c4, c5, c6, c7, c8, c9, c10⟩ := hr2.facts; (try (rw [headFlag] at hF; rw [hF] at c7)))
          | (go_at_call 116; refine (RdSt.digest (w := w) (by first | assumption | exact RdSt.store (by assumption) _ _ | exact RdSt.put (by assumption) _ _)).mono ?_; rintro e w2 ⟨d, rfl, hr2, hd⟩; have hD := hd; clear hd; (try simp only [encHead_set_region, encHead_set_epoch, encHead_set_size, encHead_put_root] at hr2);
              obtain ⟨ra, rc, c1, c2, c3, c4, c5, c6, c7, c8, c9, c10⟩ := hr2.facts)
          | (go_at_call 77; refine (headCheck_call _ _).mono ?_; rintro e w3 ⟨rfl, hg3⟩; rw [hK2]; simp only [errIf]; have hr4 := (hr2.store 35 _).grew hg3; simp only [encHead_set_tick] at hr4; obtain ⟨qa, qc, b1, b2, b3, b4, b5, b6, b7, b8, b9, b10⟩ := hr4.facts))
        have hd2 := hD (Bool.and_eq_true_iff.1 (Bool.and_eq_true_iff.1 hF).1).1
        subst hd2
        ((try simp only [Exit.inBlock, Exit.then]); refine bodyPost_ret (rv_list rfl (by simp) (.row (by rfl) agg_Head siz_Head (rowAt_put ((b5 0 36).trans (encHead_row _)) (encHead_len _)) (.tmp .nil))) rfl ?_)
        exact ⟨rfl, step_below (StepX.putRow (X := fun k => k = w.heap.size) _ _ _ _ rfl) hr4.low (Nat.le_refl _) (by intro k hk; omega)⟩
    · have i1 : L.tail.tail.tail.tail.tail.isEmpty = false := by rw [← Bool.not_eq_true, List.isEmpty_iff]; intro h; rw [h] at hE; exact hE rfl
      have i2 : ¬ (L.length - 1 - 1 - 1 - 1 - 1 = 0) := by simpa only [List.length_tail] using hE
      rw [i1]
      clear hE
      go_enter Tryd.func113, Tryd.ntmps113
      go_wp2_with (first
        | (go_at_call 112; refine hO2.mono ?_; rintro e w1 ⟨rb, rfl, hrb, hrs, hst⟩; rw [← hA3] at hrb hrs hst; rw [hz] at hrb hrs;
            have hr2 : RdSt w w1.heap.size rb (w.heap.size + 1) (w.heap.size + 1 + 1) w.heap.size 33 _ (encHead Head.zero) w1 L ok0 (encHead Head.zero) := ⟨hrs, step_blk hst e2 (by omega), step_blk hst e0 (by omega), step_below hst hg0 (Nat.le_refl _) (by intro k hk; omega), (fun k hk => hk.2.1), Nat.le_refl _, (by intro hk; have := hk.1; omega), (by omega), (by omega), (by omega), (by omega), (by omega), (by omega), (by omega), (by omega), hLn⟩;
            obtain ⟨ra, rc, c1, c2, c3, c4, c5, c6, c7, c8, c9, c10⟩ := hr2.facts)
        | (go_at_call 115; refine (RdSt.number (w := w) (by first | assumption | exact RdSt.store (by assumption) _ _ | exact RdSt.put (by assumption) _ _)).mono ?_; rintro e w2 ⟨rfl, hr2⟩; (try simp only [encHead_set_region, encHead_set_epoch, encHead_set_size, encHead_put_root] at hr2);
            obtain ⟨ra, rc, c1, c2, c3, c4, c5, c6, c7, c8, c9, c10⟩ := hr2.facts; (try (rw [headFlag] at hF; rw [hF] at c7)))
        | (go_at_call 116; refine (RdSt.digest (w := w) (by first | assumption | exact RdSt.store (by assumption) _ _ | exact RdSt.put (by assumption) _ _)).mono ?_; rintro e w2 ⟨d, rfl, hr2, hd⟩; (try simp only [encHead_set_region, encHead_set_epoch, encHead_set_size, encHead_put_root] at hr2);
            obtain ⟨ra, rc, c1, c2, c3, c4, c5, c6, c7, c8, c9, c10⟩ := hr2.facts))
      ((try simp only [Exit.inBlock, Exit.then]); refine bodyPost_ret (rv_list rfl (by simp) (.row (by rfl) agg_Head siz_Head (rowAt_put ((rowAt_setCell_ne ne5).trans ((c5 0 36).trans (encHead_row _))) (encHead_len _)) (.tmp .nil))) rfl ?_)
      refine ⟨rfl, ?_⟩
      exact step_below (StepX.putRow (X := fun k => k = w.heap.size) _ _ _ _ rfl) (hr2.store 35 _).low (Nat.le_refl _) (by intro k hk; omega)
end Go.Proofs.YtoajianddmobaaaDoor
