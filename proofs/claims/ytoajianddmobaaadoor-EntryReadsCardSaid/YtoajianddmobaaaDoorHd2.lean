/- CONTRACTS: head.Put, head.PutSigned. -/
import Derived.Test.YtoajianddmobaaaDoorHd
namespace Go.Proofs.YtoajianddmobaaaDoor
open Go.RowKit
set_option linter.unusedSimpArgs false
set_option linter.unusedVariables false
set_option maxRecDepth 100000

/-- A digest's cells, as a slice of bytes. -/
theorem dig_ce {w : World} {b off : Nat} {d : Dig} (h : w.rowAt b off 32 = some (encDig d)) : CeR encByte w (some ⟨b, off, none⟩) d.toList := .inr ⟨b, off, rfl, rowAt_lt h, fun k x hx => by
  have hk : k < 32 := by have := (List.getElem?_eq_some_iff.1 hx).1; simpa using this
  refine row_cell h k hk ?_
  have hx2 : d[k]? = some x := by simpa using hx
  simp [encDig, hx2]⟩
theorem dig_len (d : Dig) : d.toList.length = 32 := by simp
theorem dig_str {w : World} {b off : Nat} {d : Dig} (h : w.rowAt b off 32 = some (encDig d)) (cap : Nat) : (convert 22 9 (.slice (some ⟨b, off, none⟩) 32 cap)).run Tryd.prog w = .ok (.string (str d.toList)) w := by
  have := bytes_str (dig_ce h) cap
  rwa [dig_len] at this
def headRow (h : Head) : List ByteArray := [str (numB h.region), str (numB h.epoch), str (numB h.size), str h.root.toList, str (numB h.tick)]
def headB (h : Head) : List UInt8 := if h.ok = true then layR (rowFrom 0 (headRow h)) else []
theorem box_new {α : Type} {t e size : Nat} {enc : α → Array Value} (w : World) : BoxOwn (w.heap.size + 1) t e size enc (w.alloc (.cells #[.slice none 0 0] t)) w.heap.size [] :=
  ⟨_, heap_alloc_new w _, OwnL.nil, by omega, by simp⟩
theorem step_blk {X : Nat → Prop} {w w' : World} (h : StepX X w w') {b : Nat} {o : Obj} (hb : w.heap[b]? = some o) (hx : ¬ X b) : w'.heap[b]? = some o := (h.block b (Array.getElem?_eq_some_iff.1 hb).1 hx).trans hb
theorem step_below {n₀ : Nat} {X : Nat → Prop} {w A B : World} (h : StepX X A B) (k : Below n₀ w A) (hw : n₀ ≤ w.heap.size) (hX : ∀ k, X k → n₀ ≤ k) : Below n₀ w B := h.toI.below (B0 := n₀) hX (Nat.le_refl _) (Nat.le_trans hw k.size) k
set_option maxHeartbeats 1000000 in
theorem headPut_call (h : Head) (w : World) : Calls Tryd.prog 125 #[.agg (encHead h)] w fun e w' => ∃ v, e = .returned (.tuple #[v, .int .i64 (errIf 70 h.ok)]) ∧ OwnB w.heap.size w' v (headB h) ∧ Grew w w' := by
  cases hok : h.ok
  · go_enter Tryd.func125, Tryd.ntmps125
    go_wp2_with (go_at_call 77; refine (headCheck_call _ _).mono ?_; rintro e w1 ⟨rfl, hg1⟩; rw [hok]; simp only [errIf])
    go_ret2
    refine ⟨_, rfl, ?_, by (repeat (first | exact Grew.refl _ | refine Grew.alloc ?_ _ | refine Grew.drew ?_ | refine Grew.after (by assumption) ?_ | refine Grew.after (Old.grew (by assumption)) ?_))⟩
    rw [headB, if_neg (by simp [hok])]; exact OwnL.nil
  · go_enter Tryd.func125, Tryd.ntmps125
    go_wp2_with (first
      | (go_at_call 77; refine (headCheck_call _ _).mono ?_; rintro e w1 ⟨rfl, hg1⟩; rw [hok]; simp only [errIf]; have hb1 := (hg1.block (by simp)).trans (heap_alloc_new w (.cells (encHead h) 33)); have hlt1 : w.heap.size < w1.heap.size := (Array.getElem?_eq_some_iff.1 hb1).1;
          have hb2 := (heap_alloc_old w1 (.cells #[.slice none 0 0] 164) hlt1).trans hb1; have hr1 := box_new (t := 164) (e := 9) (size := 1) (enc := ES) w1; have hG1 : Below w.heap.size w (w1.alloc (.cells #[.slice none 0 0] 164)) := (((Grew.refl w).alloc _).trans hg1).alloc _; obtain ⟨c1, c2, c3, c4, c5⟩ := blk_facts hb2)
      | (go_at_call 127; refine (row_n_call _ _ _ _ _ (by assumption) (by simp)).mono ?_; rintro e w2 ⟨rfl, hr2, hs2⟩; have hb2 := step_blk hs2 (b := w.heap.size) (o := .cells (encHead h) 33 (0, 0)) (by assumption) (by intro hx; rcases hx with hx | hx <;> omega); have hG2 := step_below (n₀ := w.heap.size) (w := w) hs2 (by assumption) (Nat.le_refl _) (by intro k hk; rcases hk with hk | hk <;> omega); obtain ⟨c1, c2, c3, c4, c5⟩ := blk_facts hb2; have hcv := dig_str (b := w.heap.size) (off := 3) (d := h.root) (by rw [rowAt_of hb2]; exact encHead_row_root h) 32)
      | (go_at_call 126; refine (row_s_call _ _ _ _ _ (by assumption) (by simp)).mono ?_; rintro e w2 ⟨rfl, hr2, hs2⟩; have hb2 := step_blk hs2 (b := w.heap.size) (o := .cells (encHead h) 33 (0, 0)) (by assumption) (by intro hx; rcases hx with hx | hx <;> omega); have hG2 := step_below (n₀ := w.heap.size) (w := w) hs2 (by assumption) (Nat.le_refl _) (by intro k hk; rcases hk with hk | hk <;> omega); obtain ⟨c1, c2, c3, c4, c5⟩ := blk_facts hb2; have hcv := dig_str (b := w.heap.size) (off := 3) (d := h.root) (by rw [rowAt_of hb2]; exact encHead_row_root h) 32)
      | (go_at_call 128; refine (row_bytes_call _ _ _ _ (by assumption) (by simp)).mono ?_; rintro e w3 ⟨v3, rfl, ho3, hg3⟩))
    go_ret2
    refine ⟨_, rfl, ?_, Below.trans hG2 (Below.mono hg3 hG2.size)⟩
    rw [headB, if_pos hok]
    exact ho3.mono hG2.size
def signedRow (s : Signed) : List ByteArray := [str (headB s.head), str (numB s.node), str s.tag.toList]
def signedB (s : Signed) : List UInt8 := if s.may = true then layR (rowFrom 0 (signedRow s)) else []
set_option maxHeartbeats 1000000 in
theorem headPutSigned_call (s : Signed) (w : World) : Calls Tryd.prog 74 #[.agg (encSigned s)] w fun e w' => ∃ v, e = .returned (.tuple #[v, .int .i64 (errIf 70 s.may)]) ∧ OwnB w.heap.size w' v (signedB s) ∧ Grew w w' := by
  have hb0 := heap_alloc_new w (.cells (encSigned s) 35)
  cases hok : s.head.ok
  · have hmay : s.may = false := by simp [Signed.may, hok]
    rw [hmay]
    go_enter Tryd.func74, Tryd.ntmps74
    go_wp2_with (go_at_call 125; refine (headPut_call _ _).mono ?_; rintro e w1 ⟨v1, rfl, ho1, hg1⟩; have hb1 := (hg1.block (by simp)).trans hb0; obtain ⟨c1, c2, c3, c4, c5⟩ := blk_facts hb1; rw [hok]; simp only [errIf])
    go_ret2
    refine ⟨_, rfl, ?_, by (repeat (first | exact Grew.refl _ | refine Grew.alloc ?_ _ | refine Grew.drew ?_ | refine Grew.after (by assumption) ?_ | refine Grew.after (Old.grew (by assumption)) ?_))⟩
    rw [signedB, if_neg (by simp [hmay])]; exact OwnL.nil
  · by_cases hn : within s.node 1 3 = true
    · have hmay : s.may = true := by simp [Signed.may, hok, hn]
      rw [hmay]
      go_enter Tryd.func74, Tryd.ntmps74
      go_wp2_with (first
        | (go_at_call 125; refine (headPut_call _ _).mono ?_; rintro e w1 ⟨v1, rfl, ho1, hg1⟩; rw [hok]; simp only [errIf]; have hb1 := (hg1.block (by simp)).trans hb0; have hlt1 : w.heap.size < w1.heap.size := (Array.getElem?_eq_some_iff.1 hb1).1; obtain ⟨c1, c2, c3, c4, c5⟩ := blk_facts hb1; obtain ⟨a1, cp1, rfl, hce1, _, _⟩ := ho1.bytes; have hcv1 := bytes_str (hce1.grew ((Grew.refl w1).alloc (.cells #[.slice none 0 0] 164))) cp1;
            have hb2 := (heap_alloc_old w1 (.cells #[.slice none 0 0] 164) hlt1).trans hb1; have hr1 := box_new (t := 164) (e := 9) (size := 1) (enc := ES) w1; have hG1 : Below w.heap.size w (w1.alloc (.cells #[.slice none 0 0] 164)) := (((Grew.refl w).alloc _).trans hg1).alloc _; obtain ⟨c1, c2, c3, c4, c5⟩ := blk_facts hb2)
        | (go_at_call 117; refine (within_2 _ _ _ _).mono ?_; rintro e w' ⟨rfl, rfl⟩; rw [hn])
        | (go_at_call 127; refine (row_n_call _ _ _ _ _ (by assumption) (by simp)).mono ?_; rintro e w2 ⟨rfl, hr2, hs2⟩; have hb2 := step_blk hs2 (b := w.heap.size) (o := .cells (encSigned s) 35 (0, 0)) (by assumption) (by intro hx; rcases hx with hx | hx <;> omega); have hG2 := step_below (n₀ := w.heap.size) (w := w) hs2 (by assumption) (Nat.le_refl _) (by intro k hk; rcases hk with hk | hk <;> omega); obtain ⟨c1, c2, c3, c4, c5⟩ := blk_facts hb2; have hcv := dig_str (b := w.heap.size) (off := 37) (d := s.tag) (by rw [rowAt_of hb2]; exact encSigned_row_tag s) 32)
        | (go_at_call 126; refine (row_s_call _ _ _ _ _ (by assumption) (by simp)).mono ?_; rintro e w2 ⟨rfl, hr2, hs2⟩; have hb2 := step_blk hs2 (b := w.heap.size) (o := .cells (encSigned s) 35 (0, 0)) (by assumption) (by intro hx; rcases hx with hx | hx <;> omega); have hG2 := step_below (n₀ := w.heap.size) (w := w) hs2 (by assumption) (Nat.le_refl _) (by intro k hk; rcases hk with hk | hk <;> omega); obtain ⟨c1, c2, c3, c4, c5⟩ := blk_facts hb2; have hcv := dig_str (b := w.heap.size) (off := 37) (d := s.tag) (by rw [rowAt_of hb2]; exact encSigned_row_tag s) 32)
        | (go_at_call 128; refine (row_bytes_call _ _ _ _ (by assumption) (by simp)).mono ?_; rintro e w3 ⟨v3, rfl, ho3, hg3⟩))
      go_ret2
      refine ⟨_, rfl, ?_, Below.trans hG2 (Below.mono hg3 hG2.size)⟩
      rw [signedB, if_pos hmay]
      exact ho3.mono hG2.size
    · have hn2 : within s.node 1 3 = false := by simpa using hn
      have hmay : s.may = false := by simp [Signed.may, hn2]
      rw [hmay]
      go_enter Tryd.func74, Tryd.ntmps74
      go_wp2_with (first
        | (go_at_call 125; refine (headPut_call _ _).mono ?_; rintro e w1 ⟨v1, rfl, ho1, hg1⟩; have hb1 := (hg1.block (by simp)).trans hb0; obtain ⟨c1, c2, c3, c4, c5⟩ := blk_facts hb1; rw [hok]; simp only [errIf])
        | (go_at_call 117; refine (within_2 _ _ _ _).mono ?_; rintro e w' ⟨rfl, rfl⟩; rw [hn2]))
      go_ret2
      refine ⟨_, rfl, ?_, by (repeat (first | exact Grew.refl _ | refine Grew.alloc ?_ _ | refine Grew.drew ?_ | refine Grew.after (by assumption) ?_ | refine Grew.after (Old.grew (by assumption)) ?_))⟩
      rw [signedB, if_neg (by simp [hmay])]; exact OwnL.nil
end Go.Proofs.YtoajianddmobaaaDoor
