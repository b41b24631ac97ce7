/- CONTRACTS: head.row: next, number, digest; head.of. -/
import Derived.Test.YtoajianddmobaaaDoorHd2
namespace Go.Proofs.YtoajianddmobaaaDoor
open Go.RowKit
set_option linter.unusedSimpArgs false
set_option linter.unusedVariables false
set_option maxRecDepth 100000

def hd : List ByteArray → ByteArray
  | [] => ByteArray.empty
  | s :: _ => s
/-- A row that is read (its variable: block rb), and the truth beside it (block kb). -/
def RowSt (B : Nat → Prop) (w : World) (rb kb : Nat) (l : List ByteArray) (ok : Bool) : Prop :=
  ∃ a cap, w.heap[rb]? = some (.cells #[.slice a l.length cap] 164 (0, 0)) ∧ w.heap[kb]? = some (.cells #[.bool ok] 4 (0, 0)) ∧ rb ≠ kb ∧ l.length ≤ cap ∧ CeR Value.string w a l ∧ ∀ p, a = some p → p.block ≠ rb ∧ p.block ≠ kb ∧ B p.block
theorem CeR.stepX {α : Type} {f : α → Value} {w w' : World} {a : Option Addr} {l : List α} {X : Nat → Prop} (h : CeR f w a l) (hs : StepX X w w') (hX : ∀ p, a = some p → ¬ X p.block) : CeR f w' a l := by
  rcases h with h | ⟨b, off, ha, hlt, hc⟩
  · exact .inl h
  · exact .inr ⟨b, off, ha, Nat.lt_of_lt_of_le hlt hs.size, fun k x hx => by
      have := hc k x hx
      unfold World.cell? at this ⊢
      simp only [hs.block b hlt (hX _ ha)]
      exact this⟩
theorem RowSt.grew {B : Nat → Prop} {w w' : World} {rb kb : Nat} {l : List ByteArray} {ok : Bool} (h : RowSt B w rb kb l ok) (g : Grew w w') : RowSt B w' rb kb l ok := by
  obtain ⟨a, cap, h1, h2, h3, h4, h5, h6⟩ := h
  exact ⟨a, cap, (g.block (Array.getElem?_eq_some_iff.1 h1).1).trans h1, (g.block (Array.getElem?_eq_some_iff.1 h2).1).trans h2, h3, h4, h5.grew g, h6⟩
/-- The truth turns. -/
theorem RowSt.setOk {B : Nat → Prop} {w : World} {rb kb : Nat} {l : List ByteArray} {ok : Bool} (h : RowSt B w rb kb l ok) (b : Bool) : RowSt B (w.setCell ⟨kb, 0, none⟩ (.bool b)) rb kb l b := by
  obtain ⟨a, cap, h1, h2, h3, h4, h5, h6⟩ := h
  exact ⟨a, cap, (Below.heap_setCell _ _ _ _ h3).trans h1, heap_set_one h2, h3, h4, h5.stepX (X := fun k => k = kb) (StepX.setCell _ ⟨kb, 0, none⟩ _ rfl) (fun p hp hk => (h6 p hp).2.1 hk), h6⟩
theorem RowSt.moved {B : Nat → Prop} {w : World} {rb kb : Nat} {l : List ByteArray} {ok : Bool} {a : Option Addr} {cap : Nat} {x : Value} (h1 : w.heap[rb]? = some (.cells #[x] 164 (0, 0))) (h2 : w.heap[kb]? = some (.cells #[.bool ok] 4 (0, 0))) (h3 : rb ≠ kb)
    (h6 : ∀ p, a = some p → p.block ≠ rb ∧ p.block ≠ kb ∧ B p.block) (h5 : CeR Value.string w a l) (h4 : l.length ≤ cap) : RowSt B (w.setCell ⟨rb, 0, none⟩ (.slice a l.length cap)) rb kb l ok := by
  refine ⟨a, cap, heap_set_one h1, (Below.heap_setCell _ _ _ _ (Ne.symm h3)).trans h2, h3, h4, h5.stepX (X := fun k => k = rb) (StepX.setCell _ ⟨rb, 0, none⟩ _ rfl) (fun p hp hk => (h6 p hp).1 hk), h6⟩
theorem RowSt.step {B : Nat → Prop} {w w' : World} {rb kb : Nat} {l : List ByteArray} {ok : Bool} {X : Nat → Prop} (h : RowSt B w rb kb l ok) (hs : StepX X w w') (h1 : ¬ X rb) (h2 : ¬ X kb) (hX : ∀ k, X k → ¬ B k) : RowSt B w' rb kb l ok := by
  obtain ⟨a, cap, e1, e2, e3, e4, e5, e6⟩ := h
  exact ⟨a, cap, step_blk hs e1 h1, step_blk hs e2 h2, e3, e4, e5.stepX hs (fun p hp hx => hX _ hx (e6 p hp).2.2), e6⟩
set_option maxHeartbeats 1000000 in
theorem next_call (B : Nat → Prop) (l : List ByteArray) (ok : Bool) (rb kb : Nat) (w : World) (h : RowSt B w rb kb l ok) (hm : l.length ≤ 1000000000) :
    Calls Tryd.prog 114 #[.pointer (some ⟨rb, 0, none⟩), .pointer (some ⟨kb, 0, none⟩)] w fun e w' => e = .returned (.string (hd l)) ∧ RowSt B w' rb kb l.tail (ok && !l.isEmpty) ∧ StepX (fun k => k = rb ∨ k = kb) w w' := by
  have h0 := h
  obtain ⟨a, cap, h1, h2, h3, h4, h5, h6⟩ := h
  obtain ⟨c1, c2, c3, c4, c5⟩ := blk_facts h1
  have c0 := cell_blk h1
  obtain ⟨d1, d2, d3, d4, d5⟩ := blk_facts h2
  have d0 := cell_blk h2
  cases l with
  | nil =>
    have H6 := Lib.hid h6; clear h6
    go_enter Tryd.func114, Tryd.ntmps114
    go_wp2
    go_ret
    refine ⟨rfl, ?_, StepX.setCell _ ⟨kb, 0, none⟩ _ (.inr rfl)⟩
    have := h0.setOk false
    simpa using this
  | cons s l =>
    obtain ⟨b, off, rfl, hb, hc⟩ := h5.at (k := 0) (x := s) rfl
    rw [Nat.add_zero] at hc
    have hne := h6 _ rfl
    have H6 := Lib.hid h6; clear h6
    have i1 : (0 : Int) < (((s :: l).length : Nat) : Int) := by simp only [List.length_cons]; omega
    have i2 : (1 : Int) ≤ (((s :: l).length : Nat) : Int) := by simp only [List.length_cons]; omega
    have i3 : (((s :: l).length : Nat) : Int) ≤ (cap : Int) := by omega
    have i4 : (((s :: l).length : Nat) == 0) = false := by simp
    have i5 : ((((s :: l).length : Nat) : Int) == 0) = false := by rw [beq_eq_false_iff_ne]; omega
    generalize hL : (s :: l).length = L at *
    go_enter Tryd.func114, Tryd.ntmps114
    have hl1 : L - 1 = l.length := by rw [← hL]; simp
    go_wp2
    · have hcap : cap = 1 := by assumption
      go_ret
      have hl0 : l = [] := List.eq_nil_of_length_eq_zero (by omega)
      refine ⟨rfl, ?_, StepX.setCell _ ⟨rb, 0, none⟩ _ (.inl rfl)⟩
      exact RowSt.moved h1 h2 h3 (by simpa using H6.out) (by rw [hl0]; exact h5.take 0 (by simp)) (by omega)
    · go_ret
      refine ⟨rfl, ?_, StepX.setCell _ ⟨rb, 0, none⟩ _ (.inl rfl)⟩
      exact RowSt.moved h1 h2 h3 (fun p hp => by cases hp; exact hne) (h5.drop rfl 1) (by omega)

theorem rnumber_st_call (B : Nat → Prop) (l : List ByteArray) (ok : Bool) (rb kb : Nat) (w : World) (h : RowSt B w rb kb l ok) (hm : l.length ≤ 1000000000) :
    Calls Tryd.prog 115 #[.pointer (some ⟨rb, 0, none⟩), .pointer (some ⟨kb, 0, none⟩)] w fun e w' => e = .returned (.int .i64 (valN (hd l).data.toList)) ∧ RowSt B w' rb kb l.tail (ok && !l.isEmpty && valOk (hd l).data.toList) ∧ StepX (fun k => k = rb ∨ k = kb) w w' := by
  have key : ∀ b1 b2 : Bool, (ok && !l.isEmpty) = b1 → valOk (hd l).data.toList = b2 → Calls Tryd.prog 115 #[.pointer (some ⟨rb, 0, none⟩), .pointer (some ⟨kb, 0, none⟩)] w fun e w' => e = .returned (.int .i64 (valN (hd l).data.toList)) ∧ RowSt B w' rb kb l.tail (b1 && b2) ∧ StepX (fun k => k = rb ∨ k = kb) w w' := by
    intro b1 b2 hok hv
    cases b1 <;> cases b2
    all_goals
      go_enter Tryd.func115, Tryd.ntmps115
      go_wp2_with (first
        | (go_at_call 114; refine (next_call _ _ _ _ _ _ h hm).mono ?_; rintro e w1 ⟨rfl, hr1, hs1⟩; rw [hok] at hr1)
        | (go_at_call 109; refine (value_call _ _).mono ?_; rintro e w2 ⟨rfl, hg2⟩; have hr2 := hr1.grew hg2; have hr3 := hr2; obtain ⟨a2, cp2, e1, e2, e3, -⟩ := hr3; obtain ⟨d1, d2, d3, d4, d5⟩ := blk_facts e2; have d0 := cell_blk e2; rw [hv]; simp only [errIf]))
      go_ret
      exact ⟨rfl, hr2.setOk _, (hs1.trans (StepX.grew hg2)).trans (StepX.setCell _ ⟨kb, 0, none⟩ _ (.inr rfl))⟩
  exact key _ _ rfl rfl
end Go.Proofs.YtoajianddmobaaaDoor
