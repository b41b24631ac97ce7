/- Slices: how a slice's elements lie in memory. -/
import Derived.Test.YtoajianddmobaaaDoorEnt3
namespace Go.Proofs.YtoajianddmobaaaDoor
open Go.RowKit
set_option linter.unusedSimpArgs false
set_option linter.unusedVariables false

/-- The slice that begins at 'a' has (at least) the elements 'l', each a row of 'sz' cells. -/
def SlR {α : Type} (sz : Nat) (enc : α → Array Value) (w : World) (a : Option Addr) (l : List α) : Prop :=
  ∀ k x, l[k]? = some x → ∃ b off, a = some ⟨b, off, none⟩ ∧ w.rowAt b (off + k * sz) sz = some (enc x)

section
variable {α : Type} {sz : Nat} {enc : α → Array Value} {w w' : World} {a : Option Addr} {l : List α}
theorem SlR.nil : SlR sz enc w a [] := fun k x h => by simp at h
theorem SlR.grew (h : SlR sz enc w a l) (g : Grew w w') : SlR sz enc w' a l := fun k x hx => by
  obtain ⟨b, off, ha, hr⟩ := h k x hx
  exact ⟨b, off, ha, by rw [g.facts.2.2.1 _ _ _ (rowAt_lt hr)]; exact hr⟩
theorem SlR.at {b off : Nat} (h : SlR sz enc w (some ⟨b, off, none⟩) l) {k : Nat} {x : α} (hx : l[k]? = some x) : w.rowAt b (off + k * sz) sz = some (enc x) := by
  obtain ⟨b2, off2, e, hr⟩ := h k x hx
  cases e
  exact hr
theorem SlR.take (h : SlR sz enc w a l) (n : Nat) : SlR sz enc w a (l.take n) := fun k x hx => by
  rw [List.getElem?_take] at hx
  split at hx
  · exact h k x hx
  · cases hx
theorem SlR.alloc (h : SlR sz enc w a l) (o : Obj) : SlR sz enc (w.alloc o) a l := h.grew ((Grew.refl _).alloc o)
theorem SlR.drew (h : SlR sz enc w a l) : SlR sz enc w.drew a l := h.grew (Grew.refl _).drew
end
theorem drop_at {α : Type} {l : List α} {k : Nat} (h : k < l.length) : l.drop k = l[k] :: l.drop (k + 1) := List.drop_eq_getElem_cons h

/-! ### A right log -/
def chk : Int → List Item → Bool
  | _, [] => true
  | e, x :: l => x.ok && decide (e ≤ x.epoch) && chk x.epoch l
def logOk (l : List Item) : Bool := chk 0 l && decide (l.length ≤ 2000)

theorem chk_bad {x : Item} {l : List Item} {e : Int} (h : ¬ x.ok = true) : chk e (x :: l) = false := by simp [chk, h]
theorem chk_low {x : Item} {l : List Item} {e : Int} (h : x.epoch < e) : chk e (x :: l) = false := by simp [chk, Int.not_le.2 h]
theorem chk_on {x : Item} {l : List Item} {e : Int} (h : x.ok = true) (h2 : e ≤ x.epoch) : chk e (x :: l) = chk x.epoch l := by simp [chk, h, h2]

theorem historyCheck_call (l : List Item) (a : Option Addr) (cap : Nat) (w : World) (hs : SlR 110 encItem w a l) (hm : l.length ≤ 9223372036854775806) :
    Calls Tryd.prog 47 #[.slice a l.length cap] w fun e w' => e = .returned (.int .i64 (errIf 100 (logOk l))) ∧ Grew w w' := by
  go_enter Tryd.func47, Tryd.ntmps47
  go_wp2
  go_loopw [3, 8] (fun ep i wr => ∃ (k : Nat) (e : Int), k ≤ l.length ∧ i = .int .i64 k ∧ ep = .int .i64 e ∧ chk 0 l = chk e (l.drop k) ∧ Grew w wr) (fun _ i _ => l.length - (intOf i).toNat)
  case atStart => exact ⟨0, 0, Nat.zero_le _, rfl, rfl, rfl, Grew.refl _⟩
  case round =>
    obtain ⟨k, e, hk, rfl, rfl, hc, hg⟩ := hrel
    by_cases hlt : k < l.length
    · obtain ⟨b, off, rfl, hrow⟩ := hs.grew hg k l[k] (by simp [hlt])
      rw [drop_at hlt] at hc
      have Hc := Lib.hid hc; clear hc
      generalize l[k] = x at hrow Hc
      go_wp2_with (first | (go_at_call 83; refine (right_call _ _).mono ?_; rintro e w1 ⟨rfl, hg⟩; have hf := hg.facts))
      · have h2 : x.epoch < e := by assumption
        go_ret
        refine ⟨ret_i (by rw [logOk, Hc.out, chk_low h2]; rfl), ?_⟩
        (repeat (first | exact Grew.refl _ | refine Grew.alloc ?_ _ | refine Grew.drew ?_ | refine Grew.after (by assumption) ?_ | refine Grew.after (Old.grew (by assumption)) ?_))
      · have h1 : x.ok = true := by assumption
        have h2 : e ≤ x.epoch := by assumption
        go_roundw
        case rel =>
          refine ⟨k + 1, x.epoch, by omega, by go_num, rfl, by rw [Hc.out, chk_on h1 h2], ?_⟩
          (repeat (first | exact Grew.refl _ | refine Grew.alloc ?_ _ | refine Grew.drew ?_ | refine Grew.after (by assumption) ?_ | refine Grew.after (Old.grew (by assumption)) ?_))
        case measure => simp [intOf]; omega
      · have h1 : ¬ x.ok = true := by assumption
        go_ret
        refine ⟨ret_i (by rw [logOk, Hc.out, chk_bad h1]; rfl), ?_⟩
        (repeat (first | exact Grew.refl _ | refine Grew.alloc ?_ _ | refine Grew.drew ?_ | refine Grew.after (by assumption) ?_ | refine Grew.after (Old.grew (by assumption)) ?_))
    · have hd : l.drop k = [] := List.drop_eq_nil_of_le (by omega)
      rw [hd] at hc
      have Hc := Lib.hid hc; clear hc hd
      go_wp2
      · have h9 : ¬ l.length ≤ 2000 := by omega
        go_ret
        refine ⟨ret_i (by rw [logOk, Hc.out]; simp [chk, errIf, h9]), ?_⟩
        (repeat (first | exact Grew.refl _ | refine Grew.alloc ?_ _ | refine Grew.drew ?_ | refine Grew.after (by assumption) ?_ | refine Grew.after (Old.grew (by assumption)) ?_))
      · have h9 : l.length ≤ 2000 := by omega
        go_ret
        refine ⟨ret_i (by rw [logOk, Hc.out]; simp [chk, errIf, h9]), ?_⟩
        (repeat (first | exact Grew.refl _ | refine Grew.alloc ?_ _ | refine Grew.drew ?_ | refine Grew.after (by assumption) ?_ | refine Grew.after (Old.grew (by assumption)) ?_))
end Go.Proofs.YtoajianddmobaaaDoor
