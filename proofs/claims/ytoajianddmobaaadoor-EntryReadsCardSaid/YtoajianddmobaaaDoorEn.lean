/- CONTRACTS: entry.fields: s, n, bytes. -/
import Derived.Test.YtoajianddmobaaaDoorHd7
namespace Go.Proofs.YtoajianddmobaaaDoor
open Go.RowKit
set_option linter.unusedSimpArgs false
set_option linter.unusedVariables false
set_option maxRecDepth 100000

theorem elemFlds : elemB Tryd.prog 112 87 2 24 = true := by kernel_rfl
abbrev FldsOwn (base : Nat) (w : World) (b : Nat) (l : List Fld) : Prop := BoxOwn base 112 87 2 encFld w b l
theorem flds_s_call (tag : Int) (s : ByteArray) (l : List Fld) (base b : Nat) (w : World) (h : FldsOwn base w b l) (hl : l.length ≤ 1000000) :
    Calls Tryd.prog 72 #[.pointer (some ⟨b, 0, none⟩), .int .i64 tag, .string s] w fun e w' => e = .returned (.tuple #[]) ∧ FldsOwn base w' b (l ++ [⟨tag, s⟩]) ∧ StepX (fun k => k = b ∨ base ≤ k) w w' := by
  obtain ⟨v, hb, ho, h1, h2⟩ := h
  obtain ⟨av, cv, rfl, hsl, hlc, hnv, hpv⟩ := ho.form F1 (by omega)
  have HPV := Lib.hid hpv; clear hpv hsl
  obtain ⟨c1, c2, c3, c4, c5⟩ := blk_facts hb
  have c0 := cell_blk hb
  go_enter Tryd.func72, Tryd.ntmps72
  go_wp2_with (at_builtin; refine wpList_app (base := base) (l := l) (news := [⟨tag, s⟩]) rfl _ _ rfl elemFlds F1 (by rfl) (ho.alloc _) (by rfl) rfl (sl_one F1 (heap_alloc_new w _)) (fun h => by cases h) (by simp; omega) (.inl (by omega)) (by simp; omega) ?_; intro v3 w3 hap; have hfin := BoxOwn.appended hb h1 h2 ((Grew.refl w).alloc _) hap ho; obtain ⟨p1, p2, p3, p4, p5⟩ := blk_facts hfin.2.2; obtain ⟨a3, cp3, rfl, -, -, -, -⟩ := hap.1.form F1 (by omega))
  go_end0
  have hl1 : (l ++ [(⟨tag, s⟩ : Fld)]).length = l.length + 1 := by simp
  rw [hl1] at hfin
  exact ⟨rfl, hfin.1, hfin.2.1⟩
theorem BoxOwn.big {α : Type} {base t e size : Nat} {enc : α → Array Value} {w : World} {b : Nat} {l : List α} (h : BoxOwn base t e size enc w b l) : b < w.heap.size := by obtain ⟨v, hb, _⟩ := h; exact (Array.getElem?_eq_some_iff.1 hb).1
theorem flds_n_call (tag n : Int) (l : List Fld) (base b : Nat) (w : World) (h : FldsOwn base w b l) (hl : l.length ≤ 1000000) :
    Calls Tryd.prog 71 #[.pointer (some ⟨b, 0, none⟩), .int .i64 tag, .int .i64 n] w fun e w' => e = .returned (.tuple #[]) ∧ FldsOwn base w' b (l ++ [⟨tag, str (numB n)⟩]) ∧ StepX (fun k => k = b ∨ base ≤ k) w w' := by
  go_enter Tryd.func71, Tryd.ntmps71
  go_wp2_with (first
    | (go_at_call 123; refine (number_call _ _).mono ?_; rintro e w1 ⟨rfl, hg1⟩)
    | (go_at_call 72; refine (flds_s_call _ _ _ _ _ _ (h.grew hg1) hl).mono ?_; rintro e w2 ⟨rfl, hr2, hs2⟩))
  go_end0
  exact ⟨rfl, hr2, (step_none hg1).trans hs2⟩
theorem flds_bytes_call (l : List Fld) (a : Option Addr) (cap : Nat) (w : World) (hs : SlR 2 encFld w a l) (hm : l.length ≤ 1000000) :
    Calls Tryd.prog 73 #[.slice a l.length cap] w fun e w' => ∃ v, e = .returned (.tuple #[v, .int .i64 (layE 0 l)]) ∧ OwnB w.heap.size w' v (layR l) ∧ Grew w w' := by
  go_enter Tryd.func73, Tryd.ntmps73
  go_wp2_with (go_at_call 124; refine (lay_call l _ _ _ hs hm).mono ?_; rintro e w1 ⟨v1, rfl, hv1, hg1⟩)
  go_ret2
  exact ⟨_, rfl, hv1, hg1⟩
end Go.Proofs.YtoajianddmobaaaDoor
