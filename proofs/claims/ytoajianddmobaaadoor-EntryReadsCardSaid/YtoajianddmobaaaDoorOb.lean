/- A slice of bytes that came in. -/
import Derived.Test.YtoajianddmobaaaDoorRx
import Derived.Test.YtoajianddmobaaaDoorOp
namespace Go.Proofs.YtoajianddmobaaaDoor
open Go.RowKit Go.ChangeShapes Go.WideShapes Go.ChangeAt
set_option linter.unusedSimpArgs false
set_option linter.unusedVariables false
set_option maxRecDepth 100000

theorem arg_bytes {H : Type} {enc : TypeId × Value → H} {W : World} {r : Reach} {b0 base : Nat} {sp : Nat → Bool} {held : Bool} {v : Value} {d : DataW H} {p : List MemPlace}
    (hv : Value.okWide Tryd.prog W r b0 22 v) (h : DataW.Trod enc Tryd.prog W base sp held 22 v d p) : ∃ (a : Option Addr) (cap : Nat) (l : List UInt8), v = .slice a l.length cap ∧ CeW W a l ∧ l.length ≤ cap ∧ (a = none → cap = 0) := by
  obtain ⟨a, len, cap, rfl⟩ := okWide_slice Tryd.underlying22 hv
  obtain ⟨fuel, hf⟩ := h
  rcases open_ints Tryd.underlying22 Tryd.underlying5 (by kernel_rfl) hf with ⟨hcs, _⟩ | ⟨x, l, c, zs, hcs, _, hl, hm, hz, _, hcell, hwz⟩
  · simp [Value.cells] at hcs
    obtain ⟨rfl, rfl, rfl⟩ := hcs
    exact ⟨none, 0, [], rfl, fun h => (h rfl).elim, Nat.le_refl _, fun _ => rfl⟩
  · simp [Value.cells] at hcs
    obtain ⟨rfl, rfl, rfl⟩ := hcs
    have hzl : len ≤ zs.length := by rw [hz]; split <;> omega
    have hll : ((zs.take len).map fun z : Int => UInt8.ofNat z.toNat).length = len := by rw [List.length_map, List.length_take]; omega
    refine ⟨some x, cap, (zs.take len).map fun z : Int => UInt8.ofNat z.toNat, by rw [hll], fun hne => ?_, by rw [hll]; exact hl, fun e => by cases e⟩
    have hpos : 0 < len := by
      rcases Nat.eq_zero_or_pos len with h0 | h0
      · exact (hne (List.eq_nil_of_length_eq_zero (by rw [hll, h0]))).elim
      · exact h0
    obtain ⟨b, off, spot⟩ := x
    have hc := hcell 0 (by omega)
    have hspot : spot = none := by simpa [Addr.add] using World.cell?_spot hc
    subst hspot
    refine .inr ⟨b, off, rfl, ?_, fun k u hu => ?_⟩
    · have h0 : W.cell? ⟨b, off, none⟩ = some (.int .u8 (zs.getD 0 0)) := by simpa [Addr.add] using hc
      rcases Nat.lt_or_ge b W.heap.size with h | h
      · exact h
      · exfalso
        rw [World.cell?] at h0
        simp [Array.getElem?_eq_none h] at h0
    · have hk : k < len := by have := (List.getElem?_eq_some_iff.1 hu).1; rwa [hll] at this
      have hkz : k < zs.length := by omega
      have h0 : W.cell? ⟨b, off + k, none⟩ = some (.int .u8 (zs.getD k 0)) := by have := hcell k hkz; rwa [show (⟨b, off, none⟩ : Addr).add k = ⟨b, off + k, none⟩ by unfold Addr.add; split <;> simp_all] at this
      have hw : 0 ≤ zs[k] ∧ zs[k] ≤ 255 := by simpa [Lit.wf, IntKind.min, IntKind.max, IntKind.signed, IntKind.bits] using hwz _ (List.getElem_mem hkz)
      have hgd : zs.getD k 0 = zs[k] := by simp [List.getD, hkz]
      rw [h0, hgd]
      have hu2 : u = UInt8.ofNat zs[k].toNat := by
        have : ((zs.take len).map fun z : Int => UInt8.ofNat z.toNat)[k]? = some (UInt8.ofNat zs[k].toNat) := by simp [hk, hkz]
        rw [this] at hu
        exact (Option.some.inj hu).symm
      rw [hu2, encByte, UInt8.toNat_ofNat']
      congr 2
      omega
end Go.Proofs.YtoajianddmobaaaDoor
