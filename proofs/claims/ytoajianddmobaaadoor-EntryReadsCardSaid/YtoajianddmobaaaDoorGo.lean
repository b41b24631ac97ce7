/- CONTRACTS: bytes.Equal, entry.GetClaim$1. -/
import Derived.Test.YtoajianddmobaaaDoorEn4
namespace Go.Proofs.YtoajianddmobaaaDoor
open Go.RowKit
set_option linter.unusedSimpArgs false
set_option linter.unusedVariables false
set_option maxRecDepth 100000

theorem str_dec (a b : List UInt8) : ((str a).toList == (str b).toList) = decide (a = b) := by
  rw [str_eq, decide_eq_decide]
  exact ⟨str_inj, fun h => by rw [h]⟩
theorem equal_call (l m : List UInt8) (a b : Option Addr) (ca cb : Nat) (w : World) (ha : CeR encByte w a l) (hb : CeR encByte w b m) :
    Calls Tryd.prog 108 #[.slice a l.length ca, .slice b m.length cb] w fun e w' => e = .returned (.bool (decide (l = m))) ∧ w = w' := by
  have h1 := bytes_str ha ca
  have h2 := bytes_str hb cb
  have h3 := str_dec l m
  go_enter Tryd.func108, Tryd.ntmps108
  go_wp2
  go_ret
  exact ⟨rfl, rfl⟩
/-! A region that draws, whose last operation alone leaves a mark. -/
section
variable {P : Program} {ops : Array Oper} {Q : Exit → Act → World → Prop} {S : World → Prop} {T : World → World → Prop} {a0 : Act}
def TDU (P : Program) (ops : Array Oper) (Q : Exit → Act → World → Prop) (S : World → Prop) (T : World → World → Prop) (l : List Oper) (a : Act) (F : Act → World → Prop) : Prop :=
  ∃ rs : List Res, (∀ r ∈ rs, ∀ v w w', r.Good v w → T w w' → r.Good v w') ∧ TextW P ops Q S T l rs [] a F
theorem TDU.det {o : Oper} {l : List Oper} {a : Act} {F : Act → World → Prop} {c : Value} (hw : Region.wanted o (yielded ops a.tmps) = true)
    (h1 : ∀ (K : Act → World → Prop) (w : World), S w → (∀ w', T w w' → K (a.put o.dst c) w') → o.wp P a w K (NoPanic Q)) (h : TDU P ops Q S T l (a.put o.dst c) F) : TDU P ops Q S T (o :: l) a F := by
  obtain ⟨rs, h2, h3⟩ := h
  exact ⟨.det c :: rs, fun r hr v w w' hg ht => by rcases List.mem_cons.1 hr with rfl | hr; exact hg; exact h2 r hr v w w' hg ht, hw, fun K w hS hd hK => h1 K w hS (fun w' ht => hK c w' rfl ht), h3⟩
theorem TDU.last {o : Oper} {a : Act} {F : Act → World → Prop} (R : World → Prop) (hR : ∀ w w', R w → T w w' → R w') (hw : Region.wanted o (yielded ops a.tmps) = true)
    (h1 : ∀ (K : Act → World → Prop) (w : World), S w → (∀ v w', R w' → T w w' → K (a.put o.dst v) w') → o.wp P a w K (NoPanic Q)) (h : ∀ v w, S w → R w → F (a.put o.dst v) w) : TDU P ops Q S T [o] a F :=
  ⟨[.und fun _ => R], fun r hr v w w' hg ht => by
      simp only [List.mem_singleton] at hr
      subst hr
      exact hR w w' hg ht, hw, fun K w hS hd hK => h1 K w hS (fun v w' hr ht => hK v w' hr ht), fun v => fun w hS hc => h v w hS (hc (o.dst, R) (by simp))⟩
theorem wp_region_last {id : Nat} {l : List Oper} {w : World} (S : World → Prop) (T : World → World → Prop) (hm : P.follows .mixedOrders = true) (hok : okOrder l.toArray a0.tmps.size = true) (hT : ∀ w, T w w)
    (hS : ∀ w w', S w → T w w' → S w') (h0 : S w.drew) (ht : TDU P l.toArray Q S T l a0 (Q .normal)) : (Code.region id l.toArray true).wp P Q a0 w := by
  obtain ⟨rs, h1, h2⟩ := ht
  exact wp_region_text rs S T hm hok hT hS h1 h0 h2
end
theorem digPut_twice (d : Dig) (l : List UInt8) : digPut (digPut d l) l = digPut d l := by
  apply Vector.ext
  intro i hi
  simp only [digPut, Vector.getElem_ofFn, Fin.getElem_fin]
  split <;> rfl
/-- What a reader of one field leaves: the thing (block b) has turned. -/
def Turned (b t : Nat) (cs : Array Value) (w w' : World) : Prop := w'.heap[b]? = some (.cells cs t (0, 0)) ∧ StepX (fun k => k = b) w w'
theorem Turned.put {b t : Nat} {cs : Array Value} {w w1 : World} (hb : w1.heap[b]? = some (.cells cs t (0, 0))) (hs : StepX (fun k => k = b) w w1) (off : Nat) (new : Array Value) : Turned b t (splice cs off new) w (w1.putRow b off new) :=
  ⟨heap_putRow_same hb, hs.trans (StepX.putRow _ _ _ _ rfl)⟩
theorem claimTake_call (c : Claim) (f : Fld) (b : Nat) (w : World) (hb : w.heap[b]? = some (.cells (encClaim c) 27 (0, 0))) :
    Calls Tryd.prog 54 #[.pointer (some ⟨b, 0, none⟩), .agg (encFld f)] w fun e w' => e = .returned (.tuple #[]) ∧ Turned b 27 (encClaim (claimTake c f)) w w' := by
  obtain ⟨c1, c2, c3, c4, c5⟩ := blk_facts hb
  have h0 := heap_alloc_new w (.cells (encFld f) 87)
  have hbn := (heap_alloc_old w (.cells (encFld f) 87) c5).trans hb
  obtain ⟨d1, d2, d3, d4, d5⟩ := blk_facts hbn
  have hdt := encFld_data f
  by_cases h5 : f.tag = 5
  · have hT : claimTake c f = { c with root := digPut c.root f.data.data.toList } := by simp [claimTake, h5]
    go_enter Tryd.func54, Tryd.ntmps54
    go_wp2
    refine wp_region_last (fun w' => w'.cell? ⟨w.heap.size, 1, none⟩ = some (.string f.data) ∧ (∃ c1 : Claim, w'.heap[b]? = some (.cells (encClaim c1) 27 (0, 0)) ∧ ({ c1 with root := digPut c1.root f.data.data.toList } : Claim) = { c with root := digPut c.root f.data.data.toList }) ∧ StepX (fun k => k = b) w w')
      (fun A B => StepX (fun k => k = b) A B ∧ (B.heap[b]? = A.heap[b]? ∨ B.heap[b]? = some (.cells (encClaim { c with root := digPut c.root f.data.data.toList }) 27 (0, 0)))) (by kernel_rfl) (by kernel_rfl) (fun _ => ⟨step_none (Grew.refl _), .inl rfl⟩) ?_ ?_ ?_
    case refine_1 =>
      rintro A B ⟨s1, ⟨c1, s2, s3⟩, s4⟩ ⟨t1, t2⟩
      have hlt := s4.size
      refine ⟨?_, ?_, s4.trans t1⟩
      · obtain ⟨hb9⟩ : Nonempty (w.heap.size < A.heap.size) := by
          refine ⟨?_⟩
          rcases Nat.lt_or_ge w.heap.size A.heap.size with h | h
          · exact h
          · exfalso
            rw [World.cell?] at s1
            simp [Array.getElem?_eq_none h] at s1
        unfold World.cell? at s1 ⊢
        simp only [t1.block w.heap.size hb9 (by omega)]
        exact s1
      · rcases t2 with t2 | t2
        · exact ⟨c1, t2.trans s2, s3⟩
        · exact ⟨_, t2, by simp only [digPut_twice]⟩
    case refine_2 =>
      refine ⟨?_, ⟨c, hbn, rfl⟩, ?_⟩
      · rw [show ∀ A : World, A.drew.cell? ⟨w.heap.size, 1, none⟩ = A.cell? ⟨w.heap.size, 1, none⟩ from fun _ => rfl, cell_of h0]; exact hdt
      · exact step_none (((Grew.refl w).alloc _).drew)
    case refine_3 =>
      iterate 6 (refine' TDU.det rfl ?_ ?_; rotate_left; (focus (intro K w9 hS hK; obtain ⟨s1, -, -⟩ := hS; go_wp2; exact step_none (Grew.refl _))); simp only [Act.put, List.setIfInBounds_toArray, List.set_cons_zero, List.set_cons_succ])
      refine TDU.last (fun w' => w'.heap[b]? = some (.cells (encClaim { c with root := digPut c.root f.data.data.toList }) 27 (0, 0))) ?_ ?_ ?_ ?_
      · rintro A B r1 ⟨-, t2⟩
        rcases t2 with t2 | t2
        · exact t2.trans r1
        · exact t2
      · rfl
      · intro K w9 hS hK
        obtain ⟨s1, ⟨c9, s2, s3⟩, s4⟩ := hS
        obtain ⟨e1, e2, e3, e4, e5⟩ := blk_facts s2
        have HS := Lib.hid s3; clear s3
        go_wp2
        have hR : (w9.putRow b 4 (encDig (digPut c9.root f.data.data.toList))).heap[b]? = some (.cells (encClaim { c with root := digPut c.root f.data.data.toList }) 27 (0, 0)) := by
          rw [heap_putRow_same s2, encClaim_put_root, HS.out]
        exact hK _ _ hR ⟨StepX.putRow (X := fun k => k = b) _ _ _ _ rfl, .inr hR⟩
      · intro v w9 hS hR
        go_end0
        exact ⟨rfl, by rw [hT]; exact hR, hS.2.2⟩
  · by_cases h1 : f.tag = 1
    · have hT : claimTake c f = { c with region := valN f.data.data.toList } := by simp [claimTake, h1]
      go_enter Tryd.func54, Tryd.ntmps54
      go_wp2_with (go_at_call 55; refine (enumber_call _ _).mono ?_; rintro e w1 ⟨rfl, hg1⟩; have hb1 := (hg1.block d5).trans hbn; obtain ⟨e1, e2, e3, e4, e5⟩ := blk_facts hb1)
      go_end0
      exact ⟨rfl, by rw [hT, heap_set_at hb1, encClaim_set_region], (step_none (((Grew.refl w).alloc _).trans hg1)).trans (StepX.setCell (X := fun k => k = b) _ _ _ rfl)⟩
    · by_cases h2 : f.tag = 2
      · have hT : claimTake c f = { c with epoch := valN f.data.data.toList } := by simp [claimTake, h2]
        go_enter Tryd.func54, Tryd.ntmps54
        go_wp2_with (go_at_call 55; refine (enumber_call _ _).mono ?_; rintro e w1 ⟨rfl, hg1⟩; have hb1 := (hg1.block d5).trans hbn; obtain ⟨e1, e2, e3, e4, e5⟩ := blk_facts hb1)
        go_end0
        exact ⟨rfl, by rw [hT, heap_set_at hb1, encClaim_set_epoch], (step_none (((Grew.refl w).alloc _).trans hg1)).trans (StepX.setCell (X := fun k => k = b) _ _ _ rfl)⟩
      · by_cases h3 : f.tag = 3
        · have hT : claimTake c f = { c with node := valN f.data.data.toList } := by simp [claimTake, h3]
          go_enter Tryd.func54, Tryd.ntmps54
          go_wp2_with (go_at_call 55; refine (enumber_call _ _).mono ?_; rintro e w1 ⟨rfl, hg1⟩; have hb1 := (hg1.block d5).trans hbn; obtain ⟨e1, e2, e3, e4, e5⟩ := blk_facts hb1)
          go_end0
          exact ⟨rfl, by rw [hT, heap_set_at hb1, encClaim_set_node], (step_none (((Grew.refl w).alloc _).trans hg1)).trans (StepX.setCell (X := fun k => k = b) _ _ _ rfl)⟩
        · by_cases h4 : f.tag = 4
          · have hT : claimTake c f = { c with size := valN f.data.data.toList } := by simp [claimTake, h4]
            go_enter Tryd.func54, Tryd.ntmps54
            go_wp2_with (go_at_call 55; refine (enumber_call _ _).mono ?_; rintro e w1 ⟨rfl, hg1⟩; have hb1 := (hg1.block d5).trans hbn; obtain ⟨e1, e2, e3, e4, e5⟩ := blk_facts hb1)
            go_end0
            exact ⟨rfl, by rw [hT, heap_set_at hb1, encClaim_set_size], (step_none (((Grew.refl w).alloc _).trans hg1)).trans (StepX.setCell (X := fun k => k = b) _ _ _ rfl)⟩
          · have hT : claimTake c f = c := by simp [claimTake, h1, h2, h3, h4, h5]
            go_enter Tryd.func54, Tryd.ntmps54
            go_wp2
            go_end0
            exact ⟨rfl, by rw [hT]; exact hbn, step_none ((Grew.refl w).alloc _)⟩
end Go.Proofs.YtoajianddmobaaaDoor
