/- A RANGE OVER A FUNCTION whose iterator keeps a state of its own in cells ('X' names the blocks that the iterator writes): the kit's law (wpIn_rangeFunc_ownH), turned to that. -/
import Derived.Test.YtoajianddmobaaaDoorRd
import Derived.RangeFuncNested
import Derived.RangeFuncBound
import Derived.RangeFuncCalls
import Derived.RangeFuncLeaves
import Derived.Shelf.Abstract
import Derived.Shelf.RegionOpen
import Derived.WalkKit
import Derived.OwnWalkIn
import Derived.TacticsInMore
import Derived.LoopNIn
import Derived.LoopIn
namespace Go.Proofs.YtoajianddmobaaaDoor
open Go.RowKit
set_option linter.unusedSimpArgs false
set_option linter.unusedVariables false
set_option maxRecDepth 100000

/-- What the iterator does between two rounds: new blocks, and writes to blocks in X. -/
structure StepX (X : Nat → Prop) (A B : World) : Prop where
  os : B.os = A.os
  tape : B.tape = A.tape
  output : B.output = A.output
  size : A.heap.size ≤ B.heap.size
  block : ∀ k, k < A.heap.size → ¬ X k → B.heap[k]? = A.heap[k]?
theorem StepX.refl (X : Nat → Prop) (A : World) : StepX X A A := ⟨rfl, rfl, rfl, Nat.le_refl _, fun _ _ _ => rfl⟩
theorem StepX.trans {X : Nat → Prop} {A B C : World} (h : StepX X A B) (k : StepX X B C) : StepX X A C :=
  ⟨k.os.trans h.os, k.tape.trans h.tape, k.output.trans h.output, Nat.le_trans h.size k.size, fun i hi hx => (k.block i (Nat.lt_of_lt_of_le hi h.size) hx).trans (h.block i hi hx)⟩
theorem StepX.grew {X : Nat → Prop} {A B : World} (g : Grew A B) : StepX X A B := by
  have g' : Below A.heap.size A B := g
  exact ⟨g'.os, g'.tape, g'.output, g'.size, fun k hk _ => g'.block k hk⟩
theorem StepX.setCell {X : Nat → Prop} (A : World) (p : Addr) (v : Value) (h : X p.block) : StepX X A (A.setCell p v) := by
  have hb : Below 0 A (A.setCell p v) := Below.setCell (Below.refl 0 A) (Nat.zero_le _) v
  exact ⟨hb.os, hb.tape, hb.output, hb.size, fun k hk hx => Below.heap_setCell A p v k (fun e => hx (e ▸ h))⟩
theorem StepX.mono {X Y : Nat → Prop} {A B : World} (h : StepX X A B) (hXY : ∀ k, X k → Y k) : StepX Y A B := ⟨h.os, h.tape, h.output, h.size, fun k hk hy => h.block k hk fun hx => hy (hXY k hx)⟩

/-- What the caller's invariant must bear: the iterator's steps, and turns of what is no cells, beyond B0. -/
structure StepI (B0 : Nat) (X : Nat → Prop) (A B : World) : Prop where
  os : B.os = A.os
  tape : B.tape = A.tape
  output : B.output = A.output
  size : A.heap.size ≤ B.heap.size
  block : ∀ k o, A.heap[k]? = some o → ¬ X k → (k < B0 ∨ o.isCells = true) → B.heap[k]? = some o
theorem StepX.toI {B0 : Nat} {X : Nat → Prop} {A B : World} (h : StepX X A B) : StepI B0 X A B :=
  ⟨h.os, h.tape, h.output, h.size, fun k o hk hx _ => (h.block k (Array.getElem?_eq_some_iff.1 hk).1 hx).trans hk⟩
theorem StepI.alloc (B0 : Nat) (X : Nat → Prop) (A : World) (o : Obj) : StepI B0 X A (A.alloc o) := (StepX.grew ((Grew.refl A).alloc o)).toI
theorem StepI.putObj {B0 : Nat} {X : Nat → Prop} {A : World} {l : Nat} {o : Obj} (o' : Obj) (hl : B0 ≤ l) (h : A.heap[l]? = some o) (ho : o.isCells = false) : StepI B0 X A (A.putObj l o') :=
  ⟨rfl, rfl, rfl, by simp, fun k u hk _ hc => by
    have hne : k ≠ l := fun e => by
      subst e
      rcases hc with hc | hc
      · omega
      · rw [h] at hk; cases hk; rw [ho] at hc; cases hc
    exact (World.putObj_heap_other hne).trans hk⟩
theorem StepI.refl (B0 : Nat) (X : Nat → Prop) (A : World) : StepI B0 X A A := (StepX.refl X A).toI
theorem StepI.trans {B0 : Nat} {X : Nat → Prop} {A B C : World} (h : StepI B0 X A B) (k : StepI B0 X B C) : StepI B0 X A C :=
  ⟨k.os.trans h.os, k.tape.trans h.tape, k.output.trans h.output, Nat.le_trans h.size k.size, fun i o hi hx hc => k.block i o (h.block i o hi hx hc) hx hc⟩

/-- The iterator's word: for whatever invariant J that bears its steps, if each round keeps its word, then all has come, or a part of it. Kp: what a round keeps for the iterator. -/
def SeqX {α : Type} (F : Fence) (n : Nat) (P : Program) (g : Nat) (lb : Array Value) (encs : α → Array Value) (X : Nat → Prop) (Kp : World → World → Prop) (S Sp : List α → Prop) (N : Nat) (W : World) : Prop :=
  ∀ (l : Nat) (J Jx : List α → World → Prop), (∀ s A B, J s A → StepX X A B → J s B) → (∀ s A B, Jx s A → StepX X A B → Jx s B) →
    (∀ pre x W1, J pre W1 → pre.length < N → YieldAt F (n - 1) P l (encs x) W1 fun e W' =>
      (e = .returned (.bool true) ∧ J (pre ++ [x]) W' ∧ Kp W1 W') ∨ (e = .returned (.bool false) ∧ Jx (pre ++ [x]) W')) →
    J [] W →
    CallsIn F n P g (#[.func (.yield l) #[] #[]] ++ lb) W fun e W' => (∃ v, e = .returned v) ∧ ((∃ xs, S xs ∧ J xs W') ∨ (∃ pre, Sp pre ∧ Jx pre W'))

/-- How a round's body may be left. -/
def postX {α : Type} (B0 : Nat) (Kp : World → World → Prop) (I : List α → World → Prop) (Ix : Code → List α → World → Prop) (xs : List α) (W : World) : Exit → Act → World → Prop
  | .normal, _, W' => KeepsFrom B0 W W' ∧ Kp W W' ∧ I xs W'
  | .ret, _, W' => KeepsFrom B0 W W' ∧ Ix .ret xs W'
  | .exit id, _, W' => KeepsFrom B0 W W' ∧ Ix (.exit id) xs W'
  | .goto t, _, W' => KeepsFrom B0 W W' ∧ Ix (.goto t) xs W'
  | .panic _, _, _ => False
  | .outgrown, _, _ => False

theorem KeepsFrom.refl' (B0 : Nat) (A : World) : KeepsFrom B0 A A := (KeepsOthers.refl A).from _
theorem keepsFrom_step {B0 : Nat} {A B : World} {X : Nat → Prop} (h : StepX X A B) (hX : ∀ k o, X k → A.heap[k]? = some o → o.isCells = true) : KeepsFrom B0 A B :=
  ⟨h.size, fun k o hk ho hc => (h.block k (Array.getElem?_eq_some_iff.1 ho).1 (fun hx => by rw [hX k o hx ho] at hc; cases hc)).trans ho⟩

theorem wpIn_rangeFunc_X {F : Fence} {n : Nat} {P : Program} {α : Type} {g : Operand} {ps : Array Tmp} {assign body : Code} {Q : Exit → Act → World → Prop} {a : Act} {w : World}
    (hro : F.round = none) (h1 : 1 ≤ n) {gf : Nat} {lb : Array Value} (hg : a.eval g = .func (.func gf) #[] lb) (hFg : F.fn gf) (eg : ∀ args w, (callFunc gf args).run P w = .ok (.enter gf args) w)
    {encs : α → Array Value} {X : Nat → Prop} {Kp : World → World → Prop} {S Sp : List α → Prop} {N : Nat} (hX : ∀ k, X k → k < w.heap.size) (hseq : ∀ W1, Grew w W1 → SeqX F (n - 1) P gf lb encs X Kp S Sp N W1)
    (hKt : ∀ {A B C : World}, Kp A B → Kp B C → Kp A C) (hKb : ∀ (W : World) (l : Nat) (o o' : Obj), w.heap.size ≤ l → W.heap[l]? = some o → o.isCells = false → Kp W (W.putObj l o')) (hps : ∀ x, (encs x).size = ps.size)
    (I : List α → World → Prop) (Ix : Code → List α → World → Prop) (hI : ∀ s A B, I s A → StepI w.heap.size X A B → I s B) (hIx : ∀ c s A B, Ix c s A → StepI w.heap.size X A B → Ix c s B) (h0 : I [] w)
    (Ax : α → Act → World → Prop) (hAx : ∀ x a' A B, Ax x a' A → StepI w.heap.size X A B → Ax x a' B)
    (hassign : ∀ (l : Nat) (pre : List α) (x : α) (W : World) (K : Act → World → Prop), I pre W → (∀ a' W', KeepsFrom w.heap.size W W' → Kp W W' → I pre W' → Ax x a' W' → K a' W') →
      assign.wpIn (F.inRound l) (n - 1 - 1) P (Exit.then K (fun _ _ _ => False)) { tmps := (ps.zip (encs x)).foldl (fun t (p, v) => t.setIfInBounds p v) a.tmps, defers := [] } W)
    (hbody : ∀ (l : Nat) (pre : List α) (x : α) (a' : Act) (W : World), w.heap.size ≤ l → I pre W → Ax x a' W → pre.length < N → body.wpIn (F.inRound l) (n - 1 - 1) P (postX w.heap.size Kp I Ix (pre ++ [x]) W) a' W)
    (hdone : ∀ (D : Nat) (xs : List α) (W : World), w.heap.size ≤ D → S xs → I xs W → W.heap[D]? = some (.deferred (some [])) → Q .normal { a with defers := { target := .collected D, args := #[] } :: a.defers } W)
    (hstop : ∀ (D : Nat) (c : Code) (pre : List α) (W : World), w.heap.size ≤ D → Sp pre → Ix c pre W → W.heap[D]? = some (.deferred (some [])) → c.wpIn F n P Q { a with defers := { target := .collected D, args := #[] } :: a.defers } W) :
    (Code.rangeFunc g ps assign body).wpIn F n P Q a w := by
  refine wpIn_rangeFunc ?_
  intro fn hfn
  rw [hro]
  obtain ⟨rec, hrec⟩ : ∃ rec : LoopState → Option Code → Loop, rec = fun st pe => { state := st, pending := pe, fn, tmps := a.tmps, params := ps, assign, body, defers := w.heap.size } := ⟨_, rfl⟩
  obtain ⟨W1, hW1⟩ : ∃ W1, (w.alloc (.deferred (some []))).alloc (.loop (rec .ready none)) = W1 := ⟨_, rfl⟩
  have hL1 : W1.heap[w.heap.size + 1]? = some (.loop (rec .ready none)) := by
    rw [← hW1]; have := World.alloc_heap_new (w.alloc (.deferred (some []))) (.loop (rec .ready none)); rwa [World.size_alloc] at this
  have hK1 : W1.heap[w.heap.size]? = some (.deferred (some [])) := by
    rw [← hW1]; exact (Below.heap_alloc _ _ _ (by simp)).trans (World.alloc_heap_new w _)
  have hI1 : I [] W1 := by rw [← hW1]; exact hI _ _ _ (hI _ _ _ h0 (StepI.alloc _ _ _ _)) (StepI.alloc _ _ _ _)
  have hb1 : Grew w W1 := by rw [← hW1]; exact ((Grew.refl w).alloc _).alloc _
  have nX : ∀ k, w.heap.size ≤ k → ¬ X k := fun k hk hx => by have := hX k hx; omega
  refine ⟨w.heap.size + 1, [{ target := .collected w.heap.size, args := #[] }], W1, { target := .fn (.func gf) lb, args := #[.func (.yield (w.heap.size + 1)) #[] #[]] }, W1, gf,
    #[.func (.yield (w.heap.size + 1)) #[] #[]] ++ lb, W1, ?_, ?_, ?_, ?_, fun _ => h1, ?_⟩
  · rw [← hW1, hrec]; exact run_enterLoop_outer _ _ _ _ _
  · simp only [resolve, hg]
    simp [go_sem]
  · intro f' hf'; simp [Target.leads] at hf'; subst hf'; exact hFg
  · simp [invoke, go_sem, eg]
  · refine (hseq W1 hb1 (w.heap.size + 1)
      (fun pre W => I pre W ∧ W.heap[w.heap.size + 1]? = some (.loop (rec .ready none)) ∧ W.heap[w.heap.size]? = some (.deferred (some [])))
      (fun pre W => ∃ c, Ix c pre W ∧ W.heap[w.heap.size + 1]? = some (.loop (rec .done (some c))) ∧ W.heap[w.heap.size]? = some (.deferred (some [])))
      (fun s A B hs hg' => ⟨hI s A B hs.1 hg'.toI, (hg'.block _ (Array.getElem?_eq_some_iff.1 hs.2.1).1 (nX _ (by omega))).trans hs.2.1, (hg'.block _ (Array.getElem?_eq_some_iff.1 hs.2.2).1 (nX _ (Nat.le_refl _))).trans hs.2.2⟩)
      (fun s A B hs hg' => by
        obtain ⟨c, hc, hl, hk⟩ := hs
        exact ⟨c, hIx c s A B hc hg'.toI, (hg'.block _ (Array.getElem?_eq_some_iff.1 hl).1 (nX _ (by omega))).trans hl, (hg'.block _ (Array.getElem?_eq_some_iff.1 hk).1 (nX _ (Nat.le_refl _))).trans hk⟩)
      ?_ ⟨hI1, hL1, hK1⟩).mono ?_
    · -- ONE ROUND
      rintro pre x W ⟨hi, hl, hk⟩ hlen
      have hlt : w.heap.size + 1 < W.heap.size := (Array.getElem?_eq_some_iff.1 hl).1
      have hy := run_yield (P := P) (args := encs x) hl (by rw [hrec]; exact hps x)
      rw [hrec] at hy
      refine ⟨fn, _, assign, body, hy, roundIn_of_wpIn hfn (hassign _ pre x W _ hi ?_)⟩
      clear hy
      intro a' Wa hkfa hkpa hia hax
      replace hl := hkfa.same _ _ (by omega) hl rfl
      replace hk := hkfa.same _ _ (Nat.le_refl _) hk rfl
      replace hlt : w.heap.size + 1 < Wa.heap.size := (Array.getElem?_eq_some_iff.1 hl).1
      replace hi := hia
      clear hia
      revert hkpa hkfa
      generalize W = Wb
      intro hkfa hkpa
      obtain ⟨W, rfl⟩ : ∃ W, W = Wa := ⟨_, rfl⟩
      refine ⟨_, run_beginRound hl (by rw [hrec]), ?_⟩
      have hl2 : (W.putObj (w.heap.size + 1) (.loop { rec .ready none with state := .busy })).heap[w.heap.size + 1]? = some (.loop { rec .ready none with state := .busy }) := World.putObj_heap_same hlt
      have hk2 : (W.putObj (w.heap.size + 1) (.loop { rec .ready none with state := .busy })).heap[w.heap.size]? = some (.deferred (some [])) := (World.putObj_heap_other (by omega)).trans hk
      have hw2 : Kp W (W.putObj (w.heap.size + 1) (.loop { rec .ready none with state := .busy })) := hKb _ _ _ _ (by omega) hl rfl
      have hst : ∀ {A : World} {o : Obj} (o' : Obj), A.heap[w.heap.size + 1]? = some o → o.isCells = false → StepI w.heap.size X A (A.putObj (w.heap.size + 1) o') := fun o' h hc => StepI.putObj o' (by omega) h hc
      refine wpIn_mono (hbody _ pre x a' _ (by omega) (hI _ _ _ hi (hst _ hl rfl)) (hAx x a' _ _ hax (hst _ hl rfl)) hlen) ?_
      have fin : ∀ (jump : Option Code) (W3 : World), KeepsFrom w.heap.size (W.putObj (w.heap.size + 1) (.loop { rec .ready none with state := .busy })) W3 →
          (Instr.endRound (w.heap.size + 1) jump).run P W3 = .ok (.bool jump.isNone) (W3.putObj (w.heap.size + 1) (.loop (rec (if jump.isNone then .ready else .done) jump))) ∧
          W3.heap[w.heap.size + 1]? = some (.loop { rec .ready none with state := .busy }) ∧
          (W3.putObj (w.heap.size + 1) (.loop (rec (if jump.isNone then .ready else .done) jump))).heap[w.heap.size + 1]? = some (.loop (rec (if jump.isNone then .ready else .done) jump)) ∧
          (W3.putObj (w.heap.size + 1) (.loop (rec (if jump.isNone then .ready else .done) jump))).heap[w.heap.size]? = some (.deferred (some [])) := fun jump W3 hk3 => by
        have hl3 := hk3.same _ _ (by omega) hl2 rfl
        have := run_endRound (P := P) jump hl3
        rw [hrec] at this ⊢
        exact ⟨this, by rw [hrec] at hl3; exact hl3, World.putObj_heap_same (Array.getElem?_eq_some_iff.1 hl3).1, (World.putObj_heap_other (by omega)).trans (hk3.same _ _ (Nat.le_refl _) hk2 rfl)⟩
      rintro e a3 W3 hp
      cases e with
      | normal =>
        obtain ⟨hk3, hkp3, hi3⟩ := hp
        obtain ⟨hr, hl3, hl4, hk4⟩ := fin none W3 hk3
        exact ⟨_, _, hr, .inl ⟨rfl, ⟨hI _ _ _ hi3 (hst _ hl3 rfl), hl4, hk4⟩, hKt hkpa (hKt (hKt hw2 hkp3) (hKb _ _ _ _ (by omega) hl3 rfl))⟩⟩
      | ret =>
        obtain ⟨hk3, hi3⟩ := hp
        obtain ⟨hr, hl3, hl4, hk4⟩ := fin (some .ret) W3 hk3
        exact ⟨_, _, hr, .inr ⟨rfl, .ret, hIx _ _ _ _ hi3 (hst _ hl3 rfl), hl4, hk4⟩⟩
      | exit id =>
        obtain ⟨hk3, hi3⟩ := hp
        obtain ⟨hr, hl3, hl4, hk4⟩ := fin (some (.exit id)) W3 hk3
        exact ⟨_, _, hr, .inr ⟨rfl, .exit id, hIx _ _ _ _ hi3 (hst _ hl3 rfl), hl4, hk4⟩⟩
      | goto t =>
        obtain ⟨hk3, hi3⟩ := hp
        obtain ⟨hr, hl3, hl4, hk4⟩ := fin (some (.goto t)) W3 hk3
        exact ⟨_, _, hr, .inr ⟨rfl, .goto t, hIx _ _ _ _ hi3 (hst _ hl3 rfl), hl4, hk4⟩⟩
      | panic ch => exact hp.elim
      | outgrown => exact hp.elim
    · -- BEHIND THE ITERATOR
      have hst : ∀ {A : World} {o : Obj} (o' : Obj), A.heap[w.heap.size + 1]? = some o → o.isCells = false → StepI w.heap.size X A (A.putObj (w.heap.size + 1) o') := fun o' h hc => StepI.putObj o' (by omega) h hc
      rintro e W2 ⟨⟨v, rfl⟩, (⟨xs, hS, hi, hl, hk⟩ | ⟨pre, hSp, c, hi, hl, hk⟩)⟩
      · exact ⟨none, _, by have := run_endLoop (P := P) hl (by rw [hrec]; simp); rw [hrec] at this; exact this, hdone _ xs _ (Nat.le_refl _) hS (hI _ _ _ hi (hst _ hl rfl)) ((World.putObj_heap_other (by omega)).trans hk)⟩
      · exact ⟨some c, _, by have := run_endLoop (P := P) hl (by rw [hrec]; simp); rw [hrec] at this; exact this, hstop _ c pre _ (Nat.le_refl _) hSp (hIx c _ _ _ hi (hst _ hl rfl)) ((World.putObj_heap_other (by omega)).trans hk)⟩

theorem wpListIn_app {F : Fence} {n : Nat} {P : Program} {α : Type} {base t e size bytes : Nat} {enc : α → Array Value} {w : World} {v : Value} {l news : List α} {ops : Array Oper} {rest : List Oper} {o : Oper} {a : Act} {Q : Exit → Act → World → Prop} (hgd : o.guard = none) (s x : Operand)
    (hop : o.op = .call { callee := .builtin .append, args := #[s, x], argTypes := #[t, t] })
    (he : elemB P t e size bytes = true) (h1 : Enc1 size enc) (hv : a.eval s = v) (hown : OwnL base e size enc w v l) {ad : Option Addr} {m c : Nat} (hx : a.eval x = .slice ad m c) (hm : m = news.length) (hs : SlR size enc w ad news) (hnil : ad = none → news = [] ∧ c = 0)
    (hlen : l.length + news.length ≤ 1099511627776) (hby : bytes ≤ 128 ∨ (l.length + news.length) * bytes ≤ 140737488355328) (hbase : base ≤ w.heap.size)
    (hK : ∀ v' w', Appended base e size enc w v l (l ++ news) v' w' → wpListIn F n P ops Q rest (a.put o.dst v') w') : wpListIn F n P ops Q (o :: rest) a w := by
  subst hm
  refine wpListIn_plain hgd fun K hK' => ?_
  obtain ⟨v', w', hrun, h2⟩ := run_app (P := P) he h1 o.type hown hs hnil hlen hby hbase
  unfold Oper.wpIn
  refine ⟨?_, ?_⟩
  · simp [Oper.about, hop, resolve, Target.leads, Sem.run_pure]
  · rw [Oper.semAt_plain F _ _ (by rw [hop]; intro c hc'; cases hc')]
    simp [execOp, hop, resolve, invoke, builtin, hv, hx, hrun, Result.andThen]
    exact hK' _ _ (hK v' w' h2)
end Go.Proofs.YtoajianddmobaaaDoor
