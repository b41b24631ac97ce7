/- THE PLAIN LAW of layers 7 and 8, the program's side: heads, signed heads, claims, entries and items go round. -/
import Derived.Test.YtoajianddmobaaaDoorPl
namespace Go.Proofs.YtoajianddmobaaaDoor
set_option linter.unusedSimpArgs false
set_option linter.unusedVariables false
set_option maxRecDepth 100000

theorem rowFrom_lay : ∀ (l : List ByteArray) (k : Nat), k + l.length ≤ 255 → (∀ s ∈ l, s.size ≤ 65536) → layE (k : Int) (rowFrom k l) = 0
  | [], k, _, _ => rfl
  | s :: l, k, hk, h => by
    simp only [List.length_cons] at hk
    have hs := h s (by simp)
    have hm : mayP ((k : Int) + 1) (k : Int) s.size = 0 := by unfold mayP; rw [if_neg (by omega), if_neg (by omega)]
    rw [rowFrom, layE_ok hm]
    have := rowFrom_lay l (k + 1) (by omega) (fun s hs => h s (by simp [hs]))
    simpa using this
theorem rowFrom_data : ∀ (l : List ByteArray) (k : Nat), (rowFrom k l).map (·.data) = l
  | [], k => rfl
  | s :: l, k => by simp [rowFrom, rowFrom_data l (k + 1)]
theorem rowFrom_tags : ∀ (l : List ByteArray) (k : Nat), tagsOk k (rowFrom k l) = true
  | [], k => rfl
  | s :: l, k => by simp [rowFrom, tagsOk, rowFrom_tags l (k + 1)]
theorem rowFrom_of : ∀ (l : List Fld) (k : Nat), tagsOk k l = true → rowFrom k (l.map (·.data)) = l
  | [], k, _ => rfl
  | f :: l, k, h => by
    simp only [tagsOk, Bool.and_eq_true, decide_eq_true_eq] at h
    rw [List.map_cons, rowFrom, rowFrom_of l (k + 1) h.2, ← h.1]
/-- A row that is laid comes back. -/
theorem row_round {l : List ByteArray} (hk : l.length ≤ 255) (h : ∀ s ∈ l, s.size ≤ 65536) : readE 0 (layR (rowFrom 0 l)) = 0 ∧ readR (layR (rowFrom 0 l)) = rowFrom 0 l ∧ ofL (layR (rowFrom 0 l)) = l ∧ ofOk (layR (rowFrom 0 l)) = true := by
  have hl : layE 0 (rowFrom 0 l) = 0 := by simpa using rowFrom_lay l 0 (by omega) h
  obtain ⟨r1, r2⟩ := readR_lay hl
  refine ⟨r1, r2, ?_, ?_⟩
  · rw [ofL, r2, rowFrom_data]
  · rw [ofOk, r1, r2, rowFrom_tags]; rfl

theorem layR_len : ∀ (l : List Fld), (layR l).length ≤ (l.map fun f => 4 + f.data.size).sum := by
  intro l
  unfold layR
  split
  · unfold layB
    rw [List.length_flatMap]
    refine Nat.le_of_eq ?_
    congr 1
    apply List.map_congr_left
    intro f _
    rw [fieldB_len]
    simp
  · simp
theorem numB_len (n : Int) : (numB n).length ≤ 8 := by
  unfold numB
  split
  · exact be_len8 _ (by omega)
  · simp
theorem num_size (n : Int) : (str (numB n)).size ≤ 8 := by rw [str_size]; exact numB_len n
theorem dig_size (d : Dig) : (str d.toList).size = 32 := by rw [str_size]; simp
theorem digPut_full' (d : Dig) {z : Dig} : digPut z d.toList = d := by
  apply Vector.toList_inj.1
  exact digPut_full _ _ (by simp)

/-! Heads. -/
def bl (s : ByteArray) : List UInt8 := s.data.toList
def headVals (l : List ByteArray) : Head := ⟨valN (hd l).data.toList, valN (hd l.tail).data.toList, valN (hd l.tail.tail).data.toList, digPut Dig.zero (hd l.tail.tail.tail).data.toList, valN (hd l.tail.tail.tail.tail).data.toList⟩
def headFlag (ok : Bool) (l : List ByteArray) : Bool :=
  ((((ok && !l.isEmpty && valOk (hd l).data.toList) && !l.tail.isEmpty && valOk (hd l.tail).data.toList) && !l.tail.tail.isEmpty && valOk (hd l.tail.tail).data.toList) && !l.tail.tail.tail.isEmpty && (hd l.tail.tail.tail).size == 32) && !l.tail.tail.tail.tail.isEmpty && valOk (hd l.tail.tail.tail.tail).data.toList
def headGood (b : List UInt8) : Bool := headFlag (ofOk b) (ofL b) && (ofL b).tail.tail.tail.tail.tail.isEmpty && (headVals (ofL b)).ok
def headGet (b : List UInt8) : Head := if headGood b then headVals (ofL b) else Head.zero
theorem head_row_ok (h : Head) : ∀ s ∈ headRow h, s.size ≤ 65536 := by
  intro s hs
  simp only [headRow, List.mem_cons, List.not_mem_nil, or_false] at hs
  rcases hs with rfl | rfl | rfl | rfl | rfl
  all_goals first | (rw [dig_size]; decide) | exact Nat.le_trans (num_size _) (by decide)
theorem Head.nums {h : Head} (hh : h.ok = true) : numOk h.region = true ∧ numOk h.epoch = true ∧ numOk h.size = true ∧ numOk h.tick = true := by
  simp only [Head.ok, Bool.and_eq_true] at hh
  exact ⟨num_ok hh.1.1.1 (by decide) (by decide), num_ok hh.1.1.2 (by decide) (by decide), num_ok hh.1.2 (by decide) (by decide), num_ok hh.2 (by decide) (by decide)⟩
theorem head_round {h : Head} (hh : h.ok = true) : headGood (headB h) = true ∧ headGet (headB h) = h := by
  obtain ⟨n1, n2, n3, n4⟩ := Head.nums hh
  obtain ⟨r1, r2, r3, r4⟩ := row_round (l := headRow h) (by simp [headRow]) (head_row_ok h)
  have hb : headB h = layR (rowFrom 0 (headRow h)) := if_pos hh
  rw [← hb] at r1 r2 r3 r4
  have hv : headVals (ofL (headB h)) = h := by
    rw [r3]
    simp only [headVals, headRow, hd, List.tail_cons, str_toList, (val_num n1).2, (val_num n2).2, (val_num n3).2, (val_num n4).2]
    rw [digPut_full' h.root]
  have hg : headGood (headB h) = true := by
    unfold headGood
    rw [hv, hh, r3, r4]
    simp [headFlag, headRow, hd, str_toList, (val_num n1).1, (val_num n2).1, (val_num n3).1, (val_num n4).1, dig_size]
  exact ⟨hg, by rw [headGet, if_pos hg, hv]⟩

/-! Signed heads. -/
def signedVals (l : List ByteArray) : Signed := ⟨headGet (hd l).data.toList, valN (hd l.tail).data.toList, digPut Dig.zero (hd l.tail.tail).data.toList⟩
def signedFlag (ok : Bool) (l : List ByteArray) : Bool := ((ok && !l.isEmpty) && !l.tail.isEmpty && valOk (hd l.tail).data.toList) && !l.tail.tail.isEmpty && (hd l.tail.tail).size == 32
def signedGood (b : List UInt8) : Bool := signedFlag (ofOk b) (ofL b) && headGood (hd (ofL b)).data.toList && (ofL b).tail.tail.tail.isEmpty && within (signedVals (ofL b)).node 1 3
def signedGet (b : List UInt8) : Signed := if signedGood b then signedVals (ofL b) else Signed.zero
theorem headB_len (h : Head) : (headB h).length ≤ 100 := by
  unfold headB
  split
  · refine Nat.le_trans (layR_len _) ?_
    have := num_size h.region
    have := num_size h.epoch
    have := num_size h.size
    have := num_size h.tick
    have := dig_size h.root
    simp only [headRow, rowFrom, List.map_cons, List.map_nil, List.sum_cons, List.sum_nil]
    omega
  · simp
theorem signed_row_ok (s : Signed) : ∀ x ∈ signedRow s, x.size ≤ 65536 := by
  intro x hx
  simp only [signedRow, List.mem_cons, List.not_mem_nil, or_false] at hx
  rcases hx with rfl | rfl | rfl
  · rw [str_size]; have := headB_len s.head; omega
  · exact Nat.le_trans (num_size _) (by decide)
  · rw [dig_size]; decide
theorem signed_round {s : Signed} (hs : s.may = true) : signedGood (signedB s) = true ∧ signedGet (signedB s) = s := by
  have hs0 := hs
  simp only [Signed.may, Bool.and_eq_true] at hs
  obtain ⟨h1, h2⟩ := hs
  have n1 := num_ok h2 (by decide) (by decide)
  obtain ⟨g1, g2⟩ := head_round h1
  obtain ⟨r1, r2, r3, r4⟩ := row_round (l := signedRow s) (by simp [signedRow]) (signed_row_ok s)
  have hb : signedB s = layR (rowFrom 0 (signedRow s)) := if_pos hs0
  rw [← hb] at r1 r2 r3 r4
  have hv : signedVals (ofL (signedB s)) = s := by
    rw [r3]
    simp only [signedVals, signedRow, hd, List.tail_cons, str_toList, (val_num n1).2, g2]
    rw [digPut_full' s.tag]
  have hg : signedGood (signedB s) = true := by
    unfold signedGood
    rw [hv, h2, r3, r4]
    simp [signedFlag, signedRow, hd, str_toList, (val_num n1).1, dig_size, g1]
  exact ⟨hg, by rw [signedGet, if_pos hg, hv]⟩

/-! Claims. -/
def claimRow (c : Claim) : List ByteArray := [str (numB c.region), str (numB c.epoch), str (numB c.node), str (numB c.size), str c.root.toList]
def claimB (c : Claim) : List UInt8 := if c.ok = true then layR (rowFrom 0 (claimRow c)) else []
def claimTake (c : Claim) (f : Fld) : Claim :=
  if f.tag = 1 then { c with region := valN f.data.data.toList } else if f.tag = 2 then { c with epoch := valN f.data.data.toList } else if f.tag = 3 then { c with node := valN f.data.data.toList } else if f.tag = 4 then { c with size := valN f.data.data.toList } else if f.tag = 5 then { c with root := digPut c.root f.data.data.toList } else c
def claimX (b : List UInt8) : Claim := (readR b).foldl claimTake Claim.zero
def claimGood (b : List UInt8) : Bool := decide (readE 0 b = 0) && (claimX b).ok && decide (claimB (claimX b) = b)
def claimGet (b : List UInt8) : Claim := if claimGood b then claimX b else Claim.zero
theorem claim_row_ok (c : Claim) : ∀ s ∈ claimRow c, s.size ≤ 65536 := by
  intro s hs
  simp only [claimRow, List.mem_cons, List.not_mem_nil, or_false] at hs
  rcases hs with rfl | rfl | rfl | rfl | rfl
  all_goals first | (rw [dig_size]; decide) | exact Nat.le_trans (num_size _) (by decide)
theorem Claim.nums {c : Claim} (h : c.ok = true) : numOk c.region = true ∧ numOk c.epoch = true ∧ numOk c.node = true ∧ numOk c.size = true := by
  simp only [Claim.ok, Bool.and_eq_true] at h
  exact ⟨num_ok h.1.1.1 (by decide) (by decide), num_ok h.1.1.2 (by decide) (by decide), num_ok h.1.2 (by decide) (by decide), num_ok h.2 (by decide) (by decide)⟩
theorem claim_round {c : Claim} (h : c.ok = true) : readE 0 (claimB c) = 0 ∧ readR (claimB c) = rowFrom 0 (claimRow c) ∧ claimX (claimB c) = c ∧ claimGood (claimB c) = true ∧ claimGet (claimB c) = c := by
  obtain ⟨n1, n2, n3, n4⟩ := Claim.nums h
  obtain ⟨r1, r2, r3, r4⟩ := row_round (l := claimRow c) (by simp [claimRow]) (claim_row_ok c)
  have hb : claimB c = layR (rowFrom 0 (claimRow c)) := if_pos h
  rw [← hb] at r1 r2 r3 r4
  have hx : claimX (claimB c) = c := by
    rw [claimX, r2]
    simp [rowFrom, claimRow, claimTake, str_toList, (val_num n1).2, (val_num n2).2, (val_num n3).2, (val_num n4).2, digPut_full' c.root]
  have hg : claimGood (claimB c) = true := by
    unfold claimGood
    rw [hx, h, r1]; simp
  exact ⟨r1, r2, hx, hg, by rw [claimGet, if_pos hg, hx]⟩

/-! Entries. -/
def entryF (e : Entry) : List Fld :=
  ⟨1, str (numB e.kind)⟩ :: (if e.kind = 1 then [⟨2, str (numB e.client)⟩, ⟨3, str (numB e.seq)⟩, ⟨4, e.text⟩] else if e.kind = 2 then [⟨5, str (signedB e.head)⟩] else if e.kind = 3 then [⟨6, str (claimB e.claim)⟩] else [])
def entryB (e : Entry) : List UInt8 := if e.ok = true then layR (entryF e) else []
def entryTake (e : Entry) (f : Fld) : Entry :=
  if f.tag = 1 then { e with kind := valN f.data.data.toList } else if f.tag = 2 then { e with client := valN f.data.data.toList } else if f.tag = 3 then { e with seq := valN f.data.data.toList } else if f.tag = 4 then { e with text := f.data } else if f.tag = 5 then { e with head := signedGet f.data.data.toList } else if f.tag = 6 then { e with claim := claimGet f.data.data.toList } else e
def entryX (b : List UInt8) : Entry := (readR b).foldl entryTake Entry.zero
def entryGood (b : List UInt8) : Bool := decide (readE 0 b = 0) && (entryX b).ok && decide (entryB (entryX b) = b)
def entryGet (b : List UInt8) : Entry := if entryGood b then entryX b else Entry.zero
theorem signedB_len (s : Signed) : (signedB s).length ≤ 200 := by
  unfold signedB
  split
  · refine Nat.le_trans (layR_len _) ?_
    have := num_size s.node
    have := dig_size s.tag
    have := headB_len s.head
    simp only [signedRow, rowFrom, List.map_cons, List.map_nil, List.sum_cons, List.sum_nil, str_size] at *
    omega
  · simp
theorem claimB_len (c : Claim) : (claimB c).length ≤ 100 := by
  unfold claimB
  split
  · refine Nat.le_trans (layR_len _) ?_
    have := num_size c.region
    have := num_size c.epoch
    have := num_size c.node
    have := num_size c.size
    have := dig_size c.root
    simp only [claimRow, rowFrom, List.map_cons, List.map_nil, List.sum_cons, List.sum_nil]
    omega
  · simp
theorem Entry.ok_cases {e : Entry} (h : e.ok = true) :
    (∃ c s t, e = Entry.user 1 c s t ∧ within c 1 3 = true ∧ within s 1 1000000 = true ∧ (t.size : Int) ≤ 200) ∨ (∃ s, e = Entry.anchor s ∧ s.may = true) ∨ (∃ c, e = Entry.claimed c ∧ c.ok = true) := by
  obtain ⟨k, cl, sq, tx, hd, cm⟩ := e
  unfold Entry.ok at h
  split at h
  · rename_i hk
    simp only [Bool.and_eq_true, decide_eq_true_eq] at h hk
    obtain ⟨⟨⟨⟨h1, h2⟩, h3⟩, h4⟩, h5⟩ := h
    subst hk h4 h5
    exact .inl ⟨cl, sq, tx, rfl, h1, h2, h3⟩
  · split at h
    · rename_i hk
      simp only [Bool.and_eq_true, decide_eq_true_eq] at h hk
      obtain ⟨⟨⟨⟨h1, h2⟩, h3⟩, h4⟩, h5⟩ := h
      subst hk h1 h2 h3 h5
      exact .inr (.inl ⟨hd, rfl, h4⟩)
    · split at h
      · rename_i hk
        simp only [Bool.and_eq_true, decide_eq_true_eq] at h hk
        obtain ⟨⟨⟨⟨h1, h2⟩, h3⟩, h4⟩, h5⟩ := h
        subst hk h1 h2 h3 h4
        exact .inr (.inr ⟨cm, rfl, h5⟩)
      · cases h
theorem mayP_ok {tag last : Int} {n : Nat} (h1 : tag ≤ 255) (h2 : last < tag) (h3 : n ≤ 65536) : mayP tag last n = 0 := by unfold mayP; rw [if_neg (by omega), if_neg (by omega)]
theorem layE2 {a b : Fld} (ha : mayP a.tag 0 a.data.size = 0) (hb : mayP b.tag a.tag b.data.size = 0) : layE 0 [a, b] = 0 := by rw [layE_ok ha, layE_ok hb]; rfl
theorem entry_lay {e : Entry} (h : e.ok = true) : layE 0 (entryF e) = 0 := by
  have one : ∀ n : Int, mayP 1 0 (str (numB n)).size = 0 := fun n => by
    have := num_size n
    unfold mayP; rw [if_neg (by omega), if_neg (by omega)]
  rcases Entry.ok_cases h with ⟨c, s, t, rfl, h1, h2, h3⟩ | ⟨s, rfl, h1⟩ | ⟨c, rfl, h1⟩
  · have := num_size c
    have := num_size s
    have e1 : entryF (Entry.user 1 c s t) = [⟨1, str (numB 1)⟩, ⟨2, str (numB c)⟩, ⟨3, str (numB s)⟩, ⟨4, t⟩] := rfl
    have s1 : (str (numB c)).size ≤ 65536 := by omega
    have s2 : (str (numB s)).size ≤ 65536 := by omega
    have s3 : t.size ≤ 65536 := by omega
    rw [e1, layE_ok (one _), layE_ok (mayP_ok (by simp) (by simp) s1), layE_ok (mayP_ok (by simp) (by simp) s2), layE_ok (mayP_ok (by simp) (by simp) s3)]
    rfl
  · have := signedB_len s
    have e1 : entryF (Entry.anchor s) = [⟨1, str (numB 2)⟩, ⟨5, str (signedB s)⟩] := rfl
    rw [e1]
    exact layE2 (one _) (mayP_ok (by simp) (by simp) (by rw [str_size]; omega))
  · have := claimB_len c
    have e1 : entryF (Entry.claimed c) = [⟨1, str (numB 3)⟩, ⟨6, str (claimB c)⟩] := rfl
    rw [e1]
    exact layE2 (one _) (mayP_ok (by simp) (by simp) (by rw [str_size]; omega))
theorem entry_fold {e : Entry} (h : e.ok = true) : (entryF e).foldl entryTake Entry.zero = e := by
  rcases Entry.ok_cases h with ⟨c, s, t, rfl, h1, h2, h3⟩ | ⟨s, rfl, h1⟩ | ⟨c, rfl, h1⟩
  · have n1 := num_ok h1 (by decide) (by decide)
    have n2 := num_ok h2 (by decide) (by decide)
    have e1 : entryF (Entry.user 1 c s t) = [⟨1, str (numB 1)⟩, ⟨2, str (numB c)⟩, ⟨3, str (numB s)⟩, ⟨4, t⟩] := rfl
    rw [e1]
    simp [entryTake, str_toList, (val_num n1).2, (val_num n2).2, (val_num (n := 1) (by decide)).2, Entry.zero, Entry.user]
  · have e1 : entryF (Entry.anchor s) = [⟨1, str (numB 2)⟩, ⟨5, str (signedB s)⟩] := rfl
    rw [e1]
    simp [entryTake, str_toList, (val_num (n := 2) (by decide)).2, Entry.zero, Entry.anchor, (signed_round h1).2]
  · have e1 : entryF (Entry.claimed c) = [⟨1, str (numB 3)⟩, ⟨6, str (claimB c)⟩] := rfl
    rw [e1]
    simp [entryTake, str_toList, (val_num (n := 3) (by decide)).2, Entry.zero, Entry.claimed, (claim_round h1).2.2.2.2]
theorem entry_round {e : Entry} (h : e.ok = true) : readE 0 (entryB e) = 0 ∧ readR (entryB e) = entryF e ∧ entryX (entryB e) = e ∧ entryGood (entryB e) = true ∧ entryGet (entryB e) = e := by
  have hb : entryB e = layR (entryF e) := if_pos h
  obtain ⟨r1, r2⟩ := readR_lay (entry_lay h)
  rw [← hb] at r1 r2
  have hx : entryX (entryB e) = e := by rw [entryX, r2]; exact entry_fold h
  have hg : entryGood (entryB e) = true := by
    unfold entryGood
    rw [hx, h, r1]; simp
  exact ⟨r1, r2, hx, hg, by rw [entryGet, if_pos hg, hx]⟩
theorem entryB_len {e : Entry} (h : e.ok = true) : (entryB e).length ≤ 300 := by
  rw [entryB, if_pos h]
  refine Nat.le_trans (layR_len _) ?_
  have n1 := num_size e.kind
  rcases Entry.ok_cases h with ⟨c, s, t, rfl, h1, h2, h3⟩ | ⟨s, rfl, h1⟩ | ⟨c, rfl, h1⟩
  · have := num_size c
    have := num_size s
    have e1 : entryF (Entry.user 1 c s t) = [⟨1, str (numB 1)⟩, ⟨2, str (numB c)⟩, ⟨3, str (numB s)⟩, ⟨4, t⟩] := rfl
    have := num_size 1
    rw [e1]
    simp only [List.map_cons, List.map_nil, List.sum_cons, List.sum_nil]
    omega
  · have := signedB_len s
    have := num_size 2
    have e1 : entryF (Entry.anchor s) = [⟨1, str (numB 2)⟩, ⟨5, str (signedB s)⟩] := rfl
    rw [e1]
    simp only [List.map_cons, List.map_nil, List.sum_cons, List.sum_nil, str_size] at *
    omega
  · have := claimB_len c
    have := num_size 3
    have e1 : entryF (Entry.claimed c) = [⟨1, str (numB 3)⟩, ⟨6, str (claimB c)⟩] := rfl
    rw [e1]
    simp only [List.map_cons, List.map_nil, List.sum_cons, List.sum_nil, str_size] at *
    omega

/-! Items. -/
def itemRow (x : Item) : List ByteArray := [str (numB x.epoch), str (entryB x.entry)]
def itemB (x : Item) : List UInt8 := if x.ok = true then layR (rowFrom 0 (itemRow x)) else []
def itemTake (x : Item) (f : Fld) : Item := if f.tag = 1 then { x with epoch := valN f.data.data.toList } else if f.tag = 2 then { x with entry := entryGet f.data.data.toList } else x
def itemX (b : List UInt8) : Item := (readR b).foldl itemTake Item.zero
def itemGood (b : List UInt8) : Bool := decide (readE 0 b = 0) && (itemX b).ok && decide (itemB (itemX b) = b)
def itemGet (b : List UInt8) : Item := if itemGood b then itemX b else Item.zero
theorem item_row_ok {x : Item} (h : x.ok = true) : ∀ s ∈ itemRow x, s.size ≤ 65536 := by
  intro s hs
  simp only [Item.ok, Bool.and_eq_true] at h
  simp only [itemRow, List.mem_cons, List.not_mem_nil, or_false] at hs
  rcases hs with rfl | rfl
  · exact Nat.le_trans (num_size _) (by decide)
  · rw [str_size]; have := entryB_len h.2; omega
theorem item_round {x : Item} (h : x.ok = true) : readE 0 (itemB x) = 0 ∧ readR (itemB x) = rowFrom 0 (itemRow x) ∧ itemX (itemB x) = x ∧ itemGood (itemB x) = true ∧ itemGet (itemB x) = x := by
  have h0 := h
  simp only [Item.ok, Bool.and_eq_true] at h
  have n1 := num_ok h.1 (by decide) (by decide)
  obtain ⟨r1, r2, r3, r4⟩ := row_round (l := itemRow x) (by simp [itemRow]) (item_row_ok h0)
  have hb : itemB x = layR (rowFrom 0 (itemRow x)) := if_pos h0
  rw [← hb] at r1 r2 r3 r4
  have hx : itemX (itemB x) = x := by
    rw [itemX, r2]
    simp [rowFrom, itemRow, itemTake, str_toList, (val_num n1).2, (entry_round h.2).2.2.2.2]
  have hg : itemGood (itemB x) = true := by
    unfold itemGood
    rw [hx, h0, r1]; simp
  exact ⟨r1, r2, hx, hg, by rw [itemGet, if_pos hg, hx]⟩
/-- Unlike right things have unlike bytes. -/
theorem itemB_inj {x y : Item} (hx : x.ok = true) (hy : y.ok = true) (h : itemB x = itemB y) : x = y := by rw [← (item_round hx).2.2.1, h, (item_round hy).2.2.1]
theorem claimB_inj {x y : Claim} (hx : x.ok = true) (hy : y.ok = true) (h : claimB x = claimB y) : x = y := by rw [← (claim_round hx).2.2.1, h, (claim_round hy).2.2.1]
end Go.Proofs.YtoajianddmobaaaDoor
