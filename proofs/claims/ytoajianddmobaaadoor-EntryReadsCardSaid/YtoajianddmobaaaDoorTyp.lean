/- What the walk does at the program's own structs and arrays: new ones, loads, stores, '=='. Written by gentyp.py (own work). -/
import Derived.Test.YtoajianddmobaaaDoorMem
namespace Go.Proofs.YtoajianddmobaaaDoor
open Go.RowKit
set_option linter.unusedSimpArgs false
set_option linter.unusedVariables false
theorem encByte_one (b : UInt8) : (encByte b).oneCell' = true := rfl
@[go_sem] theorem encDig_one (d : Dig) : oneCells (encDig d) = true := by
  simp only [oneCells, encDig, Array.all_eq_true']
  intro v hv
  simp only [List.mem_toArray, List.mem_map] at hv
  obtain ⟨b, _, rfl⟩ := hv
  rfl
theorem oneCells_ap (a b : Array Value) : oneCells (ap a b) = (oneCells a && oneCells b) := by simp [oneCells, ap]
theorem oneCells_one (v : Value) : oneCells #[v] = v.oneCell' := by simp [oneCells]
@[go_sem] theorem one_int (k : IntKind) (n : Int) : (Value.int k n).oneCell' = true := rfl
@[go_sem] theorem one_string (s : ByteArray) : (Value.string s).oneCell' = true := rfl
@[go_sem] theorem one_bool (b : Bool) : (Value.bool b).oneCell' = true := rfl
@[go_sem] theorem one_slice (a : Option Addr) (n c : Nat) : (Value.slice a n c).oneCell' = true := rfl
theorem str_eq (a b : ByteArray) : (a.toList == b.toList) = decide (a = b) := by
  rw [Bool.eq_iff_iff]
  simp only [beq_iff_eq, decide_eq_true_eq, ByteArray.toList_eq]
  constructor
  · intro h; cases a; cases b; simp_all [Array.toList_inj]
  · rintro rfl; rfl
@[go_sem] theorem match_row_some {P : Program} (cs : Array Value) (w : World) (x : Result Value) : (match (some cs : Option (Array Value)) with | some cs => Result.ok (Value.agg cs) w | none => x) = .ok (.agg cs) w := rfl

@[go_sem] theorem encHead_one (x : Head) : oneCells (encHead x) = (true) := by simp only [encHead, oneCells_ap, oneCells_one, one_int, one_string, one_bool, encDig_one, Bool.and_true, Bool.true_and, encDig_one]
@[go_sem] theorem encSigned_one (x : Signed) : oneCells (encSigned x) = (true) := by simp only [encSigned, oneCells_ap, oneCells_one, one_int, one_string, one_bool, encDig_one, Bool.and_true, Bool.true_and, encDig_one, encHead_one]
@[go_sem] theorem encClaim_one (x : Claim) : oneCells (encClaim x) = (true) := by simp only [encClaim, oneCells_ap, oneCells_one, one_int, one_string, one_bool, encDig_one, Bool.and_true, Bool.true_and, encDig_one]
@[go_sem] theorem encEntry_one (x : Entry) : oneCells (encEntry x) = (true) := by simp only [encEntry, oneCells_ap, oneCells_one, one_int, one_string, one_bool, encDig_one, Bool.and_true, Bool.true_and, encClaim_one, encSigned_one]
@[go_sem] theorem encItem_one (x : Item) : oneCells (encItem x) = (true) := by simp only [encItem, oneCells_ap, oneCells_one, one_int, one_string, one_bool, encDig_one, Bool.and_true, Bool.true_and, encEntry_one]
@[go_sem] theorem encFld_one (x : Fld) : oneCells (encFld x) = (true) := by simp only [encFld, oneCells_ap, oneCells_one, one_int, one_string, one_bool, encDig_one, Bool.and_true, Bool.true_and]
@[go_sem] theorem encStepV_one (x : StepV) : oneCells (encStepV x) = (x.proof.oneCell') := by simp only [encStepV, oneCells_ap, oneCells_one, one_int, one_string, one_bool, encDig_one, Bool.and_true, Bool.true_and, encItem_one, encSigned_one]
@[go_sem] theorem encTailV_one (x : TailV) : oneCells (encTailV x) = (x.items.oneCell') := by simp only [encTailV, oneCells_ap, oneCells_one, one_int, one_string, one_bool, encDig_one, Bool.and_true, Bool.true_and]
@[go_sem] theorem encKeptV_one (x : KeptV) : oneCells (encKeptV x) = (x.items.oneCell' && x.claims.oneCell') := by simp only [encKeptV, oneCells_ap, oneCells_one, one_int, one_string, one_bool, encDig_one, Bool.and_true, Bool.true_and]
@[go_sem] theorem encKnot_one (x : Knot) : oneCells (encKnot x) = (true) := by simp only [encKnot, oneCells_ap, oneCells_one, one_int, one_string, one_bool, encDig_one, Bool.and_true, Bool.true_and, encDig_one]
theorem agg_Digest : aggB Tryd.prog 25 = true := by kernel_rfl
theorem siz_Digest : sizeB Tryd.prog 25 32 = true := by kernel_rfl
@[go_sem ↓] theorem toAlloc_Digest : Instr.alloc 25 true (.tuple #[]) = AllocOf 25 := rfl
@[go_sem ↓] theorem toLoad_Digest (x : Value) : Instr.loadAt 25 x = LoadOf 25 x := rfl
@[go_sem ↓] theorem toStore_Digest (x v : Value) : Instr.storeAt 25 x v = StoreOf 25 x v := rfl
@[go_sem ↓] theorem toBuild_Digest (ps : Array (Nat × Value)) : Instr.build 25 ps = BuildOf 25 ps := rfl
@[go_sem] theorem alloc_Digest (w : World) : (AllocOf 25).run Tryd.prog w = .ok (.pointer (some ⟨w.heap.size, 0, none⟩)) (w.alloc (.cells (encDig Dig.zero) 25)) := by kernel_rfl
@[go_sem] theorem load_Digest (w : World) (b off : Nat) : (LoadOf 25 (.pointer (some ⟨b, off, none⟩))).run Tryd.prog w = match w.rowAt b off 32 with | some cs => .ok (.agg cs) w | none => (loadVar 25 ⟨b, off, none⟩).run Tryd.prog w := run_loadAt_row agg_Digest siz_Digest w b off
@[go_sem] theorem store_Digest (w : World) (b off : Nat) (new : Array Value) : (StoreOf 25 (.pointer (some ⟨b, off, none⟩)) (.agg new)).run Tryd.prog w = if (w.rowAt b off 32).isSome && w.freeAt b && new.size == 32 && oneCells new then .ok () (w.putRow b off new) else (storeVar 25 ⟨b, off, none⟩ (.agg new)).run Tryd.prog w := run_storeAt_row siz_Digest w b off new
@[go_sem] theorem buildZero_Digest (w : World) : (BuildOf 25 #[]).run Tryd.prog w = .ok (.agg (encDig Dig.zero)) w := by kernel_rfl
theorem var_Digest {w : World} {b off : Nat} {cs : Array Value} (h : w.rowAt b off 32 = some cs) : (loadVar 25 ⟨b, off, none⟩).run Tryd.prog w = .ok (.agg cs) w := run_loadVar_row_at agg_Digest siz_Digest h
theorem agg_Key : aggB Tryd.prog 54 = true := by kernel_rfl
theorem siz_Key : sizeB Tryd.prog 54 32 = true := by kernel_rfl
@[go_sem ↓] theorem toAlloc_Key : Instr.alloc 54 true (.tuple #[]) = AllocOf 54 := rfl
@[go_sem ↓] theorem toLoad_Key (x : Value) : Instr.loadAt 54 x = LoadOf 54 x := rfl
@[go_sem ↓] theorem toStore_Key (x v : Value) : Instr.storeAt 54 x v = StoreOf 54 x v := rfl
@[go_sem ↓] theorem toBuild_Key (ps : Array (Nat × Value)) : Instr.build 54 ps = BuildOf 54 ps := rfl
@[go_sem] theorem alloc_Key (w : World) : (AllocOf 54).run Tryd.prog w = .ok (.pointer (some ⟨w.heap.size, 0, none⟩)) (w.alloc (.cells (encDig Dig.zero) 54)) := by kernel_rfl
@[go_sem] theorem load_Key (w : World) (b off : Nat) : (LoadOf 54 (.pointer (some ⟨b, off, none⟩))).run Tryd.prog w = match w.rowAt b off 32 with | some cs => .ok (.agg cs) w | none => (loadVar 54 ⟨b, off, none⟩).run Tryd.prog w := run_loadAt_row agg_Key siz_Key w b off
@[go_sem] theorem store_Key (w : World) (b off : Nat) (new : Array Value) : (StoreOf 54 (.pointer (some ⟨b, off, none⟩)) (.agg new)).run Tryd.prog w = if (w.rowAt b off 32).isSome && w.freeAt b && new.size == 32 && oneCells new then .ok () (w.putRow b off new) else (storeVar 54 ⟨b, off, none⟩ (.agg new)).run Tryd.prog w := run_storeAt_row siz_Key w b off new
@[go_sem] theorem buildZero_Key (w : World) : (BuildOf 54 #[]).run Tryd.prog w = .ok (.agg (encDig Dig.zero)) w := by kernel_rfl
theorem var_Key {w : World} {b off : Nat} {cs : Array Value} (h : w.rowAt b off 32 = some cs) : (loadVar 54 ⟨b, off, none⟩).run Tryd.prog w = .ok (.agg cs) w := run_loadVar_row_at agg_Key siz_Key h
theorem agg_Head : aggB Tryd.prog 33 = true := by kernel_rfl
theorem siz_Head : sizeB Tryd.prog 33 36 = true := by kernel_rfl
@[go_sem ↓] theorem toAlloc_Head : Instr.alloc 33 true (.tuple #[]) = AllocOf 33 := rfl
@[go_sem ↓] theorem toLoad_Head (x : Value) : Instr.loadAt 33 x = LoadOf 33 x := rfl
@[go_sem ↓] theorem toStore_Head (x v : Value) : Instr.storeAt 33 x v = StoreOf 33 x v := rfl
@[go_sem ↓] theorem toBuild_Head (ps : Array (Nat × Value)) : Instr.build 33 ps = BuildOf 33 ps := rfl
@[go_sem] theorem alloc_Head (w : World) : (AllocOf 33).run Tryd.prog w = .ok (.pointer (some ⟨w.heap.size, 0, none⟩)) (w.alloc (.cells (encHead Head.zero) 33)) := by kernel_rfl
@[go_sem] theorem load_Head (w : World) (b off : Nat) : (LoadOf 33 (.pointer (some ⟨b, off, none⟩))).run Tryd.prog w = match w.rowAt b off 36 with | some cs => .ok (.agg cs) w | none => (loadVar 33 ⟨b, off, none⟩).run Tryd.prog w := run_loadAt_row agg_Head siz_Head w b off
@[go_sem] theorem store_Head (w : World) (b off : Nat) (new : Array Value) : (StoreOf 33 (.pointer (some ⟨b, off, none⟩)) (.agg new)).run Tryd.prog w = if (w.rowAt b off 36).isSome && w.freeAt b && new.size == 36 && oneCells new then .ok () (w.putRow b off new) else (storeVar 33 ⟨b, off, none⟩ (.agg new)).run Tryd.prog w := run_storeAt_row siz_Head w b off new
@[go_sem] theorem buildZero_Head (w : World) : (BuildOf 33 #[]).run Tryd.prog w = .ok (.agg (encHead Head.zero)) w := by kernel_rfl
theorem var_Head {w : World} {b off : Nat} {cs : Array Value} (h : w.rowAt b off 36 = some cs) : (loadVar 33 ⟨b, off, none⟩).run Tryd.prog w = .ok (.agg cs) w := run_loadVar_row_at agg_Head siz_Head h
theorem agg_Signed : aggB Tryd.prog 35 = true := by kernel_rfl
theorem siz_Signed : sizeB Tryd.prog 35 69 = true := by kernel_rfl
@[go_sem ↓] theorem toAlloc_Signed : Instr.alloc 35 true (.tuple #[]) = AllocOf 35 := rfl
@[go_sem ↓] theorem toLoad_Signed (x : Value) : Instr.loadAt 35 x = LoadOf 35 x := rfl
@[go_sem ↓] theorem toStore_Signed (x v : Value) : Instr.storeAt 35 x v = StoreOf 35 x v := rfl
@[go_sem ↓] theorem toBuild_Signed (ps : Array (Nat × Value)) : Instr.build 35 ps = BuildOf 35 ps := rfl
@[go_sem] theorem alloc_Signed (w : World) : (AllocOf 35).run Tryd.prog w = .ok (.pointer (some ⟨w.heap.size, 0, none⟩)) (w.alloc (.cells (encSigned Signed.zero) 35)) := by kernel_rfl
@[go_sem] theorem load_Signed (w : World) (b off : Nat) : (LoadOf 35 (.pointer (some ⟨b, off, none⟩))).run Tryd.prog w = match w.rowAt b off 69 with | some cs => .ok (.agg cs) w | none => (loadVar 35 ⟨b, off, none⟩).run Tryd.prog w := run_loadAt_row agg_Signed siz_Signed w b off
@[go_sem] theorem store_Signed (w : World) (b off : Nat) (new : Array Value) : (StoreOf 35 (.pointer (some ⟨b, off, none⟩)) (.agg new)).run Tryd.prog w = if (w.rowAt b off 69).isSome && w.freeAt b && new.size == 69 && oneCells new then .ok () (w.putRow b off new) else (storeVar 35 ⟨b, off, none⟩ (.agg new)).run Tryd.prog w := run_storeAt_row siz_Signed w b off new
@[go_sem] theorem buildZero_Signed (w : World) : (BuildOf 35 #[]).run Tryd.prog w = .ok (.agg (encSigned Signed.zero)) w := by kernel_rfl
theorem var_Signed {w : World} {b off : Nat} {cs : Array Value} (h : w.rowAt b off 69 = some cs) : (loadVar 35 ⟨b, off, none⟩).run Tryd.prog w = .ok (.agg cs) w := run_loadVar_row_at agg_Signed siz_Signed h
theorem agg_Claim : aggB Tryd.prog 27 = true := by kernel_rfl
theorem siz_Claim : sizeB Tryd.prog 27 36 = true := by kernel_rfl
@[go_sem ↓] theorem toAlloc_Claim : Instr.alloc 27 true (.tuple #[]) = AllocOf 27 := rfl
@[go_sem ↓] theorem toLoad_Claim (x : Value) : Instr.loadAt 27 x = LoadOf 27 x := rfl
@[go_sem ↓] theorem toStore_Claim (x v : Value) : Instr.storeAt 27 x v = StoreOf 27 x v := rfl
@[go_sem ↓] theorem toBuild_Claim (ps : Array (Nat × Value)) : Instr.build 27 ps = BuildOf 27 ps := rfl
@[go_sem] theorem alloc_Claim (w : World) : (AllocOf 27).run Tryd.prog w = .ok (.pointer (some ⟨w.heap.size, 0, none⟩)) (w.alloc (.cells (encClaim Claim.zero) 27)) := by kernel_rfl
@[go_sem] theorem load_Claim (w : World) (b off : Nat) : (LoadOf 27 (.pointer (some ⟨b, off, none⟩))).run Tryd.prog w = match w.rowAt b off 36 with | some cs => .ok (.agg cs) w | none => (loadVar 27 ⟨b, off, none⟩).run Tryd.prog w := run_loadAt_row agg_Claim siz_Claim w b off
@[go_sem] theorem store_Claim (w : World) (b off : Nat) (new : Array Value) : (StoreOf 27 (.pointer (some ⟨b, off, none⟩)) (.agg new)).run Tryd.prog w = if (w.rowAt b off 36).isSome && w.freeAt b && new.size == 36 && oneCells new then .ok () (w.putRow b off new) else (storeVar 27 ⟨b, off, none⟩ (.agg new)).run Tryd.prog w := run_storeAt_row siz_Claim w b off new
@[go_sem] theorem buildZero_Claim (w : World) : (BuildOf 27 #[]).run Tryd.prog w = .ok (.agg (encClaim Claim.zero)) w := by kernel_rfl
theorem var_Claim {w : World} {b off : Nat} {cs : Array Value} (h : w.rowAt b off 36 = some cs) : (loadVar 27 ⟨b, off, none⟩).run Tryd.prog w = .ok (.agg cs) w := run_loadVar_row_at agg_Claim siz_Claim h
theorem agg_Entry : aggB Tryd.prog 37 = true := by kernel_rfl
theorem siz_Entry : sizeB Tryd.prog 37 109 = true := by kernel_rfl
@[go_sem ↓] theorem toAlloc_Entry : Instr.alloc 37 true (.tuple #[]) = AllocOf 37 := rfl
@[go_sem ↓] theorem toLoad_Entry (x : Value) : Instr.loadAt 37 x = LoadOf 37 x := rfl
@[go_sem ↓] theorem toStore_Entry (x v : Value) : Instr.storeAt 37 x v = StoreOf 37 x v := rfl
@[go_sem ↓] theorem toBuild_Entry (ps : Array (Nat × Value)) : Instr.build 37 ps = BuildOf 37 ps := rfl
@[go_sem] theorem alloc_Entry (w : World) : (AllocOf 37).run Tryd.prog w = .ok (.pointer (some ⟨w.heap.size, 0, none⟩)) (w.alloc (.cells (encEntry Entry.zero) 37)) := by kernel_rfl
@[go_sem] theorem load_Entry (w : World) (b off : Nat) : (LoadOf 37 (.pointer (some ⟨b, off, none⟩))).run Tryd.prog w = match w.rowAt b off 109 with | some cs => .ok (.agg cs) w | none => (loadVar 37 ⟨b, off, none⟩).run Tryd.prog w := run_loadAt_row agg_Entry siz_Entry w b off
@[go_sem] theorem store_Entry (w : World) (b off : Nat) (new : Array Value) : (StoreOf 37 (.pointer (some ⟨b, off, none⟩)) (.agg new)).run Tryd.prog w = if (w.rowAt b off 109).isSome && w.freeAt b && new.size == 109 && oneCells new then .ok () (w.putRow b off new) else (storeVar 37 ⟨b, off, none⟩ (.agg new)).run Tryd.prog w := run_storeAt_row siz_Entry w b off new
@[go_sem] theorem buildZero_Entry (w : World) : (BuildOf 37 #[]).run Tryd.prog w = .ok (.agg (encEntry Entry.zero)) w := by kernel_rfl
theorem var_Entry {w : World} {b off : Nat} {cs : Array Value} (h : w.rowAt b off 109 = some cs) : (loadVar 37 ⟨b, off, none⟩).run Tryd.prog w = .ok (.agg cs) w := run_loadVar_row_at agg_Entry siz_Entry h
theorem agg_Item : aggB Tryd.prog 41 = true := by kernel_rfl
theorem siz_Item : sizeB Tryd.prog 41 110 = true := by kernel_rfl
@[go_sem ↓] theorem toAlloc_Item : Instr.alloc 41 true (.tuple #[]) = AllocOf 41 := rfl
@[go_sem ↓] theorem toLoad_Item (x : Value) : Instr.loadAt 41 x = LoadOf 41 x := rfl
@[go_sem ↓] theorem toStore_Item (x v : Value) : Instr.storeAt 41 x v = StoreOf 41 x v := rfl
@[go_sem ↓] theorem toBuild_Item (ps : Array (Nat × Value)) : Instr.build 41 ps = BuildOf 41 ps := rfl
@[go_sem] theorem alloc_Item (w : World) : (AllocOf 41).run Tryd.prog w = .ok (.pointer (some ⟨w.heap.size, 0, none⟩)) (w.alloc (.cells (encItem Item.zero) 41)) := by kernel_rfl
@[go_sem] theorem load_Item (w : World) (b off : Nat) : (LoadOf 41 (.pointer (some ⟨b, off, none⟩))).run Tryd.prog w = match w.rowAt b off 110 with | some cs => .ok (.agg cs) w | none => (loadVar 41 ⟨b, off, none⟩).run Tryd.prog w := run_loadAt_row agg_Item siz_Item w b off
@[go_sem] theorem store_Item (w : World) (b off : Nat) (new : Array Value) : (StoreOf 41 (.pointer (some ⟨b, off, none⟩)) (.agg new)).run Tryd.prog w = if (w.rowAt b off 110).isSome && w.freeAt b && new.size == 110 && oneCells new then .ok () (w.putRow b off new) else (storeVar 41 ⟨b, off, none⟩ (.agg new)).run Tryd.prog w := run_storeAt_row siz_Item w b off new
@[go_sem] theorem buildZero_Item (w : World) : (BuildOf 41 #[]).run Tryd.prog w = .ok (.agg (encItem Item.zero)) w := by kernel_rfl
theorem var_Item {w : World} {b off : Nat} {cs : Array Value} (h : w.rowAt b off 110 = some cs) : (loadVar 41 ⟨b, off, none⟩).run Tryd.prog w = .ok (.agg cs) w := run_loadVar_row_at agg_Item siz_Item h
theorem agg_Field : aggB Tryd.prog 87 = true := by kernel_rfl
theorem siz_Field : sizeB Tryd.prog 87 2 = true := by kernel_rfl
@[go_sem ↓] theorem toAlloc_Field : Instr.alloc 87 true (.tuple #[]) = AllocOf 87 := rfl
@[go_sem ↓] theorem toLoad_Field (x : Value) : Instr.loadAt 87 x = LoadOf 87 x := rfl
@[go_sem ↓] theorem toStore_Field (x v : Value) : Instr.storeAt 87 x v = StoreOf 87 x v := rfl
@[go_sem ↓] theorem toBuild_Field (ps : Array (Nat × Value)) : Instr.build 87 ps = BuildOf 87 ps := rfl
@[go_sem] theorem alloc_Field (w : World) : (AllocOf 87).run Tryd.prog w = .ok (.pointer (some ⟨w.heap.size, 0, none⟩)) (w.alloc (.cells (encFld Fld.zero) 87)) := by kernel_rfl
@[go_sem] theorem load_Field (w : World) (b off : Nat) : (LoadOf 87 (.pointer (some ⟨b, off, none⟩))).run Tryd.prog w = match w.rowAt b off 2 with | some cs => .ok (.agg cs) w | none => (loadVar 87 ⟨b, off, none⟩).run Tryd.prog w := run_loadAt_row agg_Field siz_Field w b off
@[go_sem] theorem store_Field (w : World) (b off : Nat) (new : Array Value) : (StoreOf 87 (.pointer (some ⟨b, off, none⟩)) (.agg new)).run Tryd.prog w = if (w.rowAt b off 2).isSome && w.freeAt b && new.size == 2 && oneCells new then .ok () (w.putRow b off new) else (storeVar 87 ⟨b, off, none⟩ (.agg new)).run Tryd.prog w := run_storeAt_row siz_Field w b off new
@[go_sem] theorem buildZero_Field (w : World) : (BuildOf 87 #[]).run Tryd.prog w = .ok (.agg (encFld Fld.zero)) w := by kernel_rfl
theorem var_Field {w : World} {b off : Nat} {cs : Array Value} (h : w.rowAt b off 2 = some cs) : (loadVar 87 ⟨b, off, none⟩).run Tryd.prog w = .ok (.agg cs) w := run_loadVar_row_at agg_Field siz_Field h
theorem agg_Knot : aggB Tryd.prog 198 = true := by kernel_rfl
theorem siz_Knot : sizeB Tryd.prog 198 33 = true := by kernel_rfl
@[go_sem ↓] theorem toAlloc_Knot : Instr.alloc 198 true (.tuple #[]) = AllocOf 198 := rfl
@[go_sem ↓] theorem toLoad_Knot (x : Value) : Instr.loadAt 198 x = LoadOf 198 x := rfl
@[go_sem ↓] theorem toStore_Knot (x v : Value) : Instr.storeAt 198 x v = StoreOf 198 x v := rfl
@[go_sem ↓] theorem toBuild_Knot (ps : Array (Nat × Value)) : Instr.build 198 ps = BuildOf 198 ps := rfl
@[go_sem] theorem alloc_Knot (w : World) : (AllocOf 198).run Tryd.prog w = .ok (.pointer (some ⟨w.heap.size, 0, none⟩)) (w.alloc (.cells (encKnot Knot.zero) 198)) := by kernel_rfl
@[go_sem] theorem load_Knot (w : World) (b off : Nat) : (LoadOf 198 (.pointer (some ⟨b, off, none⟩))).run Tryd.prog w = match w.rowAt b off 33 with | some cs => .ok (.agg cs) w | none => (loadVar 198 ⟨b, off, none⟩).run Tryd.prog w := run_loadAt_row agg_Knot siz_Knot w b off
@[go_sem] theorem store_Knot (w : World) (b off : Nat) (new : Array Value) : (StoreOf 198 (.pointer (some ⟨b, off, none⟩)) (.agg new)).run Tryd.prog w = if (w.rowAt b off 33).isSome && w.freeAt b && new.size == 33 && oneCells new then .ok () (w.putRow b off new) else (storeVar 198 ⟨b, off, none⟩ (.agg new)).run Tryd.prog w := run_storeAt_row siz_Knot w b off new
@[go_sem] theorem buildZero_Knot (w : World) : (BuildOf 198 #[]).run Tryd.prog w = .ok (.agg (encKnot Knot.zero)) w := by kernel_rfl
theorem var_Knot {w : World} {b off : Nat} {cs : Array Value} (h : w.rowAt b off 33 = some cs) : (loadVar 198 ⟨b, off, none⟩).run Tryd.prog w = .ok (.agg cs) w := run_loadVar_row_at agg_Knot siz_Knot h
@[go_sem] theorem build_Head (w : World) (ps : Array (Nat × Value)) : (BuildOf 33 ps).run Tryd.prog w = if fillOk (([(0, 1), (1, 1), (2, 1), (3, 32), (35, 1)] : List (Nat × Nat))[·]?) 36 ps.toList then .ok (.agg (fillS (([(0, 1), (1, 1), (2, 1), (3, 32), (35, 1)] : List (Nat × Nat))[·]?) (encHead Head.zero) ps.toList)) w else (Instr.build 33 ps).run Tryd.prog w := by
  have h := run_build_struct (P := Tryd.prog) (t := 33) (z := encHead Head.zero) (pl := [(0, 1), (1, 1), (2, 1), (3, 32), (35, 1)]) (by kernel_rfl) (by kernel_rfl) w ps
  rw [encHead_len] at h
  exact h
@[go_sem] theorem encHead_spl_region (x : Head) (v : Int) : splice (encHead x) 0 #[.int .i64 v] = encHead { x with region := v } := by rw [splice_one _ _ _ (by simp), encHead_set_region]
@[go_sem] theorem encHead_spl_epoch (x : Head) (v : Int) : splice (encHead x) 1 #[.int .i64 v] = encHead { x with epoch := v } := by rw [splice_one _ _ _ (by simp), encHead_set_epoch]
@[go_sem] theorem encHead_spl_size (x : Head) (v : Int) : splice (encHead x) 2 #[.int .i64 v] = encHead { x with size := v } := by rw [splice_one _ _ _ (by simp), encHead_set_size]
@[go_sem] theorem encHead_spl_tick (x : Head) (v : Int) : splice (encHead x) 35 #[.int .i64 v] = encHead { x with tick := v } := by rw [splice_one _ _ _ (by simp), encHead_set_tick]
@[go_sem] theorem build_Signed (w : World) (ps : Array (Nat × Value)) : (BuildOf 35 ps).run Tryd.prog w = if fillOk (([(0, 36), (36, 1), (37, 32)] : List (Nat × Nat))[·]?) 69 ps.toList then .ok (.agg (fillS (([(0, 36), (36, 1), (37, 32)] : List (Nat × Nat))[·]?) (encSigned Signed.zero) ps.toList)) w else (Instr.build 35 ps).run Tryd.prog w := by
  have h := run_build_struct (P := Tryd.prog) (t := 35) (z := encSigned Signed.zero) (pl := [(0, 36), (36, 1), (37, 32)]) (by kernel_rfl) (by kernel_rfl) w ps
  rw [encSigned_len] at h
  exact h
@[go_sem] theorem encSigned_spl_node (x : Signed) (v : Int) : splice (encSigned x) 36 #[.int .i64 v] = encSigned { x with node := v } := by rw [splice_one _ _ _ (by simp), encSigned_set_node]
@[go_sem] theorem build_Claim (w : World) (ps : Array (Nat × Value)) : (BuildOf 27 ps).run Tryd.prog w = if fillOk (([(0, 1), (1, 1), (2, 1), (3, 1), (4, 32)] : List (Nat × Nat))[·]?) 36 ps.toList then .ok (.agg (fillS (([(0, 1), (1, 1), (2, 1), (3, 1), (4, 32)] : List (Nat × Nat))[·]?) (encClaim Claim.zero) ps.toList)) w else (Instr.build 27 ps).run Tryd.prog w := by
  have h := run_build_struct (P := Tryd.prog) (t := 27) (z := encClaim Claim.zero) (pl := [(0, 1), (1, 1), (2, 1), (3, 1), (4, 32)]) (by kernel_rfl) (by kernel_rfl) w ps
  rw [encClaim_len] at h
  exact h
@[go_sem] theorem encClaim_spl_region (x : Claim) (v : Int) : splice (encClaim x) 0 #[.int .i64 v] = encClaim { x with region := v } := by rw [splice_one _ _ _ (by simp), encClaim_set_region]
@[go_sem] theorem encClaim_spl_epoch (x : Claim) (v : Int) : splice (encClaim x) 1 #[.int .i64 v] = encClaim { x with epoch := v } := by rw [splice_one _ _ _ (by simp), encClaim_set_epoch]
@[go_sem] theorem encClaim_spl_node (x : Claim) (v : Int) : splice (encClaim x) 2 #[.int .i64 v] = encClaim { x with node := v } := by rw [splice_one _ _ _ (by simp), encClaim_set_node]
@[go_sem] theorem encClaim_spl_size (x : Claim) (v : Int) : splice (encClaim x) 3 #[.int .i64 v] = encClaim { x with size := v } := by rw [splice_one _ _ _ (by simp), encClaim_set_size]
@[go_sem] theorem build_Entry (w : World) (ps : Array (Nat × Value)) : (BuildOf 37 ps).run Tryd.prog w = if fillOk (([(0, 1), (1, 1), (2, 1), (3, 1), (4, 69), (73, 36)] : List (Nat × Nat))[·]?) 109 ps.toList then .ok (.agg (fillS (([(0, 1), (1, 1), (2, 1), (3, 1), (4, 69), (73, 36)] : List (Nat × Nat))[·]?) (encEntry Entry.zero) ps.toList)) w else (Instr.build 37 ps).run Tryd.prog w := by
  have h := run_build_struct (P := Tryd.prog) (t := 37) (z := encEntry Entry.zero) (pl := [(0, 1), (1, 1), (2, 1), (3, 1), (4, 69), (73, 36)]) (by kernel_rfl) (by kernel_rfl) w ps
  rw [encEntry_len] at h
  exact h
@[go_sem] theorem encEntry_spl_kind (x : Entry) (v : Int) : splice (encEntry x) 0 #[.int .i64 v] = encEntry { x with kind := v } := by rw [splice_one _ _ _ (by simp), encEntry_set_kind]
@[go_sem] theorem encEntry_spl_client (x : Entry) (v : Int) : splice (encEntry x) 1 #[.int .i64 v] = encEntry { x with client := v } := by rw [splice_one _ _ _ (by simp), encEntry_set_client]
@[go_sem] theorem encEntry_spl_seq (x : Entry) (v : Int) : splice (encEntry x) 2 #[.int .i64 v] = encEntry { x with seq := v } := by rw [splice_one _ _ _ (by simp), encEntry_set_seq]
@[go_sem] theorem encEntry_spl_text (x : Entry) (v : ByteArray) : splice (encEntry x) 3 #[.string v] = encEntry { x with text := v } := by rw [splice_one _ _ _ (by simp), encEntry_set_text]
@[go_sem] theorem build_Item (w : World) (ps : Array (Nat × Value)) : (BuildOf 41 ps).run Tryd.prog w = if fillOk (([(0, 1), (1, 109)] : List (Nat × Nat))[·]?) 110 ps.toList then .ok (.agg (fillS (([(0, 1), (1, 109)] : List (Nat × Nat))[·]?) (encItem Item.zero) ps.toList)) w else (Instr.build 41 ps).run Tryd.prog w := by
  have h := run_build_struct (P := Tryd.prog) (t := 41) (z := encItem Item.zero) (pl := [(0, 1), (1, 109)]) (by kernel_rfl) (by kernel_rfl) w ps
  rw [encItem_len] at h
  exact h
@[go_sem] theorem encItem_spl_epoch (x : Item) (v : Int) : splice (encItem x) 0 #[.int .i64 v] = encItem { x with epoch := v } := by rw [splice_one _ _ _ (by simp), encItem_set_epoch]
@[go_sem] theorem build_Field (w : World) (ps : Array (Nat × Value)) : (BuildOf 87 ps).run Tryd.prog w = if fillOk (([(0, 1), (1, 1)] : List (Nat × Nat))[·]?) 2 ps.toList then .ok (.agg (fillS (([(0, 1), (1, 1)] : List (Nat × Nat))[·]?) (encFld Fld.zero) ps.toList)) w else (Instr.build 87 ps).run Tryd.prog w := by
  have h := run_build_struct (P := Tryd.prog) (t := 87) (z := encFld Fld.zero) (pl := [(0, 1), (1, 1)]) (by kernel_rfl) (by kernel_rfl) w ps
  rw [encFld_len] at h
  exact h
@[go_sem] theorem encFld_spl_tag (x : Fld) (v : Int) : splice (encFld x) 0 #[.int .i64 v] = encFld { x with tag := v } := by rw [splice_one _ _ _ (by simp), encFld_set_tag]
@[go_sem] theorem encFld_spl_data (x : Fld) (v : ByteArray) : splice (encFld x) 1 #[.string v] = encFld { x with data := v } := by rw [splice_one _ _ _ (by simp), encFld_set_data]
@[go_sem] theorem encStepV_spl_index (x : StepV) (v : Int) : splice (encStepV x) 0 #[.int .i64 v] = encStepV { x with index := v } := by rw [splice_one _ _ _ (by simp), encStepV_set_index]
@[go_sem] theorem encStepV_spl_proof (x : StepV) (v : Value) : splice (encStepV x) 111 #[v] = encStepV { x with proof := v } := by rw [splice_one _ _ _ (by simp), encStepV_set_proof]
@[go_sem] theorem encTailV_spl_node (x : TailV) (v : Int) : splice (encTailV x) 0 #[.int .i64 v] = encTailV { x with node := v } := by rw [splice_one _ _ _ (by simp), encTailV_set_node]
@[go_sem] theorem encTailV_spl_log (x : TailV) (v : Int) : splice (encTailV x) 1 #[.int .i64 v] = encTailV { x with log := v } := by rw [splice_one _ _ _ (by simp), encTailV_set_log]
@[go_sem] theorem encTailV_spl_commit (x : TailV) (v : Int) : splice (encTailV x) 2 #[.int .i64 v] = encTailV { x with commit := v } := by rw [splice_one _ _ _ (by simp), encTailV_set_commit]
@[go_sem] theorem encTailV_spl_items (x : TailV) (v : Value) : splice (encTailV x) 3 #[v] = encTailV { x with items := v } := by rw [splice_one _ _ _ (by simp), encTailV_set_items]
@[go_sem] theorem encKeptV_spl_epoch (x : KeptV) (v : Int) : splice (encKeptV x) 0 #[.int .i64 v] = encKeptV { x with epoch := v } := by rw [splice_one _ _ _ (by simp), encKeptV_set_epoch]
@[go_sem] theorem encKeptV_spl_log (x : KeptV) (v : Int) : splice (encKeptV x) 1 #[.int .i64 v] = encKeptV { x with log := v } := by rw [splice_one _ _ _ (by simp), encKeptV_set_log]
@[go_sem] theorem encKeptV_spl_items (x : KeptV) (v : Value) : splice (encKeptV x) 2 #[v] = encKeptV { x with items := v } := by rw [splice_one _ _ _ (by simp), encKeptV_set_items]
@[go_sem] theorem encKeptV_spl_claims (x : KeptV) (v : Value) : splice (encKeptV x) 3 #[v] = encKeptV { x with claims := v } := by rw [splice_one _ _ _ (by simp), encKeptV_set_claims]
@[go_sem] theorem build_Knot (w : World) (ps : Array (Nat × Value)) : (BuildOf 198 ps).run Tryd.prog w = if fillOk (([(0, 32), (32, 1)] : List (Nat × Nat))[·]?) 33 ps.toList then .ok (.agg (fillS (([(0, 32), (32, 1)] : List (Nat × Nat))[·]?) (encKnot Knot.zero) ps.toList)) w else (Instr.build 198 ps).run Tryd.prog w := by
  have h := run_build_struct (P := Tryd.prog) (t := 198) (z := encKnot Knot.zero) (pl := [(0, 32), (32, 1)]) (by kernel_rfl) (by kernel_rfl) w ps
  rw [encKnot_len] at h
  exact h
@[go_sem] theorem encKnot_spl_right (x : Knot) (v : Bool) : splice (encKnot x) 32 #[.bool v] = encKnot { x with right := v } := by rw [splice_one _ _ _ (by simp), encKnot_set_right]
attribute [go_sem] fillOk fillS Value.cells
theorem slc_Fields : sliceB Tryd.prog 101 87 2 = true := by kernel_rfl
@[go_sem ↓] theorem toBS_Fields (n : Nat) (ps : Array (Nat × Value)) : Instr.buildSlice 101 n ps = BuildSliceOf 101 n ps := rfl
@[go_sem] theorem bs1_Fields (w : World) (v0 : Value) : (BuildSliceOf 101 1 #[(0, v0)]).run Tryd.prog w = if v0.cells.size == 2 then .ok (.slice (some ⟨w.heap.size, 0, none⟩) 1 1) (w.alloc (.cells v0.cells 87)) else (Instr.buildSlice 101 1 #[(0, v0)]).run Tryd.prog w := run_bs1 slc_Fields w v0
@[go_sem] theorem bs2_Fields (w : World) (v0 v1 : Value) : (BuildSliceOf 101 2 #[(0, v0), (1, v1)]).run Tryd.prog w = if v0.cells.size == 2 && v1.cells.size == 2 then .ok (.slice (some ⟨w.heap.size, 0, none⟩) 2 2) (w.alloc (.cells (ap v0.cells v1.cells) 87)) else (Instr.buildSlice 101 2 #[(0, v0), (1, v1)]).run Tryd.prog w := run_bs2 slc_Fields w v0 v1
@[go_sem] theorem bs3_Fields (w : World) (v0 v1 v2 : Value) : (BuildSliceOf 101 3 #[(0, v0), (1, v1), (2, v2)]).run Tryd.prog w = if v0.cells.size == 2 && v1.cells.size == 2 && v2.cells.size == 2 then .ok (.slice (some ⟨w.heap.size, 0, none⟩) 3 3) (w.alloc (.cells (ap v0.cells (ap v1.cells v2.cells)) 87)) else (Instr.buildSlice 101 3 #[(0, v0), (1, v1), (2, v2)]).run Tryd.prog w := run_bs3 slc_Fields w v0 v1 v2
theorem slc_EFields : sliceB Tryd.prog 112 87 2 = true := by kernel_rfl
@[go_sem ↓] theorem toBS_EFields (n : Nat) (ps : Array (Nat × Value)) : Instr.buildSlice 112 n ps = BuildSliceOf 112 n ps := rfl
@[go_sem] theorem bs1_EFields (w : World) (v0 : Value) : (BuildSliceOf 112 1 #[(0, v0)]).run Tryd.prog w = if v0.cells.size == 2 then .ok (.slice (some ⟨w.heap.size, 0, none⟩) 1 1) (w.alloc (.cells v0.cells 87)) else (Instr.buildSlice 112 1 #[(0, v0)]).run Tryd.prog w := run_bs1 slc_EFields w v0
@[go_sem] theorem bs2_EFields (w : World) (v0 v1 : Value) : (BuildSliceOf 112 2 #[(0, v0), (1, v1)]).run Tryd.prog w = if v0.cells.size == 2 && v1.cells.size == 2 then .ok (.slice (some ⟨w.heap.size, 0, none⟩) 2 2) (w.alloc (.cells (ap v0.cells v1.cells) 87)) else (Instr.buildSlice 112 2 #[(0, v0), (1, v1)]).run Tryd.prog w := run_bs2 slc_EFields w v0 v1
@[go_sem] theorem bs3_EFields (w : World) (v0 v1 v2 : Value) : (BuildSliceOf 112 3 #[(0, v0), (1, v1), (2, v2)]).run Tryd.prog w = if v0.cells.size == 2 && v1.cells.size == 2 && v2.cells.size == 2 then .ok (.slice (some ⟨w.heap.size, 0, none⟩) 3 3) (w.alloc (.cells (ap v0.cells (ap v1.cells v2.cells)) 87)) else (Instr.buildSlice 112 3 #[(0, v0), (1, v1), (2, v2)]).run Tryd.prog w := run_bs3 slc_EFields w v0 v1 v2
theorem slc_Items : sliceB Tryd.prog 55 41 110 = true := by kernel_rfl
@[go_sem ↓] theorem toBS_Items (n : Nat) (ps : Array (Nat × Value)) : Instr.buildSlice 55 n ps = BuildSliceOf 55 n ps := rfl
@[go_sem] theorem bs1_Items (w : World) (v0 : Value) : (BuildSliceOf 55 1 #[(0, v0)]).run Tryd.prog w = if v0.cells.size == 110 then .ok (.slice (some ⟨w.heap.size, 0, none⟩) 1 1) (w.alloc (.cells v0.cells 41)) else (Instr.buildSlice 55 1 #[(0, v0)]).run Tryd.prog w := run_bs1 slc_Items w v0
@[go_sem] theorem bs2_Items (w : World) (v0 v1 : Value) : (BuildSliceOf 55 2 #[(0, v0), (1, v1)]).run Tryd.prog w = if v0.cells.size == 110 && v1.cells.size == 110 then .ok (.slice (some ⟨w.heap.size, 0, none⟩) 2 2) (w.alloc (.cells (ap v0.cells v1.cells) 41)) else (Instr.buildSlice 55 2 #[(0, v0), (1, v1)]).run Tryd.prog w := run_bs2 slc_Items w v0 v1
@[go_sem] theorem bs3_Items (w : World) (v0 v1 v2 : Value) : (BuildSliceOf 55 3 #[(0, v0), (1, v1), (2, v2)]).run Tryd.prog w = if v0.cells.size == 110 && v1.cells.size == 110 && v2.cells.size == 110 then .ok (.slice (some ⟨w.heap.size, 0, none⟩) 3 3) (w.alloc (.cells (ap v0.cells (ap v1.cells v2.cells)) 41)) else (Instr.buildSlice 55 3 #[(0, v0), (1, v1), (2, v2)]).run Tryd.prog w := run_bs3 slc_Items w v0 v1 v2
theorem slc_Digests : sliceB Tryd.prog 56 25 32 = true := by kernel_rfl
@[go_sem ↓] theorem toBS_Digests (n : Nat) (ps : Array (Nat × Value)) : Instr.buildSlice 56 n ps = BuildSliceOf 56 n ps := rfl
@[go_sem] theorem bs1_Digests (w : World) (v0 : Value) : (BuildSliceOf 56 1 #[(0, v0)]).run Tryd.prog w = if v0.cells.size == 32 then .ok (.slice (some ⟨w.heap.size, 0, none⟩) 1 1) (w.alloc (.cells v0.cells 25)) else (Instr.buildSlice 56 1 #[(0, v0)]).run Tryd.prog w := run_bs1 slc_Digests w v0
@[go_sem] theorem bs2_Digests (w : World) (v0 v1 : Value) : (BuildSliceOf 56 2 #[(0, v0), (1, v1)]).run Tryd.prog w = if v0.cells.size == 32 && v1.cells.size == 32 then .ok (.slice (some ⟨w.heap.size, 0, none⟩) 2 2) (w.alloc (.cells (ap v0.cells v1.cells) 25)) else (Instr.buildSlice 56 2 #[(0, v0), (1, v1)]).run Tryd.prog w := run_bs2 slc_Digests w v0 v1
@[go_sem] theorem bs3_Digests (w : World) (v0 v1 v2 : Value) : (BuildSliceOf 56 3 #[(0, v0), (1, v1), (2, v2)]).run Tryd.prog w = if v0.cells.size == 32 && v1.cells.size == 32 && v2.cells.size == 32 then .ok (.slice (some ⟨w.heap.size, 0, none⟩) 3 3) (w.alloc (.cells (ap v0.cells (ap v1.cells v2.cells)) 25)) else (Instr.buildSlice 56 3 #[(0, v0), (1, v1), (2, v2)]).run Tryd.prog w := run_bs3 slc_Digests w v0 v1 v2
theorem slc_Knots : sliceB Tryd.prog 145 198 33 = true := by kernel_rfl
@[go_sem ↓] theorem toBS_Knots (n : Nat) (ps : Array (Nat × Value)) : Instr.buildSlice 145 n ps = BuildSliceOf 145 n ps := rfl
@[go_sem] theorem bs1_Knots (w : World) (v0 : Value) : (BuildSliceOf 145 1 #[(0, v0)]).run Tryd.prog w = if v0.cells.size == 33 then .ok (.slice (some ⟨w.heap.size, 0, none⟩) 1 1) (w.alloc (.cells v0.cells 198)) else (Instr.buildSlice 145 1 #[(0, v0)]).run Tryd.prog w := run_bs1 slc_Knots w v0
@[go_sem] theorem bs2_Knots (w : World) (v0 v1 : Value) : (BuildSliceOf 145 2 #[(0, v0), (1, v1)]).run Tryd.prog w = if v0.cells.size == 33 && v1.cells.size == 33 then .ok (.slice (some ⟨w.heap.size, 0, none⟩) 2 2) (w.alloc (.cells (ap v0.cells v1.cells) 198)) else (Instr.buildSlice 145 2 #[(0, v0), (1, v1)]).run Tryd.prog w := run_bs2 slc_Knots w v0 v1
@[go_sem] theorem bs3_Knots (w : World) (v0 v1 v2 : Value) : (BuildSliceOf 145 3 #[(0, v0), (1, v1), (2, v2)]).run Tryd.prog w = if v0.cells.size == 33 && v1.cells.size == 33 && v2.cells.size == 33 then .ok (.slice (some ⟨w.heap.size, 0, none⟩) 3 3) (w.alloc (.cells (ap v0.cells (ap v1.cells v2.cells)) 198)) else (Instr.buildSlice 145 3 #[(0, v0), (1, v1), (2, v2)]).run Tryd.prog w := run_bs3 slc_Knots w v0 v1 v2
theorem eqIn_Digest (d : Nat) (x y : Dig) (w : World) : (Op.equalIn (d + 2) 25 (.agg (encDig x)) (.agg (encDig y))).run Tryd.prog w = .ok (decide (x = y)) w := by
  have h := run_equalIn_bytes (P := Tryd.prog) w d 25 5 32 (by kernel_rfl) (by kernel_rfl) (fun w => by kernel_rfl) x.toList y.toList (by simp) (by simp)
  rw [← Dig.beq_list]
  exact h
theorem eqIn_Key (d : Nat) (x y : Dig) (w : World) : (Op.equalIn (d + 2) 54 (.agg (encDig x)) (.agg (encDig y))).run Tryd.prog w = .ok (decide (x = y)) w := by
  have h := run_equalIn_bytes (P := Tryd.prog) w d 54 5 32 (by kernel_rfl) (by kernel_rfl) (fun w => by kernel_rfl) x.toList y.toList (by simp) (by simp)
  rw [← Dig.beq_list]
  exact h
theorem eqIn_Head (d : Nat) (x y : Head) (w : World) : (Op.equalIn (d + 3) 33 (.agg (encHead x)) (.agg (encHead y))).run Tryd.prog w = .ok (decide (x = y)) w := by
  have e : ((x.region == y.region) && ((x.epoch == y.epoch) && ((x.size == y.size) && ((decide (x.root = y.root)) && ((x.tick == y.tick) && (true)))))) = decide (x = y) := by
    rw [Bool.eq_iff_iff]
    cases x; cases y
    simp [str_eq]
  rw [← e]
  exact run_equalIn_fields (P := Tryd.prog) (d := d + 2) (fs := [(3, 0), (3, 1), (3, 2), (25, 3), (3, 35)]) (by kernel_rfl) (.cons (t := 3) (o := 0) (run_part_one (by kernel_rfl) w _ _ _ (encHead_region x)) (run_part_one (by kernel_rfl) w _ _ _ (encHead_region y)) (run_equalIn_int w (d + 1) 3 .i64 .i64 _ _ (by kernel_rfl)) (.cons (t := 3) (o := 1) (run_part_one (by kernel_rfl) w _ _ _ (encHead_epoch x)) (run_part_one (by kernel_rfl) w _ _ _ (encHead_epoch y)) (run_equalIn_int w (d + 1) 3 .i64 .i64 _ _ (by kernel_rfl)) (.cons (t := 3) (o := 2) (run_part_one (by kernel_rfl) w _ _ _ (encHead_size x)) (run_part_one (by kernel_rfl) w _ _ _ (encHead_size y)) (run_equalIn_int w (d + 1) 3 .i64 .i64 _ _ (by kernel_rfl)) (.cons (t := 25) (o := 3) ((run_part_agg agg_Digest siz_Digest w _ _).trans (by rw [encHead_get_root])) ((run_part_agg agg_Digest siz_Digest w _ _).trans (by rw [encHead_get_root])) (eqIn_Digest (d + 0) x.root y.root w) (.cons (t := 3) (o := 35) (run_part_one (by kernel_rfl) w _ _ _ (encHead_tick x)) (run_part_one (by kernel_rfl) w _ _ _ (encHead_tick y)) (run_equalIn_int w (d + 1) 3 .i64 .i64 _ _ (by kernel_rfl)) (.nil))))))
theorem eqIn_Signed (d : Nat) (x y : Signed) (w : World) : (Op.equalIn (d + 4) 35 (.agg (encSigned x)) (.agg (encSigned y))).run Tryd.prog w = .ok (decide (x = y)) w := by
  have e : ((decide (x.head = y.head)) && ((x.node == y.node) && ((decide (x.tag = y.tag)) && (true)))) = decide (x = y) := by
    rw [Bool.eq_iff_iff]
    cases x; cases y
    simp [str_eq]
  rw [← e]
  exact run_equalIn_fields (P := Tryd.prog) (d := d + 3) (fs := [(33, 0), (3, 36), (25, 37)]) (by kernel_rfl) (.cons (t := 33) (o := 0) ((run_part_agg agg_Head siz_Head w _ _).trans (by rw [encSigned_get_head])) ((run_part_agg agg_Head siz_Head w _ _).trans (by rw [encSigned_get_head])) (eqIn_Head (d + 0) x.head y.head w) (.cons (t := 3) (o := 36) (run_part_one (by kernel_rfl) w _ _ _ (encSigned_node x)) (run_part_one (by kernel_rfl) w _ _ _ (encSigned_node y)) (run_equalIn_int w (d + 2) 3 .i64 .i64 _ _ (by kernel_rfl)) (.cons (t := 25) (o := 37) ((run_part_agg agg_Digest siz_Digest w _ _).trans (by rw [encSigned_get_tag])) ((run_part_agg agg_Digest siz_Digest w _ _).trans (by rw [encSigned_get_tag])) (eqIn_Digest (d + 1) x.tag y.tag w) (.nil))))
theorem eqIn_Claim (d : Nat) (x y : Claim) (w : World) : (Op.equalIn (d + 3) 27 (.agg (encClaim x)) (.agg (encClaim y))).run Tryd.prog w = .ok (decide (x = y)) w := by
  have e : ((x.region == y.region) && ((x.epoch == y.epoch) && ((x.node == y.node) && ((x.size == y.size) && ((decide (x.root = y.root)) && (true)))))) = decide (x = y) := by
    rw [Bool.eq_iff_iff]
    cases x; cases y
    simp [str_eq]
  rw [← e]
  exact run_equalIn_fields (P := Tryd.prog) (d := d + 2) (fs := [(3, 0), (3, 1), (3, 2), (3, 3), (25, 4)]) (by kernel_rfl) (.cons (t := 3) (o := 0) (run_part_one (by kernel_rfl) w _ _ _ (encClaim_region x)) (run_part_one (by kernel_rfl) w _ _ _ (encClaim_region y)) (run_equalIn_int w (d + 1) 3 .i64 .i64 _ _ (by kernel_rfl)) (.cons (t := 3) (o := 1) (run_part_one (by kernel_rfl) w _ _ _ (encClaim_epoch x)) (run_part_one (by kernel_rfl) w _ _ _ (encClaim_epoch y)) (run_equalIn_int w (d + 1) 3 .i64 .i64 _ _ (by kernel_rfl)) (.cons (t := 3) (o := 2) (run_part_one (by kernel_rfl) w _ _ _ (encClaim_node x)) (run_part_one (by kernel_rfl) w _ _ _ (encClaim_node y)) (run_equalIn_int w (d + 1) 3 .i64 .i64 _ _ (by kernel_rfl)) (.cons (t := 3) (o := 3) (run_part_one (by kernel_rfl) w _ _ _ (encClaim_size x)) (run_part_one (by kernel_rfl) w _ _ _ (encClaim_size y)) (run_equalIn_int w (d + 1) 3 .i64 .i64 _ _ (by kernel_rfl)) (.cons (t := 25) (o := 4) ((run_part_agg agg_Digest siz_Digest w _ _).trans (by rw [encClaim_get_root])) ((run_part_agg agg_Digest siz_Digest w _ _).trans (by rw [encClaim_get_root])) (eqIn_Digest (d + 0) x.root y.root w) (.nil))))))
theorem eqIn_Entry (d : Nat) (x y : Entry) (w : World) : (Op.equalIn (d + 5) 37 (.agg (encEntry x)) (.agg (encEntry y))).run Tryd.prog w = .ok (decide (x = y)) w := by
  have e : ((x.kind == y.kind) && ((x.client == y.client) && ((x.seq == y.seq) && ((x.text.toList == y.text.toList) && ((decide (x.head = y.head)) && ((decide (x.claim = y.claim)) && (true))))))) = decide (x = y) := by
    rw [Bool.eq_iff_iff]
    cases x; cases y
    simp [str_eq]
  rw [← e]
  exact run_equalIn_fields (P := Tryd.prog) (d := d + 4) (fs := [(31, 0), (3, 1), (3, 2), (9, 3), (35, 4), (27, 73)]) (by kernel_rfl) (.cons (t := 31) (o := 0) (run_part_one (by kernel_rfl) w _ _ _ (encEntry_kind x)) (run_part_one (by kernel_rfl) w _ _ _ (encEntry_kind y)) (run_equalIn_int w (d + 3) 31 .i64 .i64 _ _ (by kernel_rfl)) (.cons (t := 3) (o := 1) (run_part_one (by kernel_rfl) w _ _ _ (encEntry_client x)) (run_part_one (by kernel_rfl) w _ _ _ (encEntry_client y)) (run_equalIn_int w (d + 3) 3 .i64 .i64 _ _ (by kernel_rfl)) (.cons (t := 3) (o := 2) (run_part_one (by kernel_rfl) w _ _ _ (encEntry_seq x)) (run_part_one (by kernel_rfl) w _ _ _ (encEntry_seq y)) (run_equalIn_int w (d + 3) 3 .i64 .i64 _ _ (by kernel_rfl)) (.cons (t := 9) (o := 3) (run_part_one (by kernel_rfl) w _ _ _ (encEntry_text x)) (run_part_one (by kernel_rfl) w _ _ _ (encEntry_text y)) (run_equalIn_string w (d + 3) 9 _ _ (by kernel_rfl)) (.cons (t := 35) (o := 4) ((run_part_agg agg_Signed siz_Signed w _ _).trans (by rw [encEntry_get_head])) ((run_part_agg agg_Signed siz_Signed w _ _).trans (by rw [encEntry_get_head])) (eqIn_Signed (d + 0) x.head y.head w) (.cons (t := 27) (o := 73) ((run_part_agg agg_Claim siz_Claim w _ _).trans (by rw [encEntry_get_claim])) ((run_part_agg agg_Claim siz_Claim w _ _).trans (by rw [encEntry_get_claim])) (eqIn_Claim (d + 1) x.claim y.claim w) (.nil)))))))
theorem eqIn_Item (d : Nat) (x y : Item) (w : World) : (Op.equalIn (d + 6) 41 (.agg (encItem x)) (.agg (encItem y))).run Tryd.prog w = .ok (decide (x = y)) w := by
  have e : ((x.epoch == y.epoch) && ((decide (x.entry = y.entry)) && (true))) = decide (x = y) := by
    rw [Bool.eq_iff_iff]
    cases x; cases y
    simp [str_eq]
  rw [← e]
  exact run_equalIn_fields (P := Tryd.prog) (d := d + 5) (fs := [(3, 0), (37, 1)]) (by kernel_rfl) (.cons (t := 3) (o := 0) (run_part_one (by kernel_rfl) w _ _ _ (encItem_epoch x)) (run_part_one (by kernel_rfl) w _ _ _ (encItem_epoch y)) (run_equalIn_int w (d + 4) 3 .i64 .i64 _ _ (by kernel_rfl)) (.cons (t := 37) (o := 1) ((run_part_agg agg_Entry siz_Entry w _ _).trans (by rw [encItem_get_entry])) ((run_part_agg agg_Entry siz_Entry w _ _).trans (by rw [encItem_get_entry])) (eqIn_Entry (d + 0) x.entry y.entry w) (.nil)))
@[go_sem ↓] theorem eql_Digest (x y : Dig) (w : World) : (binOp .eql 25 (.agg (encDig x)) (.agg (encDig y))).run Tryd.prog w = .ok (.bool (decide (x = y))) w := by
  rw [run_eql_struct, eqIn_Digest 9998 x y w]; rfl
@[go_sem ↓] theorem neq_Digest (x y : Dig) (w : World) : (binOp .neq 25 (.agg (encDig x)) (.agg (encDig y))).run Tryd.prog w = .ok (.bool (!decide (x = y))) w := by
  rw [run_neq_struct, eqIn_Digest 9998 x y w]; rfl
@[go_sem ↓] theorem eql_Head (x y : Head) (w : World) : (binOp .eql 33 (.agg (encHead x)) (.agg (encHead y))).run Tryd.prog w = .ok (.bool (decide (x = y))) w := by
  rw [run_eql_struct, eqIn_Head 9997 x y w]; rfl
@[go_sem ↓] theorem neq_Head (x y : Head) (w : World) : (binOp .neq 33 (.agg (encHead x)) (.agg (encHead y))).run Tryd.prog w = .ok (.bool (!decide (x = y))) w := by
  rw [run_neq_struct, eqIn_Head 9997 x y w]; rfl
@[go_sem ↓] theorem eql_Signed (x y : Signed) (w : World) : (binOp .eql 35 (.agg (encSigned x)) (.agg (encSigned y))).run Tryd.prog w = .ok (.bool (decide (x = y))) w := by
  rw [run_eql_struct, eqIn_Signed 9996 x y w]; rfl
@[go_sem ↓] theorem neq_Signed (x y : Signed) (w : World) : (binOp .neq 35 (.agg (encSigned x)) (.agg (encSigned y))).run Tryd.prog w = .ok (.bool (!decide (x = y))) w := by
  rw [run_neq_struct, eqIn_Signed 9996 x y w]; rfl
@[go_sem ↓] theorem eql_Claim (x y : Claim) (w : World) : (binOp .eql 27 (.agg (encClaim x)) (.agg (encClaim y))).run Tryd.prog w = .ok (.bool (decide (x = y))) w := by
  rw [run_eql_struct, eqIn_Claim 9997 x y w]; rfl
@[go_sem ↓] theorem neq_Claim (x y : Claim) (w : World) : (binOp .neq 27 (.agg (encClaim x)) (.agg (encClaim y))).run Tryd.prog w = .ok (.bool (!decide (x = y))) w := by
  rw [run_neq_struct, eqIn_Claim 9997 x y w]; rfl
@[go_sem ↓] theorem eql_Entry (x y : Entry) (w : World) : (binOp .eql 37 (.agg (encEntry x)) (.agg (encEntry y))).run Tryd.prog w = .ok (.bool (decide (x = y))) w := by
  rw [run_eql_struct, eqIn_Entry 9995 x y w]; rfl
@[go_sem ↓] theorem neq_Entry (x y : Entry) (w : World) : (binOp .neq 37 (.agg (encEntry x)) (.agg (encEntry y))).run Tryd.prog w = .ok (.bool (!decide (x = y))) w := by
  rw [run_neq_struct, eqIn_Entry 9995 x y w]; rfl
@[go_sem ↓] theorem eql_Item (x y : Item) (w : World) : (binOp .eql 41 (.agg (encItem x)) (.agg (encItem y))).run Tryd.prog w = .ok (.bool (decide (x = y))) w := by
  rw [run_eql_struct, eqIn_Item 9994 x y w]; rfl
@[go_sem ↓] theorem neq_Item (x y : Item) (w : World) : (binOp .neq 41 (.agg (encItem x)) (.agg (encItem y))).run Tryd.prog w = .ok (.bool (!decide (x = y))) w := by
  rw [run_neq_struct, eqIn_Item 9994 x y w]; rfl
end Go.Proofs.YtoajianddmobaaaDoor
