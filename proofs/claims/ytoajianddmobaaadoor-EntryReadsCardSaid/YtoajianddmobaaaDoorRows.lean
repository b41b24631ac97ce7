/-
  NARROWER THAN 'FOR EVERY INPUT', by the rows' own cells (each row's printed sentence says how): EntryReads: laid · EntryApart: laid · EntryKinds: laid · AnchorsNext: laid · HistoryRoots: laid · HistoryProofs: laid · HistoryHeads: laid · HistoryFirst: laid · HistoryGrows: laid · HistoryFinds: laid.
  DERIVED. THE GIVEN ROWS OF THIS SEAT. 10 by the template 'for every input the law returns true; each argument reads behind the call as it read before'; 0 by the template 'total and deterministic' (their statements: YtoajianddmobaaaDoorTotals.lean).
  GIVEN WITH THE SEED: the statements are not yours to turn. If you find one false, say at which input.
  Laid BY PROGRAM, IN A SANDBOX (cutbox-rows.mjs): the forced cells as the released guide's own fill.sh prints them over the translation 7e0f82f73268573e… (all of the seat's roots in one cut). By AI agents, Wed Nov 11 2026. No macro, syntax, notation, axiom, sorry.
-/
import Derived.Test.YtoajianddmobaaaDoorChecked
import GoSem.Claim
import GoSem.ClaimJoined
import GoSem.ClaimMapViews
import Derived.JoinedTies
import Derived.KernelRfl
namespace Go.Proofs.YtoajianddmobaaaDoor
/- THE CELL 'sum', in the pinned program and in every row, IS THE sha256 OF THE DUMP (.gsa) THAT YtoajianddmobaaaDoorProg.lean LOADS. Nothing in Lean hashes anything: it is a label: what it is worth is what the hold of that sum in a sandbox is worth. -/
noncomputable def Tryd.pinned : Pinned := { name := "ytoajianddmobaaadoor", sum := "7e0f82f73268573e3ea89c4af9fee567180614626f880de422853b9bb015abeb", checked := Tryd.checked }
namespace Rows
def none {H : Type} : Left H := { results := [], args := [] }

/- WHAT THE LISTED PACKAGE-LEVEL VARIABLES READ AS WHEN THE CALL BEGINS. Each datum BY PROGRAM (the guide's laid-datum.mjs) off the statement by which the dump's own 'gosem.cut.vars' lays the variable. In a bare row this is a premise. The card (YtoajianddmobaaaDoorCards.lean) ties it to the program's text. -/
def laid_estreat_sha_table {H : Type} : DataW H := .agg [.lit (.int .u32 1116352408), .lit (.int .u32 1899447441), .lit (.int .u32 3049323471), .lit (.int .u32 3921009573), .lit (.int .u32 961987163), .lit (.int .u32 1508970993), .lit (.int .u32 2453635748), .lit (.int .u32 2870763221), .lit (.int .u32 3624381080), .lit (.int .u32 310598401), .lit (.int .u32 607225278), .lit (.int .u32 1426881987), .lit (.int .u32 1925078388), .lit (.int .u32 2162078206), .lit (.int .u32 2614888103), .lit (.int .u32 3248222580), .lit (.int .u32 3835390401), .lit (.int .u32 4022224774), .lit (.int .u32 264347078), .lit (.int .u32 604807628), .lit (.int .u32 770255983), .lit (.int .u32 1249150122), .lit (.int .u32 1555081692), .lit (.int .u32 1996064986), .lit (.int .u32 2554220882), .lit (.int .u32 2821834349), .lit (.int .u32 2952996808), .lit (.int .u32 3210313671), .lit (.int .u32 3336571891), .lit (.int .u32 3584528711), .lit (.int .u32 113926993), .lit (.int .u32 338241895), .lit (.int .u32 666307205), .lit (.int .u32 773529912), .lit (.int .u32 1294757372), .lit (.int .u32 1396182291), .lit (.int .u32 1695183700), .lit (.int .u32 1986661051), .lit (.int .u32 2177026350), .lit (.int .u32 2456956037), .lit (.int .u32 2730485921), .lit (.int .u32 2820302411), .lit (.int .u32 3259730800), .lit (.int .u32 3345764771), .lit (.int .u32 3516065817), .lit (.int .u32 3600352804), .lit (.int .u32 4094571909), .lit (.int .u32 275423344), .lit (.int .u32 430227734), .lit (.int .u32 506948616), .lit (.int .u32 659060556), .lit (.int .u32 883997877), .lit (.int .u32 958139571), .lit (.int .u32 1322822218), .lit (.int .u32 1537002063), .lit (.int .u32 1747873779), .lit (.int .u32 1955562222), .lit (.int .u32 2024104815), .lit (.int .u32 2227730452), .lit (.int .u32 2361852424), .lit (.int .u32 2428436474), .lit (.int .u32 2756734187), .lit (.int .u32 3204031479), .lit (.int .u32 3329325298)]
def laid_estreat_estreatref02_consts {H : Type} : DataW H := .agg [.lit (.int .u32 1116352408), .lit (.int .u32 1899447441), .lit (.int .u32 3049323471), .lit (.int .u32 3921009573), .lit (.int .u32 961987163), .lit (.int .u32 1508970993), .lit (.int .u32 2453635748), .lit (.int .u32 2870763221), .lit (.int .u32 3624381080), .lit (.int .u32 310598401), .lit (.int .u32 607225278), .lit (.int .u32 1426881987), .lit (.int .u32 1925078388), .lit (.int .u32 2162078206), .lit (.int .u32 2614888103), .lit (.int .u32 3248222580), .lit (.int .u32 3835390401), .lit (.int .u32 4022224774), .lit (.int .u32 264347078), .lit (.int .u32 604807628), .lit (.int .u32 770255983), .lit (.int .u32 1249150122), .lit (.int .u32 1555081692), .lit (.int .u32 1996064986), .lit (.int .u32 2554220882), .lit (.int .u32 2821834349), .lit (.int .u32 2952996808), .lit (.int .u32 3210313671), .lit (.int .u32 3336571891), .lit (.int .u32 3584528711), .lit (.int .u32 113926993), .lit (.int .u32 338241895), .lit (.int .u32 666307205), .lit (.int .u32 773529912), .lit (.int .u32 1294757372), .lit (.int .u32 1396182291), .lit (.int .u32 1695183700), .lit (.int .u32 1986661051), .lit (.int .u32 2177026350), .lit (.int .u32 2456956037), .lit (.int .u32 2730485921), .lit (.int .u32 2820302411), .lit (.int .u32 3259730800), .lit (.int .u32 3345764771), .lit (.int .u32 3516065817), .lit (.int .u32 3600352804), .lit (.int .u32 4094571909), .lit (.int .u32 275423344), .lit (.int .u32 430227734), .lit (.int .u32 506948616), .lit (.int .u32 659060556), .lit (.int .u32 883997877), .lit (.int .u32 958139571), .lit (.int .u32 1322822218), .lit (.int .u32 1537002063), .lit (.int .u32 1747873779), .lit (.int .u32 1955562222), .lit (.int .u32 2024104815), .lit (.int .u32 2227730452), .lit (.int .u32 2361852424), .lit (.int .u32 2428436474), .lit (.int .u32 2756734187), .lit (.int .u32 3204031479), .lit (.int .u32 3329325298)]
def laid_math_bits_deBruijn32tab {H : Type} : DataW H := .agg [.lit (.int .u8 0), .lit (.int .u8 1), .lit (.int .u8 28), .lit (.int .u8 2), .lit (.int .u8 29), .lit (.int .u8 14), .lit (.int .u8 24), .lit (.int .u8 3), .lit (.int .u8 30), .lit (.int .u8 22), .lit (.int .u8 20), .lit (.int .u8 15), .lit (.int .u8 25), .lit (.int .u8 17), .lit (.int .u8 4), .lit (.int .u8 8), .lit (.int .u8 31), .lit (.int .u8 27), .lit (.int .u8 13), .lit (.int .u8 23), .lit (.int .u8 21), .lit (.int .u8 19), .lit (.int .u8 16), .lit (.int .u8 7), .lit (.int .u8 26), .lit (.int .u8 12), .lit (.int .u8 18), .lit (.int .u8 6), .lit (.int .u8 11), .lit (.int .u8 5), .lit (.int .u8 10), .lit (.int .u8 9)]
def laid_math_bits_deBruijn64tab {H : Type} : DataW H := .agg [.lit (.int .u8 0), .lit (.int .u8 1), .lit (.int .u8 56), .lit (.int .u8 2), .lit (.int .u8 57), .lit (.int .u8 49), .lit (.int .u8 28), .lit (.int .u8 3), .lit (.int .u8 61), .lit (.int .u8 58), .lit (.int .u8 42), .lit (.int .u8 50), .lit (.int .u8 38), .lit (.int .u8 29), .lit (.int .u8 17), .lit (.int .u8 4), .lit (.int .u8 62), .lit (.int .u8 47), .lit (.int .u8 59), .lit (.int .u8 36), .lit (.int .u8 45), .lit (.int .u8 43), .lit (.int .u8 51), .lit (.int .u8 22), .lit (.int .u8 53), .lit (.int .u8 39), .lit (.int .u8 33), .lit (.int .u8 30), .lit (.int .u8 24), .lit (.int .u8 18), .lit (.int .u8 12), .lit (.int .u8 5), .lit (.int .u8 63), .lit (.int .u8 55), .lit (.int .u8 48), .lit (.int .u8 27), .lit (.int .u8 60), .lit (.int .u8 41), .lit (.int .u8 37), .lit (.int .u8 16), .lit (.int .u8 46), .lit (.int .u8 35), .lit (.int .u8 44), .lit (.int .u8 21), .lit (.int .u8 52), .lit (.int .u8 32), .lit (.int .u8 23), .lit (.int .u8 11), .lit (.int .u8 54), .lit (.int .u8 26), .lit (.int .u8 40), .lit (.int .u8 15), .lit (.int .u8 34), .lit (.int .u8 20), .lit (.int .u8 31), .lit (.int .u8 10), .lit (.int .u8 25), .lit (.int .u8 14), .lit (.int .u8 19), .lit (.int .u8 9), .lit (.int .u8 13), .lit (.int .u8 8), .lit (.int .u8 7), .lit (.int .u8 6)]

/-- 'estreatlaw08.EntryReads': WHATEVER THE INPUT: true; the input reads as it did. -/
def entryReadsSpec : ChangeSpec := { name := "entryReads", fn := fun _ => fun
  | [d] => { results := [.lit (.bool true)], args := [d] }
  | _ => none }
def entryReadsRow : OpenClaim := { program := "ytoajianddmobaaadoor", sum := "7e0f82f73268573e3ea89c4af9fee567180614626f880de422853b9bb015abeb", func := "estreat/estreatlaw08.EntryReads", spec := "entryReads", unfollowed := true, recurses := true, named := ["estreat/sha.table"], apart := false, laid := [("estreat/sha.table", laid_estreat_sha_table)] }
def EntryReadsSaid : Prop := entryReadsRow.holds Tryd.pinned (OpenSpec.ofChange entryReadsSpec)

/-- ITS FALSE NEIGHBOUR: 'it returns false'. Refute it at one input. -/
def entryReadsWrong : ChangeSpec := { name := "entryReads", fn := fun _ => fun
  | [d] => { results := [.lit (.bool false)], args := [d] }
  | _ => none }
def EntryReadsWrongFalsely : Prop := entryReadsRow.holds Tryd.pinned (OpenSpec.ofChange entryReadsWrong)

/-- 'estreatlaw08.EntryApart': WHATEVER THE INPUT: true; the input reads as it did. -/
def entryApartSpec : ChangeSpec := { name := "entryApart", fn := fun _ => fun
  | [d1, d2, d3, d4] => { results := [.lit (.bool true)], args := [d1, d2, d3, d4] }
  | _ => none }
def entryApartRow : OpenClaim := { program := "ytoajianddmobaaadoor", sum := "7e0f82f73268573e3ea89c4af9fee567180614626f880de422853b9bb015abeb", func := "estreat/estreatlaw08.EntryApart", spec := "entryApart", unfollowed := true, recurses := true, named := ["estreat/sha.table"], apart := false, laid := [("estreat/sha.table", laid_estreat_sha_table)] }
def EntryApartSaid : Prop := entryApartRow.holds Tryd.pinned (OpenSpec.ofChange entryApartSpec)

/-- ITS FALSE NEIGHBOUR: 'it returns false'. Refute it at one input. -/
def entryApartWrong : ChangeSpec := { name := "entryApart", fn := fun _ => fun
  | [d1, d2, d3, d4] => { results := [.lit (.bool false)], args := [d1, d2, d3, d4] }
  | _ => none }
def EntryApartWrongFalsely : Prop := entryApartRow.holds Tryd.pinned (OpenSpec.ofChange entryApartWrong)

/-- 'estreatlaw08.EntryKinds': WHATEVER THE INPUT: true; the input reads as it did. -/
def entryKindsSpec : ChangeSpec := { name := "entryKinds", fn := fun _ => fun
  | [d1, d2, d3] => { results := [.lit (.bool true)], args := [d1, d2, d3] }
  | _ => none }
def entryKindsRow : OpenClaim := { program := "ytoajianddmobaaadoor", sum := "7e0f82f73268573e3ea89c4af9fee567180614626f880de422853b9bb015abeb", func := "estreat/estreatlaw08.EntryKinds", spec := "entryKinds", unfollowed := true, recurses := true, named := ["estreat/sha.table"], apart := false, laid := [("estreat/sha.table", laid_estreat_sha_table)] }
def EntryKindsSaid : Prop := entryKindsRow.holds Tryd.pinned (OpenSpec.ofChange entryKindsSpec)

/-- ITS FALSE NEIGHBOUR: 'it returns false'. Refute it at one input. -/
def entryKindsWrong : ChangeSpec := { name := "entryKinds", fn := fun _ => fun
  | [d1, d2, d3] => { results := [.lit (.bool false)], args := [d1, d2, d3] }
  | _ => none }
def EntryKindsWrongFalsely : Prop := entryKindsRow.holds Tryd.pinned (OpenSpec.ofChange entryKindsWrong)

/-- 'estreatlaw13.AnchorsNext': WHATEVER THE INPUT: true; the input reads as it did. -/
def anchorsNextSpec : ChangeSpec := { name := "anchorsNext", fn := fun _ => fun
  | [d1, d2, d3, d4, d5, d6] => { results := [.lit (.bool true)], args := [d1, d2, d3, d4, d5, d6] }
  | _ => none }
def anchorsNextRow : OpenClaim := { program := "ytoajianddmobaaadoor", sum := "7e0f82f73268573e3ea89c4af9fee567180614626f880de422853b9bb015abeb", func := "estreat/estreatlaw13.AnchorsNext", spec := "anchorsNext", unfollowed := true, recurses := true, named := ["estreat/sha.table"], apart := false, laid := [("estreat/sha.table", laid_estreat_sha_table)] }
def AnchorsNextSaid : Prop := anchorsNextRow.holds Tryd.pinned (OpenSpec.ofChange anchorsNextSpec)

/-- ITS FALSE NEIGHBOUR: 'it returns false'. Refute it at one input. -/
def anchorsNextWrong : ChangeSpec := { name := "anchorsNext", fn := fun _ => fun
  | [d1, d2, d3, d4, d5, d6] => { results := [.lit (.bool false)], args := [d1, d2, d3, d4, d5, d6] }
  | _ => none }
def AnchorsNextWrongFalsely : Prop := anchorsNextRow.holds Tryd.pinned (OpenSpec.ofChange anchorsNextWrong)

/-- 'estreatlaw11.HistoryRoots': WHATEVER THE INPUT: true; the input reads as it did. -/
def historyRootsSpec : ChangeSpec := { name := "historyRoots", fn := fun _ => fun
  | [d1, d2, d3, d4, d5] => { results := [.lit (.bool true)], args := [d1, d2, d3, d4, d5] }
  | _ => none }
def historyRootsRow : OpenClaim := { program := "ytoajianddmobaaadoor", sum := "7e0f82f73268573e3ea89c4af9fee567180614626f880de422853b9bb015abeb", func := "estreat/estreatlaw11.HistoryRoots", spec := "historyRoots", unfollowed := true, recurses := true, named := ["estreat/sha.table", "math/bits.deBruijn32tab", "math/bits.deBruijn64tab", "estreat/estreatref02.consts"], apart := false, laid := [("estreat/estreatref02.consts", laid_estreat_estreatref02_consts), ("math/bits.deBruijn32tab", laid_math_bits_deBruijn32tab), ("math/bits.deBruijn64tab", laid_math_bits_deBruijn64tab), ("estreat/sha.table", laid_estreat_sha_table)] }
def HistoryRootsSaid : Prop := historyRootsRow.holds Tryd.pinned (OpenSpec.ofChange historyRootsSpec)

/-- ITS FALSE NEIGHBOUR: 'it returns false'. Refute it at one input. -/
def historyRootsWrong : ChangeSpec := { name := "historyRoots", fn := fun _ => fun
  | [d1, d2, d3, d4, d5] => { results := [.lit (.bool false)], args := [d1, d2, d3, d4, d5] }
  | _ => none }
def HistoryRootsWrongFalsely : Prop := historyRootsRow.holds Tryd.pinned (OpenSpec.ofChange historyRootsWrong)

/-- 'estreatlaw11.HistoryProofs': WHATEVER THE INPUT: true; the input reads as it did. -/
def historyProofsSpec : ChangeSpec := { name := "historyProofs", fn := fun _ => fun
  | [d1, d2, d3, d4] => { results := [.lit (.bool true)], args := [d1, d2, d3, d4] }
  | _ => none }
def historyProofsRow : OpenClaim := { program := "ytoajianddmobaaadoor", sum := "7e0f82f73268573e3ea89c4af9fee567180614626f880de422853b9bb015abeb", func := "estreat/estreatlaw11.HistoryProofs", spec := "historyProofs", unfollowed := true, recurses := true, named := ["estreat/sha.table", "math/bits.deBruijn32tab", "math/bits.deBruijn64tab", "estreat/estreatref02.consts"], apart := false, laid := [("estreat/estreatref02.consts", laid_estreat_estreatref02_consts), ("math/bits.deBruijn32tab", laid_math_bits_deBruijn32tab), ("math/bits.deBruijn64tab", laid_math_bits_deBruijn64tab), ("estreat/sha.table", laid_estreat_sha_table)] }
def HistoryProofsSaid : Prop := historyProofsRow.holds Tryd.pinned (OpenSpec.ofChange historyProofsSpec)

/-- ITS FALSE NEIGHBOUR: 'it returns false'. Refute it at one input. -/
def historyProofsWrong : ChangeSpec := { name := "historyProofs", fn := fun _ => fun
  | [d1, d2, d3, d4] => { results := [.lit (.bool false)], args := [d1, d2, d3, d4] }
  | _ => none }
def HistoryProofsWrongFalsely : Prop := historyProofsRow.holds Tryd.pinned (OpenSpec.ofChange historyProofsWrong)

/-- 'estreatlaw11.HistoryHeads': WHATEVER THE INPUT: true; the input reads as it did. -/
def historyHeadsSpec : ChangeSpec := { name := "historyHeads", fn := fun _ => fun
  | [d1, d2, d3, d4, d5] => { results := [.lit (.bool true)], args := [d1, d2, d3, d4, d5] }
  | _ => none }
def historyHeadsRow : OpenClaim := { program := "ytoajianddmobaaadoor", sum := "7e0f82f73268573e3ea89c4af9fee567180614626f880de422853b9bb015abeb", func := "estreat/estreatlaw11.HistoryHeads", spec := "historyHeads", unfollowed := true, recurses := true, named := ["estreat/sha.table", "math/bits.deBruijn32tab", "math/bits.deBruijn64tab"], apart := false, laid := [("math/bits.deBruijn32tab", laid_math_bits_deBruijn32tab), ("math/bits.deBruijn64tab", laid_math_bits_deBruijn64tab), ("estreat/sha.table", laid_estreat_sha_table)] }
def HistoryHeadsSaid : Prop := historyHeadsRow.holds Tryd.pinned (OpenSpec.ofChange historyHeadsSpec)

/-- ITS FALSE NEIGHBOUR: 'it returns false'. Refute it at one input. -/
def historyHeadsWrong : ChangeSpec := { name := "historyHeads", fn := fun _ => fun
  | [d1, d2, d3, d4, d5] => { results := [.lit (.bool false)], args := [d1, d2, d3, d4, d5] }
  | _ => none }
def HistoryHeadsWrongFalsely : Prop := historyHeadsRow.holds Tryd.pinned (OpenSpec.ofChange historyHeadsWrong)

/-- 'estreatlaw11.HistoryFirst': WHATEVER THE INPUT: true; the input reads as it did. -/
def historyFirstSpec : ChangeSpec := { name := "historyFirst", fn := fun _ => fun
  | [d1, d2, d3, d4] => { results := [.lit (.bool true)], args := [d1, d2, d3, d4] }
  | _ => none }
def historyFirstRow : OpenClaim := { program := "ytoajianddmobaaadoor", sum := "7e0f82f73268573e3ea89c4af9fee567180614626f880de422853b9bb015abeb", func := "estreat/estreatlaw11.HistoryFirst", spec := "historyFirst", unfollowed := true, recurses := true, named := ["estreat/sha.table", "math/bits.deBruijn32tab", "math/bits.deBruijn64tab"], apart := false, laid := [("math/bits.deBruijn32tab", laid_math_bits_deBruijn32tab), ("math/bits.deBruijn64tab", laid_math_bits_deBruijn64tab), ("estreat/sha.table", laid_estreat_sha_table)] }
def HistoryFirstSaid : Prop := historyFirstRow.holds Tryd.pinned (OpenSpec.ofChange historyFirstSpec)

/-- ITS FALSE NEIGHBOUR: 'it returns false'. Refute it at one input. -/
def historyFirstWrong : ChangeSpec := { name := "historyFirst", fn := fun _ => fun
  | [d1, d2, d3, d4] => { results := [.lit (.bool false)], args := [d1, d2, d3, d4] }
  | _ => none }
def HistoryFirstWrongFalsely : Prop := historyFirstRow.holds Tryd.pinned (OpenSpec.ofChange historyFirstWrong)

/-- 'estreatlaw11.HistoryGrows': WHATEVER THE INPUT: true; the input reads as it did. -/
def historyGrowsSpec : ChangeSpec := { name := "historyGrows", fn := fun _ => fun
  | [d1, d2, d3] => { results := [.lit (.bool true)], args := [d1, d2, d3] }
  | _ => none }
def historyGrowsRow : OpenClaim := { program := "ytoajianddmobaaadoor", sum := "7e0f82f73268573e3ea89c4af9fee567180614626f880de422853b9bb015abeb", func := "estreat/estreatlaw11.HistoryGrows", spec := "historyGrows", unfollowed := true, recurses := true, named := ["estreat/sha.table", "math/bits.deBruijn32tab", "math/bits.deBruijn64tab"], apart := false, laid := [("math/bits.deBruijn32tab", laid_math_bits_deBruijn32tab), ("math/bits.deBruijn64tab", laid_math_bits_deBruijn64tab), ("estreat/sha.table", laid_estreat_sha_table)] }
def HistoryGrowsSaid : Prop := historyGrowsRow.holds Tryd.pinned (OpenSpec.ofChange historyGrowsSpec)

/-- ITS FALSE NEIGHBOUR: 'it returns false'. Refute it at one input. -/
def historyGrowsWrong : ChangeSpec := { name := "historyGrows", fn := fun _ => fun
  | [d1, d2, d3] => { results := [.lit (.bool false)], args := [d1, d2, d3] }
  | _ => none }
def HistoryGrowsWrongFalsely : Prop := historyGrowsRow.holds Tryd.pinned (OpenSpec.ofChange historyGrowsWrong)

/-- 'estreatlaw11.HistoryFinds': WHATEVER THE INPUT: true; the input reads as it did. -/
def historyFindsSpec : ChangeSpec := { name := "historyFinds", fn := fun _ => fun
  | [d1, d2, d3, d4] => { results := [.lit (.bool true)], args := [d1, d2, d3, d4] }
  | _ => none }
def historyFindsRow : OpenClaim := { program := "ytoajianddmobaaadoor", sum := "7e0f82f73268573e3ea89c4af9fee567180614626f880de422853b9bb015abeb", func := "estreat/estreatlaw11.HistoryFinds", spec := "historyFinds", unfollowed := true, recurses := true, named := ["estreat/sha.table", "math/bits.deBruijn32tab", "math/bits.deBruijn64tab"], apart := false, laid := [("math/bits.deBruijn32tab", laid_math_bits_deBruijn32tab), ("math/bits.deBruijn64tab", laid_math_bits_deBruijn64tab), ("estreat/sha.table", laid_estreat_sha_table)] }
def HistoryFindsSaid : Prop := historyFindsRow.holds Tryd.pinned (OpenSpec.ofChange historyFindsSpec)

/-- ITS FALSE NEIGHBOUR: 'it returns false'. Refute it at one input. -/
def historyFindsWrong : ChangeSpec := { name := "historyFinds", fn := fun _ => fun
  | [d1, d2, d3, d4] => { results := [.lit (.bool false)], args := [d1, d2, d3, d4] }
  | _ => none }
def HistoryFindsWrongFalsely : Prop := historyFindsRow.holds Tryd.pinned (OpenSpec.ofChange historyFindsWrong)

/- THE SECOND FORM. 'bulk': how many values and letters a reading holds, each counted each time it is reached (what is shared counts as often as it is met; a slice's spare places count too). A statement '..UptoSaid' is the law's where the arguments, and the package variables that the reading takes, are together of bulk at most 1048576: NARROWER than '..Said'. Prove '..Said' where nothing that the law and all that it calls make is longer than what came in: it says more and counts as full. Else prove '..UptoSaid'. A law counts once. -/
mutual
def uptoBulk {H : Type} : DataW H → Nat
  | .lit (.string bytes) => bytes.length + 1
  | .lit _ => 1
  | .nil => 1
  | .ptr d => uptoBulk d + 1
  | .slice elems spare => uptoBulkAll elems + uptoBulkAll spare + 1
  | .agg parts => uptoBulkAll parts + 1
  | .iface _ d => uptoBulk d + 1
  | .map entries => uptoBulkEntries entries + 1
  | .held _ => 1
def uptoBulkAll {H : Type} : List (DataW H) → Nat
  | [] => 0
  | d :: r => uptoBulk d + uptoBulkAll r
def uptoBulkEntries {H : Type} : List (Lit × DataW H) → Nat
  | [] => 0
  | x :: r => uptoBulkEntry x + uptoBulkEntries r
def uptoBulkEntry {H : Type} : Lit × DataW H → Nat
  | (.string bytes, d) => bytes.length + uptoBulk d + 1
  | (_, d) => uptoBulk d + 1
 end
def uptoSmall : (H : Type) → List (DataW H) → Bool := fun _ ds => decide (uptoBulkAll ds ≤ 1048576)
def OpenSpec.upto (s : _root_.Go.ChangeSpec) : _root_.Go.OpenSpec := { _root_.Go.OpenSpec.ofChange s with cond := some uptoSmall }

/-- 'estreatlaw08.EntryReads', WHERE WHAT IT READS IS OF BULK AT MOST 1048576: true; the input reads as it did. -/
def entryReadsUptoRow : OpenClaim := { program := "ytoajianddmobaaadoor", sum := "7e0f82f73268573e3ea89c4af9fee567180614626f880de422853b9bb015abeb", func := "estreat/estreatlaw08.EntryReads", spec := "entryReads", unfollowed := true, recurses := true, named := ["estreat/sha.table"], apart := false, laid := [("estreat/sha.table", laid_estreat_sha_table)], narrowed := true }
def EntryReadsUptoSaid : Prop := entryReadsUptoRow.holds Tryd.pinned (OpenSpec.upto entryReadsSpec)

/-- 'estreatlaw08.EntryApart', WHERE WHAT IT READS IS OF BULK AT MOST 1048576: true; the input reads as it did. -/
def entryApartUptoRow : OpenClaim := { program := "ytoajianddmobaaadoor", sum := "7e0f82f73268573e3ea89c4af9fee567180614626f880de422853b9bb015abeb", func := "estreat/estreatlaw08.EntryApart", spec := "entryApart", unfollowed := true, recurses := true, named := ["estreat/sha.table"], apart := false, laid := [("estreat/sha.table", laid_estreat_sha_table)], narrowed := true }
def EntryApartUptoSaid : Prop := entryApartUptoRow.holds Tryd.pinned (OpenSpec.upto entryApartSpec)

/-- 'estreatlaw08.EntryKinds', WHERE WHAT IT READS IS OF BULK AT MOST 1048576: true; the input reads as it did. -/
def entryKindsUptoRow : OpenClaim := { program := "ytoajianddmobaaadoor", sum := "7e0f82f73268573e3ea89c4af9fee567180614626f880de422853b9bb015abeb", func := "estreat/estreatlaw08.EntryKinds", spec := "entryKinds", unfollowed := true, recurses := true, named := ["estreat/sha.table"], apart := false, laid := [("estreat/sha.table", laid_estreat_sha_table)], narrowed := true }
def EntryKindsUptoSaid : Prop := entryKindsUptoRow.holds Tryd.pinned (OpenSpec.upto entryKindsSpec)

/-- 'estreatlaw13.AnchorsNext', WHERE WHAT IT READS IS OF BULK AT MOST 1048576: true; the input reads as it did. -/
def anchorsNextUptoRow : OpenClaim := { program := "ytoajianddmobaaadoor", sum := "7e0f82f73268573e3ea89c4af9fee567180614626f880de422853b9bb015abeb", func := "estreat/estreatlaw13.AnchorsNext", spec := "anchorsNext", unfollowed := true, recurses := true, named := ["estreat/sha.table"], apart := false, laid := [("estreat/sha.table", laid_estreat_sha_table)], narrowed := true }
def AnchorsNextUptoSaid : Prop := anchorsNextUptoRow.holds Tryd.pinned (OpenSpec.upto anchorsNextSpec)

/-- 'estreatlaw11.HistoryRoots', WHERE WHAT IT READS IS OF BULK AT MOST 1048576: true; the input reads as it did. -/
def historyRootsUptoRow : OpenClaim := { program := "ytoajianddmobaaadoor", sum := "7e0f82f73268573e3ea89c4af9fee567180614626f880de422853b9bb015abeb", func := "estreat/estreatlaw11.HistoryRoots", spec := "historyRoots", unfollowed := true, recurses := true, named := ["estreat/sha.table", "math/bits.deBruijn32tab", "math/bits.deBruijn64tab", "estreat/estreatref02.consts"], apart := false, laid := [("estreat/estreatref02.consts", laid_estreat_estreatref02_consts), ("math/bits.deBruijn32tab", laid_math_bits_deBruijn32tab), ("math/bits.deBruijn64tab", laid_math_bits_deBruijn64tab), ("estreat/sha.table", laid_estreat_sha_table)], narrowed := true }
def HistoryRootsUptoSaid : Prop := historyRootsUptoRow.holds Tryd.pinned (OpenSpec.upto historyRootsSpec)

/-- 'estreatlaw11.HistoryProofs', WHERE WHAT IT READS IS OF BULK AT MOST 1048576: true; the input reads as it did. -/
def historyProofsUptoRow : OpenClaim := { program := "ytoajianddmobaaadoor", sum := "7e0f82f73268573e3ea89c4af9fee567180614626f880de422853b9bb015abeb", func := "estreat/estreatlaw11.HistoryProofs", spec := "historyProofs", unfollowed := true, recurses := true, named := ["estreat/sha.table", "math/bits.deBruijn32tab", "math/bits.deBruijn64tab", "estreat/estreatref02.consts"], apart := false, laid := [("estreat/estreatref02.consts", laid_estreat_estreatref02_consts), ("math/bits.deBruijn32tab", laid_math_bits_deBruijn32tab), ("math/bits.deBruijn64tab", laid_math_bits_deBruijn64tab), ("estreat/sha.table", laid_estreat_sha_table)], narrowed := true }
def HistoryProofsUptoSaid : Prop := historyProofsUptoRow.holds Tryd.pinned (OpenSpec.upto historyProofsSpec)

/-- 'estreatlaw11.HistoryHeads', WHERE WHAT IT READS IS OF BULK AT MOST 1048576: true; the input reads as it did. -/
def historyHeadsUptoRow : OpenClaim := { program := "ytoajianddmobaaadoor", sum := "7e0f82f73268573e3ea89c4af9fee567180614626f880de422853b9bb015abeb", func := "estreat/estreatlaw11.HistoryHeads", spec := "historyHeads", unfollowed := true, recurses := true, named := ["estreat/sha.table", "math/bits.deBruijn32tab", "math/bits.deBruijn64tab"], apart := false, laid := [("math/bits.deBruijn32tab", laid_math_bits_deBruijn32tab), ("math/bits.deBruijn64tab", laid_math_bits_deBruijn64tab), ("estreat/sha.table", laid_estreat_sha_table)], narrowed := true }
def HistoryHeadsUptoSaid : Prop := historyHeadsUptoRow.holds Tryd.pinned (OpenSpec.upto historyHeadsSpec)

/-- 'estreatlaw11.HistoryFirst', WHERE WHAT IT READS IS OF BULK AT MOST 1048576: true; the input reads as it did. -/
def historyFirstUptoRow : OpenClaim := { program := "ytoajianddmobaaadoor", sum := "7e0f82f73268573e3ea89c4af9fee567180614626f880de422853b9bb015abeb", func := "estreat/estreatlaw11.HistoryFirst", spec := "historyFirst", unfollowed := true, recurses := true, named := ["estreat/sha.table", "math/bits.deBruijn32tab", "math/bits.deBruijn64tab"], apart := false, laid := [("math/bits.deBruijn32tab", laid_math_bits_deBruijn32tab), ("math/bits.deBruijn64tab", laid_math_bits_deBruijn64tab), ("estreat/sha.table", laid_estreat_sha_table)], narrowed := true }
def HistoryFirstUptoSaid : Prop := historyFirstUptoRow.holds Tryd.pinned (OpenSpec.upto historyFirstSpec)

/-- 'estreatlaw11.HistoryGrows', WHERE WHAT IT READS IS OF BULK AT MOST 1048576: true; the input reads as it did. -/
def historyGrowsUptoRow : OpenClaim := { program := "ytoajianddmobaaadoor", sum := "7e0f82f73268573e3ea89c4af9fee567180614626f880de422853b9bb015abeb", func := "estreat/estreatlaw11.HistoryGrows", spec := "historyGrows", unfollowed := true, recurses := true, named := ["estreat/sha.table", "math/bits.deBruijn32tab", "math/bits.deBruijn64tab"], apart := false, laid := [("math/bits.deBruijn32tab", laid_math_bits_deBruijn32tab), ("math/bits.deBruijn64tab", laid_math_bits_deBruijn64tab), ("estreat/sha.table", laid_estreat_sha_table)], narrowed := true }
def HistoryGrowsUptoSaid : Prop := historyGrowsUptoRow.holds Tryd.pinned (OpenSpec.upto historyGrowsSpec)

/-- 'estreatlaw11.HistoryFinds', WHERE WHAT IT READS IS OF BULK AT MOST 1048576: true; the input reads as it did. -/
def historyFindsUptoRow : OpenClaim := { program := "ytoajianddmobaaadoor", sum := "7e0f82f73268573e3ea89c4af9fee567180614626f880de422853b9bb015abeb", func := "estreat/estreatlaw11.HistoryFinds", spec := "historyFinds", unfollowed := true, recurses := true, named := ["estreat/sha.table", "math/bits.deBruijn32tab", "math/bits.deBruijn64tab"], apart := false, laid := [("math/bits.deBruijn32tab", laid_math_bits_deBruijn32tab), ("math/bits.deBruijn64tab", laid_math_bits_deBruijn64tab), ("estreat/sha.table", laid_estreat_sha_table)], narrowed := true }
def HistoryFindsUptoSaid : Prop := historyFindsUptoRow.holds Tryd.pinned (OpenSpec.upto historyFindsSpec)

end Rows
end Go.Proofs.YtoajianddmobaaaDoor
