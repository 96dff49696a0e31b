/-
  No cell of these rows narrows 'for every input' (looked for: loops, veiled, ifaces, maps, wideKeys, modest, calm, conditions, laid).
  DERIVED. THE GIVEN ROWS OF THIS SEAT. 11 by the template 'for every input the law returns true; each argument reads behind the call as it read before'; 0 by the template 'total and deterministic' (their statements: YtjhfjllgjgnmeaaGreatTotals.lean).
  GIVEN WITH THE SEED: the statements are not yours to turn. If you find one false, say at which input.
  Laid BY PROGRAM, IN A SANDBOX (cutbox-rows.mjs): the forced cells as the released guide's own fill.sh prints them over the translation 0e6674763b5f4a93… (all of the seat's roots in one cut). By AI agents, Wed Nov 11 2026. No macro, syntax, notation, axiom, sorry.
-/
import Derived.Test.YtjhfjllgjgnmeaaGreatChecked
import GoSem.Claim
import GoSem.ClaimJoined
import GoSem.ClaimMapViews
import Derived.JoinedTies
import Derived.KernelRfl
namespace Go.Proofs.YtjhfjllgjgnmeaaGreat
/- THE CELL 'sum', in the pinned program and in every row, IS THE sha256 OF THE DUMP (.gsa) THAT YtjhfjllgjgnmeaaGreatProg.lean LOADS. Nothing in Lean hashes anything: it is a label: what it is worth is what the hold of that sum in a sandbox is worth. -/
noncomputable def Tryz.pinned : Pinned := { name := "ytjhfjllgjgnmeaagreat", sum := "0e6674763b5f4a93aa57b814d56cd173adda8272b21b09e321993de50b4626bd", checked := Tryz.checked }
namespace Rows
def none {H : Type} : Left H := { results := [], args := [] }

/-- 'kraitlaw16.OperateBin': WHATEVER THE INPUT: true; the input reads as it did. -/
def operateBinSpec : ChangeSpec := { name := "operateBin", fn := fun _ => fun
  | [d1, d2, d3] => { results := [.lit (.bool true)], args := [d1, d2, d3] }
  | _ => none }
def operateBinRow : OpenClaim := { program := "ytjhfjllgjgnmeaagreat", sum := "0e6674763b5f4a93aa57b814d56cd173adda8272b21b09e321993de50b4626bd", func := "krait/kraitlaw16.OperateBin", spec := "operateBin", inPlace := ["internal/abi.NoEscape", "internal/bytealg.IndexByteString", "internal/bytealg.IndexString", "internal/bytealg.MakeNoZero"], unfollowed := true, recurses := true, named := ["internal/bytealg.MaxLen"], plainKeys := false, apart := false }
def OperateBinSaid : Prop := operateBinRow.holds Tryz.pinned (OpenSpec.ofChange operateBinSpec)

/-- ITS FALSE NEIGHBOUR: 'it returns false'. Refute it at one input. -/
def operateBinWrong : ChangeSpec := { name := "operateBin", fn := fun _ => fun
  | [d1, d2, d3] => { results := [.lit (.bool false)], args := [d1, d2, d3] }
  | _ => none }
def OperateBinWrongFalsely : Prop := operateBinRow.holds Tryz.pinned (OpenSpec.ofChange operateBinWrong)

/-- 'kraitlaw16.OperateIndex': WHATEVER THE INPUT: true; the input reads as it did. -/
def operateIndexSpec : ChangeSpec := { name := "operateIndex", fn := fun _ => fun
  | [d1, d2] => { results := [.lit (.bool true)], args := [d1, d2] }
  | _ => none }
def operateIndexRow : OpenClaim := { program := "ytjhfjllgjgnmeaagreat", sum := "0e6674763b5f4a93aa57b814d56cd173adda8272b21b09e321993de50b4626bd", func := "krait/kraitlaw16.OperateIndex", spec := "operateIndex", inPlace := ["internal/abi.NoEscape", "internal/bytealg.IndexByteString", "internal/bytealg.IndexString", "internal/bytealg.MakeNoZero"], unfollowed := true, recurses := true, named := ["internal/bytealg.MaxLen"], plainKeys := false, apart := false }
def OperateIndexSaid : Prop := operateIndexRow.holds Tryz.pinned (OpenSpec.ofChange operateIndexSpec)

/-- ITS FALSE NEIGHBOUR: 'it returns false'. Refute it at one input. -/
def operateIndexWrong : ChangeSpec := { name := "operateIndex", fn := fun _ => fun
  | [d1, d2] => { results := [.lit (.bool false)], args := [d1, d2] }
  | _ => none }
def OperateIndexWrongFalsely : Prop := operateIndexRow.holds Tryz.pinned (OpenSpec.ofChange operateIndexWrong)

/-- 'kraitlaw14.ObjectPlays': WHATEVER THE INPUT: true; the input reads as it did. -/
def objectPlaysSpec : ChangeSpec := { name := "objectPlays", fn := fun _ => fun
  | [d] => { results := [.lit (.bool true)], args := [d] }
  | _ => none }
def objectPlaysRow : OpenClaim := { program := "ytjhfjllgjgnmeaagreat", sum := "0e6674763b5f4a93aa57b814d56cd173adda8272b21b09e321993de50b4626bd", func := "krait/kraitlaw14.ObjectPlays", spec := "objectPlays", unfollowed := true, recurses := true, plainKeys := false, apart := false }
def ObjectPlaysSaid : Prop := objectPlaysRow.holds Tryz.pinned (OpenSpec.ofChange objectPlaysSpec)

/-- ITS FALSE NEIGHBOUR: 'it returns false'. Refute it at one input. -/
def objectPlaysWrong : ChangeSpec := { name := "objectPlays", fn := fun _ => fun
  | [d] => { results := [.lit (.bool false)], args := [d] }
  | _ => none }
def ObjectPlaysWrongFalsely : Prop := objectPlaysRow.holds Tryz.pinned (OpenSpec.ofChange objectPlaysWrong)

/-- 'kraitlaw16.OperateSums': WHATEVER THE INPUT: true; the input reads as it did. -/
def operateSumsSpec : ChangeSpec := { name := "operateSums", fn := fun _ => fun
  | [d1, d2, d3] => { results := [.lit (.bool true)], args := [d1, d2, d3] }
  | _ => none }
def operateSumsRow : OpenClaim := { program := "ytjhfjllgjgnmeaagreat", sum := "0e6674763b5f4a93aa57b814d56cd173adda8272b21b09e321993de50b4626bd", func := "krait/kraitlaw16.OperateSums", spec := "operateSums", inPlace := ["internal/abi.NoEscape", "internal/bytealg.IndexByteString", "internal/bytealg.IndexString", "internal/bytealg.MakeNoZero"], unfollowed := true, recurses := true, named := ["internal/bytealg.MaxLen"], plainKeys := false, apart := false }
def OperateSumsSaid : Prop := operateSumsRow.holds Tryz.pinned (OpenSpec.ofChange operateSumsSpec)

/-- ITS FALSE NEIGHBOUR: 'it returns false'. Refute it at one input. -/
def operateSumsWrong : ChangeSpec := { name := "operateSums", fn := fun _ => fun
  | [d1, d2, d3] => { results := [.lit (.bool false)], args := [d1, d2, d3] }
  | _ => none }
def OperateSumsWrongFalsely : Prop := operateSumsRow.holds Tryz.pinned (OpenSpec.ofChange operateSumsWrong)

/-- 'kraitlaw16.OperateLimits': WHATEVER THE INPUT: true; the input reads as it did. -/
def operateLimitsSpec : ChangeSpec := { name := "operateLimits", fn := fun _ => fun
  | [d1, d2] => { results := [.lit (.bool true)], args := [d1, d2] }
  | _ => none }
def operateLimitsRow : OpenClaim := { program := "ytjhfjllgjgnmeaagreat", sum := "0e6674763b5f4a93aa57b814d56cd173adda8272b21b09e321993de50b4626bd", func := "krait/kraitlaw16.OperateLimits", spec := "operateLimits", inPlace := ["internal/abi.NoEscape", "internal/bytealg.IndexByteString", "internal/bytealg.IndexString", "internal/bytealg.MakeNoZero"], unfollowed := true, recurses := true, named := ["internal/bytealg.MaxLen"], plainKeys := false, apart := false }
def OperateLimitsSaid : Prop := operateLimitsRow.holds Tryz.pinned (OpenSpec.ofChange operateLimitsSpec)

/-- ITS FALSE NEIGHBOUR: 'it returns false'. Refute it at one input. -/
def operateLimitsWrong : ChangeSpec := { name := "operateLimits", fn := fun _ => fun
  | [d1, d2] => { results := [.lit (.bool false)], args := [d1, d2] }
  | _ => none }
def OperateLimitsWrongFalsely : Prop := operateLimitsRow.holds Tryz.pinned (OpenSpec.ofChange operateLimitsWrong)

/-- 'kraitlaw16.OperateSlices': WHATEVER THE INPUT: true; the input reads as it did. -/
def operateSlicesSpec : ChangeSpec := { name := "operateSlices", fn := fun _ => fun
  | [d1, d2, d3] => { results := [.lit (.bool true)], args := [d1, d2, d3] }
  | _ => none }
def operateSlicesRow : OpenClaim := { program := "ytjhfjllgjgnmeaagreat", sum := "0e6674763b5f4a93aa57b814d56cd173adda8272b21b09e321993de50b4626bd", func := "krait/kraitlaw16.OperateSlices", spec := "operateSlices", inPlace := ["internal/abi.NoEscape", "internal/bytealg.IndexByteString", "internal/bytealg.IndexString", "internal/bytealg.MakeNoZero"], unfollowed := true, recurses := true, named := ["internal/bytealg.MaxLen"], plainKeys := false, apart := false }
def OperateSlicesSaid : Prop := operateSlicesRow.holds Tryz.pinned (OpenSpec.ofChange operateSlicesSpec)

/-- ITS FALSE NEIGHBOUR: 'it returns false'. Refute it at one input. -/
def operateSlicesWrong : ChangeSpec := { name := "operateSlices", fn := fun _ => fun
  | [d1, d2, d3] => { results := [.lit (.bool false)], args := [d1, d2, d3] }
  | _ => none }
def OperateSlicesWrongFalsely : Prop := operateSlicesRow.holds Tryz.pinned (OpenSpec.ofChange operateSlicesWrong)

/-- 'kraitlaw16.OperateSame': WHATEVER THE INPUT: true; the input reads as it did. -/
def operateSameSpec : ChangeSpec := { name := "operateSame", fn := fun _ => fun
  | [d1, d2] => { results := [.lit (.bool true)], args := [d1, d2] }
  | _ => none }
def operateSameRow : OpenClaim := { program := "ytjhfjllgjgnmeaagreat", sum := "0e6674763b5f4a93aa57b814d56cd173adda8272b21b09e321993de50b4626bd", func := "krait/kraitlaw16.OperateSame", spec := "operateSame", inPlace := ["internal/abi.NoEscape", "internal/bytealg.IndexByteString", "internal/bytealg.IndexString", "internal/bytealg.MakeNoZero"], unfollowed := true, recurses := true, named := ["internal/bytealg.MaxLen"], plainKeys := false, apart := false }
def OperateSameSaid : Prop := operateSameRow.holds Tryz.pinned (OpenSpec.ofChange operateSameSpec)

/-- ITS FALSE NEIGHBOUR: 'it returns false'. Refute it at one input. -/
def operateSameWrong : ChangeSpec := { name := "operateSame", fn := fun _ => fun
  | [d1, d2] => { results := [.lit (.bool false)], args := [d1, d2] }
  | _ => none }
def OperateSameWrongFalsely : Prop := operateSameRow.holds Tryz.pinned (OpenSpec.ofChange operateSameWrong)

/-- 'kraitlaw16.OperateIn': WHATEVER THE INPUT: true; the input reads as it did. -/
def operateInSpec : ChangeSpec := { name := "operateIn", fn := fun _ => fun
  | [d1, d2] => { results := [.lit (.bool true)], args := [d1, d2] }
  | _ => none }
def operateInRow : OpenClaim := { program := "ytjhfjllgjgnmeaagreat", sum := "0e6674763b5f4a93aa57b814d56cd173adda8272b21b09e321993de50b4626bd", func := "krait/kraitlaw16.OperateIn", spec := "operateIn", inPlace := ["internal/abi.NoEscape", "internal/bytealg.IndexByteString", "internal/bytealg.IndexString", "internal/bytealg.MakeNoZero"], unfollowed := true, recurses := true, named := ["internal/bytealg.MaxLen"], plainKeys := false, apart := false }
def OperateInSaid : Prop := operateInRow.holds Tryz.pinned (OpenSpec.ofChange operateInSpec)

/-- ITS FALSE NEIGHBOUR: 'it returns false'. Refute it at one input. -/
def operateInWrong : ChangeSpec := { name := "operateIn", fn := fun _ => fun
  | [d1, d2] => { results := [.lit (.bool false)], args := [d1, d2] }
  | _ => none }
def OperateInWrongFalsely : Prop := operateInRow.holds Tryz.pinned (OpenSpec.ofChange operateInWrong)

/-- 'kraitlaw16.OperateDeep': WHATEVER THE INPUT: true; the input reads as it did. -/
def operateDeepSpec : ChangeSpec := { name := "operateDeep", fn := fun _ => fun
  | [d1, d2, d3] => { results := [.lit (.bool true)], args := [d1, d2, d3] }
  | _ => none }
def operateDeepRow : OpenClaim := { program := "ytjhfjllgjgnmeaagreat", sum := "0e6674763b5f4a93aa57b814d56cd173adda8272b21b09e321993de50b4626bd", func := "krait/kraitlaw16.OperateDeep", spec := "operateDeep", inPlace := ["internal/abi.NoEscape", "internal/bytealg.IndexByteString", "internal/bytealg.IndexString", "internal/bytealg.MakeNoZero"], unfollowed := true, recurses := true, named := ["internal/bytealg.MaxLen"], plainKeys := false, apart := false }
def OperateDeepSaid : Prop := operateDeepRow.holds Tryz.pinned (OpenSpec.ofChange operateDeepSpec)

/-- ITS FALSE NEIGHBOUR: 'it returns false'. Refute it at one input. -/
def operateDeepWrong : ChangeSpec := { name := "operateDeep", fn := fun _ => fun
  | [d1, d2, d3] => { results := [.lit (.bool false)], args := [d1, d2, d3] }
  | _ => none }
def OperateDeepWrongFalsely : Prop := operateDeepRow.holds Tryz.pinned (OpenSpec.ofChange operateDeepWrong)

/-- 'kraitlaw16.OperateCmp': WHATEVER THE INPUT: true; the input reads as it did. -/
def operateCmpSpec : ChangeSpec := { name := "operateCmp", fn := fun _ => fun
  | [d1, d2, d3] => { results := [.lit (.bool true)], args := [d1, d2, d3] }
  | _ => none }
def operateCmpRow : OpenClaim := { program := "ytjhfjllgjgnmeaagreat", sum := "0e6674763b5f4a93aa57b814d56cd173adda8272b21b09e321993de50b4626bd", func := "krait/kraitlaw16.OperateCmp", spec := "operateCmp", inPlace := ["internal/abi.NoEscape", "internal/bytealg.IndexByteString", "internal/bytealg.IndexString", "internal/bytealg.MakeNoZero"], unfollowed := true, recurses := true, named := ["internal/bytealg.MaxLen"], plainKeys := false, apart := false }
def OperateCmpSaid : Prop := operateCmpRow.holds Tryz.pinned (OpenSpec.ofChange operateCmpSpec)

/-- ITS FALSE NEIGHBOUR: 'it returns false'. Refute it at one input. -/
def operateCmpWrong : ChangeSpec := { name := "operateCmp", fn := fun _ => fun
  | [d1, d2, d3] => { results := [.lit (.bool false)], args := [d1, d2, d3] }
  | _ => none }
def OperateCmpWrongFalsely : Prop := operateCmpRow.holds Tryz.pinned (OpenSpec.ofChange operateCmpWrong)

/-- 'kraitlaw16.OperateRepr': WHATEVER THE INPUT: true; the input reads as it did. -/
def operateReprSpec : ChangeSpec := { name := "operateRepr", fn := fun _ => fun
  | [d1, d2] => { results := [.lit (.bool true)], args := [d1, d2] }
  | _ => none }
def operateReprRow : OpenClaim := { program := "ytjhfjllgjgnmeaagreat", sum := "0e6674763b5f4a93aa57b814d56cd173adda8272b21b09e321993de50b4626bd", func := "krait/kraitlaw16.OperateRepr", spec := "operateRepr", inPlace := ["internal/abi.NoEscape", "internal/bytealg.IndexByteString", "internal/bytealg.IndexString", "internal/bytealg.MakeNoZero"], unfollowed := true, recurses := true, named := ["internal/bytealg.MaxLen"], plainKeys := false, apart := false }
def OperateReprSaid : Prop := operateReprRow.holds Tryz.pinned (OpenSpec.ofChange operateReprSpec)

/-- ITS FALSE NEIGHBOUR: 'it returns false'. Refute it at one input. -/
def operateReprWrong : ChangeSpec := { name := "operateRepr", fn := fun _ => fun
  | [d1, d2] => { results := [.lit (.bool false)], args := [d1, d2] }
  | _ => none }
def OperateReprWrongFalsely : Prop := operateReprRow.holds Tryz.pinned (OpenSpec.ofChange operateReprWrong)

/- THE SECOND FORM. 'bulk': how many values and letters a reading holds, each counted each time it is reached (what is shared counts as often as it is met; a slice's spare places count too). A statement '..UptoSaid' is the law's where the arguments, and the package variables that the reading takes, are together of bulk at most 1048576: NARROWER than '..Said'. Prove '..Said' where nothing that the law and all that it calls make is longer than what came in: it says more and counts as full. Else prove '..UptoSaid'. A law counts once. -/
mutual
def uptoBulk {H : Type} : DataW H → Nat
  | .lit (.string bytes) => bytes.length + 1
  | .lit _ => 1
  | .nil => 1
  | .ptr d => uptoBulk d + 1
  | .slice elems spare => uptoBulkAll elems + uptoBulkAll spare + 1
  | .agg parts => uptoBulkAll parts + 1
  | .iface _ d => uptoBulk d + 1
  | .map entries => uptoBulkEntries entries + 1
  | .held _ => 1
def uptoBulkAll {H : Type} : List (DataW H) → Nat
  | [] => 0
  | d :: r => uptoBulk d + uptoBulkAll r
def uptoBulkEntries {H : Type} : List (Lit × DataW H) → Nat
  | [] => 0
  | x :: r => uptoBulkEntry x + uptoBulkEntries r
def uptoBulkEntry {H : Type} : Lit × DataW H → Nat
  | (.string bytes, d) => bytes.length + uptoBulk d + 1
  | (_, d) => uptoBulk d + 1
 end
def uptoSmall : (H : Type) → List (DataW H) → Bool := fun _ ds => decide (uptoBulkAll ds ≤ 1048576)
def OpenSpec.upto (s : _root_.Go.ChangeSpec) : _root_.Go.OpenSpec := { _root_.Go.OpenSpec.ofChange s with cond := some uptoSmall }

/-- 'kraitlaw16.OperateBin', WHERE WHAT IT READS IS OF BULK AT MOST 1048576: true; the input reads as it did. -/
def operateBinUptoRow : OpenClaim := { program := "ytjhfjllgjgnmeaagreat", sum := "0e6674763b5f4a93aa57b814d56cd173adda8272b21b09e321993de50b4626bd", func := "krait/kraitlaw16.OperateBin", spec := "operateBin", inPlace := ["internal/abi.NoEscape", "internal/bytealg.IndexByteString", "internal/bytealg.IndexString", "internal/bytealg.MakeNoZero"], unfollowed := true, recurses := true, named := ["internal/bytealg.MaxLen"], plainKeys := false, apart := false, narrowed := true }
def OperateBinUptoSaid : Prop := operateBinUptoRow.holds Tryz.pinned (OpenSpec.upto operateBinSpec)

/-- 'kraitlaw16.OperateIndex', WHERE WHAT IT READS IS OF BULK AT MOST 1048576: true; the input reads as it did. -/
def operateIndexUptoRow : OpenClaim := { program := "ytjhfjllgjgnmeaagreat", sum := "0e6674763b5f4a93aa57b814d56cd173adda8272b21b09e321993de50b4626bd", func := "krait/kraitlaw16.OperateIndex", spec := "operateIndex", inPlace := ["internal/abi.NoEscape", "internal/bytealg.IndexByteString", "internal/bytealg.IndexString", "internal/bytealg.MakeNoZero"], unfollowed := true, recurses := true, named := ["internal/bytealg.MaxLen"], plainKeys := false, apart := false, narrowed := true }
def OperateIndexUptoSaid : Prop := operateIndexUptoRow.holds Tryz.pinned (OpenSpec.upto operateIndexSpec)

/-- 'kraitlaw14.ObjectPlays', WHERE WHAT IT READS IS OF BULK AT MOST 1048576: true; the input reads as it did. -/
def objectPlaysUptoRow : OpenClaim := { program := "ytjhfjllgjgnmeaagreat", sum := "0e6674763b5f4a93aa57b814d56cd173adda8272b21b09e321993de50b4626bd", func := "krait/kraitlaw14.ObjectPlays", spec := "objectPlays", unfollowed := true, recurses := true, plainKeys := false, apart := false, narrowed := true }
def ObjectPlaysUptoSaid : Prop := objectPlaysUptoRow.holds Tryz.pinned (OpenSpec.upto objectPlaysSpec)

/-- 'kraitlaw16.OperateSums', WHERE WHAT IT READS IS OF BULK AT MOST 1048576: true; the input reads as it did. -/
def operateSumsUptoRow : OpenClaim := { program := "ytjhfjllgjgnmeaagreat", sum := "0e6674763b5f4a93aa57b814d56cd173adda8272b21b09e321993de50b4626bd", func := "krait/kraitlaw16.OperateSums", spec := "operateSums", inPlace := ["internal/abi.NoEscape", "internal/bytealg.IndexByteString", "internal/bytealg.IndexString", "internal/bytealg.MakeNoZero"], unfollowed := true, recurses := true, named := ["internal/bytealg.MaxLen"], plainKeys := false, apart := false, narrowed := true }
def OperateSumsUptoSaid : Prop := operateSumsUptoRow.holds Tryz.pinned (OpenSpec.upto operateSumsSpec)

/-- 'kraitlaw16.OperateLimits', WHERE WHAT IT READS IS OF BULK AT MOST 1048576: true; the input reads as it did. -/
def operateLimitsUptoRow : OpenClaim := { program := "ytjhfjllgjgnmeaagreat", sum := "0e6674763b5f4a93aa57b814d56cd173adda8272b21b09e321993de50b4626bd", func := "krait/kraitlaw16.OperateLimits", spec := "operateLimits", inPlace := ["internal/abi.NoEscape", "internal/bytealg.IndexByteString", "internal/bytealg.IndexString", "internal/bytealg.MakeNoZero"], unfollowed := true, recurses := true, named := ["internal/bytealg.MaxLen"], plainKeys := false, apart := false, narrowed := true }
def OperateLimitsUptoSaid : Prop := operateLimitsUptoRow.holds Tryz.pinned (OpenSpec.upto operateLimitsSpec)

/-- 'kraitlaw16.OperateSlices', WHERE WHAT IT READS IS OF BULK AT MOST 1048576: true; the input reads as it did. -/
def operateSlicesUptoRow : OpenClaim := { program := "ytjhfjllgjgnmeaagreat", sum := "0e6674763b5f4a93aa57b814d56cd173adda8272b21b09e321993de50b4626bd", func := "krait/kraitlaw16.OperateSlices", spec := "operateSlices", inPlace := ["internal/abi.NoEscape", "internal/bytealg.IndexByteString", "internal/bytealg.IndexString", "internal/bytealg.MakeNoZero"], unfollowed := true, recurses := true, named := ["internal/bytealg.MaxLen"], plainKeys := false, apart := false, narrowed := true }
def OperateSlicesUptoSaid : Prop := operateSlicesUptoRow.holds Tryz.pinned (OpenSpec.upto operateSlicesSpec)

/-- 'kraitlaw16.OperateSame', WHERE WHAT IT READS IS OF BULK AT MOST 1048576: true; the input reads as it did. -/
def operateSameUptoRow : OpenClaim := { program := "ytjhfjllgjgnmeaagreat", sum := "0e6674763b5f4a93aa57b814d56cd173adda8272b21b09e321993de50b4626bd", func := "krait/kraitlaw16.OperateSame", spec := "operateSame", inPlace := ["internal/abi.NoEscape", "internal/bytealg.IndexByteString", "internal/bytealg.IndexString", "internal/bytealg.MakeNoZero"], unfollowed := true, recurses := true, named := ["internal/bytealg.MaxLen"], plainKeys := false, apart := false, narrowed := true }
def OperateSameUptoSaid : Prop := operateSameUptoRow.holds Tryz.pinned (OpenSpec.upto operateSameSpec)

/-- 'kraitlaw16.OperateIn', WHERE WHAT IT READS IS OF BULK AT MOST 1048576: true; the input reads as it did. -/
def operateInUptoRow : OpenClaim := { program := "ytjhfjllgjgnmeaagreat", sum := "0e6674763b5f4a93aa57b814d56cd173adda8272b21b09e321993de50b4626bd", func := "krait/kraitlaw16.OperateIn", spec := "operateIn", inPlace := ["internal/abi.NoEscape", "internal/bytealg.IndexByteString", "internal/bytealg.IndexString", "internal/bytealg.MakeNoZero"], unfollowed := true, recurses := true, named := ["internal/bytealg.MaxLen"], plainKeys := false, apart := false, narrowed := true }
def OperateInUptoSaid : Prop := operateInUptoRow.holds Tryz.pinned (OpenSpec.upto operateInSpec)

/-- 'kraitlaw16.OperateDeep', WHERE WHAT IT READS IS OF BULK AT MOST 1048576: true; the input reads as it did. -/
def operateDeepUptoRow : OpenClaim := { program := "ytjhfjllgjgnmeaagreat", sum := "0e6674763b5f4a93aa57b814d56cd173adda8272b21b09e321993de50b4626bd", func := "krait/kraitlaw16.OperateDeep", spec := "operateDeep", inPlace := ["internal/abi.NoEscape", "internal/bytealg.IndexByteString", "internal/bytealg.IndexString", "internal/bytealg.MakeNoZero"], unfollowed := true, recurses := true, named := ["internal/bytealg.MaxLen"], plainKeys := false, apart := false, narrowed := true }
def OperateDeepUptoSaid : Prop := operateDeepUptoRow.holds Tryz.pinned (OpenSpec.upto operateDeepSpec)

/-- 'kraitlaw16.OperateCmp', WHERE WHAT IT READS IS OF BULK AT MOST 1048576: true; the input reads as it did. -/
def operateCmpUptoRow : OpenClaim := { program := "ytjhfjllgjgnmeaagreat", sum := "0e6674763b5f4a93aa57b814d56cd173adda8272b21b09e321993de50b4626bd", func := "krait/kraitlaw16.OperateCmp", spec := "operateCmp", inPlace := ["internal/abi.NoEscape", "internal/bytealg.IndexByteString", "internal/bytealg.IndexString", "internal/bytealg.MakeNoZero"], unfollowed := true, recurses := true, named := ["internal/bytealg.MaxLen"], plainKeys := false, apart := false, narrowed := true }
def OperateCmpUptoSaid : Prop := operateCmpUptoRow.holds Tryz.pinned (OpenSpec.upto operateCmpSpec)

/-- 'kraitlaw16.OperateRepr', WHERE WHAT IT READS IS OF BULK AT MOST 1048576: true; the input reads as it did. -/
def operateReprUptoRow : OpenClaim := { program := "ytjhfjllgjgnmeaagreat", sum := "0e6674763b5f4a93aa57b814d56cd173adda8272b21b09e321993de50b4626bd", func := "krait/kraitlaw16.OperateRepr", spec := "operateRepr", inPlace := ["internal/abi.NoEscape", "internal/bytealg.IndexByteString", "internal/bytealg.IndexString", "internal/bytealg.MakeNoZero"], unfollowed := true, recurses := true, named := ["internal/bytealg.MaxLen"], plainKeys := false, apart := false, narrowed := true }
def OperateReprUptoSaid : Prop := operateReprUptoRow.holds Tryz.pinned (OpenSpec.upto operateReprSpec)

end Rows
end Go.Proofs.YtjhfjllgjgnmeaaGreat
