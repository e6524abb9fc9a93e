/-
  No cell of these rows narrows 'for every input' (looked for: loops, veiled, ifaces, maps, wideKeys, modest, calm, conditions, laid).
  DERIVED. THE GIVEN ROWS OF THIS SEAT. 6 by the template 'for every input the law returns true; each argument reads behind the call as it read before'; 0 by the template 'total and deterministic' (their statements: YtpipaadjokdgoaaTotals.lean).
  GIVEN WITH THE SEED: the statements are not yours to turn. If you find one false, say at which input.
  Laid BY PROGRAM, IN A SANDBOX (cutbox-rows.mjs): the forced cells as the released guide's own fill.sh prints them over the translation 4ec3a13f88604324… (all of the seat's roots in one cut). By AI agents, Wed Nov 11 2026. No macro, syntax, notation, axiom, sorry.
-/
import Derived.Test.YtpipaadjokdgoaaChecked
import GoSem.Claim
import GoSem.ClaimJoined
import GoSem.ClaimMapViews
import Derived.JoinedTies
import Derived.KernelRfl
namespace Go.Proofs.Ytpipaadjokdgoaa
/- THE CELL 'sum', in the pinned program and in every row, IS THE sha256 OF THE DUMP (.gsa) THAT YtpipaadjokdgoaaProg.lean LOADS. Nothing in Lean hashes anything: it is a label: what it is worth is what the hold of that sum in a sandbox is worth. -/
noncomputable def Try.pinned : Pinned := { name := "ytpipaadjokdgoaa", sum := "4ec3a13f886043242e29c3efb6d2e7adafe2f9e4f8e3fb453ca9569557092b84", checked := Try.checked }
namespace Rows
def none {H : Type} : Left H := { results := [], args := [] }

/-- 'actorgridlaw7.CutTells': WHATEVER THE INPUT: true; the input reads as it did. -/
def cutTellsSpec : ChangeSpec := { name := "cutTells", fn := fun _ => fun
  | [d1, d2] => { results := [.lit (.bool true)], args := [d1, d2] }
  | _ => none }
def cutTellsRow : OpenClaim := { program := "ytpipaadjokdgoaa", sum := "4ec3a13f886043242e29c3efb6d2e7adafe2f9e4f8e3fb453ca9569557092b84", func := "actorgrid/actorgridlaw7.CutTells", spec := "cutTells", unfollowed := true, recurses := true, apart := false }
def CutTellsSaid : Prop := cutTellsRow.holds Try.pinned (OpenSpec.ofChange cutTellsSpec)

/-- ITS FALSE NEIGHBOUR: 'it returns false'. Refute it at one input. -/
def cutTellsWrong : ChangeSpec := { name := "cutTells", fn := fun _ => fun
  | [d1, d2] => { results := [.lit (.bool false)], args := [d1, d2] }
  | _ => none }
def CutTellsWrongFalsely : Prop := cutTellsRow.holds Try.pinned (OpenSpec.ofChange cutTellsWrong)

/-- 'actorgridlaw7.CutHolds': WHATEVER THE INPUT: true; the input reads as it did. -/
def cutHoldsSpec : ChangeSpec := { name := "cutHolds", fn := fun _ => fun
  | [d1, d2] => { results := [.lit (.bool true)], args := [d1, d2] }
  | _ => none }
def cutHoldsRow : OpenClaim := { program := "ytpipaadjokdgoaa", sum := "4ec3a13f886043242e29c3efb6d2e7adafe2f9e4f8e3fb453ca9569557092b84", func := "actorgrid/actorgridlaw7.CutHolds", spec := "cutHolds", unfollowed := true, recurses := true, apart := false }
def CutHoldsSaid : Prop := cutHoldsRow.holds Try.pinned (OpenSpec.ofChange cutHoldsSpec)

/-- ITS FALSE NEIGHBOUR: 'it returns false'. Refute it at one input. -/
def cutHoldsWrong : ChangeSpec := { name := "cutHolds", fn := fun _ => fun
  | [d1, d2] => { results := [.lit (.bool false)], args := [d1, d2] }
  | _ => none }
def CutHoldsWrongFalsely : Prop := cutHoldsRow.holds Try.pinned (OpenSpec.ofChange cutHoldsWrong)

/-- 'actorgridlaw7.CutCrash': WHATEVER THE INPUT: true; the input reads as it did. -/
def cutCrashSpec : ChangeSpec := { name := "cutCrash", fn := fun _ => fun
  | [d1, d2] => { results := [.lit (.bool true)], args := [d1, d2] }
  | _ => none }
def cutCrashRow : OpenClaim := { program := "ytpipaadjokdgoaa", sum := "4ec3a13f886043242e29c3efb6d2e7adafe2f9e4f8e3fb453ca9569557092b84", func := "actorgrid/actorgridlaw7.CutCrash", spec := "cutCrash", unfollowed := true, recurses := true, apart := false }
def CutCrashSaid : Prop := cutCrashRow.holds Try.pinned (OpenSpec.ofChange cutCrashSpec)

/-- ITS FALSE NEIGHBOUR: 'it returns false'. Refute it at one input. -/
def cutCrashWrong : ChangeSpec := { name := "cutCrash", fn := fun _ => fun
  | [d1, d2] => { results := [.lit (.bool false)], args := [d1, d2] }
  | _ => none }
def CutCrashWrongFalsely : Prop := cutCrashRow.holds Try.pinned (OpenSpec.ofChange cutCrashWrong)

/-- 'actorgridlaw7.CutNoise': WHATEVER THE INPUT: true; the input reads as it did. -/
def cutNoiseSpec : ChangeSpec := { name := "cutNoise", fn := fun _ => fun
  | [d1, d2, d3] => { results := [.lit (.bool true)], args := [d1, d2, d3] }
  | _ => none }
def cutNoiseRow : OpenClaim := { program := "ytpipaadjokdgoaa", sum := "4ec3a13f886043242e29c3efb6d2e7adafe2f9e4f8e3fb453ca9569557092b84", func := "actorgrid/actorgridlaw7.CutNoise", spec := "cutNoise", unfollowed := true, recurses := true, apart := false }
def CutNoiseSaid : Prop := cutNoiseRow.holds Try.pinned (OpenSpec.ofChange cutNoiseSpec)

/-- ITS FALSE NEIGHBOUR: 'it returns false'. Refute it at one input. -/
def cutNoiseWrong : ChangeSpec := { name := "cutNoise", fn := fun _ => fun
  | [d1, d2, d3] => { results := [.lit (.bool false)], args := [d1, d2, d3] }
  | _ => none }
def CutNoiseWrongFalsely : Prop := cutNoiseRow.holds Try.pinned (OpenSpec.ofChange cutNoiseWrong)

/-- 'actorgridlaw7.CutFull': WHATEVER THE INPUT: true; the input reads as it did. -/
def cutFullSpec : ChangeSpec := { name := "cutFull", fn := fun _ => fun
  | [d1, d2] => { results := [.lit (.bool true)], args := [d1, d2] }
  | _ => none }
def cutFullRow : OpenClaim := { program := "ytpipaadjokdgoaa", sum := "4ec3a13f886043242e29c3efb6d2e7adafe2f9e4f8e3fb453ca9569557092b84", func := "actorgrid/actorgridlaw7.CutFull", spec := "cutFull", unfollowed := true, recurses := true, apart := false }
def CutFullSaid : Prop := cutFullRow.holds Try.pinned (OpenSpec.ofChange cutFullSpec)

/-- ITS FALSE NEIGHBOUR: 'it returns false'. Refute it at one input. -/
def cutFullWrong : ChangeSpec := { name := "cutFull", fn := fun _ => fun
  | [d1, d2] => { results := [.lit (.bool false)], args := [d1, d2] }
  | _ => none }
def CutFullWrongFalsely : Prop := cutFullRow.holds Try.pinned (OpenSpec.ofChange cutFullWrong)

/-- 'actorgridlaw7.CutGrows': WHATEVER THE INPUT: true; the input reads as it did. -/
def cutGrowsSpec : ChangeSpec := { name := "cutGrows", fn := fun _ => fun
  | [d1, d2, d3] => { results := [.lit (.bool true)], args := [d1, d2, d3] }
  | _ => none }
def cutGrowsRow : OpenClaim := { program := "ytpipaadjokdgoaa", sum := "4ec3a13f886043242e29c3efb6d2e7adafe2f9e4f8e3fb453ca9569557092b84", func := "actorgrid/actorgridlaw7.CutGrows", spec := "cutGrows", unfollowed := true, recurses := true, apart := false }
def CutGrowsSaid : Prop := cutGrowsRow.holds Try.pinned (OpenSpec.ofChange cutGrowsSpec)

/-- ITS FALSE NEIGHBOUR: 'it returns false'. Refute it at one input. -/
def cutGrowsWrong : ChangeSpec := { name := "cutGrows", fn := fun _ => fun
  | [d1, d2, d3] => { results := [.lit (.bool false)], args := [d1, d2, d3] }
  | _ => none }
def CutGrowsWrongFalsely : Prop := cutGrowsRow.holds Try.pinned (OpenSpec.ofChange cutGrowsWrong)

/- THE SECOND FORM. 'bulk': how many values and letters a reading holds, each counted each time it is reached (what is shared counts as often as it is met; a slice's spare places count too). A statement '..UptoSaid' is the law's where the arguments, and the package variables that the reading takes, are together of bulk at most 1048576: NARROWER than '..Said'. Prove '..Said' where nothing that the law and all that it calls make is longer than what came in: it says more and counts as full. Else prove '..UptoSaid'. A law counts once. -/
mutual
def uptoBulk {H : Type} : DataW H → Nat
  | .lit (.string bytes) => bytes.length + 1
  | .lit _ => 1
  | .nil => 1
  | .ptr d => uptoBulk d + 1
  | .slice elems spare => uptoBulkAll elems + uptoBulkAll spare + 1
  | .agg parts => uptoBulkAll parts + 1
  | .iface _ d => uptoBulk d + 1
  | .map entries => uptoBulkEntries entries + 1
  | .held _ => 1
def uptoBulkAll {H : Type} : List (DataW H) → Nat
  | [] => 0
  | d :: r => uptoBulk d + uptoBulkAll r
def uptoBulkEntries {H : Type} : List (Lit × DataW H) → Nat
  | [] => 0
  | x :: r => uptoBulkEntry x + uptoBulkEntries r
def uptoBulkEntry {H : Type} : Lit × DataW H → Nat
  | (.string bytes, d) => bytes.length + uptoBulk d + 1
  | (_, d) => uptoBulk d + 1
 end
def uptoSmall : (H : Type) → List (DataW H) → Bool := fun _ ds => decide (uptoBulkAll ds ≤ 1048576)
def OpenSpec.upto (s : _root_.Go.ChangeSpec) : _root_.Go.OpenSpec := { _root_.Go.OpenSpec.ofChange s with cond := some uptoSmall }

/-- 'actorgridlaw7.CutTells', WHERE WHAT IT READS IS OF BULK AT MOST 1048576: true; the input reads as it did. -/
def cutTellsUptoRow : OpenClaim := { program := "ytpipaadjokdgoaa", sum := "4ec3a13f886043242e29c3efb6d2e7adafe2f9e4f8e3fb453ca9569557092b84", func := "actorgrid/actorgridlaw7.CutTells", spec := "cutTells", unfollowed := true, recurses := true, apart := false, narrowed := true }
def CutTellsUptoSaid : Prop := cutTellsUptoRow.holds Try.pinned (OpenSpec.upto cutTellsSpec)

/-- 'actorgridlaw7.CutHolds', WHERE WHAT IT READS IS OF BULK AT MOST 1048576: true; the input reads as it did. -/
def cutHoldsUptoRow : OpenClaim := { program := "ytpipaadjokdgoaa", sum := "4ec3a13f886043242e29c3efb6d2e7adafe2f9e4f8e3fb453ca9569557092b84", func := "actorgrid/actorgridlaw7.CutHolds", spec := "cutHolds", unfollowed := true, recurses := true, apart := false, narrowed := true }
def CutHoldsUptoSaid : Prop := cutHoldsUptoRow.holds Try.pinned (OpenSpec.upto cutHoldsSpec)

/-- 'actorgridlaw7.CutCrash', WHERE WHAT IT READS IS OF BULK AT MOST 1048576: true; the input reads as it did. -/
def cutCrashUptoRow : OpenClaim := { program := "ytpipaadjokdgoaa", sum := "4ec3a13f886043242e29c3efb6d2e7adafe2f9e4f8e3fb453ca9569557092b84", func := "actorgrid/actorgridlaw7.CutCrash", spec := "cutCrash", unfollowed := true, recurses := true, apart := false, narrowed := true }
def CutCrashUptoSaid : Prop := cutCrashUptoRow.holds Try.pinned (OpenSpec.upto cutCrashSpec)

/-- 'actorgridlaw7.CutNoise', WHERE WHAT IT READS IS OF BULK AT MOST 1048576: true; the input reads as it did. -/
def cutNoiseUptoRow : OpenClaim := { program := "ytpipaadjokdgoaa", sum := "4ec3a13f886043242e29c3efb6d2e7adafe2f9e4f8e3fb453ca9569557092b84", func := "actorgrid/actorgridlaw7.CutNoise", spec := "cutNoise", unfollowed := true, recurses := true, apart := false, narrowed := true }
def CutNoiseUptoSaid : Prop := cutNoiseUptoRow.holds Try.pinned (OpenSpec.upto cutNoiseSpec)

/-- 'actorgridlaw7.CutFull', WHERE WHAT IT READS IS OF BULK AT MOST 1048576: true; the input reads as it did. -/
def cutFullUptoRow : OpenClaim := { program := "ytpipaadjokdgoaa", sum := "4ec3a13f886043242e29c3efb6d2e7adafe2f9e4f8e3fb453ca9569557092b84", func := "actorgrid/actorgridlaw7.CutFull", spec := "cutFull", unfollowed := true, recurses := true, apart := false, narrowed := true }
def CutFullUptoSaid : Prop := cutFullUptoRow.holds Try.pinned (OpenSpec.upto cutFullSpec)

/-- 'actorgridlaw7.CutGrows', WHERE WHAT IT READS IS OF BULK AT MOST 1048576: true; the input reads as it did. -/
def cutGrowsUptoRow : OpenClaim := { program := "ytpipaadjokdgoaa", sum := "4ec3a13f886043242e29c3efb6d2e7adafe2f9e4f8e3fb453ca9569557092b84", func := "actorgrid/actorgridlaw7.CutGrows", spec := "cutGrows", unfollowed := true, recurses := true, apart := false, narrowed := true }
def CutGrowsUptoSaid : Prop := cutGrowsUptoRow.holds Try.pinned (OpenSpec.upto cutGrowsSpec)

end Rows
end Go.Proofs.Ytpipaadjokdgoaa
