/-
  No cell of these rows narrows 'for every input' (looked for: loops, veiled, ifaces, maps, wideKeys, modest, calm, conditions, laid).
  DERIVED. THE GIVEN ROWS OF THIS SEAT. 4 by the template 'for every input the law returns true; each argument reads behind the call as it read before'; 0 by the template 'total and deterministic' (their statements: YthdpjinchanceaaTotals.lean).
  GIVEN WITH THE SEED: the statements are not yours to turn. If you find one false, say at which input.
  Laid BY PROGRAM, IN A SANDBOX (cutbox-rows.mjs): the forced cells as the released guide's own fill.sh prints them over the translation 80e634e4c163ef10… (all of the seat's roots in one cut). By AI agents, Wed Nov 11 2026. No macro, syntax, notation, axiom, sorry.
-/
import Derived.Test.YthdpjinchanceaaChecked
import GoSem.Claim
import GoSem.ClaimJoined
import GoSem.ClaimMapViews
import Derived.JoinedTies
import Derived.KernelRfl
namespace Go.Proofs.Ythdpjinchanceaa
/- THE CELL 'sum', in the pinned program and in every row, IS THE sha256 OF THE DUMP (.gsa) THAT YthdpjinchanceaaProg.lean LOADS. Nothing in Lean hashes anything: it is a label: what it is worth is what the hold of that sum in a sandbox is worth. -/
noncomputable def Try.pinned : Pinned := { name := "ythdpjinchanceaa", sum := "80e634e4c163ef10660aebf2833b1489fa25a78186c26651c70817c047727b05", checked := Try.checked }
namespace Rows
def none {H : Type} : Left H := { results := [], args := [] }

/-- 'actorgridlaw14.DirOthers': WHATEVER THE INPUT: true; the input reads as it did. -/
def dirOthersSpec : ChangeSpec := { name := "dirOthers", fn := fun _ => fun
  | [d1, d2, d3, d4] => { results := [.lit (.bool true)], args := [d1, d2, d3, d4] }
  | _ => none }
def dirOthersRow : OpenClaim := { program := "ythdpjinchanceaa", sum := "80e634e4c163ef10660aebf2833b1489fa25a78186c26651c70817c047727b05", func := "actorgrid/actorgridlaw14.DirOthers", spec := "dirOthers", apart := false }
def DirOthersSaid : Prop := dirOthersRow.holds Try.pinned (OpenSpec.ofChange dirOthersSpec)

/-- ITS FALSE NEIGHBOUR: 'it returns false'. Refute it at one input. -/
def dirOthersWrong : ChangeSpec := { name := "dirOthers", fn := fun _ => fun
  | [d1, d2, d3, d4] => { results := [.lit (.bool false)], args := [d1, d2, d3, d4] }
  | _ => none }
def DirOthersWrongFalsely : Prop := dirOthersRow.holds Try.pinned (OpenSpec.ofChange dirOthersWrong)

/-- 'actorgridlaw14.DirSingle': WHATEVER THE INPUT: true; the input reads as it did. -/
def dirSingleSpec : ChangeSpec := { name := "dirSingle", fn := fun _ => fun
  | [d1, d2] => { results := [.lit (.bool true)], args := [d1, d2] }
  | _ => none }
def dirSingleRow : OpenClaim := { program := "ythdpjinchanceaa", sum := "80e634e4c163ef10660aebf2833b1489fa25a78186c26651c70817c047727b05", func := "actorgrid/actorgridlaw14.DirSingle", spec := "dirSingle", apart := false }
def DirSingleSaid : Prop := dirSingleRow.holds Try.pinned (OpenSpec.ofChange dirSingleSpec)

/-- ITS FALSE NEIGHBOUR: 'it returns false'. Refute it at one input. -/
def dirSingleWrong : ChangeSpec := { name := "dirSingle", fn := fun _ => fun
  | [d1, d2] => { results := [.lit (.bool false)], args := [d1, d2] }
  | _ => none }
def DirSingleWrongFalsely : Prop := dirSingleRow.holds Try.pinned (OpenSpec.ofChange dirSingleWrong)

/-- 'actorgridlaw14.DirVacant': WHATEVER THE INPUT: true; the input reads as it did. -/
def dirVacantSpec : ChangeSpec := { name := "dirVacant", fn := fun _ => fun
  | [d1, d2] => { results := [.lit (.bool true)], args := [d1, d2] }
  | _ => none }
def dirVacantRow : OpenClaim := { program := "ythdpjinchanceaa", sum := "80e634e4c163ef10660aebf2833b1489fa25a78186c26651c70817c047727b05", func := "actorgrid/actorgridlaw14.DirVacant", spec := "dirVacant", apart := false }
def DirVacantSaid : Prop := dirVacantRow.holds Try.pinned (OpenSpec.ofChange dirVacantSpec)

/-- ITS FALSE NEIGHBOUR: 'it returns false'. Refute it at one input. -/
def dirVacantWrong : ChangeSpec := { name := "dirVacant", fn := fun _ => fun
  | [d1, d2] => { results := [.lit (.bool false)], args := [d1, d2] }
  | _ => none }
def DirVacantWrongFalsely : Prop := dirVacantRow.holds Try.pinned (OpenSpec.ofChange dirVacantWrong)

/-- 'actorgridlaw14.DirFences': WHATEVER THE INPUT: true; the input reads as it did. -/
def dirFencesSpec : ChangeSpec := { name := "dirFences", fn := fun _ => fun
  | [d1, d2, d3, d4, d5] => { results := [.lit (.bool true)], args := [d1, d2, d3, d4, d5] }
  | _ => none }
def dirFencesRow : OpenClaim := { program := "ythdpjinchanceaa", sum := "80e634e4c163ef10660aebf2833b1489fa25a78186c26651c70817c047727b05", func := "actorgrid/actorgridlaw14.DirFences", spec := "dirFences", unfollowed := true, recurses := true, apart := false }
def DirFencesSaid : Prop := dirFencesRow.holds Try.pinned (OpenSpec.ofChange dirFencesSpec)

/-- ITS FALSE NEIGHBOUR: 'it returns false'. Refute it at one input. -/
def dirFencesWrong : ChangeSpec := { name := "dirFences", fn := fun _ => fun
  | [d1, d2, d3, d4, d5] => { results := [.lit (.bool false)], args := [d1, d2, d3, d4, d5] }
  | _ => none }
def DirFencesWrongFalsely : Prop := dirFencesRow.holds Try.pinned (OpenSpec.ofChange dirFencesWrong)

/- THE SECOND FORM. 'bulk': how many values and letters a reading holds, each counted each time it is reached (what is shared counts as often as it is met; a slice's spare places count too). A statement '..UptoSaid' is the law's where the arguments, and the package variables that the reading takes, are together of bulk at most 1048576: NARROWER than '..Said'. Prove '..Said' where nothing that the law and all that it calls make is longer than what came in: it says more and counts as full. Else prove '..UptoSaid'. A law counts once. -/
mutual
def uptoBulk {H : Type} : DataW H → Nat
  | .lit (.string bytes) => bytes.length + 1
  | .lit _ => 1
  | .nil => 1
  | .ptr d => uptoBulk d + 1
  | .slice elems spare => uptoBulkAll elems + uptoBulkAll spare + 1
  | .agg parts => uptoBulkAll parts + 1
  | .iface _ d => uptoBulk d + 1
  | .map entries => uptoBulkEntries entries + 1
  | .held _ => 1
def uptoBulkAll {H : Type} : List (DataW H) → Nat
  | [] => 0
  | d :: r => uptoBulk d + uptoBulkAll r
def uptoBulkEntries {H : Type} : List (Lit × DataW H) → Nat
  | [] => 0
  | x :: r => uptoBulkEntry x + uptoBulkEntries r
def uptoBulkEntry {H : Type} : Lit × DataW H → Nat
  | (.string bytes, d) => bytes.length + uptoBulk d + 1
  | (_, d) => uptoBulk d + 1
 end
def uptoSmall : (H : Type) → List (DataW H) → Bool := fun _ ds => decide (uptoBulkAll ds ≤ 1048576)
def OpenSpec.upto (s : _root_.Go.ChangeSpec) : _root_.Go.OpenSpec := { _root_.Go.OpenSpec.ofChange s with cond := some uptoSmall }

/-- 'actorgridlaw14.DirOthers', WHERE WHAT IT READS IS OF BULK AT MOST 1048576: true; the input reads as it did. -/
def dirOthersUptoRow : OpenClaim := { program := "ythdpjinchanceaa", sum := "80e634e4c163ef10660aebf2833b1489fa25a78186c26651c70817c047727b05", func := "actorgrid/actorgridlaw14.DirOthers", spec := "dirOthers", apart := false, narrowed := true }
def DirOthersUptoSaid : Prop := dirOthersUptoRow.holds Try.pinned (OpenSpec.upto dirOthersSpec)

/-- 'actorgridlaw14.DirSingle', WHERE WHAT IT READS IS OF BULK AT MOST 1048576: true; the input reads as it did. -/
def dirSingleUptoRow : OpenClaim := { program := "ythdpjinchanceaa", sum := "80e634e4c163ef10660aebf2833b1489fa25a78186c26651c70817c047727b05", func := "actorgrid/actorgridlaw14.DirSingle", spec := "dirSingle", apart := false, narrowed := true }
def DirSingleUptoSaid : Prop := dirSingleUptoRow.holds Try.pinned (OpenSpec.upto dirSingleSpec)

/-- 'actorgridlaw14.DirVacant', WHERE WHAT IT READS IS OF BULK AT MOST 1048576: true; the input reads as it did. -/
def dirVacantUptoRow : OpenClaim := { program := "ythdpjinchanceaa", sum := "80e634e4c163ef10660aebf2833b1489fa25a78186c26651c70817c047727b05", func := "actorgrid/actorgridlaw14.DirVacant", spec := "dirVacant", apart := false, narrowed := true }
def DirVacantUptoSaid : Prop := dirVacantUptoRow.holds Try.pinned (OpenSpec.upto dirVacantSpec)

/-- 'actorgridlaw14.DirFences', WHERE WHAT IT READS IS OF BULK AT MOST 1048576: true; the input reads as it did. -/
def dirFencesUptoRow : OpenClaim := { program := "ythdpjinchanceaa", sum := "80e634e4c163ef10660aebf2833b1489fa25a78186c26651c70817c047727b05", func := "actorgrid/actorgridlaw14.DirFences", spec := "dirFences", unfollowed := true, recurses := true, apart := false, narrowed := true }
def DirFencesUptoSaid : Prop := dirFencesUptoRow.holds Try.pinned (OpenSpec.upto dirFencesSpec)

end Rows
end Go.Proofs.Ythdpjinchanceaa
