/-
  No cell of these rows narrows 'for every input' (looked for: loops, veiled, ifaces, maps, wideKeys, modest, calm, conditions, laid).
  DERIVED. THE GIVEN ROWS OF THIS SEAT. 4 by the template 'for every input the law returns true; each argument reads behind the call as it read before'; 0 by the template 'total and deterministic' (their statements: YtmbniilpgbjcfaaTotals.lean).
  GIVEN WITH THE SEED: the statements are not yours to turn. If you find one false, say at which input.
  Laid BY PROGRAM, IN A SANDBOX (cutbox-rows.mjs): the forced cells as the released guide's own fill.sh prints them over the translation cc77a08d01d64de1… (all of the seat's roots in one cut). By AI agents, Wed Nov 11 2026. No macro, syntax, notation, axiom, sorry.
-/
import Derived.Test.YtmbniilpgbjcfaaChecked
import GoSem.Claim
import GoSem.ClaimJoined
import GoSem.ClaimMapViews
import Derived.JoinedTies
import Derived.KernelRfl
namespace Go.Proofs.Ytmbniilpgbjcfaa
/- THE CELL 'sum', in the pinned program and in every row, IS THE sha256 OF THE DUMP (.gsa) THAT YtmbniilpgbjcfaaProg.lean LOADS. Nothing in Lean hashes anything: it is a label: what it is worth is what the hold of that sum in a sandbox is worth. -/
noncomputable def Try.pinned : Pinned := { name := "ytmbniilpgbjcfaa", sum := "cc77a08d01d64de16d53584c03ab4e94f8f5447d695f6f1bc4dc07eceb777a93", checked := Try.checked }
namespace Rows
def none {H : Type} : Left H := { results := [], args := [] }

/-- 'actorgridlaw10.AgreeStates': WHATEVER THE INPUT: true; the input reads as it did. -/
def agreeStatesSpec : ChangeSpec := { name := "agreeStates", fn := fun _ => fun
  | [d1, d2, d3, d4] => { results := [.lit (.bool true)], args := [d1, d2, d3, d4] }
  | _ => none }
def agreeStatesRow : OpenClaim := { program := "ytmbniilpgbjcfaa", sum := "cc77a08d01d64de16d53584c03ab4e94f8f5447d695f6f1bc4dc07eceb777a93", func := "actorgrid/actorgridlaw10.AgreeStates", spec := "agreeStates", apart := false }
def AgreeStatesSaid : Prop := agreeStatesRow.holds Try.pinned (OpenSpec.ofChange agreeStatesSpec)

/-- ITS FALSE NEIGHBOUR: 'it returns false'. Refute it at one input. -/
def agreeStatesWrong : ChangeSpec := { name := "agreeStates", fn := fun _ => fun
  | [d1, d2, d3, d4] => { results := [.lit (.bool false)], args := [d1, d2, d3, d4] }
  | _ => none }
def AgreeStatesWrongFalsely : Prop := agreeStatesRow.holds Try.pinned (OpenSpec.ofChange agreeStatesWrong)

/-- 'actorgridlaw10.AgreeClosed': WHATEVER THE INPUT: true; the input reads as it did. -/
def agreeClosedSpec : ChangeSpec := { name := "agreeClosed", fn := fun _ => fun
  | [d1, d2, d3] => { results := [.lit (.bool true)], args := [d1, d2, d3] }
  | _ => none }
def agreeClosedRow : OpenClaim := { program := "ytmbniilpgbjcfaa", sum := "cc77a08d01d64de16d53584c03ab4e94f8f5447d695f6f1bc4dc07eceb777a93", func := "actorgrid/actorgridlaw10.AgreeClosed", spec := "agreeClosed", apart := false }
def AgreeClosedSaid : Prop := agreeClosedRow.holds Try.pinned (OpenSpec.ofChange agreeClosedSpec)

/-- ITS FALSE NEIGHBOUR: 'it returns false'. Refute it at one input. -/
def agreeClosedWrong : ChangeSpec := { name := "agreeClosed", fn := fun _ => fun
  | [d1, d2, d3] => { results := [.lit (.bool false)], args := [d1, d2, d3] }
  | _ => none }
def AgreeClosedWrongFalsely : Prop := agreeClosedRow.holds Try.pinned (OpenSpec.ofChange agreeClosedWrong)

/-- 'actorgridlaw10.AgreeSafety': WHATEVER THE INPUT: true; the input reads as it did. -/
def agreeSafetySpec : ChangeSpec := { name := "agreeSafety", fn := fun _ => fun
  | [d1, d2] => { results := [.lit (.bool true)], args := [d1, d2] }
  | _ => none }
def agreeSafetyRow : OpenClaim := { program := "ytmbniilpgbjcfaa", sum := "cc77a08d01d64de16d53584c03ab4e94f8f5447d695f6f1bc4dc07eceb777a93", func := "actorgrid/actorgridlaw10.AgreeSafety", spec := "agreeSafety", apart := false }
def AgreeSafetySaid : Prop := agreeSafetyRow.holds Try.pinned (OpenSpec.ofChange agreeSafetySpec)

/-- ITS FALSE NEIGHBOUR: 'it returns false'. Refute it at one input. -/
def agreeSafetyWrong : ChangeSpec := { name := "agreeSafety", fn := fun _ => fun
  | [d1, d2] => { results := [.lit (.bool false)], args := [d1, d2] }
  | _ => none }
def AgreeSafetyWrongFalsely : Prop := agreeSafetyRow.holds Try.pinned (OpenSpec.ofChange agreeSafetyWrong)

/-- 'actorgridlaw10.AgreeEnds': WHATEVER THE INPUT: true; the input reads as it did. -/
def agreeEndsSpec : ChangeSpec := { name := "agreeEnds", fn := fun _ => fun
  | [d1, d2, d3] => { results := [.lit (.bool true)], args := [d1, d2, d3] }
  | _ => none }
def agreeEndsRow : OpenClaim := { program := "ytmbniilpgbjcfaa", sum := "cc77a08d01d64de16d53584c03ab4e94f8f5447d695f6f1bc4dc07eceb777a93", func := "actorgrid/actorgridlaw10.AgreeEnds", spec := "agreeEnds", apart := false }
def AgreeEndsSaid : Prop := agreeEndsRow.holds Try.pinned (OpenSpec.ofChange agreeEndsSpec)

/-- ITS FALSE NEIGHBOUR: 'it returns false'. Refute it at one input. -/
def agreeEndsWrong : ChangeSpec := { name := "agreeEnds", fn := fun _ => fun
  | [d1, d2, d3] => { results := [.lit (.bool false)], args := [d1, d2, d3] }
  | _ => none }
def AgreeEndsWrongFalsely : Prop := agreeEndsRow.holds Try.pinned (OpenSpec.ofChange agreeEndsWrong)

/- THE SECOND FORM. 'bulk': how many values and letters a reading holds, each counted each time it is reached (what is shared counts as often as it is met; a slice's spare places count too). A statement '..UptoSaid' is the law's where the arguments, and the package variables that the reading takes, are together of bulk at most 1048576: NARROWER than '..Said'. Prove '..Said' where nothing that the law and all that it calls make is longer than what came in: it says more and counts as full. Else prove '..UptoSaid'. A law counts once. -/
mutual
def uptoBulk {H : Type} : DataW H → Nat
  | .lit (.string bytes) => bytes.length + 1
  | .lit _ => 1
  | .nil => 1
  | .ptr d => uptoBulk d + 1
  | .slice elems spare => uptoBulkAll elems + uptoBulkAll spare + 1
  | .agg parts => uptoBulkAll parts + 1
  | .iface _ d => uptoBulk d + 1
  | .map entries => uptoBulkEntries entries + 1
  | .held _ => 1
def uptoBulkAll {H : Type} : List (DataW H) → Nat
  | [] => 0
  | d :: r => uptoBulk d + uptoBulkAll r
def uptoBulkEntries {H : Type} : List (Lit × DataW H) → Nat
  | [] => 0
  | x :: r => uptoBulkEntry x + uptoBulkEntries r
def uptoBulkEntry {H : Type} : Lit × DataW H → Nat
  | (.string bytes, d) => bytes.length + uptoBulk d + 1
  | (_, d) => uptoBulk d + 1
 end
def uptoSmall : (H : Type) → List (DataW H) → Bool := fun _ ds => decide (uptoBulkAll ds ≤ 1048576)
def OpenSpec.upto (s : _root_.Go.ChangeSpec) : _root_.Go.OpenSpec := { _root_.Go.OpenSpec.ofChange s with cond := some uptoSmall }

/-- 'actorgridlaw10.AgreeStates', WHERE WHAT IT READS IS OF BULK AT MOST 1048576: true; the input reads as it did. -/
def agreeStatesUptoRow : OpenClaim := { program := "ytmbniilpgbjcfaa", sum := "cc77a08d01d64de16d53584c03ab4e94f8f5447d695f6f1bc4dc07eceb777a93", func := "actorgrid/actorgridlaw10.AgreeStates", spec := "agreeStates", apart := false, narrowed := true }
def AgreeStatesUptoSaid : Prop := agreeStatesUptoRow.holds Try.pinned (OpenSpec.upto agreeStatesSpec)

/-- 'actorgridlaw10.AgreeClosed', WHERE WHAT IT READS IS OF BULK AT MOST 1048576: true; the input reads as it did. -/
def agreeClosedUptoRow : OpenClaim := { program := "ytmbniilpgbjcfaa", sum := "cc77a08d01d64de16d53584c03ab4e94f8f5447d695f6f1bc4dc07eceb777a93", func := "actorgrid/actorgridlaw10.AgreeClosed", spec := "agreeClosed", apart := false, narrowed := true }
def AgreeClosedUptoSaid : Prop := agreeClosedUptoRow.holds Try.pinned (OpenSpec.upto agreeClosedSpec)

/-- 'actorgridlaw10.AgreeSafety', WHERE WHAT IT READS IS OF BULK AT MOST 1048576: true; the input reads as it did. -/
def agreeSafetyUptoRow : OpenClaim := { program := "ytmbniilpgbjcfaa", sum := "cc77a08d01d64de16d53584c03ab4e94f8f5447d695f6f1bc4dc07eceb777a93", func := "actorgrid/actorgridlaw10.AgreeSafety", spec := "agreeSafety", apart := false, narrowed := true }
def AgreeSafetyUptoSaid : Prop := agreeSafetyUptoRow.holds Try.pinned (OpenSpec.upto agreeSafetySpec)

/-- 'actorgridlaw10.AgreeEnds', WHERE WHAT IT READS IS OF BULK AT MOST 1048576: true; the input reads as it did. -/
def agreeEndsUptoRow : OpenClaim := { program := "ytmbniilpgbjcfaa", sum := "cc77a08d01d64de16d53584c03ab4e94f8f5447d695f6f1bc4dc07eceb777a93", func := "actorgrid/actorgridlaw10.AgreeEnds", spec := "agreeEnds", apart := false, narrowed := true }
def AgreeEndsUptoSaid : Prop := agreeEndsUptoRow.holds Try.pinned (OpenSpec.upto agreeEndsSpec)

end Rows
end Go.Proofs.Ytmbniilpgbjcfaa
