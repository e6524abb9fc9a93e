/-
  No cell of these rows narrows 'for every input' (looked for: loops, veiled, ifaces, maps, wideKeys, modest, calm, conditions, laid).
  DERIVED. THE GIVEN ROWS OF THIS SEAT. 3 by the template 'for every input the law returns true; each argument reads behind the call as it read before'; 0 by the template 'total and deterministic' (their statements: YtejmeihfdddnmaaTotals.lean).
  GIVEN WITH THE SEED: the statements are not yours to turn. If you find one false, say at which input.
  Laid BY PROGRAM, IN A SANDBOX (cutbox-rows.mjs): the forced cells as the released guide's own fill.sh prints them over the translation 9ff00ee6de8d8411… (all of the seat's roots in one cut). By AI agents, Wed Nov 11 2026. No macro, syntax, notation, axiom, sorry.
-/
import Derived.Test.YtejmeihfdddnmaaChecked
import GoSem.Claim
import GoSem.ClaimJoined
import GoSem.ClaimMapViews
import Derived.JoinedTies
import Derived.KernelRfl
namespace Go.Proofs.Ytejmeihfdddnmaa
/- THE CELL 'sum', in the pinned program and in every row, IS THE sha256 OF THE DUMP (.gsa) THAT YtejmeihfdddnmaaProg.lean LOADS. Nothing in Lean hashes anything: it is a label: what it is worth is what the hold of that sum in a sandbox is worth. -/
noncomputable def Try.pinned : Pinned := { name := "ytejmeihfdddnmaa", sum := "9ff00ee6de8d8411ebcff8fc73b3ebed68dbec87da65bdf2ad9f422f61de76bd", checked := Try.checked }
namespace Rows
def none {H : Type} : Left H := { results := [], args := [] }

/-- 'actorgridlaw13.RingJoins': WHATEVER THE INPUT: true; the input reads as it did. -/
def ringJoinsSpec : ChangeSpec := { name := "ringJoins", fn := fun _ => fun
  | [d1, d2, d3] => { results := [.lit (.bool true)], args := [d1, d2, d3] }
  | _ => none }
def ringJoinsRow : OpenClaim := { program := "ytejmeihfdddnmaa", sum := "9ff00ee6de8d8411ebcff8fc73b3ebed68dbec87da65bdf2ad9f422f61de76bd", func := "actorgrid/actorgridlaw13.RingJoins", spec := "ringJoins", unfollowed := true, recurses := true, apart := false }
def RingJoinsSaid : Prop := ringJoinsRow.holds Try.pinned (OpenSpec.ofChange ringJoinsSpec)

/-- ITS FALSE NEIGHBOUR: 'it returns false'. Refute it at one input. -/
def ringJoinsWrong : ChangeSpec := { name := "ringJoins", fn := fun _ => fun
  | [d1, d2, d3] => { results := [.lit (.bool false)], args := [d1, d2, d3] }
  | _ => none }
def RingJoinsWrongFalsely : Prop := ringJoinsRow.holds Try.pinned (OpenSpec.ofChange ringJoinsWrong)

/-- 'actorgridlaw13.RingLeaves': WHATEVER THE INPUT: true; the input reads as it did. -/
def ringLeavesSpec : ChangeSpec := { name := "ringLeaves", fn := fun _ => fun
  | [d1, d2, d3] => { results := [.lit (.bool true)], args := [d1, d2, d3] }
  | _ => none }
def ringLeavesRow : OpenClaim := { program := "ytejmeihfdddnmaa", sum := "9ff00ee6de8d8411ebcff8fc73b3ebed68dbec87da65bdf2ad9f422f61de76bd", func := "actorgrid/actorgridlaw13.RingLeaves", spec := "ringLeaves", unfollowed := true, recurses := true, apart := false }
def RingLeavesSaid : Prop := ringLeavesRow.holds Try.pinned (OpenSpec.ofChange ringLeavesSpec)

/-- ITS FALSE NEIGHBOUR: 'it returns false'. Refute it at one input. -/
def ringLeavesWrong : ChangeSpec := { name := "ringLeaves", fn := fun _ => fun
  | [d1, d2, d3] => { results := [.lit (.bool false)], args := [d1, d2, d3] }
  | _ => none }
def RingLeavesWrongFalsely : Prop := ringLeavesRow.holds Try.pinned (OpenSpec.ofChange ringLeavesWrong)

/-- 'actorgridlaw13.RingWhole': WHATEVER THE INPUT: true; the input reads as it did. -/
def ringWholeSpec : ChangeSpec := { name := "ringWhole", fn := fun _ => fun
  | [d1, d2, d3, d4] => { results := [.lit (.bool true)], args := [d1, d2, d3, d4] }
  | _ => none }
def ringWholeRow : OpenClaim := { program := "ytejmeihfdddnmaa", sum := "9ff00ee6de8d8411ebcff8fc73b3ebed68dbec87da65bdf2ad9f422f61de76bd", func := "actorgrid/actorgridlaw13.RingWhole", spec := "ringWhole", unfollowed := true, recurses := true, apart := false }
def RingWholeSaid : Prop := ringWholeRow.holds Try.pinned (OpenSpec.ofChange ringWholeSpec)

/-- ITS FALSE NEIGHBOUR: 'it returns false'. Refute it at one input. -/
def ringWholeWrong : ChangeSpec := { name := "ringWhole", fn := fun _ => fun
  | [d1, d2, d3, d4] => { results := [.lit (.bool false)], args := [d1, d2, d3, d4] }
  | _ => none }
def RingWholeWrongFalsely : Prop := ringWholeRow.holds Try.pinned (OpenSpec.ofChange ringWholeWrong)

/- THE SECOND FORM. 'bulk': how many values and letters a reading holds, each counted each time it is reached (what is shared counts as often as it is met; a slice's spare places count too). A statement '..UptoSaid' is the law's where the arguments, and the package variables that the reading takes, are together of bulk at most 1048576: NARROWER than '..Said'. Prove '..Said' where nothing that the law and all that it calls make is longer than what came in: it says more and counts as full. Else prove '..UptoSaid'. A law counts once. -/
mutual
def uptoBulk {H : Type} : DataW H → Nat
  | .lit (.string bytes) => bytes.length + 1
  | .lit _ => 1
  | .nil => 1
  | .ptr d => uptoBulk d + 1
  | .slice elems spare => uptoBulkAll elems + uptoBulkAll spare + 1
  | .agg parts => uptoBulkAll parts + 1
  | .iface _ d => uptoBulk d + 1
  | .map entries => uptoBulkEntries entries + 1
  | .held _ => 1
def uptoBulkAll {H : Type} : List (DataW H) → Nat
  | [] => 0
  | d :: r => uptoBulk d + uptoBulkAll r
def uptoBulkEntries {H : Type} : List (Lit × DataW H) → Nat
  | [] => 0
  | x :: r => uptoBulkEntry x + uptoBulkEntries r
def uptoBulkEntry {H : Type} : Lit × DataW H → Nat
  | (.string bytes, d) => bytes.length + uptoBulk d + 1
  | (_, d) => uptoBulk d + 1
 end
def uptoSmall : (H : Type) → List (DataW H) → Bool := fun _ ds => decide (uptoBulkAll ds ≤ 1048576)
def OpenSpec.upto (s : _root_.Go.ChangeSpec) : _root_.Go.OpenSpec := { _root_.Go.OpenSpec.ofChange s with cond := some uptoSmall }

/-- 'actorgridlaw13.RingJoins', WHERE WHAT IT READS IS OF BULK AT MOST 1048576: true; the input reads as it did. -/
def ringJoinsUptoRow : OpenClaim := { program := "ytejmeihfdddnmaa", sum := "9ff00ee6de8d8411ebcff8fc73b3ebed68dbec87da65bdf2ad9f422f61de76bd", func := "actorgrid/actorgridlaw13.RingJoins", spec := "ringJoins", unfollowed := true, recurses := true, apart := false, narrowed := true }
def RingJoinsUptoSaid : Prop := ringJoinsUptoRow.holds Try.pinned (OpenSpec.upto ringJoinsSpec)

/-- 'actorgridlaw13.RingLeaves', WHERE WHAT IT READS IS OF BULK AT MOST 1048576: true; the input reads as it did. -/
def ringLeavesUptoRow : OpenClaim := { program := "ytejmeihfdddnmaa", sum := "9ff00ee6de8d8411ebcff8fc73b3ebed68dbec87da65bdf2ad9f422f61de76bd", func := "actorgrid/actorgridlaw13.RingLeaves", spec := "ringLeaves", unfollowed := true, recurses := true, apart := false, narrowed := true }
def RingLeavesUptoSaid : Prop := ringLeavesUptoRow.holds Try.pinned (OpenSpec.upto ringLeavesSpec)

/-- 'actorgridlaw13.RingWhole', WHERE WHAT IT READS IS OF BULK AT MOST 1048576: true; the input reads as it did. -/
def ringWholeUptoRow : OpenClaim := { program := "ytejmeihfdddnmaa", sum := "9ff00ee6de8d8411ebcff8fc73b3ebed68dbec87da65bdf2ad9f422f61de76bd", func := "actorgrid/actorgridlaw13.RingWhole", spec := "ringWhole", unfollowed := true, recurses := true, apart := false, narrowed := true }
def RingWholeUptoSaid : Prop := ringWholeUptoRow.holds Try.pinned (OpenSpec.upto ringWholeSpec)

end Rows
end Go.Proofs.Ytejmeihfdddnmaa
