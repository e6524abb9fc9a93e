/-
  No cell of these rows narrows 'for every input' (looked for: loops, veiled, ifaces, maps, wideKeys, modest, calm, conditions, laid).
  DERIVED. THE GIVEN ROWS OF THIS SEAT. 3 by the template 'for every input the law returns true; each argument reads behind the call as it read before'; 0 by the template 'total and deterministic' (their statements: YthcclghmeighlaaTotals.lean).
  GIVEN WITH THE SEED: the statements are not yours to turn. If you find one false, say at which input.
  Laid BY PROGRAM, IN A SANDBOX (cutbox-rows.mjs): the forced cells as the released guide's own fill.sh prints them over the translation f3a7f4c213cbd11e… (all of the seat's roots in one cut). By AI agents, Wed Nov 11 2026. No macro, syntax, notation, axiom, sorry.
-/
import Derived.Test.YthcclghmeighlaaChecked
import GoSem.Claim
import GoSem.ClaimJoined
import GoSem.ClaimMapViews
import Derived.JoinedTies
import Derived.KernelRfl
namespace Go.Proofs.Ythcclghmeighlaa
/- THE CELL 'sum', in the pinned program and in every row, IS THE sha256 OF THE DUMP (.gsa) THAT YthcclghmeighlaaProg.lean LOADS. Nothing in Lean hashes anything: it is a label: what it is worth is what the hold of that sum in a sandbox is worth. -/
noncomputable def Try.pinned : Pinned := { name := "ythcclghmeighlaa", sum := "f3a7f4c213cbd11ea8baac591e6353a9c561ca2cf29e0b780bc7d2fe6d434fc0", checked := Try.checked }
namespace Rows
def none {H : Type} : Left H := { results := [], args := [] }

/-- 'actorgridlaw15.RouteTells': WHATEVER THE INPUT: true; the input reads as it did. -/
def routeTellsSpec : ChangeSpec := { name := "routeTells", fn := fun _ => fun
  | [d1, d2, d3, d4, d5, d6] => { results := [.lit (.bool true)], args := [d1, d2, d3, d4, d5, d6] }
  | _ => none }
def routeTellsRow : OpenClaim := { program := "ythcclghmeighlaa", sum := "f3a7f4c213cbd11ea8baac591e6353a9c561ca2cf29e0b780bc7d2fe6d434fc0", func := "actorgrid/actorgridlaw15.RouteTells", spec := "routeTells", unfollowed := true, recurses := true, apart := false }
def RouteTellsSaid : Prop := routeTellsRow.holds Try.pinned (OpenSpec.ofChange routeTellsSpec)

/-- ITS FALSE NEIGHBOUR: 'it returns false'. Refute it at one input. -/
def routeTellsWrong : ChangeSpec := { name := "routeTells", fn := fun _ => fun
  | [d1, d2, d3, d4, d5, d6] => { results := [.lit (.bool false)], args := [d1, d2, d3, d4, d5, d6] }
  | _ => none }
def RouteTellsWrongFalsely : Prop := routeTellsRow.holds Try.pinned (OpenSpec.ofChange routeTellsWrong)

/-- 'actorgridlaw15.RouteArrives': WHATEVER THE INPUT: true; the input reads as it did. -/
def routeArrivesSpec : ChangeSpec := { name := "routeArrives", fn := fun _ => fun
  | [d1, d2, d3, d4, d5] => { results := [.lit (.bool true)], args := [d1, d2, d3, d4, d5] }
  | _ => none }
def routeArrivesRow : OpenClaim := { program := "ythcclghmeighlaa", sum := "f3a7f4c213cbd11ea8baac591e6353a9c561ca2cf29e0b780bc7d2fe6d434fc0", func := "actorgrid/actorgridlaw15.RouteArrives", spec := "routeArrives", unfollowed := true, recurses := true, apart := false }
def RouteArrivesSaid : Prop := routeArrivesRow.holds Try.pinned (OpenSpec.ofChange routeArrivesSpec)

/-- ITS FALSE NEIGHBOUR: 'it returns false'. Refute it at one input. -/
def routeArrivesWrong : ChangeSpec := { name := "routeArrives", fn := fun _ => fun
  | [d1, d2, d3, d4, d5] => { results := [.lit (.bool false)], args := [d1, d2, d3, d4, d5] }
  | _ => none }
def RouteArrivesWrongFalsely : Prop := routeArrivesRow.holds Try.pinned (OpenSpec.ofChange routeArrivesWrong)

/-- 'actorgridlaw15.RouteLearns': WHATEVER THE INPUT: true; the input reads as it did. -/
def routeLearnsSpec : ChangeSpec := { name := "routeLearns", fn := fun _ => fun
  | [d] => { results := [.lit (.bool true)], args := [d] }
  | _ => none }
def routeLearnsRow : OpenClaim := { program := "ythcclghmeighlaa", sum := "f3a7f4c213cbd11ea8baac591e6353a9c561ca2cf29e0b780bc7d2fe6d434fc0", func := "actorgrid/actorgridlaw15.RouteLearns", spec := "routeLearns", unfollowed := true, recurses := true, apart := false }
def RouteLearnsSaid : Prop := routeLearnsRow.holds Try.pinned (OpenSpec.ofChange routeLearnsSpec)

/-- ITS FALSE NEIGHBOUR: 'it returns false'. Refute it at one input. -/
def routeLearnsWrong : ChangeSpec := { name := "routeLearns", fn := fun _ => fun
  | [d] => { results := [.lit (.bool false)], args := [d] }
  | _ => none }
def RouteLearnsWrongFalsely : Prop := routeLearnsRow.holds Try.pinned (OpenSpec.ofChange routeLearnsWrong)

/- THE SECOND FORM. 'bulk': how many values and letters a reading holds, each counted each time it is reached (what is shared counts as often as it is met; a slice's spare places count too). A statement '..UptoSaid' is the law's where the arguments, and the package variables that the reading takes, are together of bulk at most 1048576: NARROWER than '..Said'. Prove '..Said' where nothing that the law and all that it calls make is longer than what came in: it says more and counts as full. Else prove '..UptoSaid'. A law counts once. -/
mutual
def uptoBulk {H : Type} : DataW H → Nat
  | .lit (.string bytes) => bytes.length + 1
  | .lit _ => 1
  | .nil => 1
  | .ptr d => uptoBulk d + 1
  | .slice elems spare => uptoBulkAll elems + uptoBulkAll spare + 1
  | .agg parts => uptoBulkAll parts + 1
  | .iface _ d => uptoBulk d + 1
  | .map entries => uptoBulkEntries entries + 1
  | .held _ => 1
def uptoBulkAll {H : Type} : List (DataW H) → Nat
  | [] => 0
  | d :: r => uptoBulk d + uptoBulkAll r
def uptoBulkEntries {H : Type} : List (Lit × DataW H) → Nat
  | [] => 0
  | x :: r => uptoBulkEntry x + uptoBulkEntries r
def uptoBulkEntry {H : Type} : Lit × DataW H → Nat
  | (.string bytes, d) => bytes.length + uptoBulk d + 1
  | (_, d) => uptoBulk d + 1
 end
def uptoSmall : (H : Type) → List (DataW H) → Bool := fun _ ds => decide (uptoBulkAll ds ≤ 1048576)
def OpenSpec.upto (s : _root_.Go.ChangeSpec) : _root_.Go.OpenSpec := { _root_.Go.OpenSpec.ofChange s with cond := some uptoSmall }

/-- 'actorgridlaw15.RouteTells', WHERE WHAT IT READS IS OF BULK AT MOST 1048576: true; the input reads as it did. -/
def routeTellsUptoRow : OpenClaim := { program := "ythcclghmeighlaa", sum := "f3a7f4c213cbd11ea8baac591e6353a9c561ca2cf29e0b780bc7d2fe6d434fc0", func := "actorgrid/actorgridlaw15.RouteTells", spec := "routeTells", unfollowed := true, recurses := true, apart := false, narrowed := true }
def RouteTellsUptoSaid : Prop := routeTellsUptoRow.holds Try.pinned (OpenSpec.upto routeTellsSpec)

/-- 'actorgridlaw15.RouteArrives', WHERE WHAT IT READS IS OF BULK AT MOST 1048576: true; the input reads as it did. -/
def routeArrivesUptoRow : OpenClaim := { program := "ythcclghmeighlaa", sum := "f3a7f4c213cbd11ea8baac591e6353a9c561ca2cf29e0b780bc7d2fe6d434fc0", func := "actorgrid/actorgridlaw15.RouteArrives", spec := "routeArrives", unfollowed := true, recurses := true, apart := false, narrowed := true }
def RouteArrivesUptoSaid : Prop := routeArrivesUptoRow.holds Try.pinned (OpenSpec.upto routeArrivesSpec)

/-- 'actorgridlaw15.RouteLearns', WHERE WHAT IT READS IS OF BULK AT MOST 1048576: true; the input reads as it did. -/
def routeLearnsUptoRow : OpenClaim := { program := "ythcclghmeighlaa", sum := "f3a7f4c213cbd11ea8baac591e6353a9c561ca2cf29e0b780bc7d2fe6d434fc0", func := "actorgrid/actorgridlaw15.RouteLearns", spec := "routeLearns", unfollowed := true, recurses := true, apart := false, narrowed := true }
def RouteLearnsUptoSaid : Prop := routeLearnsUptoRow.holds Try.pinned (OpenSpec.upto routeLearnsSpec)

end Rows
end Go.Proofs.Ythcclghmeighlaa
