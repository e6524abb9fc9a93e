/-
  No cell of these rows narrows 'for every input' (looked for: loops, veiled, ifaces, maps, wideKeys, modest, calm, conditions, laid).
  DERIVED. THE GIVEN ROWS OF THIS SEAT. 4 by the template 'for every input the law returns true; each argument reads behind the call as it read before'; 0 by the template 'total and deterministic' (their statements: YtanolkidafeaeaaTotals.lean).
  GIVEN WITH THE SEED: the statements are not yours to turn. If you find one false, say at which input.
  Laid BY PROGRAM, IN A SANDBOX (cutbox-rows.mjs): the forced cells as the released guide's own fill.sh prints them over the translation 9f3771a02697be89… (all of the seat's roots in one cut). By AI agents, Wed Nov 11 2026. No macro, syntax, notation, axiom, sorry.
-/
import Derived.Test.YtanolkidafeaeaaChecked
import GoSem.Claim
import GoSem.ClaimJoined
import GoSem.ClaimMapViews
import Derived.JoinedTies
import Derived.KernelRfl
namespace Go.Proofs.Ytanolkidafeaeaa
/- THE CELL 'sum', in the pinned program and in every row, IS THE sha256 OF THE DUMP (.gsa) THAT YtanolkidafeaeaaProg.lean LOADS. Nothing in Lean hashes anything: it is a label: what it is worth is what the hold of that sum in a sandbox is worth. -/
noncomputable def Try.pinned : Pinned := { name := "ytanolkidafeaeaa", sum := "9f3771a02697be89134ea0ca1f89ff44b45ce4a303ad9139d8b89749f33ec5d7", checked := Try.checked }
namespace Rows
def none {H : Type} : Left H := { results := [], args := [] }

/-- 'actorgridlaw6.AlertsOrder': WHATEVER THE INPUT: true; the input reads as it did. -/
def alertsOrderSpec : ChangeSpec := { name := "alertsOrder", fn := fun _ => fun
  | [d1, d2, d3] => { results := [.lit (.bool true)], args := [d1, d2, d3] }
  | _ => none }
def alertsOrderRow : OpenClaim := { program := "ytanolkidafeaeaa", sum := "9f3771a02697be89134ea0ca1f89ff44b45ce4a303ad9139d8b89749f33ec5d7", func := "actorgrid/actorgridlaw6.AlertsOrder", spec := "alertsOrder", unfollowed := true, recurses := true, apart := false }
def AlertsOrderSaid : Prop := alertsOrderRow.holds Try.pinned (OpenSpec.ofChange alertsOrderSpec)

/-- ITS FALSE NEIGHBOUR: 'it returns false'. Refute it at one input. -/
def alertsOrderWrong : ChangeSpec := { name := "alertsOrder", fn := fun _ => fun
  | [d1, d2, d3] => { results := [.lit (.bool false)], args := [d1, d2, d3] }
  | _ => none }
def AlertsOrderWrongFalsely : Prop := alertsOrderRow.holds Try.pinned (OpenSpec.ofChange alertsOrderWrong)

/-- 'actorgridlaw6.AlertsBack': WHATEVER THE INPUT: true; the input reads as it did. -/
def alertsBackSpec : ChangeSpec := { name := "alertsBack", fn := fun _ => fun
  | [d1, d2, d3, d4] => { results := [.lit (.bool true)], args := [d1, d2, d3, d4] }
  | _ => none }
def alertsBackRow : OpenClaim := { program := "ytanolkidafeaeaa", sum := "9f3771a02697be89134ea0ca1f89ff44b45ce4a303ad9139d8b89749f33ec5d7", func := "actorgrid/actorgridlaw6.AlertsBack", spec := "alertsBack", unfollowed := true, recurses := true, apart := false }
def AlertsBackSaid : Prop := alertsBackRow.holds Try.pinned (OpenSpec.ofChange alertsBackSpec)

/-- ITS FALSE NEIGHBOUR: 'it returns false'. Refute it at one input. -/
def alertsBackWrong : ChangeSpec := { name := "alertsBack", fn := fun _ => fun
  | [d1, d2, d3, d4] => { results := [.lit (.bool false)], args := [d1, d2, d3, d4] }
  | _ => none }
def AlertsBackWrongFalsely : Prop := alertsBackRow.holds Try.pinned (OpenSpec.ofChange alertsBackWrong)

/-- 'actorgridlaw6.AlertsUnion': WHATEVER THE INPUT: true; the input reads as it did. -/
def alertsUnionSpec : ChangeSpec := { name := "alertsUnion", fn := fun _ => fun
  | [d1, d2, d3, d4] => { results := [.lit (.bool true)], args := [d1, d2, d3, d4] }
  | _ => none }
def alertsUnionRow : OpenClaim := { program := "ytanolkidafeaeaa", sum := "9f3771a02697be89134ea0ca1f89ff44b45ce4a303ad9139d8b89749f33ec5d7", func := "actorgrid/actorgridlaw6.AlertsUnion", spec := "alertsUnion", unfollowed := true, recurses := true, apart := false }
def AlertsUnionSaid : Prop := alertsUnionRow.holds Try.pinned (OpenSpec.ofChange alertsUnionSpec)

/-- ITS FALSE NEIGHBOUR: 'it returns false'. Refute it at one input. -/
def alertsUnionWrong : ChangeSpec := { name := "alertsUnion", fn := fun _ => fun
  | [d1, d2, d3, d4] => { results := [.lit (.bool false)], args := [d1, d2, d3, d4] }
  | _ => none }
def AlertsUnionWrongFalsely : Prop := alertsUnionRow.holds Try.pinned (OpenSpec.ofChange alertsUnionWrong)

/-- 'actorgridlaw6.AlertsCount': WHATEVER THE INPUT: true; the input reads as it did. -/
def alertsCountSpec : ChangeSpec := { name := "alertsCount", fn := fun _ => fun
  | [d1, d2] => { results := [.lit (.bool true)], args := [d1, d2] }
  | _ => none }
def alertsCountRow : OpenClaim := { program := "ytanolkidafeaeaa", sum := "9f3771a02697be89134ea0ca1f89ff44b45ce4a303ad9139d8b89749f33ec5d7", func := "actorgrid/actorgridlaw6.AlertsCount", spec := "alertsCount", unfollowed := true, recurses := true, apart := false }
def AlertsCountSaid : Prop := alertsCountRow.holds Try.pinned (OpenSpec.ofChange alertsCountSpec)

/-- ITS FALSE NEIGHBOUR: 'it returns false'. Refute it at one input. -/
def alertsCountWrong : ChangeSpec := { name := "alertsCount", fn := fun _ => fun
  | [d1, d2] => { results := [.lit (.bool false)], args := [d1, d2] }
  | _ => none }
def AlertsCountWrongFalsely : Prop := alertsCountRow.holds Try.pinned (OpenSpec.ofChange alertsCountWrong)

/- THE SECOND FORM. 'bulk': how many values and letters a reading holds, each counted each time it is reached (what is shared counts as often as it is met; a slice's spare places count too). A statement '..UptoSaid' is the law's where the arguments, and the package variables that the reading takes, are together of bulk at most 1048576: NARROWER than '..Said'. Prove '..Said' where nothing that the law and all that it calls make is longer than what came in: it says more and counts as full. Else prove '..UptoSaid'. A law counts once. -/
mutual
def uptoBulk {H : Type} : DataW H → Nat
  | .lit (.string bytes) => bytes.length + 1
  | .lit _ => 1
  | .nil => 1
  | .ptr d => uptoBulk d + 1
  | .slice elems spare => uptoBulkAll elems + uptoBulkAll spare + 1
  | .agg parts => uptoBulkAll parts + 1
  | .iface _ d => uptoBulk d + 1
  | .map entries => uptoBulkEntries entries + 1
  | .held _ => 1
def uptoBulkAll {H : Type} : List (DataW H) → Nat
  | [] => 0
  | d :: r => uptoBulk d + uptoBulkAll r
def uptoBulkEntries {H : Type} : List (Lit × DataW H) → Nat
  | [] => 0
  | x :: r => uptoBulkEntry x + uptoBulkEntries r
def uptoBulkEntry {H : Type} : Lit × DataW H → Nat
  | (.string bytes, d) => bytes.length + uptoBulk d + 1
  | (_, d) => uptoBulk d + 1
 end
def uptoSmall : (H : Type) → List (DataW H) → Bool := fun _ ds => decide (uptoBulkAll ds ≤ 1048576)
def OpenSpec.upto (s : _root_.Go.ChangeSpec) : _root_.Go.OpenSpec := { _root_.Go.OpenSpec.ofChange s with cond := some uptoSmall }

/-- 'actorgridlaw6.AlertsOrder', WHERE WHAT IT READS IS OF BULK AT MOST 1048576: true; the input reads as it did. -/
def alertsOrderUptoRow : OpenClaim := { program := "ytanolkidafeaeaa", sum := "9f3771a02697be89134ea0ca1f89ff44b45ce4a303ad9139d8b89749f33ec5d7", func := "actorgrid/actorgridlaw6.AlertsOrder", spec := "alertsOrder", unfollowed := true, recurses := true, apart := false, narrowed := true }
def AlertsOrderUptoSaid : Prop := alertsOrderUptoRow.holds Try.pinned (OpenSpec.upto alertsOrderSpec)

/-- 'actorgridlaw6.AlertsBack', WHERE WHAT IT READS IS OF BULK AT MOST 1048576: true; the input reads as it did. -/
def alertsBackUptoRow : OpenClaim := { program := "ytanolkidafeaeaa", sum := "9f3771a02697be89134ea0ca1f89ff44b45ce4a303ad9139d8b89749f33ec5d7", func := "actorgrid/actorgridlaw6.AlertsBack", spec := "alertsBack", unfollowed := true, recurses := true, apart := false, narrowed := true }
def AlertsBackUptoSaid : Prop := alertsBackUptoRow.holds Try.pinned (OpenSpec.upto alertsBackSpec)

/-- 'actorgridlaw6.AlertsUnion', WHERE WHAT IT READS IS OF BULK AT MOST 1048576: true; the input reads as it did. -/
def alertsUnionUptoRow : OpenClaim := { program := "ytanolkidafeaeaa", sum := "9f3771a02697be89134ea0ca1f89ff44b45ce4a303ad9139d8b89749f33ec5d7", func := "actorgrid/actorgridlaw6.AlertsUnion", spec := "alertsUnion", unfollowed := true, recurses := true, apart := false, narrowed := true }
def AlertsUnionUptoSaid : Prop := alertsUnionUptoRow.holds Try.pinned (OpenSpec.upto alertsUnionSpec)

/-- 'actorgridlaw6.AlertsCount', WHERE WHAT IT READS IS OF BULK AT MOST 1048576: true; the input reads as it did. -/
def alertsCountUptoRow : OpenClaim := { program := "ytanolkidafeaeaa", sum := "9f3771a02697be89134ea0ca1f89ff44b45ce4a303ad9139d8b89749f33ec5d7", func := "actorgrid/actorgridlaw6.AlertsCount", spec := "alertsCount", unfollowed := true, recurses := true, apart := false, narrowed := true }
def AlertsCountUptoSaid : Prop := alertsCountUptoRow.holds Try.pinned (OpenSpec.upto alertsCountSpec)

end Rows
end Go.Proofs.Ytanolkidafeaeaa
