/-
  No cell of these rows narrows 'for every input' (looked for: loops, veiled, ifaces, maps, wideKeys, modest, calm, conditions, laid).
  DERIVED. THE GIVEN ROWS OF THIS SEAT. 4 by the template 'for every input the law returns true; each argument reads behind the call as it read before'; 0 by the template 'total and deterministic' (their statements: YtdcfooeoaoahjaaGreatTotals.lean).
  GIVEN WITH THE SEED: the statements are not yours to turn. If you find one false, say at which input.
  Laid BY PROGRAM, IN A SANDBOX (cutbox-rows.mjs): the forced cells as the released guide's own fill.sh prints them over the translation 18b98044aa087f58… (all of the seat's roots in one cut). By AI agents, Wed Nov 11 2026. No macro, syntax, notation, axiom, sorry.
-/
import Derived.Test.YtdcfooeoaoahjaaGreatChecked
import GoSem.Claim
import GoSem.ClaimJoined
import GoSem.ClaimMapViews
import Derived.JoinedTies
import Derived.KernelRfl
namespace Go.Proofs.YtdcfooeoaoahjaaGreat
/- THE CELL 'sum', in the pinned program and in every row, IS THE sha256 OF THE DUMP (.gsa) THAT YtdcfooeoaoahjaaGreatProg.lean LOADS. Nothing in Lean hashes anything: it is a label: what it is worth is what the hold of that sum in a sandbox is worth. -/
noncomputable def Tryz.pinned : Pinned := { name := "ytdcfooeoaoahjaagreat", sum := "18b98044aa087f58bf937f4452c1099c9e001ea1981ffdee64210d331f27dee7", checked := Tryz.checked }
namespace Rows
def none {H : Type} : Left H := { results := [], args := [] }

/-- 'actorgridlaw11.MembershipViews': WHATEVER THE INPUT: true; the input reads as it did. -/
def membershipViewsSpec : ChangeSpec := { name := "membershipViews", fn := fun _ => fun
  | [d1, d2] => { results := [.lit (.bool true)], args := [d1, d2] }
  | _ => none }
def membershipViewsRow : OpenClaim := { program := "ytdcfooeoaoahjaagreat", sum := "18b98044aa087f58bf937f4452c1099c9e001ea1981ffdee64210d331f27dee7", func := "actorgrid/actorgridlaw11.MembershipViews", spec := "membershipViews", unfollowed := true, recurses := true, apart := false }
def MembershipViewsSaid : Prop := membershipViewsRow.holds Tryz.pinned (OpenSpec.ofChange membershipViewsSpec)

/-- ITS FALSE NEIGHBOUR: 'it returns false'. Refute it at one input. -/
def membershipViewsWrong : ChangeSpec := { name := "membershipViews", fn := fun _ => fun
  | [d1, d2] => { results := [.lit (.bool false)], args := [d1, d2] }
  | _ => none }
def MembershipViewsWrongFalsely : Prop := membershipViewsRow.holds Tryz.pinned (OpenSpec.ofChange membershipViewsWrong)

/-- 'actorgridlaw11.MembershipRemoves': WHATEVER THE INPUT: true; the input reads as it did. -/
def membershipRemovesSpec : ChangeSpec := { name := "membershipRemoves", fn := fun _ => fun
  | [d1, d2] => { results := [.lit (.bool true)], args := [d1, d2] }
  | _ => none }
def membershipRemovesRow : OpenClaim := { program := "ytdcfooeoaoahjaagreat", sum := "18b98044aa087f58bf937f4452c1099c9e001ea1981ffdee64210d331f27dee7", func := "actorgrid/actorgridlaw11.MembershipRemoves", spec := "membershipRemoves", unfollowed := true, recurses := true, apart := false }
def MembershipRemovesSaid : Prop := membershipRemovesRow.holds Tryz.pinned (OpenSpec.ofChange membershipRemovesSpec)

/-- ITS FALSE NEIGHBOUR: 'it returns false'. Refute it at one input. -/
def membershipRemovesWrong : ChangeSpec := { name := "membershipRemoves", fn := fun _ => fun
  | [d1, d2] => { results := [.lit (.bool false)], args := [d1, d2] }
  | _ => none }
def MembershipRemovesWrongFalsely : Prop := membershipRemovesRow.holds Tryz.pinned (OpenSpec.ofChange membershipRemovesWrong)

/-- 'actorgridlaw11.MembershipJoins': WHATEVER THE INPUT: true; the input reads as it did. -/
def membershipJoinsSpec : ChangeSpec := { name := "membershipJoins", fn := fun _ => fun
  | [d1, d2, d3] => { results := [.lit (.bool true)], args := [d1, d2, d3] }
  | _ => none }
def membershipJoinsRow : OpenClaim := { program := "ytdcfooeoaoahjaagreat", sum := "18b98044aa087f58bf937f4452c1099c9e001ea1981ffdee64210d331f27dee7", func := "actorgrid/actorgridlaw11.MembershipJoins", spec := "membershipJoins", unfollowed := true, recurses := true, apart := false }
def MembershipJoinsSaid : Prop := membershipJoinsRow.holds Tryz.pinned (OpenSpec.ofChange membershipJoinsSpec)

/-- ITS FALSE NEIGHBOUR: 'it returns false'. Refute it at one input. -/
def membershipJoinsWrong : ChangeSpec := { name := "membershipJoins", fn := fun _ => fun
  | [d1, d2, d3] => { results := [.lit (.bool false)], args := [d1, d2, d3] }
  | _ => none }
def MembershipJoinsWrongFalsely : Prop := membershipJoinsRow.holds Tryz.pinned (OpenSpec.ofChange membershipJoinsWrong)

/-- 'actorgridlaw11.MembershipQuiet': WHATEVER THE INPUT: true; the input reads as it did. -/
def membershipQuietSpec : ChangeSpec := { name := "membershipQuiet", fn := fun _ => fun
  | [d1, d2] => { results := [.lit (.bool true)], args := [d1, d2] }
  | _ => none }
def membershipQuietRow : OpenClaim := { program := "ytdcfooeoaoahjaagreat", sum := "18b98044aa087f58bf937f4452c1099c9e001ea1981ffdee64210d331f27dee7", func := "actorgrid/actorgridlaw11.MembershipQuiet", spec := "membershipQuiet", unfollowed := true, recurses := true, apart := false }
def MembershipQuietSaid : Prop := membershipQuietRow.holds Tryz.pinned (OpenSpec.ofChange membershipQuietSpec)

/-- ITS FALSE NEIGHBOUR: 'it returns false'. Refute it at one input. -/
def membershipQuietWrong : ChangeSpec := { name := "membershipQuiet", fn := fun _ => fun
  | [d1, d2] => { results := [.lit (.bool false)], args := [d1, d2] }
  | _ => none }
def MembershipQuietWrongFalsely : Prop := membershipQuietRow.holds Tryz.pinned (OpenSpec.ofChange membershipQuietWrong)

/- THE SECOND FORM. 'bulk': how many values and letters a reading holds, each counted each time it is reached (what is shared counts as often as it is met; a slice's spare places count too). A statement '..UptoSaid' is the law's where the arguments, and the package variables that the reading takes, are together of bulk at most 1048576: NARROWER than '..Said'. Prove '..Said' where nothing that the law and all that it calls make is longer than what came in: it says more and counts as full. Else prove '..UptoSaid'. A law counts once. -/
mutual
def uptoBulk {H : Type} : DataW H → Nat
  | .lit (.string bytes) => bytes.length + 1
  | .lit _ => 1
  | .nil => 1
  | .ptr d => uptoBulk d + 1
  | .slice elems spare => uptoBulkAll elems + uptoBulkAll spare + 1
  | .agg parts => uptoBulkAll parts + 1
  | .iface _ d => uptoBulk d + 1
  | .map entries => uptoBulkEntries entries + 1
  | .held _ => 1
def uptoBulkAll {H : Type} : List (DataW H) → Nat
  | [] => 0
  | d :: r => uptoBulk d + uptoBulkAll r
def uptoBulkEntries {H : Type} : List (Lit × DataW H) → Nat
  | [] => 0
  | x :: r => uptoBulkEntry x + uptoBulkEntries r
def uptoBulkEntry {H : Type} : Lit × DataW H → Nat
  | (.string bytes, d) => bytes.length + uptoBulk d + 1
  | (_, d) => uptoBulk d + 1
 end
def uptoSmall : (H : Type) → List (DataW H) → Bool := fun _ ds => decide (uptoBulkAll ds ≤ 1048576)
def OpenSpec.upto (s : _root_.Go.ChangeSpec) : _root_.Go.OpenSpec := { _root_.Go.OpenSpec.ofChange s with cond := some uptoSmall }

/-- 'actorgridlaw11.MembershipViews', WHERE WHAT IT READS IS OF BULK AT MOST 1048576: true; the input reads as it did. -/
def membershipViewsUptoRow : OpenClaim := { program := "ytdcfooeoaoahjaagreat", sum := "18b98044aa087f58bf937f4452c1099c9e001ea1981ffdee64210d331f27dee7", func := "actorgrid/actorgridlaw11.MembershipViews", spec := "membershipViews", unfollowed := true, recurses := true, apart := false, narrowed := true }
def MembershipViewsUptoSaid : Prop := membershipViewsUptoRow.holds Tryz.pinned (OpenSpec.upto membershipViewsSpec)

/-- 'actorgridlaw11.MembershipRemoves', WHERE WHAT IT READS IS OF BULK AT MOST 1048576: true; the input reads as it did. -/
def membershipRemovesUptoRow : OpenClaim := { program := "ytdcfooeoaoahjaagreat", sum := "18b98044aa087f58bf937f4452c1099c9e001ea1981ffdee64210d331f27dee7", func := "actorgrid/actorgridlaw11.MembershipRemoves", spec := "membershipRemoves", unfollowed := true, recurses := true, apart := false, narrowed := true }
def MembershipRemovesUptoSaid : Prop := membershipRemovesUptoRow.holds Tryz.pinned (OpenSpec.upto membershipRemovesSpec)

/-- 'actorgridlaw11.MembershipJoins', WHERE WHAT IT READS IS OF BULK AT MOST 1048576: true; the input reads as it did. -/
def membershipJoinsUptoRow : OpenClaim := { program := "ytdcfooeoaoahjaagreat", sum := "18b98044aa087f58bf937f4452c1099c9e001ea1981ffdee64210d331f27dee7", func := "actorgrid/actorgridlaw11.MembershipJoins", spec := "membershipJoins", unfollowed := true, recurses := true, apart := false, narrowed := true }
def MembershipJoinsUptoSaid : Prop := membershipJoinsUptoRow.holds Tryz.pinned (OpenSpec.upto membershipJoinsSpec)

/-- 'actorgridlaw11.MembershipQuiet', WHERE WHAT IT READS IS OF BULK AT MOST 1048576: true; the input reads as it did. -/
def membershipQuietUptoRow : OpenClaim := { program := "ytdcfooeoaoahjaagreat", sum := "18b98044aa087f58bf937f4452c1099c9e001ea1981ffdee64210d331f27dee7", func := "actorgrid/actorgridlaw11.MembershipQuiet", spec := "membershipQuiet", unfollowed := true, recurses := true, apart := false, narrowed := true }
def MembershipQuietUptoSaid : Prop := membershipQuietUptoRow.holds Tryz.pinned (OpenSpec.upto membershipQuietSpec)

end Rows
end Go.Proofs.YtdcfooeoaoahjaaGreat
