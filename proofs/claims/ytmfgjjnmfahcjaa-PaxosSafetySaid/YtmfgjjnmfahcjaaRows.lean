/-
  No cell of these rows narrows 'for every input' (looked for: loops, veiled, ifaces, maps, wideKeys, modest, calm, conditions, laid).
  DERIVED. THE GIVEN ROWS OF THIS SEAT. 6 by the template 'for every input the law returns true; each argument reads behind the call as it read before'; 0 by the template 'total and deterministic' (their statements: YtmfgjjnmfahcjaaTotals.lean).
  GIVEN WITH THE SEED: the statements are not yours to turn. If you find one false, say at which input.
  Laid BY PROGRAM, IN A SANDBOX (cutbox-rows.mjs): the forced cells as the released guide's own fill.sh prints them over the translation 207bb949baf83f2d… (all of the seat's roots in one cut). By AI agents, Wed Nov 11 2026. No macro, syntax, notation, axiom, sorry.
-/
import Derived.Test.YtmfgjjnmfahcjaaChecked
import GoSem.Claim
import GoSem.ClaimJoined
import GoSem.ClaimMapViews
import Derived.JoinedTies
import Derived.KernelRfl
namespace Go.Proofs.Ytmfgjjnmfahcjaa
/- THE CELL 'sum', in the pinned program and in every row, IS THE sha256 OF THE DUMP (.gsa) THAT YtmfgjjnmfahcjaaProg.lean LOADS. Nothing in Lean hashes anything: it is a label: what it is worth is what the hold of that sum in a sandbox is worth. -/
noncomputable def Try.pinned : Pinned := { name := "ytmfgjjnmfahcjaa", sum := "207bb949baf83f2d37beee4e7c079399b73bb21d861b7f4a975c02158118c4d4", checked := Try.checked }
namespace Rows
def none {H : Type} : Left H := { results := [], args := [] }

/-- 'actorgridlaw9.PaxosRanks': WHATEVER THE INPUT: true; the input reads as it did. -/
def paxosRanksSpec : ChangeSpec := { name := "paxosRanks", fn := fun _ => fun
  | [d1, d2, d3] => { results := [.lit (.bool true)], args := [d1, d2, d3] }
  | _ => none }
def paxosRanksRow : OpenClaim := { program := "ytmfgjjnmfahcjaa", sum := "207bb949baf83f2d37beee4e7c079399b73bb21d861b7f4a975c02158118c4d4", func := "actorgrid/actorgridlaw9.PaxosRanks", spec := "paxosRanks", apart := false }
def PaxosRanksSaid : Prop := paxosRanksRow.holds Try.pinned (OpenSpec.ofChange paxosRanksSpec)

/-- ITS FALSE NEIGHBOUR: 'it returns false'. Refute it at one input. -/
def paxosRanksWrong : ChangeSpec := { name := "paxosRanks", fn := fun _ => fun
  | [d1, d2, d3] => { results := [.lit (.bool false)], args := [d1, d2, d3] }
  | _ => none }
def PaxosRanksWrongFalsely : Prop := paxosRanksRow.holds Try.pinned (OpenSpec.ofChange paxosRanksWrong)

/-- 'actorgridlaw9.PaxosAcceptors': WHATEVER THE INPUT: true; the input reads as it did. -/
def paxosAcceptorsSpec : ChangeSpec := { name := "paxosAcceptors", fn := fun _ => fun
  | [d1, d2, d3] => { results := [.lit (.bool true)], args := [d1, d2, d3] }
  | _ => none }
def paxosAcceptorsRow : OpenClaim := { program := "ytmfgjjnmfahcjaa", sum := "207bb949baf83f2d37beee4e7c079399b73bb21d861b7f4a975c02158118c4d4", func := "actorgrid/actorgridlaw9.PaxosAcceptors", spec := "paxosAcceptors", apart := false }
def PaxosAcceptorsSaid : Prop := paxosAcceptorsRow.holds Try.pinned (OpenSpec.ofChange paxosAcceptorsSpec)

/-- ITS FALSE NEIGHBOUR: 'it returns false'. Refute it at one input. -/
def paxosAcceptorsWrong : ChangeSpec := { name := "paxosAcceptors", fn := fun _ => fun
  | [d1, d2, d3] => { results := [.lit (.bool false)], args := [d1, d2, d3] }
  | _ => none }
def PaxosAcceptorsWrongFalsely : Prop := paxosAcceptorsRow.holds Try.pinned (OpenSpec.ofChange paxosAcceptorsWrong)

/-- 'actorgridlaw9.PaxosGrows': WHATEVER THE INPUT: true; the input reads as it did. -/
def paxosGrowsSpec : ChangeSpec := { name := "paxosGrows", fn := fun _ => fun
  | [d1, d2] => { results := [.lit (.bool true)], args := [d1, d2] }
  | _ => none }
def paxosGrowsRow : OpenClaim := { program := "ytmfgjjnmfahcjaa", sum := "207bb949baf83f2d37beee4e7c079399b73bb21d861b7f4a975c02158118c4d4", func := "actorgrid/actorgridlaw9.PaxosGrows", spec := "paxosGrows", apart := false }
def PaxosGrowsSaid : Prop := paxosGrowsRow.holds Try.pinned (OpenSpec.ofChange paxosGrowsSpec)

/-- ITS FALSE NEIGHBOUR: 'it returns false'. Refute it at one input. -/
def paxosGrowsWrong : ChangeSpec := { name := "paxosGrows", fn := fun _ => fun
  | [d1, d2] => { results := [.lit (.bool false)], args := [d1, d2] }
  | _ => none }
def PaxosGrowsWrongFalsely : Prop := paxosGrowsRow.holds Try.pinned (OpenSpec.ofChange paxosGrowsWrong)

/-- 'actorgridlaw9.PaxosOwn': WHATEVER THE INPUT: true; the input reads as it did. -/
def paxosOwnSpec : ChangeSpec := { name := "paxosOwn", fn := fun _ => fun
  | [d1, d2, d3, d4] => { results := [.lit (.bool true)], args := [d1, d2, d3, d4] }
  | _ => none }
def paxosOwnRow : OpenClaim := { program := "ytmfgjjnmfahcjaa", sum := "207bb949baf83f2d37beee4e7c079399b73bb21d861b7f4a975c02158118c4d4", func := "actorgrid/actorgridlaw9.PaxosOwn", spec := "paxosOwn", apart := false }
def PaxosOwnSaid : Prop := paxosOwnRow.holds Try.pinned (OpenSpec.ofChange paxosOwnSpec)

/-- ITS FALSE NEIGHBOUR: 'it returns false'. Refute it at one input. -/
def paxosOwnWrong : ChangeSpec := { name := "paxosOwn", fn := fun _ => fun
  | [d1, d2, d3, d4] => { results := [.lit (.bool false)], args := [d1, d2, d3, d4] }
  | _ => none }
def PaxosOwnWrongFalsely : Prop := paxosOwnRow.holds Try.pinned (OpenSpec.ofChange paxosOwnWrong)

/-- 'actorgridlaw9.PaxosChoices': WHATEVER THE INPUT: true; the input reads as it did. -/
def paxosChoicesSpec : ChangeSpec := { name := "paxosChoices", fn := fun _ => fun
  | [d1, d2, d3, d4] => { results := [.lit (.bool true)], args := [d1, d2, d3, d4] }
  | _ => none }
def paxosChoicesRow : OpenClaim := { program := "ytmfgjjnmfahcjaa", sum := "207bb949baf83f2d37beee4e7c079399b73bb21d861b7f4a975c02158118c4d4", func := "actorgrid/actorgridlaw9.PaxosChoices", spec := "paxosChoices", apart := false }
def PaxosChoicesSaid : Prop := paxosChoicesRow.holds Try.pinned (OpenSpec.ofChange paxosChoicesSpec)

/-- ITS FALSE NEIGHBOUR: 'it returns false'. Refute it at one input. -/
def paxosChoicesWrong : ChangeSpec := { name := "paxosChoices", fn := fun _ => fun
  | [d1, d2, d3, d4] => { results := [.lit (.bool false)], args := [d1, d2, d3, d4] }
  | _ => none }
def PaxosChoicesWrongFalsely : Prop := paxosChoicesRow.holds Try.pinned (OpenSpec.ofChange paxosChoicesWrong)

/-- 'actorgridlaw9.PaxosSafety': WHATEVER THE INPUT: true; the input reads as it did. -/
def paxosSafetySpec : ChangeSpec := { name := "paxosSafety", fn := fun _ => fun
  | [d1, d2] => { results := [.lit (.bool true)], args := [d1, d2] }
  | _ => none }
def paxosSafetyRow : OpenClaim := { program := "ytmfgjjnmfahcjaa", sum := "207bb949baf83f2d37beee4e7c079399b73bb21d861b7f4a975c02158118c4d4", func := "actorgrid/actorgridlaw9.PaxosSafety", spec := "paxosSafety", apart := false }
def PaxosSafetySaid : Prop := paxosSafetyRow.holds Try.pinned (OpenSpec.ofChange paxosSafetySpec)

/-- ITS FALSE NEIGHBOUR: 'it returns false'. Refute it at one input. -/
def paxosSafetyWrong : ChangeSpec := { name := "paxosSafety", fn := fun _ => fun
  | [d1, d2] => { results := [.lit (.bool false)], args := [d1, d2] }
  | _ => none }
def PaxosSafetyWrongFalsely : Prop := paxosSafetyRow.holds Try.pinned (OpenSpec.ofChange paxosSafetyWrong)

/- THE SECOND FORM. 'bulk': how many values and letters a reading holds, each counted each time it is reached (what is shared counts as often as it is met; a slice's spare places count too). A statement '..UptoSaid' is the law's where the arguments, and the package variables that the reading takes, are together of bulk at most 1048576: NARROWER than '..Said'. Prove '..Said' where nothing that the law and all that it calls make is longer than what came in: it says more and counts as full. Else prove '..UptoSaid'. A law counts once. -/
mutual
def uptoBulk {H : Type} : DataW H → Nat
  | .lit (.string bytes) => bytes.length + 1
  | .lit _ => 1
  | .nil => 1
  | .ptr d => uptoBulk d + 1
  | .slice elems spare => uptoBulkAll elems + uptoBulkAll spare + 1
  | .agg parts => uptoBulkAll parts + 1
  | .iface _ d => uptoBulk d + 1
  | .map entries => uptoBulkEntries entries + 1
  | .held _ => 1
def uptoBulkAll {H : Type} : List (DataW H) → Nat
  | [] => 0
  | d :: r => uptoBulk d + uptoBulkAll r
def uptoBulkEntries {H : Type} : List (Lit × DataW H) → Nat
  | [] => 0
  | x :: r => uptoBulkEntry x + uptoBulkEntries r
def uptoBulkEntry {H : Type} : Lit × DataW H → Nat
  | (.string bytes, d) => bytes.length + uptoBulk d + 1
  | (_, d) => uptoBulk d + 1
 end
def uptoSmall : (H : Type) → List (DataW H) → Bool := fun _ ds => decide (uptoBulkAll ds ≤ 1048576)
def OpenSpec.upto (s : _root_.Go.ChangeSpec) : _root_.Go.OpenSpec := { _root_.Go.OpenSpec.ofChange s with cond := some uptoSmall }

/-- 'actorgridlaw9.PaxosRanks', WHERE WHAT IT READS IS OF BULK AT MOST 1048576: true; the input reads as it did. -/
def paxosRanksUptoRow : OpenClaim := { program := "ytmfgjjnmfahcjaa", sum := "207bb949baf83f2d37beee4e7c079399b73bb21d861b7f4a975c02158118c4d4", func := "actorgrid/actorgridlaw9.PaxosRanks", spec := "paxosRanks", apart := false, narrowed := true }
def PaxosRanksUptoSaid : Prop := paxosRanksUptoRow.holds Try.pinned (OpenSpec.upto paxosRanksSpec)

/-- 'actorgridlaw9.PaxosAcceptors', WHERE WHAT IT READS IS OF BULK AT MOST 1048576: true; the input reads as it did. -/
def paxosAcceptorsUptoRow : OpenClaim := { program := "ytmfgjjnmfahcjaa", sum := "207bb949baf83f2d37beee4e7c079399b73bb21d861b7f4a975c02158118c4d4", func := "actorgrid/actorgridlaw9.PaxosAcceptors", spec := "paxosAcceptors", apart := false, narrowed := true }
def PaxosAcceptorsUptoSaid : Prop := paxosAcceptorsUptoRow.holds Try.pinned (OpenSpec.upto paxosAcceptorsSpec)

/-- 'actorgridlaw9.PaxosGrows', WHERE WHAT IT READS IS OF BULK AT MOST 1048576: true; the input reads as it did. -/
def paxosGrowsUptoRow : OpenClaim := { program := "ytmfgjjnmfahcjaa", sum := "207bb949baf83f2d37beee4e7c079399b73bb21d861b7f4a975c02158118c4d4", func := "actorgrid/actorgridlaw9.PaxosGrows", spec := "paxosGrows", apart := false, narrowed := true }
def PaxosGrowsUptoSaid : Prop := paxosGrowsUptoRow.holds Try.pinned (OpenSpec.upto paxosGrowsSpec)

/-- 'actorgridlaw9.PaxosOwn', WHERE WHAT IT READS IS OF BULK AT MOST 1048576: true; the input reads as it did. -/
def paxosOwnUptoRow : OpenClaim := { program := "ytmfgjjnmfahcjaa", sum := "207bb949baf83f2d37beee4e7c079399b73bb21d861b7f4a975c02158118c4d4", func := "actorgrid/actorgridlaw9.PaxosOwn", spec := "paxosOwn", apart := false, narrowed := true }
def PaxosOwnUptoSaid : Prop := paxosOwnUptoRow.holds Try.pinned (OpenSpec.upto paxosOwnSpec)

/-- 'actorgridlaw9.PaxosChoices', WHERE WHAT IT READS IS OF BULK AT MOST 1048576: true; the input reads as it did. -/
def paxosChoicesUptoRow : OpenClaim := { program := "ytmfgjjnmfahcjaa", sum := "207bb949baf83f2d37beee4e7c079399b73bb21d861b7f4a975c02158118c4d4", func := "actorgrid/actorgridlaw9.PaxosChoices", spec := "paxosChoices", apart := false, narrowed := true }
def PaxosChoicesUptoSaid : Prop := paxosChoicesUptoRow.holds Try.pinned (OpenSpec.upto paxosChoicesSpec)

/-- 'actorgridlaw9.PaxosSafety', WHERE WHAT IT READS IS OF BULK AT MOST 1048576: true; the input reads as it did. -/
def paxosSafetyUptoRow : OpenClaim := { program := "ytmfgjjnmfahcjaa", sum := "207bb949baf83f2d37beee4e7c079399b73bb21d861b7f4a975c02158118c4d4", func := "actorgrid/actorgridlaw9.PaxosSafety", spec := "paxosSafety", apart := false, narrowed := true }
def PaxosSafetyUptoSaid : Prop := paxosSafetyUptoRow.holds Try.pinned (OpenSpec.upto paxosSafetySpec)

end Rows
end Go.Proofs.Ytmfgjjnmfahcjaa
