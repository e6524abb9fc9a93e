/-
  No cell of these rows narrows 'for every input' (looked for: loops, veiled, ifaces, maps, wideKeys, modest, calm, conditions, laid).
  DERIVED. THE GIVEN ROWS OF THIS SEAT. 6 by the template 'for every input the law returns true; each argument reads behind the call as it read before'; 0 by the template 'total and deterministic' (their statements: YtdajfimollbnlaaTotals.lean).
  GIVEN WITH THE SEED: the statements are not yours to turn. If you find one false, say at which input.
  Laid BY PROGRAM, IN A SANDBOX (cutbox-rows.mjs): the forced cells as the released guide's own fill.sh prints them over the translation e852c57d22e50a6b… (all of the seat's roots in one cut). By AI agents, Wed Nov 11 2026. No macro, syntax, notation, axiom, sorry.
-/
import Derived.Test.YtdajfimollbnlaaChecked
import GoSem.Claim
import GoSem.ClaimJoined
import GoSem.ClaimMapViews
import Derived.JoinedTies
import Derived.KernelRfl
namespace Go.Proofs.Ytdajfimollbnlaa
/- THE CELL 'sum', in the pinned program and in every row, IS THE sha256 OF THE DUMP (.gsa) THAT YtdajfimollbnlaaProg.lean LOADS. Nothing in Lean hashes anything: it is a label: what it is worth is what the hold of that sum in a sandbox is worth. -/
noncomputable def Try.pinned : Pinned := { name := "ytdajfimollbnlaa", sum := "e852c57d22e50a6b68393179c66f7768bd4b3fc5b22b604568a7e4a57233229d", checked := Try.checked }
namespace Rows
def none {H : Type} : Left H := { results := [], args := [] }

/-- 'actorgridlaw5.ProbeWindows': WHATEVER THE INPUT: true; the input reads as it did. -/
def probeWindowsSpec : ChangeSpec := { name := "probeWindows", fn := fun _ => fun
  | [d1, d2] => { results := [.lit (.bool true)], args := [d1, d2] }
  | _ => none }
def probeWindowsRow : OpenClaim := { program := "ytdajfimollbnlaa", sum := "e852c57d22e50a6b68393179c66f7768bd4b3fc5b22b604568a7e4a57233229d", func := "actorgrid/actorgridlaw5.ProbeWindows", spec := "probeWindows", unfollowed := true, recurses := true, apart := false }
def ProbeWindowsSaid : Prop := probeWindowsRow.holds Try.pinned (OpenSpec.ofChange probeWindowsSpec)

/-- ITS FALSE NEIGHBOUR: 'it returns false'. Refute it at one input. -/
def probeWindowsWrong : ChangeSpec := { name := "probeWindows", fn := fun _ => fun
  | [d1, d2] => { results := [.lit (.bool false)], args := [d1, d2] }
  | _ => none }
def ProbeWindowsWrongFalsely : Prop := probeWindowsRow.holds Try.pinned (OpenSpec.ofChange probeWindowsWrong)

/-- 'actorgridlaw5.ProbeCounts': WHATEVER THE INPUT: true; the input reads as it did. -/
def probeCountsSpec : ChangeSpec := { name := "probeCounts", fn := fun _ => fun
  | [d] => { results := [.lit (.bool true)], args := [d] }
  | _ => none }
def probeCountsRow : OpenClaim := { program := "ytdajfimollbnlaa", sum := "e852c57d22e50a6b68393179c66f7768bd4b3fc5b22b604568a7e4a57233229d", func := "actorgrid/actorgridlaw5.ProbeCounts", spec := "probeCounts", unfollowed := true, recurses := true, apart := false }
def ProbeCountsSaid : Prop := probeCountsRow.holds Try.pinned (OpenSpec.ofChange probeCountsSpec)

/-- ITS FALSE NEIGHBOUR: 'it returns false'. Refute it at one input. -/
def probeCountsWrong : ChangeSpec := { name := "probeCounts", fn := fun _ => fun
  | [d] => { results := [.lit (.bool false)], args := [d] }
  | _ => none }
def ProbeCountsWrongFalsely : Prop := probeCountsRow.holds Try.pinned (OpenSpec.ofChange probeCountsWrong)

/-- 'actorgridlaw5.ProbeStates': WHATEVER THE INPUT: true; the input reads as it did. -/
def probeStatesSpec : ChangeSpec := { name := "probeStates", fn := fun _ => fun
  | [d1, d2, d3, d4] => { results := [.lit (.bool true)], args := [d1, d2, d3, d4] }
  | _ => none }
def probeStatesRow : OpenClaim := { program := "ytdajfimollbnlaa", sum := "e852c57d22e50a6b68393179c66f7768bd4b3fc5b22b604568a7e4a57233229d", func := "actorgrid/actorgridlaw5.ProbeStates", spec := "probeStates", unfollowed := true, recurses := true, apart := false }
def ProbeStatesSaid : Prop := probeStatesRow.holds Try.pinned (OpenSpec.ofChange probeStatesSpec)

/-- ITS FALSE NEIGHBOUR: 'it returns false'. Refute it at one input. -/
def probeStatesWrong : ChangeSpec := { name := "probeStates", fn := fun _ => fun
  | [d1, d2, d3, d4] => { results := [.lit (.bool false)], args := [d1, d2, d3, d4] }
  | _ => none }
def ProbeStatesWrongFalsely : Prop := probeStatesRow.holds Try.pinned (OpenSpec.ofChange probeStatesWrong)

/-- 'actorgridlaw5.ProbePlays': WHATEVER THE INPUT: true; the input reads as it did. -/
def probePlaysSpec : ChangeSpec := { name := "probePlays", fn := fun _ => fun
  | [d1, d2, d3] => { results := [.lit (.bool true)], args := [d1, d2, d3] }
  | _ => none }
def probePlaysRow : OpenClaim := { program := "ytdajfimollbnlaa", sum := "e852c57d22e50a6b68393179c66f7768bd4b3fc5b22b604568a7e4a57233229d", func := "actorgrid/actorgridlaw5.ProbePlays", spec := "probePlays", unfollowed := true, recurses := true, apart := false }
def ProbePlaysSaid : Prop := probePlaysRow.holds Try.pinned (OpenSpec.ofChange probePlaysSpec)

/-- ITS FALSE NEIGHBOUR: 'it returns false'. Refute it at one input. -/
def probePlaysWrong : ChangeSpec := { name := "probePlays", fn := fun _ => fun
  | [d1, d2, d3] => { results := [.lit (.bool false)], args := [d1, d2, d3] }
  | _ => none }
def ProbePlaysWrongFalsely : Prop := probePlaysRow.holds Try.pinned (OpenSpec.ofChange probePlaysWrong)

/-- 'actorgridlaw5.ProbeSilent': WHATEVER THE INPUT: true; the input reads as it did. -/
def probeSilentSpec : ChangeSpec := { name := "probeSilent", fn := fun _ => fun
  | [d1, d2, d3, d4] => { results := [.lit (.bool true)], args := [d1, d2, d3, d4] }
  | _ => none }
def probeSilentRow : OpenClaim := { program := "ytdajfimollbnlaa", sum := "e852c57d22e50a6b68393179c66f7768bd4b3fc5b22b604568a7e4a57233229d", func := "actorgrid/actorgridlaw5.ProbeSilent", spec := "probeSilent", unfollowed := true, recurses := true, apart := false }
def ProbeSilentSaid : Prop := probeSilentRow.holds Try.pinned (OpenSpec.ofChange probeSilentSpec)

/-- ITS FALSE NEIGHBOUR: 'it returns false'. Refute it at one input. -/
def probeSilentWrong : ChangeSpec := { name := "probeSilent", fn := fun _ => fun
  | [d1, d2, d3, d4] => { results := [.lit (.bool false)], args := [d1, d2, d3, d4] }
  | _ => none }
def ProbeSilentWrongFalsely : Prop := probeSilentRow.holds Try.pinned (OpenSpec.ofChange probeSilentWrong)

/-- 'actorgridlaw5.ProbeOnce': WHATEVER THE INPUT: true; the input reads as it did. -/
def probeOnceSpec : ChangeSpec := { name := "probeOnce", fn := fun _ => fun
  | [d1, d2, d3] => { results := [.lit (.bool true)], args := [d1, d2, d3] }
  | _ => none }
def probeOnceRow : OpenClaim := { program := "ytdajfimollbnlaa", sum := "e852c57d22e50a6b68393179c66f7768bd4b3fc5b22b604568a7e4a57233229d", func := "actorgrid/actorgridlaw5.ProbeOnce", spec := "probeOnce", unfollowed := true, recurses := true, apart := false }
def ProbeOnceSaid : Prop := probeOnceRow.holds Try.pinned (OpenSpec.ofChange probeOnceSpec)

/-- ITS FALSE NEIGHBOUR: 'it returns false'. Refute it at one input. -/
def probeOnceWrong : ChangeSpec := { name := "probeOnce", fn := fun _ => fun
  | [d1, d2, d3] => { results := [.lit (.bool false)], args := [d1, d2, d3] }
  | _ => none }
def ProbeOnceWrongFalsely : Prop := probeOnceRow.holds Try.pinned (OpenSpec.ofChange probeOnceWrong)

/- THE SECOND FORM. 'bulk': how many values and letters a reading holds, each counted each time it is reached (what is shared counts as often as it is met; a slice's spare places count too). A statement '..UptoSaid' is the law's where the arguments, and the package variables that the reading takes, are together of bulk at most 1048576: NARROWER than '..Said'. Prove '..Said' where nothing that the law and all that it calls make is longer than what came in: it says more and counts as full. Else prove '..UptoSaid'. A law counts once. -/
mutual
def uptoBulk {H : Type} : DataW H → Nat
  | .lit (.string bytes) => bytes.length + 1
  | .lit _ => 1
  | .nil => 1
  | .ptr d => uptoBulk d + 1
  | .slice elems spare => uptoBulkAll elems + uptoBulkAll spare + 1
  | .agg parts => uptoBulkAll parts + 1
  | .iface _ d => uptoBulk d + 1
  | .map entries => uptoBulkEntries entries + 1
  | .held _ => 1
def uptoBulkAll {H : Type} : List (DataW H) → Nat
  | [] => 0
  | d :: r => uptoBulk d + uptoBulkAll r
def uptoBulkEntries {H : Type} : List (Lit × DataW H) → Nat
  | [] => 0
  | x :: r => uptoBulkEntry x + uptoBulkEntries r
def uptoBulkEntry {H : Type} : Lit × DataW H → Nat
  | (.string bytes, d) => bytes.length + uptoBulk d + 1
  | (_, d) => uptoBulk d + 1
 end
def uptoSmall : (H : Type) → List (DataW H) → Bool := fun _ ds => decide (uptoBulkAll ds ≤ 1048576)
def OpenSpec.upto (s : _root_.Go.ChangeSpec) : _root_.Go.OpenSpec := { _root_.Go.OpenSpec.ofChange s with cond := some uptoSmall }

/-- 'actorgridlaw5.ProbeWindows', WHERE WHAT IT READS IS OF BULK AT MOST 1048576: true; the input reads as it did. -/
def probeWindowsUptoRow : OpenClaim := { program := "ytdajfimollbnlaa", sum := "e852c57d22e50a6b68393179c66f7768bd4b3fc5b22b604568a7e4a57233229d", func := "actorgrid/actorgridlaw5.ProbeWindows", spec := "probeWindows", unfollowed := true, recurses := true, apart := false, narrowed := true }
def ProbeWindowsUptoSaid : Prop := probeWindowsUptoRow.holds Try.pinned (OpenSpec.upto probeWindowsSpec)

/-- 'actorgridlaw5.ProbeCounts', WHERE WHAT IT READS IS OF BULK AT MOST 1048576: true; the input reads as it did. -/
def probeCountsUptoRow : OpenClaim := { program := "ytdajfimollbnlaa", sum := "e852c57d22e50a6b68393179c66f7768bd4b3fc5b22b604568a7e4a57233229d", func := "actorgrid/actorgridlaw5.ProbeCounts", spec := "probeCounts", unfollowed := true, recurses := true, apart := false, narrowed := true }
def ProbeCountsUptoSaid : Prop := probeCountsUptoRow.holds Try.pinned (OpenSpec.upto probeCountsSpec)

/-- 'actorgridlaw5.ProbeStates', WHERE WHAT IT READS IS OF BULK AT MOST 1048576: true; the input reads as it did. -/
def probeStatesUptoRow : OpenClaim := { program := "ytdajfimollbnlaa", sum := "e852c57d22e50a6b68393179c66f7768bd4b3fc5b22b604568a7e4a57233229d", func := "actorgrid/actorgridlaw5.ProbeStates", spec := "probeStates", unfollowed := true, recurses := true, apart := false, narrowed := true }
def ProbeStatesUptoSaid : Prop := probeStatesUptoRow.holds Try.pinned (OpenSpec.upto probeStatesSpec)

/-- 'actorgridlaw5.ProbePlays', WHERE WHAT IT READS IS OF BULK AT MOST 1048576: true; the input reads as it did. -/
def probePlaysUptoRow : OpenClaim := { program := "ytdajfimollbnlaa", sum := "e852c57d22e50a6b68393179c66f7768bd4b3fc5b22b604568a7e4a57233229d", func := "actorgrid/actorgridlaw5.ProbePlays", spec := "probePlays", unfollowed := true, recurses := true, apart := false, narrowed := true }
def ProbePlaysUptoSaid : Prop := probePlaysUptoRow.holds Try.pinned (OpenSpec.upto probePlaysSpec)

/-- 'actorgridlaw5.ProbeSilent', WHERE WHAT IT READS IS OF BULK AT MOST 1048576: true; the input reads as it did. -/
def probeSilentUptoRow : OpenClaim := { program := "ytdajfimollbnlaa", sum := "e852c57d22e50a6b68393179c66f7768bd4b3fc5b22b604568a7e4a57233229d", func := "actorgrid/actorgridlaw5.ProbeSilent", spec := "probeSilent", unfollowed := true, recurses := true, apart := false, narrowed := true }
def ProbeSilentUptoSaid : Prop := probeSilentUptoRow.holds Try.pinned (OpenSpec.upto probeSilentSpec)

/-- 'actorgridlaw5.ProbeOnce', WHERE WHAT IT READS IS OF BULK AT MOST 1048576: true; the input reads as it did. -/
def probeOnceUptoRow : OpenClaim := { program := "ytdajfimollbnlaa", sum := "e852c57d22e50a6b68393179c66f7768bd4b3fc5b22b604568a7e4a57233229d", func := "actorgrid/actorgridlaw5.ProbeOnce", spec := "probeOnce", unfollowed := true, recurses := true, apart := false, narrowed := true }
def ProbeOnceUptoSaid : Prop := probeOnceUptoRow.holds Try.pinned (OpenSpec.upto probeOnceSpec)

end Rows
end Go.Proofs.Ytdajfimollbnlaa
