/- The laws of this seat, part PB25: contracts of the functions, plain laws. No conditions. -/
import Derived.Test.YtbaapljlalgddaaOwA
set_option linter.unusedSimpArgs false
set_option linter.unusedVariables false
set_option maxRecDepth 100000
namespace Go.Proofs.Ytbaapljlalgddaa
open Go.Lift
open Go.ChangeShapes Go.WideShapes Go.ChangeAt Go.RowKit
theorem dat_ref {n : Nat} {r : List DV} (h : Dat tt (n + 2) 24 r) : ∃ x : Ref, r = refE x := by
  obtain ⟨_, _, rfl, ⟨s, rfl, _⟩, _, _, rfl, ⟨s2, rfl, _⟩, rfl⟩ := h
  exact ⟨⟨s, s2⟩, rfl⟩
theorem dat_edge {n : Nat} {r : List DV} (h : Dat tt (n + 3) 38 r) : ∃ x : Edge, r = edgE x := by
  obtain ⟨_, _, rfl, h1, _, _, rfl, h2, _, _, rfl, ⟨m, rfl, _⟩, _, _, rfl, ⟨b, rfl, _⟩, rfl⟩ := h
  obtain ⟨x, rfl⟩ := dat_ref (n := n) h1
  obtain ⟨y, rfl⟩ := dat_ref (n := n) h2
  exact ⟨⟨x, y, m, b⟩, rfl⟩
theorem dat_edges {n : Nat} {r : List DV} (h : Dat tt (n + 4) 22 r) : ∃ d : List Edge, r = [.lst 6 (d.map edgE) false] ∧ d.length ≤ maxLen := by
  obtain ⟨es, rfl, hl, hes⟩ := h
  obtain ⟨d, rfl, _⟩ := list_data (f := edgE) (Q := fun _ => True) (fun r hr => (dat_edge (n := n) (hes r hr)).imp fun _ e => ⟨e, trivial⟩)
  exact ⟨d, rfl, by simpa using hl⟩
theorem law4 (dvs : List DV) (h : DatAll tt 6 [22] dvs) : Ret Try.prog 4 dvs (.v (.bool true)) := by
  obtain ⟨a1, _, rfl, h1, rfl⟩ := h
  obtain ⟨d, rfl, hd⟩ := dat_edges (n := 2) h1
  exact r4 d hd
theorem own4 : ownKnob Try.prog.godebug = none := by kernel_rfl
theorem laidOut4 : laidOutB Try.prog = true := by kernel_rfl
set_option maxRecDepth 100000 in
theorem waitBreaks_lifted (os : Os) (started : os.Started) (H : Type) (enc : TypeId × Value → H) :
    ReturnsInHanded {} Try.checked os 4 .any (Rows.waitBreaksSpec.pre6 enc Try.prog Try.f4 Rows.waitBreaksRow.domain false) (Rows.waitBreaksSpec.post enc Try.prog Try.f4 false true false false) := by
  refine returnsInHanded_of_change (C := Try.checked) own4 started (by kernel_rfl) Try.func4
    (ChangeSpec.witness6 (enc := enc) (C := Try.checked) false ⟨#[], #[.slice none 0 0], []⟩ 8 (by kernel_rfl) (by kernel_rfl) (by kernel_rfl) (by kernel_rfl)) ?_
  intro W base args ds gs before hval hW _ _
  exact law_end hT (n := 6) hval hW rfl (fun ds h => by
    match ds, h with
    | [_], _ => rfl) (by kernel_rfl) (t := 4) (by kernel_rfl) (by kernel_rfl) laidOut4 (by kernel_rfl) law4
theorem waitBreaks_over : Rows.waitBreaksRow.holds Try.pinned (OpenSpec.ofChange Rows.waitBreaksSpec) :=
  OpenClaim.holds_of_wide 4 Try.f4 rfl rfl rfl rfl rfl rfl rfl ⟨rfl, rfl, rfl, rfl, rfl⟩ rfl rfl rfl rfl rfl (by kernel_rfl) Try.func4 (by kernel_rfl)
    (of_decide_eq_true (by kernel_rfl)) (by unfold Func.isWrapper; first | (rw [if_pos (by decide +kernel)]; kernel_rfl) | (rw [if_neg (by decide +kernel)]; exact ⟨rfl, rfl⟩))
    (fun os started H enc _ => waitBreaks_lifted os started H enc)
/-- ████ THE STATEMENT ████ -/
theorem waitBreaks_proved : Rows.WaitBreaksSaid := waitBreaks_over
#print axioms waitBreaks_proved
end Go.Proofs.Ytbaapljlalgddaa
