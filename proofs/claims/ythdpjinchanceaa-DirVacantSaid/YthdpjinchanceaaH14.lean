/- The laws of this seat, part H14: contracts of the functions, plain laws. No conditions. -/
import Derived.Test.YthdpjinchanceaaI14
set_option linter.unusedSimpArgs false
set_option linter.unusedVariables false
namespace Go.Proofs.Ythdpjinchanceaa
open Go.Lift
theorem r3 (d : List Rec) (hl : d.length ≤ maxLen) (v : View) (hv : v.mem.length ≤ maxLen) (c : Cmd) (w : Nat) (hw : w ≤ 255) : Ret Try.prog 3 [.lst 5 (d.map recE) false, .agg (viewE v), .agg (cmdE c), .v (.int .u8 w)] (.v (.bool true)) := by
  have hl' : d.length ≤ 9223372036854775807 := hl
  have hx : (applyR d v c).1.length ≤ maxLen := apply_len d v c
  refine ret_of_body (fn := Try.f3) (c := Try.f3.body.getD .skip) hm hT (by kernel_rfl) Try.func3 (by kernel_rfl) (by kernel_rfl) (by kernel_rfl) (by kernel_rfl) ?_
  repeat' ((conv => whnf); first | refine And.intro (fun h => h) ?_ | refine dcond_t (by assumption) ?_ | refine dcond_f (by assumption) ?_ | (refine dcond_intro ?_ ?_ <;> intro h) | exact .refl | refine And.intro (by kernel_rfl) ?_ | refine And.intro ⟨fun h => h, fun h => h⟩ ?_ | refine ⟨_, _, DleAll_refl _, r7, ?_⟩ | refine ⟨_, _, DleAll_refl _, fun _ => r7, ?_⟩ | refine ⟨_, _, DleAll_refl _, r8 _ hl, ?_⟩ | refine ⟨_, _, DleAll_refl _, fun _ => r8 _ hl, ?_⟩ | refine ⟨_, _, DleAll_refl _, r9 _ hl _ hv _, ?_⟩ | refine ⟨_, _, DleAll_refl _, fun _ => r9 _ hl _ hv _, ?_⟩ | refine ⟨_, _, DleAll_refl _, r10 _ hx _, ?_⟩ | refine ⟨_, _, DleAll_refl _, fun _ => r10 _ hx _, ?_⟩ | (refine And.intro ?_ ?_; focus (simp; done)) | fail)
  all_goals (conv => whnf)
  · refine dle_bool ?_
    have h1 : (applyR d v c).2 ≠ 0 := by simpa using h
    rw [apply_err h1]
    rfl
  · rename_i hgate
    have hok : (applyR d v c).2 = 0 := by simpa using h
    have h0 : d.length ≠ 0 := by
      intro h0
      simp [h0] at hgate
    have hk : w % d.length < d.length := Nat.mod_lt _ (by omega)
    have hlen : d.length ≤ 200 := valid_len (apply_ok hok).1
    have he : Int.tmod (IntKind.i64.wrap (w : Int)) ((d.map recE).length : Int) = ((w % d.length : Nat) : Int) := by
      rw [wrap_i64 (by omega) (by omega), List.length_map]
      rfl
    clear h hgate
    refine And.intro (by simp [h0]) ?_
    conv => whnf
    refine ⟨w % d.length, recE (d[w % d.length]'hk), And.intro ⟨he, get_map hk⟩ ?_⟩
    repeat' ((conv => whnf); first | refine And.intro (fun h => h) ?_ | refine dcond_t (by assumption) ?_ | refine dcond_f (by assumption) ?_ | (refine dcond_intro ?_ ?_ <;> intro h) | exact .refl | refine And.intro (by kernel_rfl) ?_ | refine And.intro ⟨fun h => h, fun h => h⟩ ?_ | refine ⟨_, _, DleAll_refl _, r10 _ hx _, ?_⟩ | refine ⟨_, _, DleAll_refl _, fun _ => r10 _ hx _, ?_⟩ | (refine And.intro ?_ ?_; focus (simp; done)) | fail)
    all_goals (conv => whnf)
    · refine dle_bool ?_
      have hr : d[w % d.length].ref = c.ref := refEq_iff.1 h
      obtain ⟨y, h1, h2⟩ := others_same hk hok hr
      rw [h1]
      simp [h2]
    · refine dle_bool ?_
      have hr : d[w % d.length].ref ≠ c.ref := fun hr => by
        have := refEq_iff.2 hr
        have h : refEq d[w % d.length].ref c.ref = false := h
        rw [this] at h
        cases h
      obtain ⟨h1, h2, h3⟩ := others_else hk hok hr
      rw [h1, List.length_map, List.length_map, wrap_succ (by omega)]
      simp
      omega
theorem dat_ref {n : Nat} {r : List DV} (h : Dat tt (n + 2) 27 r) : ∃ x : Ref, r = refE x := by
  obtain ⟨_, _, rfl, ⟨s, rfl, _⟩, _, _, rfl, ⟨s2, rfl, _⟩, rfl⟩ := h
  exact ⟨⟨s, s2⟩, rfl⟩
theorem dat_rec {n : Nat} {r : List DV} (h : Dat tt (n + 3) 36 r) : ∃ x : Rec, r = recE x := by
  obtain ⟨_, _, rfl, hr, _, _, rfl, ⟨m, rfl, _⟩, _, _, rfl, ⟨e, rfl, _⟩, _, _, rfl, ⟨t, rfl, _⟩, rfl⟩ := h
  obtain ⟨x, rfl⟩ := dat_ref (n := n) hr
  exact ⟨⟨x, m, e, t⟩, rfl⟩
theorem dat_recs {n : Nat} {r : List DV} (h : Dat tt (n + 4) 22 r) : ∃ d : List Rec, r = [.lst 5 (d.map recE) false] ∧ d.length ≤ maxLen := by
  obtain ⟨es, rfl, hl, hes⟩ := h
  obtain ⟨d, rfl, _⟩ := list_data (f := recE) (Q := fun _ => True) (fun r hr => (dat_rec (n := n) (hes r hr)).imp fun _ e => ⟨e, trivial⟩)
  exact ⟨d, rfl, by simpa using hl⟩
theorem dat_ints {n : Nat} {r : List DV} (h : Dat tt (n + 2) 23 r) : ∃ l : List Int, r = [.lst 1 (l.map intE) false] ∧ l.length ≤ maxLen := by
  obtain ⟨es, rfl, hl, hes⟩ := h
  obtain ⟨d, rfl, _⟩ := list_data (f := intE) (Q := fun _ => True) (fun r hr => by
    obtain ⟨i, rfl, _⟩ := hes r hr
    exact ⟨i, rfl, trivial⟩)
  exact ⟨d, rfl, by simpa using hl⟩
theorem dat_view {n : Nat} {r : List DV} (h : Dat tt (n + 3) 25 r) : ∃ v : View, r = viewE v ∧ v.mem.length ≤ maxLen := by
  obtain ⟨_, _, rfl, ⟨m, rfl, _⟩, _, _, rfl, hl, rfl⟩ := h
  obtain ⟨l, rfl, hll⟩ := dat_ints (n := n) hl
  exact ⟨⟨m, l⟩, rfl, hll⟩
theorem dat_cmd {n : Nat} {r : List DV} (h : Dat tt (n + 3) 29 r) : ∃ c : Cmd, r = cmdE c := by
  obtain ⟨_, _, rfl, ⟨k, rfl, _⟩, _, _, rfl, hr, _, _, rfl, ⟨m, rfl, _⟩, _, _, rfl, ⟨e, rfl, _⟩, rfl⟩ := h
  obtain ⟨x, rfl⟩ := dat_ref (n := n) hr
  exact ⟨⟨k, x, m, e⟩, rfl⟩
theorem law3 (dvs : List DV) (h : DatAll tt 5 [22, 25, 29, 5] dvs) : Ret Try.prog 3 dvs (.v (.bool true)) := by
  obtain ⟨a, _, rfl, ha, b, _, rfl, hb, cc, _, rfl, hc, w, _, rfl, hw, rfl⟩ := h
  obtain ⟨d, rfl, hd⟩ := dat_recs (n := 1) ha
  obtain ⟨v, rfl, hv⟩ := dat_view (n := 2) hb
  obtain ⟨c, rfl⟩ := dat_cmd (n := 2) hc
  obtain ⟨i, rfl, hi⟩ := hw
  have hb := bounds_u8 hi
  obtain ⟨n, rfl⟩ : ∃ n : Nat, i = n := ⟨i.toNat, by omega⟩
  exact r3 d hd v hv c n (by omega)
end Go.Proofs.Ythdpjinchanceaa
