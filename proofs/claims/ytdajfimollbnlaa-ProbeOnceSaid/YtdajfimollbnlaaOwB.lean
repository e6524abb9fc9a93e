/- The laws of this seat, part OwB: contracts of the functions, plain laws. No conditions. -/
import Derived.Test.YtdajfimollbnlaaOwA
set_option linter.unusedSimpArgs false
set_option linter.unusedVariables false
namespace Go.Proofs.Ytdajfimollbnlaa
open Go.Lift
theorem take_map {α : Type} {f : α → α} {l : List α} {i : Nat} (h : i < l.length) : (l.take (i + 1)).map f = (l.take i).map f ++ [f l[i]] := by
  rw [List.take_succ_eq_append_getElem h, List.map_append]
  rfl
theorem c_ref5_Heard (d : Det) (hv : d.view.mem.length ≤ maxLen) (he : d.edges.length ≤ maxLen) (id : Int) : Ret Try.prog 25 [.agg (detE d), i64 id] (.agg (detE (heardR d id))) := by
  have e1 := c_ref5_Valid d hv he
  refine ret_of_body (fn := Try.f25) (c := Try.f25.body.getD .skip) hm hT (by kernel_rfl) Try.func25 (by kernel_rfl) (by kernel_rfl) (by kernel_rfl) (by kernel_rfl) ?_
  repeat' ((conv => whnf); first | refine And.intro (fun h => h) ?_ | refine dcond_t (by assumption) ?_ | refine dcond_f (by assumption) ?_ | (refine dcond_intro ?_ ?_ <;> intro h) | exact .refl | refine And.intro (by kernel_rfl) ?_ | refine And.intro ⟨fun h => h, fun h => h⟩ ?_ | refine .inl ⟨_, _, DleAll_refl _, e1, ?_⟩ | refine ⟨_, _, DleAll_refl _, fun _ => e1, ?_⟩ | refine ⟨_, _, DleAll_refl _, e1, ?_⟩ | (refine And.intro ?_ ?_; focus (simp; done)) | fail)
  all_goals (conv => whnf)
  · rw [heardR, h]
    exact dle_aggA ⟨.refl, .refl, .nl, .nl, trivial⟩
  · have hdt : detB d = true := by simpa using h
    have hl := det_len hdt
    rw [heardR, h, cond_false]
    clear h
    refine ⟨Nat, fun i => ⟨[(1, i64 id), (2, .lp 0 0), (4, .lp 1 0), (5, .lp 2 0), (6, i64 i)], [.cells 36 (detE d), .cells 36 [i64 0, i64 0, .nl, .nl], .cells 36 [i64 d.self, i64 d.view.num, .lst 1 (d.view.mem.map intE) false, .own 3], .row 58 6 (((d.edges.take i).map (heardE id)).map edgeE)]⟩, fun i => i ≤ d.edges.length, fun i => d.edges.length - i, [.cell 2 3 58 6], ⟨0, Nat.zero_le _, ?_⟩, ?_⟩
    · conv => whnf
      exact ⟨⟨.refl, .refl, .refl, .refl, .refl, trivial⟩, ⟨.refl, .refl, .refl, .refl, trivial⟩, by rfl⟩
    · intro i hi
      repeat' ((conv => whnf); first | refine And.intro (fun h => h) ?_ | refine dcond_t (by assumption) ?_ | refine dcond_f (by assumption) ?_ | (refine dcond_intro ?_ ?_ <;> intro h) | exact .refl | refine And.intro (by kernel_rfl) ?_ | refine And.intro ⟨fun h => h, fun h => h⟩ ?_ | (refine And.intro ?_ ?_; focus (simp; done)) | fail)
      · have hlt : i < d.edges.length := by simpa using h
        clear h
        have ht := take_map (f := heardE id) hlt
        have hf : heardE id d.edges[i] = ⟨d.edges[i].ring, d.edges[i].subj, d.edges[i].heard || decide (d.edges[i].subj = id), d.edges[i].rep, d.edges[i].win⟩ := by
          unfold heardE
          cases decide (d.edges[i].subj = id) <;> simp
        have hfa : (((d.edges.take i).map (heardE id)).map edgeE).length + 1 ≤ 2000000 := by
          simp
          omega
        repeat' ((conv => whnf); first | refine And.intro (fun h => h) ?_ | refine dcond_t (by assumption) ?_ | refine dcond_f (by assumption) ?_ | (refine dcond_intro ?_ ?_ <;> intro h) | exact .refl | refine And.intro (by kernel_rfl) ?_ | refine And.intro ⟨fun h => h, fun h => h⟩ ?_ | refine ⟨_, _, And.intro ⟨rfl, get_map hlt⟩ ?_⟩ | refine And.intro (fitsE hfa) ?_ | (refine And.intro ?_ ?_; focus (simp; done)) | fail)
        all_goals (conv => whnf)
        refine ⟨i + 1, hlt, by simp only []; omega, ?_⟩
        conv => whnf
        refine ⟨⟨.refl, .refl, .refl, .refl, dle_int (wrap_succ (by omega)), trivial⟩, ⟨.refl, .refl, .refl, ole_row ?_, trivial⟩, by rfl⟩
        rw [ht, hf, List.map_append]
        rfl
      · have : i = d.edges.length := by
          simp at h
          omega
        subst this
        rw [List.take_length]
        repeat' ((conv => whnf); first | refine And.intro (fun h => h) ?_ | refine dcond_t (by assumption) ?_ | refine dcond_f (by assumption) ?_ | (refine dcond_intro ?_ ?_ <;> intro h) | exact .refl | refine And.intro (by kernel_rfl) ?_ | refine And.intro ⟨fun h => h, fun h => h⟩ ?_ | (refine And.intro ?_ ?_; focus (simp; done)) | fail)
theorem c_ref5_Tick (d : Det) (hv : d.view.mem.length ≤ maxLen) (he : d.edges.length ≤ maxLen) (hb : ∀ e ∈ d.edges, 0 ≤ e.win.bits) : Ret Try.prog 20 [.agg (detE d)] (.tup [.agg (detE (tickR d).1), .lst 4 ((tickR d).2.map alE) false]) := by
  have e1 := c_ref5_Valid d hv he
  refine ret_of_body (fn := Try.f20) (c := Try.f20.body.getD .skip) hm hT (by kernel_rfl) Try.func20 (by kernel_rfl) (by kernel_rfl) (by kernel_rfl) (by kernel_rfl) ?_
  repeat' ((conv => whnf); first | refine And.intro (fun h => h) ?_ | refine dcond_t (by assumption) ?_ | refine dcond_f (by assumption) ?_ | (refine dcond_intro ?_ ?_ <;> intro h) | exact .refl | refine And.intro (by kernel_rfl) ?_ | refine And.intro ⟨fun h => h, fun h => h⟩ ?_ | refine .inl ⟨_, _, DleAll_refl _, e1, ?_⟩ | refine ⟨_, _, DleAll_refl _, fun _ => e1, ?_⟩ | refine ⟨_, _, DleAll_refl _, e1, ?_⟩ | (refine And.intro ?_ ?_; focus (simp; done)) | fail)
  all_goals (conv => whnf)
  · rw [tickR, h]
    exact dle_tupA ⟨dle_aggA ⟨.refl, .refl, .nl, .nl, trivial⟩, .nl, trivial⟩
  · have hdt : detB d = true := by simpa using h
    have hl := det_len hdt
    rw [tickR, h, cond_false]
    clear h
    refine ⟨Nat, fun i => ⟨[(1, .lp 0 0), (2, .lp 1 0), (4, .lp 2 0), (5, .own 4), (6, i64 i)], [.cells 36 (detE d), .cells 36 [i64 0, i64 0, .nl, .nl], .cells 36 [i64 d.self, i64 d.view.num, .lst 1 (d.view.mem.map intE) false, .own 3], .row 58 6 (((d.edges.take i).map tickE).map edgeE), .row 52 4 ((alsAt d i).map alE)]⟩, fun i => i ≤ d.edges.length, fun i => d.edges.length - i, [.cell 2 3 58 6, .slot 5 52 4], ⟨0, Nat.zero_le _, ?_⟩, ?_⟩
    · conv => whnf
      exact ⟨⟨.refl, .refl, .refl, .refl, .refl, trivial⟩, ⟨.refl, .refl, .refl, .refl, .refl, trivial⟩, by rfl⟩
    · intro i hi
      repeat' ((conv => whnf); first | refine And.intro (fun h => h) ?_ | refine dcond_t (by assumption) ?_ | refine dcond_f (by assumption) ?_ | (refine dcond_intro ?_ ?_ <;> intro h) | exact .refl | refine And.intro (by kernel_rfl) ?_ | refine And.intro ⟨fun h => h, fun h => h⟩ ?_ | (refine And.intro ?_ ?_; focus (simp; done)) | fail)
      · have hlt : i < d.edges.length := by simpa using h
        clear h
        have ht := take_map (f := tickE) hlt
        have hsa := alsAt_succ d i hlt
        have hla := alsAt_len d i
        have hfa : ((alsAt d i).map alE).length + 1 ≤ 2000000 := by rw [List.length_map]; omega
        have hfe : (((d.edges.take i).map tickE).map edgeE).length + 1 ≤ 2000000 := by
          simp
          omega
        have hbi := hb d.edges[i] (List.getElem_mem hlt)
        have hbr := rec_rng (w := d.edges[i].win) hbi d.edges[i].heard
        have er := c_ref5_Record d.edges[i].win hbi d.edges[i].heard
        have ef := c_ref5_Failing (recR d.edges[i].win d.edges[i].heard) hbr
        have htk : tickE d.edges[i] = ⟨d.edges[i].ring, d.edges[i].subj, false, d.edges[i].rep || failR (recR d.edges[i].win d.edges[i].heard), recR d.edges[i].win d.edges[i].heard⟩ := rfl
        have hht : hitE d.edges[i] = (failR (recR d.edges[i].win d.edges[i].heard) && !d.edges[i].rep) := rfl
        have hal : alrOf d d.edges[i] = ⟨d.view.num, d.edges[i].ring, d.self, d.edges[i].subj⟩ := rfl
        have hgx : (d.edges.map edgeE)[i]? = some (edgeE d.edges[i]) := get_map hlt
        generalize hx : d.edges[i] = x at *
        obtain ⟨xr, xs, xh, xp, xw⟩ := x
        simp only [] at hbi hbr er ef htk hht hal
        generalize recR xw xh = w at *
        generalize failR w = fl at *
        repeat' ((conv => whnf); first | refine And.intro (fun h => h) ?_ | refine dcond_t (by assumption) ?_ | refine dcond_f (by assumption) ?_ | (refine dcond_intro ?_ ?_ <;> intro h) | exact .refl | refine And.intro (by kernel_rfl) ?_ | refine And.intro ⟨fun h => h, fun h => h⟩ ?_ | refine ⟨i, _, And.intro ⟨rfl, hgx⟩ ?_⟩ | refine .inl ⟨_, _, DleAll_refl _, er, ?_⟩ | refine ⟨_, _, DleAll_refl _, fun _ => er, ?_⟩ | refine ⟨_, _, DleAll_refl _, er, ?_⟩ | refine .inl ⟨_, _, DleAll_refl _, ef, ?_⟩ | refine ⟨_, _, DleAll_refl _, fun _ => ef, ?_⟩ | refine ⟨_, _, DleAll_refl _, ef, ?_⟩ | refine And.intro (fitsA hfa) ?_ | refine And.intro (fitsE hfe) ?_ | (refine And.intro ?_ ?_; focus (simp; done)) | fail)
        all_goals (conv => whnf)
        all_goals refine ⟨i + 1, hlt, by simp only []; omega, ?_⟩
        all_goals (conv => whnf)
        all_goals refine ⟨⟨.refl, .refl, .refl, .refl, dle_int (wrap_succ (by omega)), trivial⟩, ⟨.refl, .refl, .refl, ole_row ?_, ole_row ?_, trivial⟩, by rfl⟩
        · rw [ht, htk, List.map_append]
          have hpf : (xp || fl) = true := by
            cases xp <;> cases fl <;> simp_all
          rw [hpf]
          rfl
        · rw [hsa, hht, h, cond_true, List.map_append, hal]
          rfl
        · rw [ht, htk, List.map_append]
          have hpf : (xp || fl) = xp := by
            cases xp <;> cases fl <;> simp_all
          rw [hpf]
          rfl
        · rw [hsa, hht, h, cond_false, List.append_nil]
      · have : i = d.edges.length := by
          simp at h
          omega
        subst this
        rw [List.take_length]
        repeat' ((conv => whnf); first | refine And.intro (fun h => h) ?_ | refine dcond_t (by assumption) ?_ | refine dcond_f (by assumption) ?_ | (refine dcond_intro ?_ ?_ <;> intro h) | exact .refl | refine And.intro (by kernel_rfl) ?_ | refine And.intro ⟨fun h => h, fun h => h⟩ ?_ | (refine And.intro ?_ ?_; focus (simp; done)) | fail)
end Go.Proofs.Ytdajfimollbnlaa

set_option linter.unusedSimpArgs false
set_option linter.unusedVariables false
namespace Go.Proofs.Ytdajfimollbnlaa
open Go.Lift
theorem c_Small (d : Det) (hv : d.view.mem.length ≤ maxLen) (he : d.edges.length ≤ maxLen) : Ret Try.prog 16 [.agg (detE d)] (.v (.bool (decide ((d.view.mem.length : Int) ≤ 60) && decide ((d.edges.length : Int) ≤ 60)))) := by
  refine ret_of_body (fn := Try.f16) (c := Try.f16.body.getD .skip) hm hT (by kernel_rfl) Try.func16 (by kernel_rfl) (by kernel_rfl) (by kernel_rfl) (by kernel_rfl) ?_
  repeat' ((conv => whnf); first | refine And.intro (fun h => h) ?_ | refine dcond_t (by assumption) ?_ | refine dcond_f (by assumption) ?_ | (refine dcond_intro ?_ ?_ <;> intro h) | exact .refl | refine And.intro (by kernel_rfl) ?_ | refine And.intro ⟨fun h => h, fun h => h⟩ ?_ | (refine And.intro ?_ ?_; focus (simp; done)) | fail)
  all_goals (conv => whnf)
  refine dle_bool ?_
  rw [List.length_map, List.length_map]
theorem c_alerts (A : List Alr) (hA : A.length ≤ maxLen) : Ret Try.prog 26 [.lst 4 (A.map alE) false, .lst 4 (A.map alE) false] (.v (.bool true)) := by
  have hA' : A.length ≤ 9223372036854775807 := hA
  refine ret_of_body (fn := Try.f26) (c := Try.f26.body.getD .skip) hm hT (by kernel_rfl) Try.func26 (by kernel_rfl) (by kernel_rfl) (by kernel_rfl) (by kernel_rfl) ?_
  repeat' ((conv => whnf); first | refine And.intro (fun h => h) ?_ | refine dcond_t (by assumption) ?_ | refine dcond_f (by assumption) ?_ | (refine dcond_intro ?_ ?_ <;> intro h) | exact .refl | refine And.intro (by kernel_rfl) ?_ | refine And.intro ⟨fun h => h, fun h => h⟩ ?_ | (refine And.intro ?_ ?_; focus (simp; done)) | fail)
  · simp at h
  · clear h
    repeat' ((conv => whnf); first | refine And.intro (fun h => h) ?_ | refine dcond_t (by assumption) ?_ | refine dcond_f (by assumption) ?_ | (refine dcond_intro ?_ ?_ <;> intro h) | exact .refl | refine And.intro (by kernel_rfl) ?_ | refine And.intro ⟨fun h => h, fun h => h⟩ ?_ | (refine And.intro ?_ ?_; focus (simp; done)) | fail)
    all_goals (conv => whnf)
    refine ⟨Nat, fun i => ⟨[(0, .lst 4 (A.map alE) false), (1, .lst 4 (A.map alE) false), (5, i64 i)], []⟩, fun i => i ≤ A.length, fun i => A.length - i, [], ⟨0, Nat.zero_le _, ?_⟩, ?_⟩
    · exact ⟨by repeat' ((conv => whnf); first | exact trivial | refine And.intro (by (conv => arg 1; whnf); first | (with_reducible exact .refl) | exact dle_int (wrap_succ (by omega)) | exact .refl) ?_), by repeat' ((conv => whnf); first | exact trivial | refine And.intro ?_ ?_ | exact .refl), rfl⟩
    · intro i hi
      repeat' ((conv => whnf); first | refine And.intro (fun h => h) ?_ | refine dcond_t (by assumption) ?_ | refine dcond_f (by assumption) ?_ | (refine dcond_intro ?_ ?_ <;> intro h) | exact .refl | refine And.intro (by kernel_rfl) ?_ | refine And.intro ⟨fun h => h, fun h => h⟩ ?_ | (refine And.intro ?_ ?_; focus (simp; done)) | fail)
      · have hlt : i < A.length := by simpa using h
        clear h
        repeat' ((conv => whnf); first | refine And.intro (fun h => h) ?_ | refine dcond_t (by assumption) ?_ | refine dcond_f (by assumption) ?_ | (refine dcond_intro ?_ ?_ <;> intro h) | exact .refl | refine And.intro (by kernel_rfl) ?_ | refine And.intro ⟨fun h => h, fun h => h⟩ ?_ | refine ⟨_, _, And.intro ⟨rfl, get_map hlt⟩ ?_⟩ | (refine And.intro ?_ ?_; focus (simp; done)) | fail)
        · simp at h
        · conv => whnf
          refine ⟨i + 1, hlt, by simp only []; omega, ?_⟩
          conv => whnf
          exact ⟨⟨.refl, .refl, dle_int (wrap_succ (by omega)), trivial⟩, trivial, by rfl⟩
theorem c_ref3_Same_refl (v : View) (hv : v.mem.length ≤ maxLen) : Ret Try.prog 36 [.agg (viewE v), .agg (viewE v)] (.v (.bool true)) := by
  have e := c_ref1_SameInts v.mem v.mem hv
  rw [sameI_refl] at e
  refine ret_of_body (fn := Try.f36) (c := Try.f36.body.getD .skip) hm hT (by kernel_rfl) Try.func36 (by kernel_rfl) (by kernel_rfl) (by kernel_rfl) (by kernel_rfl) ?_
  repeat' ((conv => whnf); first | refine And.intro (fun h => h) ?_ | refine dcond_t (by assumption) ?_ | refine dcond_f (by assumption) ?_ | (refine dcond_intro ?_ ?_ <;> intro h) | exact .refl | refine And.intro (by kernel_rfl) ?_ | refine And.intro ⟨fun h => h, fun h => h⟩ ?_ | refine .inl ⟨_, _, DleAll_refl _, e, ?_⟩ | refine ⟨_, _, DleAll_refl _, fun _ => e, ?_⟩ | refine ⟨_, _, DleAll_refl _, e, ?_⟩ | (refine And.intro ?_ ?_; focus (simp; done)) | fail)
  all_goals (conv => whnf)
  all_goals refine dle_bool ?_
  all_goals simp
theorem c_ref5_Same_refl (d : Det) (hv : d.view.mem.length ≤ maxLen) (he : d.edges.length ≤ maxLen) : Ret Try.prog 21 [.agg (detE d), .agg (detE d)] (.v (.bool true)) := by
  have he' : d.edges.length ≤ 9223372036854775807 := he
  have e := c_ref3_Same_refl d.view hv
  refine ret_of_body (fn := Try.f21) (c := Try.f21.body.getD .skip) hm hT (by kernel_rfl) Try.func21 (by kernel_rfl) (by kernel_rfl) (by kernel_rfl) (by kernel_rfl) ?_
  repeat' ((conv => whnf); first | refine And.intro (fun h => h) ?_ | refine dcond_t (by assumption) ?_ | refine dcond_f (by assumption) ?_ | (refine dcond_intro ?_ ?_ <;> intro h) | exact .refl | refine And.intro (by kernel_rfl) ?_ | refine And.intro ⟨fun h => h, fun h => h⟩ ?_ | refine .inl ⟨_, _, DleAll_refl _, e, ?_⟩ | refine ⟨_, _, DleAll_refl _, fun _ => e, ?_⟩ | refine ⟨_, _, DleAll_refl _, e, ?_⟩ | (refine And.intro ?_ ?_; focus (simp; done)) | fail)
  · simp at h
  · clear h
    repeat' ((conv => whnf); first | refine And.intro (fun h => h) ?_ | refine dcond_t (by assumption) ?_ | refine dcond_f (by assumption) ?_ | (refine dcond_intro ?_ ?_ <;> intro h) | exact .refl | refine And.intro (by kernel_rfl) ?_ | refine And.intro ⟨fun h => h, fun h => h⟩ ?_ | (refine And.intro ?_ ?_; focus (simp; done)) | fail)
    all_goals (conv => whnf)
    refine ⟨Nat, fun i => ⟨[(2, .lp 0 0), (3, .lp 1 0), (5, i64 i)], [.cells 36 (detE d), .cells 36 (detE d)]⟩, fun i => i ≤ d.edges.length, fun i => d.edges.length - i, [], ⟨0, Nat.zero_le _, ?_⟩, ?_⟩
    · conv => whnf
      exact ⟨⟨.refl, .refl, .refl, trivial⟩, ⟨.refl, .refl, trivial⟩, by rfl⟩
    · intro i hi
      repeat' ((conv => whnf); first | refine And.intro (fun h => h) ?_ | refine dcond_t (by assumption) ?_ | refine dcond_f (by assumption) ?_ | (refine dcond_intro ?_ ?_ <;> intro h) | exact .refl | refine And.intro (by kernel_rfl) ?_ | refine And.intro ⟨fun h => h, fun h => h⟩ ?_ | (refine And.intro ?_ ?_; focus (simp; done)) | fail)
      · have hlt : i < d.edges.length := by simpa using h
        clear h
        repeat' ((conv => whnf); first | refine And.intro (fun h => h) ?_ | refine dcond_t (by assumption) ?_ | refine dcond_f (by assumption) ?_ | (refine dcond_intro ?_ ?_ <;> intro h) | exact .refl | refine And.intro (by kernel_rfl) ?_ | refine And.intro ⟨fun h => h, fun h => h⟩ ?_ | refine ⟨_, _, And.intro ⟨rfl, get_map hlt⟩ ?_⟩ | (refine And.intro ?_ ?_; focus (simp; done)) | fail)
        · simp at h
        · conv => whnf
          refine ⟨i + 1, hlt, by simp only []; omega, ?_⟩
          conv => whnf
          exact ⟨⟨.refl, .refl, dle_int (wrap_succ (by omega)), trivial⟩, ⟨.refl, .refl, trivial⟩, by rfl⟩
theorem new_len (v : View) (s : Int) : (newR v s).1.view.mem.length ≤ v.mem.length ∧ (newR v s).1.edges.length ≤ 5 := by
  unfold newR
  cases (!viewB v || !inB v.mem s)
  · refine ⟨Nat.le_refl _, ?_⟩
    simp only [cond_false]
    rw [edgesAt_len]
    exact subj_len _ _
  · simp [det0]
theorem heard_len (d : Det) (i : Int) : (heardR d i).view.mem.length ≤ d.view.mem.length ∧ (heardR d i).edges.length ≤ d.edges.length := by
  unfold heardR
  cases detB d <;> simp [det0]
theorem tick_len (d : Det) : (tickR d).1.view.mem.length ≤ d.view.mem.length ∧ (tickR d).1.edges.length ≤ d.edges.length ∧ (tickR d).2.length ≤ d.edges.length := by
  have := alsAt_len d d.edges.length
  unfold tickR
  cases detB d <;> simp [det0, this]
theorem r5 (d : Det) (hv : d.view.mem.length ≤ maxLen) (he : d.edges.length ≤ maxLen) (hb : ∀ e ∈ d.edges, 0 ≤ e.win.bits) (v : View) (hv2 : v.mem.length ≤ maxLen) (self id : Int) : Ret Try.prog 5 [.agg (detE d), .agg (viewE v), i64 self, i64 id] (.v (.bool true)) := by
  have l1 := new_len v self
  have l2 := heard_len d id
  have l3 := tick_len d
  have h5 : 5 ≤ maxLen := by decide
  have e1 := c_probe_New v hv2 self
  have e2 := c_ref5_New v hv2 self
  have e3 := c_ref5_Same_refl (newR v self).1 (by omega) (by omega)
  have e4 := c_probe_Valid d hv he
  have e5 := c_ref5_Valid d hv he
  have e6 := c_probe_Heard d hv he id
  have e7 := c_ref5_Heard d hv he id
  have e8 := c_ref5_Same_refl (heardR d id) (by omega) (by omega)
  have e9 := c_probe_Tick d hv he hb
  have e10 := c_ref5_Tick d hv he hb
  have e11 := c_ref5_Same_refl (tickR d).1 (by omega) (by omega)
  have e12 := c_alerts (tickR d).2 (by omega)
  have e13 := c_Small d hv he
  generalize newR v self = N at *
  generalize heardR d id = H at *
  generalize tickR d = T at *
  generalize detB d = D at *
  obtain ⟨N1, N2⟩ := N
  obtain ⟨T1, T2⟩ := T
  simp only [] at e1 e2 e3 e9 e10 e11 e12
  refine ret_of_body (fn := Try.f5) (c := Try.f5.body.getD .skip) hm hT (by kernel_rfl) Try.func5 (by kernel_rfl) (by kernel_rfl) (by kernel_rfl) (by kernel_rfl) ?_
  repeat' ((conv => whnf); first | refine And.intro (fun h => h) ?_ | refine dcond_t (by assumption) ?_ | refine dcond_f (by assumption) ?_ | (refine dcond_intro ?_ ?_ <;> intro h) | exact .refl | refine And.intro (by kernel_rfl) ?_ | refine And.intro ⟨fun h => h, fun h => h⟩ ?_ | refine .inl ⟨_, _, DleAll_refl _, c_awake, ?_⟩ | refine ⟨_, _, DleAll_refl _, fun _ => c_awake, ?_⟩ | refine ⟨_, _, DleAll_refl _, c_awake, ?_⟩ | refine .inl ⟨_, _, DleAll_refl _, e13, ?_⟩ | refine ⟨_, _, DleAll_refl _, fun _ => e13, ?_⟩ | refine ⟨_, _, DleAll_refl _, e13, ?_⟩ | (refine And.intro ?_ ?_; focus (simp; done)) | fail)
  · repeat' ((conv => whnf); first | refine And.intro (fun h => h) ?_ | refine dcond_t (by assumption) ?_ | refine dcond_f (by assumption) ?_ | (refine dcond_intro ?_ ?_ <;> intro h) | exact .refl | refine And.intro (by kernel_rfl) ?_ | refine And.intro ⟨fun h => h, fun h => h⟩ ?_ | refine .inl ⟨_, _, DleAll_refl _, e1, ?_⟩ | refine ⟨_, _, DleAll_refl _, fun _ => e1, ?_⟩ | refine ⟨_, _, DleAll_refl _, e1, ?_⟩ | refine .inl ⟨_, _, DleAll_refl _, e2, ?_⟩ | refine ⟨_, _, DleAll_refl _, fun _ => e2, ?_⟩ | refine ⟨_, _, DleAll_refl _, e2, ?_⟩ | refine .inl ⟨_, _, DleAll_refl _, e9, ?_⟩ | refine ⟨_, _, DleAll_refl _, fun _ => e9, ?_⟩ | refine ⟨_, _, DleAll_refl _, e9, ?_⟩ | refine .inl ⟨_, _, DleAll_refl _, e10, ?_⟩ | refine ⟨_, _, DleAll_refl _, fun _ => e10, ?_⟩ | refine ⟨_, _, DleAll_refl _, e10, ?_⟩ | refine .inl ⟨_, _, DleAll_refl _, e3, ?_⟩ | refine ⟨_, _, DleAll_refl _, fun _ => e3, ?_⟩ | refine ⟨_, _, DleAll_refl _, e3, ?_⟩ | refine .inl ⟨_, _, DleAll_refl _, e4, ?_⟩ | refine ⟨_, _, DleAll_refl _, fun _ => e4, ?_⟩ | refine ⟨_, _, DleAll_refl _, e4, ?_⟩ | refine .inl ⟨_, _, DleAll_refl _, e5, ?_⟩ | refine ⟨_, _, DleAll_refl _, fun _ => e5, ?_⟩ | refine ⟨_, _, DleAll_refl _, e5, ?_⟩ | refine .inl ⟨_, _, DleAll_refl _, e6, ?_⟩ | refine ⟨_, _, DleAll_refl _, fun _ => e6, ?_⟩ | refine ⟨_, _, DleAll_refl _, e6, ?_⟩ | refine .inl ⟨_, _, DleAll_refl _, e7, ?_⟩ | refine ⟨_, _, DleAll_refl _, fun _ => e7, ?_⟩ | refine ⟨_, _, DleAll_refl _, e7, ?_⟩ | refine .inl ⟨_, _, DleAll_refl _, e8, ?_⟩ | refine ⟨_, _, DleAll_refl _, fun _ => e8, ?_⟩ | refine ⟨_, _, DleAll_refl _, e8, ?_⟩ | refine .inl ⟨_, _, DleAll_refl _, e11, ?_⟩ | refine ⟨_, _, DleAll_refl _, fun _ => e11, ?_⟩ | refine ⟨_, _, DleAll_refl _, e11, ?_⟩ | refine .inl ⟨_, _, DleAll_refl _, e12, ?_⟩ | refine ⟨_, _, DleAll_refl _, fun _ => e12, ?_⟩ | refine ⟨_, _, DleAll_refl _, e12, ?_⟩ | (refine And.intro ?_ ?_; focus (simp; done)) | fail)
    all_goals (conv => whnf)
    all_goals refine dle_bool ?_
    all_goals simp
theorem new_bits (v : View) (s : Int) : ∀ e ∈ (newR v s).1.edges, 0 ≤ e.win.bits := by
  unfold newR
  cases (!viewB v || !inB v.mem s)
  · simp only [cond_false]
    intro e he
    simp only [edgesAt, List.mem_map] at he
    obtain ⟨k, _, rfl⟩ := he
    exact Int.le_refl _
  · simp [det0]
theorem heard_bits {d : Det} (hb : ∀ e ∈ d.edges, 0 ≤ e.win.bits) (i : Int) : ∀ e ∈ (heardR d i).edges, 0 ≤ e.win.bits := by
  unfold heardR
  cases detB d
  · simp [det0]
  · simp only [Bool.not_true, cond_false]
    intro e he
    simp only [List.mem_map] at he
    obtain ⟨k, hk, rfl⟩ := he
    unfold heardE
    cases decide (k.subj = i)
    · exact hb k hk
    · exact hb k hk
theorem tick_bits {d : Det} (hb : ∀ e ∈ d.edges, 0 ≤ e.win.bits) : ∀ e ∈ (tickR d).1.edges, 0 ≤ e.win.bits := by
  unfold tickR
  cases detB d
  · simp [det0]
  · simp only [Bool.not_true, cond_false]
    intro e he
    simp only [List.mem_map] at he
    obtain ⟨k, hk, rfl⟩ := he
    exact rec_rng (hb k hk) k.heard
def playI (d : Det) : Prop := d.view.mem.length ≤ maxLen ∧ d.edges.length ≤ maxLen ∧ ∀ e ∈ d.edges, 0 ≤ e.win.bits
theorem play_heard {d : Det} (h : playI d) (i : Int) : playI (heardR d i) := by
  have l2 := heard_len d i
  exact ⟨Nat.le_trans l2.1 h.1, Nat.le_trans l2.2 h.2.1, heard_bits h.2.2 i⟩
theorem play_tick {d : Det} (h : playI d) : playI (tickR d).1 := by
  have l2 := tick_len d
  exact ⟨Nat.le_trans l2.1 h.1, Nat.le_trans l2.2.1 h.2.1, tick_bits h.2.2⟩
theorem play_new {v : View} (hv : v.mem.length ≤ maxLen) (s : Int) : playI (newR v s).1 := by
  have l2 := new_len v s
  exact ⟨Nat.le_trans l2.1 hv, Nat.le_trans l2.2 (by decide), new_bits v s⟩
theorem r6 (v : View) (hv : v.mem.length ≤ maxLen) (self : Int) (l : List Int) (hl : l.length ≤ maxLen) : Ret Try.prog 6 [.agg (viewE v), i64 self, .lst 1 (l.map intE) false] (.v (.bool true)) := by
  have hl' : l.length ≤ 9223372036854775807 := hl
  have p0 := play_new hv self
  have e1 := c_probe_New v hv self
  have e2 := c_ref5_New v hv self
  generalize newR v self = N at *
  obtain ⟨N1, N2⟩ := N
  simp only [] at e1 e2 p0
  refine ret_of_body (fn := Try.f6) (c := Try.f6.body.getD .skip) hm hT (by kernel_rfl) Try.func6 (by kernel_rfl) (by kernel_rfl) (by kernel_rfl) (by kernel_rfl) ?_
  repeat' ((conv => whnf); first | refine And.intro (fun h => h) ?_ | refine dcond_t (by assumption) ?_ | refine dcond_f (by assumption) ?_ | (refine dcond_intro ?_ ?_ <;> intro h) | exact .refl | refine And.intro (by kernel_rfl) ?_ | refine And.intro ⟨fun h => h, fun h => h⟩ ?_ | refine .inl ⟨_, _, DleAll_refl _, c_awake, ?_⟩ | refine ⟨_, _, DleAll_refl _, fun _ => c_awake, ?_⟩ | refine ⟨_, _, DleAll_refl _, c_awake, ?_⟩ | (refine And.intro ?_ ?_; focus (simp; done)) | fail)
  clear h
  repeat' ((conv => whnf); first | refine And.intro (fun h => h) ?_ | refine dcond_t (by assumption) ?_ | refine dcond_f (by assumption) ?_ | (refine dcond_intro ?_ ?_ <;> intro h) | exact .refl | refine And.intro (by kernel_rfl) ?_ | refine And.intro ⟨fun h => h, fun h => h⟩ ?_ | refine .inl ⟨_, _, DleAll_refl _, e1, ?_⟩ | refine ⟨_, _, DleAll_refl _, fun _ => e1, ?_⟩ | refine ⟨_, _, DleAll_refl _, e1, ?_⟩ | refine .inl ⟨_, _, DleAll_refl _, e2, ?_⟩ | refine ⟨_, _, DleAll_refl _, fun _ => e2, ?_⟩ | refine ⟨_, _, DleAll_refl _, e2, ?_⟩ | (refine And.intro ?_ ?_; focus (simp; done)) | fail)
  · simp at h
  · clear h
    repeat' ((conv => whnf); first | refine And.intro (fun h => h) ?_ | refine dcond_t (by assumption) ?_ | refine dcond_f (by assumption) ?_ | (refine dcond_intro ?_ ?_ <;> intro h) | exact .refl | refine And.intro (by kernel_rfl) ?_ | refine And.intro ⟨fun h => h, fun h => h⟩ ?_ | (refine And.intro ?_ ?_; focus (simp; done)) | fail)
    all_goals (conv => whnf)
    refine ⟨Nat × Det, fun x => ⟨[(2, .lst 1 (l.map intE) false), (7, .lp 1 0), (9, .lp 2 0), (11, i64 x.1)], [.cells 33 (viewE v), .cells 36 (detE x.2), .cells 36 (detE x.2)]⟩, fun x => x.1 ≤ l.length ∧ playI x.2, fun x => l.length - x.1, [], ⟨⟨0, N1⟩, ⟨Nat.zero_le _, p0⟩, ?_⟩, ?_⟩
    · conv => whnf
      exact ⟨⟨.refl, .refl, .refl, .refl, trivial⟩, ⟨.refl, .refl, .refl, trivial⟩, by rfl⟩
    · intro ⟨i, d⟩ ⟨hi, hp⟩
      simp only [] at hi hp
      repeat' ((conv => whnf); first | refine And.intro (fun h => h) ?_ | refine dcond_t (by assumption) ?_ | refine dcond_f (by assumption) ?_ | (refine dcond_intro ?_ ?_ <;> intro h) | exact .refl | refine And.intro (by kernel_rfl) ?_ | refine And.intro ⟨fun h => h, fun h => h⟩ ?_ | (refine And.intro ?_ ?_; focus (simp; done)) | fail)
      · have hlt : i < l.length := by simpa using h
        clear h
        have e6 := c_probe_Heard d hp.1 hp.2.1 l[i]
        have e7 := c_ref5_Heard d hp.1 hp.2.1 l[i]
        have e9 := c_probe_Tick d hp.1 hp.2.1 hp.2.2
        have e10 := c_ref5_Tick d hp.1 hp.2.1 hp.2.2
        have ph := play_heard hp l[i]
        have pt := play_tick hp
        have l3 := tick_len d
        have e12 := c_alerts (tickR d).2 (Nat.le_trans l3.2.2 hp.2.1)
        generalize heardR d l[i] = H at *
        generalize tickR d = T at *
        obtain ⟨T1, T2⟩ := T
        simp only [] at e9 e10 e12 pt
        repeat' ((conv => whnf); first | refine And.intro (fun h => h) ?_ | refine dcond_t (by assumption) ?_ | refine dcond_f (by assumption) ?_ | (refine dcond_intro ?_ ?_ <;> intro h) | exact .refl | refine And.intro (by kernel_rfl) ?_ | refine And.intro ⟨fun h => h, fun h => h⟩ ?_ | refine ⟨_, _, And.intro ⟨rfl, get_map hlt⟩ ?_⟩ | refine .inl ⟨_, _, DleAll_refl _, e6, ?_⟩ | refine ⟨_, _, DleAll_refl _, fun _ => e6, ?_⟩ | refine ⟨_, _, DleAll_refl _, e6, ?_⟩ | refine .inl ⟨_, _, DleAll_refl _, e7, ?_⟩ | refine ⟨_, _, DleAll_refl _, fun _ => e7, ?_⟩ | refine ⟨_, _, DleAll_refl _, e7, ?_⟩ | refine .inl ⟨_, _, DleAll_refl _, e9, ?_⟩ | refine ⟨_, _, DleAll_refl _, fun _ => e9, ?_⟩ | refine ⟨_, _, DleAll_refl _, e9, ?_⟩ | refine .inl ⟨_, _, DleAll_refl _, e10, ?_⟩ | refine ⟨_, _, DleAll_refl _, fun _ => e10, ?_⟩ | refine ⟨_, _, DleAll_refl _, e10, ?_⟩ | refine .inl ⟨_, _, DleAll_refl _, e12, ?_⟩ | refine ⟨_, _, DleAll_refl _, fun _ => e12, ?_⟩ | refine ⟨_, _, DleAll_refl _, e12, ?_⟩ | (refine And.intro ?_ ?_; focus (simp; done)) | fail)
        · conv => whnf
          refine ⟨⟨i + 1, H⟩, ⟨hlt, ph⟩, by simp only []; omega, ?_⟩
          conv => whnf
          exact ⟨⟨.refl, .refl, .refl, dle_int (wrap_succ (by omega)), trivial⟩, ⟨.refl, .refl, .refl, trivial⟩, by rfl⟩
        · conv => whnf
          refine ⟨⟨i + 1, T1⟩, ⟨hlt, pt⟩, by simp only []; omega, ?_⟩
          conv => whnf
          exact ⟨⟨.refl, .refl, .refl, dle_int (wrap_succ (by omega)), trivial⟩, ⟨.refl, .refl, .refl, trivial⟩, by rfl⟩
      · have e3 := c_ref5_Same_refl d hp.1 hp.2.1
        repeat' ((conv => whnf); first | refine And.intro (fun h => h) ?_ | refine dcond_t (by assumption) ?_ | refine dcond_f (by assumption) ?_ | (refine dcond_intro ?_ ?_ <;> intro h) | exact .refl | refine And.intro (by kernel_rfl) ?_ | refine And.intro ⟨fun h => h, fun h => h⟩ ?_ | refine .inl ⟨_, _, DleAll_refl _, e3, ?_⟩ | refine ⟨_, _, DleAll_refl _, fun _ => e3, ?_⟩ | refine ⟨_, _, DleAll_refl _, e3, ?_⟩ | (refine And.intro ?_ ?_; focus (simp; done)) | fail)
theorem dat_edges {n : Nat} {r : List DV} (h : Dat tt (n + 4) 34 r) : ∃ l : List Edge, r = [.lst 6 (l.map edgeE) false] ∧ l.length ≤ maxLen ∧ ∀ e ∈ l, 0 ≤ e.win.bits := by
  obtain ⟨es, rfl, hl, hes⟩ := h
  obtain ⟨d, rfl, hd⟩ := list_data (f := edgeE) (Q := fun e => 0 ≤ e.win.bits) (fun r hr => by
    obtain ⟨_, _, rfl, ⟨a, rfl, _⟩, _, _, rfl, ⟨b, rfl, _⟩, _, _, rfl, ⟨c, rfl⟩, _, _, rfl, ⟨d, rfl⟩, p, q, rfl, hw, rfl⟩ := hes r hr
    obtain ⟨w, rfl, hw2⟩ := dat_win (n := n + 1) hw
    exact ⟨⟨a, b, c, d, w⟩, rfl, hw2⟩)
  exact ⟨d, rfl, by simpa using hl, hd⟩
theorem dat_det {n : Nat} {r : List DV} (h : Dat tt (n + 5) 36 r) : ∃ d : Det, r = detE d ∧ playI d := by
  obtain ⟨_, _, rfl, ⟨a, rfl, _⟩, _, _, rfl, hv, p, q, rfl, he, rfl⟩ := h
  obtain ⟨v, rfl, hv2⟩ := dat_view (n := n + 1) hv
  obtain ⟨E, rfl, hE⟩ := dat_edges (n := n) he
  exact ⟨⟨a, v, E⟩, rfl, hv2, hE.1, hE.2⟩
theorem law5 (dvs : List DV) (h : DatAll tt 6 [36, 33, 3, 3] dvs) : Ret Try.prog 5 dvs (.v (.bool true)) := by
  obtain ⟨a, _, rfl, ha, b, _, rfl, hb, _, _, rfl, ⟨s, rfl, _⟩, _, _, rfl, ⟨i, rfl, _⟩, rfl⟩ := h
  obtain ⟨d, rfl, hd⟩ := dat_det (n := 1) ha
  obtain ⟨v, rfl, hv⟩ := dat_view (n := 3) hb
  exact r5 d hd.1 hd.2.1 hd.2.2 v hv s i
theorem law6 (dvs : List DV) (h : DatAll tt 6 [33, 3, 31] dvs) : Ret Try.prog 6 dvs (.v (.bool true)) := by
  obtain ⟨b, _, rfl, hb, _, _, rfl, ⟨s, rfl, _⟩, a, _, rfl, ha, rfl⟩ := h
  obtain ⟨v, rfl, hv⟩ := dat_view (n := 3) hb
  obtain ⟨l, rfl, hl⟩ := dat_ints (n := 4) ha
  exact r6 v hv s l hl
end Go.Proofs.Ytdajfimollbnlaa

set_option linter.unusedSimpArgs false
set_option linter.unusedVariables false
namespace Go.Proofs.Ytdajfimollbnlaa
open Go.Lift
theorem win_mk {b c : Nat} (hc : c ≤ 10) (hb : b < 2 ^ c) : winB ⟨b, c⟩ = true := by
  have hp : ∀ c : Fin 11, IntKind.u32.wrap (1 * 2 ^ (min ((c.1 : Nat) : Int).toNat 32)) = ((2 ^ c.1 : Nat) : Int) := by decide +kernel
  have hp := hp ⟨c, by omega⟩
  have a1 : (0 : Int) ≤ ((c : Nat) : Int) := by omega
  have a2 : ((c : Nat) : Int) ≤ 10 := by omega
  have a3 : ((b : Nat) : Int) < IntKind.u32.wrap (1 * 2 ^ (min ((c : Nat) : Int).toNat 32)) := by
    simp only [] at hp
    rw [hp]
    exact Int.ofNat_lt.2 hb
  show ((decide ((0 : Int) ≤ ((c : Nat) : Int)) && decide (((c : Nat) : Int) ≤ 10)) && decide (((b : Nat) : Int) < IntKind.u32.wrap (1 * 2 ^ (min ((c : Nat) : Int).toNat 32)))) = true
  rw [decide_eq_true a1, decide_eq_true a2, decide_eq_true a3]
  rfl
theorem win_rec {w : Win} (hb : 0 ≤ w.bits) (ok : Bool) : winB (recR w ok) = true := by
  unfold recR
  cases h : winB w
  · rw [Bool.not_false, cond_true]
    exact win_mk (b := 0) (c := 0) (by decide) (by decide)
  · obtain ⟨h1, h2, h3, h4⟩ := win_in h hb
    rw [Bool.not_true, cond_false]
    obtain ⟨bi, ct⟩ := w
    simp only [] at h1 h2 h3 h4 hb ⊢
    obtain ⟨b, rfl⟩ := Int.eq_ofNat_of_zero_le hb
    obtain ⟨c, rfl⟩ := Int.eq_ofNat_of_zero_le h1
    have hp : ((2 : Int) ^ c) = ((2 ^ c : Nat) : Int) := (Int.natCast_pow 2 c).symm
    rw [Int.toNat_natCast, hp] at h3
    have h3 : b < 2 ^ c := by omega
    have hc : (if (10 : Int) < (c : Int) + 1 then (10 : Int) else (c : Int) + 1) = ((min (c + 1) 10 : Nat) : Int) := by split <;> omega
    have hf : (bif ok then (0 : Int) else 1) = ((bif ok then 0 else 1 : Nat) : Int) := by cases ok <;> rfl
    have hbb : (b : Int) * 2 % 1024 + (bif ok then (0 : Int) else 1) = ((b * 2 % 1024 + (bif ok then 0 else 1) : Nat) : Int) := by
      rw [hf]
      clear h3 hf hc h4
      generalize (bif ok then 0 else 1 : Nat) = f
      omega
    rw [hc, hbb]
    refine win_mk (by omega) ?_
    have hf1 : (bif ok then 0 else 1 : Nat) ≤ 1 := by cases ok <;> simp
    generalize (bif ok then 0 else 1 : Nat) = f at *
    by_cases h : c < 10
    · have e2 : min (c + 1) 10 = c + 1 := by omega
      have hp : 2 ^ (c + 1) ≤ 2 ^ 10 := Nat.pow_le_pow_right (by decide) (by omega)
      rw [e2]
      rw [Nat.pow_succ] at hp ⊢
      have hm : b * 2 % 1024 ≤ b * 2 := Nat.mod_le _ _
      omega
    · have e2 : min (c + 1) 10 = 10 := by omega
      rw [e2]
      omega
def good (v : View) (id : Int) (d : Det) : Prop := d.view = v ∧ d.self = id ∧ d.edges.length = (subjR v.mem id).length ∧ ∀ (k : Nat) (h : k < d.edges.length), d.edges[k].ring = k ∧ d.edges[k].subj = (subjR v.mem id).getD k 0 ∧ winB d.edges[k].win = true ∧ 0 ≤ d.edges[k].win.bits
theorem good_new {v : View} {id : Int} (hv : viewB v = true) (hi : inB v.mem id = true) : newR v id = (⟨id, v, edgesAt (subjR v.mem id) (subjR v.mem id).length⟩, 0) := by
  rw [newR, hv, hi]
  rfl
theorem good_zero (v : View) (id : Int) : good v id ⟨id, v, edgesAt (subjR v.mem id) (subjR v.mem id).length⟩ := by
  refine ⟨rfl, rfl, edgesAt_len _ _, fun k h => ?_⟩
  simp only [edgesAt, List.getElem_map, List.getElem_range, edge0]
  exact ⟨trivial, trivial, win_mk (b := 0) (c := 0) (by decide) (by decide), Int.le_refl _⟩
theorem good_det {v : View} {id : Int} {d : Det} (hv : viewB v = true) (hi : inB v.mem id = true) (h : good v id d) : detB d = true := by
  obtain ⟨rfl, rfl, hl, he⟩ := h
  unfold detB
  rw [good_new hv hi]
  simp only [edgesAt_len]
  rw [decide_eq_true (by omega : (d.edges.length : Int) = ((subjR d.view.mem d.self).length : Int))]
  show allB (okEd d.edges (edgesAt (subjR d.view.mem d.self) (subjR d.view.mem d.self).length)) d.edges.length = true
  refine allB_true.2 (fun k hk => ?_)
  have hg : d.edges.getD k edgeZ = d.edges[k] := by simp [hk]
  have hk2 : k < (edgesAt (subjR d.view.mem d.self) (subjR d.view.mem d.self).length).length := by rw [edgesAt_len]; omega
  have hg2 : (edgesAt (subjR d.view.mem d.self) (subjR d.view.mem d.self).length).getD k edgeZ = edge0 k ((subjR d.view.mem d.self).getD k 0) := by
    rw [List.getD_eq_getElem?_getD, List.getElem?_eq_getElem hk2]
    simp [edgesAt]
  obtain ⟨a1, a2, a3, _⟩ := he k hk
  unfold okEd
  rw [hg, hg2, a1, a2, a3]
  simp [edge0]
theorem good_heard {v : View} {id : Int} {d : Det} (hv : viewB v = true) (hi : inB v.mem id = true) (h : good v id d) (x : Int) : good v id (heardR d x) := by
  have hd := good_det hv hi h
  unfold heardR
  rw [hd, Bool.not_true, cond_false]
  obtain ⟨h1, h2, h3, h4⟩ := h
  refine ⟨h1, h2, by simpa using h3, fun k hk => ?_⟩
  simp only [List.getElem_map, List.length_map] at hk ⊢
  have := h4 k hk
  unfold heardE
  cases decide (d.edges[k].subj = x) <;> exact this
theorem good_tick {v : View} {id : Int} {d : Det} (hv : viewB v = true) (hi : inB v.mem id = true) (h : good v id d) : good v id (tickR d).1 := by
  have hd := good_det hv hi h
  unfold tickR
  rw [hd, Bool.not_true, cond_false]
  obtain ⟨h1, h2, h3, h4⟩ := h
  refine ⟨h1, h2, by simpa using h3, fun k hk => ?_⟩
  simp only [List.getElem_map, List.length_map] at hk ⊢
  have := h4 k hk
  exact ⟨this.1, this.2.1, win_rec this.2.2.2 _, rec_rng this.2.2.2 _⟩
def repK (d : Det) (k : Nat) : Bool := (d.edges.getD k edgeZ).rep
def midK (d : Det) (j k : Nat) : Bool := repK d k || ((alsAt d d.edges.length).take j).any fun a => decide (a.ring = k)
theorem heard_rep {v : View} {id : Int} {d : Det} (hv : viewB v = true) (hi : inB v.mem id = true) (h : good v id d) (x : Int) (k : Nat) : repK (heardR d x) k = repK d k := by
  have hd := good_det hv hi h
  unfold heardR repK
  rw [hd, Bool.not_true, cond_false]
  by_cases hk : k < d.edges.length
  · simp only [List.getD_eq_getElem?_getD, List.getElem?_map, List.getElem?_eq_getElem hk, Option.map_some, Option.getD_some]
    unfold heardE
    cases decide (d.edges[k].subj = x) <;> rfl
  · simp [hk, List.getElem?_eq_none (Nat.le_of_not_lt hk)]
theorem als_mem {v : View} {id : Int} {d : Det} (h : good v id d) {a : Alr} (ha : a ∈ alsAt d d.edges.length) : ∃ (k : Nat) (hk : k < d.edges.length), hitE d.edges[k] = true ∧ a = ⟨v.num, k, id, (subjR v.mem id).getD k 0⟩ := by
  unfold alsAt at ha
  rw [List.take_length] at ha
  simp only [List.mem_map, List.mem_filter] at ha
  obtain ⟨e, ⟨hm, hh⟩, rfl⟩ := ha
  obtain ⟨k, hk, rfl⟩ := List.getElem_of_mem hm
  obtain ⟨h1, h2, h3, h4⟩ := h
  refine ⟨k, hk, hh, ?_⟩
  have := h4 k hk
  unfold alrOf
  rw [h1, h2, this.1, this.2.1]
theorem als_any {v : View} {id : Int} {d : Det} (h : good v id d) {k : Nat} (hk : k < d.edges.length) : (alsAt d d.edges.length).any (fun a => decide (a.ring = k)) = hitE d.edges[k] := by
  rw [Bool.eq_iff_iff, List.any_eq_true]
  constructor
  · rintro ⟨a, ha, hr⟩
    obtain ⟨k2, hk2, hh, rfl⟩ := als_mem h ha
    simp only [decide_eq_true_eq] at hr
    have : k2 = k := by omega
    subst this
    exact hh
  · intro hh
    refine ⟨alrOf d d.edges[k], ?_, ?_⟩
    · unfold alsAt
      rw [List.take_length]
      exact List.mem_map_of_mem (List.mem_filter.2 ⟨List.getElem_mem hk, hh⟩)
    · have := h.2.2.2 k hk
      simp only [alrOf, this.1, decide_eq_true_eq]
theorem als_sorted {v : View} {id : Int} {d : Det} (h : good v id d) : (alsAt d d.edges.length).Pairwise fun a b => a.ring < b.ring := by
  unfold alsAt
  rw [List.take_length, List.pairwise_map]
  have hp : d.edges.Pairwise fun a b => a.ring < b.ring := by
    rw [List.pairwise_iff_getElem]
    intro i j hi hj hij
    rw [(h.2.2.2 i hi).1, (h.2.2.2 j hj).1]
    omega
  exact (hp.filter _)
theorem mid_all {v : View} {id : Int} {d : Det} (hv : viewB v = true) (hi : inB v.mem id = true) (h : good v id d) (k : Nat) : midK d (alsAt d d.edges.length).length k = repK (tickR d).1 k := by
  have hd := good_det hv hi h
  unfold midK
  rw [List.take_length]
  by_cases hk : k < d.edges.length
  · rw [als_any h hk]
    unfold tickR repK
    rw [hd, Bool.not_true, cond_false]
    simp only [List.getD_eq_getElem?_getD, List.getElem?_map, List.getElem?_eq_getElem hk, Option.map_some, Option.getD_some, tickE, hitE]
    cases d.edges[k].rep <;> simp
  · have h1 : repK (tickR d).1 k = false := by
      unfold tickR repK
      rw [hd, Bool.not_true, cond_false]
      simp [hk, List.getElem?_eq_none (Nat.le_of_not_lt hk), edgeZ]
    have h2 : repK d k = false := by
      unfold repK
      simp [List.getElem?_eq_none (Nat.le_of_not_lt hk), edgeZ]
    rw [h1, h2, Bool.false_or, List.any_eq_false]
    intro a ha
    obtain ⟨k2, hk2, _, rfl⟩ := als_mem h ha
    simp only [decide_eq_true_eq]
    omega
theorem mid_at {v : View} {id : Int} {d : Det} (h : good v id d) {j : Nat} (hj : j < (alsAt d d.edges.length).length) : ∃ k : Nat, k < 5 ∧ (alsAt d d.edges.length)[j].ring = k ∧ (alsAt d d.edges.length)[j].view = v.num ∧ (alsAt d d.edges.length)[j].obs = id ∧ midK d j k = false ∧ ∀ k2, midK d (j + 1) k2 = (midK d j k2 || decide (k2 = k)) := by
  obtain ⟨k, hk, hh, ha⟩ := als_mem h (List.getElem_mem hj)
  have hs := List.pairwise_iff_getElem.1 (als_sorted h)
  have h5 := subj_len v.mem id
  have hl := h.2.2.1
  refine ⟨k, by omega, by rw [ha], by rw [ha], by rw [ha], ?_, ?_⟩
  · have hr : repK d k = false := by
      unfold repK
      simp only [List.getD_eq_getElem?_getD, List.getElem?_eq_getElem hk, Option.getD_some]
      simp only [hitE, Bool.and_eq_true, Bool.not_eq_true'] at hh
      exact hh.2
    unfold midK
    rw [hr, Bool.false_or, List.any_eq_false]
    intro a ham
    obtain ⟨i, hi, rfl⟩ := List.getElem_of_mem ham
    simp only [List.length_take] at hi
    simp only [List.getElem_take, decide_eq_true_eq]
    have := hs i j (by omega) hj (by omega)
    rw [ha] at this
    simp only [] at this
    omega
  · intro k2
    unfold midK
    rw [List.take_succ_eq_append_getElem hj, List.any_append, ← Bool.or_assoc]
    congr 1
    simp only [List.any_cons, List.any_nil, Bool.or_false, ha]
    exact decide_eq_decide.2 (by omega)
end Go.Proofs.Ytdajfimollbnlaa

set_option linter.unusedSimpArgs false
set_option linter.unusedVariables false
namespace Go.Proofs.Ytdajfimollbnlaa
open Go.Lift
def bD (b : Bool) : DV := .v (.bool b)
def repsD (f : Nat → Bool) : List DV := (List.range 5).map fun k => bD (f k)
theorem repsD_eq (f : Nat → Bool) : repsD f = [bD (f 0), bD (f 1), bD (f 2), bD (f 3), bD (f 4)] := rfl
theorem reps_set {f g : Nat → Bool} {k : Nat} (hk : k < 5) (hg : ∀ k2, g k2 = (f k2 || decide (k2 = k))) : dsplice (repsD f) (0 + k * 1) [bD true] = repsD g := by
  rw [repsD_eq g, hg 0, hg 1, hg 2, hg 3, hg 4, repsD_eq f]
  match k, hk with
  | 0, _ | 1, _ | 2, _ | 3, _ | 4, _ => simp [dsplice, dset]
theorem reps_get {f : Nat → Bool} {k : Nat} (hk : k < 5) : (repsD f)[0 + k * 1]? = some (bD (f k)) := by
  rw [repsD_eq f]
  match k, hk with
  | 0, _ | 1, _ | 2, _ | 3, _ | 4, _ => rfl
set_option maxRecDepth 100000 in
set_option maxHeartbeats 2000000 in
theorem r8 (v : View) (hv : v.mem.length ≤ maxLen) (u : Nat) (hu : u ≤ 255) (l : List Nat) (hl : l.length ≤ maxLen) (hlb : ∀ x ∈ l, x ≤ 255) : Ret Try.prog 8 [.agg (viewE v), .v (.int .u8 u), .lst 1 (l.map byteI) false] (.v (.bool true)) := by
  have hl' : l.length ≤ 9223372036854775807 := hl
  have e0 := c_ref3_Valid v hv
  refine ret_of_body (fn := Try.f8) (c := Try.f8.body.getD .skip) hm hT (by kernel_rfl) Try.func8 (by kernel_rfl) (by kernel_rfl) (by kernel_rfl) (by kernel_rfl) ?_
  repeat' ((conv => whnf); first | refine And.intro (fun h => h) ?_ | refine dcond_t (by assumption) ?_ | refine dcond_f (by assumption) ?_ | (refine dcond_intro ?_ ?_ <;> intro h) | exact .refl | refine And.intro (by kernel_rfl) ?_ | refine And.intro ⟨fun h => h, fun h => h⟩ ?_ | refine .inl ⟨_, _, DleAll_refl _, c_awake, ?_⟩ | refine ⟨_, _, DleAll_refl _, fun _ => c_awake, ?_⟩ | refine ⟨_, _, DleAll_refl _, c_awake, ?_⟩ | refine .inl ⟨_, _, DleAll_refl _, e0, ?_⟩ | refine ⟨_, _, DleAll_refl _, fun _ => e0, ?_⟩ | refine ⟨_, _, DleAll_refl _, e0, ?_⟩ | (refine And.intro ?_ ?_; focus (simp; done)) | fail)
  have hvw : viewB v = true := by
    simp only [Bool.or_eq_false_iff, Bool.not_eq_false'] at h
    exact h.1
  have hl150 : l.length ≤ 150 := by
    simp only [Bool.or_eq_false_iff, decide_eq_false_iff_not, List.length_map] at h
    omega
  clear h
  have hn := view_len hvw
  have hm0 : 0 < v.mem.length := hn.1
  have hne : ((v.mem.map intE).length : Int) ≠ 0 := by
    rw [List.length_map]
    omega
  have hix : ∀ w : Nat, w ≤ 255 → Int.tmod (IntKind.i64.wrap (w : Int)) ((v.mem.map intE).length : Int) = ((w % v.mem.length : Nat) : Int) := by
    intro w hw
    rw [List.length_map, wrap_i64 (by omega) (by omega)]
    exact (Int.ofNat_tmod _ _).symm
  have hgx : ∀ w : Nat, (v.mem.map intE)[w % v.mem.length]? = some (intE (v.mem[w % v.mem.length]'(Nat.mod_lt _ hm0))) := fun w => get_map (Nat.mod_lt _ hm0)
  have hix1 := hix u hu
  have hgx1 := hgx u
  have hid : inB v.mem (v.mem[u % v.mem.length]'(Nat.mod_lt _ hm0)) = true := in_iff.2 (List.getElem_mem _)
  generalize v.mem[u % v.mem.length]'(Nat.mod_lt _ hm0) = id at hgx1 hid
  have e1 := c_probe_New v hv id
  have hN := good_new hvw hid
  generalize newR v id = N at e1 hN
  obtain ⟨N1, N2⟩ := N
  injection hN with hN1 hN2
  simp only [] at e1
  repeat' ((conv => whnf); first | refine And.intro (fun h => h) ?_ | refine dcond_t (by assumption) ?_ | refine dcond_f (by assumption) ?_ | (refine dcond_intro ?_ ?_ <;> intro h) | exact .refl | refine And.intro (by kernel_rfl) ?_ | refine And.intro ⟨fun h => h, fun h => h⟩ ?_ | refine And.intro hne ?_ | refine ⟨u % v.mem.length, _, And.intro ⟨hix1, hgx1⟩ ?_⟩ | refine .inl ⟨_, _, DleAll_refl _, e1, ?_⟩ | refine ⟨_, _, DleAll_refl _, fun _ => e1, ?_⟩ | refine ⟨_, _, DleAll_refl _, e1, ?_⟩ | (refine And.intro ?_ ?_; focus (simp; done)) | fail)
  · simp [hN2] at h
  · clear h
    have hg0 : good v id N1 := by
      rw [hN1]
      exact good_zero v id
    have hr0 : repsD (repK N1) = [bD false, bD false, bD false, bD false, bD false] := by
      have : ∀ k, repK N1 k = false := by
        intro k
        rw [hN1]
        unfold repK edgesAt
        by_cases hk : k < (subjR v.mem id).length
        · simp [hk, edge0]
        · simp [hk, edgeZ]
      simp only [repsD, this]
      rfl
    repeat' ((conv => whnf); first | refine And.intro (fun h => h) ?_ | refine dcond_t (by assumption) ?_ | refine dcond_f (by assumption) ?_ | (refine dcond_intro ?_ ?_ <;> intro h) | exact .refl | refine And.intro (by kernel_rfl) ?_ | refine And.intro ⟨fun h => h, fun h => h⟩ ?_ | (refine And.intro ?_ ?_; focus (simp; done)) | fail)
    all_goals (conv => whnf)
    refine ⟨Nat × Det, fun x => ⟨[(2, .lst 1 (l.map byteI) false), (3, .lp 0 0), (7, i64 id), (8, .lp 1 0), (10, .lp 2 0), (11, i64 x.1)], [.cells 33 (viewE v), .cells 36 (detE x.2), .cells 55 (repsD (repK x.2))]⟩, fun x => x.1 ≤ l.length ∧ good v id x.2, fun x => l.length - x.1, [], ⟨⟨0, N1⟩, ⟨Nat.zero_le _, hg0⟩, ?_⟩, ?_⟩
    · conv => whnf
      exact ⟨⟨.refl, .refl, .refl, .refl, .refl, .refl, trivial⟩, ⟨.refl, .refl, (by rw [hr0]; exact .refl), trivial⟩, by rfl⟩
    · intro ⟨i, d⟩ ⟨hi, hg⟩
      simp only [] at hi hg
      have hdt := good_det hvw hid hg
      have hdl := det_len hdt
      have hvd : d.view.mem.length ≤ maxLen := by rw [hg.1]; exact hv
      have hed : d.edges.length ≤ maxLen := Nat.le_trans hdl.2 (by decide)
      have hbd : ∀ e ∈ d.edges, 0 ≤ e.win.bits := by
        intro e he
        obtain ⟨k, hk, rfl⟩ := List.getElem_of_mem he
        exact (hg.2.2.2 k hk).2.2.2
      repeat' ((conv => whnf); first | refine And.intro (fun h => h) ?_ | refine dcond_t (by assumption) ?_ | refine dcond_f (by assumption) ?_ | (refine dcond_intro ?_ ?_ <;> intro h) | exact .refl | refine And.intro (by kernel_rfl) ?_ | refine And.intro ⟨fun h => h, fun h => h⟩ ?_ | (refine And.intro ?_ ?_; focus (simp; done)) | fail)
      · have hlt : i < l.length := by simpa using h
        clear h
        have hw := hlb l[i] (List.getElem_mem hlt)
        have hix2 := hix l[i] hw
        have hgx2 := hgx l[i]
        generalize v.mem[l[i] % v.mem.length]'(Nat.mod_lt _ hm0) = x at hgx2
        have e6 := c_probe_Heard d hvd hed x
        have gh := good_heard hvw hid hg x
        have rh := heard_rep hvw hid hg x
        have e9 := c_probe_Tick d hvd hed hbd
        have gt := good_tick hvw hid hg
        have ht2 : (tickR d).2 = alsAt d d.edges.length := by
          unfold tickR
          rw [hdt]
          rfl
        have hma := mid_all hvw hid hg
        have hmt := fun (j : Nat) hj => mid_at (j := j) hg hj
        have hal := alsAt_len d d.edges.length
        rw [ht2] at e9
        generalize heardR d x = H at e6 gh rh
        generalize (tickR d).1 = T at e9 gt hma
        generalize alsAt d d.edges.length = A at e9 hma hmt hal
        repeat' ((conv => whnf); first | refine And.intro (fun h => h) ?_ | refine dcond_t (by assumption) ?_ | refine dcond_f (by assumption) ?_ | (refine dcond_intro ?_ ?_ <;> intro h) | exact .refl | refine And.intro (by kernel_rfl) ?_ | refine And.intro ⟨fun h => h, fun h => h⟩ ?_ | refine ⟨_, _, And.intro ⟨rfl, get_map hlt⟩ ?_⟩ | refine And.intro hne ?_ | refine ⟨l[i] % v.mem.length, _, And.intro ⟨hix2, hgx2⟩ ?_⟩ | refine .inl ⟨_, _, DleAll_refl _, e6, ?_⟩ | refine ⟨_, _, DleAll_refl _, fun _ => e6, ?_⟩ | refine ⟨_, _, DleAll_refl _, e6, ?_⟩ | refine .inl ⟨_, _, DleAll_refl _, e9, ?_⟩ | refine ⟨_, _, DleAll_refl _, fun _ => e9, ?_⟩ | refine ⟨_, _, DleAll_refl _, e9, ?_⟩ | (refine And.intro ?_ ?_; focus (simp; done)) | fail)
        · conv => whnf
          refine ⟨⟨i + 1, H⟩, ⟨hlt, gh⟩, by simp only []; omega, ?_⟩
          conv => whnf
          refine ⟨⟨.refl, .refl, .refl, .refl, .refl, dle_int (wrap_succ (by omega)), trivial⟩, ⟨.refl, .refl, ?_, trivial⟩, by rfl⟩
          rw [show repK H = repK d from funext rh]
          exact .refl
        · have hm0' : repsD (midK d 0) = repsD (repK d) := by
            have : midK d 0 = repK d := by
              funext k
              simp [midK]
            rw [this]
          conv => whnf
          refine ⟨Nat, fun j => ⟨[(2, .lst 1 (l.map byteI) false), (3, .lp 0 0), (7, i64 id), (8, .lp 1 0), (10, .lp 2 0), (11, i64 i), (12, .lst 4 (A.map alE) false), (13, i64 j)], [.cells 33 (viewE v), .cells 36 (detE T), .cells 55 (repsD (midK d j))]⟩, fun j => j ≤ A.length, fun j => A.length - j, [], ⟨0, Nat.zero_le _, ?_⟩, ?_⟩
          · conv => whnf
            exact ⟨⟨.refl, .refl, .refl, .refl, .refl, .refl, .refl, .refl, trivial⟩, ⟨.refl, .refl, (by rw [hm0']; exact .refl), trivial⟩, by rfl⟩
          · intro j hj
            repeat' ((conv => whnf); first | refine And.intro (fun h => h) ?_ | refine dcond_t (by assumption) ?_ | refine dcond_f (by assumption) ?_ | (refine dcond_intro ?_ ?_ <;> intro h) | exact .refl | refine And.intro (by kernel_rfl) ?_ | refine And.intro ⟨fun h => h, fun h => h⟩ ?_ | (refine And.intro ?_ ?_; focus (simp; done)) | fail)
            · have hjt : j < A.length := by simpa using h
              clear h
              obtain ⟨k, hk5, hr, hvn, hob, hf, hst⟩ := hmt j hjt
              have hga : (A.map alE)[j]? = some (alE A[j]) := get_map hjt
              have hgk := reps_get (f := midK d j) hk5
              have hset := reps_set hk5 hst
              generalize A[j] = a at hr hvn hob hga
              obtain ⟨av, ar, ao, sb⟩ := a
              simp only [] at hr hvn hob
              subst hr
              subst hvn
              subst hob
              repeat' ((conv => whnf); first | refine And.intro (fun h => h) ?_ | refine dcond_t (by assumption) ?_ | refine dcond_f (by assumption) ?_ | (refine dcond_intro ?_ ?_ <;> intro h) | exact .refl | refine And.intro (by kernel_rfl) ?_ | refine And.intro ⟨fun h => h, fun h => h⟩ ?_ | refine ⟨j, alE ⟨v.num, k, ao, sb⟩, And.intro ⟨rfl, hga⟩ ?_⟩ | refine ⟨j, alE ⟨v.num, k, ao, sb⟩, And.intro ⟨fun h => h, fun _ => ⟨rfl, hga⟩⟩ ?_⟩ | refine ⟨j, alE ⟨v.num, k, ao, sb⟩, And.intro ⟨⟨fun h => h, fun h => h⟩, fun _ => ⟨rfl, hga⟩⟩ ?_⟩ | refine ⟨k, And.intro ⟨rfl, hk5⟩ ?_⟩ | refine ⟨k, And.intro ⟨fun h => h, fun _ => ⟨rfl, hk5⟩⟩ ?_⟩ | refine ⟨k, And.intro ⟨⟨fun h => h, fun h => h⟩, fun _ => ⟨rfl, hk5⟩⟩ ?_⟩ | refine ⟨bD (midK d j k), And.intro ⟨fun h => h, fun _ => hgk⟩ ?_⟩ | refine ⟨bD (midK d j k), And.intro (fun _ => hgk) ?_⟩ | (refine And.intro ?_ ?_; focus (simp; done)) | fail)
              all_goals (conv => whnf)
              · exfalso
                rw [hf] at h
                simp at h
                omega
              · refine And.intro (show 0 + k * 1 + 1 ≤ 5 by omega) ?_
                repeat' ((conv => whnf); first | refine And.intro (fun h => h) ?_ | refine dcond_t (by assumption) ?_ | refine dcond_f (by assumption) ?_ | (refine dcond_intro ?_ ?_ <;> intro h) | exact .refl | refine And.intro (by kernel_rfl) ?_ | refine And.intro ⟨fun h => h, fun h => h⟩ ?_ | (refine And.intro ?_ ?_; focus (simp; done)) | fail)
                all_goals (conv => whnf)
                refine ⟨j + 1, hjt, by simp only []; omega, ?_⟩
                conv => whnf
                refine ⟨⟨.refl, .refl, .refl, .refl, .refl, .refl, .refl, dle_int (wrap_succ (by omega)), trivial⟩, ⟨.refl, .refl, ?_, trivial⟩, by rfl⟩
                rw [← hset]
                exact .refl
            · have : j = A.length := by
                simp at h
                omega
              subst this
              clear h
              repeat' ((conv => whnf); first | refine And.intro (fun h => h) ?_ | refine dcond_t (by assumption) ?_ | refine dcond_f (by assumption) ?_ | (refine dcond_intro ?_ ?_ <;> intro h) | exact .refl | refine And.intro (by kernel_rfl) ?_ | refine And.intro ⟨fun h => h, fun h => h⟩ ?_ | (refine And.intro ?_ ?_; focus (simp; done)) | fail)
              all_goals (conv => whnf)
              refine ⟨⟨i + 1, T⟩, ⟨hlt, gt⟩, by simp only []; omega, ?_⟩
              conv => whnf
              refine ⟨⟨.refl, .refl, .refl, .refl, .refl, dle_int (wrap_succ (by omega)), trivial⟩, ⟨.refl, .refl, ?_, trivial⟩, by rfl⟩
              rw [show repK T = midK d A.length from funext fun k => (hma k).symm]
              exact .refl
      · have e3 := c_probe_Valid d hvd hed
        rw [hdt] at e3
        repeat' ((conv => whnf); first | refine And.intro (fun h => h) ?_ | refine dcond_t (by assumption) ?_ | refine dcond_f (by assumption) ?_ | (refine dcond_intro ?_ ?_ <;> intro h) | exact .refl | refine And.intro (by kernel_rfl) ?_ | refine And.intro ⟨fun h => h, fun h => h⟩ ?_ | refine .inl ⟨_, _, DleAll_refl _, e3, ?_⟩ | refine ⟨_, _, DleAll_refl _, fun _ => e3, ?_⟩ | refine ⟨_, _, DleAll_refl _, e3, ?_⟩ | (refine And.intro ?_ ?_; focus (simp; done)) | fail)
theorem law8 (dvs : List DV) (h : DatAll tt 5 [33, 5, 54] dvs) : Ret Try.prog 8 dvs (.v (.bool true)) := by
  obtain ⟨b, _, rfl, hb, _, _, rfl, ⟨s, rfl, hs⟩, a, _, rfl, ha, rfl⟩ := h
  obtain ⟨v, rfl, hv⟩ := dat_view (n := 2) hb
  obtain ⟨l, rfl, hl, hlb⟩ := dat_u8b (n := 3) ha
  have hb := bounds_u8 (by exact hs)
  obtain ⟨s, rfl⟩ := Int.eq_ofNat_of_zero_le (a := s) (by omega)
  exact r8 v hv s (by omega) l hl hlb
end Go.Proofs.Ytdajfimollbnlaa
