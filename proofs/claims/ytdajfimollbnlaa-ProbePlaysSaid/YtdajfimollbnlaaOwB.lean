/- The laws of this seat, part OwB: contracts of the functions, plain laws. No conditions. -/
import Derived.Test.YtdajfimollbnlaaOwA
set_option linter.unusedSimpArgs false
set_option linter.unusedVariables false
namespace Go.Proofs.Ytdajfimollbnlaa
open Go.Lift
theorem take_map {α : Type} {f : α → α} {l : List α} {i : Nat} (h : i < l.length) : (l.take (i + 1)).map f = (l.take i).map f ++ [f l[i]] := by
  rw [List.take_succ_eq_append_getElem h, List.map_append]
  rfl
theorem c_ref5_Heard (d : Det) (hv : d.view.mem.length ≤ maxLen) (he : d.edges.length ≤ maxLen) (id : Int) : Ret Try.prog 25 [.agg (detE d), i64 id] (.agg (detE (heardR d id))) := by
  have e1 := c_ref5_Valid d hv he
  refine ret_of_body (fn := Try.f25) (c := Try.f25.body.getD .skip) hm hT (by kernel_rfl) Try.func25 (by kernel_rfl) (by kernel_rfl) (by kernel_rfl) (by kernel_rfl) ?_
  repeat' ((conv => whnf); first | refine And.intro (fun h => h) ?_ | refine dcond_t (by assumption) ?_ | refine dcond_f (by assumption) ?_ | (refine dcond_intro ?_ ?_ <;> intro h) | exact .refl | refine And.intro (by kernel_rfl) ?_ | refine And.intro ⟨fun h => h, fun h => h⟩ ?_ | refine .inl ⟨_, _, DleAll_refl _, e1, ?_⟩ | refine ⟨_, _, DleAll_refl _, fun _ => e1, ?_⟩ | refine ⟨_, _, DleAll_refl _, e1, ?_⟩ | (refine And.intro ?_ ?_; focus (simp; done)) | fail)
  all_goals (conv => whnf)
  · rw [heardR, h]
    exact dle_aggA ⟨.refl, .refl, .nl, .nl, trivial⟩
  · have hdt : detB d = true := by simpa using h
    have hl := det_len hdt
    rw [heardR, h, cond_false]
    clear h
    refine ⟨Nat, fun i => ⟨[(1, i64 id), (2, .lp 0 0), (4, .lp 1 0), (5, .lp 2 0), (6, i64 i)], [.cells 36 (detE d), .cells 36 [i64 0, i64 0, .nl, .nl], .cells 36 [i64 d.self, i64 d.view.num, .lst 1 (d.view.mem.map intE) false, .own 3], .row 58 6 (((d.edges.take i).map (heardE id)).map edgeE)]⟩, fun i => i ≤ d.edges.length, fun i => d.edges.length - i, [.cell 2 3 58 6], ⟨0, Nat.zero_le _, ?_⟩, ?_⟩
    · conv => whnf
      exact ⟨⟨.refl, .refl, .refl, .refl, .refl, trivial⟩, ⟨.refl, .refl, .refl, .refl, trivial⟩, by rfl⟩
    · intro i hi
      repeat' ((conv => whnf); first | refine And.intro (fun h => h) ?_ | refine dcond_t (by assumption) ?_ | refine dcond_f (by assumption) ?_ | (refine dcond_intro ?_ ?_ <;> intro h) | exact .refl | refine And.intro (by kernel_rfl) ?_ | refine And.intro ⟨fun h => h, fun h => h⟩ ?_ | (refine And.intro ?_ ?_; focus (simp; done)) | fail)
      · have hlt : i < d.edges.length := by simpa using h
        clear h
        have ht := take_map (f := heardE id) hlt
        have hf : heardE id d.edges[i] = ⟨d.edges[i].ring, d.edges[i].subj, d.edges[i].heard || decide (d.edges[i].subj = id), d.edges[i].rep, d.edges[i].win⟩ := by
          unfold heardE
          cases decide (d.edges[i].subj = id) <;> simp
        have hfa : (((d.edges.take i).map (heardE id)).map edgeE).length + 1 ≤ 2000000 := by
          simp
          omega
        repeat' ((conv => whnf); first | refine And.intro (fun h => h) ?_ | refine dcond_t (by assumption) ?_ | refine dcond_f (by assumption) ?_ | (refine dcond_intro ?_ ?_ <;> intro h) | exact .refl | refine And.intro (by kernel_rfl) ?_ | refine And.intro ⟨fun h => h, fun h => h⟩ ?_ | refine ⟨_, _, And.intro ⟨rfl, get_map hlt⟩ ?_⟩ | refine And.intro (fitsE hfa) ?_ | (refine And.intro ?_ ?_; focus (simp; done)) | fail)
        all_goals (conv => whnf)
        refine ⟨i + 1, hlt, by simp only []; omega, ?_⟩
        conv => whnf
        refine ⟨⟨.refl, .refl, .refl, .refl, dle_int (wrap_succ (by omega)), trivial⟩, ⟨.refl, .refl, .refl, ole_row ?_, trivial⟩, by rfl⟩
        rw [ht, hf, List.map_append]
        rfl
      · have : i = d.edges.length := by
          simp at h
          omega
        subst this
        rw [List.take_length]
        repeat' ((conv => whnf); first | refine And.intro (fun h => h) ?_ | refine dcond_t (by assumption) ?_ | refine dcond_f (by assumption) ?_ | (refine dcond_intro ?_ ?_ <;> intro h) | exact .refl | refine And.intro (by kernel_rfl) ?_ | refine And.intro ⟨fun h => h, fun h => h⟩ ?_ | (refine And.intro ?_ ?_; focus (simp; done)) | fail)
theorem c_ref5_Tick (d : Det) (hv : d.view.mem.length ≤ maxLen) (he : d.edges.length ≤ maxLen) (hb : ∀ e ∈ d.edges, 0 ≤ e.win.bits) : Ret Try.prog 20 [.agg (detE d)] (.tup [.agg (detE (tickR d).1), .lst 4 ((tickR d).2.map alE) false]) := by
  have e1 := c_ref5_Valid d hv he
  refine ret_of_body (fn := Try.f20) (c := Try.f20.body.getD .skip) hm hT (by kernel_rfl) Try.func20 (by kernel_rfl) (by kernel_rfl) (by kernel_rfl) (by kernel_rfl) ?_
  repeat' ((conv => whnf); first | refine And.intro (fun h => h) ?_ | refine dcond_t (by assumption) ?_ | refine dcond_f (by assumption) ?_ | (refine dcond_intro ?_ ?_ <;> intro h) | exact .refl | refine And.intro (by kernel_rfl) ?_ | refine And.intro ⟨fun h => h, fun h => h⟩ ?_ | refine .inl ⟨_, _, DleAll_refl _, e1, ?_⟩ | refine ⟨_, _, DleAll_refl _, fun _ => e1, ?_⟩ | refine ⟨_, _, DleAll_refl _, e1, ?_⟩ | (refine And.intro ?_ ?_; focus (simp; done)) | fail)
  all_goals (conv => whnf)
  · rw [tickR, h]
    exact dle_tupA ⟨dle_aggA ⟨.refl, .refl, .nl, .nl, trivial⟩, .nl, trivial⟩
  · have hdt : detB d = true := by simpa using h
    have hl := det_len hdt
    rw [tickR, h, cond_false]
    clear h
    refine ⟨Nat, fun i => ⟨[(1, .lp 0 0), (2, .lp 1 0), (4, .lp 2 0), (5, .own 4), (6, i64 i)], [.cells 36 (detE d), .cells 36 [i64 0, i64 0, .nl, .nl], .cells 36 [i64 d.self, i64 d.view.num, .lst 1 (d.view.mem.map intE) false, .own 3], .row 58 6 (((d.edges.take i).map tickE).map edgeE), .row 52 4 ((alsAt d i).map alE)]⟩, fun i => i ≤ d.edges.length, fun i => d.edges.length - i, [.cell 2 3 58 6, .slot 5 52 4], ⟨0, Nat.zero_le _, ?_⟩, ?_⟩
    · conv => whnf
      exact ⟨⟨.refl, .refl, .refl, .refl, .refl, trivial⟩, ⟨.refl, .refl, .refl, .refl, .refl, trivial⟩, by rfl⟩
    · intro i hi
      repeat' ((conv => whnf); first | refine And.intro (fun h => h) ?_ | refine dcond_t (by assumption) ?_ | refine dcond_f (by assumption) ?_ | (refine dcond_intro ?_ ?_ <;> intro h) | exact .refl | refine And.intro (by kernel_rfl) ?_ | refine And.intro ⟨fun h => h, fun h => h⟩ ?_ | (refine And.intro ?_ ?_; focus (simp; done)) | fail)
      · have hlt : i < d.edges.length := by simpa using h
        clear h
        have ht := take_map (f := tickE) hlt
        have hsa := alsAt_succ d i hlt
        have hla := alsAt_len d i
        have hfa : ((alsAt d i).map alE).length + 1 ≤ 2000000 := by rw [List.length_map]; omega
        have hfe : (((d.edges.take i).map tickE).map edgeE).length + 1 ≤ 2000000 := by
          simp
          omega
        have hbi := hb d.edges[i] (List.getElem_mem hlt)
        have hbr := rec_rng (w := d.edges[i].win) hbi d.edges[i].heard
        have er := c_ref5_Record d.edges[i].win hbi d.edges[i].heard
        have ef := c_ref5_Failing (recR d.edges[i].win d.edges[i].heard) hbr
        have htk : tickE d.edges[i] = ⟨d.edges[i].ring, d.edges[i].subj, false, d.edges[i].rep || failR (recR d.edges[i].win d.edges[i].heard), recR d.edges[i].win d.edges[i].heard⟩ := rfl
        have hht : hitE d.edges[i] = (failR (recR d.edges[i].win d.edges[i].heard) && !d.edges[i].rep) := rfl
        have hal : alrOf d d.edges[i] = ⟨d.view.num, d.edges[i].ring, d.self, d.edges[i].subj⟩ := rfl
        have hgx : (d.edges.map edgeE)[i]? = some (edgeE d.edges[i]) := get_map hlt
        generalize hx : d.edges[i] = x at *
        obtain ⟨xr, xs, xh, xp, xw⟩ := x
        simp only [] at hbi hbr er ef htk hht hal
        generalize recR xw xh = w at *
        generalize failR w = fl at *
        repeat' ((conv => whnf); first | refine And.intro (fun h => h) ?_ | refine dcond_t (by assumption) ?_ | refine dcond_f (by assumption) ?_ | (refine dcond_intro ?_ ?_ <;> intro h) | exact .refl | refine And.intro (by kernel_rfl) ?_ | refine And.intro ⟨fun h => h, fun h => h⟩ ?_ | refine ⟨i, _, And.intro ⟨rfl, hgx⟩ ?_⟩ | refine .inl ⟨_, _, DleAll_refl _, er, ?_⟩ | refine ⟨_, _, DleAll_refl _, fun _ => er, ?_⟩ | refine ⟨_, _, DleAll_refl _, er, ?_⟩ | refine .inl ⟨_, _, DleAll_refl _, ef, ?_⟩ | refine ⟨_, _, DleAll_refl _, fun _ => ef, ?_⟩ | refine ⟨_, _, DleAll_refl _, ef, ?_⟩ | refine And.intro (fitsA hfa) ?_ | refine And.intro (fitsE hfe) ?_ | (refine And.intro ?_ ?_; focus (simp; done)) | fail)
        all_goals (conv => whnf)
        all_goals refine ⟨i + 1, hlt, by simp only []; omega, ?_⟩
        all_goals (conv => whnf)
        all_goals refine ⟨⟨.refl, .refl, .refl, .refl, dle_int (wrap_succ (by omega)), trivial⟩, ⟨.refl, .refl, .refl, ole_row ?_, ole_row ?_, trivial⟩, by rfl⟩
        · rw [ht, htk, List.map_append]
          have hpf : (xp || fl) = true := by
            cases xp <;> cases fl <;> simp_all
          rw [hpf]
          rfl
        · rw [hsa, hht, h, cond_true, List.map_append, hal]
          rfl
        · rw [ht, htk, List.map_append]
          have hpf : (xp || fl) = xp := by
            cases xp <;> cases fl <;> simp_all
          rw [hpf]
          rfl
        · rw [hsa, hht, h, cond_false, List.append_nil]
      · have : i = d.edges.length := by
          simp at h
          omega
        subst this
        rw [List.take_length]
        repeat' ((conv => whnf); first | refine And.intro (fun h => h) ?_ | refine dcond_t (by assumption) ?_ | refine dcond_f (by assumption) ?_ | (refine dcond_intro ?_ ?_ <;> intro h) | exact .refl | refine And.intro (by kernel_rfl) ?_ | refine And.intro ⟨fun h => h, fun h => h⟩ ?_ | (refine And.intro ?_ ?_; focus (simp; done)) | fail)
end Go.Proofs.Ytdajfimollbnlaa

set_option linter.unusedSimpArgs false
set_option linter.unusedVariables false
namespace Go.Proofs.Ytdajfimollbnlaa
open Go.Lift
theorem c_Small (d : Det) (hv : d.view.mem.length ≤ maxLen) (he : d.edges.length ≤ maxLen) : Ret Try.prog 16 [.agg (detE d)] (.v (.bool (decide ((d.view.mem.length : Int) ≤ 60) && decide ((d.edges.length : Int) ≤ 60)))) := by
  refine ret_of_body (fn := Try.f16) (c := Try.f16.body.getD .skip) hm hT (by kernel_rfl) Try.func16 (by kernel_rfl) (by kernel_rfl) (by kernel_rfl) (by kernel_rfl) ?_
  repeat' ((conv => whnf); first | refine And.intro (fun h => h) ?_ | refine dcond_t (by assumption) ?_ | refine dcond_f (by assumption) ?_ | (refine dcond_intro ?_ ?_ <;> intro h) | exact .refl | refine And.intro (by kernel_rfl) ?_ | refine And.intro ⟨fun h => h, fun h => h⟩ ?_ | (refine And.intro ?_ ?_; focus (simp; done)) | fail)
  all_goals (conv => whnf)
  refine dle_bool ?_
  rw [List.length_map, List.length_map]
theorem c_alerts (A : List Alr) (hA : A.length ≤ maxLen) : Ret Try.prog 26 [.lst 4 (A.map alE) false, .lst 4 (A.map alE) false] (.v (.bool true)) := by
  have hA' : A.length ≤ 9223372036854775807 := hA
  refine ret_of_body (fn := Try.f26) (c := Try.f26.body.getD .skip) hm hT (by kernel_rfl) Try.func26 (by kernel_rfl) (by kernel_rfl) (by kernel_rfl) (by kernel_rfl) ?_
  repeat' ((conv => whnf); first | refine And.intro (fun h => h) ?_ | refine dcond_t (by assumption) ?_ | refine dcond_f (by assumption) ?_ | (refine dcond_intro ?_ ?_ <;> intro h) | exact .refl | refine And.intro (by kernel_rfl) ?_ | refine And.intro ⟨fun h => h, fun h => h⟩ ?_ | (refine And.intro ?_ ?_; focus (simp; done)) | fail)
  · simp at h
  · clear h
    repeat' ((conv => whnf); first | refine And.intro (fun h => h) ?_ | refine dcond_t (by assumption) ?_ | refine dcond_f (by assumption) ?_ | (refine dcond_intro ?_ ?_ <;> intro h) | exact .refl | refine And.intro (by kernel_rfl) ?_ | refine And.intro ⟨fun h => h, fun h => h⟩ ?_ | (refine And.intro ?_ ?_; focus (simp; done)) | fail)
    all_goals (conv => whnf)
    refine ⟨Nat, fun i => ⟨[(0, .lst 4 (A.map alE) false), (1, .lst 4 (A.map alE) false), (5, i64 i)], []⟩, fun i => i ≤ A.length, fun i => A.length - i, [], ⟨0, Nat.zero_le _, ?_⟩, ?_⟩
    · exact ⟨by repeat' ((conv => whnf); first | exact trivial | refine And.intro (by (conv => arg 1; whnf); first | (with_reducible exact .refl) | exact dle_int (wrap_succ (by omega)) | exact .refl) ?_), by repeat' ((conv => whnf); first | exact trivial | refine And.intro ?_ ?_ | exact .refl), rfl⟩
    · intro i hi
      repeat' ((conv => whnf); first | refine And.intro (fun h => h) ?_ | refine dcond_t (by assumption) ?_ | refine dcond_f (by assumption) ?_ | (refine dcond_intro ?_ ?_ <;> intro h) | exact .refl | refine And.intro (by kernel_rfl) ?_ | refine And.intro ⟨fun h => h, fun h => h⟩ ?_ | (refine And.intro ?_ ?_; focus (simp; done)) | fail)
      · have hlt : i < A.length := by simpa using h
        clear h
        repeat' ((conv => whnf); first | refine And.intro (fun h => h) ?_ | refine dcond_t (by assumption) ?_ | refine dcond_f (by assumption) ?_ | (refine dcond_intro ?_ ?_ <;> intro h) | exact .refl | refine And.intro (by kernel_rfl) ?_ | refine And.intro ⟨fun h => h, fun h => h⟩ ?_ | refine ⟨_, _, And.intro ⟨rfl, get_map hlt⟩ ?_⟩ | (refine And.intro ?_ ?_; focus (simp; done)) | fail)
        · simp at h
        · conv => whnf
          refine ⟨i + 1, hlt, by simp only []; omega, ?_⟩
          conv => whnf
          exact ⟨⟨.refl, .refl, dle_int (wrap_succ (by omega)), trivial⟩, trivial, by rfl⟩
theorem c_ref3_Same_refl (v : View) (hv : v.mem.length ≤ maxLen) : Ret Try.prog 36 [.agg (viewE v), .agg (viewE v)] (.v (.bool true)) := by
  have e := c_ref1_SameInts v.mem v.mem hv
  rw [sameI_refl] at e
  refine ret_of_body (fn := Try.f36) (c := Try.f36.body.getD .skip) hm hT (by kernel_rfl) Try.func36 (by kernel_rfl) (by kernel_rfl) (by kernel_rfl) (by kernel_rfl) ?_
  repeat' ((conv => whnf); first | refine And.intro (fun h => h) ?_ | refine dcond_t (by assumption) ?_ | refine dcond_f (by assumption) ?_ | (refine dcond_intro ?_ ?_ <;> intro h) | exact .refl | refine And.intro (by kernel_rfl) ?_ | refine And.intro ⟨fun h => h, fun h => h⟩ ?_ | refine .inl ⟨_, _, DleAll_refl _, e, ?_⟩ | refine ⟨_, _, DleAll_refl _, fun _ => e, ?_⟩ | refine ⟨_, _, DleAll_refl _, e, ?_⟩ | (refine And.intro ?_ ?_; focus (simp; done)) | fail)
  all_goals (conv => whnf)
  all_goals refine dle_bool ?_
  all_goals simp
theorem c_ref5_Same_refl (d : Det) (hv : d.view.mem.length ≤ maxLen) (he : d.edges.length ≤ maxLen) : Ret Try.prog 21 [.agg (detE d), .agg (detE d)] (.v (.bool true)) := by
  have he' : d.edges.length ≤ 9223372036854775807 := he
  have e := c_ref3_Same_refl d.view hv
  refine ret_of_body (fn := Try.f21) (c := Try.f21.body.getD .skip) hm hT (by kernel_rfl) Try.func21 (by kernel_rfl) (by kernel_rfl) (by kernel_rfl) (by kernel_rfl) ?_
  repeat' ((conv => whnf); first | refine And.intro (fun h => h) ?_ | refine dcond_t (by assumption) ?_ | refine dcond_f (by assumption) ?_ | (refine dcond_intro ?_ ?_ <;> intro h) | exact .refl | refine And.intro (by kernel_rfl) ?_ | refine And.intro ⟨fun h => h, fun h => h⟩ ?_ | refine .inl ⟨_, _, DleAll_refl _, e, ?_⟩ | refine ⟨_, _, DleAll_refl _, fun _ => e, ?_⟩ | refine ⟨_, _, DleAll_refl _, e, ?_⟩ | (refine And.intro ?_ ?_; focus (simp; done)) | fail)
  · simp at h
  · clear h
    repeat' ((conv => whnf); first | refine And.intro (fun h => h) ?_ | refine dcond_t (by assumption) ?_ | refine dcond_f (by assumption) ?_ | (refine dcond_intro ?_ ?_ <;> intro h) | exact .refl | refine And.intro (by kernel_rfl) ?_ | refine And.intro ⟨fun h => h, fun h => h⟩ ?_ | (refine And.intro ?_ ?_; focus (simp; done)) | fail)
    all_goals (conv => whnf)
    refine ⟨Nat, fun i => ⟨[(2, .lp 0 0), (3, .lp 1 0), (5, i64 i)], [.cells 36 (detE d), .cells 36 (detE d)]⟩, fun i => i ≤ d.edges.length, fun i => d.edges.length - i, [], ⟨0, Nat.zero_le _, ?_⟩, ?_⟩
    · conv => whnf
      exact ⟨⟨.refl, .refl, .refl, trivial⟩, ⟨.refl, .refl, trivial⟩, by rfl⟩
    · intro i hi
      repeat' ((conv => whnf); first | refine And.intro (fun h => h) ?_ | refine dcond_t (by assumption) ?_ | refine dcond_f (by assumption) ?_ | (refine dcond_intro ?_ ?_ <;> intro h) | exact .refl | refine And.intro (by kernel_rfl) ?_ | refine And.intro ⟨fun h => h, fun h => h⟩ ?_ | (refine And.intro ?_ ?_; focus (simp; done)) | fail)
      · have hlt : i < d.edges.length := by simpa using h
        clear h
        repeat' ((conv => whnf); first | refine And.intro (fun h => h) ?_ | refine dcond_t (by assumption) ?_ | refine dcond_f (by assumption) ?_ | (refine dcond_intro ?_ ?_ <;> intro h) | exact .refl | refine And.intro (by kernel_rfl) ?_ | refine And.intro ⟨fun h => h, fun h => h⟩ ?_ | refine ⟨_, _, And.intro ⟨rfl, get_map hlt⟩ ?_⟩ | (refine And.intro ?_ ?_; focus (simp; done)) | fail)
        · simp at h
        · conv => whnf
          refine ⟨i + 1, hlt, by simp only []; omega, ?_⟩
          conv => whnf
          exact ⟨⟨.refl, .refl, dle_int (wrap_succ (by omega)), trivial⟩, ⟨.refl, .refl, trivial⟩, by rfl⟩
theorem new_len (v : View) (s : Int) : (newR v s).1.view.mem.length ≤ v.mem.length ∧ (newR v s).1.edges.length ≤ 5 := by
  unfold newR
  cases (!viewB v || !inB v.mem s)
  · refine ⟨Nat.le_refl _, ?_⟩
    simp only [cond_false]
    rw [edgesAt_len]
    exact subj_len _ _
  · simp [det0]
theorem heard_len (d : Det) (i : Int) : (heardR d i).view.mem.length ≤ d.view.mem.length ∧ (heardR d i).edges.length ≤ d.edges.length := by
  unfold heardR
  cases detB d <;> simp [det0]
theorem tick_len (d : Det) : (tickR d).1.view.mem.length ≤ d.view.mem.length ∧ (tickR d).1.edges.length ≤ d.edges.length ∧ (tickR d).2.length ≤ d.edges.length := by
  have := alsAt_len d d.edges.length
  unfold tickR
  cases detB d <;> simp [det0, this]
theorem r5 (d : Det) (hv : d.view.mem.length ≤ maxLen) (he : d.edges.length ≤ maxLen) (hb : ∀ e ∈ d.edges, 0 ≤ e.win.bits) (v : View) (hv2 : v.mem.length ≤ maxLen) (self id : Int) : Ret Try.prog 5 [.agg (detE d), .agg (viewE v), i64 self, i64 id] (.v (.bool true)) := by
  have l1 := new_len v self
  have l2 := heard_len d id
  have l3 := tick_len d
  have h5 : 5 ≤ maxLen := by decide
  have e1 := c_probe_New v hv2 self
  have e2 := c_ref5_New v hv2 self
  have e3 := c_ref5_Same_refl (newR v self).1 (by omega) (by omega)
  have e4 := c_probe_Valid d hv he
  have e5 := c_ref5_Valid d hv he
  have e6 := c_probe_Heard d hv he id
  have e7 := c_ref5_Heard d hv he id
  have e8 := c_ref5_Same_refl (heardR d id) (by omega) (by omega)
  have e9 := c_probe_Tick d hv he hb
  have e10 := c_ref5_Tick d hv he hb
  have e11 := c_ref5_Same_refl (tickR d).1 (by omega) (by omega)
  have e12 := c_alerts (tickR d).2 (by omega)
  have e13 := c_Small d hv he
  generalize newR v self = N at *
  generalize heardR d id = H at *
  generalize tickR d = T at *
  generalize detB d = D at *
  obtain ⟨N1, N2⟩ := N
  obtain ⟨T1, T2⟩ := T
  simp only [] at e1 e2 e3 e9 e10 e11 e12
  refine ret_of_body (fn := Try.f5) (c := Try.f5.body.getD .skip) hm hT (by kernel_rfl) Try.func5 (by kernel_rfl) (by kernel_rfl) (by kernel_rfl) (by kernel_rfl) ?_
  repeat' ((conv => whnf); first | refine And.intro (fun h => h) ?_ | refine dcond_t (by assumption) ?_ | refine dcond_f (by assumption) ?_ | (refine dcond_intro ?_ ?_ <;> intro h) | exact .refl | refine And.intro (by kernel_rfl) ?_ | refine And.intro ⟨fun h => h, fun h => h⟩ ?_ | refine .inl ⟨_, _, DleAll_refl _, c_awake, ?_⟩ | refine ⟨_, _, DleAll_refl _, fun _ => c_awake, ?_⟩ | refine ⟨_, _, DleAll_refl _, c_awake, ?_⟩ | refine .inl ⟨_, _, DleAll_refl _, e13, ?_⟩ | refine ⟨_, _, DleAll_refl _, fun _ => e13, ?_⟩ | refine ⟨_, _, DleAll_refl _, e13, ?_⟩ | (refine And.intro ?_ ?_; focus (simp; done)) | fail)
  · repeat' ((conv => whnf); first | refine And.intro (fun h => h) ?_ | refine dcond_t (by assumption) ?_ | refine dcond_f (by assumption) ?_ | (refine dcond_intro ?_ ?_ <;> intro h) | exact .refl | refine And.intro (by kernel_rfl) ?_ | refine And.intro ⟨fun h => h, fun h => h⟩ ?_ | refine .inl ⟨_, _, DleAll_refl _, e1, ?_⟩ | refine ⟨_, _, DleAll_refl _, fun _ => e1, ?_⟩ | refine ⟨_, _, DleAll_refl _, e1, ?_⟩ | refine .inl ⟨_, _, DleAll_refl _, e2, ?_⟩ | refine ⟨_, _, DleAll_refl _, fun _ => e2, ?_⟩ | refine ⟨_, _, DleAll_refl _, e2, ?_⟩ | refine .inl ⟨_, _, DleAll_refl _, e9, ?_⟩ | refine ⟨_, _, DleAll_refl _, fun _ => e9, ?_⟩ | refine ⟨_, _, DleAll_refl _, e9, ?_⟩ | refine .inl ⟨_, _, DleAll_refl _, e10, ?_⟩ | refine ⟨_, _, DleAll_refl _, fun _ => e10, ?_⟩ | refine ⟨_, _, DleAll_refl _, e10, ?_⟩ | refine .inl ⟨_, _, DleAll_refl _, e3, ?_⟩ | refine ⟨_, _, DleAll_refl _, fun _ => e3, ?_⟩ | refine ⟨_, _, DleAll_refl _, e3, ?_⟩ | refine .inl ⟨_, _, DleAll_refl _, e4, ?_⟩ | refine ⟨_, _, DleAll_refl _, fun _ => e4, ?_⟩ | refine ⟨_, _, DleAll_refl _, e4, ?_⟩ | refine .inl ⟨_, _, DleAll_refl _, e5, ?_⟩ | refine ⟨_, _, DleAll_refl _, fun _ => e5, ?_⟩ | refine ⟨_, _, DleAll_refl _, e5, ?_⟩ | refine .inl ⟨_, _, DleAll_refl _, e6, ?_⟩ | refine ⟨_, _, DleAll_refl _, fun _ => e6, ?_⟩ | refine ⟨_, _, DleAll_refl _, e6, ?_⟩ | refine .inl ⟨_, _, DleAll_refl _, e7, ?_⟩ | refine ⟨_, _, DleAll_refl _, fun _ => e7, ?_⟩ | refine ⟨_, _, DleAll_refl _, e7, ?_⟩ | refine .inl ⟨_, _, DleAll_refl _, e8, ?_⟩ | refine ⟨_, _, DleAll_refl _, fun _ => e8, ?_⟩ | refine ⟨_, _, DleAll_refl _, e8, ?_⟩ | refine .inl ⟨_, _, DleAll_refl _, e11, ?_⟩ | refine ⟨_, _, DleAll_refl _, fun _ => e11, ?_⟩ | refine ⟨_, _, DleAll_refl _, e11, ?_⟩ | refine .inl ⟨_, _, DleAll_refl _, e12, ?_⟩ | refine ⟨_, _, DleAll_refl _, fun _ => e12, ?_⟩ | refine ⟨_, _, DleAll_refl _, e12, ?_⟩ | (refine And.intro ?_ ?_; focus (simp; done)) | fail)
    all_goals (conv => whnf)
    all_goals refine dle_bool ?_
    all_goals simp
theorem new_bits (v : View) (s : Int) : ∀ e ∈ (newR v s).1.edges, 0 ≤ e.win.bits := by
  unfold newR
  cases (!viewB v || !inB v.mem s)
  · simp only [cond_false]
    intro e he
    simp only [edgesAt, List.mem_map] at he
    obtain ⟨k, _, rfl⟩ := he
    exact Int.le_refl _
  · simp [det0]
theorem heard_bits {d : Det} (hb : ∀ e ∈ d.edges, 0 ≤ e.win.bits) (i : Int) : ∀ e ∈ (heardR d i).edges, 0 ≤ e.win.bits := by
  unfold heardR
  cases detB d
  · simp [det0]
  · simp only [Bool.not_true, cond_false]
    intro e he
    simp only [List.mem_map] at he
    obtain ⟨k, hk, rfl⟩ := he
    unfold heardE
    cases decide (k.subj = i)
    · exact hb k hk
    · exact hb k hk
theorem tick_bits {d : Det} (hb : ∀ e ∈ d.edges, 0 ≤ e.win.bits) : ∀ e ∈ (tickR d).1.edges, 0 ≤ e.win.bits := by
  unfold tickR
  cases detB d
  · simp [det0]
  · simp only [Bool.not_true, cond_false]
    intro e he
    simp only [List.mem_map] at he
    obtain ⟨k, hk, rfl⟩ := he
    exact rec_rng (hb k hk) k.heard
def playI (d : Det) : Prop := d.view.mem.length ≤ maxLen ∧ d.edges.length ≤ maxLen ∧ ∀ e ∈ d.edges, 0 ≤ e.win.bits
theorem play_heard {d : Det} (h : playI d) (i : Int) : playI (heardR d i) := by
  have l2 := heard_len d i
  exact ⟨Nat.le_trans l2.1 h.1, Nat.le_trans l2.2 h.2.1, heard_bits h.2.2 i⟩
theorem play_tick {d : Det} (h : playI d) : playI (tickR d).1 := by
  have l2 := tick_len d
  exact ⟨Nat.le_trans l2.1 h.1, Nat.le_trans l2.2.1 h.2.1, tick_bits h.2.2⟩
theorem play_new {v : View} (hv : v.mem.length ≤ maxLen) (s : Int) : playI (newR v s).1 := by
  have l2 := new_len v s
  exact ⟨Nat.le_trans l2.1 hv, Nat.le_trans l2.2 (by decide), new_bits v s⟩
theorem r6 (v : View) (hv : v.mem.length ≤ maxLen) (self : Int) (l : List Int) (hl : l.length ≤ maxLen) : Ret Try.prog 6 [.agg (viewE v), i64 self, .lst 1 (l.map intE) false] (.v (.bool true)) := by
  have hl' : l.length ≤ 9223372036854775807 := hl
  have p0 := play_new hv self
  have e1 := c_probe_New v hv self
  have e2 := c_ref5_New v hv self
  generalize newR v self = N at *
  obtain ⟨N1, N2⟩ := N
  simp only [] at e1 e2 p0
  refine ret_of_body (fn := Try.f6) (c := Try.f6.body.getD .skip) hm hT (by kernel_rfl) Try.func6 (by kernel_rfl) (by kernel_rfl) (by kernel_rfl) (by kernel_rfl) ?_
  repeat' ((conv => whnf); first | refine And.intro (fun h => h) ?_ | refine dcond_t (by assumption) ?_ | refine dcond_f (by assumption) ?_ | (refine dcond_intro ?_ ?_ <;> intro h) | exact .refl | refine And.intro (by kernel_rfl) ?_ | refine And.intro ⟨fun h => h, fun h => h⟩ ?_ | refine .inl ⟨_, _, DleAll_refl _, c_awake, ?_⟩ | refine ⟨_, _, DleAll_refl _, fun _ => c_awake, ?_⟩ | refine ⟨_, _, DleAll_refl _, c_awake, ?_⟩ | (refine And.intro ?_ ?_; focus (simp; done)) | fail)
  clear h
  repeat' ((conv => whnf); first | refine And.intro (fun h => h) ?_ | refine dcond_t (by assumption) ?_ | refine dcond_f (by assumption) ?_ | (refine dcond_intro ?_ ?_ <;> intro h) | exact .refl | refine And.intro (by kernel_rfl) ?_ | refine And.intro ⟨fun h => h, fun h => h⟩ ?_ | refine .inl ⟨_, _, DleAll_refl _, e1, ?_⟩ | refine ⟨_, _, DleAll_refl _, fun _ => e1, ?_⟩ | refine ⟨_, _, DleAll_refl _, e1, ?_⟩ | refine .inl ⟨_, _, DleAll_refl _, e2, ?_⟩ | refine ⟨_, _, DleAll_refl _, fun _ => e2, ?_⟩ | refine ⟨_, _, DleAll_refl _, e2, ?_⟩ | (refine And.intro ?_ ?_; focus (simp; done)) | fail)
  · simp at h
  · clear h
    repeat' ((conv => whnf); first | refine And.intro (fun h => h) ?_ | refine dcond_t (by assumption) ?_ | refine dcond_f (by assumption) ?_ | (refine dcond_intro ?_ ?_ <;> intro h) | exact .refl | refine And.intro (by kernel_rfl) ?_ | refine And.intro ⟨fun h => h, fun h => h⟩ ?_ | (refine And.intro ?_ ?_; focus (simp; done)) | fail)
    all_goals (conv => whnf)
    refine ⟨Nat × Det, fun x => ⟨[(2, .lst 1 (l.map intE) false), (7, .lp 1 0), (9, .lp 2 0), (11, i64 x.1)], [.cells 33 (viewE v), .cells 36 (detE x.2), .cells 36 (detE x.2)]⟩, fun x => x.1 ≤ l.length ∧ playI x.2, fun x => l.length - x.1, [], ⟨⟨0, N1⟩, ⟨Nat.zero_le _, p0⟩, ?_⟩, ?_⟩
    · conv => whnf
      exact ⟨⟨.refl, .refl, .refl, .refl, trivial⟩, ⟨.refl, .refl, .refl, trivial⟩, by rfl⟩
    · intro ⟨i, d⟩ ⟨hi, hp⟩
      simp only [] at hi hp
      repeat' ((conv => whnf); first | refine And.intro (fun h => h) ?_ | refine dcond_t (by assumption) ?_ | refine dcond_f (by assumption) ?_ | (refine dcond_intro ?_ ?_ <;> intro h) | exact .refl | refine And.intro (by kernel_rfl) ?_ | refine And.intro ⟨fun h => h, fun h => h⟩ ?_ | (refine And.intro ?_ ?_; focus (simp; done)) | fail)
      · have hlt : i < l.length := by simpa using h
        clear h
        have e6 := c_probe_Heard d hp.1 hp.2.1 l[i]
        have e7 := c_ref5_Heard d hp.1 hp.2.1 l[i]
        have e9 := c_probe_Tick d hp.1 hp.2.1 hp.2.2
        have e10 := c_ref5_Tick d hp.1 hp.2.1 hp.2.2
        have ph := play_heard hp l[i]
        have pt := play_tick hp
        have l3 := tick_len d
        have e12 := c_alerts (tickR d).2 (Nat.le_trans l3.2.2 hp.2.1)
        generalize heardR d l[i] = H at *
        generalize tickR d = T at *
        obtain ⟨T1, T2⟩ := T
        simp only [] at e9 e10 e12 pt
        repeat' ((conv => whnf); first | refine And.intro (fun h => h) ?_ | refine dcond_t (by assumption) ?_ | refine dcond_f (by assumption) ?_ | (refine dcond_intro ?_ ?_ <;> intro h) | exact .refl | refine And.intro (by kernel_rfl) ?_ | refine And.intro ⟨fun h => h, fun h => h⟩ ?_ | refine ⟨_, _, And.intro ⟨rfl, get_map hlt⟩ ?_⟩ | refine .inl ⟨_, _, DleAll_refl _, e6, ?_⟩ | refine ⟨_, _, DleAll_refl _, fun _ => e6, ?_⟩ | refine ⟨_, _, DleAll_refl _, e6, ?_⟩ | refine .inl ⟨_, _, DleAll_refl _, e7, ?_⟩ | refine ⟨_, _, DleAll_refl _, fun _ => e7, ?_⟩ | refine ⟨_, _, DleAll_refl _, e7, ?_⟩ | refine .inl ⟨_, _, DleAll_refl _, e9, ?_⟩ | refine ⟨_, _, DleAll_refl _, fun _ => e9, ?_⟩ | refine ⟨_, _, DleAll_refl _, e9, ?_⟩ | refine .inl ⟨_, _, DleAll_refl _, e10, ?_⟩ | refine ⟨_, _, DleAll_refl _, fun _ => e10, ?_⟩ | refine ⟨_, _, DleAll_refl _, e10, ?_⟩ | refine .inl ⟨_, _, DleAll_refl _, e12, ?_⟩ | refine ⟨_, _, DleAll_refl _, fun _ => e12, ?_⟩ | refine ⟨_, _, DleAll_refl _, e12, ?_⟩ | (refine And.intro ?_ ?_; focus (simp; done)) | fail)
        · conv => whnf
          refine ⟨⟨i + 1, H⟩, ⟨hlt, ph⟩, by simp only []; omega, ?_⟩
          conv => whnf
          exact ⟨⟨.refl, .refl, .refl, dle_int (wrap_succ (by omega)), trivial⟩, ⟨.refl, .refl, .refl, trivial⟩, by rfl⟩
        · conv => whnf
          refine ⟨⟨i + 1, T1⟩, ⟨hlt, pt⟩, by simp only []; omega, ?_⟩
          conv => whnf
          exact ⟨⟨.refl, .refl, .refl, dle_int (wrap_succ (by omega)), trivial⟩, ⟨.refl, .refl, .refl, trivial⟩, by rfl⟩
      · have e3 := c_ref5_Same_refl d hp.1 hp.2.1
        repeat' ((conv => whnf); first | refine And.intro (fun h => h) ?_ | refine dcond_t (by assumption) ?_ | refine dcond_f (by assumption) ?_ | (refine dcond_intro ?_ ?_ <;> intro h) | exact .refl | refine And.intro (by kernel_rfl) ?_ | refine And.intro ⟨fun h => h, fun h => h⟩ ?_ | refine .inl ⟨_, _, DleAll_refl _, e3, ?_⟩ | refine ⟨_, _, DleAll_refl _, fun _ => e3, ?_⟩ | refine ⟨_, _, DleAll_refl _, e3, ?_⟩ | (refine And.intro ?_ ?_; focus (simp; done)) | fail)
theorem dat_edges {n : Nat} {r : List DV} (h : Dat tt (n + 4) 34 r) : ∃ l : List Edge, r = [.lst 6 (l.map edgeE) false] ∧ l.length ≤ maxLen ∧ ∀ e ∈ l, 0 ≤ e.win.bits := by
  obtain ⟨es, rfl, hl, hes⟩ := h
  obtain ⟨d, rfl, hd⟩ := list_data (f := edgeE) (Q := fun e => 0 ≤ e.win.bits) (fun r hr => by
    obtain ⟨_, _, rfl, ⟨a, rfl, _⟩, _, _, rfl, ⟨b, rfl, _⟩, _, _, rfl, ⟨c, rfl⟩, _, _, rfl, ⟨d, rfl⟩, p, q, rfl, hw, rfl⟩ := hes r hr
    obtain ⟨w, rfl, hw2⟩ := dat_win (n := n + 1) hw
    exact ⟨⟨a, b, c, d, w⟩, rfl, hw2⟩)
  exact ⟨d, rfl, by simpa using hl, hd⟩
theorem dat_det {n : Nat} {r : List DV} (h : Dat tt (n + 5) 36 r) : ∃ d : Det, r = detE d ∧ playI d := by
  obtain ⟨_, _, rfl, ⟨a, rfl, _⟩, _, _, rfl, hv, p, q, rfl, he, rfl⟩ := h
  obtain ⟨v, rfl, hv2⟩ := dat_view (n := n + 1) hv
  obtain ⟨E, rfl, hE⟩ := dat_edges (n := n) he
  exact ⟨⟨a, v, E⟩, rfl, hv2, hE.1, hE.2⟩
theorem law5 (dvs : List DV) (h : DatAll tt 6 [36, 33, 3, 3] dvs) : Ret Try.prog 5 dvs (.v (.bool true)) := by
  obtain ⟨a, _, rfl, ha, b, _, rfl, hb, _, _, rfl, ⟨s, rfl, _⟩, _, _, rfl, ⟨i, rfl, _⟩, rfl⟩ := h
  obtain ⟨d, rfl, hd⟩ := dat_det (n := 1) ha
  obtain ⟨v, rfl, hv⟩ := dat_view (n := 3) hb
  exact r5 d hd.1 hd.2.1 hd.2.2 v hv s i
theorem law6 (dvs : List DV) (h : DatAll tt 6 [33, 3, 31] dvs) : Ret Try.prog 6 dvs (.v (.bool true)) := by
  obtain ⟨b, _, rfl, hb, _, _, rfl, ⟨s, rfl, _⟩, a, _, rfl, ha, rfl⟩ := h
  obtain ⟨v, rfl, hv⟩ := dat_view (n := 3) hb
  obtain ⟨l, rfl, hl⟩ := dat_ints (n := 4) ha
  exact r6 v hv s l hl
end Go.Proofs.Ytdajfimollbnlaa
