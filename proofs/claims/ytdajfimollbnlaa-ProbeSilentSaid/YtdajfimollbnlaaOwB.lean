/- The laws of this seat, part OwB: contracts of the functions, plain laws. No conditions. -/
import Derived.Test.YtdajfimollbnlaaOwA
set_option linter.unusedSimpArgs false
set_option linter.unusedVariables false
namespace Go.Proofs.Ytdajfimollbnlaa
open Go.Lift
theorem take_map {α : Type} {f : α → α} {l : List α} {i : Nat} (h : i < l.length) : (l.take (i + 1)).map f = (l.take i).map f ++ [f l[i]] := by
  rw [List.take_succ_eq_append_getElem h, List.map_append]
  rfl
theorem c_ref5_Heard (d : Det) (hv : d.view.mem.length ≤ maxLen) (he : d.edges.length ≤ maxLen) (id : Int) : Ret Try.prog 25 [.agg (detE d), i64 id] (.agg (detE (heardR d id))) := by
  have e1 := c_ref5_Valid d hv he
  refine ret_of_body (fn := Try.f25) (c := Try.f25.body.getD .skip) hm hT (by kernel_rfl) Try.func25 (by kernel_rfl) (by kernel_rfl) (by kernel_rfl) (by kernel_rfl) ?_
  repeat' ((conv => whnf); first | refine And.intro (fun h => h) ?_ | refine dcond_t (by assumption) ?_ | refine dcond_f (by assumption) ?_ | (refine dcond_intro ?_ ?_ <;> intro h) | exact .refl | refine And.intro (by kernel_rfl) ?_ | refine And.intro ⟨fun h => h, fun h => h⟩ ?_ | refine .inl ⟨_, _, DleAll_refl _, e1, ?_⟩ | refine ⟨_, _, DleAll_refl _, fun _ => e1, ?_⟩ | refine ⟨_, _, DleAll_refl _, e1, ?_⟩ | (refine And.intro ?_ ?_; focus (simp; done)) | fail)
  all_goals (conv => whnf)
  · rw [heardR, h]
    exact dle_aggA ⟨.refl, .refl, .nl, .nl, trivial⟩
  · have hdt : detB d = true := by simpa using h
    have hl := det_len hdt
    rw [heardR, h, cond_false]
    clear h
    refine ⟨Nat, fun i => ⟨[(1, i64 id), (2, .lp 0 0), (4, .lp 1 0), (5, .lp 2 0), (6, i64 i)], [.cells 36 (detE d), .cells 36 [i64 0, i64 0, .nl, .nl], .cells 36 [i64 d.self, i64 d.view.num, .lst 1 (d.view.mem.map intE) false, .own 3], .row 58 6 (((d.edges.take i).map (heardE id)).map edgeE)]⟩, fun i => i ≤ d.edges.length, fun i => d.edges.length - i, [.cell 2 3 58 6], ⟨0, Nat.zero_le _, ?_⟩, ?_⟩
    · conv => whnf
      exact ⟨⟨.refl, .refl, .refl, .refl, .refl, trivial⟩, ⟨.refl, .refl, .refl, .refl, trivial⟩, by rfl⟩
    · intro i hi
      repeat' ((conv => whnf); first | refine And.intro (fun h => h) ?_ | refine dcond_t (by assumption) ?_ | refine dcond_f (by assumption) ?_ | (refine dcond_intro ?_ ?_ <;> intro h) | exact .refl | refine And.intro (by kernel_rfl) ?_ | refine And.intro ⟨fun h => h, fun h => h⟩ ?_ | (refine And.intro ?_ ?_; focus (simp; done)) | fail)
      · have hlt : i < d.edges.length := by simpa using h
        clear h
        have ht := take_map (f := heardE id) hlt
        have hf : heardE id d.edges[i] = ⟨d.edges[i].ring, d.edges[i].subj, d.edges[i].heard || decide (d.edges[i].subj = id), d.edges[i].rep, d.edges[i].win⟩ := by
          unfold heardE
          cases decide (d.edges[i].subj = id) <;> simp
        have hfa : (((d.edges.take i).map (heardE id)).map edgeE).length + 1 ≤ 2000000 := by
          simp
          omega
        repeat' ((conv => whnf); first | refine And.intro (fun h => h) ?_ | refine dcond_t (by assumption) ?_ | refine dcond_f (by assumption) ?_ | (refine dcond_intro ?_ ?_ <;> intro h) | exact .refl | refine And.intro (by kernel_rfl) ?_ | refine And.intro ⟨fun h => h, fun h => h⟩ ?_ | refine ⟨_, _, And.intro ⟨rfl, get_map hlt⟩ ?_⟩ | refine And.intro (fitsE hfa) ?_ | (refine And.intro ?_ ?_; focus (simp; done)) | fail)
        all_goals (conv => whnf)
        refine ⟨i + 1, hlt, by simp only []; omega, ?_⟩
        conv => whnf
        refine ⟨⟨.refl, .refl, .refl, .refl, dle_int (wrap_succ (by omega)), trivial⟩, ⟨.refl, .refl, .refl, ole_row ?_, trivial⟩, by rfl⟩
        rw [ht, hf, List.map_append]
        rfl
      · have : i = d.edges.length := by
          simp at h
          omega
        subst this
        rw [List.take_length]
        repeat' ((conv => whnf); first | refine And.intro (fun h => h) ?_ | refine dcond_t (by assumption) ?_ | refine dcond_f (by assumption) ?_ | (refine dcond_intro ?_ ?_ <;> intro h) | exact .refl | refine And.intro (by kernel_rfl) ?_ | refine And.intro ⟨fun h => h, fun h => h⟩ ?_ | (refine And.intro ?_ ?_; focus (simp; done)) | fail)
theorem c_ref5_Tick (d : Det) (hv : d.view.mem.length ≤ maxLen) (he : d.edges.length ≤ maxLen) (hb : ∀ e ∈ d.edges, 0 ≤ e.win.bits) : Ret Try.prog 20 [.agg (detE d)] (.tup [.agg (detE (tickR d).1), .lst 4 ((tickR d).2.map alE) false]) := by
  have e1 := c_ref5_Valid d hv he
  refine ret_of_body (fn := Try.f20) (c := Try.f20.body.getD .skip) hm hT (by kernel_rfl) Try.func20 (by kernel_rfl) (by kernel_rfl) (by kernel_rfl) (by kernel_rfl) ?_
  repeat' ((conv => whnf); first | refine And.intro (fun h => h) ?_ | refine dcond_t (by assumption) ?_ | refine dcond_f (by assumption) ?_ | (refine dcond_intro ?_ ?_ <;> intro h) | exact .refl | refine And.intro (by kernel_rfl) ?_ | refine And.intro ⟨fun h => h, fun h => h⟩ ?_ | refine .inl ⟨_, _, DleAll_refl _, e1, ?_⟩ | refine ⟨_, _, DleAll_refl _, fun _ => e1, ?_⟩ | refine ⟨_, _, DleAll_refl _, e1, ?_⟩ | (refine And.intro ?_ ?_; focus (simp; done)) | fail)
  all_goals (conv => whnf)
  · rw [tickR, h]
    exact dle_tupA ⟨dle_aggA ⟨.refl, .refl, .nl, .nl, trivial⟩, .nl, trivial⟩
  · have hdt : detB d = true := by simpa using h
    have hl := det_len hdt
    rw [tickR, h, cond_false]
    clear h
    refine ⟨Nat, fun i => ⟨[(1, .lp 0 0), (2, .lp 1 0), (4, .lp 2 0), (5, .own 4), (6, i64 i)], [.cells 36 (detE d), .cells 36 [i64 0, i64 0, .nl, .nl], .cells 36 [i64 d.self, i64 d.view.num, .lst 1 (d.view.mem.map intE) false, .own 3], .row 58 6 (((d.edges.take i).map tickE).map edgeE), .row 52 4 ((alsAt d i).map alE)]⟩, fun i => i ≤ d.edges.length, fun i => d.edges.length - i, [.cell 2 3 58 6, .slot 5 52 4], ⟨0, Nat.zero_le _, ?_⟩, ?_⟩
    · conv => whnf
      exact ⟨⟨.refl, .refl, .refl, .refl, .refl, trivial⟩, ⟨.refl, .refl, .refl, .refl, .refl, trivial⟩, by rfl⟩
    · intro i hi
      repeat' ((conv => whnf); first | refine And.intro (fun h => h) ?_ | refine dcond_t (by assumption) ?_ | refine dcond_f (by assumption) ?_ | (refine dcond_intro ?_ ?_ <;> intro h) | exact .refl | refine And.intro (by kernel_rfl) ?_ | refine And.intro ⟨fun h => h, fun h => h⟩ ?_ | (refine And.intro ?_ ?_; focus (simp; done)) | fail)
      · have hlt : i < d.edges.length := by simpa using h
        clear h
        have ht := take_map (f := tickE) hlt
        have hsa := alsAt_succ d i hlt
        have hla := alsAt_len d i
        have hfa : ((alsAt d i).map alE).length + 1 ≤ 2000000 := by rw [List.length_map]; omega
        have hfe : (((d.edges.take i).map tickE).map edgeE).length + 1 ≤ 2000000 := by
          simp
          omega
        have hbi := hb d.edges[i] (List.getElem_mem hlt)
        have hbr := rec_rng (w := d.edges[i].win) hbi d.edges[i].heard
        have er := c_ref5_Record d.edges[i].win hbi d.edges[i].heard
        have ef := c_ref5_Failing (recR d.edges[i].win d.edges[i].heard) hbr
        have htk : tickE d.edges[i] = ⟨d.edges[i].ring, d.edges[i].subj, false, d.edges[i].rep || failR (recR d.edges[i].win d.edges[i].heard), recR d.edges[i].win d.edges[i].heard⟩ := rfl
        have hht : hitE d.edges[i] = (failR (recR d.edges[i].win d.edges[i].heard) && !d.edges[i].rep) := rfl
        have hal : alrOf d d.edges[i] = ⟨d.view.num, d.edges[i].ring, d.self, d.edges[i].subj⟩ := rfl
        have hgx : (d.edges.map edgeE)[i]? = some (edgeE d.edges[i]) := get_map hlt
        generalize hx : d.edges[i] = x at *
        obtain ⟨xr, xs, xh, xp, xw⟩ := x
        simp only [] at hbi hbr er ef htk hht hal
        generalize recR xw xh = w at *
        generalize failR w = fl at *
        repeat' ((conv => whnf); first | refine And.intro (fun h => h) ?_ | refine dcond_t (by assumption) ?_ | refine dcond_f (by assumption) ?_ | (refine dcond_intro ?_ ?_ <;> intro h) | exact .refl | refine And.intro (by kernel_rfl) ?_ | refine And.intro ⟨fun h => h, fun h => h⟩ ?_ | refine ⟨i, _, And.intro ⟨rfl, hgx⟩ ?_⟩ | refine .inl ⟨_, _, DleAll_refl _, er, ?_⟩ | refine ⟨_, _, DleAll_refl _, fun _ => er, ?_⟩ | refine ⟨_, _, DleAll_refl _, er, ?_⟩ | refine .inl ⟨_, _, DleAll_refl _, ef, ?_⟩ | refine ⟨_, _, DleAll_refl _, fun _ => ef, ?_⟩ | refine ⟨_, _, DleAll_refl _, ef, ?_⟩ | refine And.intro (fitsA hfa) ?_ | refine And.intro (fitsE hfe) ?_ | (refine And.intro ?_ ?_; focus (simp; done)) | fail)
        all_goals (conv => whnf)
        all_goals refine ⟨i + 1, hlt, by simp only []; omega, ?_⟩
        all_goals (conv => whnf)
        all_goals refine ⟨⟨.refl, .refl, .refl, .refl, dle_int (wrap_succ (by omega)), trivial⟩, ⟨.refl, .refl, .refl, ole_row ?_, ole_row ?_, trivial⟩, by rfl⟩
        · rw [ht, htk, List.map_append]
          have hpf : (xp || fl) = true := by
            cases xp <;> cases fl <;> simp_all
          rw [hpf]
          rfl
        · rw [hsa, hht, h, cond_true, List.map_append, hal]
          rfl
        · rw [ht, htk, List.map_append]
          have hpf : (xp || fl) = xp := by
            cases xp <;> cases fl <;> simp_all
          rw [hpf]
          rfl
        · rw [hsa, hht, h, cond_false, List.append_nil]
      · have : i = d.edges.length := by
          simp at h
          omega
        subst this
        rw [List.take_length]
        repeat' ((conv => whnf); first | refine And.intro (fun h => h) ?_ | refine dcond_t (by assumption) ?_ | refine dcond_f (by assumption) ?_ | (refine dcond_intro ?_ ?_ <;> intro h) | exact .refl | refine And.intro (by kernel_rfl) ?_ | refine And.intro ⟨fun h => h, fun h => h⟩ ?_ | (refine And.intro ?_ ?_; focus (simp; done)) | fail)
end Go.Proofs.Ytdajfimollbnlaa

set_option linter.unusedSimpArgs false
set_option linter.unusedVariables false
namespace Go.Proofs.Ytdajfimollbnlaa
open Go.Lift
theorem c_Small (d : Det) (hv : d.view.mem.length ≤ maxLen) (he : d.edges.length ≤ maxLen) : Ret Try.prog 16 [.agg (detE d)] (.v (.bool (decide ((d.view.mem.length : Int) ≤ 60) && decide ((d.edges.length : Int) ≤ 60)))) := by
  refine ret_of_body (fn := Try.f16) (c := Try.f16.body.getD .skip) hm hT (by kernel_rfl) Try.func16 (by kernel_rfl) (by kernel_rfl) (by kernel_rfl) (by kernel_rfl) ?_
  repeat' ((conv => whnf); first | refine And.intro (fun h => h) ?_ | refine dcond_t (by assumption) ?_ | refine dcond_f (by assumption) ?_ | (refine dcond_intro ?_ ?_ <;> intro h) | exact .refl | refine And.intro (by kernel_rfl) ?_ | refine And.intro ⟨fun h => h, fun h => h⟩ ?_ | (refine And.intro ?_ ?_; focus (simp; done)) | fail)
  all_goals (conv => whnf)
  refine dle_bool ?_
  rw [List.length_map, List.length_map]
theorem c_alerts (A : List Alr) (hA : A.length ≤ maxLen) : Ret Try.prog 26 [.lst 4 (A.map alE) false, .lst 4 (A.map alE) false] (.v (.bool true)) := by
  have hA' : A.length ≤ 9223372036854775807 := hA
  refine ret_of_body (fn := Try.f26) (c := Try.f26.body.getD .skip) hm hT (by kernel_rfl) Try.func26 (by kernel_rfl) (by kernel_rfl) (by kernel_rfl) (by kernel_rfl) ?_
  repeat' ((conv => whnf); first | refine And.intro (fun h => h) ?_ | refine dcond_t (by assumption) ?_ | refine dcond_f (by assumption) ?_ | (refine dcond_intro ?_ ?_ <;> intro h) | exact .refl | refine And.intro (by kernel_rfl) ?_ | refine And.intro ⟨fun h => h, fun h => h⟩ ?_ | (refine And.intro ?_ ?_; focus (simp; done)) | fail)
  · simp at h
  · clear h
    repeat' ((conv => whnf); first | refine And.intro (fun h => h) ?_ | refine dcond_t (by assumption) ?_ | refine dcond_f (by assumption) ?_ | (refine dcond_intro ?_ ?_ <;> intro h) | exact .refl | refine And.intro (by kernel_rfl) ?_ | refine And.intro ⟨fun h => h, fun h => h⟩ ?_ | (refine And.intro ?_ ?_; focus (simp; done)) | fail)
    all_goals (conv => whnf)
    refine ⟨Nat, fun i => ⟨[(0, .lst 4 (A.map alE) false), (1, .lst 4 (A.map alE) false), (5, i64 i)], []⟩, fun i => i ≤ A.length, fun i => A.length - i, [], ⟨0, Nat.zero_le _, ?_⟩, ?_⟩
    · exact ⟨by repeat' ((conv => whnf); first | exact trivial | refine And.intro (by (conv => arg 1; whnf); first | (with_reducible exact .refl) | exact dle_int (wrap_succ (by omega)) | exact .refl) ?_), by repeat' ((conv => whnf); first | exact trivial | refine And.intro ?_ ?_ | exact .refl), rfl⟩
    · intro i hi
      repeat' ((conv => whnf); first | refine And.intro (fun h => h) ?_ | refine dcond_t (by assumption) ?_ | refine dcond_f (by assumption) ?_ | (refine dcond_intro ?_ ?_ <;> intro h) | exact .refl | refine And.intro (by kernel_rfl) ?_ | refine And.intro ⟨fun h => h, fun h => h⟩ ?_ | (refine And.intro ?_ ?_; focus (simp; done)) | fail)
      · have hlt : i < A.length := by simpa using h
        clear h
        repeat' ((conv => whnf); first | refine And.intro (fun h => h) ?_ | refine dcond_t (by assumption) ?_ | refine dcond_f (by assumption) ?_ | (refine dcond_intro ?_ ?_ <;> intro h) | exact .refl | refine And.intro (by kernel_rfl) ?_ | refine And.intro ⟨fun h => h, fun h => h⟩ ?_ | refine ⟨_, _, And.intro ⟨rfl, get_map hlt⟩ ?_⟩ | (refine And.intro ?_ ?_; focus (simp; done)) | fail)
        · simp at h
        · conv => whnf
          refine ⟨i + 1, hlt, by simp only []; omega, ?_⟩
          conv => whnf
          exact ⟨⟨.refl, .refl, dle_int (wrap_succ (by omega)), trivial⟩, trivial, by rfl⟩
theorem c_ref3_Same_refl (v : View) (hv : v.mem.length ≤ maxLen) : Ret Try.prog 36 [.agg (viewE v), .agg (viewE v)] (.v (.bool true)) := by
  have e := c_ref1_SameInts v.mem v.mem hv
  rw [sameI_refl] at e
  refine ret_of_body (fn := Try.f36) (c := Try.f36.body.getD .skip) hm hT (by kernel_rfl) Try.func36 (by kernel_rfl) (by kernel_rfl) (by kernel_rfl) (by kernel_rfl) ?_
  repeat' ((conv => whnf); first | refine And.intro (fun h => h) ?_ | refine dcond_t (by assumption) ?_ | refine dcond_f (by assumption) ?_ | (refine dcond_intro ?_ ?_ <;> intro h) | exact .refl | refine And.intro (by kernel_rfl) ?_ | refine And.intro ⟨fun h => h, fun h => h⟩ ?_ | refine .inl ⟨_, _, DleAll_refl _, e, ?_⟩ | refine ⟨_, _, DleAll_refl _, fun _ => e, ?_⟩ | refine ⟨_, _, DleAll_refl _, e, ?_⟩ | (refine And.intro ?_ ?_; focus (simp; done)) | fail)
  all_goals (conv => whnf)
  all_goals refine dle_bool ?_
  all_goals simp
theorem c_ref5_Same_refl (d : Det) (hv : d.view.mem.length ≤ maxLen) (he : d.edges.length ≤ maxLen) : Ret Try.prog 21 [.agg (detE d), .agg (detE d)] (.v (.bool true)) := by
  have he' : d.edges.length ≤ 9223372036854775807 := he
  have e := c_ref3_Same_refl d.view hv
  refine ret_of_body (fn := Try.f21) (c := Try.f21.body.getD .skip) hm hT (by kernel_rfl) Try.func21 (by kernel_rfl) (by kernel_rfl) (by kernel_rfl) (by kernel_rfl) ?_
  repeat' ((conv => whnf); first | refine And.intro (fun h => h) ?_ | refine dcond_t (by assumption) ?_ | refine dcond_f (by assumption) ?_ | (refine dcond_intro ?_ ?_ <;> intro h) | exact .refl | refine And.intro (by kernel_rfl) ?_ | refine And.intro ⟨fun h => h, fun h => h⟩ ?_ | refine .inl ⟨_, _, DleAll_refl _, e, ?_⟩ | refine ⟨_, _, DleAll_refl _, fun _ => e, ?_⟩ | refine ⟨_, _, DleAll_refl _, e, ?_⟩ | (refine And.intro ?_ ?_; focus (simp; done)) | fail)
  · simp at h
  · clear h
    repeat' ((conv => whnf); first | refine And.intro (fun h => h) ?_ | refine dcond_t (by assumption) ?_ | refine dcond_f (by assumption) ?_ | (refine dcond_intro ?_ ?_ <;> intro h) | exact .refl | refine And.intro (by kernel_rfl) ?_ | refine And.intro ⟨fun h => h, fun h => h⟩ ?_ | (refine And.intro ?_ ?_; focus (simp; done)) | fail)
    all_goals (conv => whnf)
    refine ⟨Nat, fun i => ⟨[(2, .lp 0 0), (3, .lp 1 0), (5, i64 i)], [.cells 36 (detE d), .cells 36 (detE d)]⟩, fun i => i ≤ d.edges.length, fun i => d.edges.length - i, [], ⟨0, Nat.zero_le _, ?_⟩, ?_⟩
    · conv => whnf
      exact ⟨⟨.refl, .refl, .refl, trivial⟩, ⟨.refl, .refl, trivial⟩, by rfl⟩
    · intro i hi
      repeat' ((conv => whnf); first | refine And.intro (fun h => h) ?_ | refine dcond_t (by assumption) ?_ | refine dcond_f (by assumption) ?_ | (refine dcond_intro ?_ ?_ <;> intro h) | exact .refl | refine And.intro (by kernel_rfl) ?_ | refine And.intro ⟨fun h => h, fun h => h⟩ ?_ | (refine And.intro ?_ ?_; focus (simp; done)) | fail)
      · have hlt : i < d.edges.length := by simpa using h
        clear h
        repeat' ((conv => whnf); first | refine And.intro (fun h => h) ?_ | refine dcond_t (by assumption) ?_ | refine dcond_f (by assumption) ?_ | (refine dcond_intro ?_ ?_ <;> intro h) | exact .refl | refine And.intro (by kernel_rfl) ?_ | refine And.intro ⟨fun h => h, fun h => h⟩ ?_ | refine ⟨_, _, And.intro ⟨rfl, get_map hlt⟩ ?_⟩ | (refine And.intro ?_ ?_; focus (simp; done)) | fail)
        · simp at h
        · conv => whnf
          refine ⟨i + 1, hlt, by simp only []; omega, ?_⟩
          conv => whnf
          exact ⟨⟨.refl, .refl, dle_int (wrap_succ (by omega)), trivial⟩, ⟨.refl, .refl, trivial⟩, by rfl⟩
theorem new_len (v : View) (s : Int) : (newR v s).1.view.mem.length ≤ v.mem.length ∧ (newR v s).1.edges.length ≤ 5 := by
  unfold newR
  cases (!viewB v || !inB v.mem s)
  · refine ⟨Nat.le_refl _, ?_⟩
    simp only [cond_false]
    rw [edgesAt_len]
    exact subj_len _ _
  · simp [det0]
theorem heard_len (d : Det) (i : Int) : (heardR d i).view.mem.length ≤ d.view.mem.length ∧ (heardR d i).edges.length ≤ d.edges.length := by
  unfold heardR
  cases detB d <;> simp [det0]
theorem tick_len (d : Det) : (tickR d).1.view.mem.length ≤ d.view.mem.length ∧ (tickR d).1.edges.length ≤ d.edges.length ∧ (tickR d).2.length ≤ d.edges.length := by
  have := alsAt_len d d.edges.length
  unfold tickR
  cases detB d <;> simp [det0, this]
theorem r5 (d : Det) (hv : d.view.mem.length ≤ maxLen) (he : d.edges.length ≤ maxLen) (hb : ∀ e ∈ d.edges, 0 ≤ e.win.bits) (v : View) (hv2 : v.mem.length ≤ maxLen) (self id : Int) : Ret Try.prog 5 [.agg (detE d), .agg (viewE v), i64 self, i64 id] (.v (.bool true)) := by
  have l1 := new_len v self
  have l2 := heard_len d id
  have l3 := tick_len d
  have h5 : 5 ≤ maxLen := by decide
  have e1 := c_probe_New v hv2 self
  have e2 := c_ref5_New v hv2 self
  have e3 := c_ref5_Same_refl (newR v self).1 (by omega) (by omega)
  have e4 := c_probe_Valid d hv he
  have e5 := c_ref5_Valid d hv he
  have e6 := c_probe_Heard d hv he id
  have e7 := c_ref5_Heard d hv he id
  have e8 := c_ref5_Same_refl (heardR d id) (by omega) (by omega)
  have e9 := c_probe_Tick d hv he hb
  have e10 := c_ref5_Tick d hv he hb
  have e11 := c_ref5_Same_refl (tickR d).1 (by omega) (by omega)
  have e12 := c_alerts (tickR d).2 (by omega)
  have e13 := c_Small d hv he
  generalize newR v self = N at *
  generalize heardR d id = H at *
  generalize tickR d = T at *
  generalize detB d = D at *
  obtain ⟨N1, N2⟩ := N
  obtain ⟨T1, T2⟩ := T
  simp only [] at e1 e2 e3 e9 e10 e11 e12
  refine ret_of_body (fn := Try.f5) (c := Try.f5.body.getD .skip) hm hT (by kernel_rfl) Try.func5 (by kernel_rfl) (by kernel_rfl) (by kernel_rfl) (by kernel_rfl) ?_
  repeat' ((conv => whnf); first | refine And.intro (fun h => h) ?_ | refine dcond_t (by assumption) ?_ | refine dcond_f (by assumption) ?_ | (refine dcond_intro ?_ ?_ <;> intro h) | exact .refl | refine And.intro (by kernel_rfl) ?_ | refine And.intro ⟨fun h => h, fun h => h⟩ ?_ | refine .inl ⟨_, _, DleAll_refl _, c_awake, ?_⟩ | refine ⟨_, _, DleAll_refl _, fun _ => c_awake, ?_⟩ | refine ⟨_, _, DleAll_refl _, c_awake, ?_⟩ | refine .inl ⟨_, _, DleAll_refl _, e13, ?_⟩ | refine ⟨_, _, DleAll_refl _, fun _ => e13, ?_⟩ | refine ⟨_, _, DleAll_refl _, e13, ?_⟩ | (refine And.intro ?_ ?_; focus (simp; done)) | fail)
  · repeat' ((conv => whnf); first | refine And.intro (fun h => h) ?_ | refine dcond_t (by assumption) ?_ | refine dcond_f (by assumption) ?_ | (refine dcond_intro ?_ ?_ <;> intro h) | exact .refl | refine And.intro (by kernel_rfl) ?_ | refine And.intro ⟨fun h => h, fun h => h⟩ ?_ | refine .inl ⟨_, _, DleAll_refl _, e1, ?_⟩ | refine ⟨_, _, DleAll_refl _, fun _ => e1, ?_⟩ | refine ⟨_, _, DleAll_refl _, e1, ?_⟩ | refine .inl ⟨_, _, DleAll_refl _, e2, ?_⟩ | refine ⟨_, _, DleAll_refl _, fun _ => e2, ?_⟩ | refine ⟨_, _, DleAll_refl _, e2, ?_⟩ | refine .inl ⟨_, _, DleAll_refl _, e9, ?_⟩ | refine ⟨_, _, DleAll_refl _, fun _ => e9, ?_⟩ | refine ⟨_, _, DleAll_refl _, e9, ?_⟩ | refine .inl ⟨_, _, DleAll_refl _, e10, ?_⟩ | refine ⟨_, _, DleAll_refl _, fun _ => e10, ?_⟩ | refine ⟨_, _, DleAll_refl _, e10, ?_⟩ | refine .inl ⟨_, _, DleAll_refl _, e3, ?_⟩ | refine ⟨_, _, DleAll_refl _, fun _ => e3, ?_⟩ | refine ⟨_, _, DleAll_refl _, e3, ?_⟩ | refine .inl ⟨_, _, DleAll_refl _, e4, ?_⟩ | refine ⟨_, _, DleAll_refl _, fun _ => e4, ?_⟩ | refine ⟨_, _, DleAll_refl _, e4, ?_⟩ | refine .inl ⟨_, _, DleAll_refl _, e5, ?_⟩ | refine ⟨_, _, DleAll_refl _, fun _ => e5, ?_⟩ | refine ⟨_, _, DleAll_refl _, e5, ?_⟩ | refine .inl ⟨_, _, DleAll_refl _, e6, ?_⟩ | refine ⟨_, _, DleAll_refl _, fun _ => e6, ?_⟩ | refine ⟨_, _, DleAll_refl _, e6, ?_⟩ | refine .inl ⟨_, _, DleAll_refl _, e7, ?_⟩ | refine ⟨_, _, DleAll_refl _, fun _ => e7, ?_⟩ | refine ⟨_, _, DleAll_refl _, e7, ?_⟩ | refine .inl ⟨_, _, DleAll_refl _, e8, ?_⟩ | refine ⟨_, _, DleAll_refl _, fun _ => e8, ?_⟩ | refine ⟨_, _, DleAll_refl _, e8, ?_⟩ | refine .inl ⟨_, _, DleAll_refl _, e11, ?_⟩ | refine ⟨_, _, DleAll_refl _, fun _ => e11, ?_⟩ | refine ⟨_, _, DleAll_refl _, e11, ?_⟩ | refine .inl ⟨_, _, DleAll_refl _, e12, ?_⟩ | refine ⟨_, _, DleAll_refl _, fun _ => e12, ?_⟩ | refine ⟨_, _, DleAll_refl _, e12, ?_⟩ | (refine And.intro ?_ ?_; focus (simp; done)) | fail)
    all_goals (conv => whnf)
    all_goals refine dle_bool ?_
    all_goals simp
theorem new_bits (v : View) (s : Int) : ∀ e ∈ (newR v s).1.edges, 0 ≤ e.win.bits := by
  unfold newR
  cases (!viewB v || !inB v.mem s)
  · simp only [cond_false]
    intro e he
    simp only [edgesAt, List.mem_map] at he
    obtain ⟨k, _, rfl⟩ := he
    exact Int.le_refl _
  · simp [det0]
theorem heard_bits {d : Det} (hb : ∀ e ∈ d.edges, 0 ≤ e.win.bits) (i : Int) : ∀ e ∈ (heardR d i).edges, 0 ≤ e.win.bits := by
  unfold heardR
  cases detB d
  · simp [det0]
  · simp only [Bool.not_true, cond_false]
    intro e he
    simp only [List.mem_map] at he
    obtain ⟨k, hk, rfl⟩ := he
    unfold heardE
    cases decide (k.subj = i)
    · exact hb k hk
    · exact hb k hk
theorem tick_bits {d : Det} (hb : ∀ e ∈ d.edges, 0 ≤ e.win.bits) : ∀ e ∈ (tickR d).1.edges, 0 ≤ e.win.bits := by
  unfold tickR
  cases detB d
  · simp [det0]
  · simp only [Bool.not_true, cond_false]
    intro e he
    simp only [List.mem_map] at he
    obtain ⟨k, hk, rfl⟩ := he
    exact rec_rng (hb k hk) k.heard
def playI (d : Det) : Prop := d.view.mem.length ≤ maxLen ∧ d.edges.length ≤ maxLen ∧ ∀ e ∈ d.edges, 0 ≤ e.win.bits
theorem play_heard {d : Det} (h : playI d) (i : Int) : playI (heardR d i) := by
  have l2 := heard_len d i
  exact ⟨Nat.le_trans l2.1 h.1, Nat.le_trans l2.2 h.2.1, heard_bits h.2.2 i⟩
theorem play_tick {d : Det} (h : playI d) : playI (tickR d).1 := by
  have l2 := tick_len d
  exact ⟨Nat.le_trans l2.1 h.1, Nat.le_trans l2.2.1 h.2.1, tick_bits h.2.2⟩
theorem play_new {v : View} (hv : v.mem.length ≤ maxLen) (s : Int) : playI (newR v s).1 := by
  have l2 := new_len v s
  exact ⟨Nat.le_trans l2.1 hv, Nat.le_trans l2.2 (by decide), new_bits v s⟩
theorem r6 (v : View) (hv : v.mem.length ≤ maxLen) (self : Int) (l : List Int) (hl : l.length ≤ maxLen) : Ret Try.prog 6 [.agg (viewE v), i64 self, .lst 1 (l.map intE) false] (.v (.bool true)) := by
  have hl' : l.length ≤ 9223372036854775807 := hl
  have p0 := play_new hv self
  have e1 := c_probe_New v hv self
  have e2 := c_ref5_New v hv self
  generalize newR v self = N at *
  obtain ⟨N1, N2⟩ := N
  simp only [] at e1 e2 p0
  refine ret_of_body (fn := Try.f6) (c := Try.f6.body.getD .skip) hm hT (by kernel_rfl) Try.func6 (by kernel_rfl) (by kernel_rfl) (by kernel_rfl) (by kernel_rfl) ?_
  repeat' ((conv => whnf); first | refine And.intro (fun h => h) ?_ | refine dcond_t (by assumption) ?_ | refine dcond_f (by assumption) ?_ | (refine dcond_intro ?_ ?_ <;> intro h) | exact .refl | refine And.intro (by kernel_rfl) ?_ | refine And.intro ⟨fun h => h, fun h => h⟩ ?_ | refine .inl ⟨_, _, DleAll_refl _, c_awake, ?_⟩ | refine ⟨_, _, DleAll_refl _, fun _ => c_awake, ?_⟩ | refine ⟨_, _, DleAll_refl _, c_awake, ?_⟩ | (refine And.intro ?_ ?_; focus (simp; done)) | fail)
  clear h
  repeat' ((conv => whnf); first | refine And.intro (fun h => h) ?_ | refine dcond_t (by assumption) ?_ | refine dcond_f (by assumption) ?_ | (refine dcond_intro ?_ ?_ <;> intro h) | exact .refl | refine And.intro (by kernel_rfl) ?_ | refine And.intro ⟨fun h => h, fun h => h⟩ ?_ | refine .inl ⟨_, _, DleAll_refl _, e1, ?_⟩ | refine ⟨_, _, DleAll_refl _, fun _ => e1, ?_⟩ | refine ⟨_, _, DleAll_refl _, e1, ?_⟩ | refine .inl ⟨_, _, DleAll_refl _, e2, ?_⟩ | refine ⟨_, _, DleAll_refl _, fun _ => e2, ?_⟩ | refine ⟨_, _, DleAll_refl _, e2, ?_⟩ | (refine And.intro ?_ ?_; focus (simp; done)) | fail)
  · simp at h
  · clear h
    repeat' ((conv => whnf); first | refine And.intro (fun h => h) ?_ | refine dcond_t (by assumption) ?_ | refine dcond_f (by assumption) ?_ | (refine dcond_intro ?_ ?_ <;> intro h) | exact .refl | refine And.intro (by kernel_rfl) ?_ | refine And.intro ⟨fun h => h, fun h => h⟩ ?_ | (refine And.intro ?_ ?_; focus (simp; done)) | fail)
    all_goals (conv => whnf)
    refine ⟨Nat × Det, fun x => ⟨[(2, .lst 1 (l.map intE) false), (7, .lp 1 0), (9, .lp 2 0), (11, i64 x.1)], [.cells 33 (viewE v), .cells 36 (detE x.2), .cells 36 (detE x.2)]⟩, fun x => x.1 ≤ l.length ∧ playI x.2, fun x => l.length - x.1, [], ⟨⟨0, N1⟩, ⟨Nat.zero_le _, p0⟩, ?_⟩, ?_⟩
    · conv => whnf
      exact ⟨⟨.refl, .refl, .refl, .refl, trivial⟩, ⟨.refl, .refl, .refl, trivial⟩, by rfl⟩
    · intro ⟨i, d⟩ ⟨hi, hp⟩
      simp only [] at hi hp
      repeat' ((conv => whnf); first | refine And.intro (fun h => h) ?_ | refine dcond_t (by assumption) ?_ | refine dcond_f (by assumption) ?_ | (refine dcond_intro ?_ ?_ <;> intro h) | exact .refl | refine And.intro (by kernel_rfl) ?_ | refine And.intro ⟨fun h => h, fun h => h⟩ ?_ | (refine And.intro ?_ ?_; focus (simp; done)) | fail)
      · have hlt : i < l.length := by simpa using h
        clear h
        have e6 := c_probe_Heard d hp.1 hp.2.1 l[i]
        have e7 := c_ref5_Heard d hp.1 hp.2.1 l[i]
        have e9 := c_probe_Tick d hp.1 hp.2.1 hp.2.2
        have e10 := c_ref5_Tick d hp.1 hp.2.1 hp.2.2
        have ph := play_heard hp l[i]
        have pt := play_tick hp
        have l3 := tick_len d
        have e12 := c_alerts (tickR d).2 (Nat.le_trans l3.2.2 hp.2.1)
        generalize heardR d l[i] = H at *
        generalize tickR d = T at *
        obtain ⟨T1, T2⟩ := T
        simp only [] at e9 e10 e12 pt
        repeat' ((conv => whnf); first | refine And.intro (fun h => h) ?_ | refine dcond_t (by assumption) ?_ | refine dcond_f (by assumption) ?_ | (refine dcond_intro ?_ ?_ <;> intro h) | exact .refl | refine And.intro (by kernel_rfl) ?_ | refine And.intro ⟨fun h => h, fun h => h⟩ ?_ | refine ⟨_, _, And.intro ⟨rfl, get_map hlt⟩ ?_⟩ | refine .inl ⟨_, _, DleAll_refl _, e6, ?_⟩ | refine ⟨_, _, DleAll_refl _, fun _ => e6, ?_⟩ | refine ⟨_, _, DleAll_refl _, e6, ?_⟩ | refine .inl ⟨_, _, DleAll_refl _, e7, ?_⟩ | refine ⟨_, _, DleAll_refl _, fun _ => e7, ?_⟩ | refine ⟨_, _, DleAll_refl _, e7, ?_⟩ | refine .inl ⟨_, _, DleAll_refl _, e9, ?_⟩ | refine ⟨_, _, DleAll_refl _, fun _ => e9, ?_⟩ | refine ⟨_, _, DleAll_refl _, e9, ?_⟩ | refine .inl ⟨_, _, DleAll_refl _, e10, ?_⟩ | refine ⟨_, _, DleAll_refl _, fun _ => e10, ?_⟩ | refine ⟨_, _, DleAll_refl _, e10, ?_⟩ | refine .inl ⟨_, _, DleAll_refl _, e12, ?_⟩ | refine ⟨_, _, DleAll_refl _, fun _ => e12, ?_⟩ | refine ⟨_, _, DleAll_refl _, e12, ?_⟩ | (refine And.intro ?_ ?_; focus (simp; done)) | fail)
        · conv => whnf
          refine ⟨⟨i + 1, H⟩, ⟨hlt, ph⟩, by simp only []; omega, ?_⟩
          conv => whnf
          exact ⟨⟨.refl, .refl, .refl, dle_int (wrap_succ (by omega)), trivial⟩, ⟨.refl, .refl, .refl, trivial⟩, by rfl⟩
        · conv => whnf
          refine ⟨⟨i + 1, T1⟩, ⟨hlt, pt⟩, by simp only []; omega, ?_⟩
          conv => whnf
          exact ⟨⟨.refl, .refl, .refl, dle_int (wrap_succ (by omega)), trivial⟩, ⟨.refl, .refl, .refl, trivial⟩, by rfl⟩
      · have e3 := c_ref5_Same_refl d hp.1 hp.2.1
        repeat' ((conv => whnf); first | refine And.intro (fun h => h) ?_ | refine dcond_t (by assumption) ?_ | refine dcond_f (by assumption) ?_ | (refine dcond_intro ?_ ?_ <;> intro h) | exact .refl | refine And.intro (by kernel_rfl) ?_ | refine And.intro ⟨fun h => h, fun h => h⟩ ?_ | refine .inl ⟨_, _, DleAll_refl _, e3, ?_⟩ | refine ⟨_, _, DleAll_refl _, fun _ => e3, ?_⟩ | refine ⟨_, _, DleAll_refl _, e3, ?_⟩ | (refine And.intro ?_ ?_; focus (simp; done)) | fail)
theorem dat_edges {n : Nat} {r : List DV} (h : Dat tt (n + 4) 34 r) : ∃ l : List Edge, r = [.lst 6 (l.map edgeE) false] ∧ l.length ≤ maxLen ∧ ∀ e ∈ l, 0 ≤ e.win.bits := by
  obtain ⟨es, rfl, hl, hes⟩ := h
  obtain ⟨d, rfl, hd⟩ := list_data (f := edgeE) (Q := fun e => 0 ≤ e.win.bits) (fun r hr => by
    obtain ⟨_, _, rfl, ⟨a, rfl, _⟩, _, _, rfl, ⟨b, rfl, _⟩, _, _, rfl, ⟨c, rfl⟩, _, _, rfl, ⟨d, rfl⟩, p, q, rfl, hw, rfl⟩ := hes r hr
    obtain ⟨w, rfl, hw2⟩ := dat_win (n := n + 1) hw
    exact ⟨⟨a, b, c, d, w⟩, rfl, hw2⟩)
  exact ⟨d, rfl, by simpa using hl, hd⟩
theorem dat_det {n : Nat} {r : List DV} (h : Dat tt (n + 5) 36 r) : ∃ d : Det, r = detE d ∧ playI d := by
  obtain ⟨_, _, rfl, ⟨a, rfl, _⟩, _, _, rfl, hv, p, q, rfl, he, rfl⟩ := h
  obtain ⟨v, rfl, hv2⟩ := dat_view (n := n + 1) hv
  obtain ⟨E, rfl, hE⟩ := dat_edges (n := n) he
  exact ⟨⟨a, v, E⟩, rfl, hv2, hE.1, hE.2⟩
theorem law5 (dvs : List DV) (h : DatAll tt 6 [36, 33, 3, 3] dvs) : Ret Try.prog 5 dvs (.v (.bool true)) := by
  obtain ⟨a, _, rfl, ha, b, _, rfl, hb, _, _, rfl, ⟨s, rfl, _⟩, _, _, rfl, ⟨i, rfl, _⟩, rfl⟩ := h
  obtain ⟨d, rfl, hd⟩ := dat_det (n := 1) ha
  obtain ⟨v, rfl, hv⟩ := dat_view (n := 3) hb
  exact r5 d hd.1 hd.2.1 hd.2.2 v hv s i
theorem law6 (dvs : List DV) (h : DatAll tt 6 [33, 3, 31] dvs) : Ret Try.prog 6 dvs (.v (.bool true)) := by
  obtain ⟨b, _, rfl, hb, _, _, rfl, ⟨s, rfl, _⟩, a, _, rfl, ha, rfl⟩ := h
  obtain ⟨v, rfl, hv⟩ := dat_view (n := 3) hb
  obtain ⟨l, rfl, hl⟩ := dat_ints (n := 4) ha
  exact r6 v hv s l hl
end Go.Proofs.Ytdajfimollbnlaa

set_option linter.unusedSimpArgs false
set_option linter.unusedVariables false
namespace Go.Proofs.Ytdajfimollbnlaa
open Go.Lift
theorem win_mk {b c : Nat} (hc : c ≤ 10) (hb : b < 2 ^ c) : winB ⟨b, c⟩ = true := by
  have hp : ∀ c : Fin 11, IntKind.u32.wrap (1 * 2 ^ (min ((c.1 : Nat) : Int).toNat 32)) = ((2 ^ c.1 : Nat) : Int) := by decide +kernel
  have hp := hp ⟨c, by omega⟩
  have a1 : (0 : Int) ≤ ((c : Nat) : Int) := by omega
  have a2 : ((c : Nat) : Int) ≤ 10 := by omega
  have a3 : ((b : Nat) : Int) < IntKind.u32.wrap (1 * 2 ^ (min ((c : Nat) : Int).toNat 32)) := by
    simp only [] at hp
    rw [hp]
    exact Int.ofNat_lt.2 hb
  show ((decide ((0 : Int) ≤ ((c : Nat) : Int)) && decide (((c : Nat) : Int) ≤ 10)) && decide (((b : Nat) : Int) < IntKind.u32.wrap (1 * 2 ^ (min ((c : Nat) : Int).toNat 32)))) = true
  rw [decide_eq_true a1, decide_eq_true a2, decide_eq_true a3]
  rfl
theorem win_rec {w : Win} (hb : 0 ≤ w.bits) (ok : Bool) : winB (recR w ok) = true := by
  unfold recR
  cases h : winB w
  · rw [Bool.not_false, cond_true]
    exact win_mk (b := 0) (c := 0) (by decide) (by decide)
  · obtain ⟨h1, h2, h3, h4⟩ := win_in h hb
    rw [Bool.not_true, cond_false]
    obtain ⟨bi, ct⟩ := w
    simp only [] at h1 h2 h3 h4 hb ⊢
    obtain ⟨b, rfl⟩ := Int.eq_ofNat_of_zero_le hb
    obtain ⟨c, rfl⟩ := Int.eq_ofNat_of_zero_le h1
    have hp : ((2 : Int) ^ c) = ((2 ^ c : Nat) : Int) := (Int.natCast_pow 2 c).symm
    rw [Int.toNat_natCast, hp] at h3
    have h3 : b < 2 ^ c := by omega
    have hc : (if (10 : Int) < (c : Int) + 1 then (10 : Int) else (c : Int) + 1) = ((min (c + 1) 10 : Nat) : Int) := by split <;> omega
    have hf : (bif ok then (0 : Int) else 1) = ((bif ok then 0 else 1 : Nat) : Int) := by cases ok <;> rfl
    have hbb : (b : Int) * 2 % 1024 + (bif ok then (0 : Int) else 1) = ((b * 2 % 1024 + (bif ok then 0 else 1) : Nat) : Int) := by
      rw [hf]
      clear h3 hf hc h4
      generalize (bif ok then 0 else 1 : Nat) = f
      omega
    rw [hc, hbb]
    refine win_mk (by omega) ?_
    have hf1 : (bif ok then 0 else 1 : Nat) ≤ 1 := by cases ok <;> simp
    generalize (bif ok then 0 else 1 : Nat) = f at *
    by_cases h : c < 10
    · have e2 : min (c + 1) 10 = c + 1 := by omega
      have hp : 2 ^ (c + 1) ≤ 2 ^ 10 := Nat.pow_le_pow_right (by decide) (by omega)
      rw [e2]
      rw [Nat.pow_succ] at hp ⊢
      have hm : b * 2 % 1024 ≤ b * 2 := Nat.mod_le _ _
      omega
    · have e2 : min (c + 1) 10 = 10 := by omega
      rw [e2]
      omega
def good (v : View) (id : Int) (d : Det) : Prop := d.view = v ∧ d.self = id ∧ d.edges.length = (subjR v.mem id).length ∧ ∀ (k : Nat) (h : k < d.edges.length), d.edges[k].ring = k ∧ d.edges[k].subj = (subjR v.mem id).getD k 0 ∧ winB d.edges[k].win = true ∧ 0 ≤ d.edges[k].win.bits
theorem good_new {v : View} {id : Int} (hv : viewB v = true) (hi : inB v.mem id = true) : newR v id = (⟨id, v, edgesAt (subjR v.mem id) (subjR v.mem id).length⟩, 0) := by
  rw [newR, hv, hi]
  rfl
theorem good_zero (v : View) (id : Int) : good v id ⟨id, v, edgesAt (subjR v.mem id) (subjR v.mem id).length⟩ := by
  refine ⟨rfl, rfl, edgesAt_len _ _, fun k h => ?_⟩
  simp only [edgesAt, List.getElem_map, List.getElem_range, edge0]
  exact ⟨trivial, trivial, win_mk (b := 0) (c := 0) (by decide) (by decide), Int.le_refl _⟩
theorem good_det {v : View} {id : Int} {d : Det} (hv : viewB v = true) (hi : inB v.mem id = true) (h : good v id d) : detB d = true := by
  obtain ⟨rfl, rfl, hl, he⟩ := h
  unfold detB
  rw [good_new hv hi]
  simp only [edgesAt_len]
  rw [decide_eq_true (by omega : (d.edges.length : Int) = ((subjR d.view.mem d.self).length : Int))]
  show allB (okEd d.edges (edgesAt (subjR d.view.mem d.self) (subjR d.view.mem d.self).length)) d.edges.length = true
  refine allB_true.2 (fun k hk => ?_)
  have hg : d.edges.getD k edgeZ = d.edges[k] := by simp [hk]
  have hk2 : k < (edgesAt (subjR d.view.mem d.self) (subjR d.view.mem d.self).length).length := by rw [edgesAt_len]; omega
  have hg2 : (edgesAt (subjR d.view.mem d.self) (subjR d.view.mem d.self).length).getD k edgeZ = edge0 k ((subjR d.view.mem d.self).getD k 0) := by
    rw [List.getD_eq_getElem?_getD, List.getElem?_eq_getElem hk2]
    simp [edgesAt]
  obtain ⟨a1, a2, a3, _⟩ := he k hk
  unfold okEd
  rw [hg, hg2, a1, a2, a3]
  simp [edge0]
theorem good_heard {v : View} {id : Int} {d : Det} (hv : viewB v = true) (hi : inB v.mem id = true) (h : good v id d) (x : Int) : good v id (heardR d x) := by
  have hd := good_det hv hi h
  unfold heardR
  rw [hd, Bool.not_true, cond_false]
  obtain ⟨h1, h2, h3, h4⟩ := h
  refine ⟨h1, h2, by simpa using h3, fun k hk => ?_⟩
  simp only [List.getElem_map, List.length_map] at hk ⊢
  have := h4 k hk
  unfold heardE
  cases decide (d.edges[k].subj = x) <;> exact this
theorem good_tick {v : View} {id : Int} {d : Det} (hv : viewB v = true) (hi : inB v.mem id = true) (h : good v id d) : good v id (tickR d).1 := by
  have hd := good_det hv hi h
  unfold tickR
  rw [hd, Bool.not_true, cond_false]
  obtain ⟨h1, h2, h3, h4⟩ := h
  refine ⟨h1, h2, by simpa using h3, fun k hk => ?_⟩
  simp only [List.getElem_map, List.length_map] at hk ⊢
  have := h4 k hk
  exact ⟨this.1, this.2.1, win_rec this.2.2.2 _, rec_rng this.2.2.2 _⟩
def repK (d : Det) (k : Nat) : Bool := (d.edges.getD k edgeZ).rep
def midK (d : Det) (j k : Nat) : Bool := repK d k || ((alsAt d d.edges.length).take j).any fun a => decide (a.ring = k)
theorem heard_rep {v : View} {id : Int} {d : Det} (hv : viewB v = true) (hi : inB v.mem id = true) (h : good v id d) (x : Int) (k : Nat) : repK (heardR d x) k = repK d k := by
  have hd := good_det hv hi h
  unfold heardR repK
  rw [hd, Bool.not_true, cond_false]
  by_cases hk : k < d.edges.length
  · simp only [List.getD_eq_getElem?_getD, List.getElem?_map, List.getElem?_eq_getElem hk, Option.map_some, Option.getD_some]
    unfold heardE
    cases decide (d.edges[k].subj = x) <;> rfl
  · simp [hk, List.getElem?_eq_none (Nat.le_of_not_lt hk)]
theorem als_mem {v : View} {id : Int} {d : Det} (h : good v id d) {a : Alr} (ha : a ∈ alsAt d d.edges.length) : ∃ (k : Nat) (hk : k < d.edges.length), hitE d.edges[k] = true ∧ a = ⟨v.num, k, id, (subjR v.mem id).getD k 0⟩ := by
  unfold alsAt at ha
  rw [List.take_length] at ha
  simp only [List.mem_map, List.mem_filter] at ha
  obtain ⟨e, ⟨hm, hh⟩, rfl⟩ := ha
  obtain ⟨k, hk, rfl⟩ := List.getElem_of_mem hm
  obtain ⟨h1, h2, h3, h4⟩ := h
  refine ⟨k, hk, hh, ?_⟩
  have := h4 k hk
  unfold alrOf
  rw [h1, h2, this.1, this.2.1]
theorem als_any {v : View} {id : Int} {d : Det} (h : good v id d) {k : Nat} (hk : k < d.edges.length) : (alsAt d d.edges.length).any (fun a => decide (a.ring = k)) = hitE d.edges[k] := by
  rw [Bool.eq_iff_iff, List.any_eq_true]
  constructor
  · rintro ⟨a, ha, hr⟩
    obtain ⟨k2, hk2, hh, rfl⟩ := als_mem h ha
    simp only [decide_eq_true_eq] at hr
    have : k2 = k := by omega
    subst this
    exact hh
  · intro hh
    refine ⟨alrOf d d.edges[k], ?_, ?_⟩
    · unfold alsAt
      rw [List.take_length]
      exact List.mem_map_of_mem (List.mem_filter.2 ⟨List.getElem_mem hk, hh⟩)
    · have := h.2.2.2 k hk
      simp only [alrOf, this.1, decide_eq_true_eq]
theorem als_sorted {v : View} {id : Int} {d : Det} (h : good v id d) : (alsAt d d.edges.length).Pairwise fun a b => a.ring < b.ring := by
  unfold alsAt
  rw [List.take_length, List.pairwise_map]
  have hp : d.edges.Pairwise fun a b => a.ring < b.ring := by
    rw [List.pairwise_iff_getElem]
    intro i j hi hj hij
    rw [(h.2.2.2 i hi).1, (h.2.2.2 j hj).1]
    omega
  exact (hp.filter _)
theorem mid_all {v : View} {id : Int} {d : Det} (hv : viewB v = true) (hi : inB v.mem id = true) (h : good v id d) (k : Nat) : midK d (alsAt d d.edges.length).length k = repK (tickR d).1 k := by
  have hd := good_det hv hi h
  unfold midK
  rw [List.take_length]
  by_cases hk : k < d.edges.length
  · rw [als_any h hk]
    unfold tickR repK
    rw [hd, Bool.not_true, cond_false]
    simp only [List.getD_eq_getElem?_getD, List.getElem?_map, List.getElem?_eq_getElem hk, Option.map_some, Option.getD_some, tickE, hitE]
    cases d.edges[k].rep <;> simp
  · have h1 : repK (tickR d).1 k = false := by
      unfold tickR repK
      rw [hd, Bool.not_true, cond_false]
      simp [hk, List.getElem?_eq_none (Nat.le_of_not_lt hk), edgeZ]
    have h2 : repK d k = false := by
      unfold repK
      simp [List.getElem?_eq_none (Nat.le_of_not_lt hk), edgeZ]
    rw [h1, h2, Bool.false_or, List.any_eq_false]
    intro a ha
    obtain ⟨k2, hk2, _, rfl⟩ := als_mem h ha
    simp only [decide_eq_true_eq]
    omega
theorem mid_at {v : View} {id : Int} {d : Det} (h : good v id d) {j : Nat} (hj : j < (alsAt d d.edges.length).length) : ∃ k : Nat, k < 5 ∧ (alsAt d d.edges.length)[j].ring = k ∧ (alsAt d d.edges.length)[j].view = v.num ∧ (alsAt d d.edges.length)[j].obs = id ∧ midK d j k = false ∧ ∀ k2, midK d (j + 1) k2 = (midK d j k2 || decide (k2 = k)) := by
  obtain ⟨k, hk, hh, ha⟩ := als_mem h (List.getElem_mem hj)
  have hs := List.pairwise_iff_getElem.1 (als_sorted h)
  have h5 := subj_len v.mem id
  have hl := h.2.2.1
  refine ⟨k, by omega, by rw [ha], by rw [ha], by rw [ha], ?_, ?_⟩
  · have hr : repK d k = false := by
      unfold repK
      simp only [List.getD_eq_getElem?_getD, List.getElem?_eq_getElem hk, Option.getD_some]
      simp only [hitE, Bool.and_eq_true, Bool.not_eq_true'] at hh
      exact hh.2
    unfold midK
    rw [hr, Bool.false_or, List.any_eq_false]
    intro a ham
    obtain ⟨i, hi, rfl⟩ := List.getElem_of_mem ham
    simp only [List.length_take] at hi
    simp only [List.getElem_take, decide_eq_true_eq]
    have := hs i j (by omega) hj (by omega)
    rw [ha] at this
    simp only [] at this
    omega
  · intro k2
    unfold midK
    rw [List.take_succ_eq_append_getElem hj, List.any_append, ← Bool.or_assoc]
    congr 1
    simp only [List.any_cons, List.any_nil, Bool.or_false, ha]
    exact decide_eq_decide.2 (by omega)
end Go.Proofs.Ytdajfimollbnlaa

set_option linter.unusedSimpArgs false
set_option linter.unusedVariables false
namespace Go.Proofs.Ytdajfimollbnlaa
open Go.Lift
def bD (b : Bool) : DV := .v (.bool b)
def repsD (f : Nat → Bool) : List DV := (List.range 5).map fun k => bD (f k)
theorem repsD_eq (f : Nat → Bool) : repsD f = [bD (f 0), bD (f 1), bD (f 2), bD (f 3), bD (f 4)] := rfl
theorem reps_set {f g : Nat → Bool} {k : Nat} (hk : k < 5) (hg : ∀ k2, g k2 = (f k2 || decide (k2 = k))) : dsplice (repsD f) (0 + k * 1) [bD true] = repsD g := by
  rw [repsD_eq g, hg 0, hg 1, hg 2, hg 3, hg 4, repsD_eq f]
  match k, hk with
  | 0, _ | 1, _ | 2, _ | 3, _ | 4, _ => simp [dsplice, dset]
theorem reps_get {f : Nat → Bool} {k : Nat} (hk : k < 5) : (repsD f)[0 + k * 1]? = some (bD (f k)) := by
  rw [repsD_eq f]
  match k, hk with
  | 0, _ | 1, _ | 2, _ | 3, _ | 4, _ => rfl
set_option maxRecDepth 100000 in
set_option maxHeartbeats 2000000 in
theorem r8 (v : View) (hv : v.mem.length ≤ maxLen) (u : Nat) (hu : u ≤ 255) (l : List Nat) (hl : l.length ≤ maxLen) (hlb : ∀ x ∈ l, x ≤ 255) : Ret Try.prog 8 [.agg (viewE v), .v (.int .u8 u), .lst 1 (l.map byteI) false] (.v (.bool true)) := by
  have hl' : l.length ≤ 9223372036854775807 := hl
  have e0 := c_ref3_Valid v hv
  refine ret_of_body (fn := Try.f8) (c := Try.f8.body.getD .skip) hm hT (by kernel_rfl) Try.func8 (by kernel_rfl) (by kernel_rfl) (by kernel_rfl) (by kernel_rfl) ?_
  repeat' ((conv => whnf); first | refine And.intro (fun h => h) ?_ | refine dcond_t (by assumption) ?_ | refine dcond_f (by assumption) ?_ | (refine dcond_intro ?_ ?_ <;> intro h) | exact .refl | refine And.intro (by kernel_rfl) ?_ | refine And.intro ⟨fun h => h, fun h => h⟩ ?_ | refine .inl ⟨_, _, DleAll_refl _, c_awake, ?_⟩ | refine ⟨_, _, DleAll_refl _, fun _ => c_awake, ?_⟩ | refine ⟨_, _, DleAll_refl _, c_awake, ?_⟩ | refine .inl ⟨_, _, DleAll_refl _, e0, ?_⟩ | refine ⟨_, _, DleAll_refl _, fun _ => e0, ?_⟩ | refine ⟨_, _, DleAll_refl _, e0, ?_⟩ | (refine And.intro ?_ ?_; focus (simp; done)) | fail)
  have hvw : viewB v = true := by
    simp only [Bool.or_eq_false_iff, Bool.not_eq_false'] at h
    exact h.1
  have hl150 : l.length ≤ 150 := by
    simp only [Bool.or_eq_false_iff, decide_eq_false_iff_not, List.length_map] at h
    omega
  clear h
  have hn := view_len hvw
  have hm0 : 0 < v.mem.length := hn.1
  have hne : ((v.mem.map intE).length : Int) ≠ 0 := by
    rw [List.length_map]
    omega
  have hix : ∀ w : Nat, w ≤ 255 → Int.tmod (IntKind.i64.wrap (w : Int)) ((v.mem.map intE).length : Int) = ((w % v.mem.length : Nat) : Int) := by
    intro w hw
    rw [List.length_map, wrap_i64 (by omega) (by omega)]
    exact (Int.ofNat_tmod _ _).symm
  have hgx : ∀ w : Nat, (v.mem.map intE)[w % v.mem.length]? = some (intE (v.mem[w % v.mem.length]'(Nat.mod_lt _ hm0))) := fun w => get_map (Nat.mod_lt _ hm0)
  have hix1 := hix u hu
  have hgx1 := hgx u
  have hid : inB v.mem (v.mem[u % v.mem.length]'(Nat.mod_lt _ hm0)) = true := in_iff.2 (List.getElem_mem _)
  generalize v.mem[u % v.mem.length]'(Nat.mod_lt _ hm0) = id at hgx1 hid
  have e1 := c_probe_New v hv id
  have hN := good_new hvw hid
  generalize newR v id = N at e1 hN
  obtain ⟨N1, N2⟩ := N
  injection hN with hN1 hN2
  simp only [] at e1
  repeat' ((conv => whnf); first | refine And.intro (fun h => h) ?_ | refine dcond_t (by assumption) ?_ | refine dcond_f (by assumption) ?_ | (refine dcond_intro ?_ ?_ <;> intro h) | exact .refl | refine And.intro (by kernel_rfl) ?_ | refine And.intro ⟨fun h => h, fun h => h⟩ ?_ | refine And.intro hne ?_ | refine ⟨u % v.mem.length, _, And.intro ⟨hix1, hgx1⟩ ?_⟩ | refine .inl ⟨_, _, DleAll_refl _, e1, ?_⟩ | refine ⟨_, _, DleAll_refl _, fun _ => e1, ?_⟩ | refine ⟨_, _, DleAll_refl _, e1, ?_⟩ | (refine And.intro ?_ ?_; focus (simp; done)) | fail)
  · simp [hN2] at h
  · clear h
    have hg0 : good v id N1 := by
      rw [hN1]
      exact good_zero v id
    have hr0 : repsD (repK N1) = [bD false, bD false, bD false, bD false, bD false] := by
      have : ∀ k, repK N1 k = false := by
        intro k
        rw [hN1]
        unfold repK edgesAt
        by_cases hk : k < (subjR v.mem id).length
        · simp [hk, edge0]
        · simp [hk, edgeZ]
      simp only [repsD, this]
      rfl
    repeat' ((conv => whnf); first | refine And.intro (fun h => h) ?_ | refine dcond_t (by assumption) ?_ | refine dcond_f (by assumption) ?_ | (refine dcond_intro ?_ ?_ <;> intro h) | exact .refl | refine And.intro (by kernel_rfl) ?_ | refine And.intro ⟨fun h => h, fun h => h⟩ ?_ | (refine And.intro ?_ ?_; focus (simp; done)) | fail)
    all_goals (conv => whnf)
    refine ⟨Nat × Det, fun x => ⟨[(2, .lst 1 (l.map byteI) false), (3, .lp 0 0), (7, i64 id), (8, .lp 1 0), (10, .lp 2 0), (11, i64 x.1)], [.cells 33 (viewE v), .cells 36 (detE x.2), .cells 55 (repsD (repK x.2))]⟩, fun x => x.1 ≤ l.length ∧ good v id x.2, fun x => l.length - x.1, [], ⟨⟨0, N1⟩, ⟨Nat.zero_le _, hg0⟩, ?_⟩, ?_⟩
    · conv => whnf
      exact ⟨⟨.refl, .refl, .refl, .refl, .refl, .refl, trivial⟩, ⟨.refl, .refl, (by rw [hr0]; exact .refl), trivial⟩, by rfl⟩
    · intro ⟨i, d⟩ ⟨hi, hg⟩
      simp only [] at hi hg
      have hdt := good_det hvw hid hg
      have hdl := det_len hdt
      have hvd : d.view.mem.length ≤ maxLen := by rw [hg.1]; exact hv
      have hed : d.edges.length ≤ maxLen := Nat.le_trans hdl.2 (by decide)
      have hbd : ∀ e ∈ d.edges, 0 ≤ e.win.bits := by
        intro e he
        obtain ⟨k, hk, rfl⟩ := List.getElem_of_mem he
        exact (hg.2.2.2 k hk).2.2.2
      repeat' ((conv => whnf); first | refine And.intro (fun h => h) ?_ | refine dcond_t (by assumption) ?_ | refine dcond_f (by assumption) ?_ | (refine dcond_intro ?_ ?_ <;> intro h) | exact .refl | refine And.intro (by kernel_rfl) ?_ | refine And.intro ⟨fun h => h, fun h => h⟩ ?_ | (refine And.intro ?_ ?_; focus (simp; done)) | fail)
      · have hlt : i < l.length := by simpa using h
        clear h
        have hw := hlb l[i] (List.getElem_mem hlt)
        have hix2 := hix l[i] hw
        have hgx2 := hgx l[i]
        generalize v.mem[l[i] % v.mem.length]'(Nat.mod_lt _ hm0) = x at hgx2
        have e6 := c_probe_Heard d hvd hed x
        have gh := good_heard hvw hid hg x
        have rh := heard_rep hvw hid hg x
        have e9 := c_probe_Tick d hvd hed hbd
        have gt := good_tick hvw hid hg
        have ht2 : (tickR d).2 = alsAt d d.edges.length := by
          unfold tickR
          rw [hdt]
          rfl
        have hma := mid_all hvw hid hg
        have hmt := fun (j : Nat) hj => mid_at (j := j) hg hj
        have hal := alsAt_len d d.edges.length
        rw [ht2] at e9
        generalize heardR d x = H at e6 gh rh
        generalize (tickR d).1 = T at e9 gt hma
        generalize alsAt d d.edges.length = A at e9 hma hmt hal
        repeat' ((conv => whnf); first | refine And.intro (fun h => h) ?_ | refine dcond_t (by assumption) ?_ | refine dcond_f (by assumption) ?_ | (refine dcond_intro ?_ ?_ <;> intro h) | exact .refl | refine And.intro (by kernel_rfl) ?_ | refine And.intro ⟨fun h => h, fun h => h⟩ ?_ | refine ⟨_, _, And.intro ⟨rfl, get_map hlt⟩ ?_⟩ | refine And.intro hne ?_ | refine ⟨l[i] % v.mem.length, _, And.intro ⟨hix2, hgx2⟩ ?_⟩ | refine .inl ⟨_, _, DleAll_refl _, e6, ?_⟩ | refine ⟨_, _, DleAll_refl _, fun _ => e6, ?_⟩ | refine ⟨_, _, DleAll_refl _, e6, ?_⟩ | refine .inl ⟨_, _, DleAll_refl _, e9, ?_⟩ | refine ⟨_, _, DleAll_refl _, fun _ => e9, ?_⟩ | refine ⟨_, _, DleAll_refl _, e9, ?_⟩ | (refine And.intro ?_ ?_; focus (simp; done)) | fail)
        · conv => whnf
          refine ⟨⟨i + 1, H⟩, ⟨hlt, gh⟩, by simp only []; omega, ?_⟩
          conv => whnf
          refine ⟨⟨.refl, .refl, .refl, .refl, .refl, dle_int (wrap_succ (by omega)), trivial⟩, ⟨.refl, .refl, ?_, trivial⟩, by rfl⟩
          rw [show repK H = repK d from funext rh]
          exact .refl
        · have hm0' : repsD (midK d 0) = repsD (repK d) := by
            have : midK d 0 = repK d := by
              funext k
              simp [midK]
            rw [this]
          conv => whnf
          refine ⟨Nat, fun j => ⟨[(2, .lst 1 (l.map byteI) false), (3, .lp 0 0), (7, i64 id), (8, .lp 1 0), (10, .lp 2 0), (11, i64 i), (12, .lst 4 (A.map alE) false), (13, i64 j)], [.cells 33 (viewE v), .cells 36 (detE T), .cells 55 (repsD (midK d j))]⟩, fun j => j ≤ A.length, fun j => A.length - j, [], ⟨0, Nat.zero_le _, ?_⟩, ?_⟩
          · conv => whnf
            exact ⟨⟨.refl, .refl, .refl, .refl, .refl, .refl, .refl, .refl, trivial⟩, ⟨.refl, .refl, (by rw [hm0']; exact .refl), trivial⟩, by rfl⟩
          · intro j hj
            repeat' ((conv => whnf); first | refine And.intro (fun h => h) ?_ | refine dcond_t (by assumption) ?_ | refine dcond_f (by assumption) ?_ | (refine dcond_intro ?_ ?_ <;> intro h) | exact .refl | refine And.intro (by kernel_rfl) ?_ | refine And.intro ⟨fun h => h, fun h => h⟩ ?_ | (refine And.intro ?_ ?_; focus (simp; done)) | fail)
            · have hjt : j < A.length := by simpa using h
              clear h
              obtain ⟨k, hk5, hr, hvn, hob, hf, hst⟩ := hmt j hjt
              have hga : (A.map alE)[j]? = some (alE A[j]) := get_map hjt
              have hgk := reps_get (f := midK d j) hk5
              have hset := reps_set hk5 hst
              generalize A[j] = a at hr hvn hob hga
              obtain ⟨av, ar, ao, sb⟩ := a
              simp only [] at hr hvn hob
              subst hr
              subst hvn
              subst hob
              repeat' ((conv => whnf); first | refine And.intro (fun h => h) ?_ | refine dcond_t (by assumption) ?_ | refine dcond_f (by assumption) ?_ | (refine dcond_intro ?_ ?_ <;> intro h) | exact .refl | refine And.intro (by kernel_rfl) ?_ | refine And.intro ⟨fun h => h, fun h => h⟩ ?_ | refine ⟨j, alE ⟨v.num, k, ao, sb⟩, And.intro ⟨rfl, hga⟩ ?_⟩ | refine ⟨j, alE ⟨v.num, k, ao, sb⟩, And.intro ⟨fun h => h, fun _ => ⟨rfl, hga⟩⟩ ?_⟩ | refine ⟨j, alE ⟨v.num, k, ao, sb⟩, And.intro ⟨⟨fun h => h, fun h => h⟩, fun _ => ⟨rfl, hga⟩⟩ ?_⟩ | refine ⟨k, And.intro ⟨rfl, hk5⟩ ?_⟩ | refine ⟨k, And.intro ⟨fun h => h, fun _ => ⟨rfl, hk5⟩⟩ ?_⟩ | refine ⟨k, And.intro ⟨⟨fun h => h, fun h => h⟩, fun _ => ⟨rfl, hk5⟩⟩ ?_⟩ | refine ⟨bD (midK d j k), And.intro ⟨fun h => h, fun _ => hgk⟩ ?_⟩ | refine ⟨bD (midK d j k), And.intro (fun _ => hgk) ?_⟩ | (refine And.intro ?_ ?_; focus (simp; done)) | fail)
              all_goals (conv => whnf)
              · exfalso
                rw [hf] at h
                simp at h
                omega
              · refine And.intro (show 0 + k * 1 + 1 ≤ 5 by omega) ?_
                repeat' ((conv => whnf); first | refine And.intro (fun h => h) ?_ | refine dcond_t (by assumption) ?_ | refine dcond_f (by assumption) ?_ | (refine dcond_intro ?_ ?_ <;> intro h) | exact .refl | refine And.intro (by kernel_rfl) ?_ | refine And.intro ⟨fun h => h, fun h => h⟩ ?_ | (refine And.intro ?_ ?_; focus (simp; done)) | fail)
                all_goals (conv => whnf)
                refine ⟨j + 1, hjt, by simp only []; omega, ?_⟩
                conv => whnf
                refine ⟨⟨.refl, .refl, .refl, .refl, .refl, .refl, .refl, dle_int (wrap_succ (by omega)), trivial⟩, ⟨.refl, .refl, ?_, trivial⟩, by rfl⟩
                rw [← hset]
                exact .refl
            · have : j = A.length := by
                simp at h
                omega
              subst this
              clear h
              repeat' ((conv => whnf); first | refine And.intro (fun h => h) ?_ | refine dcond_t (by assumption) ?_ | refine dcond_f (by assumption) ?_ | (refine dcond_intro ?_ ?_ <;> intro h) | exact .refl | refine And.intro (by kernel_rfl) ?_ | refine And.intro ⟨fun h => h, fun h => h⟩ ?_ | (refine And.intro ?_ ?_; focus (simp; done)) | fail)
              all_goals (conv => whnf)
              refine ⟨⟨i + 1, T⟩, ⟨hlt, gt⟩, by simp only []; omega, ?_⟩
              conv => whnf
              refine ⟨⟨.refl, .refl, .refl, .refl, .refl, dle_int (wrap_succ (by omega)), trivial⟩, ⟨.refl, .refl, ?_, trivial⟩, by rfl⟩
              rw [show repK T = midK d A.length from funext fun k => (hma k).symm]
              exact .refl
      · have e3 := c_probe_Valid d hvd hed
        rw [hdt] at e3
        repeat' ((conv => whnf); first | refine And.intro (fun h => h) ?_ | refine dcond_t (by assumption) ?_ | refine dcond_f (by assumption) ?_ | (refine dcond_intro ?_ ?_ <;> intro h) | exact .refl | refine And.intro (by kernel_rfl) ?_ | refine And.intro ⟨fun h => h, fun h => h⟩ ?_ | refine .inl ⟨_, _, DleAll_refl _, e3, ?_⟩ | refine ⟨_, _, DleAll_refl _, fun _ => e3, ?_⟩ | refine ⟨_, _, DleAll_refl _, e3, ?_⟩ | (refine And.intro ?_ ?_; focus (simp; done)) | fail)
theorem law8 (dvs : List DV) (h : DatAll tt 5 [33, 5, 54] dvs) : Ret Try.prog 8 dvs (.v (.bool true)) := by
  obtain ⟨b, _, rfl, hb, _, _, rfl, ⟨s, rfl, hs⟩, a, _, rfl, ha, rfl⟩ := h
  obtain ⟨v, rfl, hv⟩ := dat_view (n := 2) hb
  obtain ⟨l, rfl, hl, hlb⟩ := dat_u8b (n := 3) ha
  have hb := bounds_u8 (by exact hs)
  obtain ⟨s, rfl⟩ := Int.eq_ofNat_of_zero_le (a := s) (by omega)
  exact r8 v hv s (by omega) l hl hlb
end Go.Proofs.Ytdajfimollbnlaa

set_option linter.unusedSimpArgs false
set_option linter.unusedVariables false
namespace Go.Proofs.Ytdajfimollbnlaa
open Go.Lift
theorem order_lt {ms : List Int} {r : Int} (hv : idsB ms 16 = true) (h1 : 0 ≤ r) (h2 : r < 5) : (orderR ms r).Pairwise fun a b => posR r a < posR r b := by
  rw [order_in hv h1 h2]
  have hb := (ids_pw.1 hv).2.2
  have hn : (sortL (cmpPos r) ms).Nodup := (sortL_perm _ _).nodup_iff.2 (pw_nodup (ids_pw.1 hv).2.1)
  have hs := sortL_sorted (pos_swo r) ms
  refine (List.pairwise_iff_getElem.2 fun i j hi hj hij => ?_)
  have h3 := List.pairwise_iff_getElem.1 hs i j hi hj hij
  rw [ltPos, decide_eq_false_iff_not] at h3
  have hne : (sortL (cmpPos r) ms)[i] ≠ (sortL (cmpPos r) ms)[j] := (List.pairwise_iff_getElem.1 hn) i j hi hj hij
  have ha := hb _ (sortL_mem.1 (List.getElem_mem hi))
  have hb' := hb _ (sortL_mem.1 (List.getElem_mem hj))
  rcases Int.lt_or_eq_of_le (Int.not_lt.1 h3) with h | h
  · exact h
  · exact absurd (posR_inj ha hb' h) hne
def ahd (r : Int) (O : List Int) (x : Int) : Nat → Int
  | 0 => O.getD (O.length - 1) 0
  | i + 1 => if posR r (O.getD i 0) < posR r x then O.getD i 0 else ahd r O x i
theorem ahd_at {r : Int} {O : List Int} (hp : O.Pairwise fun a b => posR r a < posR r b) {k : Nat} (hk : k < O.length) : ∀ i, i ≤ O.length → ahd r O O[k] i = O.getD (if i = 0 ∨ k = 0 then O.length - 1 else min i k - 1) 0
  | 0, _ => by simp [ahd]
  | i + 1, hi => by
    have ih := ahd_at hp hk i (by omega)
    have hil : i < O.length := by omega
    have hg : O.getD i 0 = O[i] := by simp [hil]
    have hlt : posR r O[i] < posR r O[k] ↔ i < k := by
      constructor
      · intro h
        rcases Nat.lt_or_ge i k with h2 | h2
        · exact h2
        · rcases Nat.lt_or_eq_of_le h2 with h2 | h2
          · have := List.pairwise_iff_getElem.1 hp k i hk hil h2
            omega
          · subst h2
            omega
      · intro h
        exact List.pairwise_iff_getElem.1 hp i k hil hk h
    unfold ahd
    rw [hg, ih]
    by_cases h : i < k
    · rw [if_pos (hlt.2 h), if_neg (by omega)]
      have : min (i + 1) k - 1 = i := by omega
      rw [this, hg]
    · rw [if_neg (fun h' => h (hlt.1 h'))]
      congr 1
      by_cases hk0 : k = 0
      · rw [if_pos (.inr hk0), if_pos (.inr hk0)]
      · rw [if_neg (by omega), if_neg (by omega)]
        omega
def prvR (ms : List Int) (x : Int) (r : Nat) : Int := ahd r (orderR ms r) x (orderR ms r).length
theorem place_val {l : List Int} {x : Int} (h : x ∈ l) : ∃ (k : Nat) (hk : k < l.length), placeB l x = k ∧ l[k] = x := by
  rcases hf : (List.range l.length).find? (fun i => decide (l[i]? = some x)) with _ | n
  · obtain ⟨i, hi, rfl⟩ := List.getElem_of_mem h
    have := List.find?_eq_none.1 hf i (List.mem_range.2 hi)
    simp [hi] at this
  · have h1 := List.mem_range.1 (List.mem_of_find?_eq_some hf)
    refine ⟨n, h1, by simp only [placeB, findB, hf], ?_⟩
    have h2 : decide (l[n]? = some x) = true := List.find?_some (p := fun i => decide (l[i]? = some x)) hf
    have h2 := of_decide_eq_true h2
    rw [List.getElem?_eq_getElem h1] at h2
    exact Option.some.inj h2
theorem prv_nxt {ms : List Int} {a b : Int} {r : Nat} (hv : idsB ms 16 = true) (hr : r < 5) (ha : a ∈ ms) (hb : b ∈ ms) (hab : a ≠ b) : prvR ms b r = a ↔ nxtR (orderR ms r) a = b := by
  have hO := order_lt (r := (r : Nat)) hv (by omega) (by omega)
  have ho := order_in (ms := ms) (r := (r : Nat)) hv (by omega) (by omega)
  have hnd : (orderR ms r).Nodup := by
    rw [ho]
    exact (sortL_perm _ _).nodup_iff.2 (pw_nodup (ids_pw.1 hv).2.1)
  have hma : a ∈ orderR ms r := by rw [ho, sortL_mem]; exact ha
  have hmb : b ∈ orderR ms r := by rw [ho, sortL_mem]; exact hb
  unfold prvR nxtR
  generalize orderR ms r = O at hO hnd hma hmb
  obtain ⟨k, hkl, hk, hka⟩ := place_val hma
  obtain ⟨j, hj, rfl⟩ := List.getElem_of_mem hmb
  rw [ahd_at hO hj _ (Nat.le_refl _), hk, Int.toNat_natCast]
  have hmod : (k + 1) % O.length < O.length := Nat.mod_lt _ (by omega)
  have hg2 : O.getD ((k + 1) % O.length) 0 = O[(k + 1) % O.length] := by simp [hmod]
  have hkj : k ≠ j := fun e => hab (by subst e; exact hka.symm)
  rw [hg2]
  have hinj : ∀ (p q : Nat) (hp : p < O.length) (hq : q < O.length), O[p] = O[q] ↔ p = q := fun p q hp hq => by
    constructor
    · intro h
      exact (List.getElem_inj hnd).1 h
    · intro h
      subst h
      rfl
  rw [hinj _ _ hmod hj]
  have hm2 : (k + 1) % O.length = if k + 1 = O.length then 0 else k + 1 := by
    split
    · rename_i h
      rw [h, Nat.mod_self]
    · exact Nat.mod_eq_of_lt (by omega)
  rw [hm2]
  have hP : (if O.length = 0 ∨ j = 0 then O.length - 1 else min O.length j - 1) < O.length := by split <;> omega
  have hg3 : O.getD (if O.length = 0 ∨ j = 0 then O.length - 1 else min O.length j - 1) 0 = O[if O.length = 0 ∨ j = 0 then O.length - 1 else min O.length j - 1]'hP := by
    rw [List.getD_eq_getElem?_getD, List.getElem?_eq_getElem hP, Option.getD_some]
  rw [hg3, ← hka, hinj _ _ hP hkl]
  split <;> split <;> omega
theorem ahd_ex (r : Int) (O : List Int) (x : Int) : ∃ A : Nat → Int, A 0 = O.getD (O.length - 1) 0 ∧ (∀ i, A (i + 1) = if posR r (O.getD i 0) < posR r x then O.getD i 0 else A i) ∧ ahd r O x O.length = A O.length :=
  ⟨ahd r O x, by rw [ahd], fun i => by rw [ahd], by simp only []⟩
theorem w_ref4_Ahead (ms O : List Int) (A : Nat → Int) (P : Int → Int) (r : Nat) (x : Int) (h16 : 1 ≤ O.length ∧ O.length ≤ 16) (eo : Ret Try.prog 43 [.lst 1 (ms.map intE) false, i64 r] (.lst 1 (O.map intE) false))
    (h0 : A 0 = O.getD (O.length - 1) 0) (hs : ∀ i, A (i + 1) = if P (O.getD i 0) < P x then O.getD i 0 else A i) (ep : ∀ m, Ret Try.prog 54 [i64 r, i64 m] (u64 (P m))) : Ret Try.prog 47 [.lst 1 (ms.map intE) false, i64 r, i64 x] (i64 (A O.length)) := by
  have hix : IntKind.i64.wrap (((O.map intE).length : Int) - 1) = ((O.length - 1 : Nat) : Int) := by
    rw [List.length_map, wrap_i64 (by omega) (by omega)]
    omega
  have hgx : (O.map intE)[O.length - 1]? = some (intE (A 0)) := by
    have : O.length - 1 < O.length := by omega
    rw [h0]
    simp [this]
  refine ret_of_body (fn := Try.f47) (c := Try.f47.body.getD .skip) hm hT (by kernel_rfl) Try.func47 (by kernel_rfl) (by kernel_rfl) (by kernel_rfl) (by kernel_rfl) ?_
  repeat' ((conv => whnf); first | refine And.intro (fun h => h) ?_ | refine dcond_t (by assumption) ?_ | refine dcond_f (by assumption) ?_ | (refine dcond_intro ?_ ?_ <;> intro h) | exact .refl | refine And.intro (by kernel_rfl) ?_ | refine And.intro ⟨fun h => h, fun h => h⟩ ?_ | refine .inl ⟨_, _, DleAll_refl _, eo, ?_⟩ | refine ⟨_, _, DleAll_refl _, fun _ => eo, ?_⟩ | refine ⟨_, _, DleAll_refl _, eo, ?_⟩ | refine ⟨O.length - 1, intE (A 0), And.intro ⟨hix, hgx⟩ ?_⟩ | (refine And.intro ?_ ?_; focus (simp; done)) | fail)
  all_goals (conv => whnf)
  refine ⟨Nat, fun i => ⟨[(1, i64 r), (2, i64 x), (7, .lst 1 (O.map intE) false), (8, i64 (A i)), (9, i64 i)], []⟩, fun i => i ≤ O.length, fun i => O.length - i, [], ⟨0, Nat.zero_le _, ?_⟩, ?_⟩
  · exact ⟨by repeat' ((conv => whnf); first | exact trivial | refine And.intro (by (conv => arg 1; whnf); first | (with_reducible exact .refl) | exact dle_int (wrap_succ (by omega)) | exact .refl) ?_), by repeat' ((conv => whnf); first | exact trivial | refine And.intro ?_ ?_ | exact .refl), rfl⟩
  · intro i hi
    repeat' ((conv => whnf); first | refine And.intro (fun h => h) ?_ | refine dcond_t (by assumption) ?_ | refine dcond_f (by assumption) ?_ | (refine dcond_intro ?_ ?_ <;> intro h) | exact .refl | refine And.intro (by kernel_rfl) ?_ | refine And.intro ⟨fun h => h, fun h => h⟩ ?_ | (refine And.intro ?_ ?_; focus (simp; done)) | fail)
    · have hlt : i < O.length := by simpa using h
      clear h
      have hg : O.getD i 0 = O[i] := by simp [hlt]
      have hs := hs i
      rw [hg] at hs
      have ep1 := ep O[i]
      have ep2 := ep x
      repeat' ((conv => whnf); first | refine And.intro (fun h => h) ?_ | refine dcond_t (by assumption) ?_ | refine dcond_f (by assumption) ?_ | (refine dcond_intro ?_ ?_ <;> intro h) | exact .refl | refine And.intro (by kernel_rfl) ?_ | refine And.intro ⟨fun h => h, fun h => h⟩ ?_ | refine ⟨_, _, And.intro ⟨rfl, get_map hlt⟩ ?_⟩ | refine .inl ⟨_, _, DleAll_refl _, ep1, ?_⟩ | refine ⟨_, _, DleAll_refl _, fun _ => ep1, ?_⟩ | refine ⟨_, _, DleAll_refl _, ep1, ?_⟩ | refine .inl ⟨_, _, DleAll_refl _, ep2, ?_⟩ | refine ⟨_, _, DleAll_refl _, fun _ => ep2, ?_⟩ | refine ⟨_, _, DleAll_refl _, ep2, ?_⟩ | (refine And.intro ?_ ?_; focus (simp; done)) | fail)
      all_goals (conv => whnf)
      all_goals refine ⟨i + 1, hlt, by simp only []; omega, ?_⟩
      all_goals (conv => whnf)
      all_goals refine ⟨⟨.refl, .refl, .refl, dle_int ?_, dle_int (wrap_succ (by omega)), trivial⟩, trivial, by rfl⟩
      · rw [hs, if_pos (of_decide_eq_true h)]
      · rw [hs, if_neg (of_decide_eq_false h)]
    · have : i = O.length := by
        simp at h
        omega
      subst this
      repeat' ((conv => whnf); first | refine And.intro (fun h => h) ?_ | refine dcond_t (by assumption) ?_ | refine dcond_f (by assumption) ?_ | (refine dcond_intro ?_ ?_ <;> intro h) | exact .refl | refine And.intro (by kernel_rfl) ?_ | refine And.intro ⟨fun h => h, fun h => h⟩ ?_ | (refine And.intro ?_ ?_; focus (simp; done)) | fail)
theorem c_ref4_Ahead (ms : List Int) (hl : ms.length ≤ maxLen) (hv : idsB ms 16 = true) (r : Nat) (hr : r < 5) (x : Int) : Ret Try.prog 47 [.lst 1 (ms.map intE) false, i64 r, i64 x] (i64 (prvR ms x r)) := by
  have ho := order_in (ms := ms) (r := (r : Nat)) hv (by omega) (by omega)
  have hol : (orderR ms (r : Nat)).length = ms.length := by rw [ho, sortL_len]
  have h16 := (ids_pw.1 hv).1
  obtain ⟨A, h0, hs, he⟩ := ahd_ex r (orderR ms r) x
  have hp : prvR ms x r = A (orderR ms r).length := he
  rw [hp]
  exact w_ref4_Ahead ms _ A (posR r) r x (by omega) (c_ref4_Order ms hl (r : Nat)) h0 hs fun m => c_ref2_Position r m
def obsR (ms : List Int) (x : Int) : List Int := bif !idsB ms 16 || !(decide (1 ≤ x) && decide (x ≤ 1000)) || (decide ((ms.length : Int) = 1) && decide (ms.getD 0 0 = x)) then [] else (List.range 5).map (prvR ms x)
theorem c_ref4_Observers (ms : List Int) (hl : ms.length ≤ maxLen) (x : Int) : Ret Try.prog 38 [.lst 1 (ms.map intE) false, i64 x] (.lst 1 ((obsR ms x).map intE) false) := by
  have e1 := c_ref3_ValidMembers ms hl
  have e2 := c_ref3_IsID x
  have ea : idsB ms 16 = true → ∀ r : Nat, r < 5 → Ret Try.prog 47 [.lst 1 (ms.map intE) false, i64 r, i64 x] (i64 (prvR ms x r)) := fun hv r hr => c_ref4_Ahead ms hl hv r hr x
  have ho : obsR ms x = bif !idsB ms 16 || !(decide (1 ≤ x) && decide (x ≤ 1000)) || (decide ((ms.length : Int) = 1) && decide (ms.getD 0 0 = x)) then [] else (List.range 5).map (prvR ms x) := rfl
  have hg : ∀ c : Bool, (c && decide (((ms.map intE).length : Int) = 1)) = true → (ms.map intE)[0]? = some (intE (ms.getD 0 0)) := fun c h => by
    simp only [Bool.and_eq_true, decide_eq_true_eq, List.length_map] at h
    have : 0 < ms.length := by omega
    simp [this]
  generalize prvR ms x = A at ea ho
  generalize obsR ms x = R at ho ⊢
  generalize idsB ms 16 = b1 at *
  generalize (decide (1 ≤ x) && decide (x ≤ 1000)) = b2 at *
  refine ret_of_body (fn := Try.f38) (c := Try.f38.body.getD .skip) hm hT (by kernel_rfl) Try.func38 (by kernel_rfl) (by kernel_rfl) (by kernel_rfl) (by kernel_rfl) ?_
  repeat' ((conv => whnf); first | refine And.intro (fun h => h) ?_ | refine dcond_t (by assumption) ?_ | refine dcond_f (by assumption) ?_ | (refine dcond_intro ?_ ?_ <;> intro h) | exact .refl | refine And.intro (by kernel_rfl) ?_ | refine And.intro ⟨fun h => h, fun h => h⟩ ?_ | refine .inl ⟨_, _, DleAll_refl _, e1, ?_⟩ | refine ⟨_, _, DleAll_refl _, fun _ => e1, ?_⟩ | refine ⟨_, _, DleAll_refl _, e1, ?_⟩ | refine .inl ⟨_, _, DleAll_refl _, e2, ?_⟩ | refine ⟨_, _, DleAll_refl _, fun _ => e2, ?_⟩ | refine ⟨_, _, DleAll_refl _, e2, ?_⟩ | refine ⟨0, intE (ms.getD 0 0), And.intro ⟨fun h => h, fun h => ⟨rfl, hg _ h⟩⟩ ?_⟩ | (refine And.intro ?_ ?_; focus (simp; done)) | fail)
  all_goals (conv => whnf)
  · rw [List.length_map] at h
    rw [ho, h]
    exact .nl
  · rw [List.length_map] at h
    rw [h, cond_false] at ho
    have hb : b1 = true := by
      simp only [Bool.or_eq_false_iff, Bool.not_eq_false'] at h
      exact h.1.1
    have ea := ea hb
    clear h hg
    subst ho
    refine ⟨Nat, fun i => ⟨[(0, .lst 1 (ms.map intE) false), (1, i64 x), (5, .own 0), (6, i64 i)], [.row 3 1 (((List.range i).map A).map intE)]⟩, fun i => i ≤ 5, fun i => 5 - i, [.slot 5 3 1], ⟨0, Nat.zero_le _, ?_⟩, ?_⟩
    · exact ⟨by repeat' ((conv => whnf); first | exact trivial | refine And.intro (by (conv => arg 1; whnf); first | (with_reducible exact .refl) | exact dle_int (wrap_succ (by omega)) | exact .refl) ?_), by repeat' ((conv => whnf); first | exact trivial | refine And.intro ?_ ?_ | exact .refl), rfl⟩
    · intro i hi
      repeat' ((conv => whnf); first | refine And.intro (fun h => h) ?_ | refine dcond_t (by assumption) ?_ | refine dcond_f (by assumption) ?_ | (refine dcond_intro ?_ ?_ <;> intro h) | exact .refl | refine And.intro (by kernel_rfl) ?_ | refine And.intro ⟨fun h => h, fun h => h⟩ ?_ | (refine And.intro ?_ ?_; focus (simp; done)) | fail)
      · have hlt : i < 5 := by
          simp at h
          omega
        clear h
        have e := ea i hlt
        have hfi : (((List.range i).map A).map intE).length + 1 ≤ 2000000 := by
          simp
          omega
        repeat' ((conv => whnf); first | refine And.intro (fun h => h) ?_ | refine dcond_t (by assumption) ?_ | refine dcond_f (by assumption) ?_ | (refine dcond_intro ?_ ?_ <;> intro h) | exact .refl | refine And.intro (by kernel_rfl) ?_ | refine And.intro ⟨fun h => h, fun h => h⟩ ?_ | refine .inl ⟨_, _, DleAll_refl _, e, ?_⟩ | refine ⟨_, _, DleAll_refl _, fun _ => e, ?_⟩ | refine ⟨_, _, DleAll_refl _, e, ?_⟩ | refine And.intro (fitsI hfi) ?_ | (refine And.intro ?_ ?_; focus (simp; done)) | fail)
        all_goals (conv => whnf)
        refine ⟨i + 1, hlt, by simp only []; omega, ?_⟩
        conv => whnf
        refine ⟨⟨.refl, .refl, .refl, dle_int (wrap_succ (by omega)), trivial⟩, ⟨ole_row ?_, trivial⟩, by rfl⟩
        rw [List.range_succ, List.map_append, List.map_append]
        rfl
      · have : i = 5 := by
          simp at h
          omega
        subst this
        repeat' ((conv => whnf); first | refine And.intro (fun h => h) ?_ | refine dcond_t (by assumption) ?_ | refine dcond_f (by assumption) ?_ | (refine dcond_intro ?_ ?_ <;> intro h) | exact .refl | refine And.intro (by kernel_rfl) ?_ | refine And.intro ⟨fun h => h, fun h => h⟩ ?_ | (refine And.intro ?_ ?_; focus (simp; done)) | fail)
def shrAt (R : List Int) (a : Int) (i : Nat) : List Int := ((List.range i).filter fun k => decide (R.getD k 0 = a)).map fun (k : Nat) => (k : Int)
theorem shr_succ (R : List Int) (a : Int) (i : Nat) : shrAt R a (i + 1) = shrAt R a i ++ bif decide (R.getD i 0 = a) then [(i : Int)] else [] := by
  unfold shrAt
  rw [List.range_succ, List.filter_append, List.map_append, List.filter_cons, List.filter_nil]
  cases h : decide (R.getD i 0 = a) <;> simp
theorem shr_len (R : List Int) (a : Int) (i : Nat) : (shrAt R a i).length ≤ i := by
  unfold shrAt
  rw [List.length_map]
  exact Nat.le_trans (List.length_filter_le ..) (by simp)
theorem obs_len (ms : List Int) (x : Int) : (obsR ms x).length ≤ 5 := by
  unfold obsR
  cases (!idsB ms 16 || !(decide (1 ≤ x) && decide (x ≤ 1000)) || (decide ((ms.length : Int) = 1) && decide (ms.getD 0 0 = x))) <;> simp
theorem c_ref4_Shared (ms : List Int) (hl : ms.length ≤ maxLen) (a x : Int) : Ret Try.prog 28 [.lst 1 (ms.map intE) false, i64 a, i64 x] (.lst 1 ((shrAt (obsR ms x) a (obsR ms x).length).map intE) false) := by
  have e1 := c_ref4_Observers ms hl x
  have h5 := obs_len ms x
  generalize obsR ms x = R at *
  refine ret_of_body (fn := Try.f28) (c := Try.f28.body.getD .skip) hm hT (by kernel_rfl) Try.func28 (by kernel_rfl) (by kernel_rfl) (by kernel_rfl) (by kernel_rfl) ?_
  repeat' ((conv => whnf); first | refine And.intro (fun h => h) ?_ | refine dcond_t (by assumption) ?_ | refine dcond_f (by assumption) ?_ | (refine dcond_intro ?_ ?_ <;> intro h) | exact .refl | refine And.intro (by kernel_rfl) ?_ | refine And.intro ⟨fun h => h, fun h => h⟩ ?_ | refine .inl ⟨_, _, DleAll_refl _, e1, ?_⟩ | refine ⟨_, _, DleAll_refl _, fun _ => e1, ?_⟩ | refine ⟨_, _, DleAll_refl _, e1, ?_⟩ | (refine And.intro ?_ ?_; focus (simp; done)) | fail)
  all_goals (conv => whnf)
  refine ⟨Nat, fun i => ⟨[(1, i64 a), (7, .lst 1 (R.map intE) false), (8, .own 0), (9, i64 i)], [.row 3 1 ((shrAt R a i).map intE)]⟩, fun i => i ≤ R.length, fun i => R.length - i, [.slot 8 3 1], ⟨0, Nat.zero_le _, ?_⟩, ?_⟩
  · exact ⟨by repeat' ((conv => whnf); first | exact trivial | refine And.intro (by (conv => arg 1; whnf); first | (with_reducible exact .refl) | exact dle_int (wrap_succ (by omega)) | exact .refl) ?_), by repeat' ((conv => whnf); first | exact trivial | refine And.intro ?_ ?_ | exact .refl), rfl⟩
  · intro i hi
    repeat' ((conv => whnf); first | refine And.intro (fun h => h) ?_ | refine dcond_t (by assumption) ?_ | refine dcond_f (by assumption) ?_ | (refine dcond_intro ?_ ?_ <;> intro h) | exact .refl | refine And.intro (by kernel_rfl) ?_ | refine And.intro ⟨fun h => h, fun h => h⟩ ?_ | (refine And.intro ?_ ?_; focus (simp; done)) | fail)
    · have hlt : i < R.length := by simpa using h
      clear h
      have hs := shr_succ R a i
      have hsl := shr_len R a i
      have hg : R.getD i 0 = R[i] := by simp [hlt]
      rw [hg] at hs
      have hfi : ((shrAt R a i).map intE).length + 1 ≤ 2000000 := by
        rw [List.length_map]
        omega
      repeat' ((conv => whnf); first | refine And.intro (fun h => h) ?_ | refine dcond_t (by assumption) ?_ | refine dcond_f (by assumption) ?_ | (refine dcond_intro ?_ ?_ <;> intro h) | exact .refl | refine And.intro (by kernel_rfl) ?_ | refine And.intro ⟨fun h => h, fun h => h⟩ ?_ | refine ⟨_, _, And.intro ⟨rfl, get_map hlt⟩ ?_⟩ | refine And.intro (fitsI hfi) ?_ | (refine And.intro ?_ ?_; focus (simp; done)) | fail)
      all_goals (conv => whnf)
      all_goals refine ⟨i + 1, hlt, by simp only []; omega, ?_⟩
      all_goals (conv => whnf)
      all_goals refine ⟨⟨.refl, .refl, .refl, dle_int (wrap_succ (by omega)), trivial⟩, ⟨ole_row ?_, trivial⟩, by rfl⟩
      · rw [hs, h, cond_true, List.map_append]
        rfl
      · rw [hs, h, cond_false, List.append_nil]
    · have : i = R.length := by
        simp at h
        omega
      subst this
      repeat' ((conv => whnf); first | refine And.intro (fun h => h) ?_ | refine dcond_t (by assumption) ?_ | refine dcond_f (by assumption) ?_ | (refine dcond_intro ?_ ?_ <;> intro h) | exact .refl | refine And.intro (by kernel_rfl) ?_ | refine And.intro ⟨fun h => h, fun h => h⟩ ?_ | (refine And.intro ?_ ?_; focus (simp; done)) | fail)
end Go.Proofs.Ytdajfimollbnlaa

set_option linter.unusedSimpArgs false
set_option linter.unusedVariables false
namespace Go.Proofs.Ytdajfimollbnlaa
open Go.Lift
def mkD (obs : Int) (v : View) (n : Nat) (f : Nat → Edge) : Det := ⟨obs, v, (List.range n).map f⟩
def slW (c : Nat) (b : Bool) : Win := bif b then ⟨2 ^ c - 1, c⟩ else ⟨0, c⟩
theorem slW_ok {c : Nat} (h : c ≤ 10) (b : Bool) : winB (slW c b) = true ∧ 0 ≤ (slW c b).bits ∧ recR (slW c b) (!b) = slW (min (c + 1) 10) b ∧ failR (slW c b) = (b && decide (c = 10)) := by
  have : ∀ c : Fin 11, ∀ b : Bool, winB (slW c.1 b) = true ∧ 0 ≤ (slW c.1 b).bits ∧ recR (slW c.1 b) (!b) = slW (min (c.1 + 1) 10) b ∧ failR (slW c.1 b) = (b && decide (c.1 = 10)) := by decide +kernel
  exact this ⟨c, by omega⟩ b
def slK (S : List Int) (s : Int) (k : Nat) : Bool := decide (S.getD k 0 = s)
def hdN (S : List Int) (s : Int) (ms : List Int) (t j k : Nat) : Edge := ⟨k, S.getD k 0, (ms.take j).any (fun m => decide (m = S.getD k 0) && !decide (m = s)), slK S s k && decide (10 ≤ t), slW (min t 10) (slK S s k)⟩
theorem good_mk {obs : Int} {v : View} {s : Int} (ms : List Int) (t j : Nat) : good v obs (mkD obs v (subjR v.mem obs).length (hdN (subjR v.mem obs) s ms t j)) := by
  refine ⟨rfl, rfl, by simp [mkD], fun k hk => ?_⟩
  simp only [mkD, List.getElem_map, List.getElem_range]
  have := slW_ok (c := min t 10) (by omega) (slK (subjR v.mem obs) s k)
  exact ⟨rfl, rfl, this.1, this.2.1⟩
theorem mk_heard {obs : Int} {v : View} {s : Int} (hv : viewB v = true) (hi : inB v.mem obs = true) {ms : List Int} (t j : Nat) (hj : j < ms.length) (hne : ms[j] ≠ s) :
    heardR (mkD obs v (subjR v.mem obs).length (hdN (subjR v.mem obs) s ms t j)) ms[j] = mkD obs v (subjR v.mem obs).length (hdN (subjR v.mem obs) s ms t (j + 1)) := by
  have hd := good_det hv hi (good_mk (s := s) ms t j)
  unfold heardR
  rw [hd, Bool.not_true, cond_false]
  simp only [mkD, List.map_map, Det.mk.injEq, true_and]
  refine List.map_congr_left fun k _ => ?_
  generalize hSS : subjR v.mem obs = S
  have e1 : decide (ms[j] = s) = false := decide_eq_false hne
  have e2 : decide (S.getD k 0 = ms[j]) = decide (ms[j] = S.getD k 0) := decide_eq_decide.2 eq_comm
  have hx : heardE ms[j] (hdN S s ms t j k) = bif decide (S.getD k 0 = ms[j]) then ⟨k, S.getD k 0, true, slK S s k && decide (10 ≤ t), slW (min t 10) (slK S s k)⟩ else hdN S s ms t j k := rfl
  have hy : hdN S s ms t (j + 1) k = ⟨k, S.getD k 0, (ms.take j).any (fun m => decide (m = S.getD k 0) && !decide (m = s)) || decide (ms[j] = S.getD k 0), slK S s k && decide (10 ≤ t), slW (min t 10) (slK S s k)⟩ := by
    simp only [hdN]
    rw [List.take_succ_eq_append_getElem hj, List.any_append]
    simp only [List.any_cons, List.any_nil, Bool.or_false]
    rw [e1, Bool.not_false, Bool.and_true]
  show heardE ms[j] (hdN S s ms t j k) = hdN S s ms t (j + 1) k
  rw [hx, hy, e2]
  cases decide (ms[j] = S.getD k 0)
  · rw [cond_false, Bool.or_false]
    rfl
  · rw [cond_true, Bool.or_true]
theorem mk_skip {obs : Int} {v : View} {s : Int} {ms : List Int} (t j : Nat) (hj : j < ms.length) (he : ms[j] = s) :
    mkD obs v (subjR v.mem obs).length (hdN (subjR v.mem obs) s ms t j) = mkD obs v (subjR v.mem obs).length (hdN (subjR v.mem obs) s ms t (j + 1)) := by
  simp only [mkD, Det.mk.injEq, true_and]
  refine List.map_congr_left fun k _ => ?_
  simp only [hdN]
  rw [List.take_succ_eq_append_getElem hj, List.any_append]
  simp [he]
def slL (S : List Int) (s : Int) : List Nat := (List.range S.length).filter (slK S s)
def slA (obs : Int) (v : View) (s : Int) : List Alr := (slL (subjR v.mem obs) s).map fun (k : Nat) => ⟨v.num, k, obs, s⟩
def alN (obs : Int) (v : View) (s : Int) (t : Nat) : List Alr := bif decide (10 ≤ t) then slA obs v s else []
theorem mk_tick {obs : Int} {v : View} {s : Int} (hv : viewB v = true) (hi : inB v.mem obs = true) (hS : ∀ x ∈ subjR v.mem obs, x ∈ v.mem) (t : Nat) :
    (tickR (mkD obs v (subjR v.mem obs).length (hdN (subjR v.mem obs) s v.mem t v.mem.length))).1 = mkD obs v (subjR v.mem obs).length (hdN (subjR v.mem obs) s v.mem (t + 1) 0) ∧
    alN obs v s (t + 1) = alN obs v s t ++ (tickR (mkD obs v (subjR v.mem obs).length (hdN (subjR v.mem obs) s v.mem t v.mem.length))).2 := by
  have hd := good_det hv hi (good_mk (s := s) v.mem t v.mem.length)
  have hh : ∀ k, k < (subjR v.mem obs).length → (v.mem.take v.mem.length).any (fun m => decide (m = (subjR v.mem obs).getD k 0) && !decide (m = s)) = !slK (subjR v.mem obs) s k := by
    intro k hk
    have hg : (subjR v.mem obs).getD k 0 = (subjR v.mem obs)[k] := by simp [hk]
    have hm := hS _ (List.getElem_mem hk)
    rw [List.take_length, Bool.eq_iff_iff, List.any_eq_true]
    unfold slK
    rw [hg]
    constructor
    · rintro ⟨m, hm, h⟩
      simp only [Bool.and_eq_true, decide_eq_true_eq, Bool.not_eq_true', decide_eq_false_iff_not] at h ⊢
      rw [← h.1]
      exact h.2
    · intro h
      refine ⟨_, hm, ?_⟩
      simp only [Bool.and_eq_true, decide_eq_true_eq, Bool.not_eq_true', decide_eq_false_iff_not] at h ⊢
      exact ⟨trivial, h⟩
  have hrec : ∀ k, k < (subjR v.mem obs).length → recR (hdN (subjR v.mem obs) s v.mem t v.mem.length k).win (hdN (subjR v.mem obs) s v.mem t v.mem.length k).heard = slW (min (t + 1) 10) (slK (subjR v.mem obs) s k) := by
    intro k hk
    simp only [hdN]
    rw [hh k hk, (slW_ok (by omega) _).2.2.1]
    congr 1
    omega
  have hfl : ∀ k, failR (slW (min (t + 1) 10) (slK (subjR v.mem obs) s k)) = (slK (subjR v.mem obs) s k && decide (10 ≤ t + 1)) := by
    intro k
    rw [(slW_ok (by omega) _).2.2.2]
    congr 1
    exact decide_eq_decide.2 (by omega)
  unfold tickR
  rw [hd, Bool.not_true, cond_false]
  constructor
  · simp only [mkD, List.map_map, Det.mk.injEq, true_and]
    refine List.map_congr_left fun k hk => ?_
    have hk := List.mem_range.1 hk
    simp only [Function.comp, tickE]
    rw [hrec k hk, hfl k]
    simp only [hdN, Edge.mk.injEq, true_and, List.take_zero, List.any_nil, and_true]
    rw [← Bool.and_or_distrib_left]
    congr 1
    rw [Bool.eq_iff_iff]
    simp only [Bool.or_eq_true, decide_eq_true_eq]
    omega
  · have hal : alsAt (mkD obs v (subjR v.mem obs).length (hdN (subjR v.mem obs) s v.mem t v.mem.length)) (mkD obs v (subjR v.mem obs).length (hdN (subjR v.mem obs) s v.mem t v.mem.length)).edges.length = bif decide (t = 9) then slA obs v s else [] := by
      unfold alsAt
      rw [List.take_length]
      simp only [mkD, List.filter_map, List.map_map]
      have hf : (List.range (subjR v.mem obs).length).filter (hitE ∘ hdN (subjR v.mem obs) s v.mem t v.mem.length) = bif decide (t = 9) then slL (subjR v.mem obs) s else [] := by
        have h1 : ∀ k ∈ List.range (subjR v.mem obs).length, (hitE ∘ hdN (subjR v.mem obs) s v.mem t v.mem.length) k = (slK (subjR v.mem obs) s k && decide (t = 9)) := by
          intro k hk
          have hk := List.mem_range.1 hk
          simp only [Function.comp, hitE]
          rw [hrec k hk, hfl k]
          simp only [hdN]
          cases slK (subjR v.mem obs) s k
          · rfl
          · simp only [Bool.true_and]
            rw [Bool.eq_iff_iff]
            simp only [Bool.and_eq_true, Bool.not_eq_true', decide_eq_true_eq, decide_eq_false_iff_not]
            omega
        rw [List.filter_congr h1]
        unfold slL
        cases decide (t = 9) <;> simp
      rw [hf]
      unfold slA
      cases decide (t = 9)
      · rfl
      · simp only [cond_true]
        refine List.map_congr_left fun k hk => ?_
        unfold slL at hk
        have hk2 := (List.mem_filter.1 hk).2
        simp only [slK, decide_eq_true_eq] at hk2
        simp only [Function.comp, alrOf, hdN, hk2]
    rw [hal]
    unfold alN
    by_cases h : t = 9
    · subst h
      simp
    · have e1 : decide (t = 9) = false := decide_eq_false h
      have e2 : decide (10 ≤ t + 1) = decide (10 ≤ t) := decide_eq_decide.2 (by omega)
      rw [e1, e2, cond_false, List.append_nil]
theorem subj_mem {ms : List Int} {id : Int} : ∀ x ∈ subjR ms id, x ∈ ms := by
  intro x hx
  cases hc : (!idsB ms 16 || !inB ms id || decide ((ms.length : Int) = 1))
  · obtain ⟨hv, hin, hlen, hS⟩ := sub_good hc
    rw [hS] at hx
    simp only [subjAt, List.mem_map, List.mem_range] at hx
    obtain ⟨r, hr, rfl⟩ := hx
    unfold nxtR
    have ho := order_in (ms := ms) (r := (r : Nat)) hv (by omega) (by omega)
    have hl : (orderR ms (r : Nat)).length = ms.length := by rw [ho, sortL_len]
    have hm : ((placeB (orderR ms (r : Nat)) id).toNat + 1) % (orderR ms (r : Nat)).length < (orderR ms (r : Nat)).length := Nat.mod_lt _ (by omega)
    rw [List.getD_eq_getElem?_getD, List.getElem?_eq_getElem hm, Option.getD_some]
    have := List.getElem_mem hm
    generalize (orderR ms (r : Nat))[((placeB (orderR ms (r : Nat)) id).toNat + 1) % (orderR ms (r : Nat)).length]'hm = y at this
    rw [ho, sortL_mem] at this
    exact this
  · rw [sub_bad hc] at hx
    simp at hx
theorem sl_self {ms : List Int} {id : Int} : slL (subjR ms id) id = [] := by
  unfold slL
  rw [List.filter_eq_nil_iff]
  intro k hk
  have hk := List.mem_range.1 hk
  cases hc : (!idsB ms 16 || !inB ms id || decide ((ms.length : Int) = 1))
  · obtain ⟨hv, hin, hlen, hS⟩ := sub_good hc
    rw [hS] at hk ⊢
    have hk5 : k < 5 := by simpa [subjAt] using hk
    have hg : (subjAt ms id 5).getD k 0 = nxtR (orderR ms (k : Nat)) id := by
      unfold subjAt
      simp [hk5]
    unfold slK
    rw [hg]
    intro h
    have h := of_decide_eq_true h
    have ho := order_in (ms := ms) (r := (k : Nat)) hv (by omega) (by omega)
    have hl : (orderR ms (k : Nat)).length = ms.length := by rw [ho, sortL_len]
    have hnd : (orderR ms (k : Nat)).Nodup := by
      rw [ho]
      exact (sortL_perm _ _).nodup_iff.2 (pw_nodup (ids_pw.1 hv).2.1)
    have hm : id ∈ orderR ms (k : Nat) := by rw [ho, sortL_mem]; exact in_iff.1 hin
    unfold nxtR at h
    generalize orderR ms (k : Nat) = O at *
    obtain ⟨j, hj, hp, hv2⟩ := place_val hm
    rw [hp, Int.toNat_natCast] at h
    have hmod : (j + 1) % O.length < O.length := Nat.mod_lt _ (by omega)
    rw [List.getD_eq_getElem?_getD, List.getElem?_eq_getElem hmod, Option.getD_some, ← hv2] at h
    have := (List.getElem_inj hnd).1 h
    by_cases hjl : j + 1 = O.length
    · rw [hjl, Nat.mod_self] at this
      omega
    · rw [Nat.mod_eq_of_lt (by omega)] at this
      omega
  · rw [sub_bad hc] at hk
    simp at hk
theorem shr_eq {ms : List Int} {a s : Int} (hv : idsB ms 16 = true) (ha : a ∈ ms) (hs : s ∈ ms) (hne : a ≠ s) : shrAt (obsR ms s) a (obsR ms s).length = (slL (subjR ms a) s).map fun (k : Nat) => (k : Int) := by
  have hb := (ids_pw.1 hv).2.2 s hs
  have h2 : 2 ≤ ms.length := by
    obtain ⟨i, hi, rfl⟩ := List.getElem_of_mem ha
    obtain ⟨j, hj, rfl⟩ := List.getElem_of_mem hs
    have : i ≠ j := fun e => hne (by subst e; rfl)
    omega
  have hc : (!idsB ms 16 || !inB ms a || decide ((ms.length : Int) = 1)) = false := by
    rw [hv, in_iff.2 ha, decide_eq_false (by omega)]
    rfl
  obtain ⟨_, _, _, hS⟩ := sub_good hc
  have hO : obsR ms s = (List.range 5).map (prvR ms s) := by
    unfold obsR
    rw [hv, decide_eq_true hb.1, decide_eq_true hb.2, decide_eq_false (show ¬ ((ms.length : Int) = 1) by omega)]
    rfl
  rw [hO, hS]
  unfold shrAt slL
  rw [show ((List.range 5).map (prvR ms s)).length = 5 by simp, show (subjAt ms a 5).length = 5 by simp [subjAt]]
  congr 1
  refine List.filter_congr fun k hk => ?_
  have hk := List.mem_range.1 hk
  have g1 : ((List.range 5).map (prvR ms s)).getD k 0 = prvR ms s k := by simp [hk]
  have g2 : (subjAt ms a 5).getD k 0 = nxtR (orderR ms (k : Nat)) a := by
    unfold subjAt
    simp [hk]
  unfold slK
  rw [g1, g2]
  exact decide_eq_decide.2 (prv_nxt hv hk ha hs hne)
end Go.Proofs.Ytdajfimollbnlaa

set_option linter.unusedSimpArgs false
set_option linter.unusedVariables false
namespace Go.Proofs.Ytdajfimollbnlaa
open Go.Lift
theorem edges_zero (obs : Int) (v : View) (s : Int) : (⟨obs, v, edgesAt (subjR v.mem obs) (subjR v.mem obs).length⟩ : Det) = mkD obs v (subjR v.mem obs).length (hdN (subjR v.mem obs) s v.mem 0 0) := by
  simp only [mkD, Det.mk.injEq, true_and, edgesAt]
  refine List.map_congr_left fun k _ => ?_
  simp only [edge0, hdN, List.take_zero, List.any_nil, Edge.mk.injEq, true_and]
  refine ⟨by simp, ?_⟩
  cases slK (subjR v.mem obs) s k <;> rfl
theorem mk_len (obs : Int) (v : View) (n : Nat) (f : Nat → Edge) : (mkD obs v n f).edges.length = n := by simp [mkD]
theorem mk_bits {obs : Int} {v : View} {s : Int} (t j : Nat) : ∀ e ∈ (mkD obs v (subjR v.mem obs).length (hdN (subjR v.mem obs) s v.mem t j)).edges, 0 ≤ e.win.bits := by
  intro e he
  obtain ⟨k, hk, rfl⟩ := List.getElem_of_mem he
  exact ((good_mk (s := s) v.mem t j).2.2.2 k hk).2.2.2
theorem alN_len (obs : Int) (v : View) (s : Int) (t : Nat) : (alN obs v s t).length ≤ 5 := by
  unfold alN
  cases decide (10 ≤ t)
  · simp
  · simp only [cond_true, slA, List.length_map, slL]
    refine Nat.le_trans (List.length_filter_le ..) ?_
    rw [List.length_range]
    exact subj_len _ _
set_option maxRecDepth 100000 in
set_option maxHeartbeats 2000000 in
theorem r7 (v : View) (hv : v.mem.length ≤ maxLen) (u1 u2 u3 : Nat) (hu1 : u1 ≤ 255) (hu2 : u2 ≤ 255) (hu3 : u3 ≤ 255) : Ret Try.prog 7 [.agg (viewE v), .v (.int .u8 u1), .v (.int .u8 u2), .v (.int .u8 u3)] (.v (.bool true)) := by
  have e0 := c_ref3_Valid v hv
  refine ret_of_body (fn := Try.f7) (c := Try.f7.body.getD .skip) hm hT (by kernel_rfl) Try.func7 (by kernel_rfl) (by kernel_rfl) (by kernel_rfl) (by kernel_rfl) ?_
  repeat' ((conv => whnf); first | refine And.intro (fun h => h) ?_ | refine dcond_t (by assumption) ?_ | refine dcond_f (by assumption) ?_ | (refine dcond_intro ?_ ?_ <;> intro h) | exact .refl | refine And.intro (by kernel_rfl) ?_ | refine And.intro ⟨fun h => h, fun h => h⟩ ?_ | refine .inl ⟨_, _, DleAll_refl _, c_awake, ?_⟩ | refine ⟨_, _, DleAll_refl _, fun _ => c_awake, ?_⟩ | refine ⟨_, _, DleAll_refl _, c_awake, ?_⟩ | refine .inl ⟨_, _, DleAll_refl _, e0, ?_⟩ | refine ⟨_, _, DleAll_refl _, fun _ => e0, ?_⟩ | refine ⟨_, _, DleAll_refl _, e0, ?_⟩ | (refine And.intro ?_ ?_; focus (simp; done)) | fail)
  have hvw : viewB v = true := by simpa using h
  clear h
  have hids : idsB v.mem 16 = true := by
    simp only [viewB, Bool.and_eq_true] at hvw
    exact hvw.2
  have hn := view_len hvw
  have hm0 : 0 < v.mem.length := hn.1
  have hne : ((v.mem.map intE).length : Int) ≠ 0 := by
    rw [List.length_map]
    omega
  have hix : ∀ w : Nat, w ≤ 255 → Int.tmod (IntKind.i64.wrap (w : Int)) ((v.mem.map intE).length : Int) = ((w % v.mem.length : Nat) : Int) := by
    intro w hw
    rw [List.length_map, wrap_i64 (by omega) (by omega)]
    exact (Int.ofNat_tmod _ _).symm
  have hgx : ∀ w : Nat, (v.mem.map intE)[w % v.mem.length]? = some (intE (v.mem[w % v.mem.length]'(Nat.mod_lt _ hm0))) := fun w => get_map (Nat.mod_lt _ hm0)
  have hix1 := hix u1 hu1
  have hgx1 := hgx u1
  have hix2 := hix u2 hu2
  have hgx2 := hgx u2
  have hmo : (v.mem[u1 % v.mem.length]'(Nat.mod_lt _ hm0)) ∈ v.mem := List.getElem_mem _
  have hms : (v.mem[u2 % v.mem.length]'(Nat.mod_lt _ hm0)) ∈ v.mem := List.getElem_mem _
  generalize v.mem[u1 % v.mem.length]'(Nat.mod_lt _ hm0) = obs at hgx1 hmo
  generalize v.mem[u2 % v.mem.length]'(Nat.mod_lt _ hm0) = s at hgx2 hms
  have hid : inB v.mem obs = true := in_iff.2 hmo
  have e1 := c_probe_New v hv obs
  have hN := good_new hvw hid
  rw [edges_zero obs v s] at hN
  generalize newR v obs = N at e1 hN
  obtain ⟨N1, N2⟩ := N
  injection hN with hN1 hN2
  simp only [] at e1
  have h30 : Int.tmod (u3 : Int) 30 = ((u3 % 30 : Nat) : Int) := (Int.ofNat_tmod u3 30).symm
  have hT : u3 % 30 < 30 := Nat.mod_lt _ (by decide)
  generalize u3 % 30 = T at h30 hT
  repeat' ((conv => whnf); first | refine And.intro (fun h => h) ?_ | refine dcond_t (by assumption) ?_ | refine dcond_f (by assumption) ?_ | (refine dcond_intro ?_ ?_ <;> intro h) | exact .refl | refine And.intro (by kernel_rfl) ?_ | refine And.intro ⟨fun h => h, fun h => h⟩ ?_ | refine And.intro hne ?_ | refine ⟨u1 % v.mem.length, _, And.intro ⟨hix1, hgx1⟩ ?_⟩ | refine ⟨u2 % v.mem.length, _, And.intro ⟨hix2, hgx2⟩ ?_⟩ | refine .inl ⟨_, _, DleAll_refl _, e1, ?_⟩ | refine ⟨_, _, DleAll_refl _, fun _ => e1, ?_⟩ | refine ⟨_, _, DleAll_refl _, e1, ?_⟩ | (refine And.intro ?_ ?_; focus (simp; done)) | fail)
  · simp [hN2] at h
  · clear h
    subst hN1
    have hS5 := subj_len v.mem obs
    repeat' ((conv => whnf); first | refine And.intro (fun h => h) ?_ | refine dcond_t (by assumption) ?_ | refine dcond_f (by assumption) ?_ | (refine dcond_intro ?_ ?_ <;> intro h) | exact .refl | refine And.intro (by kernel_rfl) ?_ | refine And.intro ⟨fun h => h, fun h => h⟩ ?_ | refine And.intro (by decide) ?_ | (refine And.intro ?_ ?_; focus (simp; done)) | fail)
    all_goals (conv => whnf)
    refine ⟨Nat, fun t => ⟨[(4, .lp 0 0), (9, i64 obs), (10, i64 s), (11, .lp 1 0), (13, .own 2), (14, i64 T), (15, i64 t)], [.cells 33 (viewE v), .cells 36 (detE (mkD obs v (subjR v.mem obs).length (hdN (subjR v.mem obs) s v.mem t 0))), .row 52 4 ((alN obs v s t).map alE)]⟩, fun t => t ≤ T, fun t => T - t, [.slot 13 52 4], ⟨0, Nat.zero_le _, ?_⟩, ?_⟩
    · conv => whnf
      refine ⟨⟨.refl, .refl, .refl, .refl, .refl, dle_int ?_, .refl, trivial⟩, ⟨.refl, .refl, .refl, trivial⟩, by rfl⟩
      rw [h30, wrap_i64 (by omega) (by omega)]
    · intro t ht
      repeat' ((conv => whnf); first | refine And.intro (fun h => h) ?_ | refine dcond_t (by assumption) ?_ | refine dcond_f (by assumption) ?_ | (refine dcond_intro ?_ ?_ <;> intro h) | exact .refl | refine And.intro (by kernel_rfl) ?_ | refine And.intro ⟨fun h => h, fun h => h⟩ ?_ | (refine And.intro ?_ ?_; focus (simp; done)) | fail)
      · have hlt : t < T := by simpa using h
        clear h
        conv => whnf
        refine ⟨Nat, fun j => ⟨[(4, .lp 0 0), (9, i64 obs), (10, i64 s), (11, .lp 1 0), (13, .own 2), (14, i64 T), (15, i64 t), (16, i64 j)], [.cells 33 (viewE v), .cells 36 (detE (mkD obs v (subjR v.mem obs).length (hdN (subjR v.mem obs) s v.mem t j))), .row 52 4 ((alN obs v s t).map alE)]⟩, fun j => j ≤ v.mem.length, fun j => v.mem.length - j, [], ⟨0, Nat.zero_le _, ?_⟩, ?_⟩
        · conv => whnf
          exact ⟨⟨.refl, .refl, .refl, .refl, .refl, .refl, .refl, .refl, trivial⟩, ⟨.refl, .refl, .refl, trivial⟩, by rfl⟩
        · intro j hj
          repeat' ((conv => whnf); first | refine And.intro (fun h => h) ?_ | refine dcond_t (by assumption) ?_ | refine dcond_f (by assumption) ?_ | (refine dcond_intro ?_ ?_ <;> intro h) | exact .refl | refine And.intro (by kernel_rfl) ?_ | refine And.intro ⟨fun h => h, fun h => h⟩ ?_ | (refine And.intro ?_ ?_; focus (simp; done)) | fail)
          · have hjl : j < v.mem.length := by simpa using h
            clear h
            have hD := mk_len obs v (subjR v.mem obs).length (hdN (subjR v.mem obs) s v.mem t j)
            have e6 := c_probe_Heard (mkD obs v (subjR v.mem obs).length (hdN (subjR v.mem obs) s v.mem t j)) hv (by rw [hD]; exact Nat.le_trans hS5 (by decide)) v.mem[j]
            have hh := fun hne => mk_heard (s := s) hvw hid t j hjl hne
            have hk := fun he => mk_skip (obs := obs) (v := v) (s := s) t j hjl he
            generalize mkD obs v (subjR v.mem obs).length (hdN (subjR v.mem obs) s v.mem t j) = D at *
            repeat' ((conv => whnf); first | refine And.intro (fun h => h) ?_ | refine dcond_t (by assumption) ?_ | refine dcond_f (by assumption) ?_ | (refine dcond_intro ?_ ?_ <;> intro h) | exact .refl | refine And.intro (by kernel_rfl) ?_ | refine And.intro ⟨fun h => h, fun h => h⟩ ?_ | refine ⟨_, _, And.intro ⟨rfl, get_map hjl⟩ ?_⟩ | refine .inl ⟨_, _, DleAll_refl _, e6, ?_⟩ | refine ⟨_, _, DleAll_refl _, fun _ => e6, ?_⟩ | refine ⟨_, _, DleAll_refl _, e6, ?_⟩ | (refine And.intro ?_ ?_; focus (simp; done)) | fail)
            all_goals (conv => whnf)
            all_goals refine ⟨j + 1, hjl, by simp only []; omega, ?_⟩
            all_goals (conv => whnf)
            all_goals refine ⟨⟨.refl, .refl, .refl, .refl, .refl, .refl, .refl, dle_int (wrap_succ (by omega)), trivial⟩, ⟨.refl, ?_, .refl, trivial⟩, by rfl⟩
            · rw [hh (by simpa using h)]
              exact .refl
            · rw [← hk (by simpa using h)]
              exact .refl
          · have : j = v.mem.length := by
              simp at h
              omega
            subst this
            clear h
            have hD := mk_len obs v (subjR v.mem obs).length (hdN (subjR v.mem obs) s v.mem t v.mem.length)
            have e9 := c_probe_Tick (mkD obs v (subjR v.mem obs).length (hdN (subjR v.mem obs) s v.mem t v.mem.length)) hv (by rw [hD]; exact Nat.le_trans hS5 (by decide)) (mk_bits t _)
            have hk := mk_tick (s := s) hvw hid subj_mem t
            rw [hk.1] at e9
            have hk := hk.2
            have hl1 := alN_len obs v s t
            have hl2 := alN_len obs v s (t + 1)
            generalize (tickR (mkD obs v (subjR v.mem obs).length (hdN (subjR v.mem obs) s v.mem t v.mem.length))).2 = A at e9 hk
            have hfa : ((alN obs v s t).map alE).length + (A.map alE).length ≤ 2000000 := by
              rw [hk, List.length_append] at hl2
              rw [List.length_map, List.length_map]
              omega
            repeat' ((conv => whnf); first | refine And.intro (fun h => h) ?_ | refine dcond_t (by assumption) ?_ | refine dcond_f (by assumption) ?_ | (refine dcond_intro ?_ ?_ <;> intro h) | exact .refl | refine And.intro (by kernel_rfl) ?_ | refine And.intro ⟨fun h => h, fun h => h⟩ ?_ | refine .inl ⟨_, _, DleAll_refl _, e9, ?_⟩ | refine ⟨_, _, DleAll_refl _, fun _ => e9, ?_⟩ | refine ⟨_, _, DleAll_refl _, e9, ?_⟩ | refine And.intro (fitsA hfa) ?_ | (refine And.intro ?_ ?_; focus (simp; done)) | fail)
            all_goals (conv => whnf)
            refine ⟨t + 1, hlt, by simp only []; omega, ?_⟩
            conv => whnf
            refine ⟨⟨.refl, .refl, .refl, .refl, .refl, .refl, dle_int (wrap_succ (by omega)), trivial⟩, ⟨.refl, .refl, ole_row ?_, trivial⟩, by rfl⟩
            rw [hk, List.map_append]
      · rename_i h0
        have : t = T := by
          simp at h0
          omega
        subst this
        have hz : alN obs v s t = [] := by
          rw [Bool.or_eq_true, decide_eq_true_eq, decide_eq_true_eq] at h
          rcases h with h | h
          · unfold alN
            rw [decide_eq_false (by omega)]
            rfl
          · subst h
            unfold alN slA
            rw [sl_self]
            cases decide (10 ≤ t) <;> rfl
        repeat' ((conv => whnf); first | refine And.intro (fun h => h) ?_ | refine dcond_t (by assumption) ?_ | refine dcond_f (by assumption) ?_ | (refine dcond_intro ?_ ?_ <;> intro h) | exact .refl | refine And.intro (by kernel_rfl) ?_ | refine And.intro ⟨fun h => h, fun h => h⟩ ?_ | (refine And.intro ?_ ?_; focus (simp; done)) | fail)
        all_goals (conv => whnf)
        refine dle_bool ?_
        rw [hz]
        rfl
      · rename_i h0
        have : t = T := by
          simp at h0
          omega
        subst this
        rw [Bool.or_eq_false_iff, decide_eq_false_iff_not, decide_eq_false_iff_not] at h
        have es := c_ref4_Shared v.mem hv obs s
        rw [shr_eq hids hmo hms h.2] at es
        have hA : alN obs v s t = (slL (subjR v.mem obs) s).map fun (k : Nat) => (⟨v.num, k, obs, s⟩ : Alr) := by
          unfold alN slA
          rw [decide_eq_true (by omega)]
          rfl
        rw [hA]
        have hsl : (slL (subjR v.mem obs) s).length ≤ 5 := by
          have := alN_len obs v s t
          rw [hA, List.length_map] at this
          exact this
        clear hA h h0
        generalize slL (subjR v.mem obs) s = R at es hsl
        repeat' ((conv => whnf); first | refine And.intro (fun h => h) ?_ | refine dcond_t (by assumption) ?_ | refine dcond_f (by assumption) ?_ | (refine dcond_intro ?_ ?_ <;> intro h) | exact .refl | refine And.intro (by kernel_rfl) ?_ | refine And.intro ⟨fun h => h, fun h => h⟩ ?_ | refine .inl ⟨_, _, DleAll_refl _, es, ?_⟩ | refine ⟨_, _, DleAll_refl _, fun _ => es, ?_⟩ | refine ⟨_, _, DleAll_refl _, es, ?_⟩ | (refine And.intro ?_ ?_; focus (simp; done)) | fail)
        · simp at h
        · clear h
          repeat' ((conv => whnf); first | refine And.intro (fun h => h) ?_ | refine dcond_t (by assumption) ?_ | refine dcond_f (by assumption) ?_ | (refine dcond_intro ?_ ?_ <;> intro h) | exact .refl | refine And.intro (by kernel_rfl) ?_ | refine And.intro ⟨fun h => h, fun h => h⟩ ?_ | (refine And.intro ?_ ?_; focus (simp; done)) | fail)
          all_goals (conv => whnf)
          refine ⟨Nat, fun i => ⟨[(4, .lp 0 0), (9, i64 obs), (10, i64 s), (13, .own 2), (18, .lst 1 ((R.map fun (k : Nat) => (k : Int)).map intE) false), (19, i64 i)], [.cells 33 (viewE v), .cells 36 (detE (mkD obs v (subjR v.mem obs).length (hdN (subjR v.mem obs) s v.mem t 0))), .row 52 4 ((R.map fun (k : Nat) => (⟨v.num, k, obs, s⟩ : Alr)).map alE)]⟩, fun i => i ≤ R.length, fun i => R.length - i, [], ⟨0, Nat.zero_le _, ?_⟩, ?_⟩
          · conv => whnf
            exact ⟨⟨.refl, .refl, .refl, .refl, .refl, .refl, trivial⟩, ⟨.refl, .refl, .refl, trivial⟩, by rfl⟩
          · intro i hi
            repeat' ((conv => whnf); first | refine And.intro (fun h => h) ?_ | refine dcond_t (by assumption) ?_ | refine dcond_f (by assumption) ?_ | (refine dcond_intro ?_ ?_ <;> intro h) | exact .refl | refine And.intro (by kernel_rfl) ?_ | refine And.intro ⟨fun h => h, fun h => h⟩ ?_ | (refine And.intro ?_ ?_; focus (simp; done)) | fail)
            · have hlt : i < R.length := by simpa using h
              clear h
              have hl1 : i < ((R.map fun (k : Nat) => (⟨v.num, k, obs, s⟩ : Alr)).map alE).length := by simpa using hlt
              have hg1 : ((R.map fun (k : Nat) => (⟨v.num, k, obs, s⟩ : Alr)).map alE)[i]? = some (alE ⟨v.num, (R[i] : Nat), obs, s⟩) := by simp [hlt]
              have hg2 : ((R.map fun (k : Nat) => (k : Int)).map intE)[i]? = some (intE (R[i] : Nat)) := by simp [hlt]
              repeat' ((conv => whnf); first | refine And.intro (fun h => h) ?_ | refine dcond_t (by assumption) ?_ | refine dcond_f (by assumption) ?_ | (refine dcond_intro ?_ ?_ <;> intro h) | exact .refl | refine And.intro (by kernel_rfl) ?_ | refine And.intro ⟨fun h => h, fun h => h⟩ ?_ | refine ⟨i, And.intro ⟨rfl, hl1⟩ ?_⟩ | refine ⟨alE ⟨v.num, (R[i] : Nat), obs, s⟩, And.intro hg1 ?_⟩ | refine ⟨i, intE (R[i] : Nat), And.intro ⟨rfl, hg2⟩ ?_⟩ | (refine And.intro ?_ ?_; focus (simp; done)) | fail)
              all_goals (conv => whnf)
              · simp at h
              · refine ⟨i + 1, hlt, by simp only []; omega, ?_⟩
                conv => whnf
                exact ⟨⟨.refl, .refl, .refl, .refl, .refl, dle_int (wrap_succ (by omega)), trivial⟩, ⟨.refl, .refl, .refl, trivial⟩, by rfl⟩
theorem law7 (dvs : List DV) (h : DatAll tt 5 [33, 5, 5, 5] dvs) : Ret Try.prog 7 dvs (.v (.bool true)) := by
  obtain ⟨b, _, rfl, hb, _, _, rfl, ⟨s, rfl, hs⟩, _, _, rfl, ⟨t, rfl, ht⟩, _, _, rfl, ⟨w, rfl, hw⟩, rfl⟩ := h
  obtain ⟨v, rfl, hv⟩ := dat_view (n := 2) hb
  have h1 := bounds_u8 (by exact hs)
  have h2 := bounds_u8 (by exact ht)
  have h3 := bounds_u8 (by exact hw)
  obtain ⟨s, rfl⟩ := Int.eq_ofNat_of_zero_le (a := s) (by omega)
  obtain ⟨t, rfl⟩ := Int.eq_ofNat_of_zero_le (a := t) (by omega)
  obtain ⟨w, rfl⟩ := Int.eq_ofNat_of_zero_le (a := w) (by omega)
  exact r7 v hv s t w (by omega) (by omega) (by omega)
end Go.Proofs.Ytdajfimollbnlaa
