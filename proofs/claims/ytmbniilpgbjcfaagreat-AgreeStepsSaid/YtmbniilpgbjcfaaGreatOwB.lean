/- The laws of this seat, part OwB: contracts of the functions, plain laws. No conditions. -/
import Derived.Test.YtmbniilpgbjcfaaGreatOwA
set_option maxRecDepth 100000
namespace Go.Proofs.YtmbniilpgbjcfaaGreat
open Go.Lift
theorem m51 (l : List Rpt) (hl : l.length ≤ 500000) (hc : ∀ r ∈ l, r.cut.length ≤ 1000000) : RetM Tryz.prog 120 [] [.lst 3 (l.map rptE) false] [] [.row 51 3 (l.map rptE)] (.own 0) := by
  have hby : (l.map rptE).length * (tinfo tt 51).bytes ≤ 140737488355328 := by
    have e : (tinfo tt 51).bytes = 40 := by kernel_rfl
    rw [e]; simp; omega
  have hmx : (l.map rptE).length ≤ maxLen := by simp only [maxLen]; simp; omega
  refine retM_of_body (fn := Tryz.f120) (c := Tryz.f120.body.getD .skip) hm hT (by kernel_rfl) Tryz.func120 (by kernel_rfl) (by kernel_rfl) (by kernel_rfl) (by kernel_rfl) (by kernel_rfl) ?_
  repeat' ((conv => whnf); first | refine And.intro (fun h => h) ?_ | refine dcond_t (by assumption) ?_ | refine dcond_f (by assumption) ?_ | (refine dcond_intro ?_ ?_ <;> intro h) | exact .refl | refine And.intro (by kernel_rfl) ?_ | refine And.intro ⟨fun h => h, fun h => h⟩ ?_ | refine ⟨(l.map rptE).length, (l.map rptE).length, rfl, rfl, Nat.le_refl _, hby, hmx, ?_⟩ | refine Exists.intro false ?_ | (refine And.intro ?_ ?_; focus (simp; done)) | fail)
  all_goals (conv => whnf)
  have e0 : (l.map rptE).take (List.replicate (l.map rptE).length (tinfo tt 51).zero).length ++ (List.replicate (l.map rptE).length (tinfo tt 51).zero).drop (l.map rptE).length = l.map rptE := by
    simp only [List.length_replicate, List.drop_of_length_le (Nat.le_of_eq (List.length_replicate ..)), List.append_nil]
    exact List.take_of_length_le (Nat.le_refl _)
  rw [e0]
  refine ⟨Nat, fun i => ⟨[(3, .own 0), (12, i64 (l.map rptE).length), (13, i64 i)], [.row 51 3 (l.map rptE)]⟩, fun i => i ≤ l.length, fun i => l.length - i, [], ⟨0, Nat.zero_le _, ?_⟩, ?_⟩
  · exact ⟨⟨.refl, .refl, .refl, trivial⟩, ⟨.refl, trivial⟩, rfl⟩
  · intro i hi
    repeat' ((conv => whnf); first | refine And.intro (fun h => h) ?_ | refine dcond_t (by assumption) ?_ | refine dcond_f (by assumption) ?_ | (refine dcond_intro ?_ ?_ <;> intro h) | exact .refl | refine And.intro (by kernel_rfl) ?_ | refine And.intro ⟨fun h => h, fun h => h⟩ ?_ | refine Exists.intro false ?_ | (refine And.intro ?_ ?_; focus (simp; done)) | fail)
    · have hlt : i < l.length := by simpa using h
      have hlt2 : i < (l.map rptE).length := by simpa using hlt
      have hcc := hc _ (List.getElem_mem hlt)
      repeat' ((conv => whnf); first | refine And.intro (fun h => h) ?_ | refine dcond_t (by assumption) ?_ | refine dcond_f (by assumption) ?_ | (refine dcond_intro ?_ ?_ <;> intro h) | exact .refl | refine And.intro (by kernel_rfl) ?_ | refine And.intro ⟨fun h => h, fun h => h⟩ ?_ | refine .inl ⟨_, _, DleAll_refl _, c_paxos_clone _ hcc, ?_⟩ | refine ⟨_, _, DleAll_refl _, fun _ => c_paxos_clone _ hcc, ?_⟩ | refine ⟨_, _, DleAll_refl _, c_paxos_clone _ hcc, ?_⟩ | refine ⟨i, And.intro ⟨rfl, hlt2⟩ ?_⟩ | refine ⟨rptE (l[i]'hlt), And.intro (get_map hlt) ?_⟩ | refine Exists.intro false ?_ | (refine And.intro ?_ ?_; focus (simp; done)) | fail)
      all_goals (conv => whnf)
      refine ⟨i + 1, hlt, by simp only []; omega, ?_⟩
      refine ⟨⟨.refl, .refl, dle_int (wrap_succ (by omega)), trivial⟩, ⟨ole_row ?_, trivial⟩, rfl⟩
      apply List.ext_getElem?
      intro j
      rw [List.getElem?_set]
      split
      · rename_i hj
        subst hj
        first
          | rw [if_pos hlt2, get_map hlt]; rfl
          | rw [get_map hlt]; rfl
      · rfl
    · have hge : ¬ i < l.length := by simpa using h
      repeat' ((conv => whnf); first | refine And.intro (fun h => h) ?_ | refine dcond_t (by assumption) ?_ | refine dcond_f (by assumption) ?_ | (refine dcond_intro ?_ ?_ <;> intro h) | exact .refl | refine And.intro (by kernel_rfl) ?_ | refine And.intro ⟨fun h => h, fun h => h⟩ ?_ | refine Exists.intro false ?_ | (refine And.intro ?_ ?_; focus (simp; done)) | fail)
      all_goals (conv => whnf)
      exact ⟨.refl, ⟨.refl, trivial⟩, rfl⟩
theorem c_paxos_copies (l : List Rpt) (hl : l.length ≤ 500000) (hc : ∀ r ∈ l, r.cut.length ≤ 1000000) : Ret Tryz.prog 120 [.lst 3 (l.map rptE) false] (.lst 3 (l.map rptE) false) :=
  ret_of_retM (m51 l hl hc) .refl
def frontN : List Rpt → Int → Nat
  | [], _ => 0
  | r :: l, m => if r.mem < m then frontN l m + 1 else 0
theorem frontN_le (l : List Rpt) (m : Int) : frontN l m ≤ l.length := by
  induction l with
  | nil => exact Nat.le_refl _
  | cons r l ih => simp only [frontN, List.length_cons]; split <;> omega
theorem frontN_lt {m : Int} : ∀ {l : List Rpt} {i : Nat}, i < frontN l m → (hl : i < l.length) → l[i].mem < m
  | r :: l, i, h, hl => by
    simp only [frontN] at h
    split at h
    · rename_i hr
      cases i with
      | zero => exact hr
      | succ i => exact frontN_lt (l := l) (by omega) (by simpa using hl)
    · omega
theorem frontN_at {m : Int} : ∀ {l : List Rpt} {i : Nat} (hl : i < l.length), (∀ j, (hj : j < i) → (l[j]'(by omega)).mem < m) → ¬ l[i].mem < m → frontN l m = i
  | r :: l, 0, hl, h, hn => by simp only [frontN]; exact if_neg hn
  | r :: l, i + 1, hl, h, hn => by
    have h0 : r.mem < m := h 0 (by omega)
    simp only [frontN, if_pos h0]
    exact congrArg (· + 1) (frontN_at (l := l) (by simpa using hl) (fun j hj => h (j + 1) (by omega)) hn)
theorem frontN_all {m : Int} : ∀ {l : List Rpt}, (∀ j, (hj : j < l.length) → l[j].mem < m) → frontN l m = l.length
  | [], _ => rfl
  | r :: l, h => by
    have h0 : r.mem < m := h 0 (by simp)
    simp only [frontN, if_pos h0, List.length_cons]
    exact congrArg (· + 1) (frontN_all (l := l) fun j hj => h (j + 1) (by simpa using hj))
def insR (l : List Rpt) (r : Rpt) : List Rpt := l.take (frontN l r.mem) ++ [r] ++ l.drop (frontN l r.mem)
def addR (v : View) (l : List Rpt) (r : Rpt) : List Rpt × Bool :=
  bif !repsB v l then ([], false) else bif !repsB v (insR l r) then (l, false) else (insR l r, true)
theorem insR_len (l : List Rpt) (r : Rpt) : (insR l r).length = l.length + 1 := by
  have := frontN_le l r.mem
  simp [insR]; omega
theorem insR_mem {l : List Rpt} {r x : Rpt} (h : x ∈ insR l r) : x = r ∨ x ∈ l := by
  simp only [insR, List.mem_append, List.mem_singleton] at h
  rcases h with (h | h) | h
  · exact .inr (List.mem_of_mem_take h)
  · exact .inl h
  · exact .inr (List.mem_of_mem_drop h)
theorem fitsR {n : Nat} (h : n ≤ 2000000) : fitsIn tt 51 n := by
  have e : (tinfo tt 51).bytes = 40 := by kernel_rfl
  refine ⟨?_, ?_⟩
  · rw [e]; omega
  · simp only [maxLen]; omega
set_option maxRecDepth 100000 in
theorem c_paxos_AddReport (v : View) (hv : v.mem.length ≤ 400000) (l : List Rpt) (hl : l.length ≤ 400000) (hc : ∀ r ∈ l, r.cut.length ≤ 400000) (r : Rpt) (hr : r.cut.length ≤ 400000) :
    Ret Tryz.prog 93 [.agg (viewE v), .lst 3 (l.map rptE) false, .agg (rptE r)] (.tup [.lst 3 ((addR v l r).1.map rptE) false, .v (.bool (addR v l r).2)]) := by
  have hlm : l.length ≤ maxLen := Nat.le_trans hl (by decide)
  have e33 := c_paxos_ValidReports v (Nat.le_trans hv (by omega)) l hlm (fun x hx => Nat.le_trans (hc x hx) (by omega))
  have hil := insR_len l r
  have e33b := c_paxos_ValidReports v (Nat.le_trans hv (by omega)) (insR l r) (by simp only [maxLen]; omega) (fun x hx => by
    rcases insR_mem hx with rfl | hx
    · omega
    · exact Nat.le_trans (hc x hx) (by omega))
  have e51 := c_paxos_copies l (by omega) (fun x hx => Nat.le_trans (hc x hx) (by omega))
  have e51b := c_paxos_copies (insR l r) (by omega) (fun x hx => by
    rcases insR_mem hx with rfl | hx
    · omega
    · exact Nat.le_trans (hc x hx) (by omega))
  refine ret_of_body (fn := Tryz.f93) (c := Tryz.f93.body.getD .skip) hm hT (by kernel_rfl) Tryz.func93 (by kernel_rfl) (by kernel_rfl) (by kernel_rfl) (by kernel_rfl) ?_
  repeat' ((conv => whnf); first | refine And.intro (fun h => h) ?_ | refine dcond_t (by assumption) ?_ | refine dcond_f (by assumption) ?_ | (refine dcond_intro ?_ ?_ <;> intro h) | exact .refl | refine And.intro (by kernel_rfl) ?_ | refine And.intro ⟨fun h => h, fun h => h⟩ ?_ | refine .inl ⟨_, _, DleAll_refl _, e33, ?_⟩ | refine ⟨_, _, DleAll_refl _, fun _ => e33, ?_⟩ | refine ⟨_, _, DleAll_refl _, e33, ?_⟩ | refine Exists.intro false ?_ | (refine And.intro ?_ ?_; focus (simp; done)) | fail)
  all_goals (conv => whnf)
  · simp only [addR, h, cond_true]
    exact dle_tupA ⟨.nl, .refl, trivial⟩
  · have h0 := h
    clear h
    refine ⟨Nat, fun i => ⟨[(1, .lst 3 (l.map rptE) false), (3, .lp 0 0), (5, .lp 1 0), (8, i64 i)], [.cells 24 (viewE v), .cells 51 (rptE r)]⟩, fun i => i ≤ l.length ∧ ∀ j, (hj : j < l.length) → j < i → l[j].mem < r.mem, fun i => l.length - i, [], ⟨0, ⟨Nat.zero_le _, fun j _ hj => by omega⟩, ?_⟩, ?_⟩
    · exact ⟨by repeat' ((conv => whnf); first | exact trivial | refine And.intro (by (conv => arg 1; whnf); first | (with_reducible exact .refl) | exact dle_int (wrap_succ (by omega)) | exact .refl) ?_), by repeat' ((conv => whnf); first | exact trivial | refine And.intro ?_ ?_ | exact .refl), rfl⟩
    · intro i ⟨hi, hall⟩
      have hix : ∃ x : Rpt, (i < l.length → (l.map rptE)[i]? = some (rptE x)) ∧ ∀ (hil : i < l.length), x = l[i] := by
        by_cases hil : i < l.length
        · exact ⟨l[i], fun _ => get_map hil, fun _ => rfl⟩
        · exact ⟨r, fun hn => absurd hn hil, fun hn => absurd hn hil⟩
      obtain ⟨x, hx1, hx2⟩ := hix
      repeat' ((conv => whnf); first | refine And.intro (fun h => h) ?_ | refine dcond_t (by assumption) ?_ | refine dcond_f (by assumption) ?_ | (refine dcond_intro ?_ ?_ <;> intro h) | exact .refl | refine And.intro (by kernel_rfl) ?_ | refine And.intro ⟨fun h => h, fun h => h⟩ ?_ | refine ⟨i, rptE x, And.intro ⟨⟨fun h => h, fun h => h⟩, fun hg => ⟨rfl, hx1 (by simpa using hg)⟩⟩ ?_⟩ | refine Exists.intro false ?_ | (refine And.intro ?_ ?_; focus (simp; done)) | fail)
      · have hil : i < l.length := by simpa using ((Bool.and_eq_true ..).mp h).1
        have hlt : l[i].mem < r.mem := by
          have := ((Bool.and_eq_true ..).mp h).2
          rw [hx2 hil] at this
          simpa using this
        clear h
        repeat' ((conv => whnf); first | refine And.intro (fun h => h) ?_ | refine dcond_t (by assumption) ?_ | refine dcond_f (by assumption) ?_ | (refine dcond_intro ?_ ?_ <;> intro h) | exact .refl | refine And.intro (by kernel_rfl) ?_ | refine And.intro ⟨fun h => h, fun h => h⟩ ?_ | refine Exists.intro false ?_ | (refine And.intro ?_ ?_; focus (simp; done)) | fail)
        all_goals (conv => whnf)
        refine ⟨i + 1, ⟨hil, fun j hj hji => ?_⟩, by simp only []; omega, ?_⟩
        · rcases Nat.lt_succ_iff_lt_or_eq.mp hji with h1 | rfl
          · exact hall j hj h1
          · exact hlt
        · exact ⟨⟨.refl, .refl, .refl, dle_int (wrap_succ (by omega)), trivial⟩, ⟨.refl, .refl, trivial⟩, rfl⟩
      · have hf : frontN l r.mem = i := by
          rcases Nat.lt_or_ge i l.length with hil | hil
          · refine frontN_at hil (fun j hj => hall j (by omega) hj) ?_
            intro hlt
            rw [hx2 hil] at h
            simp [hil, hlt] at h
          · have : i = l.length := by omega
            subst this
            exact frontN_all fun j hj => hall j hj hj
        clear h
        have m51i : RetM Tryz.prog 120 [] [DV.lst 3 (((l.map rptE).take i).drop 0) false] [] [LObj.row 51 3 ((l.take i).map rptE)] (DV.own 0) := by
          have := m51 (l.take i) (by simp; omega) (fun x hx => Nat.le_trans (hc x (List.mem_of_mem_take hx)) (by omega))
          rw [← List.map_take]
          exact this
        have hlen : (l.take i).length = i := by simp; omega
        have hlm : i ≤ (l.map rptE).length := by simpa using hi
        repeat' ((conv => whnf); first | refine And.intro (fun h => h) ?_ | refine dcond_t (by assumption) ?_ | refine dcond_f (by assumption) ?_ | (refine dcond_intro ?_ ?_ <;> intro h) | exact .refl | refine And.intro (by kernel_rfl) ?_ | refine And.intro ⟨fun h => h, fun h => h⟩ ?_ | refine ⟨0, i, And.intro ⟨rfl, ⟨_, rfl⟩, Nat.zero_le _, hlm⟩ ?_⟩ | refine .inr ⟨[], [], _, [], _, _, m51i, by rfl, trivial, ⟨.refl, trivial⟩, ?_⟩ | refine And.intro (fitsR (by simp <;> omega)) ?_ | refine ⟨i, And.intro ⟨⟨_, rfl⟩, hlm⟩ ?_⟩ | refine Exists.intro false ?_ | (refine And.intro ?_ ?_; focus (simp; done)) | fail)
        have hins : List.map rptE (List.take i l) ++ (List.replicate 1 (tinfo tt 51).zero).set 0 (dcells (.agg [.v (.int .i64 r.mem), .v (.int .i64 r.rank), .lst 1 (List.map intE r.cut) false])) ++ List.drop i (List.map rptE l) = (insR l r).map rptE := by
          simp [insR, hf, rptE, dcells]
        refine .inl ⟨[.agg (viewE v), .lst 3 ((insR l r).map rptE) false], _, ⟨.refl, dle_lst hins, trivial⟩, e33b, ?_⟩
        repeat' ((conv => whnf); first | refine And.intro (fun h => h) ?_ | refine dcond_t (by assumption) ?_ | refine dcond_f (by assumption) ?_ | (refine dcond_intro ?_ ?_ <;> intro h) | exact .refl | refine And.intro (by kernel_rfl) ?_ | refine And.intro ⟨fun h => h, fun h => h⟩ ?_ | refine .inl ⟨_, _, DleAll_refl _, e51, ?_⟩ | refine ⟨_, _, DleAll_refl _, fun _ => e51, ?_⟩ | refine ⟨_, _, DleAll_refl _, e51, ?_⟩ | refine .inl ⟨[.lst 3 ((insR l r).map rptE) false], _, ⟨dle_lst hins, trivial⟩, e51b, ?_⟩ | refine Exists.intro false ?_ | (refine And.intro ?_ ?_; focus (simp; done)) | fail)
        all_goals (conv => whnf)
        · simp only [addR, h0, h, cond_true, cond_false]
          exact .refl
        · simp only [addR, h0, h, cond_true, cond_false]
          exact .refl
def smallAt (l : List Rpt) (i : Nat) : Bool := !decide (60 < ((l.getD i rpt0).cut.length : Int))
def vrB (v : View) (r : Rpt) : Bool := inB v.mem r.mem &&
    (decide (r.rank = -1) && decide ((r.cut.length : Int) = 0) || (decide (r.rank = 0) || usableB r.rank) && decide ((nextR v r.cut).2 = 0))
theorem vr_ref (v : View) (r : Rpt) : (bif !inB v.mem r.mem || (!decide (r.rank = -1) && !decide (r.rank = 0)) && decide (ownerRef r.rank = 0) then false else bif decide (r.rank < 0) then decide ((r.cut.length : Int) = 0) else decide ((nextR v r.cut).2 = 0)) = vrB v r := by
  have ho := @owner_low r.rank
  simp only [vrB, ownerRef_eq, usableB]
  generalize decide ((nextR v r.cut).2 = 0) = b1
  generalize decide ((r.cut.length : Int) = 0) = b2
  generalize inB v.mem r.mem = b3
  by_cases h5 : ownerOf r.rank = 0
  · by_cases h3 : r.rank = -1 <;> by_cases h4 : r.rank = 0 <;> by_cases h7 : r.rank < 0 <;> cases b1 <;> cases b2 <;> cases b3 <;> simp [*]
    all_goals try omega
    all_goals (rw [← h3]; exact h5)
  · have ho := ho h5
    have h3 : ¬ r.rank = -1 := by omega
    have h4 : ¬ r.rank = 0 := by omega
    have h7 : ¬ r.rank < 0 := by omega
    cases b1 <;> cases b2 <;> cases b3 <;> simp [*]
theorem c_ref9_ValidReport (v : View) (hv : v.mem.length ≤ 500000) (r : Rpt) (hc : r.cut.length ≤ 500000) : Ret Tryz.prog 97 [.agg (viewE v), .agg (rptE r)] (.v (.bool (vrB v r))) := by
  have h1 : v.mem.length ≤ maxLen := Nat.le_trans hv (by decide)
  refine ret_of_body (fn := Tryz.f97) (c := Tryz.f97.body.getD .skip) hm hT (by kernel_rfl) Tryz.func97 (by kernel_rfl) (by kernel_rfl) (by kernel_rfl) (by kernel_rfl) ?_
  repeat' ((conv => whnf); first | refine And.intro (fun h => h) ?_ | refine dcond_t (by assumption) ?_ | refine dcond_f (by assumption) ?_ | (refine dcond_intro ?_ ?_ <;> intro h) | exact .refl | refine And.intro (by kernel_rfl) ?_ | refine And.intro ⟨fun h => h, fun h => h⟩ ?_ | refine .inl ⟨_, _, DleAll_refl _, c_ref3_Contains _ h1 _, ?_⟩ | refine ⟨_, _, DleAll_refl _, fun _ => c_ref3_Contains _ h1 _, ?_⟩ | refine ⟨_, _, DleAll_refl _, c_ref3_Contains _ h1 _, ?_⟩ | refine .inl ⟨_, _, DleAll_refl _, c_ref9_Owner _, ?_⟩ | refine ⟨_, _, DleAll_refl _, fun _ => c_ref9_Owner _, ?_⟩ | refine ⟨_, _, DleAll_refl _, c_ref9_Owner _, ?_⟩ | refine .inl ⟨_, _, DleAll_refl _, c_ref3_Applicable _ hv _ hc, ?_⟩ | refine ⟨_, _, DleAll_refl _, fun _ => c_ref3_Applicable _ hv _ hc, ?_⟩ | refine ⟨_, _, DleAll_refl _, c_ref3_Applicable _ hv _ hc, ?_⟩ | refine Exists.intro false ?_ | (refine And.intro ?_ ?_; focus (simp; done)) | fail)
  all_goals (conv => whnf)
  all_goals refine dle_bool ?_
  all_goals (try simp only [List.length_map])
  all_goals rw [← vr_ref]
  all_goals simp only [*, cond_true, cond_false]
def ofB (l : List Rpt) (x : Int) : Int := findB (fun i => decide ((l.getD i rpt0).mem = x)) l.length
theorem c_ref9_Of (l : List Rpt) (hl : l.length ≤ maxLen) (x : Int) : Ret Tryz.prog 49 [.lst 3 (l.map rptE) false, .v (.int .i64 x)] (.v (.int .i64 (ofB l x))) := by
  have hl' : l.length ≤ 9223372036854775807 := hl
  refine ret_of_body (fn := Tryz.f49) (c := Tryz.f49.body.getD .skip) hm hT (by kernel_rfl) Tryz.func49 (by kernel_rfl) (by kernel_rfl) (by kernel_rfl) (by kernel_rfl) ?_
  repeat' ((conv => whnf); first | refine And.intro (fun h => h) ?_ | refine dcond_t (by assumption) ?_ | refine dcond_f (by assumption) ?_ | (refine dcond_intro ?_ ?_ <;> intro h) | exact .refl | refine And.intro (by kernel_rfl) ?_ | refine And.intro ⟨fun h => h, fun h => h⟩ ?_ | refine Exists.intro false ?_ | (refine And.intro ?_ ?_; focus (simp; done)) | fail)
  refine ⟨Nat, fun i => ⟨[(0, .lst 3 (l.map rptE) false), (1, .v (.int .i64 x)), (5, i64 i)], []⟩, fun i => i ≤ l.length ∧ ∀ j, j < i → decide ((l.getD j rpt0).mem = x) = false, fun i => l.length - i, [], ⟨0, ⟨Nat.zero_le _, by omega⟩, ?_⟩, ?_⟩
  · exact ⟨by repeat' ((conv => whnf); first | exact trivial | refine And.intro (by (conv => arg 1; whnf); first | (with_reducible exact .refl) | exact dle_int (wrap_succ (by omega)) | exact .refl) ?_), by repeat' ((conv => whnf); first | exact trivial | refine And.intro ?_ ?_ | exact .refl), rfl⟩
  · intro i ⟨hi, hall⟩
    repeat' ((conv => whnf); first | refine And.intro (fun h => h) ?_ | refine dcond_t (by assumption) ?_ | refine dcond_f (by assumption) ?_ | (refine dcond_intro ?_ ?_ <;> intro h) | exact .refl | refine And.intro (by kernel_rfl) ?_ | refine And.intro ⟨fun h => h, fun h => h⟩ ?_ | refine Exists.intro false ?_ | (refine And.intro ?_ ?_; focus (simp; done)) | fail)
    · have hlt : i < l.length := by simpa using h
      repeat' ((conv => whnf); first | refine And.intro (fun h => h) ?_ | refine dcond_t (by assumption) ?_ | refine dcond_f (by assumption) ?_ | (refine dcond_intro ?_ ?_ <;> intro h) | exact .refl | refine And.intro (by kernel_rfl) ?_ | refine And.intro ⟨fun h => h, fun h => h⟩ ?_ | refine ⟨_, _, And.intro ⟨rfl, get_map hlt⟩ ?_⟩ | refine Exists.intro false ?_ | (refine And.intro ?_ ?_; focus (simp; done)) | fail)
      · have h2 := h
        refine dle_int (findB_at hlt ?_ hall).symm
        simpa [hlt] using h2
      · have h2 := h
        conv => whnf
        refine ⟨i + 1, ⟨hlt, fun j hj => ?_⟩, by simp only []; omega, ?_⟩
        · rcases Nat.lt_succ_iff_lt_or_eq.1 hj with hj | rfl
          · exact hall j hj
          · simpa [hlt] using h2
        · exact ⟨by repeat' ((conv => whnf); first | exact trivial | refine And.intro (by (conv => arg 1; whnf); first | (with_reducible exact .refl) | exact dle_int (wrap_succ (by omega)) | exact .refl) ?_), by repeat' ((conv => whnf); first | exact trivial | refine And.intro ?_ ?_ | exact .refl), rfl⟩
    · have hge : ¬ i < l.length := by simpa using h
      conv => whnf
      refine dle_int (findB_none (fun j hj => hall j (by omega))).symm
theorem of_neg {l : List Rpt} {x : Int} (h : decide (0 ≤ ofB l x) = false) : ∀ r ∈ l, r.mem ≠ x := by
  intro r hr e
  obtain ⟨i, hi, rfl⟩ := List.getElem_of_mem hr
  have hp : ∃ n, findB (fun i => decide ((l.getD i rpt0).mem = x)) l.length = ((n : Nat) : Int) := by
    rcases hf : (List.range l.length).find? (fun i => decide ((l.getD i rpt0).mem = x)) with _ | n
    · have := List.find?_eq_none.1 hf i (List.mem_range.2 hi)
      simp [hi, e] at this
    · exact ⟨n, by simp only [findB, hf]⟩
  obtain ⟨n, hn⟩ := hp
  simp only [ofB, hn, decide_eq_false_iff_not] at h
  omega
theorem of_pos {l : List Rpt} {x : Int} (h : decide (0 ≤ ofB l x) = true) : ∃ r ∈ l, r.mem = x := by
  refine Classical.byContradiction fun hn => ?_
  have hall : ∀ j, j < l.length → decide ((l.getD j rpt0).mem = x) = false := fun j hj => by
    simp only [List.getD_eq_getElem?_getD, List.getElem?_eq_getElem hj, Option.getD_some, decide_eq_false_iff_not]
    exact fun e => hn ⟨_, List.getElem_mem hj, e⟩
  rw [ofB, findB_none hall] at h
  cases h
theorem c_ref3_Majority (n : Int) : Ret Tryz.prog 86 [.v (.int .i64 n)] (.v (.int .i64 (majB n))) := by
  have e : (!(decide (1 ≤ n) && decide (n ≤ 16))) = (decide (n < 1) || decide (16 < n)) := by
    by_cases h1 : 1 ≤ n <;> by_cases h2 : n ≤ 16 <;> simp [h1, h2] <;> omega
  refine ret_of_body (fn := Tryz.f86) (c := Tryz.f86.body.getD .skip) hm hT (by kernel_rfl) Tryz.func86 (by kernel_rfl) (by kernel_rfl) (by kernel_rfl) (by kernel_rfl) ?_
  repeat' ((conv => whnf); first | refine And.intro (fun h => h) ?_ | refine dcond_t (by assumption) ?_ | refine dcond_f (by assumption) ?_ | (refine dcond_intro ?_ ?_ <;> intro h) | exact .refl | refine And.intro (by kernel_rfl) ?_ | refine And.intro ⟨fun h => h, fun h => h⟩ ?_ | refine Exists.intro false ?_ | (refine And.intro ?_ ?_; focus (simp; done)) | fail)
  all_goals (conv => whnf)
  all_goals refine dle_int ?_
  all_goals simp only [majB, e, h, cond_true, cond_false]
theorem c_ref3_FastQuorum (n : Int) : Ret Tryz.prog 122 [.v (.int .i64 n)] (.v (.int .i64 (fastB n))) := by
  have e : (!(decide (1 ≤ n) && decide (n ≤ 16))) = (decide (n < 1) || decide (16 < n)) := by
    by_cases h1 : 1 ≤ n <;> by_cases h2 : n ≤ 16 <;> simp [h1, h2] <;> omega
  refine ret_of_body (fn := Tryz.f122) (c := Tryz.f122.body.getD .skip) hm hT (by kernel_rfl) Tryz.func122 (by kernel_rfl) (by kernel_rfl) (by kernel_rfl) (by kernel_rfl) ?_
  repeat' ((conv => whnf); first | refine And.intro (fun h => h) ?_ | refine dcond_t (by assumption) ?_ | refine dcond_f (by assumption) ?_ | (refine dcond_intro ?_ ?_ <;> intro h) | exact .refl | refine And.intro (by kernel_rfl) ?_ | refine And.intro ⟨fun h => h, fun h => h⟩ ?_ | refine Exists.intro false ?_ | (refine And.intro ?_ ?_; focus (simp; done)) | fail)
  all_goals (conv => whnf)
  all_goals refine dle_int ?_
  all_goals simp only [fastB, e, h, cond_true, cond_false]
def okRef (v : View) (l : List Rpt) (i : Nat) : Bool := !(!vrB v (l.getD i rpt0) || decide (0 < (i : Int)) && decide ((l.getD i rpt0).mem ≤ (l.getD (i - 1) rpt0).mem))
theorem in_pos {v : View} {x : Int} (hv : viewB v = true) (h : inB v.mem x = true) : 1 ≤ x := by
  have hid : idsB v.mem 16 = true := by
    simp only [viewB, Bool.and_eq_true] at hv
    exact hv.2
  rw [ids_eq] at hid
  simp only [Bool.and_eq_true] at hid
  have hr := rise_iff.1 hid.2
  rcases hf : (List.range v.mem.length).find? (fun i => decide (v.mem[i]? = some x)) with _ | n
  · simp only [inB, placeB, findB, hf] at h
    cases h
  · have hm := List.mem_of_find?_eq_some hf
    have hp := List.find?_some hf
    simp only [decide_eq_true_eq] at hp
    obtain ⟨hn, rfl⟩ := List.getElem?_eq_some_iff.1 hp
    exact (hr n hn).1
theorem ok_ref {v : View} (hv : viewB v = true) (l : List Rpt) {i : Nat} (hi : i < l.length) : okRef v l i = okRep v l i := by
  simp only [okRef, okRep, vrB]
  cases hin : inB v.mem (l.getD i rpt0).mem
  · simp
  · have hp := in_pos hv hin
    have e : (decide (0 < (i : Int)) && decide ((l.getD i rpt0).mem ≤ (l.getD (i - 1) rpt0).mem)) = decide ((l.getD i rpt0).mem ≤ prevM l i) := by
      cases i with
      | zero => simp [prevM]; simp at hp; omega
      | succ j =>
        have hj : j < l.length := by omega
        simp [prevM, hj, hi]
    rw [e]
    cases decide ((l.getD i rpt0).mem ≤ prevM l i) <;> simp
set_option maxRecDepth 100000 in
theorem c_ref9_ValidReports (v : View) (hv : v.mem.length ≤ 500000) (l : List Rpt) (hl : l.length ≤ maxLen) (hc : ∀ r ∈ l, r.cut.length ≤ 500000) : Ret Tryz.prog 84 [.agg (viewE v), .lst 3 (l.map rptE) false] (.v (.bool (repsB v l))) := by
  have hl' : l.length ≤ 9223372036854775807 := hl
  have h1 : v.mem.length ≤ maxLen := Nat.le_trans hv (by decide)
  refine ret_of_body (fn := Tryz.f84) (c := Tryz.f84.body.getD .skip) hm hT (by kernel_rfl) Tryz.func84 (by kernel_rfl) (by kernel_rfl) (by kernel_rfl) (by kernel_rfl) ?_
  repeat' ((conv => whnf); first | refine And.intro (fun h => h) ?_ | refine dcond_t (by assumption) ?_ | refine dcond_f (by assumption) ?_ | (refine dcond_intro ?_ ?_ <;> intro h) | exact .refl | refine And.intro (by kernel_rfl) ?_ | refine And.intro ⟨fun h => h, fun h => h⟩ ?_ | refine .inl ⟨_, _, DleAll_refl _, c_ref3_Valid _ h1, ?_⟩ | refine ⟨_, _, DleAll_refl _, fun _ => c_ref3_Valid _ h1, ?_⟩ | refine ⟨_, _, DleAll_refl _, c_ref3_Valid _ h1, ?_⟩ | refine Exists.intro false ?_ | (refine And.intro ?_ ?_; focus (simp; done)) | fail)
  · refine dle_bool ?_
    have h : viewB v = false := by simpa using h
    simp [repsB, h]
  · have hvw : viewB v = true := by simpa using h
    clear h
    conv => whnf
    refine ⟨Nat, fun i => ⟨[(1, .lst 3 (l.map rptE) false), (2, .lp 0 0), (5, i64 i)], [.cells 24 (viewE v)]⟩, fun i => i ≤ l.length ∧ ∀ j, j < i → okRep v l j = true, fun i => l.length - i, [], ⟨0, ⟨Nat.zero_le _, by omega⟩, ?_⟩, ?_⟩
    · exact ⟨by repeat' ((conv => whnf); first | exact trivial | refine And.intro (by (conv => arg 1; whnf); first | (with_reducible exact .refl) | exact dle_int (wrap_succ (by omega)) | exact .refl) ?_), by repeat' ((conv => whnf); first | exact trivial | refine And.intro ?_ ?_ | exact .refl), rfl⟩
    · intro i ⟨hi, hall⟩
      repeat' ((conv => whnf); first | refine And.intro (fun h => h) ?_ | refine dcond_t (by assumption) ?_ | refine dcond_f (by assumption) ?_ | (refine dcond_intro ?_ ?_ <;> intro h) | exact .refl | refine And.intro (by kernel_rfl) ?_ | refine And.intro ⟨fun h => h, fun h => h⟩ ?_ | refine Exists.intro false ?_ | (refine And.intro ?_ ?_; focus (simp; done)) | fail)
      · have hlt : i < l.length := by simpa using h
        clear h
        have hg : l.getD i rpt0 = l[i] := by simp [hlt]
        have e52 := c_ref9_ValidReport v hv (l[i]) (hc _ (List.getElem_mem hlt))
        have hok := ok_ref hvw l hlt
        simp only [okRef, hg] at hok
        generalize vrB v (l[i]) = vb at e52 hok
        have hp : 0 < i → (IntKind.i64.wrap ((i : Int) - 1)) = ((i - 1 : Nat) : Int) ∧ (l.map rptE)[i - 1]? = some (rptE (l.getD (i - 1) rpt0)) := by
          intro h0
          refine ⟨by rw [wrap_i64 (by omega) (by omega)]; omega, ?_⟩
          have : i - 1 < l.length := by omega
          simp [this]
        repeat' ((conv => whnf); first | refine And.intro (fun h => h) ?_ | refine dcond_t (by assumption) ?_ | refine dcond_f (by assumption) ?_ | (refine dcond_intro ?_ ?_ <;> intro h) | exact .refl | refine And.intro (by kernel_rfl) ?_ | refine And.intro ⟨fun h => h, fun h => h⟩ ?_ | refine ⟨_, _, And.intro ⟨rfl, get_map hlt⟩ ?_⟩ | refine .inl ⟨_, _, DleAll_refl _, e52, ?_⟩ | refine ⟨_, _, DleAll_refl _, fun _ => e52, ?_⟩ | refine ⟨_, _, DleAll_refl _, e52, ?_⟩ | refine ⟨i, rptE (l[i]'hlt), And.intro ⟨⟨fun h => h, fun h => h⟩, fun hg => ⟨rfl, get_map hlt⟩⟩ ?_⟩ | refine ⟨i - 1, rptE (l.getD (i - 1) rpt0), And.intro ⟨⟨fun h => h, fun h => h⟩, fun hg => hp (by have := ((Bool.and_eq_true ..).mp hg).2 <;> simpa using this)⟩ ?_⟩ | refine Exists.intro false ?_ | (refine And.intro ?_ ?_; focus (simp; done)) | fail)
        all_goals (conv => whnf)
        · refine dle_bool ?_
          have : okRep v l i = false := by rw [← hok, h]; rfl
          rw [repsB, allB_false hlt this, Bool.and_false]
        · refine ⟨i + 1, ⟨hlt, fun j hj => ?_⟩, by simp only []; omega, ?_⟩
          · rcases Nat.lt_succ_iff_lt_or_eq.1 hj with hj | rfl
            · exact hall j hj
            · rw [← hok, h]; rfl
          · exact ⟨by repeat' ((conv => whnf); first | exact trivial | refine And.intro (by (conv => arg 1; whnf); first | (with_reducible exact .refl) | exact dle_int (wrap_succ (by omega)) | exact .refl) ?_), by repeat' ((conv => whnf); first | exact trivial | refine And.intro ?_ ?_ | exact .refl), rfl⟩
      · have hge : ¬ i < l.length := by simpa using h
        conv => whnf
        refine dle_bool ?_
        rw [repsB, hvw, allB_true.2 (fun j hj => hall j (by omega))]
        rfl
def putL (l : List Rpt) (r : Rpt) (i : Nat) : List Rpt := bif decide (frontN l r.mem < i) then l.take (frontN l r.mem) ++ [r] ++ (l.take i).drop (frontN l r.mem) else l.take i
theorem put_len (l : List Rpt) (r : Rpt) (i : Nat) : (putL l r i).length ≤ i + 1 := by
  have := frontN_le l r.mem
  unfold putL
  cases h : decide (frontN l r.mem < i) <;> simp at h <;> simp <;> omega
theorem front_ge {m : Int} : ∀ {l : List Rpt} (h : frontN l m < l.length), m ≤ l[frontN l m].mem
  | r :: l, h => by
    by_cases hr : r.mem < m
    · have e : frontN (r :: l) m = frontN l m + 1 := by simp [frontN, hr]
      have h2 : frontN l m < l.length := by rw [e] at h; simpa using h
      have := front_ge h2
      simp only [e]
      simpa using this
    · have e : frontN (r :: l) m = 0 := by simp [frontN, hr]
      simp only [e]
      simpa using hr
theorem put_now {l : List Rpt} {r : Rpt} {i : Nat} (hi : i < l.length) (h : (!decide (frontN l r.mem < i) && decide (r.mem ≤ l[i].mem)) = true) : frontN l r.mem = i := by
  simp only [Bool.and_eq_true, Bool.not_eq_true', decide_eq_false_iff_not, decide_eq_true_eq] at h
  rcases Nat.lt_or_ge i (frontN l r.mem) with h1 | h1
  · have := frontN_lt h1 hi
    omega
  · omega
theorem put_not {l : List Rpt} {r : Rpt} {i : Nat} (hi : i < l.length) (h : (!decide (frontN l r.mem < i) && decide (r.mem ≤ l[i].mem)) = false) : frontN l r.mem ≠ i := by
  intro e
  have h1 := front_ge (l := l) (m := r.mem) (by omega)
  simp only [Bool.and_eq_false_iff, Bool.not_eq_false', decide_eq_false_iff_not, decide_eq_true_eq] at h
  rcases h with h | h
  · omega
  · subst e; exact h h1
theorem put_step1 {l : List Rpt} {r : Rpt} {i : Nat} (hi : i < l.length) (h : frontN l r.mem = i) : putL l r i ++ [r] ++ [l[i]] = putL l r (i + 1) := by
  have e1 : decide (frontN l r.mem < i) = false := by simp; omega
  have e2 : decide (frontN l r.mem < i + 1) = true := by simp; omega
  simp only [putL, e1, e2, cond_true, cond_false, h]
  rw [List.take_succ_eq_append_getElem hi, List.drop_append_of_le_length (by simp; omega)]
  simp
theorem put_step2 {l : List Rpt} {r : Rpt} {i : Nat} (hi : i < l.length) (h : frontN l r.mem ≠ i) : putL l r i ++ [l[i]] = putL l r (i + 1) := by
  rcases Nat.lt_or_ge (frontN l r.mem) i with h1 | h1
  · have e1 : decide (frontN l r.mem < i) = true := by simp; omega
    have e2 : decide (frontN l r.mem < i + 1) = true := by simp; omega
    simp only [putL, e1, e2, cond_true]
    rw [List.take_succ_eq_append_getElem hi, List.drop_append_of_le_length (by simp; omega)]
    simp
  · have e1 : decide (frontN l r.mem < i) = false := by simp; omega
    have e2 : decide (frontN l r.mem < i + 1) = false := by simp; omega
    simp only [putL, e1, e2, cond_false]
    rw [List.take_succ_eq_append_getElem hi]
theorem put_end1 {l : List Rpt} {r : Rpt} (h : decide (frontN l r.mem < l.length) = true) : putL l r l.length = insR l r := by
  simp only [putL, h, cond_true, insR, List.take_length]
theorem put_end2 {l : List Rpt} {r : Rpt} (h : decide (frontN l r.mem < l.length) = false) : putL l r l.length ++ [r] = insR l r := by
  have := frontN_le l r.mem
  have e : frontN l r.mem = l.length := by simp at h; omega
  simp only [putL, h, cond_false, insR]
  simp [e]
theorem put_flag {l : List Rpt} {r : Rpt} {i : Nat} (h : frontN l r.mem ≠ i) : decide (frontN l r.mem < i) = decide (frontN l r.mem < i + 1) := by
  by_cases h1 : frontN l r.mem < i
  · have h2 : frontN l r.mem < i + 1 := by omega
    simp [h1, h2]
  · have h2 : ¬ frontN l r.mem < i + 1 := by omega
    simp [h1, h2]
set_option maxRecDepth 100000 in
theorem c_ref9_Put (l : List Rpt) (hl : l.length ≤ 400000) (r : Rpt) (hn : ∀ x ∈ l, x.mem ≠ r.mem) : Ret Tryz.prog 98 [.lst 3 (l.map rptE) false, .agg (rptE r)] (.lst 3 ((insR l r).map rptE) false) := by
  refine ret_of_body (fn := Tryz.f98) (c := Tryz.f98.body.getD .skip) hm hT (by kernel_rfl) Tryz.func98 (by kernel_rfl) (by kernel_rfl) (by kernel_rfl) (by kernel_rfl) ?_
  repeat' ((conv => whnf); first | refine And.intro (fun h => h) ?_ | refine dcond_t (by assumption) ?_ | refine dcond_f (by assumption) ?_ | (refine dcond_intro ?_ ?_ <;> intro h) | exact .refl | refine And.intro (by kernel_rfl) ?_ | refine And.intro ⟨fun h => h, fun h => h⟩ ?_ | refine Exists.intro false ?_ | (refine And.intro ?_ ?_; focus (simp; done)) | fail)
  refine ⟨Nat, fun i => ⟨[(0, .lst 3 (l.map rptE) false), (3, .lp 0 0), (5, .own 1), (6, .v (.bool (decide (frontN l r.mem < i)))), (7, i64 i)], [.cells 51 (rptE r), .row 51 3 ((putL l r i).map rptE)]⟩, fun i => i ≤ l.length, fun i => l.length - i, [.slot 5 51 3], ⟨0, Nat.zero_le _, ?_⟩, ?_⟩
  · conv => whnf
    exact ⟨by repeat' ((conv => whnf); first | exact trivial | refine And.intro (by (conv => arg 1; whnf); first | (with_reducible exact .refl) | exact dle_int (wrap_succ (by omega)) | exact .refl) ?_), by repeat' ((conv => whnf); first | exact trivial | refine And.intro ?_ ?_ | exact .refl), rfl⟩
  · intro i hi
    have hpl := put_len l r i
    repeat' ((conv => whnf); first | refine And.intro (fun h => h) ?_ | refine dcond_t (by assumption) ?_ | refine dcond_f (by assumption) ?_ | (refine dcond_intro ?_ ?_ <;> intro h) | exact .refl | refine And.intro (by kernel_rfl) ?_ | refine And.intro ⟨fun h => h, fun h => h⟩ ?_ | refine Exists.intro false ?_ | (refine And.intro ?_ ?_; focus (simp; done)) | fail)
    · have hlt : i < l.length := by simpa using h
      clear h
      have hne := hn _ (List.getElem_mem hlt)
      repeat' ((conv => whnf); first | refine And.intro (fun h => h) ?_ | refine dcond_t (by assumption) ?_ | refine dcond_f (by assumption) ?_ | (refine dcond_intro ?_ ?_ <;> intro h) | exact .refl | refine And.intro (by kernel_rfl) ?_ | refine And.intro ⟨fun h => h, fun h => h⟩ ?_ | refine ⟨_, _, And.intro ⟨rfl, get_map hlt⟩ ?_⟩ | refine ⟨i, rptE (l[i]'hlt), And.intro ⟨⟨fun h => h, fun h => h⟩, fun hg => ⟨rfl, get_map hlt⟩⟩ ?_⟩ | refine Exists.intro false ?_ | (refine And.intro ?_ ?_; focus (simp; done)) | fail)
      all_goals (conv => whnf)
      · have e := put_now hlt h
        have hflag : decide (frontN l r.mem < i + 1) = true := by simp; omega
        refine And.intro (fitsR (by simp; omega)) ?_
        repeat' ((conv => whnf); first | refine And.intro (fun h => h) ?_ | refine dcond_t (by assumption) ?_ | refine dcond_f (by assumption) ?_ | (refine dcond_intro ?_ ?_ <;> intro h) | exact .refl | refine And.intro (by kernel_rfl) ?_ | refine And.intro ⟨fun h => h, fun h => h⟩ ?_ | refine ⟨_, _, And.intro ⟨rfl, get_map hlt⟩ ?_⟩ | refine Exists.intro false ?_ | (refine And.intro ?_ ?_; focus (simp; done)) | fail)
        all_goals (conv => whnf)
        · refine And.intro (fitsR (by simp; omega)) ?_
          repeat' ((conv => whnf); first | refine And.intro (fun h => h) ?_ | refine dcond_t (by assumption) ?_ | refine dcond_f (by assumption) ?_ | (refine dcond_intro ?_ ?_ <;> intro h) | exact .refl | refine And.intro (by kernel_rfl) ?_ | refine And.intro ⟨fun h => h, fun h => h⟩ ?_ | refine Exists.intro false ?_ | (refine And.intro ?_ ?_; focus (simp; done)) | fail)
          all_goals (conv => whnf)
          refine ⟨i + 1, hlt, by simp only []; omega, ?_⟩
          refine ⟨⟨.refl, .refl, .refl, dle_bool hflag.symm, dle_int (wrap_succ (by omega)), trivial⟩, ⟨.refl, ole_row ?_, trivial⟩, rfl⟩
          rw [← put_step1 hlt e]
          simp [rptE, dcells]
        · exact absurd (by simpa using h) hne
      · rename_i h0
        have e := put_not hlt h0
        refine And.intro (fitsR (by simp; omega)) ?_
        repeat' ((conv => whnf); first | refine And.intro (fun h => h) ?_ | refine dcond_t (by assumption) ?_ | refine dcond_f (by assumption) ?_ | (refine dcond_intro ?_ ?_ <;> intro h) | exact .refl | refine And.intro (by kernel_rfl) ?_ | refine And.intro ⟨fun h => h, fun h => h⟩ ?_ | refine Exists.intro false ?_ | (refine And.intro ?_ ?_; focus (simp; done)) | fail)
        all_goals (conv => whnf)
        refine ⟨i + 1, hlt, by simp only []; omega, ?_⟩
        refine ⟨⟨.refl, .refl, .refl, dle_bool (put_flag e), dle_int (wrap_succ (by omega)), trivial⟩, ⟨.refl, ole_row ?_, trivial⟩, rfl⟩
        rw [← put_step2 hlt e]
        simp [rptE, dcells]
      · exact absurd (by simpa using h) hne
    · rename_i hge0
      have hge : ¬ i < l.length := by simpa using hge0
      have : i = l.length := by omega
      subst this
      clear hge0
      have h : decide (frontN l r.mem < l.length) = false := by simpa using h
      conv => whnf
      refine And.intro (fitsR (by simp; omega)) ?_
      repeat' ((conv => whnf); first | refine And.intro (fun h => h) ?_ | refine dcond_t (by assumption) ?_ | refine dcond_f (by assumption) ?_ | (refine dcond_intro ?_ ?_ <;> intro h) | exact .refl | refine And.intro (by kernel_rfl) ?_ | refine And.intro ⟨fun h => h, fun h => h⟩ ?_ | refine Exists.intro false ?_ | (refine And.intro ?_ ?_; focus (simp; done)) | fail)
      all_goals (conv => whnf)
      refine dle_lst ?_
      rw [← put_end2 h]
      simp [rptE, dcells]
    · rename_i hge0
      have hge : ¬ i < l.length := by simpa using hge0
      have : i = l.length := by omega
      subst this
      clear hge0
      have h : decide (frontN l r.mem < l.length) = true := by simpa using h
      repeat' ((conv => whnf); first | refine And.intro (fun h => h) ?_ | refine dcond_t (by assumption) ?_ | refine dcond_f (by assumption) ?_ | (refine dcond_intro ?_ ?_ <;> intro h) | exact .refl | refine And.intro (by kernel_rfl) ?_ | refine And.intro ⟨fun h => h, fun h => h⟩ ?_ | refine Exists.intro false ?_ | (refine And.intro ?_ ?_; focus (simp; done)) | fail)
      all_goals (conv => whnf)
      refine dle_lst ?_
      rw [← put_end1 h]
def addRef (v : View) (l : List Rpt) (r : Rpt) : List Rpt × Bool :=
  bif !repsB v l then ([], false) else bif !vrB v r || decide (0 ≤ ofB l r.mem) then (l, false) else (insR l r, true)
theorem c_ref9_AddReport (v : View) (hv : v.mem.length ≤ 400000) (l : List Rpt) (hl : l.length ≤ 400000) (hc : ∀ r ∈ l, r.cut.length ≤ 400000) (r : Rpt) (hr : r.cut.length ≤ 400000) :
    Ret Tryz.prog 40 [.agg (viewE v), .lst 3 (l.map rptE) false, .agg (rptE r)] (.tup [.lst 3 ((addRef v l r).1.map rptE) false, .v (.bool (addRef v l r).2)]) := by
  have hlm : l.length ≤ maxLen := Nat.le_trans hl (by decide)
  have e34 := c_ref9_ValidReports v (Nat.le_trans hv (by omega)) l hlm (fun x hx => Nat.le_trans (hc x hx) (by omega))
  have e52 := c_ref9_ValidReport v (Nat.le_trans hv (by omega)) r (by omega)
  have e53 := c_ref9_Of l hlm r.mem
  have e54 : decide (0 ≤ ofB l r.mem) = false → Ret Tryz.prog 98 [.lst 3 (l.map rptE) false, .agg (rptE r)] (.lst 3 ((insR l r).map rptE) false) := fun h => c_ref9_Put l hl r (of_neg h)
  unfold addRef
  generalize repsB v l = b1 at e34
  generalize vrB v r = b2 at e52
  generalize ofB l r.mem = n at e53 e54
  refine ret_of_body (fn := Tryz.f40) (c := Tryz.f40.body.getD .skip) hm hT (by kernel_rfl) Tryz.func40 (by kernel_rfl) (by kernel_rfl) (by kernel_rfl) (by kernel_rfl) ?_
  repeat' ((conv => whnf); first | refine And.intro (fun h => h) ?_ | refine dcond_t (by assumption) ?_ | refine dcond_f (by assumption) ?_ | (refine dcond_intro ?_ ?_ <;> intro h) | exact .refl | refine And.intro (by kernel_rfl) ?_ | refine And.intro ⟨fun h => h, fun h => h⟩ ?_ | refine .inl ⟨_, _, DleAll_refl _, e34, ?_⟩ | refine ⟨_, _, DleAll_refl _, fun _ => e34, ?_⟩ | refine ⟨_, _, DleAll_refl _, e34, ?_⟩ | refine .inl ⟨_, _, DleAll_refl _, e52, ?_⟩ | refine ⟨_, _, DleAll_refl _, fun _ => e52, ?_⟩ | refine ⟨_, _, DleAll_refl _, e52, ?_⟩ | refine .inl ⟨_, _, DleAll_refl _, e53, ?_⟩ | refine ⟨_, _, DleAll_refl _, fun _ => e53, ?_⟩ | refine ⟨_, _, DleAll_refl _, e53, ?_⟩ | refine .inl ⟨_, _, DleAll_refl _, e54 (by simp_all), ?_⟩ | refine ⟨_, _, DleAll_refl _, fun _ => e54 (by simp_all), ?_⟩ | refine ⟨_, _, DleAll_refl _, e54 (by simp_all), ?_⟩ | refine Exists.intro false ?_ | (refine And.intro ?_ ?_; focus (simp; done)) | fail)
  all_goals (conv => whnf)
  all_goals simp only [*, cond_true, cond_false]
  · exact dle_tupA ⟨.nl, .refl, trivial⟩
  · exact .refl
  · exact .refl
theorem reps_iff {v : View} (hv : viewB v = true) {l : List Rpt} : repsB v l = true ↔ (∀ r ∈ l, vrB v r = true) ∧ List.Pairwise (fun a b : Rpt => a.mem < b.mem) l := by
  have e : repsB v l = allB (okRef v l) l.length := by
    rw [repsB, hv, Bool.true_and]
    cases h : allB (okRef v l) l.length
    · cases h2 : allB (okRep v l) l.length
      · rfl
      · have := allB_true.2 (fun i hi => (ok_ref hv l hi).trans (allB_true.1 h2 i hi))
        rw [h] at this
        cases this
    · exact allB_true.2 (fun i hi => (ok_ref hv l hi).symm.trans (allB_true.1 h i hi))
  rw [e, allB_true]
  have hok : ∀ i (hi : i < l.length), okRef v l i = true ↔ vrB v l[i] = true ∧ (0 < i → (l.getD (i - 1) rpt0).mem < l[i].mem) := by
    intro i hi
    have hg : l.getD i rpt0 = l[i] := by simp [hi]
    simp only [okRef, hg, Bool.not_eq_true', Bool.or_eq_false_iff, Bool.not_eq_false', Bool.and_eq_false_iff, decide_eq_false_iff_not]
    constructor
    · rintro ⟨h1, h2⟩
      refine ⟨h1, fun h0 => ?_⟩
      rcases h2 with h2 | h2
      · omega
      · omega
    · rintro ⟨h1, h2⟩
      refine ⟨h1, ?_⟩
      by_cases h0 : 0 < i
      · have := h2 h0
        right; omega
      · left; omega
  constructor
  · intro h
    have h1 : ∀ i (hi : i < l.length), vrB v l[i] = true ∧ (0 < i → (l.getD (i - 1) rpt0).mem < l[i].mem) := fun i hi => (hok i hi).1 (h i hi)
    refine ⟨fun r hr => ?_, ?_⟩
    · obtain ⟨i, hi, rfl⟩ := List.getElem_of_mem hr
      exact (h1 i hi).1
    · rw [List.pairwise_iff_getElem]
      intro i j hi hj hij
      obtain ⟨d, rfl⟩ : ∃ d, j = i + 1 + d := ⟨j - (i + 1), by omega⟩
      clear hij
      induction d with
      | zero =>
        have := (h1 (i + 1) hj).2 (by omega)
        simpa [hi] using this
      | succ d ih =>
        have hj2 : i + 1 + d < l.length := by omega
        have k1 := ih hj2
        have k2 := (h1 (i + 1 + (d + 1)) hj).2 (by omega)
        have e2 : l.getD (i + 1 + (d + 1) - 1) rpt0 = l[i + 1 + d] := by
          have : i + 1 + (d + 1) - 1 = i + 1 + d := by omega
          rw [this]; simp [hj2]
        rw [e2] at k2
        omega
  · rintro ⟨h1, h2⟩ i hi
    refine (hok i hi).2 ⟨h1 _ (List.getElem_mem hi), fun h0 => ?_⟩
    have hi2 : i - 1 < l.length := by omega
    have := List.pairwise_iff_getElem.1 h2 (i - 1) i hi2 hi (by omega)
    simpa [hi2] using this
theorem ins_pair {l : List Rpt} {r : Rpt} (hp : List.Pairwise (fun a b : Rpt => a.mem < b.mem) l) : List.Pairwise (fun a b : Rpt => a.mem < b.mem) (insR l r) ↔ ∀ x ∈ l, x.mem ≠ r.mem := by
  induction l with
  | nil => simp [insR]
  | cons y l ih =>
    rw [List.pairwise_cons] at hp
    by_cases hy : y.mem < r.mem
    · have e : insR (y :: l) r = y :: insR l r := by simp [insR, frontN, hy]
      have hm : ∀ z, z ∈ insR l r ↔ z = r ∨ z ∈ l := fun z => by
        constructor
        · exact insR_mem
        · intro h
          simp only [insR, List.mem_append, List.mem_singleton]
          rcases h with rfl | h
          · exact .inl (.inr rfl)
          · rw [← List.take_append_drop (frontN l r.mem) l, List.mem_append] at h
            rcases h with h | h
            · exact .inl (.inl h)
            · exact .inr h
      rw [e, List.pairwise_cons, ih hp.2]
      constructor
      · rintro ⟨h1, h2⟩ x hx
        rcases List.mem_cons.1 hx with rfl | hx
        · omega
        · exact h2 x hx
      · intro h
        refine ⟨fun z hz => ?_, fun x hx => h x (List.mem_cons_of_mem _ hx)⟩
        rcases (hm z).1 hz with rfl | hz
        · exact hy
        · exact hp.1 z hz
    · have e : insR (y :: l) r = r :: y :: l := by simp [insR, frontN, hy]
      rw [e, List.pairwise_cons]
      constructor
      · rintro ⟨h1, h2⟩ x hx he
        have := h1 x hx
        omega
      · intro h
        refine ⟨fun z hz => ?_, List.pairwise_cons.2 hp⟩
        have h0 := h y (by simp)
        rcases List.mem_cons.1 hz with rfl | hz
        · omega
        · have := hp.1 z hz
          omega
theorem add_eq (v : View) (l : List Rpt) (r : Rpt) : addRef v l r = addR v l r := by
  unfold addRef addR
  cases hr : repsB v l
  · rfl
  · have hv : viewB v = true := by
      simp only [repsB, Bool.and_eq_true] at hr
      exact hr.1
    have hl := (reps_iff hv).1 hr
    have key : repsB v (insR l r) = true ↔ vrB v r = true ∧ ∀ x ∈ l, x.mem ≠ r.mem := by
      rw [reps_iff hv, ins_pair hl.2]
      constructor
      · rintro ⟨h1, h2⟩
        refine ⟨h1 r ?_, h2⟩
        simp [insR]
      · rintro ⟨h1, h2⟩
        refine ⟨fun x hx => ?_, h2⟩
        rcases insR_mem hx with rfl | hx
        · exact h1
        · exact hl.1 x hx
    have e : (!vrB v r || decide (0 ≤ ofB l r.mem)) = !repsB v (insR l r) := by
      cases hk : repsB v (insR l r)
      · cases hb : (!vrB v r || decide (0 ≤ ofB l r.mem))
        · simp only [Bool.or_eq_false_iff, Bool.not_eq_false'] at hb
          have := key.2 ⟨hb.1, of_neg hb.2⟩
          rw [hk] at this
          cases this
        · rfl
      · have hk := key.1 hk
        rw [hk.1]
        cases hb : decide (0 ≤ ofB l r.mem)
        · rfl
        · obtain ⟨x, hx, he⟩ := of_pos hb
          exact absurd he (hk.2 x hx)
    rw [e]
theorem c_ref9_SameReports (l : List Rpt) (hl : l.length ≤ maxLen) (hc : ∀ r ∈ l, r.cut.length ≤ maxLen) : Ret Tryz.prog 54 [.lst 3 (l.map rptE) false, .lst 3 (l.map rptE) false] (.v (.bool true)) := by
  have hl' : l.length ≤ 9223372036854775807 := hl
  refine ret_of_body (fn := Tryz.f54) (c := Tryz.f54.body.getD .skip) hm hT (by kernel_rfl) Tryz.func54 (by kernel_rfl) (by kernel_rfl) (by kernel_rfl) (by kernel_rfl) ?_
  repeat' ((conv => whnf); first | refine And.intro (fun h => h) ?_ | refine dcond_t (by assumption) ?_ | refine dcond_f (by assumption) ?_ | (refine dcond_intro ?_ ?_ <;> intro h) | exact .refl | refine And.intro (by kernel_rfl) ?_ | refine And.intro ⟨fun h => h, fun h => h⟩ ?_ | refine Exists.intro false ?_ | (refine And.intro ?_ ?_; focus (simp; done)) | fail)
  · exfalso
    simp at h
  · refine ⟨Nat, fun i => ⟨[(0, .lst 3 (l.map rptE) false), (1, .lst 3 (l.map rptE) false), (5, i64 i)], []⟩, fun i => i ≤ l.length, fun i => l.length - i, [], ⟨0, Nat.zero_le _, ?_⟩, ?_⟩
    · exact ⟨by repeat' ((conv => whnf); first | exact trivial | refine And.intro (by (conv => arg 1; whnf); first | (with_reducible exact .refl) | exact dle_int (wrap_succ (by omega)) | exact .refl) ?_), by repeat' ((conv => whnf); first | exact trivial | refine And.intro ?_ ?_ | exact .refl), rfl⟩
    · intro i hi
      repeat' ((conv => whnf); first | refine And.intro (fun h => h) ?_ | refine dcond_t (by assumption) ?_ | refine dcond_f (by assumption) ?_ | (refine dcond_intro ?_ ?_ <;> intro h) | exact .refl | refine And.intro (by kernel_rfl) ?_ | refine And.intro ⟨fun h => h, fun h => h⟩ ?_ | refine Exists.intro false ?_ | (refine And.intro ?_ ?_; focus (simp; done)) | fail)
      · have hlt : i < l.length := by simpa using h
        clear h
        have e := c_ref1_SameInts (l[i].cut) (l[i].cut) (hc _ (List.getElem_mem hlt))
        rw [sameI_refl] at e
        repeat' ((conv => whnf); first | refine And.intro (fun h => h) ?_ | refine dcond_t (by assumption) ?_ | refine dcond_f (by assumption) ?_ | (refine dcond_intro ?_ ?_ <;> intro h) | exact .refl | refine And.intro (by kernel_rfl) ?_ | refine And.intro ⟨fun h => h, fun h => h⟩ ?_ | refine ⟨_, _, And.intro ⟨rfl, get_map hlt⟩ ?_⟩ | refine .inl ⟨_, _, DleAll_refl _, e, ?_⟩ | refine ⟨_, _, DleAll_refl _, fun _ => e, ?_⟩ | refine ⟨_, _, DleAll_refl _, e, ?_⟩ | refine ⟨i, rptE (l[i]'hlt), And.intro ⟨⟨fun h => h, fun h => h⟩, fun hg => ⟨rfl, get_map hlt⟩⟩ ?_⟩ | refine Exists.intro false ?_ | (refine And.intro ?_ ?_; focus (simp; done)) | fail)
        all_goals (conv => whnf)
        · exfalso
          simp at h
        · refine ⟨i + 1, hlt, by simp only []; omega, ?_⟩
          exact ⟨by repeat' ((conv => whnf); first | exact trivial | refine And.intro (by (conv => arg 1; whnf); first | (with_reducible exact .refl) | exact dle_int (wrap_succ (by omega)) | exact .refl) ?_), by repeat' ((conv => whnf); first | exact trivial | refine And.intro ?_ ?_ | exact .refl), rfl⟩
def bestAt (l : List Rpt) : Nat → Int
  | 0 => -1
  | i + 1 => bif decide (0 < (l.getD (hiAt l (i + 1)) rpt0).rank) then ((hiAt l (i + 1) : Nat) : Int) else -1
theorem hi_succ (l : List Rpt) (i : Nat) : hiAt l (i + 1) = bif decide ((l.getD (hiAt l i) rpt0).rank < (l.getD i rpt0).rank) then i else hiAt l i := rfl
theorem best_cases (l : List Rpt) (i : Nat) : (bestAt l i = -1 ∧ (0 < i → (l.getD (hiAt l i) rpt0).rank ≤ 0)) ∨ (bestAt l i = ((hiAt l i : Nat) : Int) ∧ 0 < (l.getD (hiAt l i) rpt0).rank ∧ 0 < i) := by
  cases i with
  | zero => exact .inl ⟨rfl, fun h => absurd h (by omega)⟩
  | succ i =>
    simp only [bestAt]
    cases h : decide (0 < (l.getD (hiAt l (i + 1)) rpt0).rank)
    · refine .inl ⟨rfl, fun _ => ?_⟩
      simp only [decide_eq_false_iff_not] at h
      omega
    · refine .inr ⟨rfl, ?_, by omega⟩
      simpa using h
def bestQ (l : List Rpt) (i : Nat) : Bool := decide (0 < (l.getD i rpt0).rank) && (decide (bestAt l i < 0) || decide ((l.getD (hiAt l i) rpt0).rank < (l.getD i rpt0).rank))
theorem best_yes {l : List Rpt} {i : Nat} (h : bestQ l i = true) : bestAt l (i + 1) = (i : Int) := by
  simp only [bestQ, Bool.and_eq_true, Bool.or_eq_true, decide_eq_true_eq] at h
  obtain ⟨h1, h2⟩ := h
  have e : hiAt l (i + 1) = i := by
    rw [hi_succ]
    cases hd : decide ((l.getD (hiAt l i) rpt0).rank < (l.getD i rpt0).rank)
    · simp only [decide_eq_false_iff_not] at hd
      rcases best_cases l i with ⟨_, h3⟩ | ⟨h3, h4, h5⟩
      · cases i with
        | zero => rfl
        | succ i => have := h3 (by omega); omega
      · rcases h2 with h2 | h2
        · omega
        · exact absurd h2 hd
    · rfl
  simp only [bestAt, e]
  have : decide (0 < (l.getD i rpt0).rank) = true := by simpa using h1
  rw [this]; rfl
theorem best_no {l : List Rpt} {i : Nat} (h : bestQ l i = false) : bestAt l (i + 1) = bestAt l i := by
  simp only [bestQ, Bool.and_eq_false_iff, Bool.or_eq_false_iff, decide_eq_false_iff_not] at h
  rcases best_cases l i with ⟨h3, h4⟩ | ⟨h3, h4, h5⟩
  · rw [h3]
    have h1 : ¬ 0 < (l.getD i rpt0).rank := by
      rcases h with h | ⟨h, _⟩
      · exact h
      · omega
    have : (l.getD (hiAt l (i + 1)) rpt0).rank ≤ 0 := by
      rw [hi_succ]
      cases hd : decide ((l.getD (hiAt l i) rpt0).rank < (l.getD i rpt0).rank)
      · simp only [cond_false]
        simp only [decide_eq_false_iff_not] at hd
        cases i with
        | zero => simp only [hiAt] ; omega
        | succ i => exact h4 (by omega)
      · simp only [cond_true]; omega
    have hd : decide (0 < (l.getD (hiAt l (i + 1)) rpt0).rank) = false := decide_eq_false (by omega)
    simp only [bestAt, hd, cond_false]
  · have hn : ¬ (l.getD (hiAt l i) rpt0).rank < (l.getD i rpt0).rank := by
      rcases h with h | ⟨_, h⟩
      · omega
      · exact h
    have e : hiAt l (i + 1) = hiAt l i := by
      rw [hi_succ]
      have : decide ((l.getD (hiAt l i) rpt0).rank < (l.getD i rpt0).rank) = false := by simpa using hn
      rw [this]; rfl
    have hd : decide (0 < (l.getD (hiAt l i) rpt0).rank) = true := by simpa using h4
    rw [h3]
    simp only [bestAt, e, hd, cond_true]
theorem box_find (l : List Rpt) (p : Bal → Bool) : (boxOf l).find? p = (l.find? fun r => decide (r.rank = 0) && p ⟨r.mem, r.cut⟩).map fun r => ⟨r.mem, r.cut⟩ := by
  induction l with
  | nil => rfl
  | cons y l ih =>
    by_cases hy : y.rank = 0
    · have e : boxOf (y :: l) = ⟨y.mem, y.cut⟩ :: boxOf l := by simp [boxOf, hy]
      rw [e, List.find?_cons, List.find?_cons, ih]
      cases hp : p ⟨y.mem, y.cut⟩ <;> simp [hy]
    · have e : boxOf (y :: l) = boxOf l := by simp [boxOf, hy]
      rw [e, List.find?_cons, ih]
      simp [hy]
theorem vote_in {l : List Rpt} {cut : List Int} {j : Nat} (hj : j < l.length) (h : (decide (l[j].rank = 0) && sameI l[j].cut cut) = true) : votesN (boxOf (l.take (j + 1))) cut = votesN (boxOf (l.take j)) cut + 1 := by
  simp only [Bool.and_eq_true, decide_eq_true_eq] at h
  simp only [votesN, boxOf, List.take_succ_eq_append_getElem hj, List.filter_append, List.map_append, List.length_append]
  simp [h.1, h.2]
theorem vote_out {l : List Rpt} {cut : List Int} {j : Nat} (hj : j < l.length) (h : (decide (l[j].rank = 0) && sameI l[j].cut cut) = false) : votesN (boxOf (l.take (j + 1))) cut = votesN (boxOf (l.take j)) cut := by
  simp only [Bool.and_eq_false_iff, decide_eq_false_iff_not] at h
  simp only [votesN, boxOf, List.take_succ_eq_append_getElem hj, List.filter_append, List.map_append, List.length_append]
  by_cases h1 : l[j].rank = 0
  · rcases h with h | h
    · exact absurd h1 h
    · simp [h1, h]
  · simp [h1]
theorem vote_le (l : List Rpt) (cut : List Int) (j : Nat) : votesN (boxOf (l.take j)) cut ≤ j :=
  Nat.le_trans (List.length_filter_le _ _) (box_len l j)
def fastQ (v : View) (l : List Rpt) (r : Rpt) : Bool := decide (r.rank = 0) && decide (thrB v l ≤ (votesN (boxOf l) r.cut : Int))
theorem choose_fast {v : View} {l : List Rpt} {own : List Int} (h0 : gateB v l own = false) (h1 : decide (0 < (l.getD (hiAt l l.length) rpt0).rank) = false) {i : Nat} (hi : i < l.length) (h : fastQ v l l[i] = true) (hall : ∀ j (hj : j < l.length), j < i → fastQ v l l[j] = false) : chooseR v l own = (l[i].cut, true) := by
  have hf : (l.find? fun r => decide (r.rank = 0) && decide (thrB v l ≤ (votesN (boxOf l) r.cut : Int))) = some l[i] :=
    List.find?_eq_some_iff_getElem.2 ⟨h, i, hi, rfl, fun j hj => by
      have := hall j (by omega) hj
      simp only [fastQ] at this
      rw [this]; rfl⟩
  simp only [chooseR, h0, h1, cond_false, box_find, hf, Option.map_some]
theorem choose_own {v : View} {l : List Rpt} {own : List Int} (h0 : gateB v l own = false) (h1 : decide (0 < (l.getD (hiAt l l.length) rpt0).rank) = false) (hall : ∀ j (hj : j < l.length), fastQ v l l[j] = false) : chooseR v l own = (own, decide (0 < (own.length : Int))) := by
  have hf : (l.find? fun r => decide (r.rank = 0) && decide (thrB v l ≤ (votesN (boxOf l) r.cut : Int))) = none :=
    List.find?_eq_none.2 fun r hr => by
      obtain ⟨j, hj, rfl⟩ := List.getElem_of_mem hr
      have := hall j hj
      simp only [fastQ] at this
      simp [this]
  simp only [chooseR, h0, h1, cond_false, box_find, hf, Option.map_none]
  cases own with
  | nil => rfl
  | cons x l =>
    have e1 : decide (((x :: l).length : Int) = 0) = false := decide_eq_false (by simp only [List.length_cons]; omega)
    have e2 : decide (0 < ((x :: l).length : Int)) = true := decide_eq_true (by simp only [List.length_cons]; omega)
    rw [e1, e2]; rfl
theorem choose_hi {v : View} {l : List Rpt} {own : List Int} (h0 : gateB v l own = false) (h1 : decide (0 < (l.getD (hiAt l l.length) rpt0).rank) = true) : chooseR v l own = ((l.getD (hiAt l l.length) rpt0).cut, true) := by
  simp only [chooseR, h0, h1, cond_false, cond_true]
set_option maxRecDepth 100000 in
set_option maxHeartbeats 2000000 in
theorem c_ref9_Choose (v : View) (hv : v.mem.length ≤ 500000) (l : List Rpt) (hl : l.length ≤ 500000) (hc : ∀ r ∈ l, r.cut.length ≤ 500000) (own : List Int) (ho : own.length ≤ 500000) :
    Ret Tryz.prog 99 [.agg (viewE v), .lst 3 (l.map rptE) false, .lst 1 (own.map intE) false] (.tup [.lst 1 ((chooseR v l own).1.map intE) false, .v (.bool (chooseR v l own).2)]) := by
  have hl' : l.length ≤ maxLen := Nat.le_trans hl (by decide)
  have e34 := c_ref9_ValidReports v hv l hl' hc
  have e44 := c_ref3_Applicable v hv own ho
  have hgate : (!repsB v l || decide ((l.length : Int) < majB v.mem.length) || decide (0 < (own.length : Int)) && !decide ((nextR v own).2 = 0)) = gateB v l own := rfl
  have hchg : gateB v l own = true → chooseR v l own = ([], false) := fun h => by simp only [chooseR, h, cond_true]
  generalize repsB v l = b1 at e34 hgate
  generalize decide ((nextR v own).2 = 0) = b2 at e44 hgate
  refine ret_of_body (fn := Tryz.f99) (c := Tryz.f99.body.getD .skip) hm hT (by kernel_rfl) Tryz.func99 (by kernel_rfl) (by kernel_rfl) (by kernel_rfl) (by kernel_rfl) ?_
  repeat' ((conv => whnf); first | refine And.intro (fun h => h) ?_ | refine dcond_t (by assumption) ?_ | refine dcond_f (by assumption) ?_ | (refine dcond_intro ?_ ?_ <;> intro h) | exact .refl | refine And.intro (by kernel_rfl) ?_ | refine And.intro ⟨fun h => h, fun h => h⟩ ?_ | refine .inl ⟨_, _, DleAll_refl _, e34, ?_⟩ | refine ⟨_, _, DleAll_refl _, fun _ => e34, ?_⟩ | refine ⟨_, _, DleAll_refl _, e34, ?_⟩ | refine .inl ⟨_, _, DleAll_refl _, c_ref3_Majority _, ?_⟩ | refine ⟨_, _, DleAll_refl _, fun _ => c_ref3_Majority _, ?_⟩ | refine ⟨_, _, DleAll_refl _, c_ref3_Majority _, ?_⟩ | refine .inl ⟨_, _, DleAll_refl _, e44, ?_⟩ | refine ⟨_, _, DleAll_refl _, fun _ => e44, ?_⟩ | refine ⟨_, _, DleAll_refl _, e44, ?_⟩ | refine Exists.intro false ?_ | (refine And.intro ?_ ?_; focus (simp; done)) | fail)
  all_goals (conv => whnf)
  · have h : gateB v l own = true := by
      simp only [List.length_map] at h
      rw [← hgate]; exact h
    rw [hchg h]
    exact dle_tupA ⟨.nl, .refl, trivial⟩
  · have h0 : gateB v l own = false := by
      simp only [List.length_map] at h
      rw [← hgate]; exact h
    clear h
    refine ⟨Nat, fun i => ⟨[(1, .lst 3 (l.map rptE) false), (2, .lst 1 (own.map intE) false), (3, .lp 0 0), (8, i64 (bestAt l i)), (9, i64 i)], [.cells 24 (viewE v)]⟩, fun i => i ≤ l.length, fun i => l.length - i, [], ⟨0, Nat.zero_le _, ?_⟩, ?_⟩
    · exact ⟨by repeat' ((conv => whnf); first | exact trivial | refine And.intro (by (conv => arg 1; whnf); first | (with_reducible exact .refl) | exact dle_int (wrap_succ (by omega)) | exact .refl) ?_), by repeat' ((conv => whnf); first | exact trivial | refine And.intro ?_ ?_ | exact .refl), rfl⟩
    · intro i hi
      have hbc := best_cases l i
      have hby := @best_yes l i
      have hbn := @best_no l i
      have hq : bestQ l i = (decide (0 < (l.getD i rpt0).rank) && (decide (bestAt l i < 0) || decide ((l.getD (hiAt l i) rpt0).rank < (l.getD i rpt0).rank))) := rfl
      repeat' ((conv => whnf); first | refine And.intro (fun h => h) ?_ | refine dcond_t (by assumption) ?_ | refine dcond_f (by assumption) ?_ | (refine dcond_intro ?_ ?_ <;> intro h) | exact .refl | refine And.intro (by kernel_rfl) ?_ | refine And.intro ⟨fun h => h, fun h => h⟩ ?_ | refine Exists.intro false ?_ | (refine And.intro ?_ ?_; focus (simp; done)) | fail)
      · have hlt : i < l.length := by simpa using h
        clear h
        have hg : l.getD i rpt0 = l[i] := by simp [hlt]
        rw [hg] at hq
        have hhl : hiAt l i < l.length := Nat.lt_of_le_of_lt (hiAt_le l i) hlt
        have hb : ¬ bestAt l i < 0 → bestAt l i = ((hiAt l i : Nat) : Int) ∧ (l.map rptE)[hiAt l i]? = some (rptE (l.getD (hiAt l i) rpt0)) := fun hn => by
          refine ⟨?_, by simp [hhl]⟩
          rcases hbc with ⟨h3, _⟩ | ⟨h3, _⟩
          · omega
          · exact h3
        generalize bestAt l i = B at hb hq hbn
        generalize l.getD (hiAt l i) rpt0 = H at hb hq
        repeat' ((conv => whnf); first | refine And.intro (fun h => h) ?_ | refine dcond_t (by assumption) ?_ | refine dcond_f (by assumption) ?_ | (refine dcond_intro ?_ ?_ <;> intro h) | exact .refl | refine And.intro (by kernel_rfl) ?_ | refine And.intro ⟨fun h => h, fun h => h⟩ ?_ | refine ⟨_, _, And.intro ⟨rfl, get_map hlt⟩ ?_⟩ | refine ⟨i, rptE (l[i]'hlt), And.intro ⟨⟨fun h => h, fun h => h⟩, fun hg => ⟨rfl, get_map hlt⟩⟩ ?_⟩ | refine ⟨hiAt l i, rptE H, And.intro ⟨⟨fun h => h, fun h => h⟩, fun hg => hb (by have := ((Bool.and_eq_true ..).mp hg).2 <;> simpa using this)⟩ ?_⟩ | refine Exists.intro false ?_ | (refine And.intro ?_ ?_; focus (simp; done)) | fail)
        all_goals (conv => whnf)
        · refine ⟨i + 1, hlt, by simp only []; omega, ?_⟩
          refine ⟨⟨.refl, .refl, .refl, dle_int (hby (hq.trans h)).symm, dle_int (wrap_succ (by omega)), trivial⟩, ⟨.refl, trivial⟩, rfl⟩
        · refine ⟨i + 1, hlt, by simp only []; omega, ?_⟩
          refine ⟨⟨.refl, .refl, .refl, dle_int (hbn (hq.trans h)).symm, dle_int (wrap_succ (by omega)), trivial⟩, ⟨.refl, trivial⟩, rfl⟩
      · rename_i hx
        have hge : ¬ i < l.length := by simpa using hx
        have : i = l.length := by omega
        subst this
        clear hx hby hbn hq
        rcases hbc with ⟨h3, _⟩ | ⟨h3, h4, h5⟩
        · rw [h3] at h
          cases h
        · have hlt := hiAt_lt l h5
          have hg : l.getD (hiAt l l.length) rpt0 = l[hiAt l l.length] := by simp [hlt]
          have hch := choose_hi (own := own) h0 (by simpa using h4)
          rw [hg] at hch
          conv => whnf
          repeat' ((conv => whnf); first | refine And.intro (fun h => h) ?_ | refine dcond_t (by assumption) ?_ | refine dcond_f (by assumption) ?_ | (refine dcond_intro ?_ ?_ <;> intro h) | exact .refl | refine And.intro (by kernel_rfl) ?_ | refine And.intro ⟨fun h => h, fun h => h⟩ ?_ | refine ⟨hiAt l l.length, rptE (l[hiAt l l.length]'hlt), And.intro ⟨h3, get_map hlt⟩ ?_⟩ | refine Exists.intro false ?_ | (refine And.intro ?_ ?_; focus (simp; done)) | fail)
          all_goals (conv => whnf)
          rw [hch]
          exact .refl
      · rename_i hx
        have hge : ¬ i < l.length := by simpa using hx
        have : i = l.length := by omega
        subst this
        clear hx hby hbn hq
        have hpos := (gate_pos h0).1
        have h1 : decide (0 < (l.getD (hiAt l l.length) rpt0).rank) = false := by
          rcases hbc with ⟨h3, h4⟩ | ⟨h3, _⟩
          · exact decide_eq_false (by have := h4 hpos; omega)
          · rw [h3] at h
            simp at h
        clear h hbc
        have hfa := fun i (hi : i < l.length) => choose_fast (own := own) h0 h1 (i := i) hi
        have how := choose_own (own := own) h0 h1
        repeat' ((conv => whnf); first | refine And.intro (fun h => h) ?_ | refine dcond_t (by assumption) ?_ | refine dcond_f (by assumption) ?_ | (refine dcond_intro ?_ ?_ <;> intro h) | exact .refl | refine And.intro (by kernel_rfl) ?_ | refine And.intro ⟨fun h => h, fun h => h⟩ ?_ | refine .inl ⟨_, _, DleAll_refl _, c_ref3_FastQuorum _, ?_⟩ | refine ⟨_, _, DleAll_refl _, fun _ => c_ref3_FastQuorum _, ?_⟩ | refine ⟨_, _, DleAll_refl _, c_ref3_FastQuorum _, ?_⟩ | refine Exists.intro false ?_ | (refine And.intro ?_ ?_; focus (simp; done)) | fail)
        all_goals (conv => whnf)
        refine ⟨Nat, fun i => ⟨[(1, .lst 3 (l.map rptE) false), (2, .lst 1 (own.map intE) false), (10, i64 (thrB v l)), (11, i64 i)], [.cells 24 (viewE v)]⟩, fun i => i ≤ l.length ∧ ∀ j (hj : j < l.length), j < i → fastQ v l l[j] = false, fun i => l.length - i, [], ⟨0, ⟨Nat.zero_le _, by omega⟩, ?_⟩, ?_⟩
        · refine ⟨⟨.refl, .refl, dle_int (by simp [thrB]), .refl, trivial⟩, ⟨.refl, trivial⟩, rfl⟩
        · intro i ⟨hi, hall⟩
          repeat' ((conv => whnf); first | refine And.intro (fun h => h) ?_ | refine dcond_t (by assumption) ?_ | refine dcond_f (by assumption) ?_ | (refine dcond_intro ?_ ?_ <;> intro h) | exact .refl | refine And.intro (by kernel_rfl) ?_ | refine And.intro ⟨fun h => h, fun h => h⟩ ?_ | refine Exists.intro false ?_ | (refine And.intro ?_ ?_; focus (simp; done)) | fail)
          · have hlt : i < l.length := by simpa using h
            clear h
            conv => whnf
            refine ⟨Nat, fun j => ⟨[(1, .lst 3 (l.map rptE) false), (2, .lst 1 (own.map intE) false), (10, i64 (thrB v l)), (11, i64 i), (12, i64 (votesN (boxOf (l.take j)) (l[i]'hlt).cut)), (13, i64 j)], [.cells 24 (viewE v)]⟩, fun j => j ≤ l.length, fun j => l.length - j, [], ⟨0, Nat.zero_le _, ?_⟩, ?_⟩
            · refine ⟨⟨.refl, .refl, .refl, .refl, .refl, .refl, trivial⟩, ⟨.refl, trivial⟩, rfl⟩
            · intro j hj
              have hvl := vote_le l (l[i]).cut j
              repeat' ((conv => whnf); first | refine And.intro (fun h => h) ?_ | refine dcond_t (by assumption) ?_ | refine dcond_f (by assumption) ?_ | (refine dcond_intro ?_ ?_ <;> intro h) | exact .refl | refine And.intro (by kernel_rfl) ?_ | refine And.intro ⟨fun h => h, fun h => h⟩ ?_ | refine Exists.intro false ?_ | (refine And.intro ?_ ?_; focus (simp; done)) | fail)
              · have hlt2 : j < l.length := by simpa using h
                clear h
                have hvi := vote_in (cut := (l[i]).cut) hlt2
                have hvo := vote_out (cut := (l[i]).cut) hlt2
                have e := c_ref1_SameInts (l[j].cut) (l[i].cut) (Nat.le_trans (hc _ (List.getElem_mem hlt2)) (by decide))
                generalize sameI l[j].cut l[i].cut = sb at e hvi hvo
                generalize votesN (boxOf (l.take j)) (l[i]).cut = n at hvl hvi hvo
                repeat' ((conv => whnf); first | refine And.intro (fun h => h) ?_ | refine dcond_t (by assumption) ?_ | refine dcond_f (by assumption) ?_ | (refine dcond_intro ?_ ?_ <;> intro h) | exact .refl | refine And.intro (by kernel_rfl) ?_ | refine And.intro ⟨fun h => h, fun h => h⟩ ?_ | refine ⟨_, _, And.intro ⟨rfl, get_map hlt2⟩ ?_⟩ | refine .inl ⟨_, _, DleAll_refl _, e, ?_⟩ | refine ⟨_, _, DleAll_refl _, fun _ => e, ?_⟩ | refine ⟨_, _, DleAll_refl _, e, ?_⟩ | refine ⟨j, rptE (l[j]'hlt2), And.intro ⟨⟨fun h => h, fun h => h⟩, fun hg => ⟨rfl, get_map hlt2⟩⟩ ?_⟩ | refine ⟨i, rptE (l[i]'hlt), And.intro ⟨⟨fun h => h, fun h => h⟩, fun hg => ⟨rfl, get_map hlt⟩⟩ ?_⟩ | refine Exists.intro false ?_ | (refine And.intro ?_ ?_; focus (simp; done)) | fail)
                all_goals (conv => whnf)
                · refine ⟨j + 1, hlt2, by simp only []; omega, ?_⟩
                  refine ⟨⟨.refl, .refl, .refl, .refl, dle_int (by rw [hvi h, wrap_succ (i := n) (by omega)]), dle_int (wrap_succ (by omega)), trivial⟩, ⟨.refl, trivial⟩, rfl⟩
                · refine ⟨j + 1, hlt2, by simp only []; omega, ?_⟩
                  refine ⟨⟨.refl, .refl, .refl, .refl, dle_int (by rw [hvo h]), dle_int (wrap_succ (by omega)), trivial⟩, ⟨.refl, trivial⟩, rfl⟩
              · have hge : ¬ j < l.length := by simpa using h
                have : j = l.length := by omega
                subst this
                clear h
                rw [List.take_length]
                have hfi := hfa i hlt
                have hfq : fastQ v l l[i] = (decide ((l[i]).rank = 0) && decide (thrB v l ≤ (votesN (boxOf l) (l[i]).cut : Int))) := rfl
                generalize votesN (boxOf l) (l[i]).cut = n at hfq
                generalize thrB v l = T at hfq
                repeat' ((conv => whnf); first | refine And.intro (fun h => h) ?_ | refine dcond_t (by assumption) ?_ | refine dcond_f (by assumption) ?_ | (refine dcond_intro ?_ ?_ <;> intro h) | exact .refl | refine And.intro (by kernel_rfl) ?_ | refine And.intro ⟨fun h => h, fun h => h⟩ ?_ | refine ⟨_, _, And.intro ⟨rfl, get_map hlt⟩ ?_⟩ | refine Exists.intro false ?_ | (refine And.intro ?_ ?_; focus (simp; done)) | fail)
                all_goals (conv => whnf)
                · rw [hfi (hfq.trans h) hall]
                  exact .refl
                · refine ⟨i + 1, ⟨hlt, fun j hj hji => ?_⟩, by simp only []; omega, ?_⟩
                  · rcases Nat.lt_succ_iff_lt_or_eq.1 hji with hji | rfl
                    · exact hall j hj hji
                    · exact hfq.trans h
                  · exact ⟨⟨.refl, .refl, .refl, dle_int (wrap_succ (by omega)), trivial⟩, ⟨.refl, trivial⟩, rfl⟩
          · have hge : ¬ i < l.length := by simpa using h
            clear h
            conv => whnf
            rw [how fun j hj => hall j hj (by omega)]
            simp only [List.length_map]
            exact .refl
theorem dat_view {n : Nat} {r : List DV} (h : Dat tt (n + 3) 24 r) : ∃ a : View, r = viewE a ∧ a.mem.length ≤ maxLen := by
  obtain ⟨p, q, rfl, ⟨np, rfl, _⟩, l, s, rfl, hl, rfl⟩ := h
  obtain ⟨l, rfl, hll⟩ := dat_ints (n := n) hl
  exact ⟨⟨np, l⟩, rfl, hll⟩
theorem dat_rpt {n : Nat} {r : List DV} (h : Dat tt (n + 3) 51 r) : ∃ a : Rpt, r = rptE a ∧ a.cut.length ≤ maxLen := by
  obtain ⟨p, q, rfl, ⟨np, rfl, _⟩, p2, q2, rfl, ⟨nr, rfl, _⟩, l, s, rfl, hl, rfl⟩ := h
  obtain ⟨l, rfl, hll⟩ := dat_ints (n := n) hl
  exact ⟨⟨np, nr, l⟩, rfl, hll⟩
theorem dat_rpts {n : Nat} {r : List DV} (h : Dat tt (n + 4) 28 r) : ∃ l : List Rpt, r = [.lst 3 (l.map rptE) false] ∧ l.length ≤ maxLen ∧ ∀ x ∈ l, x.cut.length ≤ maxLen := by
  obtain ⟨es, rfl, hl, hes⟩ := h
  obtain ⟨d, rfl, hd⟩ := list_data (f := rptE) (Q := fun x => x.cut.length ≤ maxLen) (fun r hr => by
    obtain ⟨a, rfl, hh⟩ := dat_rpt (n := n) (hes r hr)
    exact ⟨a, rfl, hh⟩)
  exact ⟨d, rfl, by simpa using hl, hd⟩
end Go.Proofs.YtmbniilpgbjcfaaGreat

set_option maxRecDepth 100000
namespace Go.Proofs.YtmbniilpgbjcfaaGreat
open Go.Lift
structure Agr where
  self : Int
  view : View
  acc : Acc
  prop : List Int
  box : List Bal
  rank : Int
  phase : Int
  reps : List Rpt
  cho : List Int
  accs : List Rpt
  dec : List Int
  wait : Int
structure Msg where
  kind : Int
  view : Int
  src : Int
  rank : Int
  last : Int
  cut : List Int
structure Pkt where
  to : Int
  m : Msg
def agrE (s : Agr) : List DV := [i64 s.self, i64 s.view.num, .lst 1 (s.view.mem.map intE) false, i64 s.acc.pro, i64 s.acc.rank, .lst 1 (s.acc.cut.map intE) false, .lst 1 (s.prop.map intE) false, .lst 2 (s.box.map balE) false, i64 s.rank, i64 s.phase, .lst 3 (s.reps.map rptE) false, .lst 1 (s.cho.map intE) false, .lst 3 (s.accs.map rptE) false, .lst 1 (s.dec.map intE) false, i64 s.wait]
def msgE (m : Msg) : List DV := [i64 m.kind, i64 m.view, i64 m.src, i64 m.rank, i64 m.last, .lst 1 (m.cut.map intE) false]
def pktE (p : Pkt) : List DV := [i64 p.to, i64 p.m.kind, i64 p.m.view, i64 p.m.src, i64 p.m.rank, i64 p.m.last, .lst 1 (p.m.cut.map intE) false]
def appB (v : View) (c : List Int) : Bool := decide ((nextR v c).2 = 0)
def properB (v : View) (r : Int) : Bool := !decide (ownerOf r = 0) && inB v.mem (ownerOf r)
def goodB (v : View) (c : List Int) : Bool := decide ((c.length : Int) = 0) || appB v c
theorem c_agreement_proper (v : View) (hv : v.mem.length ≤ maxLen) (r : Int) : Ret Tryz.prog 60 [.agg (viewE v), i64 r] (.v (.bool (properB v r))) := by
  refine ret_of_body (fn := Tryz.f60) (c := Tryz.f60.body.getD .skip) hm hT (by kernel_rfl) Tryz.func60 (by kernel_rfl) (by kernel_rfl) (by kernel_rfl) (by kernel_rfl) ?_
  repeat' ((conv => whnf); first | refine And.intro (fun h => h) ?_ | refine dcond_t (by assumption) ?_ | refine dcond_f (by assumption) ?_ | (refine dcond_intro ?_ ?_ <;> intro h) | exact .refl | refine And.intro (by kernel_rfl) ?_ | refine And.intro ⟨fun h => h, fun h => h⟩ ?_ | refine .inl ⟨_, _, DleAll_refl _, c_paxos_Owner _, ?_⟩ | refine ⟨_, _, DleAll_refl _, fun _ => c_paxos_Owner _, ?_⟩ | refine ⟨_, _, DleAll_refl _, c_paxos_Owner _, ?_⟩ | refine .inl ⟨_, _, DleAll_refl _, c_view_Contains _ hv _, ?_⟩ | refine ⟨_, _, DleAll_refl _, fun _ => c_view_Contains _ hv _, ?_⟩ | refine ⟨_, _, DleAll_refl _, c_view_Contains _ hv _, ?_⟩ | refine Exists.intro false ?_ | (refine And.intro ?_ ?_; focus (simp; done)) | fail)
theorem c_ref10_Proper (v : View) (hv : v.mem.length ≤ maxLen) (r : Int) : Ret Tryz.prog 80 [.agg (viewE v), i64 r] (.v (.bool (properB v r))) := by
  have e := c_ref9_Owner r
  rw [ownerRef_eq] at e
  refine ret_of_body (fn := Tryz.f80) (c := Tryz.f80.body.getD .skip) hm hT (by kernel_rfl) Tryz.func80 (by kernel_rfl) (by kernel_rfl) (by kernel_rfl) (by kernel_rfl) ?_
  repeat' ((conv => whnf); first | refine And.intro (fun h => h) ?_ | refine dcond_t (by assumption) ?_ | refine dcond_f (by assumption) ?_ | (refine dcond_intro ?_ ?_ <;> intro h) | exact .refl | refine And.intro (by kernel_rfl) ?_ | refine And.intro ⟨fun h => h, fun h => h⟩ ?_ | refine .inl ⟨_, _, DleAll_refl _, e, ?_⟩ | refine ⟨_, _, DleAll_refl _, fun _ => e, ?_⟩ | refine ⟨_, _, DleAll_refl _, e, ?_⟩ | refine .inl ⟨_, _, DleAll_refl _, c_ref3_Contains _ hv _, ?_⟩ | refine ⟨_, _, DleAll_refl _, fun _ => c_ref3_Contains _ hv _, ?_⟩ | refine ⟨_, _, DleAll_refl _, c_ref3_Contains _ hv _, ?_⟩ | refine Exists.intro false ?_ | (refine And.intro ?_ ?_; focus (simp; done)) | fail)
theorem c_agreement_applicable (v : View) (hv : v.mem.length ≤ 500000) (cut : List Int) (hc : cut.length ≤ 500000) : Ret Tryz.prog 17 [.agg (viewE v), .lst 1 (cut.map intE) false] (.v (.bool (appB v cut))) := by
  refine ret_of_body (fn := Tryz.f17) (c := Tryz.f17.body.getD .skip) hm hT (by kernel_rfl) Tryz.func17 (by kernel_rfl) (by kernel_rfl) (by kernel_rfl) (by kernel_rfl) ?_
  repeat' ((conv => whnf); first | refine And.intro (fun h => h) ?_ | refine dcond_t (by assumption) ?_ | refine dcond_f (by assumption) ?_ | (refine dcond_intro ?_ ?_ <;> intro h) | exact .refl | refine And.intro (by kernel_rfl) ?_ | refine And.intro ⟨fun h => h, fun h => h⟩ ?_ | refine .inl ⟨_, _, DleAll_refl _, c_view_Next _ hv _ hc, ?_⟩ | refine ⟨_, _, DleAll_refl _, fun _ => c_view_Next _ hv _ hc, ?_⟩ | refine ⟨_, _, DleAll_refl _, c_view_Next _ hv _ hc, ?_⟩ | refine Exists.intro false ?_ | (refine And.intro ?_ ?_; focus (simp; done)) | fail)
theorem c_fastvote_applicable (v : View) (hv : v.mem.length ≤ 500000) (cut : List Int) (hc : cut.length ≤ 500000) : Ret Tryz.prog 72 [.agg (viewE v), .lst 1 (cut.map intE) false] (.v (.bool (appB v cut))) := by
  refine ret_of_body (fn := Tryz.f72) (c := Tryz.f72.body.getD .skip) hm hT (by kernel_rfl) Tryz.func72 (by kernel_rfl) (by kernel_rfl) (by kernel_rfl) (by kernel_rfl) ?_
  repeat' ((conv => whnf); first | refine And.intro (fun h => h) ?_ | refine dcond_t (by assumption) ?_ | refine dcond_f (by assumption) ?_ | (refine dcond_intro ?_ ?_ <;> intro h) | exact .refl | refine And.intro (by kernel_rfl) ?_ | refine And.intro ⟨fun h => h, fun h => h⟩ ?_ | refine .inl ⟨_, _, DleAll_refl _, c_view_Next _ hv _ hc, ?_⟩ | refine ⟨_, _, DleAll_refl _, fun _ => c_view_Next _ hv _ hc, ?_⟩ | refine ⟨_, _, DleAll_refl _, c_view_Next _ hv _ hc, ?_⟩ | refine Exists.intro false ?_ | (refine And.intro ?_ ?_; focus (simp; done)) | fail)
theorem c_agreement_optional (v : View) (hv : v.mem.length ≤ 500000) (cut : List Int) (hc : cut.length ≤ 500000) : Ret Tryz.prog 61 [.agg (viewE v), .lst 1 (cut.map intE) false] (.v (.bool (goodB v cut))) := by
  have e : goodB v cut = (decide (((cut.map intE).length : Int) = 0) || appB v cut) := by rw [List.length_map]; rfl
  rw [e]
  refine ret_of_body (fn := Tryz.f61) (c := Tryz.f61.body.getD .skip) hm hT (by kernel_rfl) Tryz.func61 (by kernel_rfl) (by kernel_rfl) (by kernel_rfl) (by kernel_rfl) ?_
  repeat' ((conv => whnf); first | refine And.intro (fun h => h) ?_ | refine dcond_t (by assumption) ?_ | refine dcond_f (by assumption) ?_ | (refine dcond_intro ?_ ?_ <;> intro h) | exact .refl | refine And.intro (by kernel_rfl) ?_ | refine And.intro ⟨fun h => h, fun h => h⟩ ?_ | refine .inl ⟨_, _, DleAll_refl _, c_agreement_applicable _ hv _ hc, ?_⟩ | refine ⟨_, _, DleAll_refl _, fun _ => c_agreement_applicable _ hv _ hc, ?_⟩ | refine ⟨_, _, DleAll_refl _, c_agreement_applicable _ hv _ hc, ?_⟩ | refine Exists.intro false ?_ | (refine And.intro ?_ ?_; focus (simp; done)) | fail)
theorem c_ref10_Good (v : View) (hv : v.mem.length ≤ 500000) (cut : List Int) (hc : cut.length ≤ 500000) : Ret Tryz.prog 81 [.agg (viewE v), .lst 1 (cut.map intE) false] (.v (.bool (goodB v cut))) := by
  have e : goodB v cut = (decide (((cut.map intE).length : Int) = 0) || appB v cut) := by rw [List.length_map]; rfl
  have ea : Ret Tryz.prog 25 [.agg (viewE v), .lst 1 (cut.map intE) false] (.v (.bool (appB v cut))) := c_ref3_Applicable _ hv _ hc
  rw [e]
  refine ret_of_body (fn := Tryz.f81) (c := Tryz.f81.body.getD .skip) hm hT (by kernel_rfl) Tryz.func81 (by kernel_rfl) (by kernel_rfl) (by kernel_rfl) (by kernel_rfl) ?_
  repeat' ((conv => whnf); first | refine And.intro (fun h => h) ?_ | refine dcond_t (by assumption) ?_ | refine dcond_f (by assumption) ?_ | (refine dcond_intro ?_ ?_ <;> intro h) | exact .refl | refine And.intro (by kernel_rfl) ?_ | refine And.intro ⟨fun h => h, fun h => h⟩ ?_ | refine .inl ⟨_, _, DleAll_refl _, ea, ?_⟩ | refine ⟨_, _, DleAll_refl _, fun _ => ea, ?_⟩ | refine ⟨_, _, DleAll_refl _, ea, ?_⟩ | refine Exists.intro false ?_ | (refine And.intro ?_ ?_; focus (simp; done)) | fail)
theorem c_agreement_clone (l : List Int) (hl : l.length ≤ 1000000) : Ret Tryz.prog 19 [.lst 1 (l.map intE) false] (.lst 1 (l.map intE) false) := by
  have hby : (l.map intE).length * (tinfo tt 3).bytes ≤ 140737488355328 := by
    have e : (tinfo tt 3).bytes = 8 := by kernel_rfl
    rw [e]; simp; omega
  have hmx : (l.map intE).length ≤ maxLen := by simp only [maxLen]; simp; omega
  refine ret_of_body (fn := Tryz.f19) (c := Tryz.f19.body.getD .skip) hm hT (by kernel_rfl) Tryz.func19 (by kernel_rfl) (by kernel_rfl) (by kernel_rfl) (by kernel_rfl) ?_
  repeat' ((conv => whnf); first | refine And.intro (fun h => h) ?_ | refine dcond_t (by assumption) ?_ | refine dcond_f (by assumption) ?_ | (refine dcond_intro ?_ ?_ <;> intro h) | exact .refl | refine And.intro (by kernel_rfl) ?_ | refine And.intro ⟨fun h => h, fun h => h⟩ ?_ | refine ⟨(l.map intE).length, (l.map intE).length, rfl, rfl, Nat.le_refl _, hby, hmx, ?_⟩ | refine Exists.intro false ?_ | (refine And.intro ?_ ?_; focus (simp; done)) | fail)
  all_goals (conv => whnf)
  refine dle_lst ?_
  simp
  exact List.take_of_length_le (by simp)
def agr0 : Agr := ⟨0, ⟨0, []⟩, ⟨0, 0, []⟩, [], [], 0, 0, [], [], [], [], 0⟩
def newA (v : View) (self : Int) : Agr × Int := bif !viewB v || !inB v.mem self then (agr0, 1) else (⟨self, v, ⟨0, -1, []⟩, [], [], 0, 0, [], [], [], [], 0⟩, 0)
theorem c_agreement_New (v : View) (hv : v.mem.length ≤ 500000) (self : Int) : Ret Tryz.prog 14 [.agg (viewE v), i64 self] (.tup [.agg (agrE (newA v self).1), i64 (newA v self).2]) := by
  have h1 : v.mem.length ≤ maxLen := Nat.le_trans hv (by decide)
  refine ret_of_body (fn := Tryz.f14) (c := Tryz.f14.body.getD .skip) hm hT (by kernel_rfl) Tryz.func14 (by kernel_rfl) (by kernel_rfl) (by kernel_rfl) (by kernel_rfl) ?_
  repeat' ((conv => whnf); first | refine And.intro (fun h => h) ?_ | refine dcond_t (by assumption) ?_ | refine dcond_f (by assumption) ?_ | (refine dcond_intro ?_ ?_ <;> intro h) | exact .refl | refine And.intro (by kernel_rfl) ?_ | refine And.intro ⟨fun h => h, fun h => h⟩ ?_ | refine .inl ⟨_, _, DleAll_refl _, c_view_Valid _ h1, ?_⟩ | refine ⟨_, _, DleAll_refl _, fun _ => c_view_Valid _ h1, ?_⟩ | refine ⟨_, _, DleAll_refl _, c_view_Valid _ h1, ?_⟩ | refine .inl ⟨_, _, DleAll_refl _, c_view_Contains _ h1 _, ?_⟩ | refine ⟨_, _, DleAll_refl _, fun _ => c_view_Contains _ h1 _, ?_⟩ | refine ⟨_, _, DleAll_refl _, c_view_Contains _ h1 _, ?_⟩ | refine .inl ⟨_, _, DleAll_refl _, c_agreement_clone _ (by omega), ?_⟩ | refine ⟨_, _, DleAll_refl _, fun _ => c_agreement_clone _ (by omega), ?_⟩ | refine ⟨_, _, DleAll_refl _, c_agreement_clone _ (by omega), ?_⟩ | refine .inl ⟨_, _, DleAll_refl _, c_paxos_Fresh, ?_⟩ | refine ⟨_, _, DleAll_refl _, fun _ => c_paxos_Fresh, ?_⟩ | refine ⟨_, _, DleAll_refl _, c_paxos_Fresh, ?_⟩ | refine Exists.intro false ?_ | (refine And.intro ?_ ?_; focus (simp; done)) | fail)
  all_goals (conv => whnf)
  all_goals simp only [newA, h, cond_true, cond_false]
  · exact dle_tupA ⟨dle_aggA ⟨.refl, .refl, .nl, .refl, .refl, .nl, .nl, .nl, .refl, .refl, .nl, .nl, .nl, .nl, .refl, trivial⟩, .refl, trivial⟩
  · exact dle_tupA ⟨dle_aggA ⟨.refl, .refl, .refl, .refl, .refl, .refl, .nl, .nl, .refl, .refl, .nl, .nl, .nl, .nl, .refl, trivial⟩, .refl, trivial⟩
def vmB (v : View) (m : Msg) : Bool :=
  bif !viewB v || !inB v.mem m.src || !decide (m.view = v.num) then false
  else bif decide (m.kind = 1) || decide (m.kind = 6) then decide (m.rank = 0) && decide (m.last = 0) && appB v m.cut
  else bif decide (m.kind = 2) then properB v m.rank && decide (ownerOf m.rank = m.src) && decide (m.last = 0) && decide ((m.cut.length : Int) = 0)
  else bif decide (m.kind = 3) then properB v m.rank && !decide (m.rank < m.last) && (decide (m.last = -1) && decide ((m.cut.length : Int) = 0) || (decide (m.last = 0) || properB v m.last) && appB v m.cut)
  else bif decide (m.kind = 4) then properB v m.rank && decide (ownerOf m.rank = m.src) && decide (m.last = 0) && appB v m.cut
  else bif decide (m.kind = 5) then properB v m.rank && decide (m.last = 0) && appB v m.cut
  else false

theorem c_agreement_ValidMessage (v : View) (hv : v.mem.length ≤ 500000) (m : Msg) (hc : m.cut.length ≤ 500000) : Ret Tryz.prog 30 [.agg (viewE v), .agg (msgE m)] (.v (.bool (vmB v m))) := by
  have h1 : v.mem.length ≤ maxLen := Nat.le_trans hv (by decide)
  have e0 : ((m.cut.map intE).length : Int) = (m.cut.length : Int) := by rw [List.length_map]
  refine ret_of_body (fn := Tryz.f30) (c := Tryz.f30.body.getD .skip) hm hT (by kernel_rfl) Tryz.func30 (by kernel_rfl) (by kernel_rfl) (by kernel_rfl) (by kernel_rfl) ?_
  repeat' ((conv => whnf); first | refine And.intro (fun h => h) ?_ | refine dcond_t (by assumption) ?_ | refine dcond_f (by assumption) ?_ | (refine dcond_intro ?_ ?_ <;> intro h) | exact .refl | refine And.intro (by kernel_rfl) ?_ | refine And.intro ⟨fun h => h, fun h => h⟩ ?_ | refine .inl ⟨_, _, DleAll_refl _, c_view_Valid _ h1, ?_⟩ | refine ⟨_, _, DleAll_refl _, fun _ => c_view_Valid _ h1, ?_⟩ | refine ⟨_, _, DleAll_refl _, c_view_Valid _ h1, ?_⟩ | refine .inl ⟨_, _, DleAll_refl _, c_view_Contains _ h1 _, ?_⟩ | refine ⟨_, _, DleAll_refl _, fun _ => c_view_Contains _ h1 _, ?_⟩ | refine ⟨_, _, DleAll_refl _, c_view_Contains _ h1 _, ?_⟩ | refine .inl ⟨_, _, DleAll_refl _, c_agreement_applicable _ hv _ hc, ?_⟩ | refine ⟨_, _, DleAll_refl _, fun _ => c_agreement_applicable _ hv _ hc, ?_⟩ | refine ⟨_, _, DleAll_refl _, c_agreement_applicable _ hv _ hc, ?_⟩ | refine .inl ⟨_, _, DleAll_refl _, c_agreement_proper _ h1 _, ?_⟩ | refine ⟨_, _, DleAll_refl _, fun _ => c_agreement_proper _ h1 _, ?_⟩ | refine ⟨_, _, DleAll_refl _, c_agreement_proper _ h1 _, ?_⟩ | refine .inl ⟨_, _, DleAll_refl _, c_paxos_Owner _, ?_⟩ | refine ⟨_, _, DleAll_refl _, fun _ => c_paxos_Owner _, ?_⟩ | refine ⟨_, _, DleAll_refl _, c_paxos_Owner _, ?_⟩ | refine Exists.intro false ?_ | (refine And.intro ?_ ?_; focus (simp; done)) | fail)
  all_goals (conv => whnf)
  all_goals (refine dle_bool ?_)
  all_goals (try rw [e0])
  all_goals (try rw [e0] at *)
  all_goals (simp only [vmB, *, cond_true, cond_false, Bool.true_or, Bool.or_true, Bool.or_self, Bool.false_or])
  · have h9 : (properB v m.rank && !decide (m.rank < m.last)) = false := by
      cases hp : properB v m.rank <;> cases hd : decide (m.rank < m.last) <;> simp_all
    rw [h9, Bool.false_and]
  · have h9 : (properB v m.rank && !decide (m.rank < m.last)) = true := by
      cases hp : properB v m.rank <;> cases hd : decide (m.rank < m.last) <;> simp_all
    rw [h9, Bool.true_and]
theorem c_ref10_ValidMessage (v : View) (hv : v.mem.length ≤ 500000) (m : Msg) (hc : m.cut.length ≤ 500000) : Ret Tryz.prog 35 [.agg (viewE v), .agg (msgE m)] (.v (.bool (vmB v m))) := by
  have h1 : v.mem.length ≤ maxLen := Nat.le_trans hv (by decide)
  have e0 : ((m.cut.map intE).length : Int) = (m.cut.length : Int) := by rw [List.length_map]
  have ea : Ret Tryz.prog 25 [.agg (viewE v), .lst 1 (m.cut.map intE) false] (.v (.bool (appB v m.cut))) := c_ref3_Applicable _ hv _ hc
  have eo := c_ref9_Owner m.rank
  rw [ownerRef_eq] at eo
  refine ret_of_body (fn := Tryz.f35) (c := Tryz.f35.body.getD .skip) hm hT (by kernel_rfl) Tryz.func35 (by kernel_rfl) (by kernel_rfl) (by kernel_rfl) (by kernel_rfl) ?_
  repeat' ((conv => whnf); first | refine And.intro (fun h => h) ?_ | refine dcond_t (by assumption) ?_ | refine dcond_f (by assumption) ?_ | (refine dcond_intro ?_ ?_ <;> intro h) | exact .refl | refine And.intro (by kernel_rfl) ?_ | refine And.intro ⟨fun h => h, fun h => h⟩ ?_ | refine .inl ⟨_, _, DleAll_refl _, c_ref3_Valid _ h1, ?_⟩ | refine ⟨_, _, DleAll_refl _, fun _ => c_ref3_Valid _ h1, ?_⟩ | refine ⟨_, _, DleAll_refl _, c_ref3_Valid _ h1, ?_⟩ | refine .inl ⟨_, _, DleAll_refl _, c_ref3_Contains _ h1 _, ?_⟩ | refine ⟨_, _, DleAll_refl _, fun _ => c_ref3_Contains _ h1 _, ?_⟩ | refine ⟨_, _, DleAll_refl _, c_ref3_Contains _ h1 _, ?_⟩ | refine .inl ⟨_, _, DleAll_refl _, ea, ?_⟩ | refine ⟨_, _, DleAll_refl _, fun _ => ea, ?_⟩ | refine ⟨_, _, DleAll_refl _, ea, ?_⟩ | refine .inl ⟨_, _, DleAll_refl _, c_ref10_Proper _ h1 _, ?_⟩ | refine ⟨_, _, DleAll_refl _, fun _ => c_ref10_Proper _ h1 _, ?_⟩ | refine ⟨_, _, DleAll_refl _, c_ref10_Proper _ h1 _, ?_⟩ | refine .inl ⟨_, _, DleAll_refl _, eo, ?_⟩ | refine ⟨_, _, DleAll_refl _, fun _ => eo, ?_⟩ | refine ⟨_, _, DleAll_refl _, eo, ?_⟩ | refine Exists.intro false ?_ | (refine And.intro ?_ ?_; focus (simp; done)) | fail)
  all_goals (conv => whnf)
  all_goals (refine dle_bool ?_)
  all_goals (try rw [e0])
  all_goals (try rw [e0] at *)
  all_goals (simp only [vmB, *, cond_true, cond_false, Bool.true_or, Bool.or_true, Bool.or_self, Bool.false_or])
  have hd : decide (m.last ≤ m.rank) = !decide (m.rank < m.last) := by
    by_cases h9 : m.rank < m.last
    · simp [h9, Int.not_le.2 h9]
    · simp [h9, Int.not_lt.1 h9]
  rw [hd]
  have hlow := @owner_low m.last
  have hp : properB v m.last = true → 1024 < m.last := fun h9 => hlow (by
    simp only [properB, Bool.and_eq_true, Bool.not_eq_true', decide_eq_false_iff_not] at h9
    exact h9.1)
  clear hlow e0 ea eo
  generalize properB v m.last = b1 at *
  generalize properB v m.rank = b2
  generalize appB v m.cut = b3
  generalize decide ((m.cut.length : Int) = 0) = b4
  generalize decide (m.rank < m.last) = b5
  by_cases h3 : m.last = -1
  · have h4 : b1 = false := by
      cases b1
      · rfl
      · exact absurd (hp rfl) (by omega)
    simp [h3, h4]
  · by_cases h4 : m.last = 0
    · simp [h4]
    · cases b1
      · simp [h3, h4]
      · have := hp rfl
        have h5 : 0 ≤ m.last := by omega
        have h6 : ¬ m.last < 0 := by omega
        simp [h3, h4, h5, h6]
end Go.Proofs.YtmbniilpgbjcfaaGreat

set_option maxRecDepth 100000
namespace Go.Proofs.YtmbniilpgbjcfaaGreat
open Go.Lift
def bal0 : Bal := ⟨0, []⟩
def okBal (v : View) (l : List Bal) (i : Nat) : Bool := !(!inB v.mem (l.getD i bal0).mem || decide (0 < (i : Int)) && decide ((l.getD i bal0).mem ≤ (l.getD (i - 1) bal0).mem) || !appB v (l.getD i bal0).cut)
def boxB (v : View) (l : List Bal) : Bool := viewB v && allB (okBal v l) l.length
theorem box_iff {v : View} (hv : viewB v = true) {l : List Bal} : boxB v l = true ↔ (∀ b ∈ l, inB v.mem b.mem = true ∧ appB v b.cut = true) ∧ List.Pairwise (fun a b : Bal => a.mem < b.mem) l := by
  rw [boxB, hv, Bool.true_and, allB_true]
  have hok : ∀ i (hi : i < l.length), okBal v l i = true ↔ (inB v.mem l[i].mem = true ∧ appB v l[i].cut = true) ∧ (0 < i → (l.getD (i - 1) bal0).mem < l[i].mem) := by
    intro i hi
    have hg : l.getD i bal0 = l[i] := by simp [hi]
    simp only [okBal, hg, Bool.not_eq_true', Bool.or_eq_false_iff, Bool.not_eq_false', Bool.and_eq_false_iff, decide_eq_false_iff_not]
    constructor
    · rintro ⟨⟨h1, h2⟩, h3⟩
      refine ⟨⟨h1, h3⟩, fun h0 => ?_⟩
      rcases h2 with h2 | h2 <;> omega
    · rintro ⟨⟨h1, h3⟩, h2⟩
      refine ⟨⟨h1, ?_⟩, h3⟩
      by_cases h0 : 0 < i
      · have := h2 h0
        right; omega
      · left; omega
  constructor
  · intro h
    have h1 : ∀ i (hi : i < l.length), (inB v.mem l[i].mem = true ∧ appB v l[i].cut = true) ∧ (0 < i → (l.getD (i - 1) bal0).mem < l[i].mem) := fun i hi => (hok i hi).1 (h i hi)
    refine ⟨fun r hr => ?_, ?_⟩
    · obtain ⟨i, hi, rfl⟩ := List.getElem_of_mem hr
      exact (h1 i hi).1
    · rw [List.pairwise_iff_getElem]
      intro i j hi hj hij
      obtain ⟨d, rfl⟩ : ∃ d, j = i + 1 + d := ⟨j - (i + 1), by omega⟩
      clear hij
      induction d with
      | zero =>
        have := (h1 (i + 1) hj).2 (by omega)
        simpa [hi] using this
      | succ d ih =>
        have hj2 : i + 1 + d < l.length := by omega
        have k1 := ih hj2
        have k2 := (h1 (i + 1 + (d + 1)) hj).2 (by omega)
        have e2 : l.getD (i + 1 + (d + 1) - 1) bal0 = l[i + 1 + d] := by
          have : i + 1 + (d + 1) - 1 = i + 1 + d := by omega
          rw [this]; simp [hj2]
        rw [e2] at k2
        omega
  · rintro ⟨h1, h2⟩ i hi
    refine (hok i hi).2 ⟨h1 _ (List.getElem_mem hi), fun h0 => ?_⟩
    have hi2 : i - 1 < l.length := by omega
    have := List.pairwise_iff_getElem.1 h2 (i - 1) i hi2 hi (by omega)
    simpa [hi2] using this
def frontB : List Bal → Int → Nat
  | [], _ => 0
  | r :: l, m => if r.mem < m then frontB l m + 1 else 0
def insB (l : List Bal) (r : Bal) : List Bal := l.take (frontB l r.mem) ++ [r] ++ l.drop (frontB l r.mem)
def ofBal (l : List Bal) (x : Int) : Int := findB (fun i => decide ((l.getD i bal0).mem = x)) l.length
theorem frontB_le (l : List Bal) (m : Int) : frontB l m ≤ l.length := by
  induction l with
  | nil => exact Nat.le_refl _
  | cons r l ih => simp only [frontB, List.length_cons]; split <;> omega
theorem frontB_lt {m : Int} : ∀ {l : List Bal} {i : Nat}, i < frontB l m → (hl : i < l.length) → l[i].mem < m
  | r :: l, i, h, hl => by
    simp only [frontB] at h
    split at h
    · rename_i hr
      cases i with
      | zero => exact hr
      | succ i => exact frontB_lt (l := l) (by omega) (by simpa using hl)
    · omega
theorem insB_len (l : List Bal) (r : Bal) : (insB l r).length = l.length + 1 := by
  have := frontB_le l r.mem
  simp [insB]; omega
theorem insB_mem {l : List Bal} {r x : Bal} (h : x ∈ insB l r) : x = r ∨ x ∈ l := by
  simp only [insB, List.mem_append, List.mem_singleton] at h
  rcases h with (h | h) | h
  · exact .inr (List.mem_of_mem_take h)
  · exact .inl h
  · exact .inr (List.mem_of_mem_drop h)
def putB (l : List Bal) (r : Bal) (i : Nat) : List Bal := bif decide (frontB l r.mem < i) then l.take (frontB l r.mem) ++ [r] ++ (l.take i).drop (frontB l r.mem) else l.take i
theorem putb_len (l : List Bal) (r : Bal) (i : Nat) : (putB l r i).length ≤ i + 1 := by
  have := frontB_le l r.mem
  unfold putB
  cases h : decide (frontB l r.mem < i) <;> simp at h <;> simp <;> omega
theorem frontb_ge {m : Int} : ∀ {l : List Bal} (h : frontB l m < l.length), m ≤ l[frontB l m].mem
  | r :: l, h => by
    by_cases hr : r.mem < m
    · have e : frontB (r :: l) m = frontB l m + 1 := by simp [frontB, hr]
      have h2 : frontB l m < l.length := by rw [e] at h; simpa using h
      have := frontb_ge h2
      simp only [e]
      simpa using this
    · have e : frontB (r :: l) m = 0 := by simp [frontB, hr]
      simp only [e]
      simpa using hr
theorem putb_now {l : List Bal} {r : Bal} {i : Nat} (hi : i < l.length) (h : (!decide (frontB l r.mem < i) && decide (r.mem ≤ l[i].mem)) = true) : frontB l r.mem = i := by
  simp only [Bool.and_eq_true, Bool.not_eq_true', decide_eq_false_iff_not, decide_eq_true_eq] at h
  rcases Nat.lt_or_ge i (frontB l r.mem) with h1 | h1
  · have := frontB_lt h1 hi
    omega
  · omega
theorem putb_not {l : List Bal} {r : Bal} {i : Nat} (hi : i < l.length) (h : (!decide (frontB l r.mem < i) && decide (r.mem ≤ l[i].mem)) = false) : frontB l r.mem ≠ i := by
  intro e
  have h1 := frontb_ge (l := l) (m := r.mem) (by omega)
  simp only [Bool.and_eq_false_iff, Bool.not_eq_false', decide_eq_false_iff_not, decide_eq_true_eq] at h
  rcases h with h | h
  · omega
  · subst e; exact h h1
theorem putb_step1 {l : List Bal} {r : Bal} {i : Nat} (hi : i < l.length) (h : frontB l r.mem = i) : putB l r i ++ [r] ++ [l[i]] = putB l r (i + 1) := by
  have e1 : decide (frontB l r.mem < i) = false := by simp; omega
  have e2 : decide (frontB l r.mem < i + 1) = true := by simp; omega
  simp only [putB, e1, e2, cond_true, cond_false, h]
  rw [List.take_succ_eq_append_getElem hi, List.drop_append_of_le_length (by simp; omega)]
  simp
theorem putb_step2 {l : List Bal} {r : Bal} {i : Nat} (hi : i < l.length) (h : frontB l r.mem ≠ i) : putB l r i ++ [l[i]] = putB l r (i + 1) := by
  rcases Nat.lt_or_ge (frontB l r.mem) i with h1 | h1
  · have e1 : decide (frontB l r.mem < i) = true := by simp; omega
    have e2 : decide (frontB l r.mem < i + 1) = true := by simp; omega
    simp only [putB, e1, e2, cond_true]
    rw [List.take_succ_eq_append_getElem hi, List.drop_append_of_le_length (by simp; omega)]
    simp
  · have e1 : decide (frontB l r.mem < i) = false := by simp; omega
    have e2 : decide (frontB l r.mem < i + 1) = false := by simp; omega
    simp only [putB, e1, e2, cond_false]
    rw [List.take_succ_eq_append_getElem hi]
theorem putb_end1 {l : List Bal} {r : Bal} (h : decide (frontB l r.mem < l.length) = true) : putB l r l.length = insB l r := by
  simp only [putB, h, cond_true, insB, List.take_length]
theorem putb_end2 {l : List Bal} {r : Bal} (h : decide (frontB l r.mem < l.length) = false) : putB l r l.length ++ [r] = insB l r := by
  have := frontB_le l r.mem
  have e : frontB l r.mem = l.length := by simp at h; omega
  simp only [putB, h, cond_false, insB]
  simp [e]
theorem putb_flag {l : List Bal} {r : Bal} {i : Nat} (h : frontB l r.mem ≠ i) : decide (frontB l r.mem < i) = decide (frontB l r.mem < i + 1) := by
  by_cases h1 : frontB l r.mem < i
  · have h2 : frontB l r.mem < i + 1 := by omega
    simp [h1, h2]
  · have h2 : ¬ frontB l r.mem < i + 1 := by omega
    simp [h1, h2]
theorem insb_pair {l : List Bal} {r : Bal} (hp : List.Pairwise (fun a b : Bal => a.mem < b.mem) l) : List.Pairwise (fun a b : Bal => a.mem < b.mem) (insB l r) ↔ ∀ x ∈ l, x.mem ≠ r.mem := by
  induction l with
  | nil => simp [insB]
  | cons y l ih =>
    rw [List.pairwise_cons] at hp
    by_cases hy : y.mem < r.mem
    · have e : insB (y :: l) r = y :: insB l r := by simp [insB, frontB, hy]
      have hm : ∀ z, z ∈ insB l r ↔ z = r ∨ z ∈ l := fun z => by
        constructor
        · exact insB_mem
        · intro h
          simp only [insB, List.mem_append, List.mem_singleton]
          rcases h with rfl | h
          · exact .inl (.inr rfl)
          · rw [← List.take_append_drop (frontB l r.mem) l, List.mem_append] at h
            rcases h with h | h
            · exact .inl (.inl h)
            · exact .inr h
      rw [e, List.pairwise_cons, ih hp.2]
      constructor
      · rintro ⟨h1, h2⟩ x hx
        rcases List.mem_cons.1 hx with rfl | hx
        · omega
        · exact h2 x hx
      · intro h
        refine ⟨fun z hz => ?_, fun x hx => h x (List.mem_cons_of_mem _ hx)⟩
        rcases (hm z).1 hz with rfl | hz
        · exact hy
        · exact hp.1 z hz
    · have e : insB (y :: l) r = r :: y :: l := by simp [insB, frontB, hy]
      rw [e, List.pairwise_cons]
      constructor
      · rintro ⟨h1, h2⟩ x hx he
        have := h1 x hx
        omega
      · intro h
        refine ⟨fun z hz => ?_, List.pairwise_cons.2 hp⟩
        have h0 := h y (by simp)
        rcases List.mem_cons.1 hz with rfl | hz
        · omega
        · have := hp.1 z hz
          omega
theorem ofb_neg {l : List Bal} {x : Int} (h : decide (0 ≤ ofBal l x) = false) : ∀ r ∈ l, r.mem ≠ x := by
  intro r hr e
  obtain ⟨i, hi, rfl⟩ := List.getElem_of_mem hr
  have hp : ∃ n, findB (fun i => decide ((l.getD i bal0).mem = x)) l.length = ((n : Nat) : Int) := by
    rcases hf : (List.range l.length).find? (fun i => decide ((l.getD i bal0).mem = x)) with _ | n
    · have := List.find?_eq_none.1 hf i (List.mem_range.2 hi)
      simp [hi, e] at this
    · exact ⟨n, by simp only [findB, hf]⟩
  obtain ⟨n, hn⟩ := hp
  simp only [ofBal, hn, decide_eq_false_iff_not] at h
  omega
theorem ofb_pos {l : List Bal} {x : Int} (h : decide (0 ≤ ofBal l x) = true) : ∃ r ∈ l, r.mem = x := by
  refine Classical.byContradiction fun hn => ?_
  have hall : ∀ j, j < l.length → decide ((l.getD j bal0).mem = x) = false := fun j hj => by
    simp only [List.getD_eq_getElem?_getD, List.getElem?_eq_getElem hj, Option.getD_some, decide_eq_false_iff_not]
    exact fun e => hn ⟨_, List.getElem_mem hj, e⟩
  rw [ofBal, findB_none hall] at h
  cases h
def castR (v : View) (l : List Bal) (b : Bal) : List Bal × Int :=
  bif !boxB v l || !appB v b.cut then ([], 1)
  else bif !inB v.mem b.mem then ([], 6)
  else bif decide (0 ≤ ofBal l b.mem) then ([], 7)
  else (insB l b, 0)
def winR (v : View) (l : List Bal) : List Int × Bool :=
  bif !boxB v l then ([], false)
  else match l.find? (fun b => decide (fastB v.mem.length ≤ (votesN l b.cut : Int))) with
    | some b => (b.cut, true)
    | none => ([], false)
end Go.Proofs.YtmbniilpgbjcfaaGreat

set_option maxRecDepth 100000
namespace Go.Proofs.YtmbniilpgbjcfaaGreat
open Go.Lift
theorem c_slices_Clone_int (l : List Int) (hl : l.length ≤ 1000000) : Ret Tryz.prog 74 [.lst 1 (l.map intE) false] (.lst 1 (l.map intE) false) := by
  refine ret_of_body (fn := Tryz.f74) (c := Tryz.f74.body.getD .skip) hm hT (by kernel_rfl) Tryz.func74 (by kernel_rfl) (by kernel_rfl) (by kernel_rfl) (by kernel_rfl) ?_
  repeat' ((conv => whnf); first | refine And.intro (fun h => h) ?_ | refine dcond_t (by assumption) ?_ | refine dcond_f (by assumption) ?_ | (refine dcond_intro ?_ ?_ <;> intro h) | exact .refl | refine And.intro (by kernel_rfl) ?_ | refine And.intro ⟨fun h => h, fun h => h⟩ ?_ | refine Exists.intro false ?_ | (refine And.intro ?_ ?_; focus (simp; done)) | fail)
  refine And.intro (fun hnil => ?_) ?_
  · repeat' ((conv => whnf); first | refine And.intro (fun h => h) ?_ | refine dcond_t (by assumption) ?_ | refine dcond_f (by assumption) ?_ | (refine dcond_intro ?_ ?_ <;> intro h) | exact .refl | refine And.intro (by kernel_rfl) ?_ | refine And.intro ⟨fun h => h, fun h => h⟩ ?_ | refine Exists.intro false ?_ | (refine And.intro ?_ ?_; focus (simp; done)) | fail)
    all_goals (conv => whnf)
    rw [hnil]
    exact .nl
  · repeat' ((conv => whnf); first | refine And.intro (fun h => h) ?_ | refine dcond_t (by assumption) ?_ | refine dcond_f (by assumption) ?_ | (refine dcond_intro ?_ ?_ <;> intro h) | exact .refl | refine And.intro (by kernel_rfl) ?_ | refine And.intro ⟨fun h => h, fun h => h⟩ ?_ | refine Exists.intro false ?_ | (refine And.intro ?_ ?_; focus (simp; done)) | fail)
    all_goals (conv => whnf)
    refine And.intro (fitsI (by simp; omega)) ?_
    repeat' ((conv => whnf); first | refine And.intro (fun h => h) ?_ | refine dcond_t (by assumption) ?_ | refine dcond_f (by assumption) ?_ | (refine dcond_intro ?_ ?_ <;> intro h) | exact .refl | refine And.intro (by kernel_rfl) ?_ | refine And.intro ⟨fun h => h, fun h => h⟩ ?_ | refine Exists.intro false ?_ | (refine And.intro ?_ ?_; focus (simp; done)) | fail)
theorem c_fastvote_Valid (v : View) (hv : v.mem.length ≤ 500000) (l : List Bal) (hl : l.length ≤ maxLen) (hc : ∀ r ∈ l, r.cut.length ≤ 500000) : Ret Tryz.prog 62 [.agg (viewE v), .lst 2 (l.map balE) false] (.v (.bool (boxB v l))) := by
  have hl' : l.length ≤ 9223372036854775807 := hl
  have h1 : v.mem.length ≤ maxLen := Nat.le_trans hv (by decide)
  refine ret_of_body (fn := Tryz.f62) (c := Tryz.f62.body.getD .skip) hm hT (by kernel_rfl) Tryz.func62 (by kernel_rfl) (by kernel_rfl) (by kernel_rfl) (by kernel_rfl) ?_
  repeat' ((conv => whnf); first | refine And.intro (fun h => h) ?_ | refine dcond_t (by assumption) ?_ | refine dcond_f (by assumption) ?_ | (refine dcond_intro ?_ ?_ <;> intro h) | exact .refl | refine And.intro (by kernel_rfl) ?_ | refine And.intro ⟨fun h => h, fun h => h⟩ ?_ | refine .inl ⟨_, _, DleAll_refl _, c_view_Valid _ h1, ?_⟩ | refine ⟨_, _, DleAll_refl _, fun _ => c_view_Valid _ h1, ?_⟩ | refine ⟨_, _, DleAll_refl _, c_view_Valid _ h1, ?_⟩ | refine Exists.intro false ?_ | (refine And.intro ?_ ?_; focus (simp; done)) | fail)
  · refine dle_bool ?_
    have h : viewB v = false := by simpa using h
    simp [boxB, h]
  · have hvw : viewB v = true := by simpa using h
    clear h
    conv => whnf
    refine ⟨Nat, fun i => ⟨[(1, .lst 2 (l.map balE) false), (2, .lp 0 0), (10, .lst 2 (l.map balE) false), (11, i64 (l.map balE).length), (12, i64 i)], [.cells 24 (viewE v)]⟩, fun i => i ≤ l.length ∧ ∀ j, j < i → okBal v l j = true, fun i => l.length - i, [], ⟨0, ⟨Nat.zero_le _, by omega⟩, ?_⟩, ?_⟩
    · exact ⟨by repeat' ((conv => whnf); first | exact trivial | refine And.intro (by (conv => arg 1; whnf); first | (with_reducible exact .refl) | exact dle_int (wrap_succ (by omega)) | exact .refl) ?_), by repeat' ((conv => whnf); first | exact trivial | refine And.intro ?_ ?_ | exact .refl), rfl⟩
    · intro i ⟨hi, hall⟩
      repeat' ((conv => whnf); first | refine And.intro (fun h => h) ?_ | refine dcond_t (by assumption) ?_ | refine dcond_f (by assumption) ?_ | (refine dcond_intro ?_ ?_ <;> intro h) | exact .refl | refine And.intro (by kernel_rfl) ?_ | refine And.intro ⟨fun h => h, fun h => h⟩ ?_ | refine Exists.intro false ?_ | (refine And.intro ?_ ?_; focus (simp; done)) | fail)
      · have hlt : i < l.length := by simpa using h
        clear h
        have hg : l.getD i bal0 = l[i] := by simp [hlt]
        have e74 := c_fastvote_applicable v hv (l[i].cut) (hc _ (List.getElem_mem hlt))
        have hok : okBal v l i = !(!inB v.mem l[i].mem || decide (0 < (i : Int)) && decide (l[i].mem ≤ (l.getD (i - 1) bal0).mem) || !appB v l[i].cut) := by rw [okBal, hg]
        have hp : 0 < i → (IntKind.i64.wrap ((i : Int) - 1)) = ((i - 1 : Nat) : Int) ∧ (l.map balE)[i - 1]? = some (balE (l.getD (i - 1) bal0)) := by
          intro h0
          refine ⟨by rw [wrap_i64 (by omega) (by omega)]; omega, ?_⟩
          have : i - 1 < l.length := by omega
          simp [this]
        repeat' ((conv => whnf); first | refine And.intro (fun h => h) ?_ | refine dcond_t (by assumption) ?_ | refine dcond_f (by assumption) ?_ | (refine dcond_intro ?_ ?_ <;> intro h) | exact .refl | refine And.intro (by kernel_rfl) ?_ | refine And.intro ⟨fun h => h, fun h => h⟩ ?_ | refine ⟨_, _, And.intro ⟨rfl, get_map hlt⟩ ?_⟩ | refine .inl ⟨_, _, DleAll_refl _, c_view_Contains _ h1 _, ?_⟩ | refine ⟨_, _, DleAll_refl _, fun _ => c_view_Contains _ h1 _, ?_⟩ | refine ⟨_, _, DleAll_refl _, c_view_Contains _ h1 _, ?_⟩ | refine .inl ⟨_, _, DleAll_refl _, e74, ?_⟩ | refine ⟨_, _, DleAll_refl _, fun _ => e74, ?_⟩ | refine ⟨_, _, DleAll_refl _, e74, ?_⟩ | refine ⟨i - 1, balE (l.getD (i - 1) bal0), And.intro ⟨⟨fun h => h, fun h => h⟩, fun hg => hp (by have := ((Bool.and_eq_true ..).mp hg).2 <;> simpa using this)⟩ ?_⟩ | refine Exists.intro false ?_ | (refine And.intro ?_ ?_; focus (simp; done)) | fail)
        all_goals (conv => whnf)
        · refine dle_bool ?_
          have : okBal v l i = false := by rw [hok, h]; rfl
          rw [boxB, allB_false hlt this, Bool.and_false]
        · refine ⟨i + 1, ⟨hlt, fun j hj => ?_⟩, by simp only []; omega, ?_⟩
          · rcases Nat.lt_succ_iff_lt_or_eq.1 hj with hj | rfl
            · exact hall j hj
            · rw [hok, h]; rfl
          · exact ⟨by repeat' ((conv => whnf); first | exact trivial | refine And.intro (by (conv => arg 1; whnf); first | (with_reducible exact .refl) | exact dle_int (wrap_succ (by omega)) | exact .refl) ?_), by repeat' ((conv => whnf); first | exact trivial | refine And.intro ?_ ?_ | exact .refl), rfl⟩
      · have hge : ¬ i < l.length := by simpa using h
        conv => whnf
        refine dle_bool ?_
        rw [boxB, hvw, allB_true.2 (fun j hj => hall j (by omega))]
        rfl
theorem c_ref8_Valid (v : View) (hv : v.mem.length ≤ 500000) (l : List Bal) (hl : l.length ≤ maxLen) (hc : ∀ r ∈ l, r.cut.length ≤ 500000) : Ret Tryz.prog 82 [.agg (viewE v), .lst 2 (l.map balE) false] (.v (.bool (boxB v l))) := by
  have hl' : l.length ≤ 9223372036854775807 := hl
  have h1 : v.mem.length ≤ maxLen := Nat.le_trans hv (by decide)
  refine ret_of_body (fn := Tryz.f82) (c := Tryz.f82.body.getD .skip) hm hT (by kernel_rfl) Tryz.func82 (by kernel_rfl) (by kernel_rfl) (by kernel_rfl) (by kernel_rfl) ?_
  repeat' ((conv => whnf); first | refine And.intro (fun h => h) ?_ | refine dcond_t (by assumption) ?_ | refine dcond_f (by assumption) ?_ | (refine dcond_intro ?_ ?_ <;> intro h) | exact .refl | refine And.intro (by kernel_rfl) ?_ | refine And.intro ⟨fun h => h, fun h => h⟩ ?_ | refine .inl ⟨_, _, DleAll_refl _, c_ref3_Valid _ h1, ?_⟩ | refine ⟨_, _, DleAll_refl _, fun _ => c_ref3_Valid _ h1, ?_⟩ | refine ⟨_, _, DleAll_refl _, c_ref3_Valid _ h1, ?_⟩ | refine Exists.intro false ?_ | (refine And.intro ?_ ?_; focus (simp; done)) | fail)
  · refine dle_bool ?_
    have h : viewB v = false := by simpa using h
    simp [boxB, h]
  · have hvw : viewB v = true := by simpa using h
    clear h
    conv => whnf
    refine ⟨Nat, fun i => ⟨[(1, .lst 2 (l.map balE) false), (2, .lp 0 0), (5, i64 i)], [.cells 24 (viewE v)]⟩, fun i => i ≤ l.length ∧ ∀ j, j < i → okBal v l j = true, fun i => l.length - i, [], ⟨0, ⟨Nat.zero_le _, by omega⟩, ?_⟩, ?_⟩
    · exact ⟨by repeat' ((conv => whnf); first | exact trivial | refine And.intro (by (conv => arg 1; whnf); first | (with_reducible exact .refl) | exact dle_int (wrap_succ (by omega)) | exact .refl) ?_), by repeat' ((conv => whnf); first | exact trivial | refine And.intro ?_ ?_ | exact .refl), rfl⟩
    · intro i ⟨hi, hall⟩
      repeat' ((conv => whnf); first | refine And.intro (fun h => h) ?_ | refine dcond_t (by assumption) ?_ | refine dcond_f (by assumption) ?_ | (refine dcond_intro ?_ ?_ <;> intro h) | exact .refl | refine And.intro (by kernel_rfl) ?_ | refine And.intro ⟨fun h => h, fun h => h⟩ ?_ | refine Exists.intro false ?_ | (refine And.intro ?_ ?_; focus (simp; done)) | fail)
      · have hlt : i < l.length := by simpa using h
        clear h
        have hg : l.getD i bal0 = l[i] := by simp [hlt]
        have e57 : Ret Tryz.prog 25 [.agg (viewE v), .lst 1 (l[i].cut.map intE) false] (.v (.bool (appB v l[i].cut))) := c_ref3_Applicable _ hv _ (hc _ (List.getElem_mem hlt))
        have hok : okBal v l i = !(!inB v.mem l[i].mem || decide (0 < (i : Int)) && decide (l[i].mem ≤ (l.getD (i - 1) bal0).mem) || !appB v l[i].cut) := by rw [okBal, hg]
        have hp : 0 < i → (IntKind.i64.wrap ((i : Int) - 1)) = ((i - 1 : Nat) : Int) ∧ (l.map balE)[i - 1]? = some (balE (l.getD (i - 1) bal0)) := by
          intro h0
          refine ⟨by rw [wrap_i64 (by omega) (by omega)]; omega, ?_⟩
          have : i - 1 < l.length := by omega
          simp [this]
        repeat' ((conv => whnf); first | refine And.intro (fun h => h) ?_ | refine dcond_t (by assumption) ?_ | refine dcond_f (by assumption) ?_ | (refine dcond_intro ?_ ?_ <;> intro h) | exact .refl | refine And.intro (by kernel_rfl) ?_ | refine And.intro ⟨fun h => h, fun h => h⟩ ?_ | refine ⟨_, _, And.intro ⟨rfl, get_map hlt⟩ ?_⟩ | refine .inl ⟨_, _, DleAll_refl _, c_ref3_Contains _ h1 _, ?_⟩ | refine ⟨_, _, DleAll_refl _, fun _ => c_ref3_Contains _ h1 _, ?_⟩ | refine ⟨_, _, DleAll_refl _, c_ref3_Contains _ h1 _, ?_⟩ | refine .inl ⟨_, _, DleAll_refl _, e57, ?_⟩ | refine ⟨_, _, DleAll_refl _, fun _ => e57, ?_⟩ | refine ⟨_, _, DleAll_refl _, e57, ?_⟩ | refine ⟨i, balE (l[i]'hlt), And.intro ⟨⟨fun h => h, fun h => h⟩, fun hg => ⟨rfl, get_map hlt⟩⟩ ?_⟩ | refine ⟨i - 1, balE (l.getD (i - 1) bal0), And.intro ⟨⟨fun h => h, fun h => h⟩, fun hg => hp (by have := ((Bool.and_eq_true ..).mp hg).2 <;> simpa using this)⟩ ?_⟩ | refine Exists.intro false ?_ | (refine And.intro ?_ ?_; focus (simp; done)) | fail)
        all_goals (conv => whnf)
        · refine dle_bool ?_
          have : okBal v l i = false := by rw [hok, h]; rfl
          rw [boxB, allB_false hlt this, Bool.and_false]
        · refine ⟨i + 1, ⟨hlt, fun j hj => ?_⟩, by simp only []; omega, ?_⟩
          · rcases Nat.lt_succ_iff_lt_or_eq.1 hj with hj | rfl
            · exact hall j hj
            · rw [hok, h]; rfl
          · exact ⟨by repeat' ((conv => whnf); first | exact trivial | refine And.intro (by (conv => arg 1; whnf); first | (with_reducible exact .refl) | exact dle_int (wrap_succ (by omega)) | exact .refl) ?_), by repeat' ((conv => whnf); first | exact trivial | refine And.intro ?_ ?_ | exact .refl), rfl⟩
      · have hge : ¬ i < l.length := by simpa using h
        conv => whnf
        refine dle_bool ?_
        rw [boxB, hvw, allB_true.2 (fun j hj => hall j (by omega))]
        rfl
theorem c_ref8_Of (l : List Bal) (hl : l.length ≤ maxLen) (x : Int) : Ret Tryz.prog 37 [.lst 2 (l.map balE) false, .v (.int .i64 x)] (.v (.int .i64 (ofBal l x))) := by
  have hl' : l.length ≤ 9223372036854775807 := hl
  refine ret_of_body (fn := Tryz.f37) (c := Tryz.f37.body.getD .skip) hm hT (by kernel_rfl) Tryz.func37 (by kernel_rfl) (by kernel_rfl) (by kernel_rfl) (by kernel_rfl) ?_
  repeat' ((conv => whnf); first | refine And.intro (fun h => h) ?_ | refine dcond_t (by assumption) ?_ | refine dcond_f (by assumption) ?_ | (refine dcond_intro ?_ ?_ <;> intro h) | exact .refl | refine And.intro (by kernel_rfl) ?_ | refine And.intro ⟨fun h => h, fun h => h⟩ ?_ | refine Exists.intro false ?_ | (refine And.intro ?_ ?_; focus (simp; done)) | fail)
  refine ⟨Nat, fun i => ⟨[(0, .lst 2 (l.map balE) false), (1, .v (.int .i64 x)), (5, i64 i)], []⟩, fun i => i ≤ l.length ∧ ∀ j, j < i → decide ((l.getD j bal0).mem = x) = false, fun i => l.length - i, [], ⟨0, ⟨Nat.zero_le _, by omega⟩, ?_⟩, ?_⟩
  · exact ⟨by repeat' ((conv => whnf); first | exact trivial | refine And.intro (by (conv => arg 1; whnf); first | (with_reducible exact .refl) | exact dle_int (wrap_succ (by omega)) | exact .refl) ?_), by repeat' ((conv => whnf); first | exact trivial | refine And.intro ?_ ?_ | exact .refl), rfl⟩
  · intro i ⟨hi, hall⟩
    repeat' ((conv => whnf); first | refine And.intro (fun h => h) ?_ | refine dcond_t (by assumption) ?_ | refine dcond_f (by assumption) ?_ | (refine dcond_intro ?_ ?_ <;> intro h) | exact .refl | refine And.intro (by kernel_rfl) ?_ | refine And.intro ⟨fun h => h, fun h => h⟩ ?_ | refine Exists.intro false ?_ | (refine And.intro ?_ ?_; focus (simp; done)) | fail)
    · have hlt : i < l.length := by simpa using h
      repeat' ((conv => whnf); first | refine And.intro (fun h => h) ?_ | refine dcond_t (by assumption) ?_ | refine dcond_f (by assumption) ?_ | (refine dcond_intro ?_ ?_ <;> intro h) | exact .refl | refine And.intro (by kernel_rfl) ?_ | refine And.intro ⟨fun h => h, fun h => h⟩ ?_ | refine ⟨_, _, And.intro ⟨rfl, get_map hlt⟩ ?_⟩ | refine Exists.intro false ?_ | (refine And.intro ?_ ?_; focus (simp; done)) | fail)
      · have h2 := h
        refine dle_int (findB_at hlt ?_ hall).symm
        simpa [hlt] using h2
      · have h2 := h
        conv => whnf
        refine ⟨i + 1, ⟨hlt, fun j hj => ?_⟩, by simp only []; omega, ?_⟩
        · rcases Nat.lt_succ_iff_lt_or_eq.1 hj with hj | rfl
          · exact hall j hj
          · simpa [hlt] using h2
        · exact ⟨by repeat' ((conv => whnf); first | exact trivial | refine And.intro (by (conv => arg 1; whnf); first | (with_reducible exact .refl) | exact dle_int (wrap_succ (by omega)) | exact .refl) ?_), by repeat' ((conv => whnf); first | exact trivial | refine And.intro ?_ ?_ | exact .refl), rfl⟩
    · have hge : ¬ i < l.length := by simpa using h
      conv => whnf
      refine dle_int (findB_none (fun j hj => hall j (by omega))).symm
def cutOf (l : List Bal) (x : Int) : List Int × Bool := bif decide (0 ≤ ofBal l x) then ((l.getD (ofBal l x).toNat bal0).cut, true) else ([], false)
theorem cutOf_at {l : List Bal} {x : Int} {i : Nat} (hlt : i < l.length) (h : decide (l[i].mem = x) = true) (hall : ∀ j, j < i → decide ((l.getD j bal0).mem = x) = false) : cutOf l x = (l[i].cut, true) := by
  have e : ofBal l x = (i : Int) := findB_at hlt (by simpa [hlt] using h) hall
  have e2 : decide (0 ≤ (i : Int)) = true := by simp
  simp only [cutOf, e, e2, cond_true, Int.toNat_natCast]
  simp [hlt]
theorem cutOf_none {l : List Bal} {x : Int} (hall : ∀ j, j < l.length → decide ((l.getD j bal0).mem = x) = false) : cutOf l x = ([], false) := by
  have e : ofBal l x = -1 := findB_none hall
  simp only [cutOf, e]
  rfl
theorem c_agreement_ballotOf (l : List Bal) (hl : l.length ≤ maxLen) (x : Int) : Ret Tryz.prog 63 [.lst 2 (l.map balE) false, .v (.int .i64 x)] (.tup [.lst 1 ((cutOf l x).1.map intE) false, .v (.bool (cutOf l x).2)]) := by
  have hl' : l.length ≤ 9223372036854775807 := hl
  refine ret_of_body (fn := Tryz.f63) (c := Tryz.f63.body.getD .skip) hm hT (by kernel_rfl) Tryz.func63 (by kernel_rfl) (by kernel_rfl) (by kernel_rfl) (by kernel_rfl) ?_
  repeat' ((conv => whnf); first | refine And.intro (fun h => h) ?_ | refine dcond_t (by assumption) ?_ | refine dcond_f (by assumption) ?_ | (refine dcond_intro ?_ ?_ <;> intro h) | exact .refl | refine And.intro (by kernel_rfl) ?_ | refine And.intro ⟨fun h => h, fun h => h⟩ ?_ | refine Exists.intro false ?_ | (refine And.intro ?_ ?_; focus (simp; done)) | fail)
  refine ⟨Nat, fun i => ⟨[(1, .v (.int .i64 x)), (8, .lst 2 (l.map balE) false), (9, i64 (l.map balE).length), (10, i64 i)], []⟩, fun i => i ≤ l.length ∧ ∀ j, j < i → decide ((l.getD j bal0).mem = x) = false, fun i => l.length - i, [], ⟨0, ⟨Nat.zero_le _, by omega⟩, ?_⟩, ?_⟩
  · exact ⟨by repeat' ((conv => whnf); first | exact trivial | refine And.intro (by (conv => arg 1; whnf); first | (with_reducible exact .refl) | exact dle_int (wrap_succ (by omega)) | exact .refl) ?_), by repeat' ((conv => whnf); first | exact trivial | refine And.intro ?_ ?_ | exact .refl), rfl⟩
  · intro i ⟨hi, hall⟩
    repeat' ((conv => whnf); first | refine And.intro (fun h => h) ?_ | refine dcond_t (by assumption) ?_ | refine dcond_f (by assumption) ?_ | (refine dcond_intro ?_ ?_ <;> intro h) | exact .refl | refine And.intro (by kernel_rfl) ?_ | refine And.intro ⟨fun h => h, fun h => h⟩ ?_ | refine Exists.intro false ?_ | (refine And.intro ?_ ?_; focus (simp; done)) | fail)
    · have hlt : i < l.length := by simpa using h
      clear h
      repeat' ((conv => whnf); first | refine And.intro (fun h => h) ?_ | refine dcond_t (by assumption) ?_ | refine dcond_f (by assumption) ?_ | (refine dcond_intro ?_ ?_ <;> intro h) | exact .refl | refine And.intro (by kernel_rfl) ?_ | refine And.intro ⟨fun h => h, fun h => h⟩ ?_ | refine ⟨_, _, And.intro ⟨rfl, get_map hlt⟩ ?_⟩ | refine Exists.intro false ?_ | (refine And.intro ?_ ?_; focus (simp; done)) | fail)
      all_goals (conv => whnf)
      · rw [cutOf_at hlt h hall]
        exact .refl
      · have h2 := h
        refine ⟨i + 1, ⟨hlt, fun j hj => ?_⟩, by simp only []; omega, ?_⟩
        · rcases Nat.lt_succ_iff_lt_or_eq.1 hj with hj | rfl
          · exact hall j hj
          · simpa [hlt] using h2
        · exact ⟨by repeat' ((conv => whnf); first | exact trivial | refine And.intro (by (conv => arg 1; whnf); first | (with_reducible exact .refl) | exact dle_int (wrap_succ (by omega)) | exact .refl) ?_), by repeat' ((conv => whnf); first | exact trivial | refine And.intro ?_ ?_ | exact .refl), rfl⟩
    · have hge : ¬ i < l.length := by simpa using h
      conv => whnf
      rw [cutOf_none (fun j hj => hall j (by omega))]
      exact dle_tupA ⟨.nl, .refl, trivial⟩
end Go.Proofs.YtmbniilpgbjcfaaGreat

set_option maxRecDepth 100000
namespace Go.Proofs.YtmbniilpgbjcfaaGreat
open Go.Lift
theorem nodup_len {α : Type} [DecidableEq α] : ∀ {a b : List α}, a.Nodup → (∀ x ∈ a, x ∈ b) → a.length ≤ b.length
  | [], _, _, _ => Nat.zero_le _
  | x :: a, b, hn, hs => by
    rw [List.nodup_cons] at hn
    have hx := hs x (List.mem_cons_self ..)
    have := nodup_len (b := b.erase x) hn.2 (fun y hy => (List.mem_erase_of_ne (fun e => hn.1 (by rw [← e]; exact hy))).2 (hs y (List.mem_cons_of_mem _ hy)))
    rw [List.length_erase_of_mem hx] at this
    have := List.length_pos_of_mem hx
    simp only [List.length_cons]
    omega
theorem sameI_iff {a b : List Int} : sameI a b = true ↔ a = b := by
  constructor
  · intro h
    simp only [sameI, Bool.and_eq_true, decide_eq_true_eq, allB_true] at h
    refine List.ext_getElem (by omega) fun i h1 h2 => ?_
    have := h.2 i h1
    simpa [h1, h2] using this
  · rintro rfl
    exact sameI_refl a
theorem filter_two {β : Type} {p q : β → Bool} (h : ∀ x, p x = true → q x = true → False) : ∀ l : List β, (l.filter p).length + (l.filter q).length ≤ l.length
  | [] => Nat.le_refl _
  | x :: l => by
    have ih := filter_two h l
    have hx := h x
    rw [List.filter_cons, List.filter_cons]
    cases hp : p x <;> cases hq : q x <;> simp_all <;> omega
theorem view_n {v : View} (hv : viewB v = true) : 1 ≤ v.mem.length ∧ v.mem.length ≤ 16 := by
  have hid : idsB v.mem 16 = true := by
    simp only [viewB, Bool.and_eq_true] at hv
    exact hv.2
  rw [ids_eq] at hid
  simp only [Bool.and_eq_true, decide_eq_true_eq] at hid
  omega
theorem cnt_in {v : View} (hv : viewB v = true) : (!(decide (1 ≤ (v.mem.length : Int)) && decide ((v.mem.length : Int) ≤ 16))) = false := by
  have hn := view_n hv
  rw [decide_eq_true (by omega), decide_eq_true (by omega)]
  rfl
theorem fast_n {v : View} (hv : viewB v = true) : fastB v.mem.length = ((v.mem.length - (v.mem.length - 1) / 4 : Nat) : Int) := by
  have hn := view_n hv
  unfold fastB
  rw [cnt_in hv]
  show IntKind.i64.wrap _ = _
  rw [wrap_i64 (n := (v.mem.length : Int) - 1) (by omega) (by omega)]
  have h1 : ((v.mem.length : Int) - 1).tdiv 4 = (((v.mem.length - 1) / 4 : Nat) : Int) := by
    have : (v.mem.length : Int) - 1 = ((v.mem.length - 1 : Nat) : Int) := by omega
    rw [this]
    rfl
  rw [h1, wrap_i64 (n := (((v.mem.length - 1) / 4 : Nat) : Int)) (by omega) (by omega), wrap_i64 (by omega) (by omega)]
  omega
theorem in_mem {l : List Int} {x : Int} (h : inB l x = true) : x ∈ l := by
  rcases hf : (List.range l.length).find? (fun i => decide (l[i]? = some x)) with _ | n
  · simp only [inB, placeB, findB, hf] at h
    cases h
  · have hp := List.find?_some hf
    simp only [decide_eq_true_eq] at hp
    exact List.mem_of_getElem? hp
theorem view_hi {v : View} (hv : viewB v = true) {x : Int} (h : inB v.mem x = true) : 1 ≤ x ∧ x ≤ 1000 := by
  have hid : idsB v.mem 16 = true := by
    simp only [viewB, Bool.and_eq_true] at hv
    exact hv.2
  rw [ids_eq] at hid
  simp only [Bool.and_eq_true] at hid
  have hr := rise_iff.1 hid.2
  obtain ⟨i, hi, rfl⟩ := List.getElem_of_mem (in_mem h)
  exact ⟨(hr i hi).1, (hr i hi).2.1⟩
theorem box_le {v : View} {l : List Bal} (h : boxB v l = true) : l.length ≤ v.mem.length := by
  have hv : viewB v = true := by
    simp only [boxB, Bool.and_eq_true] at h
    exact h.1
  have hb := (box_iff hv).1 h
  have := nodup_len (a := l.map (·.mem)) (b := v.mem) (by
    refine List.Pairwise.map _ (fun a b hab => ?_) hb.2
    exact Int.ne_of_lt hab) (fun x hx => by
    obtain ⟨b, hb2, rfl⟩ := List.mem_map.1 hx
    exact in_mem (hb.1 b hb2).1)
  simpa using this
def ldr (l : List Bal) : Nat → List Int × Int
  | 0 => ([], 0)
  | i + 1 => bif decide ((ldr l i).2 < (votesN l (l.getD i bal0).cut : Int)) then ((l.getD i bal0).cut, (votesN l (l.getD i bal0).cut : Int)) else ldr l i
theorem ldr_ge (l : List Bal) : ∀ i j, j < i → (votesN l (l.getD j bal0).cut : Int) ≤ (ldr l i).2
  | i + 1, j, h => by
    unfold ldr
    by_cases hd : (ldr l i).2 < (votesN l (l.getD i bal0).cut : Int)
    · rw [decide_eq_true hd, cond_true]
      rcases Nat.lt_succ_iff_lt_or_eq.1 h with h | rfl
      · have := ldr_ge l i j h
        simp only
        omega
      · exact Int.le_refl _
    · rw [decide_eq_false hd, cond_false]
      rcases Nat.lt_succ_iff_lt_or_eq.1 h with h | rfl
      · exact ldr_ge l i j h
      · omega
theorem ldr_at (l : List Bal) : ∀ i, ldr l i = ([], 0) ∨ ∃ j, j < i ∧ ldr l i = ((l.getD j bal0).cut, (votesN l (l.getD j bal0).cut : Int))
  | 0 => .inl rfl
  | i + 1 => by
    unfold ldr
    by_cases hd : (ldr l i).2 < (votesN l (l.getD i bal0).cut : Int)
    · rw [decide_eq_true hd, cond_true]
      exact .inr ⟨i, Nat.lt_succ_self _, rfl⟩
    · rw [decide_eq_false hd, cond_false]
      rcases ldr_at l i with h | ⟨j, h1, h2⟩
      · exact .inl h
      · exact .inr ⟨j, by omega, h2⟩
theorem votes_two {l : List Bal} {c d : List Int} (h : c ≠ d) : votesN l c + votesN l d ≤ l.length :=
  filter_two (fun x h1 h2 => h ((sameI_iff.1 h1).symm.trans (sameI_iff.1 h2))) l
theorem win_no {v : View} {l : List Bal} (h : decide ((ldr l l.length).2 < fastB v.mem.length) = true) : winR v l = ([], false) := by
  unfold winR
  cases hb : boxB v l
  · rfl
  · have hn : l.find? (fun b => decide (fastB v.mem.length ≤ (votesN l b.cut : Int))) = none := List.find?_eq_none.2 (fun b hb => by
      obtain ⟨j, hj, rfl⟩ := List.getElem_of_mem hb
      have := ldr_ge l l.length j hj
      have hg : l.getD j bal0 = l[j] := by simp [hj]
      rw [hg] at this
      have := of_decide_eq_true h
      simp only [decide_eq_true_eq]
      omega)
    rw [hn]
    rfl
theorem win_yes {v : View} {l : List Bal} (hb : boxB v l = true) (h : decide ((ldr l l.length).2 < fastB v.mem.length) = false) : winR v l = ((ldr l l.length).1, true) := by
  have hv : viewB v = true := by
    simp only [boxB, Bool.and_eq_true] at hb
    exact hb.1
  have hl := box_le hb
  have hn := view_n hv
  have hf := fast_n hv
  have h := of_decide_eq_false h
  rcases ldr_at l l.length with e | ⟨j, hj, e⟩
  · rw [e] at h
    simp only at h
    omega
  · rw [e] at h ⊢
    simp only at h ⊢
    have hg : l.getD j bal0 = l[j] := by simp [hj]
    rw [hg] at h ⊢
    unfold winR
    rw [hb]
    cases hf2 : l.find? (fun b => decide (fastB v.mem.length ≤ (votesN l b.cut : Int))) with
    | none =>
      have := List.find?_eq_none.1 hf2 _ (List.getElem_mem hj)
      simp only [decide_eq_true_eq] at this
      omega
    | some b =>
      have hp := List.find?_some hf2
      simp only [decide_eq_true_eq] at hp
      have : b.cut = l[j].cut := Classical.byContradiction fun hne => by
        have := votes_two (l := l) hne
        omega
      simp only [Bool.not_true, cond_false, this]
theorem ldr_len {l : List Bal} {N : Nat} (hc : ∀ b ∈ l, b.cut.length ≤ N) : (ldr l l.length).1.length ≤ N := by
  rcases ldr_at l l.length with e | ⟨j, hj, e⟩
  · rw [e]
    exact Nat.zero_le _
  · rw [e]
    have hg : l.getD j bal0 = l[j] := by simp [hj]
    rw [hg]
    exact hc _ (List.getElem_mem hj)
theorem c_fastvote_leader (l : List Bal) (hl : l.length ≤ 500000) (hc : ∀ b ∈ l, b.cut.length ≤ 1000000) : Ret Tryz.prog 111 [.lst 2 (l.map balE) false] (.tup [.lst 1 ((ldr l l.length).1.map intE) false, i64 (ldr l l.length).2]) := by
  have hl' : l.length ≤ 9223372036854775807 := by omega
  have hll := ldr_len hc
  refine ret_of_body (fn := Tryz.f111) (c := Tryz.f111.body.getD .skip) hm hT (by kernel_rfl) Tryz.func111 (by kernel_rfl) (by kernel_rfl) (by kernel_rfl) (by kernel_rfl) ?_
  repeat' ((conv => whnf); first | refine And.intro (fun h => h) ?_ | refine dcond_t (by assumption) ?_ | refine dcond_f (by assumption) ?_ | (refine dcond_intro ?_ ?_ <;> intro h) | exact .refl | refine And.intro (by kernel_rfl) ?_ | refine And.intro ⟨fun h => h, fun h => h⟩ ?_ | refine Exists.intro false ?_ | (refine And.intro ?_ ?_; focus (simp; done)) | fail)
  refine ⟨Nat, fun i => ⟨[(0, .lst 2 (l.map balE) false), (2, .lst 1 ((ldr l i).1.map intE) false), (3, i64 (ldr l i).2), (7, i64 (l.map balE).length), (8, i64 i)], []⟩, fun i => i ≤ l.length, fun i => l.length - i, [], ⟨0, Nat.zero_le _, ?_⟩, ?_⟩
  · conv => whnf
    exact ⟨⟨.refl, .nl, .refl, .refl, .refl, trivial⟩, trivial, rfl⟩
  · intro i hi
    repeat' ((conv => whnf); first | refine And.intro (fun h => h) ?_ | refine dcond_t (by assumption) ?_ | refine dcond_f (by assumption) ?_ | (refine dcond_intro ?_ ?_ <;> intro h) | exact .refl | refine And.intro (by kernel_rfl) ?_ | refine And.intro ⟨fun h => h, fun h => h⟩ ?_ | refine .inl ⟨_, _, DleAll_refl _, c_slices_Clone_int _ (by omega), ?_⟩ | refine ⟨_, _, DleAll_refl _, fun _ => c_slices_Clone_int _ (by omega), ?_⟩ | refine ⟨_, _, DleAll_refl _, c_slices_Clone_int _ (by omega), ?_⟩ | refine Exists.intro false ?_ | (refine And.intro ?_ ?_; focus (simp; done)) | fail)
    · have hlt : i < l.length := by simpa using h
      clear h
      have hg : l.getD i bal0 = l[i] := by simp [hlt]
      have e114 := c_fastvote_Votes l hl (fun b hb => Nat.le_trans (hc b hb) (by decide)) l[i].cut
      have hs : ldr l (i + 1) = bif decide ((ldr l i).2 < (votesN l l[i].cut : Int)) then (l[i].cut, (votesN l l[i].cut : Int)) else ldr l i := by
        rw [← hg]
        rfl
      repeat' ((conv => whnf); first | refine And.intro (fun h => h) ?_ | refine dcond_t (by assumption) ?_ | refine dcond_f (by assumption) ?_ | (refine dcond_intro ?_ ?_ <;> intro h) | exact .refl | refine And.intro (by kernel_rfl) ?_ | refine And.intro ⟨fun h => h, fun h => h⟩ ?_ | refine ⟨_, _, And.intro ⟨rfl, get_map hlt⟩ ?_⟩ | refine .inl ⟨_, _, DleAll_refl _, e114, ?_⟩ | refine ⟨_, _, DleAll_refl _, fun _ => e114, ?_⟩ | refine ⟨_, _, DleAll_refl _, e114, ?_⟩ | refine Exists.intro false ?_ | (refine And.intro ?_ ?_; focus (simp; done)) | fail)
      all_goals (conv => whnf)
      · refine ⟨i + 1, hlt, by simp only []; omega, ?_⟩
        conv => whnf
        rw [h, cond_true] at hs
        refine ⟨⟨.refl, dle_lst (by rw [hs]), dle_int (by rw [hs]), .refl, dle_int (wrap_succ (by omega)), trivial⟩, trivial, rfl⟩
      · refine ⟨i + 1, hlt, by simp only []; omega, ?_⟩
        conv => whnf
        rw [h, cond_false] at hs
        refine ⟨⟨.refl, dle_lst (by rw [hs]), dle_int (by rw [hs]), .refl, dle_int (wrap_succ (by omega)), trivial⟩, trivial, rfl⟩
    · have hge : ¬ i < l.length := by simpa using h
      have : i = l.length := by omega
      subst this
      clear h
      repeat' ((conv => whnf); first | refine And.intro (fun h => h) ?_ | refine dcond_t (by assumption) ?_ | refine dcond_f (by assumption) ?_ | (refine dcond_intro ?_ ?_ <;> intro h) | exact .refl | refine And.intro (by kernel_rfl) ?_ | refine And.intro ⟨fun h => h, fun h => h⟩ ?_ | refine .inl ⟨_, _, DleAll_refl _, c_slices_Clone_int _ hll, ?_⟩ | refine ⟨_, _, DleAll_refl _, fun _ => c_slices_Clone_int _ hll, ?_⟩ | refine ⟨_, _, DleAll_refl _, c_slices_Clone_int _ hll, ?_⟩ | refine Exists.intro false ?_ | (refine And.intro ?_ ?_; focus (simp; done)) | fail)
theorem c_fastvote_Winner (v : View) (hv : v.mem.length ≤ 500000) (l : List Bal) (hl : l.length ≤ 500000) (hc : ∀ b ∈ l, b.cut.length ≤ 500000) : Ret Tryz.prog 75 [.agg (viewE v), .lst 2 (l.map balE) false] (.tup [.lst 1 ((winR v l).1.map intE) false, .v (.bool (winR v l).2)]) := by
  have hl' : l.length ≤ maxLen := by simp only [maxLen]; omega
  have e40 := c_fastvote_Valid v hv l hl' hc
  have e107 := c_fastvote_leader l hl (fun b hb => Nat.le_trans (hc b hb) (by omega))
  have e108 := c_view_FastQuorum (v.mem.length : Int)
  have w0 : boxB v l = false → winR v l = ([], false) := fun h => by
    unfold winR
    rw [h]
    rfl
  have w1 := @win_no v l
  have w2 := @win_yes v l
  generalize winR v l = W at *
  generalize ldr l l.length = X at *
  generalize fastB v.mem.length = F at *
  have e108' : Ret Tryz.prog 112 [i64 ((v.mem.map intE).length : Int)] (i64 F) := by
    rw [List.length_map]
    exact e108
  refine ret_of_body (fn := Tryz.f75) (c := Tryz.f75.body.getD .skip) hm hT (by kernel_rfl) Tryz.func75 (by kernel_rfl) (by kernel_rfl) (by kernel_rfl) (by kernel_rfl) ?_
  repeat' ((conv => whnf); first | refine And.intro (fun h => h) ?_ | refine dcond_t (by assumption) ?_ | refine dcond_f (by assumption) ?_ | (refine dcond_intro ?_ ?_ <;> intro h) | exact .refl | refine And.intro (by kernel_rfl) ?_ | refine And.intro ⟨fun h => h, fun h => h⟩ ?_ | refine .inl ⟨_, _, DleAll_refl _, e40, ?_⟩ | refine ⟨_, _, DleAll_refl _, fun _ => e40, ?_⟩ | refine ⟨_, _, DleAll_refl _, e40, ?_⟩ | refine .inl ⟨_, _, DleAll_refl _, e107, ?_⟩ | refine ⟨_, _, DleAll_refl _, fun _ => e107, ?_⟩ | refine ⟨_, _, DleAll_refl _, e107, ?_⟩ | refine .inl ⟨_, _, DleAll_refl _, e108', ?_⟩ | refine ⟨_, _, DleAll_refl _, fun _ => e108', ?_⟩ | refine ⟨_, _, DleAll_refl _, e108', ?_⟩ | refine Exists.intro false ?_ | (refine And.intro ?_ ?_; focus (simp; done)) | fail)
  all_goals (conv => whnf)
  · rw [w0 (by simpa using h)]
    exact dle_tupA ⟨.nl, .refl, trivial⟩
  · rw [w1 h]
    exact dle_tupA ⟨.nl, .refl, trivial⟩
  · rename_i hb
    rw [w2 (by simpa using hb) h]
    exact .refl
end Go.Proofs.YtmbniilpgbjcfaaGreat

set_option maxRecDepth 100000
namespace Go.Proofs.YtmbniilpgbjcfaaGreat
open Go.Lift
theorem m_slices_Clone_bal (l : List Bal) (hl : l.length ≤ 1000000) : RetM Tryz.prog 73 [] [.lst 2 (l.map balE) false] [] [.row 63 2 (l.map balE)] (.own 0) := by
  refine retM_of_bodyA (fn := Tryz.f73) (c := Tryz.f73.body.getD .skip) hm hT (by kernel_rfl) Tryz.func73 (by kernel_rfl) (by kernel_rfl) (by kernel_rfl) (by kernel_rfl) (by kernel_rfl) ?_
  repeat' ((conv => whnf); first | refine And.intro (fun h => h) ?_ | refine dcond_t (by assumption) ?_ | refine dcond_f (by assumption) ?_ | (refine dcond_intro ?_ ?_ <;> intro h) | exact .refl | refine And.intro (by kernel_rfl) ?_ | refine And.intro ⟨fun h => h, fun h => h⟩ ?_ | refine Exists.intro false ?_ | (refine And.intro ?_ ?_; focus (simp; done)) | fail)
  refine And.intro (fun hnil => ?_) ?_
  · repeat' ((conv => whnf); first | refine And.intro (fun h => h) ?_ | refine dcond_t (by assumption) ?_ | refine dcond_f (by assumption) ?_ | (refine dcond_intro ?_ ?_ <;> intro h) | exact .refl | refine And.intro (by kernel_rfl) ?_ | refine And.intro ⟨fun h => h, fun h => h⟩ ?_ | refine Exists.intro false ?_ | (refine And.intro ?_ ?_; focus (simp; done)) | fail)
    all_goals (conv => whnf)
    refine ⟨[.slot 2 63 2], ?_⟩
    conv => whnf
    rw [hnil]
    exact ⟨.refl, ⟨.refl, trivial⟩, by rfl⟩
  · repeat' ((conv => whnf); first | refine And.intro (fun h => h) ?_ | refine dcond_t (by assumption) ?_ | refine dcond_f (by assumption) ?_ | (refine dcond_intro ?_ ?_ <;> intro h) | exact .refl | refine And.intro (by kernel_rfl) ?_ | refine And.intro ⟨fun h => h, fun h => h⟩ ?_ | refine Exists.intro false ?_ | (refine And.intro ?_ ?_; focus (simp; done)) | fail)
    all_goals (conv => whnf)
    refine And.intro (fits2 (by simp; omega)) ?_
    repeat' ((conv => whnf); first | refine And.intro (fun h => h) ?_ | refine dcond_t (by assumption) ?_ | refine dcond_f (by assumption) ?_ | (refine dcond_intro ?_ ?_ <;> intro h) | exact .refl | refine And.intro (by kernel_rfl) ?_ | refine And.intro ⟨fun h => h, fun h => h⟩ ?_ | refine Exists.intro false ?_ | (refine And.intro ?_ ?_; focus (simp; done)) | fail)
    all_goals (conv => whnf)
    refine ⟨[], ?_⟩
    conv => whnf
    exact ⟨.refl, ⟨.refl, trivial⟩, by rfl⟩
theorem cast_dup {v : View} {l : List Bal} {b : Bal} (h0 : (!boxB v l || !appB v b.cut) = false) (h1 : (!inB v.mem b.mem) = false) {x : Bal} (hx : x ∈ l) (he : x.mem = b.mem) : castR v l b = ([], 7) := by
  have : decide (0 ≤ ofBal l b.mem) = true := by
    cases h : decide (0 ≤ ofBal l b.mem)
    · exact absurd he (ofb_neg h x hx)
    · rfl
  simp only [castR, h0, h1, this, cond_true, cond_false]
theorem cast_new {v : View} {l : List Bal} {b : Bal} (h0 : (!boxB v l || !appB v b.cut) = false) (h1 : (!inB v.mem b.mem) = false) (hn : ∀ x ∈ l, x.mem ≠ b.mem) : castR v l b = (insB l b, 0) := by
  have : decide (0 ≤ ofBal l b.mem) = false := by
    cases h : decide (0 ≤ ofBal l b.mem)
    · rfl
    · obtain ⟨x, hx, he⟩ := ofb_pos h
      exact absurd he (hn x hx)
  simp only [castR, h0, h1, this, cond_false]
def outB (l : List Bal) (b : Bal) (i : Nat) : List Bal := if i ≤ l.length then putB l b i else insB l b
theorem outB_len (l : List Bal) (b : Bal) (i : Nat) (h : i ≤ l.length + 1) : (outB l b i).length ≤ i + 1 := by
  unfold outB
  split
  · exact putb_len l b i
  · have := insB_len l b
    omega
def sen : List DV := [i64 1001, .nl]
theorem c_fastvote_Cast (v : View) (hv : v.mem.length ≤ 400000) (l : List Bal) (hl : l.length ≤ 400000) (hc : ∀ b ∈ l, b.cut.length ≤ 400000) (b : Bal) (hb : b.cut.length ≤ 400000) : Ret Tryz.prog 21 [.agg (viewE v), .lst 2 (l.map balE) false, .agg (balE b)] (.tup [.lst 2 ((castR v l b).1.map balE) false, i64 (castR v l b).2]) := by
  have hl' : l.length ≤ maxLen := by simp only [maxLen]; omega
  have h1 : v.mem.length ≤ maxLen := by simp only [maxLen]; omega
  have e40 := c_fastvote_Valid v (by omega) l hl' (fun b hb => Nat.le_trans (hc b hb) (by omega))
  have e74 := c_fastvote_applicable v (by omega) b.cut (by omega)
  refine ret_of_body (fn := Tryz.f21) (c := Tryz.f21.body.getD .skip) hm hT (by kernel_rfl) Tryz.func21 (by kernel_rfl) (by kernel_rfl) (by kernel_rfl) (by kernel_rfl) ?_
  repeat' ((conv => whnf); first | refine And.intro (fun h => h) ?_ | refine dcond_t (by assumption) ?_ | refine dcond_f (by assumption) ?_ | (refine dcond_intro ?_ ?_ <;> intro h) | exact .refl | refine And.intro (by kernel_rfl) ?_ | refine And.intro ⟨fun h => h, fun h => h⟩ ?_ | refine .inl ⟨_, _, DleAll_refl _, e40, ?_⟩ | refine ⟨_, _, DleAll_refl _, fun _ => e40, ?_⟩ | refine ⟨_, _, DleAll_refl _, e40, ?_⟩ | refine .inl ⟨_, _, DleAll_refl _, e74, ?_⟩ | refine ⟨_, _, DleAll_refl _, fun _ => e74, ?_⟩ | refine ⟨_, _, DleAll_refl _, e74, ?_⟩ | refine .inl ⟨_, _, DleAll_refl _, c_view_Contains _ h1 _, ?_⟩ | refine ⟨_, _, DleAll_refl _, fun _ => c_view_Contains _ h1 _, ?_⟩ | refine ⟨_, _, DleAll_refl _, c_view_Contains _ h1 _, ?_⟩ | refine .inr ⟨[], [], _, [], _, _, m_slices_Clone_bal l (by omega), by rfl, trivial, ⟨.refl, trivial⟩, ?_⟩ | refine And.intro (fits2 (by simp <;> omega)) ?_ | refine Exists.intro false ?_ | (refine And.intro ?_ ?_; focus (simp; done)) | fail)
  all_goals (conv => whnf)
  · simp only [castR, h, cond_true]
    exact dle_tupA ⟨.nl, .refl, trivial⟩
  · rename_i h0
    simp only [castR, h0, h, cond_true, cond_false]
    exact dle_tupA ⟨.nl, .refl, trivial⟩
  · rename_i h0
    have h2 := h
    clear h
    have hbx : boxB v l = true ∧ viewB v = true ∧ inB v.mem b.mem = true := by
      have h3 : boxB v l = true := by
        cases hb : boxB v l
        · rw [hb] at h0; cases h0
        · rfl
      refine ⟨h3, ?_, by simpa using h2⟩
      simp only [boxB, Bool.and_eq_true] at h3
      exact h3.1
    have hbi := view_hi hbx.2.1 hbx.2.2
    have hli := ((box_iff hbx.2.1).1 hbx.1).1
    refine ⟨Nat, fun i => ⟨[(5, .lp 1 0), (8, .own 4), (9, .v (.bool (decide (frontB l b.mem < i)))), (35, .own 2), (36, i64 ((l.length + 1 : Nat) : Int)), (37, i64 i)], [.cells 24 (viewE v), .cells 63 (balE b), .row 63 2 (l.map balE ++ [sen]), .dead, .row 63 2 ((outB l b i).map balE)]⟩, fun i => i ≤ l.length + 1 ∧ ∀ j (hj : j < l.length), j < i → l[j].mem ≠ b.mem, fun i => l.length + 1 - i, [.slot 8 63 2], ⟨0, ⟨Nat.zero_le _, fun j hj h => absurd h (Nat.not_lt_zero _)⟩, ?_⟩, ?_⟩
    · conv => whnf
      refine ⟨⟨.refl, .refl, .refl, .refl, dle_int (by simp), .refl, trivial⟩, ⟨.refl, .refl, .refl, .dead, ole_row ?_, trivial⟩, by rfl⟩
      simp [outB, putB]
    · intro i ⟨hi, hall⟩
      have hol := outB_len l b i hi
      have hlr : (l.map balE ++ [sen]).length = l.length + 1 := by simp
      conv => whnf
      refine dcond_intro ?_ ?_ <;> intro h
      · have hlt1 : i < l.length + 1 := by
          have := of_decide_eq_true h
          omega
        clear h
        have hlt0 : i < (l.map balE ++ [sen]).length := by omega
        rcases Nat.lt_or_ge i l.length with hlt | hge
        · have hgi : (l.map balE ++ [sen])[i]? = some (balE l[i]) := by
            rw [List.getElem?_append_left (by simpa using hlt)]
            exact get_map hlt
          have hxi := hli _ (List.getElem_mem hlt)
          have hxh := view_hi hbx.2.1 hxi.1
          have hcx := hc _ (List.getElem_mem hlt)
          have ho1 : outB l b (i + 1) = putB l b (i + 1) := if_pos (by omega)
          have ho0 : outB l b i = putB l b i := if_pos (by omega)
          have hst1 := @putb_step1 l b i hlt
          have hst2 := @putb_step2 l b i hlt
          have hnow := @putb_now l b i hlt
          have hnot := @putb_not l b i hlt
          have hfl := @putb_flag l b i
          have hdup := fun h => cast_dup h0 h2 (List.getElem_mem hlt) h
          obtain ⟨x, hxx⟩ : ∃ x, l[i] = x := ⟨_, rfl⟩
          rw [hxx] at hgi hxi hxh hcx hst1 hst2 hnow hnot hdup
          repeat' ((conv => whnf); first | refine And.intro (fun h => h) ?_ | refine dcond_t (by assumption) ?_ | refine dcond_f (by assumption) ?_ | (refine dcond_intro ?_ ?_ <;> intro h) | exact .refl | refine And.intro (by kernel_rfl) ?_ | refine And.intro ⟨fun h => h, fun h => h⟩ ?_ | refine ⟨i, And.intro ⟨rfl, hlt0⟩ ?_⟩ | refine ⟨balE x, And.intro hgi ?_⟩ | refine ⟨balE x, hgi, ?_⟩ | refine .inl ⟨_, _, DleAll_refl _, c_slices_Clone_int b.cut (by omega), ?_⟩ | refine ⟨_, _, DleAll_refl _, fun _ => c_slices_Clone_int b.cut (by omega), ?_⟩ | refine ⟨_, _, DleAll_refl _, c_slices_Clone_int b.cut (by omega), ?_⟩ | refine .inl ⟨_, _, DleAll_refl _, c_slices_Clone_int x.cut (by omega), ?_⟩ | refine ⟨_, _, DleAll_refl _, fun _ => c_slices_Clone_int x.cut (by omega), ?_⟩ | refine ⟨_, _, DleAll_refl _, c_slices_Clone_int x.cut (by omega), ?_⟩ | refine And.intro (fits2 (by simp <;> omega)) ?_ | refine Exists.intro false ?_ | (refine And.intro ?_ ?_; focus (simp; done)) | fail)
          all_goals (conv => whnf)
          · rw [hdup (of_decide_eq_true h)]
            exact dle_tupA ⟨.nl, .refl, trivial⟩
          · rename_i hne hpl
            have hne := of_decide_eq_false hne
            have e := hnow (by
              simp only [Bool.and_eq_true, decide_eq_true_eq] at hpl ⊢
              exact ⟨hpl.1, by omega⟩)
            have hflag : true = decide (frontB l b.mem < i + 1) := by
              rw [decide_eq_true (by omega)]
            refine ⟨i + 1, ⟨by omega, fun j hj hji => ?_⟩, by simp only []; omega, ?_⟩
            · rcases Nat.lt_succ_iff_lt_or_eq.1 hji with hji | rfl
              · exact hall j hj hji
              · rw [hxx]
                exact hne
            · conv => whnf
              refine ⟨⟨.refl, .refl, dle_bool hflag, .refl, .refl, dle_int (wrap_succ (by omega)), trivial⟩, ⟨.refl, .refl, .refl, .dead, ole_row ?_, trivial⟩, by rfl⟩
              rw [ho1, ← hst1 e, ho0]
              simp [balE, dcells]
              all_goals first | exact ⟨rfl, rfl⟩ | rfl
          · exact absurd (of_decide_eq_false h) (by omega)
          · rename_i hne hpl
            have hne := of_decide_eq_false hne
            have e := hnot (by
              rw [← hpl]
              congr 1
              exact decide_eq_decide.2 ⟨fun h => by omega, fun h => by omega⟩)
            refine ⟨i + 1, ⟨by omega, fun j hj hji => ?_⟩, by simp only []; omega, ?_⟩
            · rcases Nat.lt_succ_iff_lt_or_eq.1 hji with hji | rfl
              · exact hall j hj hji
              · rw [hxx]
                exact hne
            · conv => whnf
              refine ⟨⟨.refl, .refl, dle_bool (hfl e), .refl, .refl, dle_int (wrap_succ (by omega)), trivial⟩, ⟨.refl, .refl, .refl, .dead, ole_row ?_, trivial⟩, by rfl⟩
              rw [ho1, ← hst2 e, ho0]
              simp [balE, dcells]
              all_goals first | exact ⟨rfl, rfl⟩ | rfl
          · exact absurd (of_decide_eq_false h) (by omega)
        · have hie : i = l.length := by omega
          subst hie
          have hgi : (l.map balE ++ [sen])[l.length]? = some sen := by
            rw [List.getElem?_append_right (by simp)]
            simp
          have ho1 : outB l b (l.length + 1) = insB l b := if_neg (by omega)
          have ho0 : outB l b l.length = putB l b l.length := if_pos (by omega)
          have hst1 := @putb_end1 l b
          have hst2 := @putb_end2 l b
          have hfr := frontB_le l b.mem
          have hflag : true = decide (frontB l b.mem < l.length + 1) := by
            rw [decide_eq_true (by omega)]
          repeat' ((conv => whnf); first | refine And.intro (fun h => h) ?_ | refine dcond_t (by assumption) ?_ | refine dcond_f (by assumption) ?_ | (refine dcond_intro ?_ ?_ <;> intro h) | exact .refl | refine And.intro (by kernel_rfl) ?_ | refine And.intro ⟨fun h => h, fun h => h⟩ ?_ | refine ⟨l.length, And.intro ⟨rfl, hlt0⟩ ?_⟩ | refine ⟨sen, And.intro hgi ?_⟩ | refine ⟨sen, hgi, ?_⟩ | refine .inl ⟨_, _, DleAll_refl _, c_slices_Clone_int b.cut (by omega), ?_⟩ | refine ⟨_, _, DleAll_refl _, fun _ => c_slices_Clone_int b.cut (by omega), ?_⟩ | refine ⟨_, _, DleAll_refl _, c_slices_Clone_int b.cut (by omega), ?_⟩ | refine And.intro (fits2 (by simp <;> omega)) ?_ | refine Exists.intro false ?_ | (refine And.intro ?_ ?_; focus (simp; done)) | fail)
          all_goals (conv => whnf)
          · have := of_decide_eq_true h
            omega
          · have hpl := h
            have hd : decide (frontB l b.mem < l.length) = false := by
              simp only [Bool.and_eq_true, Bool.not_eq_true'] at hpl
              exact hpl.1
            refine ⟨l.length + 1, ⟨Nat.le_refl _, fun j hj hji => hall j hj hj⟩, by simp only []; omega, ?_⟩
            conv => whnf
            refine ⟨⟨.refl, .refl, dle_bool hflag, .refl, .refl, dle_int (wrap_succ (by omega)), trivial⟩, ⟨.refl, .refl, .refl, .dead, ole_row ?_, trivial⟩, by rfl⟩
            rw [ho1, ← hst2 hd, ho0]
            simp [balE, dcells]
            all_goals first | exact ⟨rfl, rfl⟩ | rfl
          · have hpl := h
            have hd : decide (frontB l b.mem < l.length) = true := by
              cases hd : decide (frontB l b.mem < l.length)
              · rw [hd, decide_eq_true (show b.mem < 1001 by omega)] at hpl
                cases hpl
              · rfl
            refine ⟨l.length + 1, ⟨Nat.le_refl _, fun j hj hji => hall j hj hj⟩, by simp only []; omega, ?_⟩
            conv => whnf
            refine ⟨⟨.refl, .refl, dle_bool (hd.trans hflag), .refl, .refl, dle_int (wrap_succ (by omega)), trivial⟩, ⟨.refl, .refl, .refl, .dead, ole_row ?_, trivial⟩, by rfl⟩
            rw [ho1, ← hst1 hd, ho0]
      · have hie : i = l.length + 1 := by
          have := of_decide_eq_false h
          omega
        subst hie
        clear h
        repeat' ((conv => whnf); first | refine And.intro (fun h => h) ?_ | refine dcond_t (by assumption) ?_ | refine dcond_f (by assumption) ?_ | (refine dcond_intro ?_ ?_ <;> intro h) | exact .refl | refine And.intro (by kernel_rfl) ?_ | refine And.intro ⟨fun h => h, fun h => h⟩ ?_ | refine Exists.intro false ?_ | (refine And.intro ?_ ?_; focus (simp; done)) | fail)
        all_goals (conv => whnf)
        have ho1 : outB l b (l.length + 1) = insB l b := if_neg (by omega)
        rw [cast_new h0 h2 (fun x hx => by
          obtain ⟨j, hj, rfl⟩ := List.getElem_of_mem hx
          exact hall j hj (by omega)), ho1]
        exact .refl
end Go.Proofs.YtmbniilpgbjcfaaGreat

set_option maxRecDepth 100000
namespace Go.Proofs.YtmbniilpgbjcfaaGreat
open Go.Lift
def rkP (v : View) (l : List Rpt) (i : Nat) : Bool := !(decide (0 < (l.getD i rpt0).rank) && !properB v (l.getD i rpt0).rank)
def leP (m : Int) (l : List Rpt) (i : Nat) : Bool := !decide ((l.getD i rpt0).rank < m)
def prB (v : View) (l : List Rpt) : Bool := allB (rkP v l) l.length && repsB v l
theorem c_agreement_reportOf (l : List Rpt) (hl : l.length ≤ maxLen) (x : Int) : Ret Tryz.prog 96 [.lst 3 (l.map rptE) false, .v (.int .i64 x)] (.v (.int .i64 (ofB l x))) := by
  have hl' : l.length ≤ 9223372036854775807 := hl
  refine ret_of_body (fn := Tryz.f96) (c := Tryz.f96.body.getD .skip) hm hT (by kernel_rfl) Tryz.func96 (by kernel_rfl) (by kernel_rfl) (by kernel_rfl) (by kernel_rfl) ?_
  repeat' ((conv => whnf); first | refine And.intro (fun h => h) ?_ | refine dcond_t (by assumption) ?_ | refine dcond_f (by assumption) ?_ | (refine dcond_intro ?_ ?_ <;> intro h) | exact .refl | refine And.intro (by kernel_rfl) ?_ | refine And.intro ⟨fun h => h, fun h => h⟩ ?_ | refine Exists.intro false ?_ | (refine And.intro ?_ ?_; focus (simp; done)) | fail)
  refine ⟨Nat, fun i => ⟨[(1, .v (.int .i64 x)), (7, .lst 3 (l.map rptE) false), (8, i64 (l.map rptE).length), (9, i64 i)], []⟩, fun i => i ≤ l.length ∧ ∀ j, j < i → decide ((l.getD j rpt0).mem = x) = false, fun i => l.length - i, [], ⟨0, ⟨Nat.zero_le _, by omega⟩, ?_⟩, ?_⟩
  · exact ⟨by repeat' ((conv => whnf); first | exact trivial | refine And.intro (by (conv => arg 1; whnf); first | (with_reducible exact .refl) | exact dle_int (wrap_succ (by omega)) | exact .refl) ?_), by repeat' ((conv => whnf); first | exact trivial | refine And.intro ?_ ?_ | exact .refl), rfl⟩
  · intro i ⟨hi, hall⟩
    repeat' ((conv => whnf); first | refine And.intro (fun h => h) ?_ | refine dcond_t (by assumption) ?_ | refine dcond_f (by assumption) ?_ | (refine dcond_intro ?_ ?_ <;> intro h) | exact .refl | refine And.intro (by kernel_rfl) ?_ | refine And.intro ⟨fun h => h, fun h => h⟩ ?_ | refine Exists.intro false ?_ | (refine And.intro ?_ ?_; focus (simp; done)) | fail)
    · have hlt : i < l.length := by simpa using h
      repeat' ((conv => whnf); first | refine And.intro (fun h => h) ?_ | refine dcond_t (by assumption) ?_ | refine dcond_f (by assumption) ?_ | (refine dcond_intro ?_ ?_ <;> intro h) | exact .refl | refine And.intro (by kernel_rfl) ?_ | refine And.intro ⟨fun h => h, fun h => h⟩ ?_ | refine ⟨_, _, And.intro ⟨rfl, get_map hlt⟩ ?_⟩ | refine Exists.intro false ?_ | (refine And.intro ?_ ?_; focus (simp; done)) | fail)
      · have h2 := h
        refine dle_int (findB_at hlt ?_ hall).symm
        simpa [hlt] using h2
      · have h2 := h
        conv => whnf
        refine ⟨i + 1, ⟨hlt, fun j hj => ?_⟩, by simp only []; omega, ?_⟩
        · rcases Nat.lt_succ_iff_lt_or_eq.1 hj with hj | rfl
          · exact hall j hj
          · simpa [hlt] using h2
        · exact ⟨by repeat' ((conv => whnf); first | exact trivial | refine And.intro (by (conv => arg 1; whnf); first | (with_reducible exact .refl) | exact dle_int (wrap_succ (by omega)) | exact .refl) ?_), by repeat' ((conv => whnf); first | exact trivial | refine And.intro ?_ ?_ | exact .refl), rfl⟩
    · have hge : ¬ i < l.length := by simpa using h
      conv => whnf
      refine dle_int (findB_none (fun j hj => hall j (by omega))).symm
theorem c_agreement_properReports (v : View) (hv : v.mem.length ≤ 500000) (l : List Rpt) (hl : l.length ≤ maxLen) (hc : ∀ r ∈ l, r.cut.length ≤ 500000) : Ret Tryz.prog 65 [.agg (viewE v), .lst 3 (l.map rptE) false] (.v (.bool (prB v l))) := by
  have hl' : l.length ≤ 9223372036854775807 := hl
  have h1 : v.mem.length ≤ maxLen := Nat.le_trans hv (by decide)
  refine ret_of_body (fn := Tryz.f65) (c := Tryz.f65.body.getD .skip) hm hT (by kernel_rfl) Tryz.func65 (by kernel_rfl) (by kernel_rfl) (by kernel_rfl) (by kernel_rfl) ?_
  repeat' ((conv => whnf); first | refine And.intro (fun h => h) ?_ | refine dcond_t (by assumption) ?_ | refine dcond_f (by assumption) ?_ | (refine dcond_intro ?_ ?_ <;> intro h) | exact .refl | refine And.intro (by kernel_rfl) ?_ | refine And.intro ⟨fun h => h, fun h => h⟩ ?_ | refine Exists.intro false ?_ | (refine And.intro ?_ ?_; focus (simp; done)) | fail)
  refine ⟨Nat, fun i => ⟨[(1, .lst 3 (l.map rptE) false), (2, .lp 0 0), (7, .lst 3 (l.map rptE) false), (8, i64 (l.map rptE).length), (9, i64 i)], [.cells 24 (viewE v)]⟩, fun i => i ≤ l.length ∧ ∀ j, j < i → rkP v l j = true, fun i => l.length - i, [], ⟨0, ⟨Nat.zero_le _, by omega⟩, ?_⟩, ?_⟩
  · exact ⟨by repeat' ((conv => whnf); first | exact trivial | refine And.intro (by (conv => arg 1; whnf); first | (with_reducible exact .refl) | exact dle_int (wrap_succ (by omega)) | exact .refl) ?_), by repeat' ((conv => whnf); first | exact trivial | refine And.intro ?_ ?_ | exact .refl), rfl⟩
  · intro i ⟨hi, hall⟩
    conv => whnf
    refine dcond_intro ?_ ?_ <;> intro h
    · have hlt : i < l.length := by simpa using h
      clear h
      have hg : l.getD i rpt0 = l[i] := by simp [hlt]
      repeat' ((conv => whnf); first | refine And.intro (fun h => h) ?_ | refine dcond_t (by assumption) ?_ | refine dcond_f (by assumption) ?_ | (refine dcond_intro ?_ ?_ <;> intro h) | exact .refl | refine And.intro (by kernel_rfl) ?_ | refine And.intro ⟨fun h => h, fun h => h⟩ ?_ | refine ⟨_, _, And.intro ⟨rfl, get_map hlt⟩ ?_⟩ | refine .inl ⟨_, _, DleAll_refl _, c_agreement_proper _ h1 _, ?_⟩ | refine ⟨_, _, DleAll_refl _, fun _ => c_agreement_proper _ h1 _, ?_⟩ | refine ⟨_, _, DleAll_refl _, c_agreement_proper _ h1 _, ?_⟩ | refine Exists.intro false ?_ | (refine And.intro ?_ ?_; focus (simp; done)) | fail)
      all_goals (conv => whnf)
      · refine dle_bool ?_
        rw [prB, allB_false hlt (by rw [rkP, hg, h]; rfl), Bool.false_and]
      · refine ⟨i + 1, ⟨hlt, fun j hj => ?_⟩, by simp only []; omega, ?_⟩
        · rcases Nat.lt_succ_iff_lt_or_eq.1 hj with hj | rfl
          · exact hall j hj
          · rw [rkP, hg, h]; rfl
        · exact ⟨by repeat' ((conv => whnf); first | exact trivial | refine And.intro (by (conv => arg 1; whnf); first | (with_reducible exact .refl) | exact dle_int (wrap_succ (by omega)) | exact .refl) ?_), by repeat' ((conv => whnf); first | exact trivial | refine And.intro ?_ ?_ | exact .refl), rfl⟩
    · have hge : ¬ i < l.length := by simpa using h
      clear h
      repeat' ((conv => whnf); first | refine And.intro (fun h => h) ?_ | refine dcond_t (by assumption) ?_ | refine dcond_f (by assumption) ?_ | (refine dcond_intro ?_ ?_ <;> intro h) | exact .refl | refine And.intro (by kernel_rfl) ?_ | refine And.intro ⟨fun h => h, fun h => h⟩ ?_ | refine .inl ⟨_, _, DleAll_refl _, c_paxos_ValidReports _ hv _ hl hc, ?_⟩ | refine ⟨_, _, DleAll_refl _, fun _ => c_paxos_ValidReports _ hv _ hl hc, ?_⟩ | refine ⟨_, _, DleAll_refl _, c_paxos_ValidReports _ hv _ hl hc, ?_⟩ | refine Exists.intro false ?_ | (refine And.intro ?_ ?_; focus (simp; done)) | fail)
      all_goals (conv => whnf)
      all_goals (refine dle_bool ?_)
      all_goals (rw [prB, allB_true.2 (fun j hj => hall j (by omega))])
      all_goals rfl
theorem c_ref10_ranks (v : View) (hv : v.mem.length ≤ 500000) (l : List Rpt) (hl : l.length ≤ maxLen) (m : Int) : Ret Tryz.prog 85 [.agg (viewE v), .lst 3 (l.map rptE) false, i64 m] (.v (.bool (allB (fun i => leP m l i && rkP v l i) l.length))) := by
  have hl' : l.length ≤ 9223372036854775807 := hl
  have h1 : v.mem.length ≤ maxLen := Nat.le_trans hv (by decide)
  refine ret_of_body (fn := Tryz.f85) (c := Tryz.f85.body.getD .skip) hm hT (by kernel_rfl) Tryz.func85 (by kernel_rfl) (by kernel_rfl) (by kernel_rfl) (by kernel_rfl) ?_
  repeat' ((conv => whnf); first | refine And.intro (fun h => h) ?_ | refine dcond_t (by assumption) ?_ | refine dcond_f (by assumption) ?_ | (refine dcond_intro ?_ ?_ <;> intro h) | exact .refl | refine And.intro (by kernel_rfl) ?_ | refine And.intro ⟨fun h => h, fun h => h⟩ ?_ | refine Exists.intro false ?_ | (refine And.intro ?_ ?_; focus (simp; done)) | fail)
  refine ⟨Nat, fun i => ⟨[(1, .lst 3 (l.map rptE) false), (2, i64 m), (3, .lp 0 0), (7, i64 i)], [.cells 24 (viewE v)]⟩, fun i => i ≤ l.length ∧ ∀ j, j < i → (leP m l j && rkP v l j) = true, fun i => l.length - i, [], ⟨0, ⟨Nat.zero_le _, by omega⟩, ?_⟩, ?_⟩
  · exact ⟨by repeat' ((conv => whnf); first | exact trivial | refine And.intro (by (conv => arg 1; whnf); first | (with_reducible exact .refl) | exact dle_int (wrap_succ (by omega)) | exact .refl) ?_), by repeat' ((conv => whnf); first | exact trivial | refine And.intro ?_ ?_ | exact .refl), rfl⟩
  · intro i ⟨hi, hall⟩
    conv => whnf
    refine dcond_intro ?_ ?_ <;> intro h
    · have hlt : i < l.length := by simpa using h
      clear h
      have hg : l.getD i rpt0 = l[i] := by simp [hlt]
      have hq : (leP m l i && rkP v l i) = !(decide (l[i].rank < m) || decide (0 < l[i].rank) && !properB v l[i].rank) := by
        rw [leP, rkP, hg, Bool.not_or]
      repeat' ((conv => whnf); first | refine And.intro (fun h => h) ?_ | refine dcond_t (by assumption) ?_ | refine dcond_f (by assumption) ?_ | (refine dcond_intro ?_ ?_ <;> intro h) | exact .refl | refine And.intro (by kernel_rfl) ?_ | refine And.intro ⟨fun h => h, fun h => h⟩ ?_ | refine ⟨_, _, And.intro ⟨rfl, get_map hlt⟩ ?_⟩ | refine .inl ⟨_, _, DleAll_refl _, c_ref10_Proper _ h1 _, ?_⟩ | refine ⟨_, _, DleAll_refl _, fun _ => c_ref10_Proper _ h1 _, ?_⟩ | refine ⟨_, _, DleAll_refl _, c_ref10_Proper _ h1 _, ?_⟩ | refine ⟨i, rptE (l[i]'hlt), And.intro ⟨⟨fun h => h, fun h => h⟩, fun hg => ⟨rfl, get_map hlt⟩⟩ ?_⟩ | refine Exists.intro false ?_ | (refine And.intro ?_ ?_; focus (simp; done)) | fail)
      all_goals (conv => whnf)
      · refine dle_bool ?_
        rw [allB_false hlt (by rw [hq, h]; rfl)]
      · refine ⟨i + 1, ⟨hlt, fun j hj => ?_⟩, by simp only []; omega, ?_⟩
        · rcases Nat.lt_succ_iff_lt_or_eq.1 hj with hj | rfl
          · exact hall j hj
          · rw [hq, h]; rfl
        · exact ⟨by repeat' ((conv => whnf); first | exact trivial | refine And.intro (by (conv => arg 1; whnf); first | (with_reducible exact .refl) | exact dle_int (wrap_succ (by omega)) | exact .refl) ?_), by repeat' ((conv => whnf); first | exact trivial | refine And.intro ?_ ?_ | exact .refl), rfl⟩
    · have hge : ¬ i < l.length := by simpa using h
      clear h
      conv => whnf
      refine dle_bool ?_
      rw [allB_true.2 (fun j hj => hall j (by omega))]
def phaseB (s : Agr) : Bool :=
  bif !decide (s.rank = 0) && (!properB s.view s.rank || !decide (ownerOf s.rank = s.self)) then false
  else bif !(decide (0 < (s.cho.length : Int)) == decide (s.phase = 2)) then false
  else bif decide (s.phase = 0) then decide ((s.reps.length : Int) = 0)
  else bif decide (s.phase = 1) || decide (s.phase = 2) then
    !decide (s.rank = 0) && decide (0 < (s.prop.length : Int)) && decide (0 ≤ ofB s.reps s.self) && (decide ((s.reps.length : Int) < majB s.view.mem.length) || decide (s.phase = 2))
  else false
structure SmA (s : Agr) : Prop where
  mem : s.view.mem.length ≤ 1000
  acut : s.acc.cut.length ≤ 1000
  prop : s.prop.length ≤ 1000
  box : s.box.length ≤ 1000
  boxc : ∀ b ∈ s.box, b.cut.length ≤ 1000
  reps : s.reps.length ≤ 1000
  repc : ∀ b ∈ s.reps, b.cut.length ≤ 1000
  cho : s.cho.length ≤ 1000
  accs : s.accs.length ≤ 1000
  accc : ∀ b ∈ s.accs, b.cut.length ≤ 1000
  dec : s.dec.length ≤ 1000
theorem mx {n : Nat} (h : n ≤ 1000) : n ≤ maxLen := by simp only [maxLen]; omega
theorem c_agreement_validPhase (s : Agr) (hs : SmA s) : Ret Tryz.prog 66 [.agg (agrE s)] (.v (.bool (phaseB s))) := by
  refine ret_of_body (fn := Tryz.f66) (c := Tryz.f66.body.getD .skip) hm hT (by kernel_rfl) Tryz.func66 (by kernel_rfl) (by kernel_rfl) (by kernel_rfl) (by kernel_rfl) ?_
  repeat' ((conv => whnf); first | refine And.intro (fun h => h) ?_ | refine dcond_t (by assumption) ?_ | refine dcond_f (by assumption) ?_ | (refine dcond_intro ?_ ?_ <;> intro h) | exact .refl | refine And.intro (by kernel_rfl) ?_ | refine And.intro ⟨fun h => h, fun h => h⟩ ?_ | refine .inl ⟨_, _, DleAll_refl _, c_agreement_proper _ (mx hs.mem) _, ?_⟩ | refine ⟨_, _, DleAll_refl _, fun _ => c_agreement_proper _ (mx hs.mem) _, ?_⟩ | refine ⟨_, _, DleAll_refl _, c_agreement_proper _ (mx hs.mem) _, ?_⟩ | refine .inl ⟨_, _, DleAll_refl _, c_paxos_Owner _, ?_⟩ | refine ⟨_, _, DleAll_refl _, fun _ => c_paxos_Owner _, ?_⟩ | refine ⟨_, _, DleAll_refl _, c_paxos_Owner _, ?_⟩ | refine .inl ⟨_, _, DleAll_refl _, c_view_Majority _, ?_⟩ | refine ⟨_, _, DleAll_refl _, fun _ => c_view_Majority _, ?_⟩ | refine ⟨_, _, DleAll_refl _, c_view_Majority _, ?_⟩ | refine .inl ⟨_, _, DleAll_refl _, c_agreement_reportOf _ (mx hs.reps) _, ?_⟩ | refine ⟨_, _, DleAll_refl _, fun _ => c_agreement_reportOf _ (mx hs.reps) _, ?_⟩ | refine ⟨_, _, DleAll_refl _, c_agreement_reportOf _ (mx hs.reps) _, ?_⟩ | refine Exists.intro false ?_ | (refine And.intro ?_ ?_; focus (simp; done)) | fail)
  all_goals (conv => whnf)
  all_goals (refine dle_bool ?_)
  all_goals (try simp only [List.length_map] at *)
  all_goals (simp only [phaseB, *, cond_true, cond_false, Bool.true_or, Bool.or_true, Bool.false_or, Bool.or_false, Bool.or_self])
  all_goals (generalize decide (0 < (s.cho.length : Int)) = q at *)
  all_goals (cases q <;> simp_all)
def agrB (s : Agr) : Bool :=
  bif !viewB s.view || !inB s.view.mem s.self || decide (s.wait < 0) || decide (1099511627776 < s.wait) then false
  else bif !accB s.acc || !decide (s.acc.pro = 0) && !properB s.view s.acc.pro || decide (0 < s.acc.rank) && !properB s.view s.acc.rank || !goodB s.view s.acc.cut then false
  else bif !goodB s.view s.prop || !goodB s.view s.cho || !goodB s.view s.dec || !boxB s.view s.box then false
  else bif (cutOf s.box s.self).2 && !sameI (cutOf s.box s.self).1 s.prop then false
  else allB (leP 1 s.accs) s.accs.length && (prB s.view s.reps && prB s.view s.accs && phaseB s)
theorem c_agreement_Valid (s : Agr) (hs : SmA s) : Ret Tryz.prog 16 [.agg (agrE s)] (.v (.bool (agrB s))) := by
  have hvm := mx hs.mem
  have hcut : (cutOf s.box s.self).1.length ≤ maxLen := by
    unfold cutOf
    cases decide (0 ≤ ofBal s.box s.self)
    · exact Nat.zero_le _
    · rcases Nat.lt_or_ge (ofBal s.box s.self).toNat s.box.length with h | h
      · simp only [cond_true, List.getD_eq_getElem?_getD, List.getElem?_eq_getElem h, Option.getD_some]
        exact mx (hs.boxc _ (List.getElem_mem h))
      · simp only [cond_true, List.getD_eq_getElem?_getD, List.getElem?_eq_none h, Option.getD_none]
        exact Nat.zero_le _
  have e1 := c_agreement_ballotOf s.box (mx hs.box) s.self
  have e2 := c_fastvote_Same (cutOf s.box s.self).1 s.prop hcut
  have e3 := c_fastvote_Valid s.view (by have := hs.mem; omega) s.box (mx hs.box) (fun b hb => by have := hs.boxc b hb; omega)
  have e4 := c_agreement_properReports s.view (by have := hs.mem; omega) s.reps (mx hs.reps) (fun b hb => by have := hs.repc b hb; omega)
  have e5 := c_agreement_properReports s.view (by have := hs.mem; omega) s.accs (mx hs.accs) (fun b hb => by have := hs.accc b hb; omega)
  have e6 := c_agreement_validPhase s hs
  have o1 := c_agreement_optional s.view (by have := hs.mem; omega) s.acc.cut (by have := hs.acut; omega)
  have o2 := c_agreement_optional s.view (by have := hs.mem; omega) s.prop (by have := hs.prop; omega)
  have o3 := c_agreement_optional s.view (by have := hs.mem; omega) s.cho (by have := hs.cho; omega)
  have o4 := c_agreement_optional s.view (by have := hs.mem; omega) s.dec (by have := hs.dec; omega)
  have pv := c_paxos_Valid s.acc (mx hs.acut)
  have hal : s.accs.length ≤ 1000 := hs.accs
  unfold agrB
  generalize cutOf s.box s.self = C at *
  generalize boxB s.view s.box = B1 at *
  generalize prB s.view s.reps = B2 at *
  generalize prB s.view s.accs = B3 at *
  generalize phaseB s = B4 at *
  generalize accB s.acc = B5 at *
  generalize goodB s.view s.acc.cut = B6 at *
  refine ret_of_body (fn := Tryz.f16) (c := Tryz.f16.body.getD .skip) hm hT (by kernel_rfl) Tryz.func16 (by kernel_rfl) (by kernel_rfl) (by kernel_rfl) (by kernel_rfl) ?_
  repeat' ((conv => whnf); first | refine And.intro (fun h => h) ?_ | refine dcond_t (by assumption) ?_ | refine dcond_f (by assumption) ?_ | (refine dcond_intro ?_ ?_ <;> intro h) | exact .refl | refine And.intro (by kernel_rfl) ?_ | refine And.intro ⟨fun h => h, fun h => h⟩ ?_ | refine .inl ⟨_, _, DleAll_refl _, c_view_Valid _ hvm, ?_⟩ | refine ⟨_, _, DleAll_refl _, fun _ => c_view_Valid _ hvm, ?_⟩ | refine ⟨_, _, DleAll_refl _, c_view_Valid _ hvm, ?_⟩ | refine .inl ⟨_, _, DleAll_refl _, c_view_Contains _ hvm _, ?_⟩ | refine ⟨_, _, DleAll_refl _, fun _ => c_view_Contains _ hvm _, ?_⟩ | refine ⟨_, _, DleAll_refl _, c_view_Contains _ hvm _, ?_⟩ | refine .inl ⟨_, _, DleAll_refl _, pv, ?_⟩ | refine ⟨_, _, DleAll_refl _, fun _ => pv, ?_⟩ | refine ⟨_, _, DleAll_refl _, pv, ?_⟩ | refine .inl ⟨_, _, DleAll_refl _, c_agreement_proper _ hvm _, ?_⟩ | refine ⟨_, _, DleAll_refl _, fun _ => c_agreement_proper _ hvm _, ?_⟩ | refine ⟨_, _, DleAll_refl _, c_agreement_proper _ hvm _, ?_⟩ | refine .inl ⟨_, _, DleAll_refl _, o1, ?_⟩ | refine ⟨_, _, DleAll_refl _, fun _ => o1, ?_⟩ | refine ⟨_, _, DleAll_refl _, o1, ?_⟩ | refine .inl ⟨_, _, DleAll_refl _, o2, ?_⟩ | refine ⟨_, _, DleAll_refl _, fun _ => o2, ?_⟩ | refine ⟨_, _, DleAll_refl _, o2, ?_⟩ | refine .inl ⟨_, _, DleAll_refl _, o3, ?_⟩ | refine ⟨_, _, DleAll_refl _, fun _ => o3, ?_⟩ | refine ⟨_, _, DleAll_refl _, o3, ?_⟩ | refine .inl ⟨_, _, DleAll_refl _, o4, ?_⟩ | refine ⟨_, _, DleAll_refl _, fun _ => o4, ?_⟩ | refine ⟨_, _, DleAll_refl _, o4, ?_⟩ | refine .inl ⟨_, _, DleAll_refl _, e3, ?_⟩ | refine ⟨_, _, DleAll_refl _, fun _ => e3, ?_⟩ | refine ⟨_, _, DleAll_refl _, e3, ?_⟩ | refine .inl ⟨_, _, DleAll_refl _, e1, ?_⟩ | refine ⟨_, _, DleAll_refl _, fun _ => e1, ?_⟩ | refine ⟨_, _, DleAll_refl _, e1, ?_⟩ | refine .inl ⟨_, _, DleAll_refl _, e2, ?_⟩ | refine ⟨_, _, DleAll_refl _, fun _ => e2, ?_⟩ | refine ⟨_, _, DleAll_refl _, e2, ?_⟩ | refine Exists.intro false ?_ | (refine And.intro ?_ ?_; focus (simp; done)) | fail)
  all_goals (conv => whnf)
  · refine dle_bool ?_
    simp only [h, cond_true]
  · rename_i h1
    refine dle_bool ?_
    simp only [h1, h, cond_true, cond_false]
  · rename_i h1 h2
    refine dle_bool ?_
    simp only [h1, h2, h, cond_true, cond_false]
  · rename_i h1 h2 h3
    refine dle_bool ?_
    simp only [h1, h2, h3, h, cond_true, cond_false]
  · rename_i h1 h2 h3
    simp only [h1, h2, h3, h, cond_false]
    clear h1 h2 h3 h
    refine ⟨Nat, fun i => ⟨[(1, .lp 0 0), (3, .lp 1 0), (111, .lst 3 (s.accs.map rptE) false), (112, i64 s.accs.length), (113, i64 i)], [.cells 30 (agrE s), .cells 24 (viewE s.view)]⟩, fun i => i ≤ s.accs.length ∧ ∀ j, j < i → leP 1 s.accs j = true, fun i => s.accs.length - i, [], ⟨0, ⟨Nat.zero_le _, by omega⟩, ?_⟩, ?_⟩
    · conv => whnf
      exact ⟨⟨.refl, .refl, .refl, dle_int (by simp), .refl, trivial⟩, ⟨.refl, .refl, trivial⟩, by rfl⟩
    · intro i ⟨hi, hall⟩
      conv => whnf
      refine dcond_intro ?_ ?_ <;> intro h
      · have hlt : i < s.accs.length := by simpa using h
        clear h
        have hg : s.accs.getD i rpt0 = s.accs[i] := by simp [hlt]
        repeat' ((conv => whnf); first | refine And.intro (fun h => h) ?_ | refine dcond_t (by assumption) ?_ | refine dcond_f (by assumption) ?_ | (refine dcond_intro ?_ ?_ <;> intro h) | exact .refl | refine And.intro (by kernel_rfl) ?_ | refine And.intro ⟨fun h => h, fun h => h⟩ ?_ | refine ⟨_, _, And.intro ⟨rfl, get_map hlt⟩ ?_⟩ | refine Exists.intro false ?_ | (refine And.intro ?_ ?_; focus (simp; done)) | fail)
        all_goals (conv => whnf)
        · refine dle_bool ?_
          rw [allB_false hlt (by rw [leP, hg, h]; rfl), Bool.false_and]
        · refine ⟨i + 1, ⟨hlt, fun j hj => ?_⟩, by simp only []; omega, ?_⟩
          · rcases Nat.lt_succ_iff_lt_or_eq.1 hj with hj | rfl
            · exact hall j hj
            · rw [leP, hg, h]; rfl
          · conv => whnf
            exact ⟨⟨.refl, .refl, .refl, .refl, dle_int (wrap_succ (by omega)), trivial⟩, ⟨.refl, .refl, trivial⟩, by rfl⟩
      · have hge : ¬ i < s.accs.length := by simpa using h
        clear h
        rw [allB_true.2 (fun j hj => hall j (by omega)), Bool.true_and]
        repeat' ((conv => whnf); first | refine And.intro (fun h => h) ?_ | refine dcond_t (by assumption) ?_ | refine dcond_f (by assumption) ?_ | (refine dcond_intro ?_ ?_ <;> intro h) | exact .refl | refine And.intro (by kernel_rfl) ?_ | refine And.intro ⟨fun h => h, fun h => h⟩ ?_ | refine .inl ⟨_, _, DleAll_refl _, e4, ?_⟩ | refine ⟨_, _, DleAll_refl _, fun _ => e4, ?_⟩ | refine ⟨_, _, DleAll_refl _, e4, ?_⟩ | refine .inl ⟨_, _, DleAll_refl _, e5, ?_⟩ | refine ⟨_, _, DleAll_refl _, fun _ => e5, ?_⟩ | refine ⟨_, _, DleAll_refl _, e5, ?_⟩ | refine .inl ⟨_, _, DleAll_refl _, e6, ?_⟩ | refine ⟨_, _, DleAll_refl _, fun _ => e6, ?_⟩ | refine ⟨_, _, DleAll_refl _, e6, ?_⟩ | refine Exists.intro false ?_ | (refine And.intro ?_ ?_; focus (simp; done)) | fail)
end Go.Proofs.YtmbniilpgbjcfaaGreat

set_option maxRecDepth 100000
namespace Go.Proofs.YtmbniilpgbjcfaaGreat
open Go.Lift
def z3 : List DV := [i64 0, i64 0, .nl]
def z2 : List DV := [i64 0, .nl]
theorem fill_set {α : Type} {f : α → List DV} {z : List DV} {l : List α} {i : Nat} (h : i < l.length) : ((l.take i).map f ++ List.replicate (l.length - i) z).set i (f l[i]) = (l.take (i + 1)).map f ++ List.replicate (l.length - (i + 1)) z := by
  have hl : ((l.take i).map f).length = i := by simp; omega
  rw [List.set_append_right _ _ (by omega), hl, Nat.sub_self]
  obtain ⟨m, hm⟩ : ∃ m, l.length - i = m + 1 := ⟨l.length - i - 1, by omega⟩
  rw [hm, List.replicate_succ, List.set_cons_zero, List.take_succ_eq_append_getElem h, List.map_append, show l.length - (i + 1) = m by omega]
  simp
theorem fill_len {α : Type} {f : α → List DV} {z : List DV} {l : List α} {i : Nat} (h : i ≤ l.length) : ((l.take i).map f ++ List.replicate (l.length - i) z).length = l.length := by
  simp; omega
theorem fill_get {α : Type} {f : α → List DV} {z : List DV} {l : List α} {i : Nat} (h : i < l.length) : ((l.take i).map f ++ List.replicate (l.length - i) z)[i]? = some z := by
  have hl : ((l.take i).map f).length = i := by simp; omega
  rw [List.getElem?_append_right (by omega), hl, Nat.sub_self]
  obtain ⟨m, hm⟩ : ∃ m, l.length - i = m + 1 := ⟨l.length - i - 1, by omega⟩
  rw [hm]
  rfl
theorem fill_end {α : Type} {f : α → List DV} {z : List DV} {l : List α} : (l.take l.length).map f ++ List.replicate (l.length - l.length) z = l.map f := by simp
theorem byR {n : Nat} (h : n ≤ 1000000) : n * (tinfo tt 51).bytes ≤ 140737488355328 ∧ n ≤ maxLen := by
  have e : (tinfo tt 51).bytes = 40 := by kernel_rfl
  refine ⟨?_, ?_⟩
  · rw [e]; omega
  · simp only [maxLen]; omega
theorem byB {n : Nat} (h : n ≤ 1000000) : n * (tinfo tt 63).bytes ≤ 140737488355328 ∧ n ≤ maxLen := by
  have e : (tinfo tt 63).bytes = 32 := by kernel_rfl
  refine ⟨?_, ?_⟩
  · rw [e]; omega
  · simp only [maxLen]; omega
theorem c_agreement_cloneReports (l : List Rpt) (hl : l.length ≤ 1000000) (hc : ∀ r ∈ l, r.cut.length ≤ 1000000) : Ret Tryz.prog 68 [.lst 3 (l.map rptE) false] (.lst 3 (l.map rptE) false) := by
  have hby := byR (n := (l.map rptE).length) (by simp; omega)
  refine ret_of_body (fn := Tryz.f68) (c := Tryz.f68.body.getD .skip) hm hT (by kernel_rfl) Tryz.func68 (by kernel_rfl) (by kernel_rfl) (by kernel_rfl) (by kernel_rfl) ?_
  repeat' ((conv => whnf); first | refine And.intro (fun h => h) ?_ | refine dcond_t (by assumption) ?_ | refine dcond_f (by assumption) ?_ | (refine dcond_intro ?_ ?_ <;> intro h) | exact .refl | refine And.intro (by kernel_rfl) ?_ | refine And.intro ⟨fun h => h, fun h => h⟩ ?_ | refine ⟨(l.map rptE).length, (l.map rptE).length, rfl, rfl, Nat.le_refl _, hby.1, hby.2, ?_⟩ | refine Exists.intro false ?_ | (refine And.intro ?_ ?_; focus (simp; done)) | fail)
  all_goals (conv => whnf)
  refine ⟨Nat, fun i => ⟨[(3, .own 0), (9, .lst 3 (l.map rptE) false), (10, i64 l.length), (11, i64 i)], [.row 51 3 ((l.take i).map rptE ++ List.replicate (l.length - i) z3)]⟩, fun i => i ≤ l.length, fun i => l.length - i, [], ⟨0, Nat.zero_le _, ?_⟩, ?_⟩
  · conv => whnf
    refine ⟨⟨.refl, .refl, dle_int (by simp), .refl, trivial⟩, ⟨ole_row ?_, trivial⟩, by rfl⟩
    rw [List.length_map]
    rfl
  · intro i hi
    conv => whnf
    refine dcond_intro ?_ ?_ <;> intro h
    · have hlt : i < l.length := by simpa using h
      clear h
      have hlen := fill_len (f := rptE) (z := z3) (l := l) (i := i) hi
      have hl0 : i < ((l.take i).map rptE ++ List.replicate (l.length - i) z3).length := by omega
      have hget := fill_get (f := rptE) (z := z3) hlt
      have hset := fill_set (f := rptE) (z := z3) hlt
      repeat' ((conv => whnf); first | refine And.intro (fun h => h) ?_ | refine dcond_t (by assumption) ?_ | refine dcond_f (by assumption) ?_ | (refine dcond_intro ?_ ?_ <;> intro h) | exact .refl | refine And.intro (by kernel_rfl) ?_ | refine And.intro ⟨fun h => h, fun h => h⟩ ?_ | refine ⟨_, _, And.intro ⟨rfl, get_map hlt⟩ ?_⟩ | refine .inl ⟨_, _, DleAll_refl _, c_agreement_clone _ (hc _ (List.getElem_mem hlt)), ?_⟩ | refine ⟨_, _, DleAll_refl _, fun _ => c_agreement_clone _ (hc _ (List.getElem_mem hlt)), ?_⟩ | refine ⟨_, _, DleAll_refl _, c_agreement_clone _ (hc _ (List.getElem_mem hlt)), ?_⟩ | refine ⟨i, And.intro ⟨rfl, hl0⟩ ?_⟩ | refine ⟨z3, And.intro hget ?_⟩ | refine ⟨z3, hget, ?_⟩ | refine Exists.intro false ?_ | (refine And.intro ?_ ?_; focus (simp; done)) | fail)
      all_goals (conv => whnf)
      refine ⟨i + 1, hlt, by simp only []; omega, ?_⟩
      conv => whnf
      refine ⟨⟨.refl, .refl, .refl, dle_int (wrap_succ (by omega)), trivial⟩, ⟨ole_row ?_, trivial⟩, by rfl⟩
      rw [← hset]
      rfl
    · have hge : ¬ i < l.length := by simpa using h
      have : i = l.length := by omega
      subst this
      clear h
      rw [fill_end]
      repeat' ((conv => whnf); first | refine And.intro (fun h => h) ?_ | refine dcond_t (by assumption) ?_ | refine dcond_f (by assumption) ?_ | (refine dcond_intro ?_ ?_ <;> intro h) | exact .refl | refine And.intro (by kernel_rfl) ?_ | refine And.intro ⟨fun h => h, fun h => h⟩ ?_ | refine Exists.intro false ?_ | (refine And.intro ?_ ?_; focus (simp; done)) | fail)
end Go.Proofs.YtmbniilpgbjcfaaGreat

set_option maxRecDepth 100000
namespace Go.Proofs.YtmbniilpgbjcfaaGreat
open Go.Lift
theorem m_cloneReports (l : List Rpt) (hl : l.length ≤ 1000000) (hc : ∀ r ∈ l, r.cut.length ≤ 1000000) : RetM Tryz.prog 68 [] [.lst 3 (l.map rptE) false] [] [.row 51 3 (l.map rptE)] (.own 0) := by
  have hby := byR (n := (l.map rptE).length) (by simp; omega)
  refine retM_of_body (fn := Tryz.f68) (c := Tryz.f68.body.getD .skip) hm hT (by kernel_rfl) Tryz.func68 (by kernel_rfl) (by kernel_rfl) (by kernel_rfl) (by kernel_rfl) (by kernel_rfl) ?_
  repeat' ((conv => whnf); first | refine And.intro (fun h => h) ?_ | refine dcond_t (by assumption) ?_ | refine dcond_f (by assumption) ?_ | (refine dcond_intro ?_ ?_ <;> intro h) | exact .refl | refine And.intro (by kernel_rfl) ?_ | refine And.intro ⟨fun h => h, fun h => h⟩ ?_ | refine ⟨(l.map rptE).length, (l.map rptE).length, rfl, rfl, Nat.le_refl _, hby.1, hby.2, ?_⟩ | refine Exists.intro false ?_ | (refine And.intro ?_ ?_; focus (simp; done)) | fail)
  all_goals (conv => whnf)
  refine ⟨Nat, fun i => ⟨[(3, .own 0), (9, .lst 3 (l.map rptE) false), (10, i64 l.length), (11, i64 i)], [.row 51 3 ((l.take i).map rptE ++ List.replicate (l.length - i) z3)]⟩, fun i => i ≤ l.length, fun i => l.length - i, [], ⟨0, Nat.zero_le _, ?_⟩, ?_⟩
  · conv => whnf
    refine ⟨⟨.refl, .refl, dle_int (by simp), .refl, trivial⟩, ⟨ole_row ?_, trivial⟩, by rfl⟩
    rw [List.length_map]
    rfl
  · intro i hi
    conv => whnf
    refine dcond_intro ?_ ?_ <;> intro h
    · have hlt : i < l.length := by simpa using h
      clear h
      have hlen := fill_len (f := rptE) (z := z3) (l := l) (i := i) hi
      have hl0 : i < ((l.take i).map rptE ++ List.replicate (l.length - i) z3).length := by omega
      have hget := fill_get (f := rptE) (z := z3) hlt
      have hset := fill_set (f := rptE) (z := z3) hlt
      repeat' ((conv => whnf); first | refine And.intro (fun h => h) ?_ | refine dcond_t (by assumption) ?_ | refine dcond_f (by assumption) ?_ | (refine dcond_intro ?_ ?_ <;> intro h) | exact .refl | refine And.intro (by kernel_rfl) ?_ | refine And.intro ⟨fun h => h, fun h => h⟩ ?_ | refine ⟨_, _, And.intro ⟨rfl, get_map hlt⟩ ?_⟩ | refine .inl ⟨_, _, DleAll_refl _, c_agreement_clone _ (hc _ (List.getElem_mem hlt)), ?_⟩ | refine ⟨_, _, DleAll_refl _, fun _ => c_agreement_clone _ (hc _ (List.getElem_mem hlt)), ?_⟩ | refine ⟨_, _, DleAll_refl _, c_agreement_clone _ (hc _ (List.getElem_mem hlt)), ?_⟩ | refine ⟨i, And.intro ⟨rfl, hl0⟩ ?_⟩ | refine ⟨z3, And.intro hget ?_⟩ | refine ⟨z3, hget, ?_⟩ | refine Exists.intro false ?_ | (refine And.intro ?_ ?_; focus (simp; done)) | fail)
      all_goals (conv => whnf)
      refine ⟨i + 1, hlt, by simp only []; omega, ?_⟩
      conv => whnf
      refine ⟨⟨.refl, .refl, .refl, dle_int (wrap_succ (by omega)), trivial⟩, ⟨ole_row ?_, trivial⟩, by rfl⟩
      rw [← hset]
      rfl
    · have hge : ¬ i < l.length := by simpa using h
      have : i = l.length := by omega
      subst this
      clear h
      rw [fill_end]
      repeat' ((conv => whnf); first | refine And.intro (fun h => h) ?_ | refine dcond_t (by assumption) ?_ | refine dcond_f (by assumption) ?_ | (refine dcond_intro ?_ ?_ <;> intro h) | exact .refl | refine And.intro (by kernel_rfl) ?_ | refine And.intro ⟨fun h => h, fun h => h⟩ ?_ | refine Exists.intro false ?_ | (refine And.intro ?_ ?_; focus (simp; done)) | fail)
      all_goals (conv => whnf)
      exact ⟨.refl, ⟨.refl, trivial⟩, by rfl⟩
end Go.Proofs.YtmbniilpgbjcfaaGreat

set_option maxRecDepth 100000
namespace Go.Proofs.YtmbniilpgbjcfaaGreat
open Go.Lift
set_option maxRecDepth 100000 in
set_option maxHeartbeats 2000000 in
theorem m_AddReport (v : View) (hv : v.mem.length ≤ 400000) (l : List Rpt) (hl : l.length ≤ 400000) (hc : ∀ r ∈ l, r.cut.length ≤ 400000) (r : Rpt) (hr : r.cut.length ≤ 400000) (hok : repsB v l = true) :
    RetM Tryz.prog 93 [] [.agg (viewE v), .lst 3 (l.map rptE) false, .agg (rptE r)] [] [.row 51 3 ((addR v l r).1.map rptE)] (.tup [.own 0, .v (.bool (addR v l r).2)]) := by
  have hlm : l.length ≤ maxLen := Nat.le_trans hl (by decide)
  have e33 := c_paxos_ValidReports v (Nat.le_trans hv (by omega)) l hlm (fun x hx => Nat.le_trans (hc x hx) (by omega))
  have hil := insR_len l r
  have e33b := c_paxos_ValidReports v (Nat.le_trans hv (by omega)) (insR l r) (by simp only [maxLen]; omega) (fun x hx => by
    rcases insR_mem hx with rfl | hx
    · omega
    · exact Nat.le_trans (hc x hx) (by omega))
  have e51 := m51 l (by omega) (fun x hx => Nat.le_trans (hc x hx) (by omega))
  have e51b := m51 (insR l r) (by omega) (fun x hx => by
    rcases insR_mem hx with rfl | hx
    · omega
    · exact Nat.le_trans (hc x hx) (by omega))
  obtain ⟨R, hR⟩ : ∃ R, R = addR v l r := ⟨_, rfl⟩
  rw [← hR]
  refine retM_of_bodyA (fn := Tryz.f93) (c := Tryz.f93.body.getD .skip) hm hT (by kernel_rfl) Tryz.func93 (by kernel_rfl) (by kernel_rfl) (by kernel_rfl) (by kernel_rfl) (by kernel_rfl) ?_
  repeat' ((conv => whnf); first | refine And.intro (fun h => h) ?_ | refine dcond_t (by assumption) ?_ | refine dcond_f (by assumption) ?_ | (refine dcond_intro ?_ ?_ <;> intro h) | exact .refl | refine And.intro (by kernel_rfl) ?_ | refine And.intro ⟨fun h => h, fun h => h⟩ ?_ | refine .inl ⟨_, _, DleAll_refl _, e33, ?_⟩ | refine ⟨_, _, DleAll_refl _, fun _ => e33, ?_⟩ | refine ⟨_, _, DleAll_refl _, e33, ?_⟩ | refine Exists.intro false ?_ | (refine And.intro ?_ ?_; focus (simp; done)) | fail)
  all_goals (conv => whnf)
  · rw [hok] at h
    cases h
  · have h0 := h
    clear h
    refine ⟨Nat, fun i => ⟨[(1, .lst 3 (l.map rptE) false), (3, .lp 0 0), (5, .lp 1 0), (8, i64 i)], [.cells 24 (viewE v), .cells 51 (rptE r)]⟩, fun i => i ≤ l.length ∧ ∀ j, (hj : j < l.length) → j < i → l[j].mem < r.mem, fun i => l.length - i, [], ⟨0, ⟨Nat.zero_le _, fun j _ hj => by omega⟩, ?_⟩, ?_⟩
    · exact ⟨by repeat' ((conv => whnf); first | exact trivial | refine And.intro (by (conv => arg 1; whnf); first | (with_reducible exact .refl) | exact dle_int (wrap_succ (by omega)) | exact .refl) ?_), by repeat' ((conv => whnf); first | exact trivial | refine And.intro ?_ ?_ | exact .refl), rfl⟩
    · intro i ⟨hi, hall⟩
      have hix : ∃ x : Rpt, (i < l.length → (l.map rptE)[i]? = some (rptE x)) ∧ ∀ (hil : i < l.length), x = l[i] := by
        by_cases hil : i < l.length
        · exact ⟨l[i], fun _ => get_map hil, fun _ => rfl⟩
        · exact ⟨r, fun hn => absurd hn hil, fun hn => absurd hn hil⟩
      obtain ⟨x, hx1, hx2⟩ := hix
      repeat' ((conv => whnf); first | refine And.intro (fun h => h) ?_ | refine dcond_t (by assumption) ?_ | refine dcond_f (by assumption) ?_ | (refine dcond_intro ?_ ?_ <;> intro h) | exact .refl | refine And.intro (by kernel_rfl) ?_ | refine And.intro ⟨fun h => h, fun h => h⟩ ?_ | refine ⟨i, rptE x, And.intro ⟨⟨fun h => h, fun h => h⟩, fun hg => ⟨rfl, hx1 (by simpa using hg)⟩⟩ ?_⟩ | refine Exists.intro false ?_ | (refine And.intro ?_ ?_; focus (simp; done)) | fail)
      · have hil : i < l.length := by simpa using ((Bool.and_eq_true ..).mp h).1
        have hlt : l[i].mem < r.mem := by
          have := ((Bool.and_eq_true ..).mp h).2
          rw [hx2 hil] at this
          simpa using this
        clear h
        repeat' ((conv => whnf); first | refine And.intro (fun h => h) ?_ | refine dcond_t (by assumption) ?_ | refine dcond_f (by assumption) ?_ | (refine dcond_intro ?_ ?_ <;> intro h) | exact .refl | refine And.intro (by kernel_rfl) ?_ | refine And.intro ⟨fun h => h, fun h => h⟩ ?_ | refine Exists.intro false ?_ | (refine And.intro ?_ ?_; focus (simp; done)) | fail)
        all_goals (conv => whnf)
        refine ⟨i + 1, ⟨hil, fun j hj hji => ?_⟩, by simp only []; omega, ?_⟩
        · rcases Nat.lt_succ_iff_lt_or_eq.mp hji with h1 | rfl
          · exact hall j hj h1
          · exact hlt
        · exact ⟨⟨.refl, .refl, .refl, dle_int (wrap_succ (by omega)), trivial⟩, ⟨.refl, .refl, trivial⟩, rfl⟩
      · have hf : frontN l r.mem = i := by
          rcases Nat.lt_or_ge i l.length with hil | hil
          · refine frontN_at hil (fun j hj => hall j (by omega) hj) ?_
            intro hlt
            rw [hx2 hil] at h
            simp [hil, hlt] at h
          · have : i = l.length := by omega
            subst this
            exact frontN_all fun j hj => hall j hj hj
        clear h
        have m51i : RetM Tryz.prog 120 [] [DV.lst 3 (((l.map rptE).take i).drop 0) false] [] [LObj.row 51 3 ((l.take i).map rptE)] (DV.own 0) := by
          have := m51 (l.take i) (by simp; omega) (fun x hx => Nat.le_trans (hc x (List.mem_of_mem_take hx)) (by omega))
          rw [← List.map_take]
          exact this
        have hlen : (l.take i).length = i := by simp; omega
        have hlm : i ≤ (l.map rptE).length := by simpa using hi
        repeat' ((conv => whnf); first | refine And.intro (fun h => h) ?_ | refine dcond_t (by assumption) ?_ | refine dcond_f (by assumption) ?_ | (refine dcond_intro ?_ ?_ <;> intro h) | exact .refl | refine And.intro (by kernel_rfl) ?_ | refine And.intro ⟨fun h => h, fun h => h⟩ ?_ | refine ⟨0, i, And.intro ⟨rfl, ⟨_, rfl⟩, Nat.zero_le _, hlm⟩ ?_⟩ | refine .inr ⟨[], [], _, [], _, _, m51i, by rfl, trivial, ⟨.refl, trivial⟩, ?_⟩ | refine And.intro (fitsR (by simp <;> omega)) ?_ | refine ⟨i, And.intro ⟨⟨_, rfl⟩, hlm⟩ ?_⟩ | refine Exists.intro false ?_ | (refine And.intro ?_ ?_; focus (simp; done)) | fail)
        have hins : List.map rptE (List.take i l) ++ (List.replicate 1 (tinfo tt 51).zero).set 0 (dcells (.agg [.v (.int .i64 r.mem), .v (.int .i64 r.rank), .lst 1 (List.map intE r.cut) false])) ++ List.drop i (List.map rptE l) = (insR l r).map rptE := by
          simp [insR, hf, rptE, dcells]
        refine .inl ⟨[.agg (viewE v), .lst 3 ((insR l r).map rptE) false], _, ⟨.refl, dle_lst hins, trivial⟩, e33b, ?_⟩
        repeat' ((conv => whnf); first | refine And.intro (fun h => h) ?_ | refine dcond_t (by assumption) ?_ | refine dcond_f (by assumption) ?_ | (refine dcond_intro ?_ ?_ <;> intro h) | exact .refl | refine And.intro (by kernel_rfl) ?_ | refine And.intro ⟨fun h => h, fun h => h⟩ ?_ | refine .inr ⟨[], [], _, [], _, _, e51, by rfl, trivial, ⟨.refl, trivial⟩, ?_⟩ | refine .inr ⟨[], [], _, [], _, _, e51b, by rfl, trivial, ⟨dle_lst hins, trivial⟩, ?_⟩ | refine Exists.intro false ?_ | (refine And.intro ?_ ?_; focus (simp; done)) | fail)
        all_goals (conv => whnf)
        · have hR2 : R = (l, false) := by
            rw [hR]
            simp only [addR, h0, h, cond_true, cond_false]
          clear hR
          subst hR2
          refine ⟨[.xchg 0 6], ?_⟩
          conv => whnf
          exact ⟨.refl, ⟨.refl, trivial⟩, by rfl⟩
        · have hR2 : R = (insR l r, true) := by
            rw [hR]
            simp only [addR, h0, h, cond_true, cond_false]
          clear hR
          subst hR2
          refine ⟨[.xchg 0 6], ?_⟩
          conv => whnf
          exact ⟨.refl, ⟨.refl, trivial⟩, by rfl⟩
end Go.Proofs.YtmbniilpgbjcfaaGreat

set_option maxRecDepth 100000
namespace Go.Proofs.YtmbniilpgbjcfaaGreat
open Go.Lift
def agrO (s : Agr) (k : Nat) : List DV := [i64 s.self, i64 s.view.num, .lst 1 (s.view.mem.map intE) false, i64 s.acc.pro, i64 s.acc.rank, .lst 1 (s.acc.cut.map intE) false, .lst 1 (s.prop.map intE) false, .lst 2 (s.box.map balE) false, i64 s.rank, i64 s.phase, .lst 3 (s.reps.map rptE) false, .lst 1 (s.cho.map intE) false, .own k, .lst 1 (s.dec.map intE) false, i64 s.wait]
set_option maxHeartbeats 8000000 in
theorem m_cloneState (s : Agr) (hs : SmA s) : RetM Tryz.prog 18 [] [.agg (agrE s)] [] [.dead, .dead, .dead, .row 51 3 (s.accs.map rptE)] (.agg (agrO s 3)) := by
  have e84 := c_agreement_cloneReports s.reps (by have := hs.reps; omega) (fun b hb => by have := hs.repc b hb; omega)
  have m84 := m_cloneReports s.accs (by have := hs.accs; omega) (fun b hb => by have := hs.accc b hb; omega)
  have b1 := hs.mem
  have b2 := hs.acut
  have b3 := hs.prop
  have b4 := hs.cho
  have b5 := hs.dec
  have b6 := hs.reps
  have b7 : ∀ b ∈ s.reps, b.cut.length ≤ 1000000 := fun b hb => by have := hs.repc b hb; omega
  have b8 := hs.accs
  have b9 : ∀ b ∈ s.accs, b.cut.length ≤ 1000000 := fun b hb => by have := hs.accc b hb; omega
  have hbl := hs.box
  have hby := byB (n := (s.box.map balE).length) (by simp; omega)
  refine retM_of_bodyA (fn := Tryz.f18) (c := Tryz.f18.body.getD .skip) hm hT (by kernel_rfl) Tryz.func18 (by kernel_rfl) (by kernel_rfl) (by kernel_rfl) (by kernel_rfl) (by kernel_rfl) ?_
  repeat' ((conv => whnf); first | refine And.intro (fun h => h) ?_ | refine dcond_t (by assumption) ?_ | refine dcond_f (by assumption) ?_ | (refine dcond_intro ?_ ?_ <;> intro h) | exact .refl | refine And.intro (by kernel_rfl) ?_ | refine And.intro ⟨fun h => h, fun h => h⟩ ?_ | refine .inl ⟨_, _, DleAll_refl _, c_agreement_clone _ (by omega), ?_⟩ | refine ⟨_, _, DleAll_refl _, fun _ => c_agreement_clone _ (by omega), ?_⟩ | refine ⟨_, _, DleAll_refl _, c_agreement_clone _ (by omega), ?_⟩ | refine .inl ⟨_, _, DleAll_refl _, e84, ?_⟩ | refine .inr ⟨[], [], _, [], _, _, m84, by rfl, trivial, ⟨.refl, trivial⟩, ?_⟩ | refine ⟨(s.box.map balE).length, (s.box.map balE).length, rfl, rfl, Nat.le_refl _, hby.1, hby.2, ?_⟩ | refine Exists.intro false ?_ | (refine And.intro ?_ ?_; focus (simp; done)) | fail)
  all_goals (conv => whnf)
  refine ⟨Nat, fun i => ⟨[(2, .lp 1 0), (3, .lp 4 0), (54, .lst 2 (s.box.map balE) false), (55, i64 s.box.length), (56, i64 i)], [.cells 30 (agrE s), .cells 30 (tinfo tt 30).zero, .row 63 2 ((s.box.take i).map balE ++ List.replicate (s.box.length - i) z2), .row 51 3 (s.accs.map rptE), .cells 30 [i64 s.self, i64 s.view.num, .lst 1 (s.view.mem.map intE) false, i64 s.acc.pro, i64 s.acc.rank, .lst 1 (s.acc.cut.map intE) false, .lst 1 (s.prop.map intE) false, .own 2, i64 s.rank, i64 s.phase, .lst 3 (s.reps.map rptE) false, .lst 1 (s.cho.map intE) false, .own 3, .lst 1 (s.dec.map intE) false, i64 s.wait]]⟩, fun i => i ≤ s.box.length, fun i => s.box.length - i, [], ⟨0, Nat.zero_le _, ?_⟩, ?_⟩
  · conv => whnf
    refine ⟨⟨.refl, .refl, .refl, dle_int (by simp), .refl, trivial⟩, ⟨.refl, .refl, ole_row ?_, .refl, .refl, trivial⟩, by rfl⟩
    rw [List.length_map]
    rfl
  · intro i hi
    conv => whnf
    refine dcond_intro ?_ ?_ <;> intro h
    · have hlt : i < s.box.length := by simpa using h
      clear h
      have hlen := fill_len (f := balE) (z := z2) (l := s.box) (i := i) hi
      have hl0 : i < ((s.box.take i).map balE ++ List.replicate (s.box.length - i) z2).length := by omega
      have hget := fill_get (f := balE) (z := z2) hlt
      have hset := fill_set (f := balE) (z := z2) hlt
      have hbc := hs.boxc _ (List.getElem_mem hlt)
      repeat' ((conv => whnf); first | refine And.intro (fun h => h) ?_ | refine dcond_t (by assumption) ?_ | refine dcond_f (by assumption) ?_ | (refine dcond_intro ?_ ?_ <;> intro h) | exact .refl | refine And.intro (by kernel_rfl) ?_ | refine And.intro ⟨fun h => h, fun h => h⟩ ?_ | refine ⟨_, _, And.intro ⟨rfl, get_map hlt⟩ ?_⟩ | refine .inl ⟨_, _, DleAll_refl _, c_agreement_clone _ (by omega), ?_⟩ | refine ⟨_, _, DleAll_refl _, fun _ => c_agreement_clone _ (by omega), ?_⟩ | refine ⟨_, _, DleAll_refl _, c_agreement_clone _ (by omega), ?_⟩ | refine ⟨i, And.intro ⟨rfl, hl0⟩ ?_⟩ | refine ⟨z2, And.intro hget ?_⟩ | refine ⟨z2, hget, ?_⟩ | refine Exists.intro false ?_ | (refine And.intro ?_ ?_; focus (simp; done)) | fail)
      all_goals (conv => whnf)
      refine ⟨i + 1, hlt, by simp only []; omega, ?_⟩
      conv => whnf
      refine ⟨⟨.refl, .refl, .refl, .refl, dle_int (wrap_succ (by omega)), trivial⟩, ⟨.refl, .refl, ole_row ?_, .refl, .refl, trivial⟩, by rfl⟩
      rw [← hset]
      rfl
    · have hge : ¬ i < s.box.length := by simpa using h
      have : i = s.box.length := by omega
      subst this
      clear h
      rw [fill_end]
      repeat' ((conv => whnf); first | refine And.intro (fun h => h) ?_ | refine dcond_t (by assumption) ?_ | refine dcond_f (by assumption) ?_ | (refine dcond_intro ?_ ?_ <;> intro h) | exact .refl | refine And.intro (by kernel_rfl) ?_ | refine And.intro ⟨fun h => h, fun h => h⟩ ?_ | refine Exists.intro false ?_ | (refine And.intro ?_ ?_; focus (simp; done)) | fail)
      all_goals (conv => whnf)
      refine ⟨[.shutc 1 7], ?_⟩
      conv => whnf
      exact ⟨.refl, ⟨.dead, .dead, .dead, .refl, trivial⟩, by rfl⟩
end Go.Proofs.YtmbniilpgbjcfaaGreat
