/- The laws of this seat, part OwC: contracts of the functions, plain laws. No conditions. -/
import Derived.Test.YtmbniilpgbjcfaaGreatOwB
set_option maxRecDepth 100000
namespace Go.Proofs.YtmbniilpgbjcfaaGreat
open Go.Lift
theorem c_majority (s : Agr) (p : DV) : Ret Tryz.prog 113 [.ip (agrE s ++ [p])] (i64 (majB s.view.mem.length)) := by
  have e : Ret Tryz.prog 106 [i64 ((s.view.mem.map intE).length : Int)] (i64 (majB s.view.mem.length)) := by
    rw [List.length_map]
    exact c_view_Majority _
  refine ret_of_body (fn := Tryz.f113) (c := Tryz.f113.body.getD .skip) hm hT (by kernel_rfl) Tryz.func113 (by kernel_rfl) (by kernel_rfl) (by kernel_rfl) (by kernel_rfl) ?_
  repeat' ((conv => whnf); first | refine And.intro (fun h => h) ?_ | refine dcond_t (by assumption) ?_ | refine dcond_f (by assumption) ?_ | (refine dcond_intro ?_ ?_ <;> intro h) | exact .refl | refine And.intro (by kernel_rfl) ?_ | refine And.intro ⟨fun h => h, fun h => h⟩ ?_ | refine .inl ⟨_, _, DleAll_refl _, e, ?_⟩ | refine ⟨_, _, DleAll_refl _, fun _ => e, ?_⟩ | refine ⟨_, _, DleAll_refl _, e, ?_⟩ | refine Exists.intro false ?_ | (refine And.intro ?_ ?_; focus (simp; done)) | fail)
theorem gh2 {a d : DV} : ole (.gh [a, d]) (.gh [a, .junk]) := .gh rfl fun i x y hx hy => by
  rcases i with _ | _ | i
  · simp at hx hy
    subst hx hy
    exact .refl
  · simp at hx hy
    subst hx hy
    exact .junk
  · simp at hx
def pktOf (s : Agr) (to kind rank last : Int) (cut : List Int) : Pkt := ⟨to, ⟨kind, s.view.num, s.self, rank, last, cut⟩⟩
theorem fitsP {n : Nat} (h : n ≤ 1000000) : fitsIn tt 48 n := by
  have e : (tinfo tt 48).bytes = 72 := by kernel_rfl
  refine ⟨?_, ?_⟩
  · rw [e]; omega
  · simp only [maxLen]; omega
theorem m_send_nil (s : Agr) (to kind rank last : Int) (cut : List Int) (hc : cut.length ≤ 1000000) :
    RetM Tryz.prog 22 [.cells 56 (agrE s ++ [.nl])] [.lp 0 0, i64 to, i64 kind, i64 rank, i64 last, .lst 1 (cut.map intE) false] [true] [.cells 56 (agrE s ++ [.own 2]), .dead, .row 48 7 [pktE (pktOf s to kind rank last cut)]] (.tup []) := by
  refine retM_of_body (fn := Tryz.f22) (c := Tryz.f22.body.getD .skip) hm hT (by kernel_rfl) Tryz.func22 (by kernel_rfl) (by kernel_rfl) (by kernel_rfl) (by kernel_rfl) (by kernel_rfl) ?_
  repeat' ((conv => whnf); first | refine And.intro (fun h => h) ?_ | refine dcond_t (by assumption) ?_ | refine dcond_f (by assumption) ?_ | (refine dcond_intro ?_ ?_ <;> intro h) | exact .refl | refine And.intro (by kernel_rfl) ?_ | refine And.intro ⟨fun h => h, fun h => h⟩ ?_ | refine .inl ⟨_, _, DleAll_refl _, c_agreement_clone _ hc, ?_⟩ | refine ⟨_, _, DleAll_refl _, fun _ => c_agreement_clone _ hc, ?_⟩ | refine ⟨_, _, DleAll_refl _, c_agreement_clone _ hc, ?_⟩ | refine And.intro (fitsP (by simp <;> omega)) ?_ | refine Exists.intro false ?_ | (refine And.intro ?_ ?_; focus (simp; done)) | fail)
  all_goals (conv => whnf)
  exact ⟨.refl, ⟨.refl, .refl, .refl, trivial⟩, by rfl⟩
theorem m_send_own (s : Agr) (ps : List Pkt) (hps : ps.length ≤ 100) (to kind rank last : Int) (cut : List Int) (hc : cut.length ≤ 1000000) :
    RetM Tryz.prog 22 [.cells 56 (agrE s ++ [.own 1]), .row 48 7 (ps.map pktE)] [.lp 0 0, i64 to, i64 kind, i64 rank, i64 last, .lst 1 (cut.map intE) false] [true, false] [.cells 56 (agrE s ++ [.own 1]), .row 48 7 ((ps ++ [pktOf s to kind rank last cut]).map pktE), .dead] (.tup []) := by
  refine retM_of_body (fn := Tryz.f22) (c := Tryz.f22.body.getD .skip) hm hT (by kernel_rfl) Tryz.func22 (by kernel_rfl) (by kernel_rfl) (by kernel_rfl) (by kernel_rfl) (by kernel_rfl) ?_
  repeat' ((conv => whnf); first | refine And.intro (fun h => h) ?_ | refine dcond_t (by assumption) ?_ | refine dcond_f (by assumption) ?_ | (refine dcond_intro ?_ ?_ <;> intro h) | exact .refl | refine And.intro (by kernel_rfl) ?_ | refine And.intro ⟨fun h => h, fun h => h⟩ ?_ | refine .inl ⟨_, _, DleAll_refl _, c_agreement_clone _ hc, ?_⟩ | refine ⟨_, _, DleAll_refl _, fun _ => c_agreement_clone _ hc, ?_⟩ | refine ⟨_, _, DleAll_refl _, c_agreement_clone _ hc, ?_⟩ | refine And.intro (fitsP (by simp <;> omega)) ?_ | refine Exists.intro false ?_ | (refine And.intro ?_ ?_; focus (simp; done)) | fail)
  all_goals (conv => whnf)
  refine ⟨.refl, ⟨.refl, ole_row ?_, gh2, trivial⟩, by rfl⟩
  rw [List.map_append]
  rfl
def vA (l : List Rpt) (r : Rpt) (k : Nat) : Nat := ((l.take k).filter fun x => decide (x.rank = r.rank) && sameI x.cut r.cut).length
theorem vA_succ {l : List Rpt} {r : Rpt} {k : Nat} (h : k < l.length) : vA l r (k + 1) = vA l r k + if (decide (l[k].rank = r.rank) && sameI l[k].cut r.cut) = true then 1 else 0 := by
  unfold vA
  rw [List.take_succ_eq_append_getElem h, List.filter_append, List.length_append]
  cases hq : (decide (l[k].rank = r.rank) && sameI l[k].cut r.cut) <;> simp [hq]
theorem vA_le (l : List Rpt) (r : Rpt) (k : Nat) : vA l r k ≤ k :=
  Nat.le_trans (List.length_filter_le _ _) (by simp; omega)
def accAt (l : List Rpt) (m : Int) : Nat → Int × List Int
  | 0 => (0, [])
  | i + 1 => bif decide (m ≤ (vA l (l.getD i rpt0) l.length : Int)) && decide ((accAt l m i).1 < (l.getD i rpt0).rank) then ((l.getD i rpt0).rank, (l.getD i rpt0).cut) else accAt l m i
def accdR (s : Agr) : List Int := (accAt s.accs (majB s.view.mem.length) s.accs.length).2
end Go.Proofs.YtmbniilpgbjcfaaGreat

set_option maxRecDepth 100000
namespace Go.Proofs.YtmbniilpgbjcfaaGreat
open Go.Lift
theorem ofr_ix {l : List Rpt} {x : Int} (h : decide (0 ≤ ofB l x) = true) : ofB l x = ((ofB l x).toNat : Int) ∧ (ofB l x).toNat < l.length := by
  have h := of_decide_eq_true h
  refine ⟨by omega, ?_⟩
  unfold ofB at h ⊢
  rcases hf : (List.range l.length).find? (fun i => decide ((l.getD i rpt0).mem = x)) with _ | n
  · simp only [findB, hf] at h
    omega
  · have hn : n < l.length := List.mem_range.1 (List.mem_of_find?_eq_some hf)
    simp only [findB, hf, Int.toNat_natCast]
    exact hn
theorem ole_cellsA {t : TypeId} {cs ds : List DV} (h : DleAll cs ds) : ole (.cells t cs) (.cells t ds) := .cells (dleAll_get h).1 (dleAll_get h).2
def enterR (v : View) (l : List Rpt) (r : Rpt) : List Rpt :=
  bif decide (0 ≤ ofB l r.mem) then (bif decide ((l.getD (ofB l r.mem).toNat rpt0).rank < r.rank) then l.set (ofB l r.mem).toNat r else l) else (addR v l r).1
set_option maxHeartbeats 4000000 in
theorem m_enter0 (s : Agr) (hs : SmA s) (hok : repsB s.view s.accs = true) (r : Rpt) (hr : r.cut.length ≤ 1000) :
    RetM Tryz.prog 34 [.cells 56 (agrO s 1 ++ [.nl]), .row 51 3 (s.accs.map rptE)] [.lp 0 0, .agg (rptE r)] [true, false] [.cells 56 (agrO s 3 ++ [.nl]), .gone, .dead, .row 51 3 ((enterR s.view s.accs r).map rptE)] (.tup []) := by
  have e78 := c_agreement_reportOf s.accs (mx hs.accs) r.mem
  have m93 := m_AddReport s.view (by have := hs.mem; omega) s.accs (by have := hs.accs; omega) (fun b hb => by have := hs.accc b hb; omega) r (by omega) hok
  have hix := @ofr_ix s.accs r.mem
  have hy1 : decide (0 ≤ ofB s.accs r.mem) = true → decide ((s.accs.getD (ofB s.accs r.mem).toNat rpt0).rank < r.rank) = true → enterR s.view s.accs r = s.accs.set (ofB s.accs r.mem).toNat r := fun h1 h2 => by rw [enterR, h1, h2]; rfl
  have hy2 : decide (0 ≤ ofB s.accs r.mem) = true → decide ((s.accs.getD (ofB s.accs r.mem).toNat rpt0).rank < r.rank) = false → enterR s.view s.accs r = s.accs := fun h1 h2 => by rw [enterR, h1, h2]; rfl
  have hy3 : decide (0 ≤ ofB s.accs r.mem) = false → enterR s.view s.accs r = (addR s.view s.accs r).1 := fun h1 => by rw [enterR, h1]; rfl
  generalize enterR s.view s.accs r = E at *
  generalize addR s.view s.accs r = R at *
  refine retM_of_bodyA (fn := Tryz.f34) (c := Tryz.f34.body.getD .skip) hm hT (by kernel_rfl) Tryz.func34 (by kernel_rfl) (by kernel_rfl) (by kernel_rfl) (by kernel_rfl) (by kernel_rfl) ?_
  repeat' ((conv => whnf); first | refine And.intro (fun h => h) ?_ | refine dcond_t (by assumption) ?_ | refine dcond_f (by assumption) ?_ | (refine dcond_intro ?_ ?_ <;> intro h) | exact .refl | refine And.intro (by kernel_rfl) ?_ | refine And.intro ⟨fun h => h, fun h => h⟩ ?_ | refine .inl ⟨_, _, DleAll_refl _, c_agreement_clone _ (by omega), ?_⟩ | refine ⟨_, _, DleAll_refl _, fun _ => c_agreement_clone _ (by omega), ?_⟩ | refine ⟨_, _, DleAll_refl _, c_agreement_clone _ (by omega), ?_⟩ | refine .inl ⟨_, _, DleAll_refl _, e78, ?_⟩ | refine ⟨_, _, DleAll_refl _, fun _ => e78, ?_⟩ | refine ⟨_, _, DleAll_refl _, e78, ?_⟩ | refine Exists.intro false ?_ | (refine And.intro ?_ ?_; focus (simp; done)) | fail)
  all_goals (conv => whnf)
  · have h0 := h
    clear h
    obtain ⟨hk1, hk2⟩ := hix h0
    have hy1 := hy1 h0
    have hy2 := hy2 h0
    clear hix hy3 m93
    generalize (ofB s.accs r.mem).toNat = k at *
    have hkl : k < (s.accs.map rptE).length := by rw [List.length_map]; exact hk2
    have hg : s.accs.getD k rpt0 = s.accs[k] := by simp [hk2]
    have hget : (s.accs.map rptE)[k]? = some (rptE s.accs[k]) := get_map hk2
    rw [hg] at hy1 hy2
    repeat' ((conv => whnf); first | refine And.intro (fun h => h) ?_ | refine dcond_t (by assumption) ?_ | refine dcond_f (by assumption) ?_ | (refine dcond_intro ?_ ?_ <;> intro h) | exact .refl | refine And.intro (by kernel_rfl) ?_ | refine And.intro ⟨fun h => h, fun h => h⟩ ?_ | refine ⟨k, And.intro ⟨hk1, hkl⟩ ?_⟩ | refine ⟨rptE s.accs[k], And.intro hget ?_⟩ | refine ⟨rptE s.accs[k], hget, ?_⟩ | refine Exists.intro false ?_ | (refine And.intro ?_ ?_; focus (simp; done)) | fail)
    all_goals (conv => whnf)
    · rw [hy1 h]
      refine ⟨[.fresh 51 3, .xchg 1 5, .xchg 3 5, .bury 1], ?_⟩
      conv => whnf
      refine ⟨.refl, ⟨.refl, .refl, gh2, ole_row ?_, trivial⟩, by rfl⟩
      rw [List.map_set]
      rfl
    · rw [hy2 h]
      refine ⟨[.fresh 51 3, .xchg 1 5, .xchg 3 5, .bury 1], ?_⟩
      conv => whnf
      exact ⟨.refl, ⟨.refl, .refl, gh2, .refl, trivial⟩, by rfl⟩
  · rw [hy3 h]
    clear hy1 hy2 hy3 hix
    repeat' ((conv => whnf); first | refine And.intro (fun h => h) ?_ | refine dcond_t (by assumption) ?_ | refine dcond_f (by assumption) ?_ | (refine dcond_intro ?_ ?_ <;> intro h) | exact .refl | refine And.intro (by kernel_rfl) ?_ | refine And.intro ⟨fun h => h, fun h => h⟩ ?_ | refine .inr ?_ <;> (conv => whnf) <;> refine .inr ?_ <;> (conv => whnf) <;> refine ⟨_, _, _, m93, by rfl, ⟨.refl, .refl, .refl, trivial⟩, ?_⟩ | refine Exists.intro false ?_ | (refine And.intro ?_ ?_; focus (simp; done)) | fail)
    all_goals (conv => whnf)
    refine ⟨[.xchg 3 5], ?_⟩
    conv => whnf
    exact ⟨.refl, ⟨.refl, .refl, gh2, .refl, trivial⟩, by rfl⟩
theorem m_enter (s : Agr) (hs : SmA s) (hok : repsB s.view s.accs = true) (r : Rpt) (hr : r.cut.length ≤ 1000) :
    RetM Tryz.prog 34 [.cells 56 (agrO s 1 ++ [.nl]), .row 51 3 (s.accs.map rptE)] [.lp 0 0, .agg (rptE r)] [true, false] [.cells 56 (agrO s 2 ++ [.nl]), .gone, .row 51 3 ((enterR s.view s.accs r).map rptE)] (.tup []) :=
  (m_enter0 s hs hok r hr).squeeze (L1 := [.cells 56 (agrO s 3 ++ [.nl]), .gone]) (L2 := [.row 51 3 ((enterR s.view s.accs r).map rptE)]) (Nat.le_refl _)
set_option maxHeartbeats 4000000 in
theorem m_enterS (s : Agr) (hs : SmA s) (hok : repsB s.view s.accs = true) (r : Rpt) (hr : r.cut.length ≤ 1000) :
    RetM Tryz.prog 34 [.cells 56 (agrO s 1 ++ [.nl]), .row 51 3 (s.accs.map rptE)] [.lp 0 0, .agg (rptE r)] [true, false] [.cells 56 (agrE { s with accs := enterR s.view s.accs r } ++ [.nl]), .gone] (.tup []) := by
  have e78 := c_agreement_reportOf s.accs (mx hs.accs) r.mem
  have m93 := m_AddReport s.view (by have := hs.mem; omega) s.accs (by have := hs.accs; omega) (fun b hb => by have := hs.accc b hb; omega) r (by omega) hok
  have hix := @ofr_ix s.accs r.mem
  have hy1 : decide (0 ≤ ofB s.accs r.mem) = true → decide ((s.accs.getD (ofB s.accs r.mem).toNat rpt0).rank < r.rank) = true → enterR s.view s.accs r = s.accs.set (ofB s.accs r.mem).toNat r := fun h1 h2 => by rw [enterR, h1, h2]; rfl
  have hy2 : decide (0 ≤ ofB s.accs r.mem) = true → decide ((s.accs.getD (ofB s.accs r.mem).toNat rpt0).rank < r.rank) = false → enterR s.view s.accs r = s.accs := fun h1 h2 => by rw [enterR, h1, h2]; rfl
  have hy3 : decide (0 ≤ ofB s.accs r.mem) = false → enterR s.view s.accs r = (addR s.view s.accs r).1 := fun h1 => by rw [enterR, h1]; rfl
  generalize enterR s.view s.accs r = E at *
  generalize addR s.view s.accs r = R at *
  refine retM_of_bodyA (fn := Tryz.f34) (c := Tryz.f34.body.getD .skip) hm hT (by kernel_rfl) Tryz.func34 (by kernel_rfl) (by kernel_rfl) (by kernel_rfl) (by kernel_rfl) (by kernel_rfl) ?_
  repeat' ((conv => whnf); first | refine And.intro (fun h => h) ?_ | refine dcond_t (by assumption) ?_ | refine dcond_f (by assumption) ?_ | (refine dcond_intro ?_ ?_ <;> intro h) | exact .refl | refine And.intro (by kernel_rfl) ?_ | refine And.intro ⟨fun h => h, fun h => h⟩ ?_ | refine .inl ⟨_, _, DleAll_refl _, c_agreement_clone _ (by omega), ?_⟩ | refine ⟨_, _, DleAll_refl _, fun _ => c_agreement_clone _ (by omega), ?_⟩ | refine ⟨_, _, DleAll_refl _, c_agreement_clone _ (by omega), ?_⟩ | refine .inl ⟨_, _, DleAll_refl _, e78, ?_⟩ | refine ⟨_, _, DleAll_refl _, fun _ => e78, ?_⟩ | refine ⟨_, _, DleAll_refl _, e78, ?_⟩ | refine Exists.intro false ?_ | (refine And.intro ?_ ?_; focus (simp; done)) | fail)
  all_goals (conv => whnf)
  · have h0 := h
    clear h
    obtain ⟨hk1, hk2⟩ := hix h0
    have hy1 := hy1 h0
    have hy2 := hy2 h0
    clear hix hy3 m93
    generalize (ofB s.accs r.mem).toNat = k at *
    have hkl : k < (s.accs.map rptE).length := by rw [List.length_map]; exact hk2
    have hg : s.accs.getD k rpt0 = s.accs[k] := by simp [hk2]
    have hget : (s.accs.map rptE)[k]? = some (rptE s.accs[k]) := get_map hk2
    rw [hg] at hy1 hy2
    repeat' ((conv => whnf); first | refine And.intro (fun h => h) ?_ | refine dcond_t (by assumption) ?_ | refine dcond_f (by assumption) ?_ | (refine dcond_intro ?_ ?_ <;> intro h) | exact .refl | refine And.intro (by kernel_rfl) ?_ | refine And.intro ⟨fun h => h, fun h => h⟩ ?_ | refine ⟨k, And.intro ⟨hk1, hkl⟩ ?_⟩ | refine ⟨rptE s.accs[k], And.intro hget ?_⟩ | refine ⟨rptE s.accs[k], hget, ?_⟩ | refine Exists.intro false ?_ | (refine And.intro ?_ ?_; focus (simp; done)) | fail)
    all_goals (conv => whnf)
    · rw [hy1 h]
      refine ⟨[.shutc 0 12, .bury 1], ?_⟩
      conv => whnf
      refine ⟨.refl, ⟨ole_cellsA ⟨.refl, .refl, .refl, .refl, .refl, .refl, .refl, .refl, .refl, .refl, .refl, .refl, dle_lst ?_, .refl, .refl, .refl, trivial⟩, .refl, gh2, trivial⟩, by rfl⟩
      rw [List.map_set]
      rfl
    · rw [hy2 h]
      refine ⟨[.shutc 0 12, .bury 1], ?_⟩
      conv => whnf
      exact ⟨.refl, ⟨.refl, .refl, gh2, trivial⟩, by rfl⟩
  · rw [hy3 h]
    clear hy1 hy2 hy3 hix
    repeat' ((conv => whnf); first | refine And.intro (fun h => h) ?_ | refine dcond_t (by assumption) ?_ | refine dcond_f (by assumption) ?_ | (refine dcond_intro ?_ ?_ <;> intro h) | exact .refl | refine And.intro (by kernel_rfl) ?_ | refine And.intro ⟨fun h => h, fun h => h⟩ ?_ | refine .inr ?_ <;> (conv => whnf) <;> refine .inr ?_ <;> (conv => whnf) <;> refine ⟨_, _, _, m93, by rfl, ⟨.refl, .refl, .refl, trivial⟩, ?_⟩ | refine Exists.intro false ?_ | (refine And.intro ?_ ?_; focus (simp; done)) | fail)
    all_goals (conv => whnf)
    refine ⟨[.xchg 1 5, .shutc 0 12, .bury 1], ?_⟩
    conv => whnf
    exact ⟨.refl, ⟨.refl, .refl, gh2, trivial⟩, by rfl⟩
end Go.Proofs.YtmbniilpgbjcfaaGreat

set_option maxRecDepth 100000
namespace Go.Proofs.YtmbniilpgbjcfaaGreat
open Go.Lift
def idleA (s : Agr) : Agr := { s with phase := 0, reps := [], cho := [] }
theorem c_idle (s : Agr) : RetM Tryz.prog 92 [.cells 56 (agrE s ++ [.nl])] [.lp 0 0] [true] [.cells 56 (agrE (idleA s) ++ [.nl])] (.tup []) := by
  refine retM_of_bodyA (fn := Tryz.f92) (c := Tryz.f92.body.getD .skip) hm hT (by kernel_rfl) Tryz.func92 (by kernel_rfl) (by kernel_rfl) (by kernel_rfl) (by kernel_rfl) (by kernel_rfl) ?_
  repeat' ((conv => whnf); first | refine And.intro (fun h => h) ?_ | refine dcond_t (by assumption) ?_ | refine dcond_f (by assumption) ?_ | (refine dcond_intro ?_ ?_ <;> intro h) | exact .refl | refine And.intro (by kernel_rfl) ?_ | refine And.intro ⟨fun h => h, fun h => h⟩ ?_ | refine Exists.intro false ?_ | (refine And.intro ?_ ?_; focus (simp; done)) | fail)
  all_goals (conv => whnf)
  all_goals (refine ⟨[], ?_⟩)
  all_goals (conv => whnf)
  all_goals (exact ⟨.refl, ⟨ole_cellsA ⟨.refl, .refl, .refl, .refl, .refl, .refl, .refl, .refl, .refl, .refl, .nl, .nl, .refl, .refl, .refl, .refl, trivial⟩, .refl, trivial⟩, by rfl⟩)
theorem m_idle (s : Agr) : RetM Tryz.prog 92 [.cells 56 (agrO s 1 ++ [.nl]), .row 51 3 (s.accs.map rptE)] [.lp 0 0] [true, true] [.cells 56 (agrO (idleA s) 1 ++ [.nl]), .row 51 3 (s.accs.map rptE)] (.tup []) := by
  refine retM_of_bodyA (fn := Tryz.f92) (c := Tryz.f92.body.getD .skip) hm hT (by kernel_rfl) Tryz.func92 (by kernel_rfl) (by kernel_rfl) (by kernel_rfl) (by kernel_rfl) (by kernel_rfl) ?_
  repeat' ((conv => whnf); first | refine And.intro (fun h => h) ?_ | refine dcond_t (by assumption) ?_ | refine dcond_f (by assumption) ?_ | (refine dcond_intro ?_ ?_ <;> intro h) | exact .refl | refine And.intro (by kernel_rfl) ?_ | refine And.intro ⟨fun h => h, fun h => h⟩ ?_ | refine Exists.intro false ?_ | (refine And.intro ?_ ?_; focus (simp; done)) | fail)
  all_goals (conv => whnf)
  all_goals (refine ⟨[], ?_⟩)
  all_goals (conv => whnf)
  all_goals (exact ⟨.refl, ⟨ole_cellsA ⟨.refl, .refl, .refl, .refl, .refl, .refl, .refl, .refl, .refl, .refl, .nl, .nl, .refl, .refl, .refl, .refl, trivial⟩, .refl, .refl, trivial⟩, by rfl⟩)
theorem m_majority_acc (s : Agr) : RetM Tryz.prog 113 [.cells 56 (agrO s 1 ++ [.nl]), .row 51 3 (s.accs.map rptE)] [.lp 0 0] [true, true] [.cells 56 (agrO s 1 ++ [.nl]), .row 51 3 (s.accs.map rptE)] (i64 (majB s.view.mem.length)) := by
  have e : Ret Tryz.prog 106 [i64 ((s.view.mem.map intE).length : Int)] (i64 (majB s.view.mem.length)) := by
    rw [List.length_map]
    exact c_view_Majority _
  refine retM_of_body (fn := Tryz.f113) (c := Tryz.f113.body.getD .skip) hm hT (by kernel_rfl) Tryz.func113 (by kernel_rfl) (by kernel_rfl) (by kernel_rfl) (by kernel_rfl) (by kernel_rfl) ?_
  repeat' ((conv => whnf); first | refine And.intro (fun h => h) ?_ | refine dcond_t (by assumption) ?_ | refine dcond_f (by assumption) ?_ | (refine dcond_intro ?_ ?_ <;> intro h) | exact .refl | refine And.intro (by kernel_rfl) ?_ | refine And.intro ⟨fun h => h, fun h => h⟩ ?_ | refine .inl ⟨_, _, DleAll_refl _, e, ?_⟩ | refine ⟨_, _, DleAll_refl _, fun _ => e, ?_⟩ | refine ⟨_, _, DleAll_refl _, e, ?_⟩ | refine Exists.intro false ?_ | (refine And.intro ?_ ?_; focus (simp; done)) | fail)
  all_goals (conv => whnf)
  exact ⟨.refl, ⟨.refl, .refl, .refl, trivial⟩, by rfl⟩
theorem choose_len {v : View} {l : List Rpt} {own : List Int} {N : Nat} (hc : ∀ r ∈ l, r.cut.length ≤ N) (ho : own.length ≤ N) : (chooseR v l own).1.length ≤ N := by
  unfold chooseR
  cases gateB v l own
  · rw [cond_false]
    cases decide (0 < (l.getD (hiAt l l.length) rpt0).rank)
    · rw [cond_false]
      cases hf : (boxOf l).find? (fun b => decide (thrB v l ≤ (votesN (boxOf l) b.cut : Int))) with
      | some b => exact box_cut hc b (List.mem_of_find?_eq_some hf)
      | none =>
        cases decide ((own.length : Int) = 0)
        · exact ho
        · exact Nat.zero_le _
    · rw [cond_true]
      rcases Nat.lt_or_ge (hiAt l l.length) l.length with h | h
      · simp only [List.getD_eq_getElem?_getD, List.getElem?_eq_getElem h, Option.getD_some]
        exact hc _ (List.getElem_mem h)
      · simp only [List.getD_eq_getElem?_getD, List.getElem?_eq_none h, Option.getD_none]
        exact Nat.zero_le _
  · exact Nat.zero_le _
def advA (s : Agr) : Agr :=
  bif !decide (s.phase = 1) || decide ((s.reps.length : Int) < majB s.view.mem.length) then s
  else bif (acceptR s.acc s.rank (chooseR s.view s.reps s.prop).1).2 then
    { s with cho := (chooseR s.view s.reps s.prop).1, phase := 2, acc := (acceptR s.acc s.rank (chooseR s.view s.reps s.prop).1).1, accs := enterR s.view s.accs ⟨s.self, s.rank, (chooseR s.view s.reps s.prop).1⟩ }
  else idleA s
set_option maxHeartbeats 8000000 in
theorem m_advance (s : Agr) (hs : SmA s) (hok : repsB s.view s.accs = true) : RetM Tryz.prog 94 [.cells 56 (agrO s 1 ++ [.nl]), .row 51 3 (s.accs.map rptE)] [.lp 0 0] [true, false] [.cells 56 (agrE (advA s) ++ [.nl]), .gone] (.tup []) := by
  have e1 := m_majority_acc s
  have hcl := choose_len (v := s.view) (l := s.reps) (own := s.prop) hs.repc hs.prop
  have e2 := c_paxos_Choose s.view (by have := hs.mem; omega) s.reps (by have := hs.reps; omega) (fun b hb => by have := hs.repc b hb; omega) s.prop (by have := hs.prop; omega)
  have hy0 : (!decide (s.phase = 1) || decide ((s.reps.length : Int) < majB s.view.mem.length)) = true → advA s = s := fun h => by rw [advA, h, cond_true]
  have hy1 : (!decide (s.phase = 1) || decide ((s.reps.length : Int) < majB s.view.mem.length)) = false → (acceptR s.acc s.rank (chooseR s.view s.reps s.prop).1).2 = true → advA s = { s with cho := (chooseR s.view s.reps s.prop).1, phase := 2, acc := (acceptR s.acc s.rank (chooseR s.view s.reps s.prop).1).1, accs := enterR s.view s.accs ⟨s.self, s.rank, (chooseR s.view s.reps s.prop).1⟩ } := fun h h2 => by rw [advA, h, h2, cond_false, cond_true]
  have hy2 : (!decide (s.phase = 1) || decide ((s.reps.length : Int) < majB s.view.mem.length)) = false → (acceptR s.acc s.rank (chooseR s.view s.reps s.prop).1).2 = false → advA s = idleA s := fun h h2 => by rw [advA, h, h2, cond_false, cond_false]
  generalize chooseR s.view s.reps s.prop = C at *
  have e3 := c_paxos_OnAccept s.acc (by have := hs.acut; omega) s.rank C.1 (by omega)
  have hal := accept_len (rank := s.rank) hs.acut hcl
  generalize acceptR s.acc s.rank C.1 = X at *
  have e4 := m_idle { s with cho := C.1, phase := 2 }
  have hs2 : SmA { s with cho := C.1, phase := 2, acc := X.1 } := ⟨hs.mem, hal, hs.prop, hs.box, hs.boxc, hs.reps, hs.repc, hcl, hs.accs, hs.accc, hs.dec⟩
  have e5 := m_enterS _ hs2 hok ⟨s.self, s.rank, C.1⟩ hcl
  generalize advA s = A at *
  refine retM_of_bodyA (fn := Tryz.f94) (c := Tryz.f94.body.getD .skip) hm hT (by kernel_rfl) Tryz.func94 (by kernel_rfl) (by kernel_rfl) (by kernel_rfl) (by kernel_rfl) (by kernel_rfl) ?_
  repeat' ((conv => whnf); first | refine And.intro (fun h => h) ?_ | refine dcond_t (by assumption) ?_ | refine dcond_f (by assumption) ?_ | (refine dcond_intro ?_ ?_ <;> intro h) | exact .refl | refine And.intro (by kernel_rfl) ?_ | refine And.intro ⟨fun h => h, fun h => h⟩ ?_ | refine Exists.intro (i64 0) ?_ | refine And.intro ⟨fun h => h, fun hg => Bool.noConfusion (hg.symm.trans h)⟩ ?_ | refine .inl ⟨[0, 1], _, _, _, _, e1, by rfl, ⟨rfl, rfl, trivial⟩, ⟨.refl, trivial⟩, ?_⟩ | refine .inl ⟨_, _, DleAll_refl _, e2, ?_⟩ | refine ⟨_, _, DleAll_refl _, fun _ => e2, ?_⟩ | refine ⟨_, _, DleAll_refl _, e2, ?_⟩ | refine .inl ⟨_, _, DleAll_refl _, e3, ?_⟩ | refine ⟨_, _, DleAll_refl _, fun _ => e3, ?_⟩ | refine ⟨_, _, DleAll_refl _, e3, ?_⟩ | refine .inr ⟨[0, 1], _, _, _, _, _, e4, by rfl, ⟨.refl, .refl, trivial⟩, ⟨.refl, trivial⟩, ?_⟩ | refine .inr ⟨[0, 1], _, _, _, _, _, e5, by rfl, ⟨.refl, .refl, trivial⟩, ⟨.refl, .refl, trivial⟩, ?_⟩ | refine Exists.intro false ?_ | (refine And.intro ?_ ?_; focus (simp; done)) | fail)
  all_goals (conv => whnf)
  all_goals simp only [List.length_map] at *
  · rw [hy0 (by assumption)]
    refine ⟨[.shutc 0 12, .bury 1], ?_⟩
    conv => whnf
    exact ⟨.refl, ⟨.refl, .refl, gh2, trivial⟩, by rfl⟩
  · rename_i h1 h2
    rw [hy2 h (by simpa using h2)]
    refine ⟨[.shutc 0 12, .bury 1], ?_⟩
    conv => whnf
    exact ⟨.refl, ⟨.refl, .refl, gh2, trivial⟩, by rfl⟩
  · rename_i h1 h2
    rw [hy1 h (by simpa using h2)]
    refine ⟨[], ?_⟩
    conv => whnf
    exact ⟨.refl, ⟨.refl, .refl, gh2, trivial⟩, by rfl⟩
  · rename_i h1
    rw [hy0 (by simp at h1; simp [h1])]
    refine ⟨[.shutc 0 12, .bury 1], ?_⟩
    conv => whnf
    exact ⟨.refl, ⟨.refl, .refl, gh2, trivial⟩, by rfl⟩
  all_goals
    rename_i h1 h2
    simp at h1 h
    exact absurd h h1
end Go.Proofs.YtmbniilpgbjcfaaGreat

set_option maxRecDepth 100000
namespace Go.Proofs.YtmbniilpgbjcfaaGreat
open Go.Lift
theorem m_majority_own (s : Agr) (ps : List Pkt) : RetM Tryz.prog 113 [.cells 56 (agrE s ++ [.own 1]), .row 48 7 (ps.map pktE)] [.lp 0 0] [true, true] [.cells 56 (agrE s ++ [.own 1]), .row 48 7 (ps.map pktE)] (i64 (majB s.view.mem.length)) := by
  have e : Ret Tryz.prog 106 [i64 ((s.view.mem.map intE).length : Int)] (i64 (majB s.view.mem.length)) := by
    rw [List.length_map]
    exact c_view_Majority _
  refine retM_of_body (fn := Tryz.f113) (c := Tryz.f113.body.getD .skip) hm hT (by kernel_rfl) Tryz.func113 (by kernel_rfl) (by kernel_rfl) (by kernel_rfl) (by kernel_rfl) (by kernel_rfl) ?_
  repeat' ((conv => whnf); first | refine And.intro (fun h => h) ?_ | refine dcond_t (by assumption) ?_ | refine dcond_f (by assumption) ?_ | (refine dcond_intro ?_ ?_ <;> intro h) | exact .refl | refine And.intro (by kernel_rfl) ?_ | refine And.intro ⟨fun h => h, fun h => h⟩ ?_ | refine .inl ⟨_, _, DleAll_refl _, e, ?_⟩ | refine ⟨_, _, DleAll_refl _, fun _ => e, ?_⟩ | refine ⟨_, _, DleAll_refl _, e, ?_⟩ | refine Exists.intro false ?_ | (refine And.intro ?_ ?_; focus (simp; done)) | fail)
  all_goals (conv => whnf)
  exact ⟨.refl, ⟨.refl, .refl, .refl, trivial⟩, by rfl⟩
set_option maxHeartbeats 2000000 in
theorem m_accepted_nil (s : Agr) (hs : SmA s) : RetM Tryz.prog 76 [.cells 56 (agrE s ++ [.nl])] [.lp 0 0] [true] [.cells 56 (agrE s ++ [.nl])] (.lst 1 ((accdR s).map intE) false) := by
  have e109 := c_majority s .nl
  have hal := hs.accs
  refine retM_of_body (fn := Tryz.f76) (c := Tryz.f76.body.getD .skip) hm hT (by kernel_rfl) Tryz.func76 (by kernel_rfl) (by kernel_rfl) (by kernel_rfl) (by kernel_rfl) (by kernel_rfl) ?_
  repeat' ((conv => whnf); first | refine And.intro (fun h => h) ?_ | refine dcond_t (by assumption) ?_ | refine dcond_f (by assumption) ?_ | (refine dcond_intro ?_ ?_ <;> intro h) | exact .refl | refine And.intro (by kernel_rfl) ?_ | refine And.intro ⟨fun h => h, fun h => h⟩ ?_ | refine Exists.intro false ?_ | (refine And.intro ?_ ?_; focus (simp; done)) | fail)
  all_goals (conv => whnf)
  refine ⟨Nat, fun i => ⟨[(0, .lp 0 0), (3, i64 (accAt s.accs (majB s.view.mem.length) i).1), (4, .lst 1 ((accAt s.accs (majB s.view.mem.length) i).2.map intE) false), (14, .lst 3 (s.accs.map rptE) false), (15, i64 s.accs.length), (16, i64 i)], [.cells 56 (agrE s ++ [.nl]), .gh [.lp 0 0]]⟩, fun i => i ≤ s.accs.length, fun i => s.accs.length - i, [], ⟨0, Nat.zero_le _, ?_⟩, ?_⟩
  · conv => whnf
    exact ⟨⟨.refl, .refl, .nl, .refl, dle_int (by simp), .refl, trivial⟩, ⟨.refl, .refl, trivial⟩, by rfl⟩
  · intro i hi
    conv => whnf
    refine dcond_intro ?_ ?_ <;> intro h
    · have hlt : i < s.accs.length := by simpa using h
      clear h
      have hg : s.accs.getD i rpt0 = s.accs[i] := by simp [hlt]
      have hci := hs.accc _ (List.getElem_mem hlt)
      have hacc : accAt s.accs (majB s.view.mem.length) (i + 1) = bif decide (majB s.view.mem.length ≤ (vA s.accs s.accs[i] s.accs.length : Int)) && decide ((accAt s.accs (majB s.view.mem.length) i).1 < s.accs[i].rank) then (s.accs[i].rank, s.accs[i].cut) else accAt s.accs (majB s.view.mem.length) i := by
        rw [← hg]
        rfl
      have hgx : (s.accs.map rptE)[i]? = some (rptE s.accs[i]) := get_map hlt
      obtain ⟨r, hr⟩ : ∃ r, r = s.accs[i] := ⟨_, rfl⟩
      rw [← hr] at hci hacc hgx
      repeat' ((conv => whnf); first | refine And.intro (fun h => h) ?_ | refine dcond_t (by assumption) ?_ | refine dcond_f (by assumption) ?_ | (refine dcond_intro ?_ ?_ <;> intro h) | exact .refl | refine And.intro (by kernel_rfl) ?_ | refine And.intro ⟨fun h => h, fun h => h⟩ ?_ | refine ⟨i, rptE r, And.intro ⟨rfl, hgx⟩ ?_⟩ | refine Exists.intro false ?_ | (refine And.intro ?_ ?_; focus (simp; done)) | fail)
      all_goals (conv => whnf)
      refine ⟨Nat, fun k => ⟨[(0, .lp 0 0), (3, i64 (accAt s.accs (majB s.view.mem.length) i).1), (4, .lst 1 ((accAt s.accs (majB s.view.mem.length) i).2.map intE) false), (6, .lp 2 0), (7, i64 (vA s.accs r k)), (14, .lst 3 (s.accs.map rptE) false), (15, i64 s.accs.length), (16, i64 i), (24, .lst 3 (s.accs.map rptE) false), (25, i64 s.accs.length), (26, i64 k)], [.cells 56 (agrE s ++ [.nl]), .gh [.lp 0 0], .cells 51 (rptE r)]⟩, fun k => k ≤ s.accs.length, fun k => s.accs.length - k, [], ⟨0, Nat.zero_le _, ?_⟩, ?_⟩
      · conv => whnf
        exact ⟨⟨.refl, .refl, .refl, .refl, .refl, .refl, .refl, .refl, .refl, dle_int (by simp), .refl, trivial⟩, ⟨.refl, .refl, .refl, trivial⟩, by rfl⟩
      · intro k hk
        conv => whnf
        refine dcond_intro ?_ ?_ <;> intro h
        · have hltk : k < s.accs.length := by simpa using h
          clear h
          have hvk := vA_succ (r := r) hltk
          have hvl := vA_le s.accs r k
          have e42 := c_fastvote_Same s.accs[k].cut r.cut (by have := hs.accc _ (List.getElem_mem hltk); exact mx this)
          repeat' ((conv => whnf); first | refine And.intro (fun h => h) ?_ | refine dcond_t (by assumption) ?_ | refine dcond_f (by assumption) ?_ | (refine dcond_intro ?_ ?_ <;> intro h) | exact .refl | refine And.intro (by kernel_rfl) ?_ | refine And.intro ⟨fun h => h, fun h => h⟩ ?_ | refine ⟨_, _, And.intro ⟨rfl, get_map hltk⟩ ?_⟩ | refine .inl ⟨_, _, DleAll_refl _, e42, ?_⟩ | refine ⟨_, _, DleAll_refl _, fun _ => e42, ?_⟩ | refine ⟨_, _, DleAll_refl _, e42, ?_⟩ | refine Exists.intro false ?_ | (refine And.intro ?_ ?_; focus (simp; done)) | fail)
          all_goals (conv => whnf)
          · refine ⟨k + 1, hltk, by simp only []; omega, ?_⟩
            conv => whnf
            refine ⟨⟨.refl, .refl, .refl, .refl, ?_, .refl, .refl, .refl, .refl, .refl, dle_int (wrap_succ (by omega)), trivial⟩, ⟨.refl, .refl, .refl, trivial⟩, by rfl⟩
            rw [hvk, if_pos h]
            exact dle_int (wrap_succ (by omega))
          · refine ⟨k + 1, hltk, by simp only []; omega, ?_⟩
            conv => whnf
            refine ⟨⟨.refl, .refl, .refl, .refl, ?_, .refl, .refl, .refl, .refl, .refl, dle_int (wrap_succ (by omega)), trivial⟩, ⟨.refl, .refl, .refl, trivial⟩, by rfl⟩
            rw [hvk, if_neg (by rw [h]; simp)]
            exact .refl
        · have hge : ¬ k < s.accs.length := by simpa using h
          have : k = s.accs.length := by omega
          subst this
          clear h
          repeat' ((conv => whnf); first | refine And.intro (fun h => h) ?_ | refine dcond_t (by assumption) ?_ | refine dcond_f (by assumption) ?_ | (refine dcond_intro ?_ ?_ <;> intro h) | exact .refl | refine And.intro (by kernel_rfl) ?_ | refine And.intro ⟨fun h => h, fun h => h⟩ ?_ | refine .inl ⟨_, _, DleAll_refl _, e109, ?_⟩ | refine ⟨_, _, DleAll_refl _, fun _ => e109, ?_⟩ | refine ⟨_, _, DleAll_refl _, e109, ?_⟩ | refine Exists.intro false ?_ | (refine And.intro ?_ ?_; focus (simp; done)) | fail)
          all_goals (conv => whnf)
          · rw [h, cond_true] at hacc
            refine ⟨i + 1, hlt, by simp only []; omega, ?_⟩
            conv => whnf
            exact ⟨⟨.refl, dle_int (by rw [hacc]), dle_lst (by rw [hacc]), .refl, .refl, dle_int (wrap_succ (by omega)), trivial⟩, ⟨.refl, .refl, trivial⟩, by rfl⟩
          · rw [h, cond_false] at hacc
            refine ⟨i + 1, hlt, by simp only []; omega, ?_⟩
            conv => whnf
            exact ⟨⟨.refl, dle_int (by rw [hacc]), dle_lst (by rw [hacc]), .refl, .refl, dle_int (wrap_succ (by omega)), trivial⟩, ⟨.refl, .refl, trivial⟩, by rfl⟩
    · have hge : ¬ i < s.accs.length := by simpa using h
      have : i = s.accs.length := by omega
      subst this
      clear h
      repeat' ((conv => whnf); first | refine And.intro (fun h => h) ?_ | refine dcond_t (by assumption) ?_ | refine dcond_f (by assumption) ?_ | (refine dcond_intro ?_ ?_ <;> intro h) | exact .refl | refine And.intro (by kernel_rfl) ?_ | refine And.intro ⟨fun h => h, fun h => h⟩ ?_ | refine Exists.intro false ?_ | (refine And.intro ?_ ?_; focus (simp; done)) | fail)
      all_goals (conv => whnf)
      exact ⟨.refl, ⟨.refl, .refl, trivial⟩, by rfl⟩
set_option maxHeartbeats 2000000 in
theorem m_accepted_own (s : Agr) (hs : SmA s) (ps : List Pkt) : RetM Tryz.prog 76 [.cells 56 (agrE s ++ [.own 1]), .row 48 7 (ps.map pktE)] [.lp 0 0] [true, true] [.cells 56 (agrE s ++ [.own 1]), .row 48 7 (ps.map pktE)] (.lst 1 ((accdR s).map intE) false) := by
  have hal := hs.accs
  refine retM_of_body (fn := Tryz.f76) (c := Tryz.f76.body.getD .skip) hm hT (by kernel_rfl) Tryz.func76 (by kernel_rfl) (by kernel_rfl) (by kernel_rfl) (by kernel_rfl) (by kernel_rfl) ?_
  repeat' ((conv => whnf); first | refine And.intro (fun h => h) ?_ | refine dcond_t (by assumption) ?_ | refine dcond_f (by assumption) ?_ | (refine dcond_intro ?_ ?_ <;> intro h) | exact .refl | refine And.intro (by kernel_rfl) ?_ | refine And.intro ⟨fun h => h, fun h => h⟩ ?_ | refine Exists.intro false ?_ | (refine And.intro ?_ ?_; focus (simp; done)) | fail)
  all_goals (conv => whnf)
  refine ⟨Nat, fun i => ⟨[(0, .lp 0 0), (3, i64 (accAt s.accs (majB s.view.mem.length) i).1), (4, .lst 1 ((accAt s.accs (majB s.view.mem.length) i).2.map intE) false), (14, .lst 3 (s.accs.map rptE) false), (15, i64 s.accs.length), (16, i64 i)], [.cells 56 (agrE s ++ [.own 1]), .row 48 7 (ps.map pktE), .gh [.lp 0 0, .own 1]]⟩, fun i => i ≤ s.accs.length, fun i => s.accs.length - i, [], ⟨0, Nat.zero_le _, ?_⟩, ?_⟩
  · conv => whnf
    exact ⟨⟨.refl, .refl, .nl, .refl, dle_int (by simp), .refl, trivial⟩, ⟨.refl, .refl, .refl, trivial⟩, by rfl⟩
  · intro i hi
    conv => whnf
    refine dcond_intro ?_ ?_ <;> intro h
    · have hlt : i < s.accs.length := by simpa using h
      clear h
      have hg : s.accs.getD i rpt0 = s.accs[i] := by simp [hlt]
      have hci := hs.accc _ (List.getElem_mem hlt)
      have hacc : accAt s.accs (majB s.view.mem.length) (i + 1) = bif decide (majB s.view.mem.length ≤ (vA s.accs s.accs[i] s.accs.length : Int)) && decide ((accAt s.accs (majB s.view.mem.length) i).1 < s.accs[i].rank) then (s.accs[i].rank, s.accs[i].cut) else accAt s.accs (majB s.view.mem.length) i := by
        rw [← hg]
        rfl
      have hgx : (s.accs.map rptE)[i]? = some (rptE s.accs[i]) := get_map hlt
      obtain ⟨r, hr⟩ : ∃ r, r = s.accs[i] := ⟨_, rfl⟩
      rw [← hr] at hci hacc hgx
      repeat' ((conv => whnf); first | refine And.intro (fun h => h) ?_ | refine dcond_t (by assumption) ?_ | refine dcond_f (by assumption) ?_ | (refine dcond_intro ?_ ?_ <;> intro h) | exact .refl | refine And.intro (by kernel_rfl) ?_ | refine And.intro ⟨fun h => h, fun h => h⟩ ?_ | refine ⟨i, rptE r, And.intro ⟨rfl, hgx⟩ ?_⟩ | refine Exists.intro false ?_ | (refine And.intro ?_ ?_; focus (simp; done)) | fail)
      all_goals (conv => whnf)
      refine ⟨Nat, fun k => ⟨[(0, .lp 0 0), (3, i64 (accAt s.accs (majB s.view.mem.length) i).1), (4, .lst 1 ((accAt s.accs (majB s.view.mem.length) i).2.map intE) false), (6, .lp 3 0), (7, i64 (vA s.accs r k)), (14, .lst 3 (s.accs.map rptE) false), (15, i64 s.accs.length), (16, i64 i), (24, .lst 3 (s.accs.map rptE) false), (25, i64 s.accs.length), (26, i64 k)], [.cells 56 (agrE s ++ [.own 1]), .row 48 7 (ps.map pktE), .gh [.lp 0 0, .own 1], .cells 51 (rptE r)]⟩, fun k => k ≤ s.accs.length, fun k => s.accs.length - k, [], ⟨0, Nat.zero_le _, ?_⟩, ?_⟩
      · conv => whnf
        exact ⟨⟨.refl, .refl, .refl, .refl, .refl, .refl, .refl, .refl, .refl, dle_int (by simp), .refl, trivial⟩, ⟨.refl, .refl, .refl, .refl, trivial⟩, by rfl⟩
      · intro k hk
        conv => whnf
        refine dcond_intro ?_ ?_ <;> intro h
        · have hltk : k < s.accs.length := by simpa using h
          clear h
          have hvk := vA_succ (r := r) hltk
          have hvl := vA_le s.accs r k
          have e42 := c_fastvote_Same s.accs[k].cut r.cut (by have := hs.accc _ (List.getElem_mem hltk); exact mx this)
          repeat' ((conv => whnf); first | refine And.intro (fun h => h) ?_ | refine dcond_t (by assumption) ?_ | refine dcond_f (by assumption) ?_ | (refine dcond_intro ?_ ?_ <;> intro h) | exact .refl | refine And.intro (by kernel_rfl) ?_ | refine And.intro ⟨fun h => h, fun h => h⟩ ?_ | refine ⟨_, _, And.intro ⟨rfl, get_map hltk⟩ ?_⟩ | refine .inl ⟨_, _, DleAll_refl _, e42, ?_⟩ | refine ⟨_, _, DleAll_refl _, fun _ => e42, ?_⟩ | refine ⟨_, _, DleAll_refl _, e42, ?_⟩ | refine Exists.intro false ?_ | (refine And.intro ?_ ?_; focus (simp; done)) | fail)
          all_goals (conv => whnf)
          · refine ⟨k + 1, hltk, by simp only []; omega, ?_⟩
            conv => whnf
            refine ⟨⟨.refl, .refl, .refl, .refl, ?_, .refl, .refl, .refl, .refl, .refl, dle_int (wrap_succ (by omega)), trivial⟩, ⟨.refl, .refl, .refl, .refl, trivial⟩, by rfl⟩
            rw [hvk, if_pos h]
            exact dle_int (wrap_succ (by omega))
          · refine ⟨k + 1, hltk, by simp only []; omega, ?_⟩
            conv => whnf
            refine ⟨⟨.refl, .refl, .refl, .refl, ?_, .refl, .refl, .refl, .refl, .refl, dle_int (wrap_succ (by omega)), trivial⟩, ⟨.refl, .refl, .refl, .refl, trivial⟩, by rfl⟩
            rw [hvk, if_neg (by rw [h]; simp)]
            exact .refl
        · have hge : ¬ k < s.accs.length := by simpa using h
          have : k = s.accs.length := by omega
          subst this
          clear h
          repeat' ((conv => whnf); first | refine And.intro (fun h => h) ?_ | refine dcond_t (by assumption) ?_ | refine dcond_f (by assumption) ?_ | (refine dcond_intro ?_ ?_ <;> intro h) | exact .refl | refine And.intro (by kernel_rfl) ?_ | refine And.intro ⟨fun h => h, fun h => h⟩ ?_ | refine .inr ⟨[0, 1], _, _, _, _, _, m_majority_own s ps, by rfl, ⟨.refl, .refl, trivial⟩, ⟨.refl, trivial⟩, ?_⟩ | refine Exists.intro false ?_ | (refine And.intro ?_ ?_; focus (simp; done)) | fail)
          all_goals (conv => whnf)
          · rw [h, cond_true] at hacc
            refine ⟨i + 1, hlt, by simp only []; omega, ?_⟩
            conv => whnf
            exact ⟨⟨.refl, dle_int (by rw [hacc]), dle_lst (by rw [hacc]), .refl, .refl, dle_int (wrap_succ (by omega)), trivial⟩, ⟨.refl, .refl, .refl, trivial⟩, by rfl⟩
          · rw [h, cond_false] at hacc
            refine ⟨i + 1, hlt, by simp only []; omega, ?_⟩
            conv => whnf
            exact ⟨⟨.refl, dle_int (by rw [hacc]), dle_lst (by rw [hacc]), .refl, .refl, dle_int (wrap_succ (by omega)), trivial⟩, ⟨.refl, .refl, .refl, trivial⟩, by rfl⟩
    · have hge : ¬ i < s.accs.length := by simpa using h
      have : i = s.accs.length := by omega
      subst this
      clear h
      repeat' ((conv => whnf); first | refine And.intro (fun h => h) ?_ | refine dcond_t (by assumption) ?_ | refine dcond_f (by assumption) ?_ | (refine dcond_intro ?_ ?_ <;> intro h) | exact .refl | refine And.intro (by kernel_rfl) ?_ | refine And.intro ⟨fun h => h, fun h => h⟩ ?_ | refine Exists.intro false ?_ | (refine And.intro ?_ ?_; focus (simp; done)) | fail)
      all_goals (conv => whnf)
      exact ⟨.refl, ⟨.refl, .refl, .refl, trivial⟩, by rfl⟩
end Go.Proofs.YtmbniilpgbjcfaaGreat

set_option maxRecDepth 100000
namespace Go.Proofs.YtmbniilpgbjcfaaGreat
open Go.Lift
def decR (s : Agr) : List Int := bif (winR s.view s.box).2 then (winR s.view s.box).1 else accdR s
def endA (s : Agr) (ps : List Pkt) : Agr × List Pkt :=
  bif decide ((s.dec.length : Int) = 0) && decide (0 < ((decR s).length : Int)) then ({ s with dec := decR s }, ps ++ [pktOf s 0 6 0 0 (decR s)]) else (s, ps)
theorem win_len {v : View} {l : List Bal} {N : Nat} (hc : ∀ b ∈ l, b.cut.length ≤ N) : (winR v l).1.length ≤ N := by
  unfold winR
  cases !boxB v l
  · cases hf : l.find? (fun b => decide (fastB v.mem.length ≤ (votesN l b.cut : Int))) with
    | none => exact Nat.zero_le _
    | some b => exact hc b (List.mem_of_find?_eq_some hf)
  · exact Nat.zero_le _
theorem accAt_len {l : List Rpt} {N : Nat} (hc : ∀ b ∈ l, b.cut.length ≤ N) (m : Int) : ∀ i, i ≤ l.length → (accAt l m i).2.length ≤ N
  | 0, _ => Nat.zero_le _
  | i + 1, h => by
    unfold accAt
    cases decide (m ≤ (vA l (l.getD i rpt0) l.length : Int)) && decide ((accAt l m i).1 < (l.getD i rpt0).rank)
    · exact accAt_len hc m i (by omega)
    · have hi : i < l.length := by omega
      have hg : l.getD i rpt0 = l[i] := by simp [hi]
      simp only [cond_true, hg]
      exact hc _ (List.getElem_mem hi)
theorem accd_len {s : Agr} (hs : SmA s) : (accdR s).length ≤ 1000 := accAt_len hs.accc _ _ (Nat.le_refl _)
theorem gh_junk {d : DV} : ole (.gh [d]) (.gh [.junk]) := .gh rfl fun i a b ha hb => by
  cases i with
  | zero =>
    simp at ha hb
    subst ha hb
    exact .junk
  | succ n => simp at ha
theorem gh_junk2 {a d : DV} : ole (.gh [a, d]) (.gh [.junk, .junk]) := .gh rfl fun i x y hx hy => by
  rcases i with _ | _ | i
  · simp at hx hy
    subst hx hy
    exact .junk
  · simp at hx hy
    subst hx hy
    exact .junk
  · simp at hx
theorem end_yes {s : Agr} {ps : List Pkt} {c : List Int} (h0 : decide (((s.dec.map intE).length : Int) = 0) = true) (hc : decR s = c) (h : decide (0 < ((c.map intE).length : Int)) = true) : endA s ps = ({ s with dec := c }, ps ++ [pktOf s 0 6 0 0 c]) := by
  rw [List.length_map] at h0 h
  simp only [endA, hc, h0, h, Bool.and_self, cond_true]
theorem end_no {s : Agr} {ps : List Pkt} {c : List Int} (hc : decR s = c) (h : decide (0 < ((c.map intE).length : Int)) = false) : endA s ps = (s, ps) := by
  rw [List.length_map] at h
  simp only [endA, hc, h, Bool.and_false, cond_false]
theorem end_old {s : Agr} {ps : List Pkt} (h0 : decide (((s.dec.map intE).length : Int) = 0) = false) : endA s ps = (s, ps) := by
  rw [List.length_map] at h0
  simp only [endA, h0, Bool.false_and, cond_false]
set_option maxHeartbeats 8000000 in
theorem m_end_nil (s : Agr) (hs : SmA s) : RetM Tryz.prog 23 [.cells 56 (agrE s ++ [.nl])] [.lp 0 0] [false] [.dead] (.tup [.agg (agrE (endA s []).1), .lst 7 ((endA s []).2.map pktE) false]) := by
  have hv := hs.mem
  have e89 := c_fastvote_Winner s.view (by omega) s.box (by have := hs.box; omega) (fun b hb => by have := hs.boxc b hb; omega)
  have e90 := m_accepted_nil s hs
  have hw := win_len (v := s.view) hs.boxc
  have ha := accd_len hs
  have hd1 : (winR s.view s.box).2 = true → decR s = (winR s.view s.box).1 := fun h => by rw [decR, h, cond_true]
  have hd2 : (winR s.view s.box).2 = false → decR s = accdR s := fun h => by rw [decR, h, cond_false]
  generalize winR s.view s.box = W at *
  generalize accdR s = D at *
  have hsend := fun c h => m_send_nil { s with dec := c } 0 6 0 0 c h
  have hy := fun c h0 hc h => @end_yes s [] c h0 hc h
  have hn := fun c hc h => @end_no s [] c hc h
  have ho := fun h => @end_old s [] h
  generalize endA s [] = R at *
  refine retM_of_bodyA (fn := Tryz.f23) (c := Tryz.f23.body.getD .skip) hm hT (by kernel_rfl) Tryz.func23 (by kernel_rfl) (by kernel_rfl) (by kernel_rfl) (by kernel_rfl) (by kernel_rfl) ?_
  repeat' ((conv => whnf); first | refine And.intro (fun h => h) ?_ | refine dcond_t (by assumption) ?_ | refine dcond_f (by assumption) ?_ | (refine dcond_intro ?_ ?_ <;> intro h) | exact .refl | refine And.intro (by kernel_rfl) ?_ | refine And.intro ⟨fun h => h, fun h => h⟩ ?_ | refine .inl ⟨_, _, DleAll_refl _, e89, ?_⟩ | refine ⟨_, _, DleAll_refl _, fun _ => e89, ?_⟩ | refine ⟨_, _, DleAll_refl _, e89, ?_⟩ | refine .inr ⟨[0], _, _, _, _, _, e90, by rfl, ⟨.refl, trivial⟩, ⟨.refl, trivial⟩, ?_⟩ | refine .inl ⟨_, _, DleAll_refl _, c_agreement_clone _ (by omega), ?_⟩ | refine ⟨_, _, DleAll_refl _, fun _ => c_agreement_clone _ (by omega), ?_⟩ | refine ⟨_, _, DleAll_refl _, c_agreement_clone _ (by omega), ?_⟩ | refine .inr ⟨[0], _, _, _, _, _, hsend _ (by omega), by rfl, ⟨.refl, trivial⟩, ⟨.refl, .refl, .refl, .refl, .refl, .refl, trivial⟩, ?_⟩ | refine Exists.intro false ?_ | (refine And.intro ?_ ?_; focus (simp; done)) | fail)
  all_goals (conv => whnf)
  · rename_i h0 hw2
    rw [hy D h0 (hd2 (by simpa using hw2)) h]
    refine ⟨[.shut 3], ?_⟩
    conv => whnf
    exact ⟨.refl, ⟨.dead, gh_junk, trivial⟩, by rfl⟩
  · rename_i h0 hw2
    rw [hn D (hd2 (by simpa using hw2)) h]
    refine ⟨[], ?_⟩
    conv => whnf
    exact ⟨dle_tupA ⟨.refl, .nl, trivial⟩, ⟨.dead, gh_junk, trivial⟩, by rfl⟩
  · rename_i h0 hw2
    rw [hy W.1 h0 (hd1 (by simpa using hw2)) h]
    refine ⟨[.shut 3], ?_⟩
    conv => whnf
    exact ⟨.refl, ⟨.dead, gh_junk, trivial⟩, by rfl⟩
  · rename_i h0 hw2
    rw [hn W.1 (hd1 (by simpa using hw2)) h]
    refine ⟨[], ?_⟩
    conv => whnf
    exact ⟨dle_tupA ⟨.refl, .nl, trivial⟩, ⟨.dead, gh_junk, trivial⟩, by rfl⟩
  · rw [ho h]
    refine ⟨[], ?_⟩
    conv => whnf
    exact ⟨dle_tupA ⟨.refl, .nl, trivial⟩, ⟨.dead, gh_junk, trivial⟩, by rfl⟩
set_option maxHeartbeats 8000000 in
theorem m_end_own (s : Agr) (hs : SmA s) (ps : List Pkt) (hps : ps.length ≤ 100) : RetM Tryz.prog 23 [.cells 56 (agrE s ++ [.own 1]), .row 48 7 (ps.map pktE)] [.lp 0 0] [false, false] [.dead, .dead] (.tup [.agg (agrE (endA s ps).1), .lst 7 ((endA s ps).2.map pktE) false]) := by
  have hv := hs.mem
  have e89 := c_fastvote_Winner s.view (by omega) s.box (by have := hs.box; omega) (fun b hb => by have := hs.boxc b hb; omega)
  have e90 := m_accepted_own s hs ps
  have hw := win_len (v := s.view) hs.boxc
  have ha := accd_len hs
  have hd1 : (winR s.view s.box).2 = true → decR s = (winR s.view s.box).1 := fun h => by rw [decR, h, cond_true]
  have hd2 : (winR s.view s.box).2 = false → decR s = accdR s := fun h => by rw [decR, h, cond_false]
  generalize winR s.view s.box = W at *
  generalize accdR s = D at *
  have hsend := fun c h => m_send_own { s with dec := c } ps hps 0 6 0 0 c h
  have hy := fun c h0 hc h => @end_yes s ps c h0 hc h
  have hn := fun c hc h => @end_no s ps c hc h
  have ho := fun h => @end_old s ps h
  generalize endA s ps = R at *
  refine retM_of_bodyA (fn := Tryz.f23) (c := Tryz.f23.body.getD .skip) hm hT (by kernel_rfl) Tryz.func23 (by kernel_rfl) (by kernel_rfl) (by kernel_rfl) (by kernel_rfl) (by kernel_rfl) ?_
  repeat' ((conv => whnf); first | refine And.intro (fun h => h) ?_ | refine dcond_t (by assumption) ?_ | refine dcond_f (by assumption) ?_ | (refine dcond_intro ?_ ?_ <;> intro h) | exact .refl | refine And.intro (by kernel_rfl) ?_ | refine And.intro ⟨fun h => h, fun h => h⟩ ?_ | refine .inl ⟨_, _, DleAll_refl _, e89, ?_⟩ | refine ⟨_, _, DleAll_refl _, fun _ => e89, ?_⟩ | refine ⟨_, _, DleAll_refl _, e89, ?_⟩ | refine .inr ⟨[0, 1], _, _, _, _, _, e90, by rfl, ⟨.refl, .refl, trivial⟩, ⟨.refl, trivial⟩, ?_⟩ | refine .inl ⟨_, _, DleAll_refl _, c_agreement_clone _ (by omega), ?_⟩ | refine ⟨_, _, DleAll_refl _, fun _ => c_agreement_clone _ (by omega), ?_⟩ | refine ⟨_, _, DleAll_refl _, c_agreement_clone _ (by omega), ?_⟩ | refine .inr ⟨[0, 1], _, _, _, _, _, hsend _ (by omega), by rfl, ⟨.refl, .refl, trivial⟩, ⟨.refl, .refl, .refl, .refl, .refl, .refl, trivial⟩, ?_⟩ | refine Exists.intro false ?_ | (refine And.intro ?_ ?_; focus (simp; done)) | fail)
  all_goals (conv => whnf)
  · rename_i h0 hw2
    rw [hy D h0 (hd2 (by simpa using hw2)) h]
    refine ⟨[.shut 3], ?_⟩
    conv => whnf
    exact ⟨.refl, ⟨.dead, .dead, gh_junk2, trivial⟩, by rfl⟩
  · rename_i h0 hw2
    rw [hn D (hd2 (by simpa using hw2)) h]
    refine ⟨[.shut 3], ?_⟩
    conv => whnf
    exact ⟨.refl, ⟨.dead, .dead, gh_junk2, trivial⟩, by rfl⟩
  · rename_i h0 hw2
    rw [hy W.1 h0 (hd1 (by simpa using hw2)) h]
    refine ⟨[.shut 3], ?_⟩
    conv => whnf
    exact ⟨.refl, ⟨.dead, .dead, gh_junk2, trivial⟩, by rfl⟩
  · rename_i h0 hw2
    rw [hn W.1 (hd1 (by simpa using hw2)) h]
    refine ⟨[.shut 3], ?_⟩
    conv => whnf
    exact ⟨.refl, ⟨.dead, .dead, gh_junk2, trivial⟩, by rfl⟩
  · rw [ho h]
    refine ⟨[.shut 3], ?_⟩
    conv => whnf
    exact ⟨.refl, ⟨.dead, .dead, gh_junk2, trivial⟩, by rfl⟩
end Go.Proofs.YtmbniilpgbjcfaaGreat

set_option maxRecDepth 100000
namespace Go.Proofs.YtmbniilpgbjcfaaGreat
open Go.Lift
theorem c_idle_own (s : Agr) (ps : List Pkt) : RetM Tryz.prog 92 [.cells 56 (agrE s ++ [.own 1]), .row 48 7 (ps.map pktE)] [.lp 0 0] [true, true] [.cells 56 (agrE (idleA s) ++ [.own 1]), .row 48 7 (ps.map pktE)] (.tup []) := by
  refine retM_of_bodyA (fn := Tryz.f92) (c := Tryz.f92.body.getD .skip) hm hT (by kernel_rfl) Tryz.func92 (by kernel_rfl) (by kernel_rfl) (by kernel_rfl) (by kernel_rfl) (by kernel_rfl) ?_
  repeat' ((conv => whnf); first | refine And.intro (fun h => h) ?_ | refine dcond_t (by assumption) ?_ | refine dcond_f (by assumption) ?_ | (refine dcond_intro ?_ ?_ <;> intro h) | exact .refl | refine And.intro (by kernel_rfl) ?_ | refine And.intro ⟨fun h => h, fun h => h⟩ ?_ | refine Exists.intro false ?_ | (refine And.intro ?_ ?_; focus (simp; done)) | fail)
  all_goals (conv => whnf)
  all_goals (refine ⟨[], ?_⟩)
  all_goals (conv => whnf)
  all_goals (exact ⟨.refl, ⟨ole_cellsA ⟨.refl, .refl, .refl, .refl, .refl, .refl, .refl, .refl, .refl, .refl, .nl, .nl, .refl, .refl, .refl, .refl, trivial⟩, .refl, .refl, trivial⟩, by rfl⟩)
def prepA (s : Agr) (m : Msg) : Agr × List Pkt :=
  (bif decide (s.rank < m.rank) && !decide (s.phase = 0) then idleA (bif (prepR s.acc m.rank).2.2 then { s with acc := (prepR s.acc m.rank).1 } else s) else (bif (prepR s.acc m.rank).2.2 then { s with acc := (prepR s.acc m.rank).1 } else s),
   bif (prepR s.acc m.rank).2.2 then [pktOf s m.src 3 m.rank (prepR s.acc m.rank).2.1.rank (prepR s.acc m.rank).2.1.cut] else [])
set_option maxHeartbeats 8000000 in
theorem m_prepare (s : Agr) (hs : SmA s) (m : Msg) : RetM Tryz.prog 31 [.cells 56 (agrE s ++ [.nl])] [.lp 0 0, .agg (msgE m)] [true] [.cells 56 (agrE (prepA s m).1 ++ [.own 2]), .dead, .row 48 7 ((prepA s m).2.map pktE)] (.tup []) := by
  have e1 := c_paxos_OnPrepare s.acc (by have := hs.acut; omega) m.rank
  have hpl := (prep_len (rank := m.rank) hs.acut).2
  obtain ⟨R, hR⟩ : ∃ R, R = prepA s m := ⟨_, rfl⟩
  rw [← hR]
  unfold prepA at hR
  generalize prepR s.acc m.rank = X at *
  have e2 := m_send_nil { s with acc := X.1 } m.src 3 m.rank X.2.1.rank X.2.1.cut (by omega)
  have e3 := c_idle_own { s with acc := X.1 } [pktOf s m.src 3 m.rank X.2.1.rank X.2.1.cut]
  have e4 := c_idle s
  refine retM_of_bodyA (fn := Tryz.f31) (c := Tryz.f31.body.getD .skip) hm hT (by kernel_rfl) Tryz.func31 (by kernel_rfl) (by kernel_rfl) (by kernel_rfl) (by kernel_rfl) (by kernel_rfl) ?_
  repeat' ((conv => whnf); first | refine And.intro (fun h => h) ?_ | refine dcond_t (by assumption) ?_ | refine dcond_f (by assumption) ?_ | (refine dcond_intro ?_ ?_ <;> intro h) | exact .refl | refine And.intro (by kernel_rfl) ?_ | refine And.intro ⟨fun h => h, fun h => h⟩ ?_ | refine .inl ⟨_, _, DleAll_refl _, e1, ?_⟩ | refine ⟨_, _, DleAll_refl _, fun _ => e1, ?_⟩ | refine ⟨_, _, DleAll_refl _, e1, ?_⟩ | refine .inr ⟨[0], _, _, _, _, _, e2, by rfl, ⟨.refl, trivial⟩, ⟨.refl, .refl, .refl, .refl, .refl, .refl, trivial⟩, ?_⟩ | refine .inr ⟨[0, 4], _, _, _, _, _, e3, by rfl, ⟨.refl, .refl, trivial⟩, ⟨.refl, trivial⟩, ?_⟩ | refine .inr ⟨[0, 5], _, _, _, _, _, e3, by rfl, ⟨.refl, .refl, trivial⟩, ⟨.refl, trivial⟩, ?_⟩ | refine .inr ⟨[0, 6], _, _, _, _, _, e3, by rfl, ⟨.refl, .refl, trivial⟩, ⟨.refl, trivial⟩, ?_⟩ | refine .inr ⟨[0, 7], _, _, _, _, _, e3, by rfl, ⟨.refl, .refl, trivial⟩, ⟨.refl, trivial⟩, ?_⟩ | refine .inr ⟨[0], _, _, _, _, _, e4, by rfl, ⟨.refl, trivial⟩, ⟨.refl, trivial⟩, ?_⟩ | refine Exists.intro false ?_ | (refine And.intro ?_ ?_; focus (simp; done)) | fail)
  all_goals (conv => whnf)
  all_goals simp only [List.length_map] at *
  all_goals (simp only [*, cond_true, cond_false] at hR)
  all_goals subst hR
  · first | (refine ⟨[.xchg 2 3], ?_⟩; (conv => whnf); exact ⟨.refl, ⟨.refl, .refl, .refl, trivial⟩, by rfl⟩) | (refine ⟨[.xchg 2 4], ?_⟩; (conv => whnf); exact ⟨.refl, ⟨.refl, .refl, .refl, trivial⟩, by rfl⟩) | (refine ⟨[.xchg 2 5], ?_⟩; (conv => whnf); exact ⟨.refl, ⟨.refl, .refl, .refl, trivial⟩, by rfl⟩) | (refine ⟨[.xchg 2 6], ?_⟩; (conv => whnf); exact ⟨.refl, ⟨.refl, .refl, .refl, trivial⟩, by rfl⟩) | (refine ⟨[.xchg 2 7], ?_⟩; (conv => whnf); exact ⟨.refl, ⟨.refl, .refl, .refl, trivial⟩, by rfl⟩) | (refine ⟨[.xchg 2 8], ?_⟩; (conv => whnf); exact ⟨.refl, ⟨.refl, .refl, .refl, trivial⟩, by rfl⟩) | fail
  · first | (refine ⟨[.xchg 2 3], ?_⟩; (conv => whnf); exact ⟨.refl, ⟨.refl, .refl, .refl, trivial⟩, by rfl⟩) | (refine ⟨[.xchg 2 4], ?_⟩; (conv => whnf); exact ⟨.refl, ⟨.refl, .refl, .refl, trivial⟩, by rfl⟩) | (refine ⟨[.xchg 2 5], ?_⟩; (conv => whnf); exact ⟨.refl, ⟨.refl, .refl, .refl, trivial⟩, by rfl⟩) | (refine ⟨[.xchg 2 6], ?_⟩; (conv => whnf); exact ⟨.refl, ⟨.refl, .refl, .refl, trivial⟩, by rfl⟩) | (refine ⟨[.xchg 2 7], ?_⟩; (conv => whnf); exact ⟨.refl, ⟨.refl, .refl, .refl, trivial⟩, by rfl⟩) | (refine ⟨[.xchg 2 8], ?_⟩; (conv => whnf); exact ⟨.refl, ⟨.refl, .refl, .refl, trivial⟩, by rfl⟩) | fail
  · first | (refine ⟨[.cell 0 15 48 7, .xchg 2 2], ?_⟩; (conv => whnf); exact ⟨.refl, ⟨.refl, .refl, .refl, trivial⟩, by rfl⟩) | (refine ⟨[.cell 0 15 48 7, .xchg 2 3], ?_⟩; (conv => whnf); exact ⟨.refl, ⟨.refl, .refl, .refl, trivial⟩, by rfl⟩) | (refine ⟨[.cell 0 15 48 7, .xchg 2 4], ?_⟩; (conv => whnf); exact ⟨.refl, ⟨.refl, .refl, .refl, trivial⟩, by rfl⟩) | (refine ⟨[.cell 0 15 48 7, .xchg 2 5], ?_⟩; (conv => whnf); exact ⟨.refl, ⟨.refl, .refl, .refl, trivial⟩, by rfl⟩) | (refine ⟨[.cell 0 15 48 7, .xchg 2 6], ?_⟩; (conv => whnf); exact ⟨.refl, ⟨.refl, .refl, .refl, trivial⟩, by rfl⟩) | fail
  · first | (refine ⟨[.cell 0 15 48 7, .xchg 2 2], ?_⟩; (conv => whnf); exact ⟨.refl, ⟨.refl, .refl, .refl, trivial⟩, by rfl⟩) | (refine ⟨[.cell 0 15 48 7, .xchg 2 3], ?_⟩; (conv => whnf); exact ⟨.refl, ⟨.refl, .refl, .refl, trivial⟩, by rfl⟩) | (refine ⟨[.cell 0 15 48 7, .xchg 2 4], ?_⟩; (conv => whnf); exact ⟨.refl, ⟨.refl, .refl, .refl, trivial⟩, by rfl⟩) | (refine ⟨[.cell 0 15 48 7, .xchg 2 5], ?_⟩; (conv => whnf); exact ⟨.refl, ⟨.refl, .refl, .refl, trivial⟩, by rfl⟩) | (refine ⟨[.cell 0 15 48 7, .xchg 2 6], ?_⟩; (conv => whnf); exact ⟨.refl, ⟨.refl, .refl, .refl, trivial⟩, by rfl⟩) | fail
end Go.Proofs.YtmbniilpgbjcfaaGreat

set_option maxRecDepth 100000
namespace Go.Proofs.YtmbniilpgbjcfaaGreat
open Go.Lift
theorem add_mem {v : View} {l : List Rpt} {r x : Rpt} (h : x ∈ (addR v l r).1) : x = r ∨ x ∈ l := by
  unfold addR at h
  cases h1 : repsB v l with
  | false => simp [h1] at h
  | true =>
    cases h2 : repsB v (insR l r) with
    | false => simp [h1, h2] at h; exact .inr h
    | true => simp [h1, h2] at h; exact insR_mem h
theorem add_reps {v : View} {l : List Rpt} {r : Rpt} (h : repsB v l = true) : repsB v (addR v l r).1 = true := by
  unfold addR
  cases h2 : repsB v (insR l r) with
  | false => simp [h]
  | true => simp [h, h2]
theorem add_len {v : View} {l : List Rpt} {r : Rpt} : (addR v l r).1.length ≤ l.length + 1 := by
  have := insR_len l r
  unfold addR
  cases repsB v l <;> cases repsB v (insR l r) <;> simp <;> omega
theorem of_at {l : List Rpt} {x : Int} (h : decide (0 ≤ ofB l x) = true) : (l.getD (ofB l x).toNat rpt0).mem = x := by
  have h := of_decide_eq_true h
  unfold ofB at h ⊢
  rcases hf : (List.range l.length).find? (fun i => decide ((l.getD i rpt0).mem = x)) with _ | n
  · simp only [findB, hf] at h
    omega
  · have hn := List.find?_some hf
    simp only [findB, hf, Int.toNat_natCast]
    exact of_decide_eq_true hn
theorem enter_mem {v : View} {l : List Rpt} {r x : Rpt} (h : x ∈ enterR v l r) : x = r ∨ x ∈ l := by
  unfold enterR at h
  cases h1 : decide (0 ≤ ofB l r.mem)
  · rw [h1] at h
    exact add_mem h
  · rw [h1, cond_true] at h
    cases h2 : decide ((l.getD (ofB l r.mem).toNat rpt0).rank < r.rank)
    · rw [h2] at h
      exact .inr h
    · rw [h2] at h
      rcases List.mem_or_eq_of_mem_set h with h | h
      · exact .inr h
      · exact .inl h
theorem enter_len {v : View} {l : List Rpt} {r : Rpt} : (enterR v l r).length ≤ l.length + 1 := by
  unfold enterR
  have := @add_len v l r
  cases decide (0 ≤ ofB l r.mem)
  · exact this
  · cases decide ((l.getD (ofB l r.mem).toNat rpt0).rank < r.rank)
    · simp
    · simp
theorem set_reps {v : View} (hv : viewB v = true) {l : List Rpt} {r : Rpt} (h : repsB v l = true) (hr : vrB v r = true) {k : Nat} (hk : k < l.length) (he : l[k].mem = r.mem) : repsB v (l.set k r) = true := by
  obtain ⟨h1, h2⟩ := (reps_iff hv).1 h
  refine (reps_iff hv).2 ⟨fun x hx => ?_, ?_⟩
  · rcases List.mem_or_eq_of_mem_set hx with hx | rfl
    · exact h1 x hx
    · exact hr
  · rw [List.pairwise_iff_getElem] at h2 ⊢
    intro i j hi hj hij
    rw [List.length_set] at hi hj
    have := h2 i j hi hj hij
    rw [List.getElem_set, List.getElem_set]
    split <;> split
    · omega
    · rename_i e _
      subst e
      omega
    · rename_i e
      subst e
      omega
    · exact this
theorem enter_reps {v : View} (hv : viewB v = true) {l : List Rpt} {r : Rpt} (h : repsB v l = true) (hr : vrB v r = true) : repsB v (enterR v l r) = true := by
  unfold enterR
  cases h1 : decide (0 ≤ ofB l r.mem)
  · exact add_reps h
  · cases decide ((l.getD (ofB l r.mem).toNat rpt0).rank < r.rank)
    · exact h
    · obtain ⟨_, hk⟩ := ofr_ix h1
      have := of_at h1
      rw [show l.getD (ofB l r.mem).toNat rpt0 = l[(ofB l r.mem).toNat] by simp [hk]] at this
      exact set_reps hv h hr hk this
theorem m_send_sq (s : Agr) (to kind rank last : Int) (cut : List Int) (hc : cut.length ≤ 1000000) :
    RetM Tryz.prog 22 [.cells 56 (agrE s ++ [.nl])] [.lp 0 0, i64 to, i64 kind, i64 rank, i64 last, .lst 1 (cut.map intE) false] [true] [.cells 56 (agrE s ++ [.own 1]), .row 48 7 [pktE (pktOf s to kind rank last cut)]] (.tup []) :=
  (m_send_nil s to kind rank last cut hc).squeeze (L1 := [.cells 56 (agrE s ++ [.own 2])]) (L2 := [.row 48 7 [pktE (pktOf s to kind rank last cut)]]) (Nat.le_refl _)
def promA (s : Agr) (m : Msg) : Agr × List Pkt :=
  bif !decide (s.phase = 1) || !decide (m.rank = s.rank) then (s, [])
  else (advA { s with reps := (addR s.view s.reps ⟨m.src, m.last, m.cut⟩).1 },
    bif decide ((advA { s with reps := (addR s.view s.reps ⟨m.src, m.last, m.cut⟩).1 }).phase = 2) then [pktOf (advA { s with reps := (addR s.view s.reps ⟨m.src, m.last, m.cut⟩).1 }) 0 4 (advA { s with reps := (addR s.view s.reps ⟨m.src, m.last, m.cut⟩).1 }).rank 0 (advA { s with reps := (addR s.view s.reps ⟨m.src, m.last, m.cut⟩).1 }).cho] else [])
theorem adv_cho {s : Agr} (hs : SmA s) : (advA s).cho.length ≤ 1000 := by
  unfold advA
  cases !decide (s.phase = 1) || decide ((s.reps.length : Int) < majB s.view.mem.length)
  · cases (acceptR s.acc s.rank (chooseR s.view s.reps s.prop).1).2
    · exact Nat.zero_le _
    · exact choose_len hs.repc hs.prop
  · exact hs.cho
set_option maxHeartbeats 8000000 in
theorem m_promise (s : Agr) (hs : SmA s) (hok : repsB s.view s.accs = true) (hrl : s.reps.length ≤ 900) (m : Msg) (hc : m.cut.length ≤ 1000) : RetM Tryz.prog 32 [.cells 56 (agrO s 1 ++ [.nl]), .row 51 3 (s.accs.map rptE)] [.lp 0 0, .agg (msgE m)] [true, false] [.cells 56 (agrE (promA s m).1 ++ [.own 3]), .gone, .dead, .row 48 7 ((promA s m).2.map pktE)] (.tup []) := by
  have e1 := c_paxos_AddReport s.view (by have := hs.mem; omega) s.reps (by have := hs.reps; omega) (fun b hb => by have := hs.repc b hb; omega) ⟨m.src, m.last, m.cut⟩ (by simp only []; omega)
  have hl1 := @add_len s.view s.reps ⟨m.src, m.last, m.cut⟩
  have hl2 : ∀ x ∈ (addR s.view s.reps ⟨m.src, m.last, m.cut⟩).1, x.cut.length ≤ 1000 := fun x hx => by
    rcases add_mem hx with rfl | hx
    · exact hc
    · exact hs.repc x hx
  obtain ⟨R, hR⟩ : ∃ R, R = promA s m := ⟨_, rfl⟩
  rw [← hR]
  unfold promA at hR
  generalize addR s.view s.reps ⟨m.src, m.last, m.cut⟩ = X at *
  have hs2 : SmA { s with reps := X.1 } := ⟨hs.mem, hs.acut, hs.prop, hs.box, hs.boxc, (by simp only []; omega), hl2, hs.cho, hs.accs, hs.accc, hs.dec⟩
  have e2 := m_advance _ hs2 hok
  have hcl := adv_cho hs2
  generalize advA { s with reps := X.1 } = A at *
  have e3 := m_send_sq A 0 4 A.rank 0 A.cho (by omega)
  refine retM_of_bodyA (fn := Tryz.f32) (c := Tryz.f32.body.getD .skip) hm hT (by kernel_rfl) Tryz.func32 (by kernel_rfl) (by kernel_rfl) (by kernel_rfl) (by kernel_rfl) (by kernel_rfl) ?_
  repeat' ((conv => whnf); first | refine And.intro (fun h => h) ?_ | refine dcond_t (by assumption) ?_ | refine dcond_f (by assumption) ?_ | (refine dcond_intro ?_ ?_ <;> intro h) | exact .refl | refine And.intro (by kernel_rfl) ?_ | refine And.intro ⟨fun h => h, fun h => h⟩ ?_ | refine .inl ⟨_, _, DleAll_refl _, e1, ?_⟩ | refine ⟨_, _, DleAll_refl _, fun _ => e1, ?_⟩ | refine ⟨_, _, DleAll_refl _, e1, ?_⟩ | refine .inr ⟨[0, 1], _, _, _, _, _, e2, by rfl, ⟨.refl, .refl, trivial⟩, ⟨.refl, trivial⟩, ?_⟩ | refine .inr ⟨[0], _, _, _, _, _, e3, by rfl, ⟨.refl, trivial⟩, ⟨.refl, .refl, .refl, .refl, .refl, .refl, trivial⟩, ?_⟩ | refine Exists.intro false ?_ | (refine And.intro ?_ ?_; focus (simp; done)) | fail)
  all_goals (conv => whnf)
  all_goals simp only [*, cond_true, cond_false] at hR
  all_goals subst hR
  · first | (refine ⟨[.shutc 0 12, .bury 1, .cell 0 15 48 7, .xchg 3 2], ?_⟩; (conv => whnf); exact ⟨.refl, ⟨.refl, .refl, gh2, .refl, trivial⟩, by rfl⟩) | (refine ⟨[.shutc 0 12, .bury 1, .cell 0 15 48 7, .xchg 3 3], ?_⟩; (conv => whnf); exact ⟨.refl, ⟨.refl, .refl, gh2, .refl, trivial⟩, by rfl⟩) | (refine ⟨[.shutc 0 12, .bury 1, .cell 0 15 48 7, .xchg 3 4], ?_⟩; (conv => whnf); exact ⟨.refl, ⟨.refl, .refl, gh2, .refl, trivial⟩, by rfl⟩) | (refine ⟨[.shutc 0 12, .bury 1, .cell 0 15 48 7, .xchg 3 5], ?_⟩; (conv => whnf); exact ⟨.refl, ⟨.refl, .refl, gh2, .refl, trivial⟩, by rfl⟩) | (refine ⟨[.shutc 0 12, .bury 1, .cell 0 15 48 7, .xchg 3 6], ?_⟩; (conv => whnf); exact ⟨.refl, ⟨.refl, .refl, gh2, .refl, trivial⟩, by rfl⟩) | (refine ⟨[.shutc 0 12, .bury 1, .cell 0 15 48 7, .xchg 3 7], ?_⟩; (conv => whnf); exact ⟨.refl, ⟨.refl, .refl, gh2, .refl, trivial⟩, by rfl⟩) | (refine ⟨[.shutc 0 12, .bury 1, .cell 0 15 48 7, .xchg 3 8], ?_⟩; (conv => whnf); exact ⟨.refl, ⟨.refl, .refl, gh2, .refl, trivial⟩, by rfl⟩) | fail
  · first | (refine ⟨[.xchg 3 2], ?_⟩; (conv => whnf); exact ⟨.refl, ⟨.refl, .refl, gh2, .refl, trivial⟩, by rfl⟩) | (refine ⟨[.xchg 3 3], ?_⟩; (conv => whnf); exact ⟨.refl, ⟨.refl, .refl, gh2, .refl, trivial⟩, by rfl⟩) | (refine ⟨[.xchg 3 4], ?_⟩; (conv => whnf); exact ⟨.refl, ⟨.refl, .refl, gh2, .refl, trivial⟩, by rfl⟩) | (refine ⟨[.xchg 3 5], ?_⟩; (conv => whnf); exact ⟨.refl, ⟨.refl, .refl, gh2, .refl, trivial⟩, by rfl⟩) | (refine ⟨[.xchg 3 6], ?_⟩; (conv => whnf); exact ⟨.refl, ⟨.refl, .refl, gh2, .refl, trivial⟩, by rfl⟩) | (refine ⟨[.xchg 3 7], ?_⟩; (conv => whnf); exact ⟨.refl, ⟨.refl, .refl, gh2, .refl, trivial⟩, by rfl⟩) | (refine ⟨[.xchg 3 8], ?_⟩; (conv => whnf); exact ⟨.refl, ⟨.refl, .refl, gh2, .refl, trivial⟩, by rfl⟩) | fail
  · first | (refine ⟨[.cell 0 15 48 7, .xchg 3 2], ?_⟩; (conv => whnf); exact ⟨.refl, ⟨.refl, .refl, gh2, .refl, trivial⟩, by rfl⟩) | (refine ⟨[.cell 0 15 48 7, .xchg 3 3], ?_⟩; (conv => whnf); exact ⟨.refl, ⟨.refl, .refl, gh2, .refl, trivial⟩, by rfl⟩) | (refine ⟨[.cell 0 15 48 7, .xchg 3 4], ?_⟩; (conv => whnf); exact ⟨.refl, ⟨.refl, .refl, gh2, .refl, trivial⟩, by rfl⟩) | (refine ⟨[.cell 0 15 48 7, .xchg 3 5], ?_⟩; (conv => whnf); exact ⟨.refl, ⟨.refl, .refl, gh2, .refl, trivial⟩, by rfl⟩) | (refine ⟨[.cell 0 15 48 7, .xchg 3 6], ?_⟩; (conv => whnf); exact ⟨.refl, ⟨.refl, .refl, gh2, .refl, trivial⟩, by rfl⟩) | (refine ⟨[.cell 0 15 48 7, .xchg 3 7], ?_⟩; (conv => whnf); exact ⟨.refl, ⟨.refl, .refl, gh2, .refl, trivial⟩, by rfl⟩) | (refine ⟨[.cell 0 15 48 7, .xchg 3 8], ?_⟩; (conv => whnf); exact ⟨.refl, ⟨.refl, .refl, gh2, .refl, trivial⟩, by rfl⟩) | fail
end Go.Proofs.YtmbniilpgbjcfaaGreat

set_option maxRecDepth 100000
namespace Go.Proofs.YtmbniilpgbjcfaaGreat
open Go.Lift
def acctA (s : Agr) (m : Msg) : Agr × List Pkt :=
  bif (acceptR s.acc m.rank m.cut).2 then ({ s with acc := (acceptR s.acc m.rank m.cut).1, accs := enterR s.view (enterR s.view s.accs ⟨m.src, m.rank, m.cut⟩) ⟨s.self, m.rank, m.cut⟩ }, [pktOf s 0 5 m.rank 0 m.cut])
  else ({ s with accs := enterR s.view s.accs ⟨m.src, m.rank, m.cut⟩ }, [])
set_option maxHeartbeats 8000000 in
theorem m_accept (s : Agr) (hs : SmA s) (hv : viewB s.view = true) (hok : repsB s.view s.accs = true) (hal : s.accs.length ≤ 900) (m : Msg) (hc : m.cut.length ≤ 1000) (hr : vrB s.view ⟨m.src, m.rank, m.cut⟩ = true) : RetM Tryz.prog 33 [.cells 56 (agrO s 1 ++ [.nl]), .row 51 3 (s.accs.map rptE)] [.lp 0 0, .agg (msgE m)] [true, false] [.cells 56 (agrE (acctA s m).1 ++ [.own 3]), .gone, .dead, .row 48 7 ((acctA s m).2.map pktE)] (.tup []) := by
  have e1 := m_enter s hs hok ⟨m.src, m.rank, m.cut⟩ hc
  have e2 := c_paxos_OnAccept s.acc (by have := hs.acut; omega) m.rank m.cut (by omega)
  have hl1 := @enter_len s.view s.accs ⟨m.src, m.rank, m.cut⟩
  have hl2 : ∀ x ∈ enterR s.view s.accs ⟨m.src, m.rank, m.cut⟩, x.cut.length ≤ 1000 := fun x hx => by
    rcases enter_mem hx with rfl | hx
    · exact hc
    · exact hs.accc x hx
  have hok2 := enter_reps hv hok hr
  have hal2 := accept_len (rank := m.rank) hs.acut hc
  obtain ⟨R, hR⟩ : ∃ R, R = acctA s m := ⟨_, rfl⟩
  rw [← hR]
  unfold acctA at hR
  generalize acceptR s.acc m.rank m.cut = X at *
  generalize enterR s.view s.accs ⟨m.src, m.rank, m.cut⟩ = E at *
  have hs2 : SmA { s with acc := X.1, accs := E } := ⟨hs.mem, hal2, hs.prop, hs.box, hs.boxc, hs.reps, hs.repc, hs.cho, (by simp only []; omega), hl2, hs.dec⟩
  have e3 := m_enterS _ hs2 hok2 ⟨s.self, m.rank, m.cut⟩ hc
  have e4 := m_send_sq { s with acc := X.1, accs := enterR s.view E ⟨s.self, m.rank, m.cut⟩ } 0 5 m.rank 0 m.cut (by omega)
  refine retM_of_bodyA (fn := Tryz.f33) (c := Tryz.f33.body.getD .skip) hm hT (by kernel_rfl) Tryz.func33 (by kernel_rfl) (by kernel_rfl) (by kernel_rfl) (by kernel_rfl) (by kernel_rfl) ?_
  repeat' ((conv => whnf); first | refine And.intro (fun h => h) ?_ | refine dcond_t (by assumption) ?_ | refine dcond_f (by assumption) ?_ | (refine dcond_intro ?_ ?_ <;> intro h) | exact .refl | refine And.intro (by kernel_rfl) ?_ | refine And.intro ⟨fun h => h, fun h => h⟩ ?_ | refine .inr ⟨[0, 1], _, _, _, _, _, e1, by rfl, ⟨.refl, .refl, trivial⟩, ⟨.refl, .refl, trivial⟩, ?_⟩ | refine .inl ⟨_, _, DleAll_refl _, e2, ?_⟩ | refine ⟨_, _, DleAll_refl _, fun _ => e2, ?_⟩ | refine ⟨_, _, DleAll_refl _, e2, ?_⟩ | refine .inr ⟨[0, 3], _, _, _, _, _, e3, by rfl, ⟨.refl, .refl, trivial⟩, ⟨.refl, .refl, trivial⟩, ?_⟩ | refine .inr ⟨[0, 4], _, _, _, _, _, e3, by rfl, ⟨.refl, .refl, trivial⟩, ⟨.refl, .refl, trivial⟩, ?_⟩ | refine .inr ⟨[0, 5], _, _, _, _, _, e3, by rfl, ⟨.refl, .refl, trivial⟩, ⟨.refl, .refl, trivial⟩, ?_⟩ | refine .inr ⟨[0, 6], _, _, _, _, _, e3, by rfl, ⟨.refl, .refl, trivial⟩, ⟨.refl, .refl, trivial⟩, ?_⟩ | refine .inr ⟨[0, 7], _, _, _, _, _, e3, by rfl, ⟨.refl, .refl, trivial⟩, ⟨.refl, .refl, trivial⟩, ?_⟩ | refine .inr ⟨[0, 8], _, _, _, _, _, e3, by rfl, ⟨.refl, .refl, trivial⟩, ⟨.refl, .refl, trivial⟩, ?_⟩ | refine .inr ⟨[0, 9], _, _, _, _, _, e3, by rfl, ⟨.refl, .refl, trivial⟩, ⟨.refl, .refl, trivial⟩, ?_⟩ | refine .inr ⟨[0], _, _, _, _, _, e4, by rfl, ⟨.refl, trivial⟩, ⟨.refl, .refl, .refl, .refl, .refl, .refl, trivial⟩, ?_⟩ | refine Exists.intro false ?_ | (refine And.intro ?_ ?_; focus (simp; done)) | fail)
  all_goals (conv => whnf)
  all_goals simp only [*, cond_true, cond_false] at hR
  all_goals subst hR
  · first | (refine ⟨[.xchg 3 2], ?_⟩; (conv => whnf); exact ⟨.refl, ⟨.refl, .refl, gh2, .refl, trivial⟩, by rfl⟩) | (refine ⟨[.xchg 3 3], ?_⟩; (conv => whnf); exact ⟨.refl, ⟨.refl, .refl, gh2, .refl, trivial⟩, by rfl⟩) | (refine ⟨[.xchg 3 4], ?_⟩; (conv => whnf); exact ⟨.refl, ⟨.refl, .refl, gh2, .refl, trivial⟩, by rfl⟩) | (refine ⟨[.xchg 3 5], ?_⟩; (conv => whnf); exact ⟨.refl, ⟨.refl, .refl, gh2, .refl, trivial⟩, by rfl⟩) | (refine ⟨[.xchg 3 6], ?_⟩; (conv => whnf); exact ⟨.refl, ⟨.refl, .refl, gh2, .refl, trivial⟩, by rfl⟩) | (refine ⟨[.xchg 3 7], ?_⟩; (conv => whnf); exact ⟨.refl, ⟨.refl, .refl, gh2, .refl, trivial⟩, by rfl⟩) | (refine ⟨[.xchg 3 8], ?_⟩; (conv => whnf); exact ⟨.refl, ⟨.refl, .refl, gh2, .refl, trivial⟩, by rfl⟩) | (refine ⟨[.xchg 3 9], ?_⟩; (conv => whnf); exact ⟨.refl, ⟨.refl, .refl, gh2, .refl, trivial⟩, by rfl⟩) | fail
  · first | (refine ⟨[.shutc 0 12, .cell 0 15 48 7, .xchg 3 2], ?_⟩; (conv => whnf); exact ⟨.refl, ⟨.refl, .refl, gh2, .refl, trivial⟩, by rfl⟩) | (refine ⟨[.shutc 0 12, .cell 0 15 48 7, .xchg 3 3], ?_⟩; (conv => whnf); exact ⟨.refl, ⟨.refl, .refl, gh2, .refl, trivial⟩, by rfl⟩) | (refine ⟨[.shutc 0 12, .cell 0 15 48 7, .xchg 3 4], ?_⟩; (conv => whnf); exact ⟨.refl, ⟨.refl, .refl, gh2, .refl, trivial⟩, by rfl⟩) | (refine ⟨[.shutc 0 12, .cell 0 15 48 7, .xchg 3 5], ?_⟩; (conv => whnf); exact ⟨.refl, ⟨.refl, .refl, gh2, .refl, trivial⟩, by rfl⟩) | (refine ⟨[.shutc 0 12, .cell 0 15 48 7, .xchg 3 6], ?_⟩; (conv => whnf); exact ⟨.refl, ⟨.refl, .refl, gh2, .refl, trivial⟩, by rfl⟩) | (refine ⟨[.shutc 0 12, .cell 0 15 48 7, .xchg 3 7], ?_⟩; (conv => whnf); exact ⟨.refl, ⟨.refl, .refl, gh2, .refl, trivial⟩, by rfl⟩) | (refine ⟨[.shutc 0 12, .cell 0 15 48 7, .xchg 3 8], ?_⟩; (conv => whnf); exact ⟨.refl, ⟨.refl, .refl, gh2, .refl, trivial⟩, by rfl⟩) | (refine ⟨[.shutc 0 12, .cell 0 15 48 7, .xchg 3 9], ?_⟩; (conv => whnf); exact ⟨.refl, ⟨.refl, .refl, gh2, .refl, trivial⟩, by rfl⟩) | fail
end Go.Proofs.YtmbniilpgbjcfaaGreat

set_option maxRecDepth 100000
namespace Go.Proofs.YtmbniilpgbjcfaaGreat
open Go.Lift
set_option maxHeartbeats 8000000 in
theorem c_agreement_cloneState (s : Agr) (hs : SmA s) : Ret Tryz.prog 18 [.agg (agrE s)] (.agg (agrE s)) := by
  have b1 := hs.mem
  have b2 := hs.acut
  have b3 := hs.prop
  have b4 := hs.cho
  have b5 := hs.dec
  have b6 := hs.reps
  have b7 : ∀ b ∈ s.reps, b.cut.length ≤ 1000000 := fun b hb => by have := hs.repc b hb; omega
  have b8 := hs.accs
  have b9 : ∀ b ∈ s.accs, b.cut.length ≤ 1000000 := fun b hb => by have := hs.accc b hb; omega
  have hbl := hs.box
  have hby := byB (n := (s.box.map balE).length) (by simp; omega)
  refine ret_of_body (fn := Tryz.f18) (c := Tryz.f18.body.getD .skip) hm hT (by kernel_rfl) Tryz.func18 (by kernel_rfl) (by kernel_rfl) (by kernel_rfl) (by kernel_rfl) ?_
  repeat' ((conv => whnf); first | refine And.intro (fun h => h) ?_ | refine dcond_t (by assumption) ?_ | refine dcond_f (by assumption) ?_ | (refine dcond_intro ?_ ?_ <;> intro h) | exact .refl | refine And.intro (by kernel_rfl) ?_ | refine And.intro ⟨fun h => h, fun h => h⟩ ?_ | refine .inl ⟨_, _, DleAll_refl _, c_agreement_clone _ (by omega), ?_⟩ | refine ⟨_, _, DleAll_refl _, fun _ => c_agreement_clone _ (by omega), ?_⟩ | refine ⟨_, _, DleAll_refl _, c_agreement_clone _ (by omega), ?_⟩ | refine .inl ⟨_, _, DleAll_refl _, c_agreement_cloneReports _ (by omega) (by assumption), ?_⟩ | refine ⟨_, _, DleAll_refl _, fun _ => c_agreement_cloneReports _ (by omega) (by assumption), ?_⟩ | refine ⟨_, _, DleAll_refl _, c_agreement_cloneReports _ (by omega) (by assumption), ?_⟩ | refine ⟨(s.box.map balE).length, (s.box.map balE).length, rfl, rfl, Nat.le_refl _, hby.1, hby.2, ?_⟩ | refine Exists.intro false ?_ | (refine And.intro ?_ ?_; focus (simp; done)) | fail)
  all_goals (conv => whnf)
  refine ⟨Nat, fun i => ⟨[(2, .lp 1 0), (3, .lp 3 0), (54, .lst 2 (s.box.map balE) false), (55, i64 s.box.length), (56, i64 i)], [.cells 30 (agrE s), .cells 30 (tinfo tt 30).zero, .row 63 2 ((s.box.take i).map balE ++ List.replicate (s.box.length - i) z2), .cells 30 [i64 s.self, i64 s.view.num, .lst 1 (s.view.mem.map intE) false, i64 s.acc.pro, i64 s.acc.rank, .lst 1 (s.acc.cut.map intE) false, .lst 1 (s.prop.map intE) false, .own 2, i64 s.rank, i64 s.phase, .lst 3 (s.reps.map rptE) false, .lst 1 (s.cho.map intE) false, .lst 3 (s.accs.map rptE) false, .lst 1 (s.dec.map intE) false, i64 s.wait]]⟩, fun i => i ≤ s.box.length, fun i => s.box.length - i, [], ⟨0, Nat.zero_le _, ?_⟩, ?_⟩
  · conv => whnf
    refine ⟨⟨.refl, .refl, .refl, dle_int (by simp), .refl, trivial⟩, ⟨.refl, .refl, ole_row ?_, .refl, trivial⟩, by rfl⟩
    rw [List.length_map]
    rfl
  · intro i hi
    conv => whnf
    refine dcond_intro ?_ ?_ <;> intro h
    · have hlt : i < s.box.length := by simpa using h
      clear h
      have hlen := fill_len (f := balE) (z := z2) (l := s.box) (i := i) hi
      have hl0 : i < ((s.box.take i).map balE ++ List.replicate (s.box.length - i) z2).length := by omega
      have hget := fill_get (f := balE) (z := z2) hlt
      have hset := fill_set (f := balE) (z := z2) hlt
      have hbc := hs.boxc _ (List.getElem_mem hlt)
      repeat' ((conv => whnf); first | refine And.intro (fun h => h) ?_ | refine dcond_t (by assumption) ?_ | refine dcond_f (by assumption) ?_ | (refine dcond_intro ?_ ?_ <;> intro h) | exact .refl | refine And.intro (by kernel_rfl) ?_ | refine And.intro ⟨fun h => h, fun h => h⟩ ?_ | refine ⟨_, _, And.intro ⟨rfl, get_map hlt⟩ ?_⟩ | refine .inl ⟨_, _, DleAll_refl _, c_agreement_clone _ (by omega), ?_⟩ | refine ⟨_, _, DleAll_refl _, fun _ => c_agreement_clone _ (by omega), ?_⟩ | refine ⟨_, _, DleAll_refl _, c_agreement_clone _ (by omega), ?_⟩ | refine ⟨i, And.intro ⟨rfl, hl0⟩ ?_⟩ | refine ⟨z2, And.intro hget ?_⟩ | refine ⟨z2, hget, ?_⟩ | refine Exists.intro false ?_ | (refine And.intro ?_ ?_; focus (simp; done)) | fail)
      all_goals (conv => whnf)
      refine ⟨i + 1, hlt, by simp only []; omega, ?_⟩
      conv => whnf
      refine ⟨⟨.refl, .refl, .refl, .refl, dle_int (wrap_succ (by omega)), trivial⟩, ⟨.refl, .refl, ole_row ?_, .refl, trivial⟩, by rfl⟩
      rw [← hset]
      rfl
    · have hge : ¬ i < s.box.length := by simpa using h
      have : i = s.box.length := by omega
      subst this
      clear h
      rw [fill_end]
      repeat' ((conv => whnf); first | refine And.intro (fun h => h) ?_ | refine dcond_t (by assumption) ?_ | refine dcond_f (by assumption) ?_ | (refine dcond_intro ?_ ?_ <;> intro h) | exact .refl | refine And.intro (by kernel_rfl) ?_ | refine And.intro ⟨fun h => h, fun h => h⟩ ?_ | refine Exists.intro false ?_ | (refine And.intro ?_ ?_; focus (simp; done)) | fail)
      all_goals trace_state
end Go.Proofs.YtmbniilpgbjcfaaGreat

set_option maxRecDepth 100000
namespace Go.Proofs.YtmbniilpgbjcfaaGreat
open Go.Lift
theorem sq_cloneState (s : Agr) (hs : SmA s) : RetM Tryz.prog 18 [] [.agg (agrE s)] [] [.row 51 3 (s.accs.map rptE)] (.agg (agrO s 0)) := by
  have h1 := (m_cloneState s hs).squeeze (L1 := []) (L2 := [.dead, .dead, .row 51 3 (s.accs.map rptE)]) (Nat.le_refl _)
  have h2 := RetM.squeeze (L1 := []) (L2 := [.dead, .row 51 3 (s.accs.map rptE)]) (d := .agg (agrO s 2)) h1 (Nat.le_refl _)
  exact RetM.squeeze (L1 := []) (L2 := [.row 51 3 (s.accs.map rptE)]) (d := .agg (agrO s 1)) h2 (Nat.le_refl _)
theorem sm_idle {s : Agr} (hs : SmA s) : SmA (idleA s) := ⟨hs.mem, hs.acut, hs.prop, hs.box, hs.boxc, Nat.zero_le _, (fun b hb => by cases hb), Nat.zero_le _, hs.accs, hs.accc, hs.dec⟩
theorem sm_prep {s : Agr} (hs : SmA s) (m : Msg) : SmA (prepA s m).1 := by
  have h1 : SmA { s with acc := (prepR s.acc m.rank).1 } := ⟨hs.mem, (prep_len hs.acut).1, hs.prop, hs.box, hs.boxc, hs.reps, hs.repc, hs.cho, hs.accs, hs.accc, hs.dec⟩
  unfold prepA
  cases decide (s.rank < m.rank) && !decide (s.phase = 0) <;> cases (prepR s.acc m.rank).2.2
  · exact hs
  · exact h1
  · exact sm_idle hs
  · exact sm_idle h1
theorem sm_accs {s : Agr} (hs : SmA s) {r : Rpt} (hr : r.cut.length ≤ 1000) (hl : s.accs.length ≤ 900) : SmA { s with accs := enterR s.view s.accs r } :=
  ⟨hs.mem, hs.acut, hs.prop, hs.box, hs.boxc, hs.reps, hs.repc, hs.cho, (by have := @enter_len s.view s.accs r; simp only []; omega), (fun x hx => by
    rcases enter_mem hx with rfl | hx
    · exact hr
    · exact hs.accc x hx), hs.dec⟩
theorem sm_adv {s : Agr} (hs : SmA s) (hl : s.accs.length ≤ 900) : SmA (advA s) := by
  have hcl := choose_len (v := s.view) (l := s.reps) (own := s.prop) hs.repc hs.prop
  unfold advA
  cases !decide (s.phase = 1) || decide ((s.reps.length : Int) < majB s.view.mem.length)
  · cases (acceptR s.acc s.rank (chooseR s.view s.reps s.prop).1).2
    · exact sm_idle hs
    · have h1 := sm_accs (r := ⟨s.self, s.rank, (chooseR s.view s.reps s.prop).1⟩) hs hcl hl
      exact ⟨hs.mem, accept_len hs.acut hcl, hs.prop, hs.box, hs.boxc, hs.reps, hs.repc, hcl, h1.accs, h1.accc, hs.dec⟩
  · exact hs
theorem sm_prom {s : Agr} (hs : SmA s) (hrl : s.reps.length ≤ 900) (hl : s.accs.length ≤ 900) {m : Msg} (hc : m.cut.length ≤ 1000) : SmA (promA s m).1 := by
  unfold promA
  cases !decide (s.phase = 1) || !decide (m.rank = s.rank)
  · refine sm_adv ⟨hs.mem, hs.acut, hs.prop, hs.box, hs.boxc, (by have := @add_len s.view s.reps ⟨m.src, m.last, m.cut⟩; simp only []; omega), (fun x hx => ?_), hs.cho, hs.accs, hs.accc, hs.dec⟩ hl
    rcases add_mem hx with rfl | hx
    · exact hc
    · exact hs.repc x hx
  · exact hs
theorem sm_acct {s : Agr} (hs : SmA s) (hl : s.accs.length ≤ 800) {m : Msg} (hc : m.cut.length ≤ 1000) : SmA (acctA s m).1 := by
  have h1 := sm_accs (r := ⟨m.src, m.rank, m.cut⟩) hs hc (by omega)
  have h2 := sm_accs (r := ⟨s.self, m.rank, m.cut⟩) h1 hc (by have := @enter_len s.view s.accs ⟨m.src, m.rank, m.cut⟩; simp only []; omega)
  unfold acctA
  cases (acceptR s.acc m.rank m.cut).2
  · exact h1
  · exact ⟨hs.mem, accept_len hs.acut hc, hs.prop, hs.box, hs.boxc, hs.reps, hs.repc, hs.cho, h2.accs, h2.accc, hs.dec⟩
theorem prepA_ps (s : Agr) (m : Msg) : (prepA s m).2.length ≤ 100 := by
  unfold prepA
  cases (prepR s.acc m.rank).2.2 <;> simp
theorem promA_ps (s : Agr) (m : Msg) : (promA s m).2.length ≤ 100 := by
  unfold promA
  cases !decide (s.phase = 1) || !decide (m.rank = s.rank)
  · cases decide ((advA { s with reps := (addR s.view s.reps ⟨m.src, m.last, m.cut⟩).1 }).phase = 2) <;> simp
  · simp
theorem acctA_ps (s : Agr) (m : Msg) : (acctA s m).2.length ≤ 100 := by
  unfold acctA
  cases (acceptR s.acc m.rank m.cut).2 <;> simp
theorem reps_16 {v : View} {l : List Rpt} (h : repsB v l = true) : l.length ≤ 16 := by
  have hv : viewB v = true := by
    simp only [repsB, Bool.and_eq_true] at h
    exact h.1
  have h2 := ((reps_iff hv).1 h)
  have h3 : (l.map (·.mem)).Nodup := by
    unfold List.Nodup
    rw [List.pairwise_map]
    exact h2.2.imp fun h => by omega
  have h4 := nodup_len h3 (b := v.mem) (fun x hx => by
    obtain ⟨r, hr, rfl⟩ := List.mem_map.1 hx
    have := h2.1 r hr
    simp only [vrB, Bool.and_eq_true] at this
    exact in_mem this.1)
  rw [List.length_map] at h4
  have := view_n hv
  omega
theorem agr_reps {s : Agr} (h : agrB s = true) : repsB s.view s.reps = true ∧ repsB s.view s.accs = true ∧ phaseB s = true ∧ (∀ i, i < s.accs.length → leP 1 s.accs i = true) := by
  unfold agrB at h
  cases h1 : !viewB s.view || !inB s.view.mem s.self || decide (s.wait < 0) || decide (1099511627776 < s.wait)
  · rw [h1, cond_false] at h
    cases h2 : (!accB s.acc || !decide (s.acc.pro = 0) && !properB s.view s.acc.pro || decide (0 < s.acc.rank) && !properB s.view s.acc.rank || !goodB s.view s.acc.cut)
    · rw [h2, cond_false] at h
      cases h3 : !goodB s.view s.prop || !goodB s.view s.cho || !goodB s.view s.dec || !boxB s.view s.box
      · rw [h3, cond_false] at h
        cases h4 : (cutOf s.box s.self).2 && !sameI (cutOf s.box s.self).1 s.prop
        · rw [h4, cond_false] at h
          simp only [Bool.and_eq_true, prB] at h
          exact ⟨h.2.1.1.2, h.2.1.2.2, h.2.2, allB_true.1 h.1⟩
        · rw [h4] at h
          cases h
      · rw [h3] at h
        cases h
    · rw [h2] at h
      cases h
  · rw [h1] at h
    cases h
theorem vm_rpt {v : View} {m : Msg} (h : vmB v m = true) (hk : m.kind = 4 ∨ m.kind = 5) : vrB v ⟨m.src, m.rank, m.cut⟩ = true := by
  unfold vmB at h
  cases h1 : !viewB v || !inB v.mem m.src || !decide (m.view = v.num)
  · rw [h1, cond_false] at h
    simp only [Bool.or_eq_false_iff, Bool.not_eq_false', decide_eq_true_eq] at h1
    rcases hk with hk | hk <;> simp [hk] at h <;> simp only [vrB, usableB, properB, appB, Bool.and_eq_true, Bool.or_eq_true, Bool.not_eq_true', decide_eq_true_eq, decide_eq_false_iff_not] at h ⊢
    · exact ⟨h1.1.2, .inr ⟨.inr h.1.1.1.1, h.2⟩⟩
    · exact ⟨h1.1.2, .inr ⟨.inr h.1.1.1, h.2⟩⟩
  · rw [h1] at h
    cases h
end Go.Proofs.YtmbniilpgbjcfaaGreat

set_option maxRecDepth 100000
namespace Go.Proofs.YtmbniilpgbjcfaaGreat
open Go.Lift
def propA (s : Agr) (cut : List Int) : Agr × List Pkt × Int :=
  bif !agrB s || !appB s.view cut then (agr0, [], 1)
  else bif decide (0 < (s.prop.length : Int)) || decide (0 < (s.dec.length : Int)) then (agr0, [], 7)
  else bif (voteR s.acc cut).2 then
    ((endA { s with prop := cut, wait := 0, acc := (voteR s.acc cut).1, box := (castR s.view s.box ⟨s.self, cut⟩).1 } [pktOf s 0 1 0 0 cut]).1, (endA { s with prop := cut, wait := 0, acc := (voteR s.acc cut).1, box := (castR s.view s.box ⟨s.self, cut⟩).1 } [pktOf s 0 1 0 0 cut]).2, 0)
  else ((endA { s with prop := cut, wait := 0 } []).1, (endA { s with prop := cut, wait := 0 } []).2, 0)
theorem agr_view {s : Agr} (h : agrB s = true) : viewB s.view = true ∧ inB s.view.mem s.self = true ∧ 0 ≤ s.wait ∧ s.wait ≤ 1099511627776 := by
  unfold agrB at h
  cases h1 : !viewB s.view || !inB s.view.mem s.self || decide (s.wait < 0) || decide (1099511627776 < s.wait)
  · simp only [Bool.or_eq_false_iff, Bool.not_eq_false', decide_eq_false_iff_not] at h1
    exact ⟨h1.1.1.1, h1.1.1.2, by omega, by omega⟩
  · rw [h1] at h
    cases h
theorem agr_good {s : Agr} (h : agrB s = true) : goodB s.view s.prop = true ∧ goodB s.view s.cho = true ∧ goodB s.view s.dec = true ∧ boxB s.view s.box = true := by
  unfold agrB at h
  cases h1 : !viewB s.view || !inB s.view.mem s.self || decide (s.wait < 0) || decide (1099511627776 < s.wait)
  · rw [h1, cond_false] at h
    generalize (!accB s.acc || !decide (s.acc.pro = 0) && !properB s.view s.acc.pro || decide (0 < s.acc.rank) && !properB s.view s.acc.rank || !goodB s.view s.acc.cut) = b at h
    cases b
    · rw [cond_false] at h
      cases h2 : !goodB s.view s.prop || !goodB s.view s.cho || !goodB s.view s.dec || !boxB s.view s.box
      · simp only [Bool.or_eq_false_iff, Bool.not_eq_false'] at h2
        exact ⟨h2.1.1.1, h2.1.1.2, h2.1.2, h2.2⟩
      · rw [h2] at h
        cases h
    · cases h
  · rw [h1] at h
    cases h
theorem agr_box {s : Agr} (h : agrB s = true) : s.box.length ≤ 16 := by
  have := box_le (agr_good h).2.2.2
  have := view_n (agr_view h).1
  omega
theorem cast_len {v : View} {l : List Bal} {b : Bal} : (castR v l b).1.length ≤ l.length + 1 := by
  unfold castR
  have := insB_len l b
  cases !boxB v l || !appB v b.cut <;> cases !inB v.mem b.mem <;> cases decide (0 ≤ ofBal l b.mem) <;> simp <;> omega
theorem cast_cut {v : View} {l : List Bal} {b : Bal} {N : Nat} (hl : ∀ x ∈ l, x.cut.length ≤ N) (hb : b.cut.length ≤ N) : ∀ x ∈ (castR v l b).1, x.cut.length ≤ N := by
  unfold castR
  intro x hx
  cases h1 : !boxB v l || !appB v b.cut <;> cases h2 : !inB v.mem b.mem <;> cases h3 : decide (0 ≤ ofBal l b.mem) <;> rw [h1, h2, h3] at hx <;> simp only [cond_true, cond_false] at hx <;> try (cases hx; done)
  rcases insB_mem hx with rfl | hx
  · exact hb
  · exact hl x hx
set_option maxHeartbeats 8000000 in
theorem c_agreement_Propose (s : Agr) (hs : SmA s) (cut : List Int) (hc : cut.length ≤ 1000) : Ret Tryz.prog 6 [.agg (agrE s), .lst 1 (cut.map intE) false] (.tup [.agg (agrE (propA s cut).1), .lst 7 ((propA s cut).2.1.map pktE) false, i64 (propA s cut).2.2]) := by
  have hv := hs.mem
  have e12 := c_agreement_Valid s hs
  have e55 := c_agreement_applicable s.view (by omega) cut (by omega)
  have e58 := c_agreement_cloneState s hs
  have e59 := c_paxos_OnVote s.acc (by have := hs.acut; omega) cut (by omega)
  have e60 := c_fastvote_Cast s.view (by omega) s.box (by have := hs.box; omega) (fun b hb => by have := hs.boxc b hb; omega) ⟨s.self, cut⟩ (by simp only []; omega)
  have hs1 : SmA { s with prop := cut, wait := 0 } := ⟨hs.mem, hs.acut, hc, hs.box, hs.boxc, hs.reps, hs.repc, hs.cho, hs.accs, hs.accc, hs.dec⟩
  have hs2 : agrB s = true → SmA { s with prop := cut, wait := 0, acc := (voteR s.acc cut).1, box := (castR s.view s.box ⟨s.self, cut⟩).1 } := fun h =>
    ⟨hs.mem, vote_len hs.acut hc, hc, by
      have := cast_len (v := s.view) (l := s.box) (b := ⟨s.self, cut⟩)
      have := agr_box h
      simp only []
      omega, cast_cut hs.boxc hc, hs.reps, hs.repc, hs.cho, hs.accs, hs.accc, hs.dec⟩
  obtain ⟨R, hR⟩ : ∃ R, R = propA s cut := ⟨_, rfl⟩
  rw [← hR]
  unfold propA at hR
  generalize voteR s.acc cut = V at *
  generalize (castR s.view s.box ⟨s.self, cut⟩) = X at *
  generalize agrB s = B at *
  have msend := m_send_nil { s with prop := cut, wait := 0, acc := V.1, box := X.1 } 0 1 0 0 cut (by omega)
  have mend1 := m_end_nil _ hs1
  have mend2 := fun h => m_end_own _ (hs2 h) [pktOf s 0 1 0 0 cut] (by simp)
  refine ret_of_body (fn := Tryz.f6) (c := Tryz.f6.body.getD .skip) hm hT (by kernel_rfl) Tryz.func6 (by kernel_rfl) (by kernel_rfl) (by kernel_rfl) (by kernel_rfl) ?_
  repeat' ((conv => whnf); first | refine And.intro (fun h => h) ?_ | refine dcond_t (by assumption) ?_ | refine dcond_f (by assumption) ?_ | (refine dcond_intro ?_ ?_ <;> intro h) | exact .refl | refine And.intro (by kernel_rfl) ?_ | refine And.intro ⟨fun h => h, fun h => h⟩ ?_ | refine .inl ⟨_, _, DleAll_refl _, e12, ?_⟩ | refine ⟨_, _, DleAll_refl _, fun _ => e12, ?_⟩ | refine ⟨_, _, DleAll_refl _, e12, ?_⟩ | refine .inl ⟨_, _, DleAll_refl _, e55, ?_⟩ | refine ⟨_, _, DleAll_refl _, fun _ => e55, ?_⟩ | refine ⟨_, _, DleAll_refl _, e55, ?_⟩ | refine .inl ⟨_, _, DleAll_refl _, e58, ?_⟩ | refine ⟨_, _, DleAll_refl _, fun _ => e58, ?_⟩ | refine ⟨_, _, DleAll_refl _, e58, ?_⟩ | refine Exists.intro false ?_ | (refine And.intro ?_ ?_; focus (simp; done)) | fail)
  · simp only [h, cond_true] at hR
    subst hR
    exact dle_tupA ⟨dle_aggA ⟨.refl, .refl, .nl, .refl, .refl, .nl, .nl, .nl, .refl, .refl, .nl, .nl, .nl, .nl, .refl, trivial⟩, .nl, .refl, trivial⟩
  · rename_i h0
    rw [List.length_map, List.length_map] at h
    simp only [h0, h, cond_true, cond_false] at hR
    subst hR
    exact dle_tupA ⟨dle_aggA ⟨.refl, .refl, .nl, .refl, .refl, .nl, .nl, .nl, .refl, .refl, .nl, .nl, .nl, .nl, .refl, trivial⟩, .nl, .refl, trivial⟩
  rename_i h0
  rw [List.length_map, List.length_map] at h
  simp only [h0, h, cond_false] at hR
  clear h
  have hB : B = true := by
    cases B
    · cases h0
    · rfl
  repeat' ((conv => whnf); first | refine And.intro (fun h => h) ?_ | refine dcond_t (by assumption) ?_ | refine dcond_f (by assumption) ?_ | (refine dcond_intro ?_ ?_ <;> intro h) | exact .refl | refine And.intro (by kernel_rfl) ?_ | refine And.intro ⟨fun h => h, fun h => h⟩ ?_ | refine .inl ⟨_, _, DleAll_refl _, e12, ?_⟩ | refine ⟨_, _, DleAll_refl _, fun _ => e12, ?_⟩ | refine ⟨_, _, DleAll_refl _, e12, ?_⟩ | refine .inl ⟨_, _, DleAll_refl _, e55, ?_⟩ | refine ⟨_, _, DleAll_refl _, fun _ => e55, ?_⟩ | refine ⟨_, _, DleAll_refl _, e55, ?_⟩ | refine .inl ⟨_, _, DleAll_refl _, e58, ?_⟩ | refine ⟨_, _, DleAll_refl _, fun _ => e58, ?_⟩ | refine ⟨_, _, DleAll_refl _, e58, ?_⟩ | refine .inl ⟨_, _, DleAll_refl _, c_agreement_clone _ (by omega), ?_⟩ | refine ⟨_, _, DleAll_refl _, fun _ => c_agreement_clone _ (by omega), ?_⟩ | refine ⟨_, _, DleAll_refl _, c_agreement_clone _ (by omega), ?_⟩ | refine .inl ⟨_, _, DleAll_refl _, e59, ?_⟩ | refine ⟨_, _, DleAll_refl _, fun _ => e59, ?_⟩ | refine ⟨_, _, DleAll_refl _, e59, ?_⟩ | refine .inl ⟨_, _, DleAll_refl _, e60, ?_⟩ | refine ⟨_, _, DleAll_refl _, fun _ => e60, ?_⟩ | refine ⟨_, _, DleAll_refl _, e60, ?_⟩ | refine .inr ⟨[2], _, _, _, _, _, msend, by rfl, ⟨.refl, trivial⟩, ⟨.refl, .refl, .refl, .refl, .refl, .refl, trivial⟩, ?_⟩ | refine .inr ⟨[2], _, _, _, _, _, mend1, by rfl, ⟨.refl, trivial⟩, ⟨.refl, trivial⟩, ?_⟩ | refine .inr ⟨[2, 6], _, _, _, _, _, mend2 hB, by rfl, ⟨.refl, .refl, trivial⟩, ⟨.refl, trivial⟩, ?_⟩ | refine Exists.intro false ?_ | (refine And.intro ?_ ?_; focus (simp; done)) | fail)
  all_goals (conv => whnf)
  all_goals (simp only [h, cond_true, cond_false] at hR)
  all_goals subst hR
  all_goals exact .refl
end Go.Proofs.YtmbniilpgbjcfaaGreat

set_option maxRecDepth 100000
namespace Go.Proofs.YtmbniilpgbjcfaaGreat
open Go.Lift
def voteA (s : Agr) (m : Msg) : Agr := bif decide ((castR s.view s.box ⟨m.src, m.cut⟩).2 = 0) then { s with box := (castR s.view s.box ⟨m.src, m.cut⟩).1 } else s
set_option maxHeartbeats 8000000 in
theorem c_Receive_vote (s : Agr) (hs : SmA s) (m : Msg) (hc : m.cut.length ≤ 1000) (h1 : agrB s = true) (h2 : m.view = s.view.num) (h3 : vmB s.view m = true) (h4 : m.src ≠ s.self) (h5 : s.dec = []) (h6 : m.kind = 1) :
    Ret Tryz.prog 8 [.agg (agrE s), .agg (msgE m)] (.tup [.agg (agrE (endA (voteA s m) []).1), .lst 7 ((endA (voteA s m) []).2.map pktE) false, i64 0]) := by
  have hv := hs.mem
  have e12 := c_agreement_Valid s hs
  have e14 := c_agreement_ValidMessage s.view (by omega) m (by omega)
  have e58 := c_agreement_cloneState s hs
  have e60 := c_fastvote_Cast s.view (by omega) s.box (by have := hs.box; omega) (fun b hb => by have := hs.boxc b hb; omega) ⟨m.src, m.cut⟩ (by simp only []; omega)
  have hbx := agr_box h1
  have hs2 : SmA (voteA s m) := by
    unfold voteA
    cases decide ((castR s.view s.box ⟨m.src, m.cut⟩).2 = 0)
    · exact hs
    · exact ⟨hs.mem, hs.acut, hs.prop, by
        have := cast_len (v := s.view) (l := s.box) (b := ⟨m.src, m.cut⟩)
        simp only [cond_true]
        omega, cast_cut hs.boxc hc, hs.reps, hs.repc, hs.cho, hs.accs, hs.accc, hs.dec⟩
  have mend := m_end_nil _ hs2
  have hy : decide ((castR s.view s.box ⟨m.src, m.cut⟩).2 = 0) = true → voteA s m = { s with box := (castR s.view s.box ⟨m.src, m.cut⟩).1 } := fun h => by rw [voteA, h, cond_true]
  have hn : decide ((castR s.view s.box ⟨m.src, m.cut⟩).2 = 0) = false → voteA s m = s := fun h => by rw [voteA, h, cond_false]
  have mendY : decide ((castR s.view s.box ⟨m.src, m.cut⟩).2 = 0) = true → RetM Tryz.prog 23 [.cells 56 (agrE { s with box := (castR s.view s.box ⟨m.src, m.cut⟩).1 } ++ [.nl])] [.lp 0 0] [false] [.dead] (.tup [.agg (agrE (endA (voteA s m) []).1), .lst 7 ((endA (voteA s m) []).2.map pktE) false]) := fun h => by
    have := mend
    rw [hy h] at this ⊢
    exact this
  have mendN : decide ((castR s.view s.box ⟨m.src, m.cut⟩).2 = 0) = false → RetM Tryz.prog 23 [.cells 56 (agrE s ++ [.nl])] [.lp 0 0] [false] [.dead] (.tup [.agg (agrE (endA (voteA s m) []).1), .lst 7 ((endA (voteA s m) []).2.map pktE) false]) := fun h => by
    have := mend
    rw [hn h] at this ⊢
    exact this
  clear mend hy hn hs2
  generalize endA (voteA s m) [] = E at *
  generalize castR s.view s.box ⟨m.src, m.cut⟩ = X at *
  rw [h1] at e12
  rw [h3] at e14
  have h4' : decide (m.src = s.self) = false := decide_eq_false h4
  have h2' : decide (m.view = s.view.num) = true := decide_eq_true h2
  have h5' : decide (0 < ((s.dec.map intE).length : Int)) = false := by rw [h5]; rfl
  have h6' : decide (m.kind = 1) = true := decide_eq_true h6
  refine ret_of_body (fn := Tryz.f8) (c := Tryz.f8.body.getD .skip) hm hT (by kernel_rfl) Tryz.func8 (by kernel_rfl) (by kernel_rfl) (by kernel_rfl) (by kernel_rfl) ?_
  repeat' ((conv => whnf); first | refine And.intro (fun h => h) ?_ | refine dcond_t (by assumption) ?_ | refine dcond_f (by assumption) ?_ | (refine dcond_intro ?_ ?_ <;> intro h) | exact .refl | refine And.intro (by kernel_rfl) ?_ | refine And.intro ⟨fun h => h, fun h => h⟩ ?_ | refine .inl ⟨_, _, DleAll_refl _, e12, ?_⟩ | refine ⟨_, _, DleAll_refl _, fun _ => e12, ?_⟩ | refine ⟨_, _, DleAll_refl _, e12, ?_⟩ | refine .inl ⟨_, _, DleAll_refl _, e14, ?_⟩ | refine ⟨_, _, DleAll_refl _, fun _ => e14, ?_⟩ | refine ⟨_, _, DleAll_refl _, e14, ?_⟩ | refine .inl ⟨_, _, DleAll_refl _, e58, ?_⟩ | refine ⟨_, _, DleAll_refl _, fun _ => e58, ?_⟩ | refine ⟨_, _, DleAll_refl _, e58, ?_⟩ | refine .inl ⟨_, _, DleAll_refl _, e60, ?_⟩ | refine ⟨_, _, DleAll_refl _, fun _ => e60, ?_⟩ | refine ⟨_, _, DleAll_refl _, e60, ?_⟩ | refine .inr ⟨[3], _, _, _, _, _, mendY (by assumption), by rfl, ⟨.refl, trivial⟩, ⟨.refl, trivial⟩, ?_⟩ | refine .inr ⟨[3], _, _, _, _, _, mendN (by assumption), by rfl, ⟨.refl, trivial⟩, ⟨.refl, trivial⟩, ?_⟩ | refine Exists.intro false ?_ | (refine And.intro ?_ ?_; focus (simp; done)) | fail)
  all_goals (conv => whnf)
  rw [h2'] at h
  cases h
end Go.Proofs.YtmbniilpgbjcfaaGreat

set_option maxRecDepth 100000
namespace Go.Proofs.YtmbniilpgbjcfaaGreat
open Go.Lift
theorem m_send_own0 (s : Agr) (ps : List Pkt) (hps : ps.length ≤ 100) (to kind rank last : Int) (cut : List Int) (hc : cut.length ≤ 1000000) :
    RetM Tryz.prog 22 [.cells 56 (agrE s ++ [.own 1]), .row 48 7 (ps.map pktE)] [.lp 0 0, i64 to, i64 kind, i64 rank, i64 last, .lst 1 (cut.map intE) false] [true, false] [.cells 56 (agrE s ++ [.own 3]), .gone, .dead, .row 48 7 ((ps ++ [pktOf s to kind rank last cut]).map pktE)] (.tup []) := by
  refine retM_of_bodyA (fn := Tryz.f22) (c := Tryz.f22.body.getD .skip) hm hT (by kernel_rfl) Tryz.func22 (by kernel_rfl) (by kernel_rfl) (by kernel_rfl) (by kernel_rfl) (by kernel_rfl) ?_
  repeat' ((conv => whnf); first | refine And.intro (fun h => h) ?_ | refine dcond_t (by assumption) ?_ | refine dcond_f (by assumption) ?_ | (refine dcond_intro ?_ ?_ <;> intro h) | exact .refl | refine And.intro (by kernel_rfl) ?_ | refine And.intro ⟨fun h => h, fun h => h⟩ ?_ | refine .inl ⟨_, _, DleAll_refl _, c_agreement_clone _ hc, ?_⟩ | refine ⟨_, _, DleAll_refl _, fun _ => c_agreement_clone _ hc, ?_⟩ | refine ⟨_, _, DleAll_refl _, c_agreement_clone _ hc, ?_⟩ | refine And.intro (fitsP (by simp <;> omega)) ?_ | refine Exists.intro false ?_ | (refine And.intro ?_ ?_; focus (simp; done)) | fail)
  all_goals (conv => whnf)
  first | (refine ⟨[.fresh 48 7, .xchg 1 3, .xchg 3 3, .bury 1], ?_⟩; (conv => whnf); refine ⟨.refl, ⟨.refl, .refl, gh2, ole_row ?_, trivial⟩, by rfl⟩) | (refine ⟨[.fresh 48 7, .xchg 1 4, .xchg 3 4, .bury 1], ?_⟩; (conv => whnf); refine ⟨.refl, ⟨.refl, .refl, gh2, ole_row ?_, trivial⟩, by rfl⟩) | (refine ⟨[.fresh 48 7, .xchg 1 5, .xchg 3 5, .bury 1], ?_⟩; (conv => whnf); refine ⟨.refl, ⟨.refl, .refl, gh2, ole_row ?_, trivial⟩, by rfl⟩) | (refine ⟨[.fresh 48 7, .xchg 1 6, .xchg 3 6, .bury 1], ?_⟩; (conv => whnf); refine ⟨.refl, ⟨.refl, .refl, gh2, ole_row ?_, trivial⟩, by rfl⟩) | (refine ⟨[.fresh 48 7, .xchg 1 7, .xchg 3 7, .bury 1], ?_⟩; (conv => whnf); refine ⟨.refl, ⟨.refl, .refl, gh2, ole_row ?_, trivial⟩, by rfl⟩) | (refine ⟨[.fresh 48 7, .xchg 1 8, .xchg 3 8, .bury 1], ?_⟩; (conv => whnf); refine ⟨.refl, ⟨.refl, .refl, gh2, ole_row ?_, trivial⟩, by rfl⟩) | fail
  rw [List.map_append]
  rfl
theorem m_send_osq (s : Agr) (ps : List Pkt) (hps : ps.length ≤ 100) (to kind rank last : Int) (cut : List Int) (hc : cut.length ≤ 1000000) :
    RetM Tryz.prog 22 [.cells 56 (agrE s ++ [.own 1]), .row 48 7 (ps.map pktE)] [.lp 0 0, i64 to, i64 kind, i64 rank, i64 last, .lst 1 (cut.map intE) false] [true, false] [.cells 56 (agrE s ++ [.own 2]), .gone, .row 48 7 ((ps ++ [pktOf s to kind rank last cut]).map pktE)] (.tup []) :=
  (m_send_own0 s ps hps to kind rank last cut hc).squeeze (L1 := [.cells 56 (agrE s ++ [.own 3]), .gone]) (L2 := [.row 48 7 ((ps ++ [pktOf s to kind rank last cut]).map pktE)]) (Nat.le_refl _)
def attRank (s : Agr) : Int := rankOf (IntKind.i64.wrap ((if IntKind.i64.wrap (s.rank.tdiv 1024) < IntKind.i64.wrap (s.acc.pro.tdiv 1024) then IntKind.i64.wrap (s.acc.pro.tdiv 1024) else IntKind.i64.wrap (s.rank.tdiv 1024)) + 1)) s.self
def attA (s : Agr) : Agr :=
  bif decide (attRank s = 0) then s
  else bif (prepR s.acc (attRank s)).2.2 then advA { s with acc := (prepR s.acc (attRank s)).1, wait := 0, rank := attRank s, phase := 1, cho := [], reps := [⟨s.self, (prepR s.acc (attRank s)).2.1.rank, (prepR s.acc (attRank s)).2.1.cut⟩] }
  else s
set_option maxHeartbeats 8000000 in
theorem m_attempt (s : Agr) (hs : SmA s) (hok : repsB s.view s.accs = true) : RetM Tryz.prog 45 [.cells 56 (agrO s 1 ++ [.nl]), .row 51 3 (s.accs.map rptE)] [.lp 0 0] [true, false] [.cells 56 (agrE (attA s) ++ [.nl]), .gone] (.tup []) := by
  have e1 : Ret Tryz.prog 100 [.v (.int .i64 (IntKind.i64.wrap ((if IntKind.i64.wrap (s.rank.tdiv 1024) < IntKind.i64.wrap (s.acc.pro.tdiv 1024) then IntKind.i64.wrap (s.acc.pro.tdiv 1024) else IntKind.i64.wrap (s.rank.tdiv 1024)) + 1))), .v (.int .i64 s.self)] (.v (.int .i64 (attRank s))) := c_paxos_RankOf _ _
  obtain ⟨R, hR⟩ : ∃ R, R = attA s := ⟨_, rfl⟩
  rw [← hR]
  unfold attA at hR
  generalize attRank s = k at *
  have e2 := c_paxos_OnPrepare s.acc (by have := hs.acut; omega) k
  have hpl := prep_len (rank := k) hs.acut
  generalize prepR s.acc k = X at *
  have hs2 : SmA { s with acc := X.1, wait := 0, rank := k, phase := 1, cho := [], reps := [⟨s.self, X.2.1.rank, X.2.1.cut⟩] } := ⟨hs.mem, hpl.1, hs.prop, hs.box, hs.boxc, (by simp), (fun b hb => by
    rcases List.mem_singleton.1 hb with rfl
    exact hpl.2), Nat.zero_le _, hs.accs, hs.accc, hs.dec⟩
  have e3 := m_advance _ hs2 hok
  generalize advA { s with acc := X.1, wait := 0, rank := k, phase := 1, cho := [], reps := [⟨s.self, X.2.1.rank, X.2.1.cut⟩] } = A at *
  refine retM_of_bodyA (fn := Tryz.f45) (c := Tryz.f45.body.getD .skip) hm hT (by kernel_rfl) Tryz.func45 (by kernel_rfl) (by kernel_rfl) (by kernel_rfl) (by kernel_rfl) (by kernel_rfl) ?_
  repeat' ((conv => whnf); first | refine And.intro (fun h => h) ?_ | refine dcond_t (by assumption) ?_ | refine dcond_f (by assumption) ?_ | (refine dcond_intro ?_ ?_ <;> intro h) | exact .refl | refine And.intro (by kernel_rfl) ?_ | refine And.intro ⟨fun h => h, fun h => h⟩ ?_ | refine .inl ⟨_, _, DleAll_refl _, e1, ?_⟩ | refine ⟨_, _, DleAll_refl _, fun _ => e1, ?_⟩ | refine ⟨_, _, DleAll_refl _, e1, ?_⟩ | refine .inl ⟨_, _, DleAll_refl _, e2, ?_⟩ | refine ⟨_, _, DleAll_refl _, fun _ => e2, ?_⟩ | refine ⟨_, _, DleAll_refl _, e2, ?_⟩ | refine .inr ⟨[0, 1], _, _, _, _, _, e3, by rfl, ⟨ole_cellsA ⟨.refl, .refl, .refl, .refl, .refl, .refl, .refl, .refl, .refl, .refl, .lst, .nl, .refl, .refl, .refl, .refl, trivial⟩, .refl, trivial⟩, ⟨.refl, trivial⟩, ?_⟩ | refine Exists.intro false ?_ | (refine And.intro ?_ ?_; focus (simp; done)) | fail)
  all_goals (conv => whnf)
  · simp only [h, cond_true] at hR
    subst hR
    refine ⟨[.shutc 0 12, .bury 1], ?_⟩
    conv => whnf
    exact ⟨.refl, ⟨.refl, .refl, gh2, trivial⟩, by rfl⟩
  · rename_i h0
    have h9 : X.2.2 = false := by simpa using h
    simp only [h0, h9, cond_false] at hR
    subst hR
    refine ⟨[.shutc 0 12, .bury 1], ?_⟩
    conv => whnf
    exact ⟨.refl, ⟨.refl, .refl, gh2, trivial⟩, by rfl⟩
  · rename_i h0
    have h9 : X.2.2 = true := by simpa using h
    simp only [h0, h9, cond_false, cond_true] at hR
    subst hR
    refine ⟨[], ?_⟩
    conv => whnf
    exact ⟨.refl, ⟨.refl, .refl, gh2, trivial⟩, by rfl⟩
def sndV (s : Agr) : List Pkt := bif (cutOf s.box s.self).2 then [pktOf s 0 1 0 0 (cutOf s.box s.self).1] else []
def sndP (s : Agr) : List Pkt := bif decide (s.phase = 1) then [pktOf s 0 2 s.rank 0 []] else bif decide (s.phase = 2) then [pktOf s 0 4 s.rank 0 s.cho] else []
def sndA (s : Agr) : List Pkt := bif decide (0 ≤ ofB s.accs s.self) && !decide (s.phase = 2) then [pktOf s 0 5 (s.accs.getD (ofB s.accs s.self).toNat rpt0).rank 0 (s.accs.getD (ofB s.accs s.self).toNat rpt0).cut] else []
def rsdA (s : Agr) : List Pkt := sndV s ++ sndP s ++ sndA s
theorem cutOf_len {l : List Bal} {N : Nat} (hc : ∀ b ∈ l, b.cut.length ≤ N) (x : Int) : (cutOf l x).1.length ≤ N := by
  unfold cutOf
  cases decide (0 ≤ ofBal l x)
  · exact Nat.zero_le _
  · rcases Nat.lt_or_ge (ofBal l x).toNat l.length with h | h
    · simp only [cond_true, List.getD_eq_getElem?_getD, List.getElem?_eq_getElem h, Option.getD_some]
      exact hc _ (List.getElem_mem h)
    · simp only [cond_true, List.getD_eq_getElem?_getD, List.getElem?_eq_none h, Option.getD_none]
      exact Nat.zero_le _
end Go.Proofs.YtmbniilpgbjcfaaGreat

set_option maxRecDepth 100000
namespace Go.Proofs.YtmbniilpgbjcfaaGreat
open Go.Lift
set_option maxHeartbeats 8000000 in
theorem m_resend (s : Agr) (hs : SmA s) : RetM Tryz.prog 46 [.cells 56 (agrE s ++ [.nl])] [.lp 0 0] [true] [.cells 56 (agrE s ++ [.own 2]), .dead, .row 48 7 ((rsdA s).map pktE)] (.tup []) := by
  have e1 := c_agreement_ballotOf s.box (mx hs.box) s.self
  have hcl := cutOf_len hs.boxc s.self
  have e2 := c_agreement_reportOf s.accs (mx hs.accs) s.self
  have hix := @ofr_ix s.accs s.self
  have hac := hs.accc
  have hch := hs.cho
  obtain ⟨R, hR⟩ : ∃ R, R = rsdA s := ⟨_, rfl⟩
  rw [← hR]
  unfold rsdA sndV sndP sndA at hR
  generalize cutOf s.box s.self = C at *
  generalize ofB s.accs s.self = K at *
  generalize hD : s.accs.getD K.toNat rpt0 = D at *
  have hdl : D.cut.length ≤ 1000 := by
    rw [← hD]
    rcases Nat.lt_or_ge K.toNat s.accs.length with h | h
    · simp only [List.getD_eq_getElem?_getD, List.getElem?_eq_getElem h, Option.getD_some]
      exact hac _ (List.getElem_mem h)
    · simp only [List.getD_eq_getElem?_getD, List.getElem?_eq_none h, Option.getD_none]
      exact Nat.zero_le _
  have hget : decide (0 ≤ K) = true → (s.accs.map rptE)[K.toNat]? = some (rptE D) := fun h => by
    have := (hix h).2
    rw [← hD]
    simp [this]
  have hK0 : decide (0 ≤ K) = true → K = (K.toNat : Int) := fun h => (hix h).1
  have v1 := m_send_sq s 0 1 0 0 C.1 (by omega)
  have p1 := m_send_sq s 0 2 s.rank 0 [] (by simp)
  have p2 := m_send_osq s [pktOf s 0 1 0 0 C.1] (by simp) 0 2 s.rank 0 [] (by simp)
  have q1 := m_send_sq s 0 4 s.rank 0 s.cho (by omega)
  have q2 := m_send_osq s [pktOf s 0 1 0 0 C.1] (by simp) 0 4 s.rank 0 s.cho (by omega)
  have a1 := m_send_sq s 0 5 D.rank 0 D.cut (by omega)
  have a2 := m_send_osq s [pktOf s 0 1 0 0 C.1] (by simp) 0 5 D.rank 0 D.cut (by omega)
  have a3 := m_send_osq s [pktOf s 0 2 s.rank 0 []] (by simp) 0 5 D.rank 0 D.cut (by omega)
  have a4 := m_send_osq s [pktOf s 0 1 0 0 C.1, pktOf s 0 2 s.rank 0 []] (by simp) 0 5 D.rank 0 D.cut (by omega)
  clear hac hix hdl hD hcl
  refine retM_of_bodyA (fn := Tryz.f46) (c := Tryz.f46.body.getD .skip) hm hT (by kernel_rfl) Tryz.func46 (by kernel_rfl) (by kernel_rfl) (by kernel_rfl) (by kernel_rfl) (by kernel_rfl) ?_
  repeat' ((conv => whnf); first | refine And.intro (fun h => h) ?_ | refine dcond_t (by assumption) ?_ | refine dcond_f (by assumption) ?_ | (refine dcond_intro ?_ ?_ <;> intro h) | exact .refl | refine And.intro (by kernel_rfl) ?_ | refine And.intro ⟨fun h => h, fun h => h⟩ ?_ | refine .inl ⟨_, _, DleAll_refl _, e1, ?_⟩ | refine ⟨_, _, DleAll_refl _, fun _ => e1, ?_⟩ | refine ⟨_, _, DleAll_refl _, e1, ?_⟩ | refine .inl ⟨_, _, DleAll_refl _, e2, ?_⟩ | refine ⟨_, _, DleAll_refl _, fun _ => e2, ?_⟩ | refine ⟨_, _, DleAll_refl _, e2, ?_⟩ | refine .inr ⟨[0], _, _, _, _, _, v1, by rfl, ⟨.refl, trivial⟩, ⟨.refl, .refl, .refl, .refl, .refl, .refl, trivial⟩, ?_⟩ | refine Exists.intro false ?_ | (refine And.intro ?_ ?_; focus (simp; done)) | fail)
  all_goals (conv => whnf)
  · rename_i hC
    have h1 := h
    clear h
    repeat' ((conv => whnf); first | refine And.intro (fun h => h) ?_ | refine dcond_t (by assumption) ?_ | refine dcond_f (by assumption) ?_ | (refine dcond_intro ?_ ?_ <;> intro h) | exact .refl | refine And.intro (by kernel_rfl) ?_ | refine And.intro ⟨fun h => h, fun h => h⟩ ?_ | refine .inl ⟨_, _, DleAll_refl _, e2, ?_⟩ | refine ⟨_, _, DleAll_refl _, fun _ => e2, ?_⟩ | refine ⟨_, _, DleAll_refl _, e2, ?_⟩ | refine .inr ⟨[0, 3], _, _, _, _, _, p2, by rfl, ⟨.refl, .refl, trivial⟩, ⟨.refl, .refl, .refl, .refl, .refl, .nl, trivial⟩, ?_⟩ | refine .inr ⟨[0, 4], _, _, _, _, _, p2, by rfl, ⟨.refl, .refl, trivial⟩, ⟨.refl, .refl, .refl, .refl, .refl, .nl, trivial⟩, ?_⟩ | refine .inr ⟨[0, 5], _, _, _, _, _, p2, by rfl, ⟨.refl, .refl, trivial⟩, ⟨.refl, .refl, .refl, .refl, .refl, .nl, trivial⟩, ?_⟩ | refine .inr ⟨[0, 6], _, _, _, _, _, p2, by rfl, ⟨.refl, .refl, trivial⟩, ⟨.refl, .refl, .refl, .refl, .refl, .nl, trivial⟩, ?_⟩ | refine .inr ⟨[0, 7], _, _, _, _, _, p2, by rfl, ⟨.refl, .refl, trivial⟩, ⟨.refl, .refl, .refl, .refl, .refl, .nl, trivial⟩, ?_⟩ | refine .inr ⟨[0, 8], _, _, _, _, _, p2, by rfl, ⟨.refl, .refl, trivial⟩, ⟨.refl, .refl, .refl, .refl, .refl, .nl, trivial⟩, ?_⟩ | refine .inr ⟨[0, 9], _, _, _, _, _, p2, by rfl, ⟨.refl, .refl, trivial⟩, ⟨.refl, .refl, .refl, .refl, .refl, .nl, trivial⟩, ?_⟩ | refine Exists.intro false ?_ | (refine And.intro ?_ ?_; focus (simp; done)) | fail)
    all_goals (conv => whnf)
    · have h0K : decide (0 ≤ K) = true := ((Bool.and_eq_true ..).mp h).1
      have hKe := hK0 h0K
      have hge := hget h0K
      repeat' ((conv => whnf); first | refine And.intro (fun h => h) ?_ | refine dcond_t (by assumption) ?_ | refine dcond_f (by assumption) ?_ | (refine dcond_intro ?_ ?_ <;> intro h) | exact .refl | refine And.intro (by kernel_rfl) ?_ | refine And.intro ⟨fun h => h, fun h => h⟩ ?_ | refine ⟨K.toNat, rptE D, And.intro ⟨hKe, hge⟩ ?_⟩ | refine .inr ⟨[0, 3], _, _, _, _, _, a4, by rfl, ⟨.refl, .refl, trivial⟩, ⟨.refl, .refl, .refl, .refl, .refl, .refl, trivial⟩, ?_⟩ | refine .inr ⟨[0, 4], _, _, _, _, _, a4, by rfl, ⟨.refl, .refl, trivial⟩, ⟨.refl, .refl, .refl, .refl, .refl, .refl, trivial⟩, ?_⟩ | refine .inr ⟨[0, 5], _, _, _, _, _, a4, by rfl, ⟨.refl, .refl, trivial⟩, ⟨.refl, .refl, .refl, .refl, .refl, .refl, trivial⟩, ?_⟩ | refine .inr ⟨[0, 6], _, _, _, _, _, a4, by rfl, ⟨.refl, .refl, trivial⟩, ⟨.refl, .refl, .refl, .refl, .refl, .refl, trivial⟩, ?_⟩ | refine .inr ⟨[0, 7], _, _, _, _, _, a4, by rfl, ⟨.refl, .refl, trivial⟩, ⟨.refl, .refl, .refl, .refl, .refl, .refl, trivial⟩, ?_⟩ | refine .inr ⟨[0, 8], _, _, _, _, _, a4, by rfl, ⟨.refl, .refl, trivial⟩, ⟨.refl, .refl, .refl, .refl, .refl, .refl, trivial⟩, ?_⟩ | refine .inr ⟨[0, 9], _, _, _, _, _, a4, by rfl, ⟨.refl, .refl, trivial⟩, ⟨.refl, .refl, .refl, .refl, .refl, .refl, trivial⟩, ?_⟩ | refine Exists.intro false ?_ | (refine And.intro ?_ ?_; focus (simp; done)) | fail)
      all_goals (conv => whnf)
      have h2 : decide (s.phase = 2) = false := decide_eq_false (by have := of_decide_eq_true h1; omega)
      simp only [hC, h1, h2, h0K, Bool.and_true, Bool.and_false, Bool.not_true, Bool.not_false, cond_true, cond_false, List.nil_append, List.append_nil, List.cons_append] at hR
      subst hR
      first | (refine ⟨[], ?_⟩; (conv => whnf); exact ⟨.refl, ⟨.refl, .refl, .refl, trivial⟩, by rfl⟩) | (refine ⟨[.xchg 2 3], ?_⟩; (conv => whnf); exact ⟨.refl, ⟨.refl, .refl, .refl, trivial⟩, by rfl⟩) | (refine ⟨[.xchg 2 4], ?_⟩; (conv => whnf); exact ⟨.refl, ⟨.refl, .refl, .refl, trivial⟩, by rfl⟩) | (refine ⟨[.xchg 2 5], ?_⟩; (conv => whnf); exact ⟨.refl, ⟨.refl, .refl, .refl, trivial⟩, by rfl⟩) | (refine ⟨[.xchg 2 6], ?_⟩; (conv => whnf); exact ⟨.refl, ⟨.refl, .refl, .refl, trivial⟩, by rfl⟩) | (refine ⟨[.xchg 2 7], ?_⟩; (conv => whnf); exact ⟨.refl, ⟨.refl, .refl, .refl, trivial⟩, by rfl⟩) | fail
    · have h2 : decide (s.phase = 2) = false := decide_eq_false (by have := of_decide_eq_true h1; omega)
      simp only [hC, h1, h, Bool.and_true, Bool.and_false, Bool.not_true, Bool.not_false, cond_true, cond_false, List.nil_append, List.append_nil, List.cons_append] at hR
      subst hR
      first | (refine ⟨[], ?_⟩; (conv => whnf); exact ⟨.refl, ⟨.refl, .refl, .refl, trivial⟩, by rfl⟩) | (refine ⟨[.xchg 2 3], ?_⟩; (conv => whnf); exact ⟨.refl, ⟨.refl, .refl, .refl, trivial⟩, by rfl⟩) | (refine ⟨[.xchg 2 4], ?_⟩; (conv => whnf); exact ⟨.refl, ⟨.refl, .refl, .refl, trivial⟩, by rfl⟩) | (refine ⟨[.xchg 2 5], ?_⟩; (conv => whnf); exact ⟨.refl, ⟨.refl, .refl, .refl, trivial⟩, by rfl⟩) | (refine ⟨[.xchg 2 6], ?_⟩; (conv => whnf); exact ⟨.refl, ⟨.refl, .refl, .refl, trivial⟩, by rfl⟩) | (refine ⟨[.xchg 2 7], ?_⟩; (conv => whnf); exact ⟨.refl, ⟨.refl, .refl, .refl, trivial⟩, by rfl⟩) | fail
  · rename_i hC h1
    have h2 := h
    clear h
    repeat' ((conv => whnf); first | refine And.intro (fun h => h) ?_ | refine dcond_t (by assumption) ?_ | refine dcond_f (by assumption) ?_ | (refine dcond_intro ?_ ?_ <;> intro h) | exact .refl | refine And.intro (by kernel_rfl) ?_ | refine And.intro ⟨fun h => h, fun h => h⟩ ?_ | refine .inl ⟨_, _, DleAll_refl _, e2, ?_⟩ | refine ⟨_, _, DleAll_refl _, fun _ => e2, ?_⟩ | refine ⟨_, _, DleAll_refl _, e2, ?_⟩ | refine .inr ⟨[0, 3], _, _, _, _, _, q2, by rfl, ⟨.refl, .refl, trivial⟩, ⟨.refl, .refl, .refl, .refl, .refl, .refl, trivial⟩, ?_⟩ | refine .inr ⟨[0, 4], _, _, _, _, _, q2, by rfl, ⟨.refl, .refl, trivial⟩, ⟨.refl, .refl, .refl, .refl, .refl, .refl, trivial⟩, ?_⟩ | refine .inr ⟨[0, 5], _, _, _, _, _, q2, by rfl, ⟨.refl, .refl, trivial⟩, ⟨.refl, .refl, .refl, .refl, .refl, .refl, trivial⟩, ?_⟩ | refine .inr ⟨[0, 6], _, _, _, _, _, q2, by rfl, ⟨.refl, .refl, trivial⟩, ⟨.refl, .refl, .refl, .refl, .refl, .refl, trivial⟩, ?_⟩ | refine .inr ⟨[0, 7], _, _, _, _, _, q2, by rfl, ⟨.refl, .refl, trivial⟩, ⟨.refl, .refl, .refl, .refl, .refl, .refl, trivial⟩, ?_⟩ | refine .inr ⟨[0, 8], _, _, _, _, _, q2, by rfl, ⟨.refl, .refl, trivial⟩, ⟨.refl, .refl, .refl, .refl, .refl, .refl, trivial⟩, ?_⟩ | refine .inr ⟨[0, 9], _, _, _, _, _, q2, by rfl, ⟨.refl, .refl, trivial⟩, ⟨.refl, .refl, .refl, .refl, .refl, .refl, trivial⟩, ?_⟩ | refine Exists.intro false ?_ | (refine And.intro ?_ ?_; focus (simp; done)) | fail)
    all_goals (conv => whnf)
    · rw [h2] at h
      simp at h
    · simp only [hC, h1, h2, h, Bool.and_true, Bool.and_false, Bool.not_true, Bool.not_false, cond_true, cond_false, List.nil_append, List.append_nil, List.cons_append] at hR
      subst hR
      first | (refine ⟨[], ?_⟩; (conv => whnf); exact ⟨.refl, ⟨.refl, .refl, .refl, trivial⟩, by rfl⟩) | (refine ⟨[.xchg 2 3], ?_⟩; (conv => whnf); exact ⟨.refl, ⟨.refl, .refl, .refl, trivial⟩, by rfl⟩) | (refine ⟨[.xchg 2 4], ?_⟩; (conv => whnf); exact ⟨.refl, ⟨.refl, .refl, .refl, trivial⟩, by rfl⟩) | (refine ⟨[.xchg 2 5], ?_⟩; (conv => whnf); exact ⟨.refl, ⟨.refl, .refl, .refl, trivial⟩, by rfl⟩) | (refine ⟨[.xchg 2 6], ?_⟩; (conv => whnf); exact ⟨.refl, ⟨.refl, .refl, .refl, trivial⟩, by rfl⟩) | (refine ⟨[.xchg 2 7], ?_⟩; (conv => whnf); exact ⟨.refl, ⟨.refl, .refl, .refl, trivial⟩, by rfl⟩) | fail
  · rename_i hC h1 h2
    have h0K : decide (0 ≤ K) = true := ((Bool.and_eq_true ..).mp h).1
    have hKe := hK0 h0K
    have hge := hget h0K
    repeat' ((conv => whnf); first | refine And.intro (fun h => h) ?_ | refine dcond_t (by assumption) ?_ | refine dcond_f (by assumption) ?_ | (refine dcond_intro ?_ ?_ <;> intro h) | exact .refl | refine And.intro (by kernel_rfl) ?_ | refine And.intro ⟨fun h => h, fun h => h⟩ ?_ | refine ⟨K.toNat, rptE D, And.intro ⟨hKe, hge⟩ ?_⟩ | refine .inr ⟨[0, 3], _, _, _, _, _, a2, by rfl, ⟨.refl, .refl, trivial⟩, ⟨.refl, .refl, .refl, .refl, .refl, .refl, trivial⟩, ?_⟩ | refine .inr ⟨[0, 4], _, _, _, _, _, a2, by rfl, ⟨.refl, .refl, trivial⟩, ⟨.refl, .refl, .refl, .refl, .refl, .refl, trivial⟩, ?_⟩ | refine .inr ⟨[0, 5], _, _, _, _, _, a2, by rfl, ⟨.refl, .refl, trivial⟩, ⟨.refl, .refl, .refl, .refl, .refl, .refl, trivial⟩, ?_⟩ | refine .inr ⟨[0, 6], _, _, _, _, _, a2, by rfl, ⟨.refl, .refl, trivial⟩, ⟨.refl, .refl, .refl, .refl, .refl, .refl, trivial⟩, ?_⟩ | refine .inr ⟨[0, 7], _, _, _, _, _, a2, by rfl, ⟨.refl, .refl, trivial⟩, ⟨.refl, .refl, .refl, .refl, .refl, .refl, trivial⟩, ?_⟩ | refine .inr ⟨[0, 8], _, _, _, _, _, a2, by rfl, ⟨.refl, .refl, trivial⟩, ⟨.refl, .refl, .refl, .refl, .refl, .refl, trivial⟩, ?_⟩ | refine .inr ⟨[0, 9], _, _, _, _, _, a2, by rfl, ⟨.refl, .refl, trivial⟩, ⟨.refl, .refl, .refl, .refl, .refl, .refl, trivial⟩, ?_⟩ | refine Exists.intro false ?_ | (refine And.intro ?_ ?_; focus (simp; done)) | fail)
    all_goals (conv => whnf)
    simp only [hC, h1, h2, h0K, Bool.and_true, Bool.and_false, Bool.not_true, Bool.not_false, cond_true, cond_false, List.nil_append, List.append_nil, List.cons_append] at hR
    subst hR
    first | (refine ⟨[], ?_⟩; (conv => whnf); exact ⟨.refl, ⟨.refl, .refl, .refl, trivial⟩, by rfl⟩) | (refine ⟨[.xchg 2 3], ?_⟩; (conv => whnf); exact ⟨.refl, ⟨.refl, .refl, .refl, trivial⟩, by rfl⟩) | (refine ⟨[.xchg 2 4], ?_⟩; (conv => whnf); exact ⟨.refl, ⟨.refl, .refl, .refl, trivial⟩, by rfl⟩) | (refine ⟨[.xchg 2 5], ?_⟩; (conv => whnf); exact ⟨.refl, ⟨.refl, .refl, .refl, trivial⟩, by rfl⟩) | (refine ⟨[.xchg 2 6], ?_⟩; (conv => whnf); exact ⟨.refl, ⟨.refl, .refl, .refl, trivial⟩, by rfl⟩) | (refine ⟨[.xchg 2 7], ?_⟩; (conv => whnf); exact ⟨.refl, ⟨.refl, .refl, .refl, trivial⟩, by rfl⟩) | fail
  · rename_i hC h1 h2
    have h0 : decide (0 ≤ K) = false := by
      rw [h2] at h
      simpa using h
    simp only [hC, h1, h2, h0, Bool.false_and, Bool.and_true, Bool.and_false, Bool.not_true, Bool.not_false, cond_true, cond_false, List.nil_append, List.append_nil, List.cons_append] at hR
    subst hR
    first | (refine ⟨[], ?_⟩; (conv => whnf); exact ⟨.refl, ⟨.refl, .refl, .refl, trivial⟩, by rfl⟩) | (refine ⟨[.xchg 2 3], ?_⟩; (conv => whnf); exact ⟨.refl, ⟨.refl, .refl, .refl, trivial⟩, by rfl⟩) | (refine ⟨[.xchg 2 4], ?_⟩; (conv => whnf); exact ⟨.refl, ⟨.refl, .refl, .refl, trivial⟩, by rfl⟩) | (refine ⟨[.xchg 2 5], ?_⟩; (conv => whnf); exact ⟨.refl, ⟨.refl, .refl, .refl, trivial⟩, by rfl⟩) | (refine ⟨[.xchg 2 6], ?_⟩; (conv => whnf); exact ⟨.refl, ⟨.refl, .refl, .refl, trivial⟩, by rfl⟩) | (refine ⟨[.xchg 2 7], ?_⟩; (conv => whnf); exact ⟨.refl, ⟨.refl, .refl, .refl, trivial⟩, by rfl⟩) | fail
  · rename_i hC
    have h1 := h
    clear h
    repeat' ((conv => whnf); first | refine And.intro (fun h => h) ?_ | refine dcond_t (by assumption) ?_ | refine dcond_f (by assumption) ?_ | (refine dcond_intro ?_ ?_ <;> intro h) | exact .refl | refine And.intro (by kernel_rfl) ?_ | refine And.intro ⟨fun h => h, fun h => h⟩ ?_ | refine .inl ⟨_, _, DleAll_refl _, e2, ?_⟩ | refine ⟨_, _, DleAll_refl _, fun _ => e2, ?_⟩ | refine ⟨_, _, DleAll_refl _, e2, ?_⟩ | refine .inr ⟨[0], _, _, _, _, _, p1, by rfl, ⟨.refl, trivial⟩, ⟨.refl, .refl, .refl, .refl, .refl, .nl, trivial⟩, ?_⟩ | refine Exists.intro false ?_ | (refine And.intro ?_ ?_; focus (simp; done)) | fail)
    all_goals (conv => whnf)
    · have h0K : decide (0 ≤ K) = true := ((Bool.and_eq_true ..).mp h).1
      have hKe := hK0 h0K
      have hge := hget h0K
      repeat' ((conv => whnf); first | refine And.intro (fun h => h) ?_ | refine dcond_t (by assumption) ?_ | refine dcond_f (by assumption) ?_ | (refine dcond_intro ?_ ?_ <;> intro h) | exact .refl | refine And.intro (by kernel_rfl) ?_ | refine And.intro ⟨fun h => h, fun h => h⟩ ?_ | refine ⟨K.toNat, rptE D, And.intro ⟨hKe, hge⟩ ?_⟩ | refine .inr ⟨[0, 3], _, _, _, _, _, a3, by rfl, ⟨.refl, .refl, trivial⟩, ⟨.refl, .refl, .refl, .refl, .refl, .refl, trivial⟩, ?_⟩ | refine .inr ⟨[0, 4], _, _, _, _, _, a3, by rfl, ⟨.refl, .refl, trivial⟩, ⟨.refl, .refl, .refl, .refl, .refl, .refl, trivial⟩, ?_⟩ | refine .inr ⟨[0, 5], _, _, _, _, _, a3, by rfl, ⟨.refl, .refl, trivial⟩, ⟨.refl, .refl, .refl, .refl, .refl, .refl, trivial⟩, ?_⟩ | refine .inr ⟨[0, 6], _, _, _, _, _, a3, by rfl, ⟨.refl, .refl, trivial⟩, ⟨.refl, .refl, .refl, .refl, .refl, .refl, trivial⟩, ?_⟩ | refine .inr ⟨[0, 7], _, _, _, _, _, a3, by rfl, ⟨.refl, .refl, trivial⟩, ⟨.refl, .refl, .refl, .refl, .refl, .refl, trivial⟩, ?_⟩ | refine .inr ⟨[0, 8], _, _, _, _, _, a3, by rfl, ⟨.refl, .refl, trivial⟩, ⟨.refl, .refl, .refl, .refl, .refl, .refl, trivial⟩, ?_⟩ | refine .inr ⟨[0, 9], _, _, _, _, _, a3, by rfl, ⟨.refl, .refl, trivial⟩, ⟨.refl, .refl, .refl, .refl, .refl, .refl, trivial⟩, ?_⟩ | refine Exists.intro false ?_ | (refine And.intro ?_ ?_; focus (simp; done)) | fail)
      all_goals (conv => whnf)
      have h2 : decide (s.phase = 2) = false := decide_eq_false (by have := of_decide_eq_true h1; omega)
      simp only [hC, h1, h2, h0K, Bool.and_true, Bool.and_false, Bool.not_true, Bool.not_false, cond_true, cond_false, List.nil_append, List.append_nil, List.cons_append] at hR
      subst hR
      first | (refine ⟨[], ?_⟩; (conv => whnf); exact ⟨.refl, ⟨.refl, .refl, .refl, trivial⟩, by rfl⟩) | (refine ⟨[.xchg 2 3], ?_⟩; (conv => whnf); exact ⟨.refl, ⟨.refl, .refl, .refl, trivial⟩, by rfl⟩) | (refine ⟨[.xchg 2 4], ?_⟩; (conv => whnf); exact ⟨.refl, ⟨.refl, .refl, .refl, trivial⟩, by rfl⟩) | (refine ⟨[.xchg 2 5], ?_⟩; (conv => whnf); exact ⟨.refl, ⟨.refl, .refl, .refl, trivial⟩, by rfl⟩) | (refine ⟨[.xchg 2 6], ?_⟩; (conv => whnf); exact ⟨.refl, ⟨.refl, .refl, .refl, trivial⟩, by rfl⟩) | (refine ⟨[.xchg 2 7], ?_⟩; (conv => whnf); exact ⟨.refl, ⟨.refl, .refl, .refl, trivial⟩, by rfl⟩) | fail
    · have h2 : decide (s.phase = 2) = false := decide_eq_false (by have := of_decide_eq_true h1; omega)
      simp only [hC, h1, h, Bool.and_true, Bool.and_false, Bool.not_true, Bool.not_false, cond_true, cond_false, List.nil_append, List.append_nil, List.cons_append] at hR
      subst hR
      first | (refine ⟨[], ?_⟩; (conv => whnf); exact ⟨.refl, ⟨.refl, .refl, .refl, trivial⟩, by rfl⟩) | (refine ⟨[.xchg 2 3], ?_⟩; (conv => whnf); exact ⟨.refl, ⟨.refl, .refl, .refl, trivial⟩, by rfl⟩) | (refine ⟨[.xchg 2 4], ?_⟩; (conv => whnf); exact ⟨.refl, ⟨.refl, .refl, .refl, trivial⟩, by rfl⟩) | (refine ⟨[.xchg 2 5], ?_⟩; (conv => whnf); exact ⟨.refl, ⟨.refl, .refl, .refl, trivial⟩, by rfl⟩) | (refine ⟨[.xchg 2 6], ?_⟩; (conv => whnf); exact ⟨.refl, ⟨.refl, .refl, .refl, trivial⟩, by rfl⟩) | (refine ⟨[.xchg 2 7], ?_⟩; (conv => whnf); exact ⟨.refl, ⟨.refl, .refl, .refl, trivial⟩, by rfl⟩) | fail
  · rename_i hC h1
    have h2 := h
    clear h
    repeat' ((conv => whnf); first | refine And.intro (fun h => h) ?_ | refine dcond_t (by assumption) ?_ | refine dcond_f (by assumption) ?_ | (refine dcond_intro ?_ ?_ <;> intro h) | exact .refl | refine And.intro (by kernel_rfl) ?_ | refine And.intro ⟨fun h => h, fun h => h⟩ ?_ | refine .inl ⟨_, _, DleAll_refl _, e2, ?_⟩ | refine ⟨_, _, DleAll_refl _, fun _ => e2, ?_⟩ | refine ⟨_, _, DleAll_refl _, e2, ?_⟩ | refine .inr ⟨[0], _, _, _, _, _, q1, by rfl, ⟨.refl, trivial⟩, ⟨.refl, .refl, .refl, .refl, .refl, .refl, trivial⟩, ?_⟩ | refine Exists.intro false ?_ | (refine And.intro ?_ ?_; focus (simp; done)) | fail)
    all_goals (conv => whnf)
    · rw [h2] at h
      simp at h
    · simp only [hC, h1, h2, h, Bool.and_true, Bool.and_false, Bool.not_true, Bool.not_false, cond_true, cond_false, List.nil_append, List.append_nil, List.cons_append] at hR
      subst hR
      first | (refine ⟨[], ?_⟩; (conv => whnf); exact ⟨.refl, ⟨.refl, .refl, .refl, trivial⟩, by rfl⟩) | (refine ⟨[.xchg 2 3], ?_⟩; (conv => whnf); exact ⟨.refl, ⟨.refl, .refl, .refl, trivial⟩, by rfl⟩) | (refine ⟨[.xchg 2 4], ?_⟩; (conv => whnf); exact ⟨.refl, ⟨.refl, .refl, .refl, trivial⟩, by rfl⟩) | (refine ⟨[.xchg 2 5], ?_⟩; (conv => whnf); exact ⟨.refl, ⟨.refl, .refl, .refl, trivial⟩, by rfl⟩) | (refine ⟨[.xchg 2 6], ?_⟩; (conv => whnf); exact ⟨.refl, ⟨.refl, .refl, .refl, trivial⟩, by rfl⟩) | (refine ⟨[.xchg 2 7], ?_⟩; (conv => whnf); exact ⟨.refl, ⟨.refl, .refl, .refl, trivial⟩, by rfl⟩) | fail
  · rename_i hC h1 h2
    have h0K : decide (0 ≤ K) = true := ((Bool.and_eq_true ..).mp h).1
    have hKe := hK0 h0K
    have hge := hget h0K
    repeat' ((conv => whnf); first | refine And.intro (fun h => h) ?_ | refine dcond_t (by assumption) ?_ | refine dcond_f (by assumption) ?_ | (refine dcond_intro ?_ ?_ <;> intro h) | exact .refl | refine And.intro (by kernel_rfl) ?_ | refine And.intro ⟨fun h => h, fun h => h⟩ ?_ | refine ⟨K.toNat, rptE D, And.intro ⟨hKe, hge⟩ ?_⟩ | refine .inr ⟨[0], _, _, _, _, _, a1, by rfl, ⟨.refl, trivial⟩, ⟨.refl, .refl, .refl, .refl, .refl, .refl, trivial⟩, ?_⟩ | refine Exists.intro false ?_ | (refine And.intro ?_ ?_; focus (simp; done)) | fail)
    all_goals (conv => whnf)
    simp only [hC, h1, h2, h0K, Bool.and_true, Bool.and_false, Bool.not_true, Bool.not_false, cond_true, cond_false, List.nil_append, List.append_nil, List.cons_append] at hR
    subst hR
    first | (refine ⟨[], ?_⟩; (conv => whnf); exact ⟨.refl, ⟨.refl, .refl, .refl, trivial⟩, by rfl⟩) | (refine ⟨[.xchg 2 3], ?_⟩; (conv => whnf); exact ⟨.refl, ⟨.refl, .refl, .refl, trivial⟩, by rfl⟩) | (refine ⟨[.xchg 2 4], ?_⟩; (conv => whnf); exact ⟨.refl, ⟨.refl, .refl, .refl, trivial⟩, by rfl⟩) | (refine ⟨[.xchg 2 5], ?_⟩; (conv => whnf); exact ⟨.refl, ⟨.refl, .refl, .refl, trivial⟩, by rfl⟩) | (refine ⟨[.xchg 2 6], ?_⟩; (conv => whnf); exact ⟨.refl, ⟨.refl, .refl, .refl, trivial⟩, by rfl⟩) | (refine ⟨[.xchg 2 7], ?_⟩; (conv => whnf); exact ⟨.refl, ⟨.refl, .refl, .refl, trivial⟩, by rfl⟩) | fail
  · rename_i hC h1 h2
    have h0 : decide (0 ≤ K) = false := by
      rw [h2] at h
      simpa using h
    simp only [hC, h1, h2, h0, Bool.false_and, Bool.and_true, Bool.and_false, Bool.not_true, Bool.not_false, cond_true, cond_false, List.nil_append, List.append_nil, List.cons_append] at hR
    subst hR
    first | (refine ⟨[.cell 0 15 48 7], ?_⟩; (conv => whnf); exact ⟨.refl, ⟨.refl, .refl, .refl, trivial⟩, by rfl⟩) | (refine ⟨[.cell 0 15 48 7, .xchg 2 3], ?_⟩; (conv => whnf); exact ⟨.refl, ⟨.refl, .refl, .refl, trivial⟩, by rfl⟩) | (refine ⟨[.cell 0 15 48 7, .xchg 2 4], ?_⟩; (conv => whnf); exact ⟨.refl, ⟨.refl, .refl, .refl, trivial⟩, by rfl⟩) | (refine ⟨[.cell 0 15 48 7, .xchg 2 5], ?_⟩; (conv => whnf); exact ⟨.refl, ⟨.refl, .refl, .refl, trivial⟩, by rfl⟩) | (refine ⟨[.cell 0 15 48 7, .xchg 2 6], ?_⟩; (conv => whnf); exact ⟨.refl, ⟨.refl, .refl, .refl, trivial⟩, by rfl⟩) | (refine ⟨[.cell 0 15 48 7, .xchg 2 7], ?_⟩; (conv => whnf); exact ⟨.refl, ⟨.refl, .refl, .refl, trivial⟩, by rfl⟩) | fail
theorem rsd_ps (s : Agr) : (rsdA s).length ≤ 100 := by
  have h1 : (sndV s).length ≤ 1 := by unfold sndV; cases (cutOf s.box s.self).2 <;> simp
  have h2 : (sndP s).length ≤ 1 := by unfold sndP; cases decide (s.phase = 1) <;> cases decide (s.phase = 2) <;> simp
  have h3 : (sndA s).length ≤ 1 := by unfold sndA; cases decide (0 ≤ ofB s.accs s.self) && !decide (s.phase = 2) <;> simp
  unfold rsdA
  simp only [List.length_append]
  omega
end Go.Proofs.YtmbniilpgbjcfaaGreat

set_option maxRecDepth 100000
namespace Go.Proofs.YtmbniilpgbjcfaaGreat
open Go.Lift
set_option maxHeartbeats 8000000 in
theorem c_Receive_prep (s : Agr) (hs : SmA s) (m : Msg) (hc : m.cut.length ≤ 1000) (h1 : agrB s = true) (h2 : m.view = s.view.num) (h3 : vmB s.view m = true) (h4 : m.src ≠ s.self) (h5 : s.dec = []) (h6 : m.kind = 2) :
    Ret Tryz.prog 8 [.agg (agrE s), .agg (msgE m)] (.tup [.agg (agrE (endA (prepA s m).1 (prepA s m).2).1), .lst 7 ((endA (prepA s m).1 (prepA s m).2).2.map pktE) false, i64 0]) := by
  have hv := hs.mem
  have e12 := c_agreement_Valid s hs
  have e14 := c_agreement_ValidMessage s.view (by omega) m (by omega)
  have e58 := c_agreement_cloneState s hs
  have hvb := (agr_view h1).1
  obtain ⟨hrp, hap, _, _⟩ := agr_reps h1
  have hr16 := reps_16 hrp
  have ha16 := reps_16 hap
  have e3 := m_prepare s hs m
  have mend := m_end_own _ (sm_prep hs m) (prepA s m).2 (prepA_ps s m)
  generalize endA (prepA s m).1 (prepA s m).2 = E at *
  generalize (prepA s m) = X at *
  rw [h1] at e12
  rw [h3] at e14
  have h4' : decide (m.src = s.self) = false := decide_eq_false h4
  have h2' : decide (m.view = s.view.num) = true := decide_eq_true h2
  have h5' : decide (0 < ((s.dec.map intE).length : Int)) = false := by rw [h5]; rfl
  have h6a : decide (m.kind = 1) = false := decide_eq_false (by omega)
  have h6b : decide (m.kind = 2) = true := decide_eq_true h6
  refine ret_of_body (fn := Tryz.f8) (c := Tryz.f8.body.getD .skip) hm hT (by kernel_rfl) Tryz.func8 (by kernel_rfl) (by kernel_rfl) (by kernel_rfl) (by kernel_rfl) ?_
  repeat' ((conv => whnf); first | refine And.intro (fun h => h) ?_ | refine dcond_t (by assumption) ?_ | refine dcond_f (by assumption) ?_ | (refine dcond_intro ?_ ?_ <;> intro h) | exact .refl | refine And.intro (by kernel_rfl) ?_ | refine And.intro ⟨fun h => h, fun h => h⟩ ?_ | refine .inl ⟨_, _, DleAll_refl _, e12, ?_⟩ | refine ⟨_, _, DleAll_refl _, fun _ => e12, ?_⟩ | refine ⟨_, _, DleAll_refl _, e12, ?_⟩ | refine .inl ⟨_, _, DleAll_refl _, e14, ?_⟩ | refine ⟨_, _, DleAll_refl _, fun _ => e14, ?_⟩ | refine ⟨_, _, DleAll_refl _, e14, ?_⟩ | refine .inl ⟨_, _, DleAll_refl _, e58, ?_⟩ | refine .inr ⟨[3], _, _, _, _, _, e3, by rfl, ⟨.refl, trivial⟩, ⟨.refl, .refl, trivial⟩, ?_⟩ | refine .inr ⟨[4], _, _, _, _, _, e3, by rfl, ⟨.refl, trivial⟩, ⟨.refl, .refl, trivial⟩, ?_⟩ | refine .inr ⟨[3, 4], _, _, _, _, _, mend, by rfl, ⟨.refl, .refl, trivial⟩, ⟨.refl, trivial⟩, ?_⟩ | refine .inr ⟨[3, 5], _, _, _, _, _, mend, by rfl, ⟨.refl, .refl, trivial⟩, ⟨.refl, trivial⟩, ?_⟩ | refine .inr ⟨[3, 6], _, _, _, _, _, mend, by rfl, ⟨.refl, .refl, trivial⟩, ⟨.refl, trivial⟩, ?_⟩ | refine .inr ⟨[3, 7], _, _, _, _, _, mend, by rfl, ⟨.refl, .refl, trivial⟩, ⟨.refl, trivial⟩, ?_⟩ | refine .inr ⟨[3, 8], _, _, _, _, _, mend, by rfl, ⟨.refl, .refl, trivial⟩, ⟨.refl, trivial⟩, ?_⟩ | refine .inr ⟨[3, 9], _, _, _, _, _, mend, by rfl, ⟨.refl, .refl, trivial⟩, ⟨.refl, trivial⟩, ?_⟩ | refine .inr ⟨[4, 4], _, _, _, _, _, mend, by rfl, ⟨.refl, .refl, trivial⟩, ⟨.refl, trivial⟩, ?_⟩ | refine .inr ⟨[4, 5], _, _, _, _, _, mend, by rfl, ⟨.refl, .refl, trivial⟩, ⟨.refl, trivial⟩, ?_⟩ | refine .inr ⟨[4, 6], _, _, _, _, _, mend, by rfl, ⟨.refl, .refl, trivial⟩, ⟨.refl, trivial⟩, ?_⟩ | refine .inr ⟨[4, 7], _, _, _, _, _, mend, by rfl, ⟨.refl, .refl, trivial⟩, ⟨.refl, trivial⟩, ?_⟩ | refine .inr ⟨[4, 8], _, _, _, _, _, mend, by rfl, ⟨.refl, .refl, trivial⟩, ⟨.refl, trivial⟩, ?_⟩ | refine .inr ⟨[4, 9], _, _, _, _, _, mend, by rfl, ⟨.refl, .refl, trivial⟩, ⟨.refl, trivial⟩, ?_⟩ | refine Exists.intro false ?_ | (refine And.intro ?_ ?_; focus (simp; done)) | fail)
  all_goals (conv => whnf)
  rw [h2'] at h
  cases h
set_option maxHeartbeats 8000000 in
theorem c_Receive_prom (s : Agr) (hs : SmA s) (m : Msg) (hc : m.cut.length ≤ 1000) (h1 : agrB s = true) (h2 : m.view = s.view.num) (h3 : vmB s.view m = true) (h4 : m.src ≠ s.self) (h5 : s.dec = []) (h6 : m.kind = 3) :
    Ret Tryz.prog 8 [.agg (agrE s), .agg (msgE m)] (.tup [.agg (agrE (endA (promA s m).1 (promA s m).2).1), .lst 7 ((endA (promA s m).1 (promA s m).2).2.map pktE) false, i64 0]) := by
  have hv := hs.mem
  have e12 := c_agreement_Valid s hs
  have e14 := c_agreement_ValidMessage s.view (by omega) m (by omega)
  have e58 := sq_cloneState s hs
  have hvb := (agr_view h1).1
  obtain ⟨hrp, hap, _, _⟩ := agr_reps h1
  have hr16 := reps_16 hrp
  have ha16 := reps_16 hap
  have e3 := m_promise s hs hap (by omega) m hc
  have mend := m_end_own _ (sm_prom hs (by omega) (by omega) hc) (promA s m).2 (promA_ps s m)
  generalize endA (promA s m).1 (promA s m).2 = E at *
  generalize (promA s m) = X at *
  rw [h1] at e12
  rw [h3] at e14
  have h4' : decide (m.src = s.self) = false := decide_eq_false h4
  have h2' : decide (m.view = s.view.num) = true := decide_eq_true h2
  have h5' : decide (0 < ((s.dec.map intE).length : Int)) = false := by rw [h5]; rfl
  have h6a : decide (m.kind = 1) = false := decide_eq_false (by omega)
  have h6b : decide (m.kind = 2) = false := decide_eq_false (by omega)
  have h6c : decide (m.kind = 3) = true := decide_eq_true h6
  refine ret_of_body (fn := Tryz.f8) (c := Tryz.f8.body.getD .skip) hm hT (by kernel_rfl) Tryz.func8 (by kernel_rfl) (by kernel_rfl) (by kernel_rfl) (by kernel_rfl) ?_
  repeat' ((conv => whnf); first | refine And.intro (fun h => h) ?_ | refine dcond_t (by assumption) ?_ | refine dcond_f (by assumption) ?_ | (refine dcond_intro ?_ ?_ <;> intro h) | exact .refl | refine And.intro (by kernel_rfl) ?_ | refine And.intro ⟨fun h => h, fun h => h⟩ ?_ | refine .inl ⟨_, _, DleAll_refl _, e12, ?_⟩ | refine ⟨_, _, DleAll_refl _, fun _ => e12, ?_⟩ | refine ⟨_, _, DleAll_refl _, e12, ?_⟩ | refine .inl ⟨_, _, DleAll_refl _, e14, ?_⟩ | refine ⟨_, _, DleAll_refl _, fun _ => e14, ?_⟩ | refine ⟨_, _, DleAll_refl _, e14, ?_⟩ | refine .inr ⟨[], [], _, [], _, _, e58, by rfl, trivial, ⟨.refl, trivial⟩, ?_⟩ | refine .inr ⟨[3, 2], _, _, _, _, _, e3, by rfl, ⟨.refl, .refl, trivial⟩, ⟨.refl, .refl, trivial⟩, ?_⟩ | refine .inr ⟨[3, 3], _, _, _, _, _, e3, by rfl, ⟨.refl, .refl, trivial⟩, ⟨.refl, .refl, trivial⟩, ?_⟩ | refine .inr ⟨[3, 4], _, _, _, _, _, e3, by rfl, ⟨.refl, .refl, trivial⟩, ⟨.refl, .refl, trivial⟩, ?_⟩ | refine .inr ⟨[4, 2], _, _, _, _, _, e3, by rfl, ⟨.refl, .refl, trivial⟩, ⟨.refl, .refl, trivial⟩, ?_⟩ | refine .inr ⟨[4, 3], _, _, _, _, _, e3, by rfl, ⟨.refl, .refl, trivial⟩, ⟨.refl, .refl, trivial⟩, ?_⟩ | refine .inr ⟨[4, 4], _, _, _, _, _, e3, by rfl, ⟨.refl, .refl, trivial⟩, ⟨.refl, .refl, trivial⟩, ?_⟩ | refine .inr ⟨[3, 4], _, _, _, _, _, mend, by rfl, ⟨.refl, .refl, trivial⟩, ⟨.refl, trivial⟩, ?_⟩ | refine .inr ⟨[3, 5], _, _, _, _, _, mend, by rfl, ⟨.refl, .refl, trivial⟩, ⟨.refl, trivial⟩, ?_⟩ | refine .inr ⟨[3, 6], _, _, _, _, _, mend, by rfl, ⟨.refl, .refl, trivial⟩, ⟨.refl, trivial⟩, ?_⟩ | refine .inr ⟨[3, 7], _, _, _, _, _, mend, by rfl, ⟨.refl, .refl, trivial⟩, ⟨.refl, trivial⟩, ?_⟩ | refine .inr ⟨[3, 8], _, _, _, _, _, mend, by rfl, ⟨.refl, .refl, trivial⟩, ⟨.refl, trivial⟩, ?_⟩ | refine .inr ⟨[3, 9], _, _, _, _, _, mend, by rfl, ⟨.refl, .refl, trivial⟩, ⟨.refl, trivial⟩, ?_⟩ | refine .inr ⟨[4, 4], _, _, _, _, _, mend, by rfl, ⟨.refl, .refl, trivial⟩, ⟨.refl, trivial⟩, ?_⟩ | refine .inr ⟨[4, 5], _, _, _, _, _, mend, by rfl, ⟨.refl, .refl, trivial⟩, ⟨.refl, trivial⟩, ?_⟩ | refine .inr ⟨[4, 6], _, _, _, _, _, mend, by rfl, ⟨.refl, .refl, trivial⟩, ⟨.refl, trivial⟩, ?_⟩ | refine .inr ⟨[4, 7], _, _, _, _, _, mend, by rfl, ⟨.refl, .refl, trivial⟩, ⟨.refl, trivial⟩, ?_⟩ | refine .inr ⟨[4, 8], _, _, _, _, _, mend, by rfl, ⟨.refl, .refl, trivial⟩, ⟨.refl, trivial⟩, ?_⟩ | refine .inr ⟨[4, 9], _, _, _, _, _, mend, by rfl, ⟨.refl, .refl, trivial⟩, ⟨.refl, trivial⟩, ?_⟩ | refine Exists.intro false ?_ | (refine And.intro ?_ ?_; focus (simp; done)) | fail)
  all_goals (conv => whnf)
  rw [h2'] at h
  cases h
set_option maxHeartbeats 8000000 in
theorem c_Receive_acct (s : Agr) (hs : SmA s) (m : Msg) (hc : m.cut.length ≤ 1000) (h1 : agrB s = true) (h2 : m.view = s.view.num) (h3 : vmB s.view m = true) (h4 : m.src ≠ s.self) (h5 : s.dec = []) (h6 : m.kind = 4) :
    Ret Tryz.prog 8 [.agg (agrE s), .agg (msgE m)] (.tup [.agg (agrE (endA (acctA s m).1 (acctA s m).2).1), .lst 7 ((endA (acctA s m).1 (acctA s m).2).2.map pktE) false, i64 0]) := by
  have hv := hs.mem
  have e12 := c_agreement_Valid s hs
  have e14 := c_agreement_ValidMessage s.view (by omega) m (by omega)
  have e58 := sq_cloneState s hs
  have hvb := (agr_view h1).1
  obtain ⟨hrp, hap, _, _⟩ := agr_reps h1
  have hr16 := reps_16 hrp
  have ha16 := reps_16 hap
  have e3 := m_accept s hs hvb hap (by omega) m hc (vm_rpt h3 (.inl h6))
  have mend := m_end_own _ (sm_acct hs (by omega) hc) (acctA s m).2 (acctA_ps s m)
  generalize endA (acctA s m).1 (acctA s m).2 = E at *
  generalize (acctA s m) = X at *
  rw [h1] at e12
  rw [h3] at e14
  have h4' : decide (m.src = s.self) = false := decide_eq_false h4
  have h2' : decide (m.view = s.view.num) = true := decide_eq_true h2
  have h5' : decide (0 < ((s.dec.map intE).length : Int)) = false := by rw [h5]; rfl
  have h6a : decide (m.kind = 1) = false := decide_eq_false (by omega)
  have h6b : decide (m.kind = 2) = false := decide_eq_false (by omega)
  have h6c : decide (m.kind = 3) = false := decide_eq_false (by omega)
  have h6d : decide (m.kind = 4) = true := decide_eq_true h6
  refine ret_of_body (fn := Tryz.f8) (c := Tryz.f8.body.getD .skip) hm hT (by kernel_rfl) Tryz.func8 (by kernel_rfl) (by kernel_rfl) (by kernel_rfl) (by kernel_rfl) ?_
  repeat' ((conv => whnf); first | refine And.intro (fun h => h) ?_ | refine dcond_t (by assumption) ?_ | refine dcond_f (by assumption) ?_ | (refine dcond_intro ?_ ?_ <;> intro h) | exact .refl | refine And.intro (by kernel_rfl) ?_ | refine And.intro ⟨fun h => h, fun h => h⟩ ?_ | refine .inl ⟨_, _, DleAll_refl _, e12, ?_⟩ | refine ⟨_, _, DleAll_refl _, fun _ => e12, ?_⟩ | refine ⟨_, _, DleAll_refl _, e12, ?_⟩ | refine .inl ⟨_, _, DleAll_refl _, e14, ?_⟩ | refine ⟨_, _, DleAll_refl _, fun _ => e14, ?_⟩ | refine ⟨_, _, DleAll_refl _, e14, ?_⟩ | refine .inr ⟨[], [], _, [], _, _, e58, by rfl, trivial, ⟨.refl, trivial⟩, ?_⟩ | refine .inr ⟨[3, 2], _, _, _, _, _, e3, by rfl, ⟨.refl, .refl, trivial⟩, ⟨.refl, .refl, trivial⟩, ?_⟩ | refine .inr ⟨[3, 3], _, _, _, _, _, e3, by rfl, ⟨.refl, .refl, trivial⟩, ⟨.refl, .refl, trivial⟩, ?_⟩ | refine .inr ⟨[3, 4], _, _, _, _, _, e3, by rfl, ⟨.refl, .refl, trivial⟩, ⟨.refl, .refl, trivial⟩, ?_⟩ | refine .inr ⟨[4, 2], _, _, _, _, _, e3, by rfl, ⟨.refl, .refl, trivial⟩, ⟨.refl, .refl, trivial⟩, ?_⟩ | refine .inr ⟨[4, 3], _, _, _, _, _, e3, by rfl, ⟨.refl, .refl, trivial⟩, ⟨.refl, .refl, trivial⟩, ?_⟩ | refine .inr ⟨[4, 4], _, _, _, _, _, e3, by rfl, ⟨.refl, .refl, trivial⟩, ⟨.refl, .refl, trivial⟩, ?_⟩ | refine .inr ⟨[3, 4], _, _, _, _, _, mend, by rfl, ⟨.refl, .refl, trivial⟩, ⟨.refl, trivial⟩, ?_⟩ | refine .inr ⟨[3, 5], _, _, _, _, _, mend, by rfl, ⟨.refl, .refl, trivial⟩, ⟨.refl, trivial⟩, ?_⟩ | refine .inr ⟨[3, 6], _, _, _, _, _, mend, by rfl, ⟨.refl, .refl, trivial⟩, ⟨.refl, trivial⟩, ?_⟩ | refine .inr ⟨[3, 7], _, _, _, _, _, mend, by rfl, ⟨.refl, .refl, trivial⟩, ⟨.refl, trivial⟩, ?_⟩ | refine .inr ⟨[3, 8], _, _, _, _, _, mend, by rfl, ⟨.refl, .refl, trivial⟩, ⟨.refl, trivial⟩, ?_⟩ | refine .inr ⟨[3, 9], _, _, _, _, _, mend, by rfl, ⟨.refl, .refl, trivial⟩, ⟨.refl, trivial⟩, ?_⟩ | refine .inr ⟨[4, 4], _, _, _, _, _, mend, by rfl, ⟨.refl, .refl, trivial⟩, ⟨.refl, trivial⟩, ?_⟩ | refine .inr ⟨[4, 5], _, _, _, _, _, mend, by rfl, ⟨.refl, .refl, trivial⟩, ⟨.refl, trivial⟩, ?_⟩ | refine .inr ⟨[4, 6], _, _, _, _, _, mend, by rfl, ⟨.refl, .refl, trivial⟩, ⟨.refl, trivial⟩, ?_⟩ | refine .inr ⟨[4, 7], _, _, _, _, _, mend, by rfl, ⟨.refl, .refl, trivial⟩, ⟨.refl, trivial⟩, ?_⟩ | refine .inr ⟨[4, 8], _, _, _, _, _, mend, by rfl, ⟨.refl, .refl, trivial⟩, ⟨.refl, trivial⟩, ?_⟩ | refine .inr ⟨[4, 9], _, _, _, _, _, mend, by rfl, ⟨.refl, .refl, trivial⟩, ⟨.refl, trivial⟩, ?_⟩ | refine Exists.intro false ?_ | (refine And.intro ?_ ?_; focus (simp; done)) | fail)
  all_goals (conv => whnf)
  rw [h2'] at h
  cases h
end Go.Proofs.YtmbniilpgbjcfaaGreat

set_option maxRecDepth 100000
namespace Go.Proofs.YtmbniilpgbjcfaaGreat
open Go.Lift
set_option maxHeartbeats 8000000 in
theorem c_Receive_accd (s : Agr) (hs : SmA s) (m : Msg) (hc : m.cut.length ≤ 1000) (h1 : agrB s = true) (h2 : m.view = s.view.num) (h3 : vmB s.view m = true) (h4 : m.src ≠ s.self) (h5 : s.dec = []) (h6 : m.kind = 5) :
    Ret Tryz.prog 8 [.agg (agrE s), .agg (msgE m)] (.tup [.agg (agrE (endA (({ s with accs := enterR s.view s.accs ⟨m.src, m.rank, m.cut⟩ }, ([] : List Pkt))).1 (({ s with accs := enterR s.view s.accs ⟨m.src, m.rank, m.cut⟩ }, ([] : List Pkt))).2).1), .lst 7 ((endA (({ s with accs := enterR s.view s.accs ⟨m.src, m.rank, m.cut⟩ }, ([] : List Pkt))).1 (({ s with accs := enterR s.view s.accs ⟨m.src, m.rank, m.cut⟩ }, ([] : List Pkt))).2).2.map pktE) false, i64 0]) := by
  have hv := hs.mem
  have e12 := c_agreement_Valid s hs
  have e14 := c_agreement_ValidMessage s.view (by omega) m (by omega)
  have e58 := sq_cloneState s hs
  have hvb := (agr_view h1).1
  obtain ⟨hrp, hap, _, _⟩ := agr_reps h1
  have hr16 := reps_16 hrp
  have ha16 := reps_16 hap
  have e3 := m_enterS s hs hap ⟨m.src, m.rank, m.cut⟩ hc
  have mend := m_end_nil _ (sm_accs (r := ⟨m.src, m.rank, m.cut⟩) hs hc (by omega))
  generalize endA ({ s with accs := enterR s.view s.accs ⟨m.src, m.rank, m.cut⟩ }, ([] : List Pkt)).1 ({ s with accs := enterR s.view s.accs ⟨m.src, m.rank, m.cut⟩ }, ([] : List Pkt)).2 = E at *
  rw [h1] at e12
  rw [h3] at e14
  have h4' : decide (m.src = s.self) = false := decide_eq_false h4
  have h2' : decide (m.view = s.view.num) = true := decide_eq_true h2
  have h5' : decide (0 < ((s.dec.map intE).length : Int)) = false := by rw [h5]; rfl
  have h6a : decide (m.kind = 1) = false := decide_eq_false (by omega)
  have h6b : decide (m.kind = 2) = false := decide_eq_false (by omega)
  have h6c : decide (m.kind = 3) = false := decide_eq_false (by omega)
  have h6d : decide (m.kind = 4) = false := decide_eq_false (by omega)
  have h6e : decide (m.kind = 5) = true := decide_eq_true h6
  refine ret_of_body (fn := Tryz.f8) (c := Tryz.f8.body.getD .skip) hm hT (by kernel_rfl) Tryz.func8 (by kernel_rfl) (by kernel_rfl) (by kernel_rfl) (by kernel_rfl) ?_
  repeat' ((conv => whnf); first | refine And.intro (fun h => h) ?_ | refine dcond_t (by assumption) ?_ | refine dcond_f (by assumption) ?_ | (refine dcond_intro ?_ ?_ <;> intro h) | exact .refl | refine And.intro (by kernel_rfl) ?_ | refine And.intro ⟨fun h => h, fun h => h⟩ ?_ | refine .inl ⟨_, _, DleAll_refl _, e12, ?_⟩ | refine ⟨_, _, DleAll_refl _, fun _ => e12, ?_⟩ | refine ⟨_, _, DleAll_refl _, e12, ?_⟩ | refine .inl ⟨_, _, DleAll_refl _, e14, ?_⟩ | refine ⟨_, _, DleAll_refl _, fun _ => e14, ?_⟩ | refine ⟨_, _, DleAll_refl _, e14, ?_⟩ | refine .inr ⟨[], [], _, [], _, _, e58, by rfl, trivial, ⟨.refl, trivial⟩, ?_⟩ | refine .inr ⟨[3, 2], _, _, _, _, _, e3, by rfl, ⟨.refl, .refl, trivial⟩, ⟨.refl, .refl, trivial⟩, ?_⟩ | refine .inr ⟨[3, 3], _, _, _, _, _, e3, by rfl, ⟨.refl, .refl, trivial⟩, ⟨.refl, .refl, trivial⟩, ?_⟩ | refine .inr ⟨[3, 4], _, _, _, _, _, e3, by rfl, ⟨.refl, .refl, trivial⟩, ⟨.refl, .refl, trivial⟩, ?_⟩ | refine .inr ⟨[4, 2], _, _, _, _, _, e3, by rfl, ⟨.refl, .refl, trivial⟩, ⟨.refl, .refl, trivial⟩, ?_⟩ | refine .inr ⟨[4, 3], _, _, _, _, _, e3, by rfl, ⟨.refl, .refl, trivial⟩, ⟨.refl, .refl, trivial⟩, ?_⟩ | refine .inr ⟨[4, 4], _, _, _, _, _, e3, by rfl, ⟨.refl, .refl, trivial⟩, ⟨.refl, .refl, trivial⟩, ?_⟩ | refine .inr ⟨[3], _, _, _, _, _, mend, by rfl, ⟨.refl, trivial⟩, ⟨.refl, trivial⟩, ?_⟩ | refine .inr ⟨[4], _, _, _, _, _, mend, by rfl, ⟨.refl, trivial⟩, ⟨.refl, trivial⟩, ?_⟩ | refine Exists.intro false ?_ | (refine And.intro ?_ ?_; focus (simp; done)) | fail)
  all_goals (conv => whnf)
  rw [h2'] at h
  cases h
set_option maxHeartbeats 8000000 in
theorem c_Receive_deci (s : Agr) (hs : SmA s) (m : Msg) (hc : m.cut.length ≤ 1000) (h1 : agrB s = true) (h2 : m.view = s.view.num) (h3 : vmB s.view m = true) (h4 : m.src ≠ s.self) (h5 : s.dec = []) (h6 : m.kind = 6) :
    Ret Tryz.prog 8 [.agg (agrE s), .agg (msgE m)] (.tup [.agg (agrE (endA (({ s with dec := m.cut }, [pktOf s 0 6 0 0 m.cut])).1 (({ s with dec := m.cut }, [pktOf s 0 6 0 0 m.cut])).2).1), .lst 7 ((endA (({ s with dec := m.cut }, [pktOf s 0 6 0 0 m.cut])).1 (({ s with dec := m.cut }, [pktOf s 0 6 0 0 m.cut])).2).2.map pktE) false, i64 0]) := by
  have hv := hs.mem
  have e12 := c_agreement_Valid s hs
  have e14 := c_agreement_ValidMessage s.view (by omega) m (by omega)
  have e58 := c_agreement_cloneState s hs
  have hvb := (agr_view h1).1
  obtain ⟨hrp, hap, _, _⟩ := agr_reps h1
  have hr16 := reps_16 hrp
  have ha16 := reps_16 hap
  have hs2 : SmA { s with dec := m.cut } := ⟨hs.mem, hs.acut, hs.prop, hs.box, hs.boxc, hs.reps, hs.repc, hs.cho, hs.accs, hs.accc, hc⟩
  have e3 := m_send_sq { s with dec := m.cut } 0 6 0 0 m.cut (by omega)
  have mend := m_end_own _ hs2 [pktOf s 0 6 0 0 m.cut] (by simp)
  generalize endA ({ s with dec := m.cut }, [pktOf s 0 6 0 0 m.cut]).1 ({ s with dec := m.cut }, [pktOf s 0 6 0 0 m.cut]).2 = E at *
  rw [h1] at e12
  rw [h3] at e14
  have h4' : decide (m.src = s.self) = false := decide_eq_false h4
  have h2' : decide (m.view = s.view.num) = true := decide_eq_true h2
  have h5' : decide (0 < ((s.dec.map intE).length : Int)) = false := by rw [h5]; rfl
  have h6a : decide (m.kind = 1) = false := decide_eq_false (by omega)
  have h6b : decide (m.kind = 2) = false := decide_eq_false (by omega)
  have h6c : decide (m.kind = 3) = false := decide_eq_false (by omega)
  have h6d : decide (m.kind = 4) = false := decide_eq_false (by omega)
  have h6e : decide (m.kind = 5) = false := decide_eq_false (by omega)
  have h6f : decide (m.kind = 6) = true := decide_eq_true h6
  refine ret_of_body (fn := Tryz.f8) (c := Tryz.f8.body.getD .skip) hm hT (by kernel_rfl) Tryz.func8 (by kernel_rfl) (by kernel_rfl) (by kernel_rfl) (by kernel_rfl) ?_
  repeat' ((conv => whnf); first | refine And.intro (fun h => h) ?_ | refine dcond_t (by assumption) ?_ | refine dcond_f (by assumption) ?_ | (refine dcond_intro ?_ ?_ <;> intro h) | exact .refl | refine And.intro (by kernel_rfl) ?_ | refine And.intro ⟨fun h => h, fun h => h⟩ ?_ | refine .inl ⟨_, _, DleAll_refl _, e12, ?_⟩ | refine ⟨_, _, DleAll_refl _, fun _ => e12, ?_⟩ | refine ⟨_, _, DleAll_refl _, e12, ?_⟩ | refine .inl ⟨_, _, DleAll_refl _, e14, ?_⟩ | refine ⟨_, _, DleAll_refl _, fun _ => e14, ?_⟩ | refine ⟨_, _, DleAll_refl _, e14, ?_⟩ | refine .inl ⟨_, _, DleAll_refl _, e58, ?_⟩ | refine .inl ⟨_, _, DleAll_refl _, c_agreement_clone _ (by omega), ?_⟩ | refine ⟨_, _, DleAll_refl _, fun _ => c_agreement_clone _ (by omega), ?_⟩ | refine ⟨_, _, DleAll_refl _, c_agreement_clone _ (by omega), ?_⟩ | refine .inr ⟨[3], _, _, _, _, _, e3, by rfl, ⟨.refl, trivial⟩, ⟨.refl, .refl, .refl, .refl, .refl, .refl, trivial⟩, ?_⟩ | refine .inr ⟨[4], _, _, _, _, _, e3, by rfl, ⟨.refl, trivial⟩, ⟨.refl, .refl, .refl, .refl, .refl, .refl, trivial⟩, ?_⟩ | refine .inr ⟨[3, 4], _, _, _, _, _, mend, by rfl, ⟨.refl, .refl, trivial⟩, ⟨.refl, trivial⟩, ?_⟩ | refine .inr ⟨[3, 5], _, _, _, _, _, mend, by rfl, ⟨.refl, .refl, trivial⟩, ⟨.refl, trivial⟩, ?_⟩ | refine .inr ⟨[3, 6], _, _, _, _, _, mend, by rfl, ⟨.refl, .refl, trivial⟩, ⟨.refl, trivial⟩, ?_⟩ | refine .inr ⟨[3, 7], _, _, _, _, _, mend, by rfl, ⟨.refl, .refl, trivial⟩, ⟨.refl, trivial⟩, ?_⟩ | refine .inr ⟨[3, 8], _, _, _, _, _, mend, by rfl, ⟨.refl, .refl, trivial⟩, ⟨.refl, trivial⟩, ?_⟩ | refine .inr ⟨[3, 9], _, _, _, _, _, mend, by rfl, ⟨.refl, .refl, trivial⟩, ⟨.refl, trivial⟩, ?_⟩ | refine .inr ⟨[4, 4], _, _, _, _, _, mend, by rfl, ⟨.refl, .refl, trivial⟩, ⟨.refl, trivial⟩, ?_⟩ | refine .inr ⟨[4, 5], _, _, _, _, _, mend, by rfl, ⟨.refl, .refl, trivial⟩, ⟨.refl, trivial⟩, ?_⟩ | refine .inr ⟨[4, 6], _, _, _, _, _, mend, by rfl, ⟨.refl, .refl, trivial⟩, ⟨.refl, trivial⟩, ?_⟩ | refine .inr ⟨[4, 7], _, _, _, _, _, mend, by rfl, ⟨.refl, .refl, trivial⟩, ⟨.refl, trivial⟩, ?_⟩ | refine .inr ⟨[4, 8], _, _, _, _, _, mend, by rfl, ⟨.refl, .refl, trivial⟩, ⟨.refl, trivial⟩, ?_⟩ | refine .inr ⟨[4, 9], _, _, _, _, _, mend, by rfl, ⟨.refl, .refl, trivial⟩, ⟨.refl, trivial⟩, ?_⟩ | refine Exists.intro false ?_ | (refine And.intro ?_ ?_; focus (simp; done)) | fail)
  all_goals (conv => whnf)
  rw [h2'] at h
  cases h
end Go.Proofs.YtmbniilpgbjcfaaGreat

set_option maxRecDepth 100000
namespace Go.Proofs.YtmbniilpgbjcfaaGreat
open Go.Lift
theorem agr0_le : dle (.agg [i64 0, i64 0, .nl, i64 0, i64 0, .nl, .nl, .nl, i64 0, i64 0, .nl, .nl, .nl, .nl, i64 0]) (.agg (agrE agr0)) :=
  dle_aggA ⟨.refl, .refl, .nl, .refl, .refl, .nl, .nl, .nl, .refl, .refl, .nl, .nl, .nl, .nl, .refl, trivial⟩
set_option maxHeartbeats 8000000 in
theorem c_Receive_inv (s : Agr) (hs : SmA s) (m : Msg) (hc : m.cut.length ≤ 1000) (h1 : agrB s = false) : Ret Tryz.prog 8 [.agg (agrE s), .agg (msgE m)] (.tup [.agg (agrE agr0), .lst 7 (([] : List Pkt).map pktE) false, i64 1]) := by
  have e12 := c_agreement_Valid s hs
  rw [h1] at e12
  refine ret_of_body (fn := Tryz.f8) (c := Tryz.f8.body.getD .skip) hm hT (by kernel_rfl) Tryz.func8 (by kernel_rfl) (by kernel_rfl) (by kernel_rfl) (by kernel_rfl) ?_
  repeat' ((conv => whnf); first | refine And.intro (fun h => h) ?_ | refine dcond_t (by assumption) ?_ | refine dcond_f (by assumption) ?_ | (refine dcond_intro ?_ ?_ <;> intro h) | exact .refl | refine And.intro (by kernel_rfl) ?_ | refine And.intro ⟨fun h => h, fun h => h⟩ ?_ | refine .inl ⟨_, _, DleAll_refl _, e12, ?_⟩ | refine ⟨_, _, DleAll_refl _, fun _ => e12, ?_⟩ | refine ⟨_, _, DleAll_refl _, e12, ?_⟩ | refine Exists.intro false ?_ | (refine And.intro ?_ ?_; focus (simp; done)) | fail)
  all_goals (conv => whnf)
  all_goals exact dle_tupA ⟨agr0_le, .nl, .refl, trivial⟩
set_option maxHeartbeats 8000000 in
theorem c_Receive_old (s : Agr) (hs : SmA s) (m : Msg) (hc : m.cut.length ≤ 1000) (h1 : agrB s = true) (h2 : decide (m.view = s.view.num) = false) : Ret Tryz.prog 8 [.agg (agrE s), .agg (msgE m)] (.tup [.agg (agrE agr0), .lst 7 (([] : List Pkt).map pktE) false, i64 8]) := by
  have e12 := c_agreement_Valid s hs
  rw [h1] at e12
  refine ret_of_body (fn := Tryz.f8) (c := Tryz.f8.body.getD .skip) hm hT (by kernel_rfl) Tryz.func8 (by kernel_rfl) (by kernel_rfl) (by kernel_rfl) (by kernel_rfl) ?_
  repeat' ((conv => whnf); first | refine And.intro (fun h => h) ?_ | refine dcond_t (by assumption) ?_ | refine dcond_f (by assumption) ?_ | (refine dcond_intro ?_ ?_ <;> intro h) | exact .refl | refine And.intro (by kernel_rfl) ?_ | refine And.intro ⟨fun h => h, fun h => h⟩ ?_ | refine .inl ⟨_, _, DleAll_refl _, e12, ?_⟩ | refine ⟨_, _, DleAll_refl _, fun _ => e12, ?_⟩ | refine ⟨_, _, DleAll_refl _, e12, ?_⟩ | refine Exists.intro false ?_ | (refine And.intro ?_ ?_; focus (simp; done)) | fail)
  all_goals (conv => whnf)
  · exact dle_tupA ⟨agr0_le, .nl, .refl, trivial⟩
  all_goals
    rw [h2] at h
    cases h
set_option maxHeartbeats 8000000 in
theorem c_Receive_bad (s : Agr) (hs : SmA s) (m : Msg) (hc : m.cut.length ≤ 1000) (h1 : agrB s = true) (h2 : decide (m.view = s.view.num) = true) (h3 : (!vmB s.view m || decide (m.src = s.self)) = true) : Ret Tryz.prog 8 [.agg (agrE s), .agg (msgE m)] (.tup [.agg (agrE agr0), .lst 7 (([] : List Pkt).map pktE) false, i64 1]) := by
  have hv := hs.mem
  have e12 := c_agreement_Valid s hs
  have e14 := c_agreement_ValidMessage s.view (by omega) m (by omega)
  rw [h1] at e12
  generalize vmB s.view m = V at *
  refine ret_of_body (fn := Tryz.f8) (c := Tryz.f8.body.getD .skip) hm hT (by kernel_rfl) Tryz.func8 (by kernel_rfl) (by kernel_rfl) (by kernel_rfl) (by kernel_rfl) ?_
  repeat' ((conv => whnf); first | refine And.intro (fun h => h) ?_ | refine dcond_t (by assumption) ?_ | refine dcond_f (by assumption) ?_ | (refine dcond_intro ?_ ?_ <;> intro h) | exact .refl | refine And.intro (by kernel_rfl) ?_ | refine And.intro ⟨fun h => h, fun h => h⟩ ?_ | refine .inl ⟨_, _, DleAll_refl _, e12, ?_⟩ | refine ⟨_, _, DleAll_refl _, fun _ => e12, ?_⟩ | refine ⟨_, _, DleAll_refl _, e12, ?_⟩ | refine .inl ⟨_, _, DleAll_refl _, e14, ?_⟩ | refine ⟨_, _, DleAll_refl _, fun _ => e14, ?_⟩ | refine ⟨_, _, DleAll_refl _, e14, ?_⟩ | refine Exists.intro false ?_ | (refine And.intro ?_ ?_; focus (simp; done)) | fail)
  all_goals (conv => whnf)
  · rw [h2] at h
    cases h
  · exact dle_tupA ⟨agr0_le, .nl, .refl, trivial⟩
set_option maxHeartbeats 8000000 in
theorem c_Receive_dec (s : Agr) (hs : SmA s) (m : Msg) (hc : m.cut.length ≤ 1000) (h1 : agrB s = true) (h2 : decide (m.view = s.view.num) = true) (h3 : (!vmB s.view m || decide (m.src = s.self)) = false) (h5 : decide (0 < (s.dec.length : Int)) = true) : Ret Tryz.prog 8 [.agg (agrE s), .agg (msgE m)] (.tup [.agg (agrE s), .lst 7 ((bif decide (m.kind = 6) then [] else [pktOf s m.src 6 0 0 s.dec]).map pktE) false, i64 0]) := by
  have hv := hs.mem
  have hd := hs.dec
  have e12 := c_agreement_Valid s hs
  have e14 := c_agreement_ValidMessage s.view (by omega) m (by omega)
  have e58 := c_agreement_cloneState s hs
  have e3 := m_send_sq s m.src 6 0 0 s.dec (by omega)
  rw [h1] at e12
  generalize vmB s.view m = V at *
  have h5' : decide (0 < ((s.dec.map intE).length : Int)) = true := by rw [List.length_map]; exact h5
  refine ret_of_body (fn := Tryz.f8) (c := Tryz.f8.body.getD .skip) hm hT (by kernel_rfl) Tryz.func8 (by kernel_rfl) (by kernel_rfl) (by kernel_rfl) (by kernel_rfl) ?_
  repeat' ((conv => whnf); first | refine And.intro (fun h => h) ?_ | refine dcond_t (by assumption) ?_ | refine dcond_f (by assumption) ?_ | (refine dcond_intro ?_ ?_ <;> intro h) | exact .refl | refine And.intro (by kernel_rfl) ?_ | refine And.intro ⟨fun h => h, fun h => h⟩ ?_ | refine .inl ⟨_, _, DleAll_refl _, e12, ?_⟩ | refine ⟨_, _, DleAll_refl _, fun _ => e12, ?_⟩ | refine ⟨_, _, DleAll_refl _, e12, ?_⟩ | refine .inl ⟨_, _, DleAll_refl _, e14, ?_⟩ | refine ⟨_, _, DleAll_refl _, fun _ => e14, ?_⟩ | refine ⟨_, _, DleAll_refl _, e14, ?_⟩ | refine .inl ⟨_, _, DleAll_refl _, e58, ?_⟩ | refine ⟨_, _, DleAll_refl _, fun _ => e58, ?_⟩ | refine ⟨_, _, DleAll_refl _, e58, ?_⟩ | refine .inr ⟨[3], _, _, _, _, _, e3, by rfl, ⟨.refl, trivial⟩, ⟨.refl, .refl, .refl, .refl, .refl, .refl, trivial⟩, ?_⟩ | refine .inr ⟨[4], _, _, _, _, _, e3, by rfl, ⟨.refl, trivial⟩, ⟨.refl, .refl, .refl, .refl, .refl, .refl, trivial⟩, ?_⟩ | refine Exists.intro false ?_ | (refine And.intro ?_ ?_; focus (simp; done)) | fail)
  all_goals (conv => whnf)
  · rw [h2] at h
    cases h
  · rw [show decide (m.kind = 6) = false by simpa using h]
    exact .refl
  · rw [show decide (m.kind = 6) = true by simpa using h]
    exact dle_tupA ⟨.refl, .nl, .refl, trivial⟩
def actA (s : Agr) (m : Msg) : Agr × List Pkt :=
  if m.kind = 1 then (voteA s m, [])
  else if m.kind = 2 then prepA s m
  else if m.kind = 3 then promA s m
  else if m.kind = 4 then acctA s m
  else if m.kind = 5 then ({ s with accs := enterR s.view s.accs ⟨m.src, m.rank, m.cut⟩ }, [])
  else ({ s with dec := m.cut }, [pktOf s 0 6 0 0 m.cut])
def recA (s : Agr) (m : Msg) : Agr × List Pkt × Int :=
  if agrB s = false then (agr0, [], 1)
  else if decide (m.view = s.view.num) = false then (agr0, [], 8)
  else if (!vmB s.view m || decide (m.src = s.self)) = true then (agr0, [], 1)
  else if decide (0 < (s.dec.length : Int)) = true then (s, (bif decide (m.kind = 6) then [] else [pktOf s m.src 6 0 0 s.dec]), 0)
  else ((endA (actA s m).1 (actA s m).2).1, (endA (actA s m).1 (actA s m).2).2, 0)
theorem vm_kind {v : View} {m : Msg} (h : vmB v m = true) : m.kind = 1 ∨ m.kind = 2 ∨ m.kind = 3 ∨ m.kind = 4 ∨ m.kind = 5 ∨ m.kind = 6 := by
  unfold vmB at h
  by_cases h1 : m.kind = 1
  · exact .inl h1
  by_cases h2 : m.kind = 2
  · exact .inr (.inl h2)
  by_cases h3 : m.kind = 3
  · exact .inr (.inr (.inl h3))
  by_cases h4 : m.kind = 4
  · exact .inr (.inr (.inr (.inl h4)))
  by_cases h5 : m.kind = 5
  · exact .inr (.inr (.inr (.inr (.inl h5))))
  by_cases h6 : m.kind = 6
  · exact .inr (.inr (.inr (.inr (.inr h6))))
  exfalso
  simp only [h1, h2, h3, h4, h5, h6, decide_false, Bool.or_self, cond_false] at h
  cases hx : !viewB v || !inB v.mem m.src || !decide (m.view = v.num) <;> rw [hx] at h <;> cases h
theorem c_agreement_Receive (s : Agr) (hs : SmA s) (m : Msg) (hc : m.cut.length ≤ 1000) :
    Ret Tryz.prog 8 [.agg (agrE s), .agg (msgE m)] (.tup [.agg (agrE (recA s m).1), .lst 7 ((recA s m).2.1.map pktE) false, i64 (recA s m).2.2]) := by
  unfold recA
  by_cases h1 : agrB s = false
  · rw [if_pos h1]
    exact c_Receive_inv s hs m hc h1
  rw [if_neg h1]
  have h1 : agrB s = true := by simpa using h1
  by_cases h2 : decide (m.view = s.view.num) = false
  · rw [if_pos h2]
    exact c_Receive_old s hs m hc h1 h2
  rw [if_neg h2]
  have h2 : decide (m.view = s.view.num) = true := by simpa using h2
  by_cases h3 : (!vmB s.view m || decide (m.src = s.self)) = true
  · rw [if_pos h3]
    exact c_Receive_bad s hs m hc h1 h2 h3
  rw [if_neg h3]
  have h3 : (!vmB s.view m || decide (m.src = s.self)) = false := by simpa using h3
  by_cases h5 : decide (0 < (s.dec.length : Int)) = true
  · rw [if_pos h5]
    exact c_Receive_dec s hs m hc h1 h2 h3 h5
  rw [if_neg h5]
  have h5' : s.dec = [] := by
    have : s.dec.length = 0 := by
      simp at h5
      rw [h5]
      rfl
    exact List.length_eq_zero_iff.1 this
  have h2' := of_decide_eq_true h2
  simp only [Bool.or_eq_false_iff, Bool.not_eq_false', decide_eq_false_iff_not] at h3
  unfold actA
  rcases vm_kind h3.1 with hk | hk | hk | hk | hk | hk
  · rw [if_pos hk]
    exact c_Receive_vote s hs m hc h1 h2' h3.1 h3.2 h5' hk
  · rw [if_neg (by omega), if_pos hk]
    exact c_Receive_prep s hs m hc h1 h2' h3.1 h3.2 h5' hk
  · rw [if_neg (by omega), if_neg (by omega), if_pos hk]
    exact c_Receive_prom s hs m hc h1 h2' h3.1 h3.2 h5' hk
  · rw [if_neg (by omega), if_neg (by omega), if_neg (by omega), if_pos hk]
    exact c_Receive_acct s hs m hc h1 h2' h3.1 h3.2 h5' hk
  · rw [if_neg (by omega), if_neg (by omega), if_neg (by omega), if_neg (by omega), if_pos hk]
    exact c_Receive_accd s hs m hc h1 h2' h3.1 h3.2 h5' hk
  · rw [if_neg (by omega), if_neg (by omega), if_neg (by omega), if_neg (by omega), if_neg (by omega)]
    exact c_Receive_deci s hs m hc h1 h2' h3.1 h3.2 h5' hk
end Go.Proofs.YtmbniilpgbjcfaaGreat

set_option maxRecDepth 100000
namespace Go.Proofs.YtmbniilpgbjcfaaGreat
open Go.Lift
def waitA (s : Agr) : Int := if 1099511627776 < IntKind.i64.wrap (s.wait + 1) then 1099511627776 else IntKind.i64.wrap (s.wait + 1)
def dueB (s : Agr) : Bool := decide (IntKind.i64.wrap (8 + IntKind.i64.wrap (6 * placeB s.view.mem s.self)) ≤ waitA s)
def stepA (s : Agr) : Agr :=
  if decide (0 < (s.prop.length : Int)) = true then (if dueB s = true then attA { s with wait := waitA s } else { s with wait := waitA s }) else s
set_option maxHeartbeats 8000000 in
theorem c_Tick_inv (s : Agr) (hs : SmA s) (h1 : agrB s = false) : Ret Tryz.prog 10 [.agg (agrE s)] (.tup [.agg (agrE agr0), .lst 7 (([] : List Pkt).map pktE) false]) := by
  have e12 := c_agreement_Valid s hs
  rw [h1] at e12
  refine ret_of_body (fn := Tryz.f10) (c := Tryz.f10.body.getD .skip) hm hT (by kernel_rfl) Tryz.func10 (by kernel_rfl) (by kernel_rfl) (by kernel_rfl) (by kernel_rfl) ?_
  repeat' ((conv => whnf); first | refine And.intro (fun h => h) ?_ | refine dcond_t (by assumption) ?_ | refine dcond_f (by assumption) ?_ | (refine dcond_intro ?_ ?_ <;> intro h) | exact .refl | refine And.intro (by kernel_rfl) ?_ | refine And.intro ⟨fun h => h, fun h => h⟩ ?_ | refine .inl ⟨_, _, DleAll_refl _, e12, ?_⟩ | refine ⟨_, _, DleAll_refl _, fun _ => e12, ?_⟩ | refine ⟨_, _, DleAll_refl _, e12, ?_⟩ | refine Exists.intro false ?_ | (refine And.intro ?_ ?_; focus (simp; done)) | fail)
  all_goals (conv => whnf)
  all_goals exact dle_tupA ⟨agr0_le, .nl, trivial⟩
set_option maxHeartbeats 8000000 in
theorem c_Tick_dec (s : Agr) (hs : SmA s) (h1 : agrB s = true) (h5 : decide (0 < (s.dec.length : Int)) = true) : Ret Tryz.prog 10 [.agg (agrE s)] (.tup [.agg (agrE s), .lst 7 ([pktOf s 0 6 0 0 s.dec].map pktE) false]) := by
  have hd := hs.dec
  have e12 := c_agreement_Valid s hs
  have e58 := c_agreement_cloneState s hs
  have e3 := m_send_sq s 0 6 0 0 s.dec (by omega)
  rw [h1] at e12
  have h5' : decide (0 < ((s.dec.map intE).length : Int)) = true := by rw [List.length_map]; exact h5
  refine ret_of_body (fn := Tryz.f10) (c := Tryz.f10.body.getD .skip) hm hT (by kernel_rfl) Tryz.func10 (by kernel_rfl) (by kernel_rfl) (by kernel_rfl) (by kernel_rfl) ?_
  repeat' ((conv => whnf); first | refine And.intro (fun h => h) ?_ | refine dcond_t (by assumption) ?_ | refine dcond_f (by assumption) ?_ | (refine dcond_intro ?_ ?_ <;> intro h) | exact .refl | refine And.intro (by kernel_rfl) ?_ | refine And.intro ⟨fun h => h, fun h => h⟩ ?_ | refine .inl ⟨_, _, DleAll_refl _, e12, ?_⟩ | refine ⟨_, _, DleAll_refl _, fun _ => e12, ?_⟩ | refine ⟨_, _, DleAll_refl _, e12, ?_⟩ | refine .inl ⟨_, _, DleAll_refl _, e58, ?_⟩ | refine ⟨_, _, DleAll_refl _, fun _ => e58, ?_⟩ | refine ⟨_, _, DleAll_refl _, e58, ?_⟩ | refine .inr ⟨[2], _, _, _, _, _, e3, by rfl, ⟨.refl, trivial⟩, ⟨.refl, .refl, .refl, .refl, .refl, .refl, trivial⟩, ?_⟩ | refine .inr ⟨[3], _, _, _, _, _, e3, by rfl, ⟨.refl, trivial⟩, ⟨.refl, .refl, .refl, .refl, .refl, .refl, trivial⟩, ?_⟩ | refine .inr ⟨[4], _, _, _, _, _, e3, by rfl, ⟨.refl, trivial⟩, ⟨.refl, .refl, .refl, .refl, .refl, .refl, trivial⟩, ?_⟩ | refine Exists.intro false ?_ | (refine And.intro ?_ ?_; focus (simp; done)) | fail)
set_option maxHeartbeats 8000000 in
theorem c_Tick_idle (s : Agr) (hs : SmA s) (h1 : agrB s = true) (h5 : s.dec = []) (h6 : decide (0 < (s.prop.length : Int)) = false) : Ret Tryz.prog 10 [.agg (agrE s)] (.tup [.agg (agrE (endA s (rsdA s)).1), .lst 7 ((endA s (rsdA s)).2.map pktE) false]) := by
  have e12 := c_agreement_Valid s hs
  have e58 := c_agreement_cloneState s hs
  have e3 := m_resend s hs
  have mend := m_end_own s hs (rsdA s) (rsd_ps s)
  generalize endA s (rsdA s) = E at *
  rw [h1] at e12
  have h5' : decide (0 < ((s.dec.map intE).length : Int)) = false := by rw [h5]; rfl
  have h6' : decide (0 < ((s.prop.map intE).length : Int)) = false := by rw [List.length_map]; exact h6
  refine ret_of_body (fn := Tryz.f10) (c := Tryz.f10.body.getD .skip) hm hT (by kernel_rfl) Tryz.func10 (by kernel_rfl) (by kernel_rfl) (by kernel_rfl) (by kernel_rfl) ?_
  repeat' ((conv => whnf); first | refine And.intro (fun h => h) ?_ | refine dcond_t (by assumption) ?_ | refine dcond_f (by assumption) ?_ | (refine dcond_intro ?_ ?_ <;> intro h) | exact .refl | refine And.intro (by kernel_rfl) ?_ | refine And.intro ⟨fun h => h, fun h => h⟩ ?_ | refine .inl ⟨_, _, DleAll_refl _, e12, ?_⟩ | refine ⟨_, _, DleAll_refl _, fun _ => e12, ?_⟩ | refine ⟨_, _, DleAll_refl _, e12, ?_⟩ | refine .inl ⟨_, _, DleAll_refl _, e58, ?_⟩ | refine ⟨_, _, DleAll_refl _, fun _ => e58, ?_⟩ | refine ⟨_, _, DleAll_refl _, e58, ?_⟩ | refine .inr ⟨[2], _, _, _, _, _, e3, by rfl, ⟨.refl, trivial⟩, ⟨.refl, trivial⟩, ?_⟩ | refine .inr ⟨[3], _, _, _, _, _, e3, by rfl, ⟨.refl, trivial⟩, ⟨.refl, trivial⟩, ?_⟩ | refine .inr ⟨[4], _, _, _, _, _, e3, by rfl, ⟨.refl, trivial⟩, ⟨.refl, trivial⟩, ?_⟩ | refine .inr ⟨[2, 3], _, _, _, _, _, mend, by rfl, ⟨.refl, .refl, trivial⟩, ⟨.refl, trivial⟩, ?_⟩ | refine .inr ⟨[2, 4], _, _, _, _, _, mend, by rfl, ⟨.refl, .refl, trivial⟩, ⟨.refl, trivial⟩, ?_⟩ | refine .inr ⟨[2, 5], _, _, _, _, _, mend, by rfl, ⟨.refl, .refl, trivial⟩, ⟨.refl, trivial⟩, ?_⟩ | refine .inr ⟨[2, 6], _, _, _, _, _, mend, by rfl, ⟨.refl, .refl, trivial⟩, ⟨.refl, trivial⟩, ?_⟩ | refine .inr ⟨[2, 7], _, _, _, _, _, mend, by rfl, ⟨.refl, .refl, trivial⟩, ⟨.refl, trivial⟩, ?_⟩ | refine .inr ⟨[2, 8], _, _, _, _, _, mend, by rfl, ⟨.refl, .refl, trivial⟩, ⟨.refl, trivial⟩, ?_⟩ | refine .inr ⟨[2, 9], _, _, _, _, _, mend, by rfl, ⟨.refl, .refl, trivial⟩, ⟨.refl, trivial⟩, ?_⟩ | refine .inr ⟨[3, 3], _, _, _, _, _, mend, by rfl, ⟨.refl, .refl, trivial⟩, ⟨.refl, trivial⟩, ?_⟩ | refine .inr ⟨[3, 4], _, _, _, _, _, mend, by rfl, ⟨.refl, .refl, trivial⟩, ⟨.refl, trivial⟩, ?_⟩ | refine .inr ⟨[3, 5], _, _, _, _, _, mend, by rfl, ⟨.refl, .refl, trivial⟩, ⟨.refl, trivial⟩, ?_⟩ | refine .inr ⟨[3, 6], _, _, _, _, _, mend, by rfl, ⟨.refl, .refl, trivial⟩, ⟨.refl, trivial⟩, ?_⟩ | refine .inr ⟨[3, 7], _, _, _, _, _, mend, by rfl, ⟨.refl, .refl, trivial⟩, ⟨.refl, trivial⟩, ?_⟩ | refine .inr ⟨[3, 8], _, _, _, _, _, mend, by rfl, ⟨.refl, .refl, trivial⟩, ⟨.refl, trivial⟩, ?_⟩ | refine .inr ⟨[3, 9], _, _, _, _, _, mend, by rfl, ⟨.refl, .refl, trivial⟩, ⟨.refl, trivial⟩, ?_⟩ | refine .inr ⟨[4, 3], _, _, _, _, _, mend, by rfl, ⟨.refl, .refl, trivial⟩, ⟨.refl, trivial⟩, ?_⟩ | refine .inr ⟨[4, 4], _, _, _, _, _, mend, by rfl, ⟨.refl, .refl, trivial⟩, ⟨.refl, trivial⟩, ?_⟩ | refine .inr ⟨[4, 5], _, _, _, _, _, mend, by rfl, ⟨.refl, .refl, trivial⟩, ⟨.refl, trivial⟩, ?_⟩ | refine .inr ⟨[4, 6], _, _, _, _, _, mend, by rfl, ⟨.refl, .refl, trivial⟩, ⟨.refl, trivial⟩, ?_⟩ | refine .inr ⟨[4, 7], _, _, _, _, _, mend, by rfl, ⟨.refl, .refl, trivial⟩, ⟨.refl, trivial⟩, ?_⟩ | refine .inr ⟨[4, 8], _, _, _, _, _, mend, by rfl, ⟨.refl, .refl, trivial⟩, ⟨.refl, trivial⟩, ?_⟩ | refine .inr ⟨[4, 9], _, _, _, _, _, mend, by rfl, ⟨.refl, .refl, trivial⟩, ⟨.refl, trivial⟩, ?_⟩ | refine Exists.intro false ?_ | (refine And.intro ?_ ?_; focus (simp; done)) | fail)
set_option maxHeartbeats 8000000 in
theorem c_Tick_wait (s : Agr) (hs : SmA s) (h1 : agrB s = true) (h5 : s.dec = []) (h6 : decide (0 < (s.prop.length : Int)) = true) (h7 : dueB s = false) : Ret Tryz.prog 10 [.agg (agrE s)] (.tup [.agg (agrE (endA { s with wait := waitA s } (rsdA s)).1), .lst 7 ((endA { s with wait := waitA s } (rsdA s)).2.map pktE) false]) := by
  have hv := hs.mem
  have hs2 : SmA { s with wait := waitA s } := ⟨hs.mem, hs.acut, hs.prop, hs.box, hs.boxc, hs.reps, hs.repc, hs.cho, hs.accs, hs.accc, hs.dec⟩
  have e12 := c_agreement_Valid s hs
  have e58 := c_agreement_cloneState s hs
  have e3 := m_resend _ hs2
  have mend := m_end_own _ hs2 (rsdA s) (rsd_ps s)
  have ep := c_view_Place s.view.mem (mx hv) s.self
  have hw : waitA s = if 1099511627776 < IntKind.i64.wrap (s.wait + 1) then 1099511627776 else IntKind.i64.wrap (s.wait + 1) := rfl
  have hd : dueB s = decide (IntKind.i64.wrap (8 + IntKind.i64.wrap (6 * placeB s.view.mem s.self)) ≤ waitA s) := rfl
  generalize endA { s with wait := waitA s } (rsdA s) = E at *
  rw [h1] at e12
  have h5' : decide (0 < ((s.dec.map intE).length : Int)) = false := by rw [h5]; rfl
  have h6' : decide (0 < ((s.prop.map intE).length : Int)) = true := by rw [List.length_map]; exact h6
  refine ret_of_body (fn := Tryz.f10) (c := Tryz.f10.body.getD .skip) hm hT (by kernel_rfl) Tryz.func10 (by kernel_rfl) (by kernel_rfl) (by kernel_rfl) (by kernel_rfl) ?_
  repeat' ((conv => whnf); first | refine And.intro (fun h => h) ?_ | refine dcond_t (by assumption) ?_ | refine dcond_f (by assumption) ?_ | (refine dcond_intro ?_ ?_ <;> intro h) | exact .refl | refine And.intro (by kernel_rfl) ?_ | refine And.intro ⟨fun h => h, fun h => h⟩ ?_ | refine .inl ⟨_, _, DleAll_refl _, e12, ?_⟩ | refine ⟨_, _, DleAll_refl _, fun _ => e12, ?_⟩ | refine ⟨_, _, DleAll_refl _, e12, ?_⟩ | refine .inl ⟨_, _, DleAll_refl _, e58, ?_⟩ | refine ⟨_, _, DleAll_refl _, fun _ => e58, ?_⟩ | refine ⟨_, _, DleAll_refl _, e58, ?_⟩ | refine .inl ⟨_, _, DleAll_refl _, ep, ?_⟩ | refine ⟨_, _, DleAll_refl _, fun _ => ep, ?_⟩ | refine ⟨_, _, DleAll_refl _, ep, ?_⟩ | refine .inr ⟨[2], _, _, _, _, _, e3, by rfl, ⟨.refl, trivial⟩, ⟨.refl, trivial⟩, ?_⟩ | refine .inr ⟨[3], _, _, _, _, _, e3, by rfl, ⟨.refl, trivial⟩, ⟨.refl, trivial⟩, ?_⟩ | refine .inr ⟨[4], _, _, _, _, _, e3, by rfl, ⟨.refl, trivial⟩, ⟨.refl, trivial⟩, ?_⟩ | refine .inr ⟨[2, 3], _, _, _, _, _, mend, by rfl, ⟨.refl, .refl, trivial⟩, ⟨.refl, trivial⟩, ?_⟩ | refine .inr ⟨[2, 4], _, _, _, _, _, mend, by rfl, ⟨.refl, .refl, trivial⟩, ⟨.refl, trivial⟩, ?_⟩ | refine .inr ⟨[2, 5], _, _, _, _, _, mend, by rfl, ⟨.refl, .refl, trivial⟩, ⟨.refl, trivial⟩, ?_⟩ | refine .inr ⟨[2, 6], _, _, _, _, _, mend, by rfl, ⟨.refl, .refl, trivial⟩, ⟨.refl, trivial⟩, ?_⟩ | refine .inr ⟨[2, 7], _, _, _, _, _, mend, by rfl, ⟨.refl, .refl, trivial⟩, ⟨.refl, trivial⟩, ?_⟩ | refine .inr ⟨[2, 8], _, _, _, _, _, mend, by rfl, ⟨.refl, .refl, trivial⟩, ⟨.refl, trivial⟩, ?_⟩ | refine .inr ⟨[2, 9], _, _, _, _, _, mend, by rfl, ⟨.refl, .refl, trivial⟩, ⟨.refl, trivial⟩, ?_⟩ | refine .inr ⟨[3, 3], _, _, _, _, _, mend, by rfl, ⟨.refl, .refl, trivial⟩, ⟨.refl, trivial⟩, ?_⟩ | refine .inr ⟨[3, 4], _, _, _, _, _, mend, by rfl, ⟨.refl, .refl, trivial⟩, ⟨.refl, trivial⟩, ?_⟩ | refine .inr ⟨[3, 5], _, _, _, _, _, mend, by rfl, ⟨.refl, .refl, trivial⟩, ⟨.refl, trivial⟩, ?_⟩ | refine .inr ⟨[3, 6], _, _, _, _, _, mend, by rfl, ⟨.refl, .refl, trivial⟩, ⟨.refl, trivial⟩, ?_⟩ | refine .inr ⟨[3, 7], _, _, _, _, _, mend, by rfl, ⟨.refl, .refl, trivial⟩, ⟨.refl, trivial⟩, ?_⟩ | refine .inr ⟨[3, 8], _, _, _, _, _, mend, by rfl, ⟨.refl, .refl, trivial⟩, ⟨.refl, trivial⟩, ?_⟩ | refine .inr ⟨[3, 9], _, _, _, _, _, mend, by rfl, ⟨.refl, .refl, trivial⟩, ⟨.refl, trivial⟩, ?_⟩ | refine .inr ⟨[4, 3], _, _, _, _, _, mend, by rfl, ⟨.refl, .refl, trivial⟩, ⟨.refl, trivial⟩, ?_⟩ | refine .inr ⟨[4, 4], _, _, _, _, _, mend, by rfl, ⟨.refl, .refl, trivial⟩, ⟨.refl, trivial⟩, ?_⟩ | refine .inr ⟨[4, 5], _, _, _, _, _, mend, by rfl, ⟨.refl, .refl, trivial⟩, ⟨.refl, trivial⟩, ?_⟩ | refine .inr ⟨[4, 6], _, _, _, _, _, mend, by rfl, ⟨.refl, .refl, trivial⟩, ⟨.refl, trivial⟩, ?_⟩ | refine .inr ⟨[4, 7], _, _, _, _, _, mend, by rfl, ⟨.refl, .refl, trivial⟩, ⟨.refl, trivial⟩, ?_⟩ | refine .inr ⟨[4, 8], _, _, _, _, _, mend, by rfl, ⟨.refl, .refl, trivial⟩, ⟨.refl, trivial⟩, ?_⟩ | refine .inr ⟨[4, 9], _, _, _, _, _, mend, by rfl, ⟨.refl, .refl, trivial⟩, ⟨.refl, trivial⟩, ?_⟩ | refine Exists.intro false ?_ | (refine And.intro ?_ ?_; focus (simp; done)) | fail)
theorem sm_att {s : Agr} (hs : SmA s) (hl : s.accs.length ≤ 900) : SmA (attA s) := by
  have hpl := prep_len (rank := attRank s) hs.acut
  unfold attA
  cases decide (attRank s = 0)
  · cases (prepR s.acc (attRank s)).2.2
    · exact hs
    · exact sm_adv ⟨hs.mem, hpl.1, hs.prop, hs.box, hs.boxc, (by simp), (fun b hb => by
        rcases List.mem_singleton.1 hb with rfl
        exact hpl.2), Nat.zero_le _, hs.accs, hs.accc, hs.dec⟩ hl
  · exact hs
set_option maxHeartbeats 8000000 in
theorem c_Tick_act (s : Agr) (hs : SmA s) (h1 : agrB s = true) (h5 : s.dec = []) (h6 : decide (0 < (s.prop.length : Int)) = true) (h7 : dueB s = true) : Ret Tryz.prog 10 [.agg (agrE s)] (.tup [.agg (agrE (endA (attA { s with wait := waitA s }) (rsdA (attA { s with wait := waitA s }))).1), .lst 7 ((endA (attA { s with wait := waitA s }) (rsdA (attA { s with wait := waitA s }))).2.map pktE) false]) := by
  have hv := hs.mem
  have hs2 : SmA { s with wait := waitA s } := ⟨hs.mem, hs.acut, hs.prop, hs.box, hs.boxc, hs.reps, hs.repc, hs.cho, hs.accs, hs.accc, hs.dec⟩
  obtain ⟨_, hap, _, _⟩ := agr_reps h1
  have ha16 := reps_16 hap
  have e12 := c_agreement_Valid s hs
  have e58 := sq_cloneState s hs
  have e2 := m_attempt _ hs2 hap
  have hs3 := sm_att hs2 (by simp only []; omega)
  have ep := c_view_Place s.view.mem (mx hv) s.self
  have hw : waitA s = if 1099511627776 < IntKind.i64.wrap (s.wait + 1) then 1099511627776 else IntKind.i64.wrap (s.wait + 1) := rfl
  have hd : dueB s = decide (IntKind.i64.wrap (8 + IntKind.i64.wrap (6 * placeB s.view.mem s.self)) ≤ waitA s) := rfl
  generalize attA { s with wait := waitA s } = A at *
  have e3 := m_resend _ hs3
  have mend := m_end_own _ hs3 (rsdA A) (rsd_ps A)
  generalize endA A (rsdA A) = E at *
  rw [h1] at e12
  have h5' : decide (0 < ((s.dec.map intE).length : Int)) = false := by rw [h5]; rfl
  have h6' : decide (0 < ((s.prop.map intE).length : Int)) = true := by rw [List.length_map]; exact h6
  refine ret_of_body (fn := Tryz.f10) (c := Tryz.f10.body.getD .skip) hm hT (by kernel_rfl) Tryz.func10 (by kernel_rfl) (by kernel_rfl) (by kernel_rfl) (by kernel_rfl) ?_
  repeat' ((conv => whnf); first | refine And.intro (fun h => h) ?_ | refine dcond_t (by assumption) ?_ | refine dcond_f (by assumption) ?_ | (refine dcond_intro ?_ ?_ <;> intro h) | exact .refl | refine And.intro (by kernel_rfl) ?_ | refine And.intro ⟨fun h => h, fun h => h⟩ ?_ | refine .inl ⟨_, _, DleAll_refl _, e12, ?_⟩ | refine ⟨_, _, DleAll_refl _, fun _ => e12, ?_⟩ | refine ⟨_, _, DleAll_refl _, e12, ?_⟩ | refine .inr ⟨[], [], _, [], _, _, e58, by rfl, trivial, ⟨.refl, trivial⟩, ?_⟩ | refine .inl ⟨_, _, DleAll_refl _, ep, ?_⟩ | refine ⟨_, _, DleAll_refl _, fun _ => ep, ?_⟩ | refine ⟨_, _, DleAll_refl _, ep, ?_⟩ | refine .inr ⟨[3, 2], _, _, _, _, _, e2, by rfl, ⟨.refl, .refl, trivial⟩, ⟨.refl, trivial⟩, ?_⟩ | refine .inr ⟨[3, 3], _, _, _, _, _, e2, by rfl, ⟨.refl, .refl, trivial⟩, ⟨.refl, trivial⟩, ?_⟩ | refine .inr ⟨[4, 2], _, _, _, _, _, e2, by rfl, ⟨.refl, .refl, trivial⟩, ⟨.refl, trivial⟩, ?_⟩ | refine .inr ⟨[4, 3], _, _, _, _, _, e2, by rfl, ⟨.refl, .refl, trivial⟩, ⟨.refl, trivial⟩, ?_⟩ | refine .inr ⟨[3], _, _, _, _, _, e3, by rfl, ⟨.refl, trivial⟩, ⟨.refl, trivial⟩, ?_⟩ | refine .inr ⟨[4], _, _, _, _, _, e3, by rfl, ⟨.refl, trivial⟩, ⟨.refl, trivial⟩, ?_⟩ | refine .inr ⟨[3, 3], _, _, _, _, _, mend, by rfl, ⟨.refl, .refl, trivial⟩, ⟨.refl, trivial⟩, ?_⟩ | refine .inr ⟨[3, 4], _, _, _, _, _, mend, by rfl, ⟨.refl, .refl, trivial⟩, ⟨.refl, trivial⟩, ?_⟩ | refine .inr ⟨[3, 5], _, _, _, _, _, mend, by rfl, ⟨.refl, .refl, trivial⟩, ⟨.refl, trivial⟩, ?_⟩ | refine .inr ⟨[3, 6], _, _, _, _, _, mend, by rfl, ⟨.refl, .refl, trivial⟩, ⟨.refl, trivial⟩, ?_⟩ | refine .inr ⟨[3, 7], _, _, _, _, _, mend, by rfl, ⟨.refl, .refl, trivial⟩, ⟨.refl, trivial⟩, ?_⟩ | refine .inr ⟨[3, 8], _, _, _, _, _, mend, by rfl, ⟨.refl, .refl, trivial⟩, ⟨.refl, trivial⟩, ?_⟩ | refine .inr ⟨[3, 9], _, _, _, _, _, mend, by rfl, ⟨.refl, .refl, trivial⟩, ⟨.refl, trivial⟩, ?_⟩ | refine .inr ⟨[4, 3], _, _, _, _, _, mend, by rfl, ⟨.refl, .refl, trivial⟩, ⟨.refl, trivial⟩, ?_⟩ | refine .inr ⟨[4, 4], _, _, _, _, _, mend, by rfl, ⟨.refl, .refl, trivial⟩, ⟨.refl, trivial⟩, ?_⟩ | refine .inr ⟨[4, 5], _, _, _, _, _, mend, by rfl, ⟨.refl, .refl, trivial⟩, ⟨.refl, trivial⟩, ?_⟩ | refine .inr ⟨[4, 6], _, _, _, _, _, mend, by rfl, ⟨.refl, .refl, trivial⟩, ⟨.refl, trivial⟩, ?_⟩ | refine .inr ⟨[4, 7], _, _, _, _, _, mend, by rfl, ⟨.refl, .refl, trivial⟩, ⟨.refl, trivial⟩, ?_⟩ | refine .inr ⟨[4, 8], _, _, _, _, _, mend, by rfl, ⟨.refl, .refl, trivial⟩, ⟨.refl, trivial⟩, ?_⟩ | refine .inr ⟨[4, 9], _, _, _, _, _, mend, by rfl, ⟨.refl, .refl, trivial⟩, ⟨.refl, trivial⟩, ?_⟩ | refine Exists.intro false ?_ | (refine And.intro ?_ ?_; focus (simp; done)) | fail)
def tickA (s : Agr) : Agr × List Pkt :=
  if agrB s = false then (agr0, [])
  else if decide (0 < (s.dec.length : Int)) = true then (s, [pktOf s 0 6 0 0 s.dec])
  else endA (stepA s) (rsdA (stepA s))
theorem c_agreement_Tick (s : Agr) (hs : SmA s) : Ret Tryz.prog 10 [.agg (agrE s)] (.tup [.agg (agrE (tickA s).1), .lst 7 ((tickA s).2.map pktE) false]) := by
  unfold tickA
  by_cases h1 : agrB s = false
  · rw [if_pos h1]
    exact c_Tick_inv s hs h1
  rw [if_neg h1]
  have h1 : agrB s = true := by simpa using h1
  by_cases h5 : decide (0 < (s.dec.length : Int)) = true
  · rw [if_pos h5]
    exact c_Tick_dec s hs h1 h5
  rw [if_neg h5]
  have h5' : s.dec = [] := by
    have : s.dec.length = 0 := by
      simp at h5
      rw [h5]
      rfl
    exact List.length_eq_zero_iff.1 this
  unfold stepA
  by_cases h6 : decide (0 < (s.prop.length : Int)) = true
  · rw [if_pos h6]
    by_cases h7 : dueB s = true
    · rw [if_pos h7]
      exact c_Tick_act s hs h1 h5' h6 h7
    · rw [if_neg h7]
      exact c_Tick_wait s hs h1 h5' h6 (by simpa using h7)
  · rw [if_neg h6]
    exact c_Tick_idle s hs h1 h5' (by simpa using h6)
end Go.Proofs.YtmbniilpgbjcfaaGreat

set_option maxRecDepth 100000
namespace Go.Proofs.YtmbniilpgbjcfaaGreat
open Go.Lift
theorem app_ids {v : View} {c : List Int} (h : (nextR v c).2 = 0) : idsB c 32 = true := by
  unfold nextR at h
  cases h1 : (!viewB v || !idsB c 32) with
  | true => rw [h1] at h; simp at h
  | false =>
    simp only [Bool.or_eq_false_iff, Bool.not_eq_false'] at h1
    exact h1.2
theorem ids_ne {c : List Int} {m : Int} (h : idsB c m = true) : c ≠ [] ∧ (c.length : Int) ≤ m := by
  simp only [idsB, Bool.and_eq_true, Bool.not_eq_true', Bool.or_eq_false_iff, decide_eq_false_iff_not] at h
  refine ⟨fun e => ?_, by omega⟩
  subst e
  simp at h
theorem app_ne {v : View} {c : List Int} (h : appB v c = true) : c ≠ [] := (ids_ne (app_ids (of_decide_eq_true h))).1
theorem good_iff {v : View} {c : List Int} : goodB v c = true ↔ c = [] ∨ appB v c = true := by
  unfold goodB
  rw [Bool.or_eq_true, decide_eq_true_eq]
  constructor
  · rintro (h | h)
    · exact .inl (List.length_eq_zero_iff.1 (by omega))
    · exact .inr h
  · rintro (rfl | h)
    · exact .inl rfl
    · exact .inr h
theorem good_app {v : View} {c : List Int} (h : goodB v c = true) (hn : c ≠ []) : appB v c = true := (good_iff.1 h).resolve_left hn
theorem choose_from {v : View} {l : List Rpt} {own : List Int} (h0 : gateB v l own = false) (ho : own ≠ []) : (chooseR v l own).2 = true ∧ ((chooseR v l own).1 = own ∨ ∃ r ∈ l, 0 ≤ r.rank ∧ (chooseR v l own).1 = r.cut) := by
  have hpos := (gate_pos h0).1
  have hlt := hiAt_lt l hpos
  cases h1 : decide (0 < (l.getD (hiAt l l.length) rpt0).rank)
  · cases hf : l.find? (fastQ v l) with
    | none =>
      have hall : ∀ j (hj : j < l.length), fastQ v l l[j] = false := fun j hj => by
        have := List.find?_eq_none.1 hf _ (List.getElem_mem hj)
        simpa using this
      rw [choose_own h0 h1 hall]
      refine ⟨?_, .inl rfl⟩
      cases own with
      | nil => exact absurd rfl ho
      | cons x l => exact decide_eq_true (by simp only [List.length_cons]; omega)
    | some r =>
      obtain ⟨hq, i, hi, he, hall⟩ := List.find?_eq_some_iff_getElem.1 hf
      subst he
      rw [choose_fast h0 h1 hi hq (fun j hj hji => by simpa using hall j hji)]
      refine ⟨rfl, .inr ⟨_, List.getElem_mem hi, ?_, rfl⟩⟩
      simp only [fastQ, Bool.and_eq_true, decide_eq_true_eq] at hq
      omega
  · rw [choose_hi h0 h1]
    have hg : l.getD (hiAt l l.length) rpt0 = l[hiAt l l.length] := by simp [hlt]
    refine ⟨rfl, .inr ⟨_, List.getElem_mem hlt, ?_, by rw [hg]⟩⟩
    rw [hg] at h1
    have := of_decide_eq_true h1
    omega
theorem vote_ok {a : Acc} {c : List Int} (h : accB a = true) (hok : (voteR a c).2 = true) : a.pro = 0 ∧ a.rank = -1 ∧ idsB c 32 = true ∧ (voteR a c).1 = ⟨0, 0, c⟩ := by
  simp only [voteR, h, Bool.not_true, cond_false] at hok ⊢
  cases hc : (!decide (a.pro = 0) || !decide (a.rank = -1) || !idsB c 32) with
  | true => rw [hc] at hok; cases hok
  | false =>
    simp only [Bool.or_eq_false_iff, Bool.not_eq_false', decide_eq_true_eq] at hc
    exact ⟨hc.1.1, hc.1.2, hc.2, rfl⟩
theorem prep_ok {a : Acc} {r : Int} (h : accB a = true) (hok : (prepR a r).2.2 = true) : usableB r = true ∧ a.pro ≤ r ∧ (prepR a r).1 = ⟨r, a.rank, a.cut⟩ ∧ (prepR a r).2.1 = ⟨0, a.rank, a.cut⟩ := by
  simp only [prepR, h, Bool.not_true, cond_false] at hok ⊢
  cases hc : (!usableB r || decide (r < a.pro)) with
  | true => rw [hc] at hok; cases hok
  | false =>
    simp only [Bool.or_eq_false_iff, Bool.not_eq_false', decide_eq_false_iff_not] at hc
    exact ⟨hc.1, by omega, rfl, rfl⟩
theorem accept_ok {a : Acc} {r : Int} {c : List Int} (h : accB a = true) (hok : (acceptR a r c).2 = true) : usableB r = true ∧ a.pro ≤ r ∧ idsB c 32 = true ∧ (acceptR a r c).1 = ⟨r, r, c⟩ ∧ (a.rank = r → a.cut = c) := by
  simp only [acceptR, h, Bool.not_true, cond_false] at hok ⊢
  cases hc : (!usableB r || decide (r < a.pro) || !idsB c 32 || decide (a.rank = r) && !sameI a.cut c) with
  | true => rw [hc] at hok; cases hok
  | false =>
    simp only [Bool.or_eq_false_iff, Bool.not_eq_false', decide_eq_false_iff_not, Bool.and_eq_false_iff] at hc
    refine ⟨hc.1.1.1, by omega, hc.1.2, rfl, fun e => ?_⟩
    rcases hc.2 with h2 | h2
    · exact absurd e h2
    · exact sameI_iff.1 h2
theorem proper_use {v : View} {r : Int} (h : properB v r = true) : usableB r = true ∧ inB v.mem (ownerOf r) = true := by
  simp only [properB, Bool.and_eq_true] at h
  exact h
theorem use_pos {r : Int} (h : usableB r = true) : 1024 < r := owner_low (by simpa [usableB] using h)
structure AW (s : Agr) : Prop where
  v : viewB s.view = true
  self : inB s.view.mem s.self = true
  w0 : 0 ≤ s.wait
  w1 : s.wait ≤ 1099511627776
  acc : accB s.acc = true
  pro : s.acc.pro ≠ 0 → properB s.view s.acc.pro = true
  rk : 0 < s.acc.rank → properB s.view s.acc.rank = true
  acut : goodB s.view s.acc.cut = true
  prop : goodB s.view s.prop = true
  cho : goodB s.view s.cho = true
  dec : goodB s.view s.dec = true
  box : boxB s.view s.box = true
  own : (cutOf s.box s.self).2 = true → (cutOf s.box s.self).1 = s.prop
  reps : repsB s.view s.reps = true
  rpr : ∀ r ∈ s.reps, 0 < r.rank → properB s.view r.rank = true
  accs : repsB s.view s.accs = true
  apr : ∀ r ∈ s.accs, 1 ≤ r.rank ∧ properB s.view r.rank = true
  rank : s.rank ≠ 0 → properB s.view s.rank = true ∧ ownerOf s.rank = s.self
  ph : (s.phase = 0 ∧ s.reps = [] ∧ s.cho = []) ∨ (s.phase = 1 ∧ s.cho = [] ∨ s.phase = 2 ∧ s.cho ≠ []) ∧ s.rank ≠ 0 ∧ s.prop ≠ [] ∧ 0 ≤ ofB s.reps s.self
def few (s : Agr) : Prop := s.phase = 1 → (s.reps.length : Int) < majB s.view.mem.length
theorem all_get {l : List Rpt} {p : Nat → Bool} {q : Rpt → Prop} (h : ∀ i (hi : i < l.length), p i = true → q l[i]) (ha : allB p l.length = true) : ∀ r ∈ l, q r := fun r hr => by
  obtain ⟨i, hi, rfl⟩ := List.getElem_of_mem hr
  exact h i hi (allB_true.1 ha i hi)
theorem all_mk {l : List Rpt} {p : Nat → Bool} {q : Rpt → Prop} (h : ∀ i (hi : i < l.length), q l[i] → p i = true) (ha : ∀ r ∈ l, q r) : allB p l.length = true :=
  allB_true.2 fun i hi => h i hi (ha _ (List.getElem_mem hi))
theorem rk_get {v : View} {l : List Rpt} : allB (rkP v l) l.length = true ↔ ∀ r ∈ l, 0 < r.rank → properB v r.rank = true := by
  constructor
  · refine all_get fun i hi h h0 => ?_
    have hg : l.getD i rpt0 = l[i] := by simp [hi]
    rw [rkP, hg, decide_eq_true h0] at h
    simpa using h
  · refine all_mk fun i hi h => ?_
    have hg : l.getD i rpt0 = l[i] := by simp [hi]
    rw [rkP, hg]
    by_cases h0 : 0 < l[i].rank
    · rw [h h0]; simp
    · rw [decide_eq_false h0]; rfl
theorem le_get {m : Int} {l : List Rpt} : allB (leP m l) l.length = true ↔ ∀ r ∈ l, m ≤ r.rank := by
  constructor
  · refine all_get fun i hi h => ?_
    have hg : l.getD i rpt0 = l[i] := by simp [hi]
    rw [leP, hg] at h
    simp at h
    exact h
  · refine all_mk fun i hi h => ?_
    have hg : l.getD i rpt0 = l[i] := by simp [hi]
    rw [leP, hg]
    simp
    exact h
theorem len0 {α : Type} {l : List α} : decide ((l.length : Int) = 0) = true ↔ l = [] := by
  rw [decide_eq_true_eq]
  constructor
  · intro h
    exact List.length_eq_zero_iff.1 (by omega)
  · rintro rfl
    rfl
theorem len1 {α : Type} {l : List α} : decide (0 < (l.length : Int)) = true ↔ l ≠ [] := by
  rw [decide_eq_true_eq]
  constructor
  · rintro h rfl
    simp at h
  · intro h
    have : l.length ≠ 0 := fun e => h (List.length_eq_zero_iff.1 e)
    omega
theorem len1f {α : Type} {l : List α} : decide (0 < (l.length : Int)) = false ↔ l = [] := by
  cases h : decide (0 < (l.length : Int))
  · simp only [true_iff]
    by_cases e : l = []
    · exact e
    · rw [len1.2 e] at h
      cases h
  · have := len1.1 h
    simp [this]
theorem phase_iff (s : Agr) : phaseB s = true ↔ ((s.rank ≠ 0 → properB s.view s.rank = true ∧ ownerOf s.rank = s.self) ∧ ((s.phase = 0 ∧ s.reps = [] ∧ s.cho = []) ∨ (s.phase = 1 ∧ s.cho = [] ∨ s.phase = 2 ∧ s.cho ≠ []) ∧ s.rank ≠ 0 ∧ s.prop ≠ [] ∧ 0 ≤ ofB s.reps s.self) ∧ few s) := by
  unfold phaseB few
  have e1 := @len0 _ s.reps
  have e2 := @len1 _ s.cho
  have e3 := @len1 _ s.prop
  have e4 := @len1f _ s.cho
  generalize decide ((s.reps.length : Int) = 0) = a2 at *
  generalize decide (0 < (s.cho.length : Int)) = a3 at *
  generalize decide (0 < (s.prop.length : Int)) = a6 at *
  by_cases h0 : s.rank = 0
  · by_cases p0 : s.phase = 0
    · cases a2 <;> cases a3 <;> simp_all
    · cases a3 <;> by_cases p1 : s.phase = 1 <;> by_cases p2 : s.phase = 2 <;> simp_all
  · cases hb : (!properB s.view s.rank || !decide (ownerOf s.rank = s.self))
    · have hb' : properB s.view s.rank = true ∧ ownerOf s.rank = s.self := by
        simp only [Bool.or_eq_false_iff, Bool.not_eq_false', decide_eq_true_eq] at hb
        exact hb
      rw [decide_eq_false h0]
      simp only [Bool.not_false, Bool.true_and, cond_false, hb', ne_eq, h0, not_false_eq_true, true_and, forall_const]
      by_cases p0 : s.phase = 0
      · cases a2 <;> cases a3 <;> simp_all
      · by_cases p1 : s.phase = 1
        · cases a3 <;> cases a6 <;> by_cases h9 : 0 ≤ ofB s.reps s.self <;> simp_all
        · by_cases p2 : s.phase = 2
          · cases a3 <;> cases a6 <;> by_cases h9 : 0 ≤ ofB s.reps s.self <;> simp_all
          · cases a3 <;> simp_all
    · rw [decide_eq_false h0]
      simp only [Bool.not_false, Bool.true_and, cond_true, Bool.false_eq_true, ne_eq, h0, not_false_eq_true, forall_const, false_iff]
      intro ⟨h1, _⟩
      rw [h1.1, decide_eq_true h1.2] at hb
      cases hb
theorem agr_iff (s : Agr) : agrB s = true ↔ AW s ∧ few s := by
  constructor
  · intro h
    obtain ⟨v, self, w0, w1⟩ := agr_view h
    obtain ⟨g1, g2, g3, g4⟩ := agr_good h
    obtain ⟨r1, r2, r3, r4⟩ := agr_reps h
    obtain ⟨p1, p2, p3⟩ := (phase_iff s).1 r3
    have hl := le_get.1 (allB_true.2 r4)
    unfold agrB at h
    cases h1 : !viewB s.view || !inB s.view.mem s.self || decide (s.wait < 0) || decide (1099511627776 < s.wait)
    · rw [h1, cond_false] at h
      cases h2 : (!accB s.acc || !decide (s.acc.pro = 0) && !properB s.view s.acc.pro || decide (0 < s.acc.rank) && !properB s.view s.acc.rank || !goodB s.view s.acc.cut)
      · rw [h2, cond_false] at h
        simp only [Bool.or_eq_false_iff, Bool.and_eq_false_iff, Bool.not_eq_false', decide_eq_true_eq, decide_eq_false_iff_not] at h2
        cases h3 : !goodB s.view s.prop || !goodB s.view s.cho || !goodB s.view s.dec || !boxB s.view s.box
        · rw [h3, cond_false] at h
          cases h4 : (cutOf s.box s.self).2 && !sameI (cutOf s.box s.self).1 s.prop
          · rw [h4, cond_false] at h
            simp only [Bool.and_eq_true, prB] at h
            refine ⟨⟨v, self, w0, w1, h2.1.1.1, fun e => h2.1.1.2.resolve_left e, fun e => h2.1.2.resolve_left (fun h => h e), h2.2, g1, g2, g3, g4, fun e => ?_, r1, rk_get.1 h.2.1.1.1, r2, fun r hr => ⟨hl r hr, rk_get.1 h.2.1.2.1 r hr (by have := hl r hr; omega)⟩, p1, p2⟩, p3⟩
            rw [e, Bool.true_and] at h4
            exact sameI_iff.1 (by simpa using h4)
          · rw [h4] at h
            cases h
        · rw [h3] at h
          cases h
      · rw [h2] at h
        cases h
    · rw [h1] at h
      cases h
  · rintro ⟨h, hf⟩
    have h1 : (!viewB s.view || !inB s.view.mem s.self || decide (s.wait < 0) || decide (1099511627776 < s.wait)) = false := by
      have := h.w0
      have := h.w1
      rw [h.v, h.self, decide_eq_false (by omega), decide_eq_false (by omega)]
      rfl
    have h2 : (!accB s.acc || !decide (s.acc.pro = 0) && !properB s.view s.acc.pro || decide (0 < s.acc.rank) && !properB s.view s.acc.rank || !goodB s.view s.acc.cut) = false := by
      rw [h.acc, h.acut]
      simp only [Bool.or_eq_false_iff, Bool.and_eq_false_iff, Bool.not_eq_false', decide_eq_true_eq, decide_eq_false_iff_not]
      refine ⟨⟨⟨by simp, ?_⟩, ?_⟩, by simp⟩
      · by_cases e : s.acc.pro = 0
        · exact .inl e
        · exact .inr (h.pro e)
      · by_cases e : 0 < s.acc.rank
        · exact .inr (h.rk e)
        · exact .inl e
    have h3 : (!goodB s.view s.prop || !goodB s.view s.cho || !goodB s.view s.dec || !boxB s.view s.box) = false := by
      rw [h.prop, h.cho, h.dec, h.box]
      rfl
    have h4 : ((cutOf s.box s.self).2 && !sameI (cutOf s.box s.self).1 s.prop) = false := by
      cases e : (cutOf s.box s.self).2
      · rfl
      · rw [h.own e, sameI_iff.2 rfl]
        rfl
    unfold agrB
    rw [h1, h2, h3, h4]
    simp only [cond_false, Bool.and_eq_true, prB]
    exact ⟨le_get.2 fun r hr => (h.apr r hr).1, ⟨⟨rk_get.2 h.rpr, h.reps⟩, rk_get.2 fun r hr _ => (h.apr r hr).2, h.accs⟩, (phase_iff s).2 ⟨h.rank, h.ph, hf⟩⟩
end Go.Proofs.YtmbniilpgbjcfaaGreat
