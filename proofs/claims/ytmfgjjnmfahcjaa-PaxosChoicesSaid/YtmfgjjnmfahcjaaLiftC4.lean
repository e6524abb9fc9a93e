/- A data-level logic for the model: what a body does to data; its soundness (part LiftC4). No conditions. -/
import Derived.Test.YtmfgjjnmfahcjaaLiftC3
set_option linter.unusedSimpArgs false
set_option linter.unusedVariables false
namespace Go.Lift
open Go
section
variable {P : Program} {tt : TT} {A : Nat → Prop} {os : Objs} {B : Home} {w : World} {a : Act} {o : Oper} {ρ : Operand → DV}

theorem takeK_intro : ∀ {n : Nat} {l : List DV} {Q : List DV → Prop}, n ≤ l.length → Q (l.take n) → takeK n l Q
  | 0, l, Q, _, hq => by simpa [takeK] using hq
  | n + 1, [], Q, hn, _ => by simp at hn
  | n + 1, d :: r, Q, hn, hq => frc_iff.2 (takeK_intro (l := r) (by simpa using hn) (by simpa using hq))

/-- the cells that a list's element has -/
theorem lst_elem {x : Value} {sz : Nat} {es : List (List DV)} {f : Bool} {k : Nat} {ed : List DV} (h : Imm A w x (.lst sz es f)) (hk : es[k]? = some ed) :
    ∃ ad n c, x = .slice (some ad) n c ∧ n = es.length ∧ k < n ∧ ed.length = sz ∧ ¬ A ad.block ∧ ad.block < w.heap.size ∧ ∀ (j : Nat) d, ed[j]? = some d → ∃ v, w.cell? (ad.add (k * sz + j)) = some v ∧ v.oneCell' = true ∧ Imm A w v d := by
  cases h with
  | lst xs hn hc hm hf hsz hA hb hone hcell hx =>
    have hlt := (List.getElem?_eq_some_iff.1 hk).1
    exact ⟨_, _, _, rfl, hn.symm, by omega, hsz ed (List.mem_of_getElem? hk), hA (fun e0 => by rw [e0] at hk; simp at hk), hb (fun e0 => by rw [e0] at hk; simp at hk), fun j d hd => ⟨_, hcell k j ed d hk hd, hone k j, hx k j ed d hk hd⟩⟩
  | nil => simp at hk

theorem Imm.v_inv {A : Nat → Prop} {w : World} {x y : Value} (h : Imm A w x (.v y)) : x = y := by
  cases h; rfl
theorem foldl_push : ∀ (l : List UInt8) (s : ByteArray), (l.map (fun b => (b.toNat : Int))).foldl (fun r n => r.push (UInt8.ofNat n.toNat)) s = ⟨(s.data.toList ++ l).toArray⟩
  | [], s => by obtain ⟨⟨l⟩⟩ := s; simp
  | b :: r, s => by
    simp only [List.map_cons, List.foldl_cons, Int.toNat_natCast]
    rw [foldl_push r]
    have : UInt8.ofNat b.toNat = b := by simp
    rw [this]
    obtain ⟨⟨l⟩⟩ := s
    simp [ByteArray.push]
theorem convert_ok (hT : tabOk P tt = true) {src dst : TypeId} {x : Operand} {K : Option Prop → DV → Prop} (ho : o.op = .convert src dst x) (hx : Has A os w a ρ x) (h : dConvert tt (tinfo tt src).k (tinfo tt dst).k (ρ x) K) : GivesSome P A os w a o K := by
  unfold dConvert at h
  split at h
  · rename_i ks k k' n e1 e2 e3
    refine ⟨_, _, h, fun _ => ⟨_, ?_, .imm (.v rfl)⟩⟩
    simp only [execOp, ho, hx.v e3, convert, Sem.run_bind, run_underlying (tab_int hT e1), run_underlying (tab_int hT e2), Result.andThen_ok, Conv.intToInt, Sem.run_pure]
  · rename_i s e1 e2 e3
    refine ⟨_, _, h, fun _ => ⟨_, ?_, .imm (.v rfl)⟩⟩
    simp only [execOp, ho, hx.v e3, convert, Sem.run_bind, run_underlying (tab_str hT e1), run_underlying (tab_str hT e2), Result.andThen_ok, Sem.run_pure]
  · rename_i e sz es f e1 e2 e3
    split at h
    · rename_i h8 h1
      obtain ⟨bs, hK⟩ := h
      have h1 := Nat.eq_of_beq_eq_true h1
      subst h1
      refine ⟨_, _, hK, fun hc => ⟨_, ?_, .imm (.v rfl)⟩⟩
      have hc := Holds.some_iff.1 hc
      unfold Has at hx
      rw [e3] at hx
      have hi := hx.lst_inv
      have hrun : (Conv.bytesToString (a.eval x)).run P w = .ok (.string ⟨bs.toArray⟩) w := by
        generalize a.eval x = y at hi
        cases hi with
        | nil =>
          have : bs = [] := by cases bs <;> simp at hc ⊢
          subst this
          simp [Conv.bytesToString]
          rfl
        | @lst ad n c _ _ _ xs hn hc' hm hf hsz hA hb hone hcell hxx =>
          have hl : bs.length = n := by rw [← hn, hc]; simp
          have hbytes : ∀ j v, (bs.map (fun b : UInt8 => Value.int .u8 b.toNat))[j]? = some v → w.cell? (ad.add j) = some v := by
            intro j v hv
            rw [List.getElem?_map] at hv
            cases hb : bs[j]? with
            | none => rw [hb] at hv; simp at hv
            | some b =>
              rw [hb] at hv
              simp at hv
              subst hv
              have he : es[j]? = some (byteE b) := by rw [hc]; simp [hb]
              have h1 := hcell j 0 _ _ he rfl
              have h2 := hxx j 0 _ _ he rfl
              rw [Nat.mul_one, Nat.add_zero] at h1
              rw [h1, h2.v_inv]
          have hload := run_loadCells_list (P := P) w ad _ hbytes
          rw [List.length_map, hl] at hload
          have := run_bytesToString (P := P) w ad n c (bs.map (fun b : UInt8 => (b.toNat : Int))) (by rw [List.map_map]; exact hload)
          rw [this, foldl_push]
          simp
      have : (convert src dst (a.eval x)).run P w = .ok (.string ⟨bs.toArray⟩) w := by
        generalize a.eval x = y at hi hrun
        cases hi with
        | nil => rw [run_convert_bytes_string w src dst e _ _ _ (tab_slc hT e1) (tab_int hT h8) (tab_str hT e2)]; exact hrun
        | lst => rw [run_convert_bytes_string w src dst e _ _ _ (tab_slc hT e1) (tab_int hT h8) (tab_str hT e2)]; exact hrun
      simp only [execOp, ho, Sem.run_bind, this, Result.andThen_ok, Sem.run_pure]
    · exact h.elim
  · exact h.elim

theorem field_lt (hT : tabOk P tt = true) {t : TypeId} {f : Nat} {fs : List (TypeId × Nat)} (hk : (tinfo tt t).k = .st fs) (hs : (tinfo tt (fieldOf fs f).1).size ≠ 0) (h0 : (tinfo tt 0).size = 0) :
    ∃ (F : Array Field) (fd : Field), P.underlying t = some (.struct F) ∧ F[f]? = some fd ∧ fd.type = (fieldOf fs f).1 ∧ fd.offset = (fieldOf fs f).2 := by
  obtain ⟨F, hu, hF, _⟩ := tab_st hT hk
  have hf : f < fs.length := by
    rcases Nat.lt_or_ge f fs.length with h | h
    · exact h
    · rw [fieldOf_far h] at hs
      exact absurd h0 hs
  obtain ⟨fd, h1, h2, h3, _⟩ := fsOk_field hF (.inr hf) hf
  exact ⟨F, fd, hu, by simpa using h1, h2, h3⟩
theorem fieldAddr_ok (hT : tabOk P tt = true) (h0 : (tinfo tt 0).size = 0) {t : TypeId} {f : Nat} {x : Operand} {K : Option Prop → DV → Prop} (ho : o.op = .fieldAddr t x f) (hx : Has A os w a ρ x) (h : dFieldAddr tt (os.map (·.2)) t f (ρ x) K) : GivesSome P A os w a o K := by
  unfold Has at hx
  unfold dFieldAddr at h
  split at h
  · rename_i fs hk
    split at h
    · exact h.elim
    · rename_i hs
      obtain ⟨F, fd, hu, hF, ht, hof⟩ := field_lt hT hk hs h0
      have run : ∀ ad : Addr, a.eval x = .pointer (some ad) → (execOp a.eval o).run P w = .ok (.value (.pointer (some (ad.add (fieldOf fs f).2)))) w := by
        intro ad he
        have hne : ¬ ((tinfo tt (fieldOf fs f).1).size = 0) := hs
        simp only [execOp, ho, he, Instr.fieldAt, Sem.run_bind, run_underlying hu, Result.andThen_ok, hF, Instr.sureAddr, Sem.run_pure, fieldPlace, ht, run_sizeOf_tab hT hs, if_neg hne, hof]
      split at h
      · rename_i i off e
        rw [e] at hx
        obtain ⟨g, t', cs, hi, he⟩ := hx.lp_inv
        refine ⟨_, _, h, fun _ => ⟨_, run _ he, ?_⟩⟩
        rw [Addr.add_mk]
        exact .lp hi
      · rename_i i off e
        rw [e] at hx
        obtain ⟨g, t', cs, hi, he⟩ := hx.ap_inv
        refine ⟨_, _, h, fun _ => ⟨_, run _ he, ?_⟩⟩
        rw [Addr.add_mk]
        exact .ap hi
      · rename_i i k off e
        rw [e] at hx
        split at h
        · rename_i hr
          obtain ⟨_, _, _, _, hi⟩ := isRow_os hr
          obtain ⟨g, n, c, rfl, he⟩ := hx.rp_row hi
          refine ⟨_, _, h, fun _ => ⟨_, run _ he, ?_⟩⟩
          rw [Addr.add_mk, Nat.add_assoc]
          exact .rp hi
        · exact h.elim
      · rename_i cs e
        rw [e] at hx
        obtain ⟨ad, he, hA, hb, hc⟩ := ip_cells hx
        obtain ⟨_, h⟩ := dropK_elim h
        refine ⟨_, _, h, fun _ => ⟨_, run _ he, .imm (ip_mk (by rwa [Addr.block_add]) (by rwa [Addr.block_add]) (fun j d hd => ?_))⟩⟩
        rw [List.getElem?_drop] at hd
        rw [Addr.add_add]
        exact hc _ d hd
      · exact h.elim
  · exact h.elim

theorem shape_rep {t : TypeId} {vs : List Value} {ds : List DV} {off : Nat} {K : DV → Prop} (hl : vs.length = ds.length) (hone : ∀ v ∈ vs, v.oneCell' = true) (hp : ∀ (i : Nat) v d, vs[i]? = some v → ds[i]? = some d → RepV A os w v d)
    (h : dTake (tinfo tt t).agg (tinfo tt t).size (ds.drop off) K) (h1 : (tinfo tt t).agg = false → (tinfo tt t).size = 1) (hz : (tinfo tt t).size ≠ 0) : ∃ d, K d ∧ off + (tinfo tt t).size ≤ vs.length ∧ RepV A os w (shapeV (tinfo tt t).agg ((vs.drop off).take (tinfo tt t).size)) d := by
  unfold dTake at h
  split at h
  · rename_i hag
    obtain ⟨hle, h⟩ := takeK_elim h
    rw [List.length_drop] at hle
    refine ⟨_, h, by omega, ?_⟩
    rw [hag]
    refine .agg (by simp [hl]) (fun v hv => hone v (List.mem_of_mem_drop (List.mem_of_mem_take hv))) (fun i v d hv hd => ?_)
    rw [List.getElem?_take] at hv hd
    split at hv
    · rename_i hi
      rw [if_pos hi] at hd
      rw [List.getElem?_drop] at hv hd
      exact hp _ v d hv hd
    · cases hv
  · rename_i hag
    split at h
    · rename_i d r hdr
      have h := frc_iff.1 h
      have h1 := h1 hag
      have hd : ds[off]? = some d := by
        have : (ds.drop off)[0]? = some d := by rw [hdr]; rfl
        rwa [List.getElem?_drop, Nat.add_zero] at this
      have hlt := (List.getElem?_eq_some_iff.1 hd).1
      refine ⟨_, h, by omega, ?_⟩
      rw [hag, h1]
      have hv : off < vs.length := by omega
      rw [List.drop_eq_getElem_cons hv]
      exact hp off _ d (List.getElem?_eq_getElem hv) hd
    · exact h.elim

theorem field_ok (hT : tabOk P tt = true) (h0 : (tinfo tt 0).size = 0) {t : TypeId} {f : Nat} {x : Operand} {K : Option Prop → DV → Prop} (ho : o.op = .field t x f) (hx : Has A os w a ρ x) (h : dField tt t f (ρ x) K) : GivesSome P A os w a o K := by
  unfold Has at hx
  unfold dField at h
  split at h
  · rename_i fs hk
    split at h
    · exact h.elim
    · rename_i hs
      obtain ⟨F, fd, hu, hF, ht, hof⟩ := field_lt hT hk hs h0
      split at h
      · rename_i cs e
        rw [e] at hx
        obtain ⟨vs, he, hl, hone, hp⟩ := hx.agg_inv
        obtain ⟨_, h⟩ := dropK_elim h
        have hone' := (tab_entry hT (t := (fieldOf fs f).1) (.inl hs)).one
        obtain ⟨d, hK, hle, hr⟩ := shape_rep hl hone hp h hone' hs
        refine ⟨_, _, hK, fun _ => ⟨_, ?_, hr⟩⟩
        have := run_part_tab (w := w) hT hs vs (fieldOf fs f).2 hle hone'
        simp only [execOp, ho, he, Instr.field, Sem.run_bind, run_underlying hu, Result.andThen_ok, hF, asAgg, Sem.run_pure, ht, hof, this]
      · exact h.elim
  · exact h.elim

theorem natLit_eq {i : Operand} {m : Nat} (h : natLit i = some m) : ∃ k, a.eval i = .int k m := by
  unfold natLit at h
  split at h
  · cases h; exact ⟨_, rfl⟩
  · cases h
theorem indexAddr_ok (hT : tabOk P tt = true) (hO : ObjsOk A os B w) {t : TypeId} {x i : Operand} {K : Option Prop → DV → Prop} (ho : o.op = .indexAddr t x i) (hx : Has A os w a ρ x) (hi : Has A os w a ρ i) (h : dIndexAddr tt (os.map (·.2)) t i (ρ x) (ρ i) K) : GivesSome P A os w a o K := by
  unfold dIndexAddr at h
  split at h
  · rename_i e ik ix hk ei
    have hi := hi.v ei
    have hu := tab_slc hT hk
    unfold Has at hx
    split at h
    · exact h.elim
    · rename_i hs
      have run : ∀ (ad : Addr) (n c k : Nat), a.eval x = .slice (some ad) n c → ix = k → k < n → (execOp a.eval o).run P w = .ok (.value (.pointer (some (ad.add (k * (tinfo tt e).size))))) w := by
        intro ad n c k he hik hkn
        subst hik
        have hb : (0 : Int) ≤ k ∧ (k : Int) < n := by omega
        simp only [execOp, ho, he, hi, Instr.indexAt, asIntOf, Sem.run_bind, Sem.run_pure, Result.andThen_ok, run_underlying hu, if_pos hb, run_sizeOf_tab hT hs, Int.toNat_natCast]
      unfold dIndexSlc at h
      split at h
      · rename_i sz es f ex
        split at h
        · rename_i hz
          have hz := Nat.eq_of_beq_eq_true hz
          obtain ⟨k, ed, hK⟩ := h
          refine ⟨_, _, hK, fun hc => ?_⟩
          obtain ⟨hik, hke⟩ := Holds.some_iff.1 hc
          rw [ex] at hx
          obtain ⟨ad, n, c, he, _, hkn, _, hA, hb, hcell⟩ := lst_elem hx.lst_inv hke
          refine ⟨_, run ad n c k he hik hkn, .imm (ip_mk (by rwa [Addr.block_add]) (by rwa [Addr.block_add]) (fun j d hd => ?_))⟩
          rw [Addr.add_add, ← hz]
          exact hcell j d hd
        · exact h.elim
      · rename_i j ex
        split at h
        · rename_i e2 sz es hl
          split at h
          · rename_i hz
            have hz := Nat.eq_of_beq_eq_true hz
            obtain ⟨k, hK⟩ := h
            refine ⟨_, _, hK, fun hc => ?_⟩
            obtain ⟨hik, hke⟩ := Holds.some_iff.1 hc
            rw [ex] at hx
            obtain ⟨x', ho'⟩ := lget_os hl (by simp)
            have hxe := hx.own_row ho'
            subst hxe
            obtain ⟨_, xs, hown, _⟩ := hO _ _ _ ho'
            rcases hown.2 with ⟨_, hn⟩ | ⟨g, cap, cur, hv, _⟩
            · omega
            · rw [hv] at ho'
              refine ⟨_, run ⟨g, 0, none⟩ es.length cap k hv hik hke, ?_⟩
              rw [Addr.add_mk, ← hz]
              have := RepV.rp (A := A) (w := w) (k := k) (off := 0) ho'
              simpa using this
          · exact h.elim
        · exact h.elim
      · exact h.elim
  · rename_i n e ik ix hk ei
    have hi' := hi
    have hi := hi.v ei
    have hu := tab_arr hT hk
    unfold Has at hx
    split at h
    · exact h.elim
    · rename_i hs
      have run : ∀ (ad : Addr) (k : Nat), a.eval x = .pointer (some ad) → ix = k → k < n → (execOp a.eval o).run P w = .ok (.value (.pointer (some (ad.add (k * (tinfo tt e).size))))) w := by
        intro ad k he hik hkn
        subst hik
        have hb : (0 : Int) ≤ k ∧ (k : Int) < n := by omega
        simp only [execOp, ho, he, hi, Instr.indexAt, asIntOf, Sem.run_bind, Sem.run_pure, Result.andThen_ok, run_underlying hu, Instr.sureAddr, if_pos hb, run_sizeOf_tab hT hs, Int.toNat_natCast]
      unfold dIndexArr at h
      split at h
      · rename_i m hm
        obtain ⟨k', hk'⟩ := natLit_eq (a := a) hm
        rw [hi] at hk'
        have hix : ix = m := by injection hk'
        split at h
        · rename_i j off ex
          rw [ex] at hx
          obtain ⟨g, t', cs, hos, he⟩ := hx.lp_inv
          refine ⟨_, _, h, fun hc => ⟨_, run _ m he hix (Holds.some_iff.1 hc), ?_⟩⟩
          rw [Addr.add_mk]
          exact .lp hos
        · rename_i j off ex
          rw [ex] at hx
          obtain ⟨g, t', cs, hos, he⟩ := hx.ap_inv
          refine ⟨_, _, h, fun hc => ⟨_, run _ m he hix (Holds.some_iff.1 hc), ?_⟩⟩
          rw [Addr.add_mk]
          exact .ap hos
        · exact h.elim
      · split at h
        · rename_i j off ex
          rw [ex] at hx
          obtain ⟨g, t', cs, hos, he⟩ := hx.lp_inv
          obtain ⟨k, h⟩ := h
          refine ⟨_, _, h, fun hc => ⟨_, run _ k he (Holds.some_iff.1 hc).1 (Holds.some_iff.1 hc).2, ?_⟩⟩
          rw [Addr.add_mk]
          exact .ap hos
        · rename_i j off ex
          rw [ex] at hx
          obtain ⟨g, t', cs, hos, he⟩ := hx.ap_inv
          obtain ⟨k, h⟩ := h
          refine ⟨_, _, h, fun hc => ⟨_, run _ k he (Holds.some_iff.1 hc).1 (Holds.some_iff.1 hc).2, ?_⟩⟩
          rw [Addr.add_mk]
          exact .ap hos
        · exact h.elim
  · exact h.elim

theorem index_ok (hT : tabOk P tt = true) {t : TypeId} {x i : Operand} {K : Option Prop → DV → Prop} (ho : o.op = .index t x i) (hx : Has A os w a ρ x) (hi : Has A os w a ρ i) (h : dIndex tt t (ρ x) (ρ i) K) : GivesSome P A os w a o K := by
  unfold dIndex at h
  split at h
  · rename_i ik ix ei
    have hi := hi.v ei
    split at h
    · rename_i s hk ex
      have hx := hx.v ex
      obtain ⟨k, hK⟩ := h
      refine ⟨_, _, hK, fun hc => ⟨_, ?_, .imm (.v rfl)⟩⟩
      obtain ⟨rfl, hlt⟩ := Holds.some_iff.1 hc
      have h1 : s[k]? = some s[k] := ByteArray.getElem?_lt' s k hlt
      have h2 : s.data.getD k 0 = s[k] := by
        have : k < s.data.size := hlt
        simp only [Array.getD, dif_pos this]
        rfl
      simp only [execOp, ho, hx, hi, Instr.index, asIntOf, Sem.run_bind, Sem.run_pure, Result.andThen_ok, run_underlying (tab_str hT hk), Int.natCast_nonneg, if_true, Int.toNat_natCast, h1, h2]
    · rename_i n e cs hk ex
      split at h
      · rename_i hag hsz
        have hsz := Nat.eq_of_beq_eq_true hsz
        obtain ⟨k, d, h⟩ := h
        have hK := frc_iff.1 h
        refine ⟨_, _, hK, fun hc => ?_⟩
        obtain ⟨rfl, hlt, hd⟩ := Holds.some_iff.1 hc
        unfold Has at hx
        rw [ex] at hx
        obtain ⟨vs, he, hl, hone, hp⟩ := hx.agg_inv
        have hkl := (List.getElem?_eq_some_iff.1 hd).1
        have hkv : k < vs.length := by omega
        refine ⟨vs[k], ?_, hp k _ d (List.getElem?_eq_getElem hkv) hd⟩
        have hb : (0 : Int) ≤ k ∧ (k : Int) < n := by omega
        have hp := run_part_tab (P := P) (w := w) hT (t := e) (by omega) vs k (by omega) (fun _ => hsz)
        rw [hag, hsz] at hp
        rw [List.drop_eq_getElem_cons hkv] at hp
        simp only [execOp, ho, he, hi, Instr.index, asIntOf, Sem.run_bind, Sem.run_pure, Result.andThen_ok, run_underlying (tab_arr hT hk), if_pos hb, run_sizeOf_tab hT (t := e) (by omega), hsz, Int.toNat_natCast, Nat.mul_one, hp]
        rfl
      · exact h.elim
    · exact h.elim
  · exact h.elim

theorem extract_ok {x : Operand} {n : Nat} {K : Option Prop → DV → Prop} (ho : o.op = .extract x n) (hx : Has A os w a ρ x) (h : dExtract n (ρ x) K) : GivesSome P A os w a o K := by
  unfold Has at hx
  unfold dExtract at h
  split at h
  · rename_i ds e
    rw [e] at hx
    have hi := hx.tup_inv
    obtain ⟨_, h⟩ := dropK_elim h
    split at h
    · rename_i d r hdr
      have hK := frc_iff.1 h
      refine ⟨_, _, hK, fun _ => ?_⟩
      generalize he : a.eval x = y at hi
      cases hi with
      | @tup vs _ hl hp =>
        have hd : ds[n]? = some d := by
          have : (ds.drop n)[0]? = some d := by rw [hdr]; rfl
          rwa [List.getElem?_drop, Nat.add_zero] at this
        have hlt := (List.getElem?_eq_some_iff.1 hd).1
        have hv : n < vs.length := by omega
        refine ⟨vs[n], ?_, .imm (hp n _ d (List.getElem?_eq_getElem hv) hd)⟩
        simp [execOp, ho, he, Instr.extract, hv]
    · exact h.elim
  · exact h.elim
end
end Go.Lift
