/- A data-level logic for the model: what a body does to data; its soundness (part LfE). No conditions. -/
import Derived.Test.YtdcfooeoaoahjaaGreatLfD
import Derived.Shelf.Sort.Plain
import Derived.Shelf.Slices.In.SortNone
import Derived.Shelf.Slices.CompactI
set_option linter.unusedSimpArgs false
set_option linter.unusedVariables false
namespace Go.Lift
open Go Go.Proofs
open Go.Sort (grow putRow putCells mapBlock HoldsK PermIn SortedIn SWO)
def capOk : DV → Bool
  | .ip _ | .v _ => true
  | _ => false
theorem capOk_imm {A : Nat → Prop} {os : Objs} {w : World} {x : Value} {d : DV} (h : RepV A os w x d) (hc : capOk d = true) : Imm A w x d := by
  cases d <;> simp [capOk] at hc
  · obtain ⟨rfl, h1⟩ := h.v_inv
    exact .v h1
  · exact h.ip_inv
theorem immAll_of {A : Nat → Prop} {w : World} : ∀ {vs : List Value} {ds : List DV}, vs.length = ds.length → (∀ (i : Nat) v d, vs[i]? = some v → ds[i]? = some d → Imm A w v d) → ImmAll A w vs ds
  | [], [], _, _ => trivial
  | [], _ :: _, h, _ => by simp at h
  | _ :: _, [], h, _ => by simp at h
  | v :: vs, d :: ds, hl, h => ⟨h 0 v d rfl rfl, immAll_of (by simpa using hl) (fun i v d hv hd => h (i + 1) v d hv hd)⟩
theorem sort_retM {P : Program} {f g : FuncId} {e : TypeId} {sz : Nat} {agg : Bool} (hf : ∀ (vs : Array Value) (w : World), (callFunc f vs).run P w = .ok (.enter f vs) w) (hS : SortC P f g sz agg)
    (hN : ∀ (p : Option Addr) (cap : Nat) (fv : Value) (w : World), Calls P f #[.slice p 0 cap, fv] w fun e w' => e = .returned (.tuple #[]) ∧ w' = w)
    {β : Type} (F : β → List DV) (l l' : List β) (cf : β → β → Int) (hO : SWO (ltOf cf)) (hanti : ∀ x ∈ l, ∀ y ∈ l, ltOf cf x y = false → ltOf cf y x = false → x = y)
    (hp : l'.Perm l) (hs : l'.Pairwise fun x y => ltOf cf y x = false) (hlen : l.length < 4611686018427387904) (caps : List DV) (hcaps : ∀ d ∈ caps, capOk d = true) (hagg : agg = false → sz = 1)
    (hcmp : ∀ x ∈ l, ∀ y ∈ l, Ret P g ([argD agg (F x), argD agg (F y)] ++ caps) (.v (.int .i64 (cf x y)))) :
    RetM P f [.row e sz (l.map F)] [.own 0, .fn (.func g) caps] [true] [.row e sz (l'.map F)] (.tup []) := by
  refine ⟨hf, fun A w os vals hA hL hv => ?_⟩
  obtain ⟨x, rfl⟩ : ∃ x, os = [(x, LObj.row e sz (l.map F))] := by
    have := hL.loc
    match os, this with
    | [(x, o)], this => simp at this; subst this; exact ⟨x, rfl⟩
  match vals, hv with
  | [v1, v2], ⟨h1, h2, _⟩ =>
  have e1 : v1 = x := h1.own_row (i := 0) rfl
  subst e1
  obtain ⟨cv, rfl, hcl, hcv⟩ := h2.fn_inv
  obtain ⟨hB, xs, ⟨hxl, hrow⟩, hsz, hrl, hone, hcell⟩ := hL.obj 0 v1 _ rfl
  have hend : ∀ {w' : World}, l = [] → w' = w → ∃ v os', Ending.returned (.tuple #[]) = .returned v ∧ Laid A os' [.row e sz (l'.map F)] w' ∧ RepV (avoid A os') os' w' v (.tup []) ∧ Grown (ofOs [(v1, LObj.row e sz (l.map F))]) w w' ∧ (∀ b, ofOs os' b → ofOs [(v1, LObj.row e sz (l.map F))] b ∨ w.heap.size ≤ b) ∧
      ∀ (i : Nat) x o, ([true] : List Bool)[i]? = some true → ([(v1, LObj.row e sz (l.map F))] : Objs)[i]? = some (x, o) → ∃ o', os'[i]? = some (x, o') := by
    intro w' hl hw
    subst hl hw
    have : l' = [] := hp.eq_nil
    subst this
    exact ⟨_, _, rfl, hL, .imm (.tup (vs := []) (ds := []) rfl (fun i v d h => by simp at h)), ⟨rfl, rfl, rfl, Nat.le_refl _, fun _ _ _ => rfl⟩, fun b h => .inl h, fun i x o h1 h2 => ⟨o, h2⟩⟩
  rw [List.length_map] at hrow hxl
  rcases hrow with ⟨rfl, h0⟩ | ⟨blk, cap, cur, rfl, _, hheap, hnc, hcm, hcs, htk⟩
  · have hl : l = [] := List.length_eq_zero_iff.1 h0
    refine (hN none 0 _ w).mono fun e w' he => ?_
    obtain ⟨rfl, hw⟩ := he
    exact hend hl hw
  by_cases hn0 : l.length = 0
  · have hl : l = [] := List.length_eq_zero_iff.1 hn0
    have hcall : Calls P f #[.slice (some ⟨blk, 0, none⟩) l.length cap, .func (.func g) #[] cv.toArray] w fun e w' => e = .returned (.tuple #[]) ∧ w' = w := by
      rw [hn0]
      exact hN _ _ _ _
    refine hcall.mono fun e w' he => ?_
    obtain ⟨rfl, hw⟩ := he
    exact hend hl hw
  obtain ⟨n, hn⟩ : ∃ n, l.length = n + 1 := ⟨l.length - 1, by omega⟩
  have hget : ∀ i : Fin (n + 1), i.1 < l.length := fun i => by omega
  let enc : Fin (n + 1) → List Value := fun i => (xs.drop (i.1 * sz)).take sz
  let cI : Fin (n + 1) → Fin (n + 1) → Int := fun i j => cf (l[i.1]'(hget i)) (l[j.1]'(hget j))
  have henc : ∀ i, enc i = (xs.drop (i.1 * sz)).take sz := fun i => rfl
  have hcI : ∀ i j, cI i j = cf (l[i.1]'(hget i)) (l[j.1]'(hget j)) := fun i j => rfl
  have hbnd : ∀ i : Fin (n + 1), i.1 * sz + sz ≤ xs.length := fun i => by
    rw [hxl, hn]
    have := Nat.mul_le_mul_right sz (show i.1 + 1 ≤ n + 1 by omega)
    rwa [Nat.add_mul, Nat.one_mul] at this
  have hkl : ∀ i, (enc i).length = sz := fun i => by
    have := hbnd i
    rw [henc, List.length_take, List.length_drop]
    omega
  have hgetE : ∀ (i : Fin (n + 1)) j, j < sz → (enc i)[j]? = xs[i.1 * sz + j]? := fun i j hj => by
    rw [henc, List.getElem?_take, if_pos hj, List.getElem?_drop]
  have hone' : ∀ i, ∀ v ∈ enc i, v.oneCell' = true := fun i v hv => hone v (List.mem_of_mem_drop (List.mem_of_mem_take hv))
  have hOI : SWO (ltOf cI) := ⟨fun x => hO.irrefl _, fun x y z => hO.trans _ _ _, fun x y z => hO.ntrans _ _ _⟩
  let d : Array (Fin (n + 1)) := Array.ofFn fun i => i
  have hdz : d.size = n + 1 := by simp [d]
  have hdg : ∀ t (h : t < n + 1), d[t]! = ⟨t, h⟩ := fun t h => by
    rw [getElem!_pos d t (by rw [hdz]; exact h)]
    simp [d]
  have hflat : Go.Sort.flatK enc sz d = xs.toArray := by
    refine Go.Sort.ext_get! (by rw [Go.Sort.size_flatK, hdz]; simp [hxl, hn]) fun t ht => ?_
    rw [Go.Sort.size_flatK] at ht
    have ht' : t < (n + 1) * sz := by rw [hdz] at ht; exact ht
    rw [Go.Sort.get_flatK _ _ _ _ ht]
    have hq : t / sz < n + 1 := Nat.div_lt_of_lt_mul (by rwa [Nat.mul_comm])
    rw [hdg _ hq]
    have hr : t % sz < sz := Nat.mod_lt _ hsz
    have e2 := hgetE ⟨t / sz, hq⟩ (t % sz) hr
    have e3 : t / sz * sz + t % sz = t := by rw [Nat.mul_comm]; exact Nat.div_add_mod t sz
    simp only [e3] at e2
    have hx : t < xs.length := by rw [hxl, hn]; exact ht'
    rw [List.getElem?_eq_getElem hx] at e2
    obtain ⟨h4, h5⟩ := List.getElem?_eq_some_iff.1 e2
    rw [getElem!_pos _ (t % sz) h4, h5, getElem!_pos xs.toArray t (by simpa using hx)]
    simp
  have hcur : ∀ j, j < xs.length → cur[j]? = xs[j]? := fun j hj => by
    rw [← htk, List.getElem?_take, if_pos (by rw [← hxl]; exact hj)]
    simp
  have hH : HoldsK enc sz w blk 0 d := by
    unfold HoldsK
    rw [hflat]
    intro j hj
    have hj' : j < xs.length := by simpa using hj
    refine ⟨?_, ?_⟩
    · simp only [World.cell?, hheap, Nat.zero_add]
      rw [getElem!_pos _ j hj]
      simp [hcur j hj', hj']
    · simp [World.frozen?, hheap]
  have hblk : blk < w.heap.size := (Array.getElem?_eq_some_iff.1 hheap).1
  have hav : avoid A [(Value.slice (some ⟨blk, 0, none⟩) l.length cap, LObj.row e sz (l.map F))] blk := .inr ⟨0, _, _, rfl, by simp, rfl⟩
  have hWheap : ∀ m dk os b, b ≠ blk → b < w.heap.size → (sortWorldK enc sz w blk 0 m dk os).heap[b]? = w.heap[b]? := fun m dk os b hne hb => by
    unfold sortWorldK Go.Sort.putRowK putRow mapBlock grow Go.Sort.ahead
    simp only
    rw [Array.getElem?_append_left (by simpa using hb), Array.getElem?_modify, if_neg (Ne.symm hne)]
  have hWsize : ∀ m dk os, w.heap.size ≤ (sortWorldK enc sz w blk 0 m dk os).heap.size := fun m dk os => size_sortWorldK_c enc sz w blk 0 m dk os
  have hkeep : ∀ m dk os, Keeps (avoid A [(Value.slice (some ⟨blk, 0, none⟩) l.length cap, LObj.row e sz (l.map F))]) (fun _ => False) w (sortWorldK enc sz w blk 0 m dk os) := fun m dk os =>
    ⟨hWsize m dk os, fun b _ h => h.elim, fun b hb hnA => hWheap m dk os b (fun e => hnA (e ▸ hav)) hb⟩
  have hel : ∀ (i : Fin (n + 1)), (F (l[i.1]'(hget i))).length = sz ∧ ∀ j v dd, (enc i)[j]? = some v → (F (l[i.1]'(hget i)))[j]? = some dd → Imm (avoid A [(Value.slice (some ⟨blk, 0, none⟩) l.length cap, LObj.row e sz (l.map F))]) w v dd := fun i => by
    have hli : (l.map F)[i.1]? = some (F (l[i.1]'(hget i))) := by simp [hget i]
    refine ⟨hrl _ (List.mem_of_getElem? hli), fun j v dd hv hd => ?_⟩
    obtain ⟨u, hu, him⟩ := hcell i.1 j _ dd hli hd
    have hj : j < sz := by
      have := hrl _ (List.mem_of_getElem? hli)
      have := (List.getElem?_eq_some_iff.1 hd).1
      omega
    rw [hgetE i j hj, hu] at hv
    cases hv
    exact him
  have hargs : ∀ m dk os (i : Fin (n + 1)), Imm (fun _ => False) (sortWorldK enc sz w blk 0 m dk os) (argV agg (enc i)) (argD agg (F (l[i.1]'(hget i)))) := fun m dk os i => by
    obtain ⟨hl1, hl2⟩ := hel i
    cases agg with
    | true => exact .agg (by rw [hkl, hl1]) (hone' i) (fun j v dd hv hd => (hl2 j v dd hv hd).keep (hkeep m dk os))
    | false =>
      have h1 := hagg rfl
      have hk1 := hkl i
      rw [h1] at hl1 hk1
      simp only [argV, argD, cond_false]
      obtain ⟨u, hu⟩ := List.length_eq_one_iff.1 hk1
      obtain ⟨dd, hd⟩ := List.length_eq_one_iff.1 hl1
      rw [hu, hd] at hl2 ⊢
      exact (hl2 0 u dd rfl rfl).keep (hkeep m dk os)
  have hg0 : ∀ args w, (callFunc g args).run P w = .ok (.enter g args) w := (hcmp _ (List.getElem_mem (hget ⟨0, by omega⟩)) _ (List.getElem_mem (hget ⟨0, by omega⟩))).1
  have hC : ∀ (m : Nat) (os : Array Obj) (dk : Array (Fin (n + 1))), dk.size = d.size → ∀ x y, Calls P g (#[argV agg (enc x), argV agg (enc y)] ++ cv.toArray) (sortWorldK enc sz w blk 0 m dk os) fun e w' =>
      e = .returned (.int .i64 (cI x y)) ∧ ∃ q os', w' = grow ((sortWorldK enc sz w blk 0 m dk os).drewN q) os' := fun m os dk _ i j => by
    have hr := (hcmp _ (List.getElem_mem (hget i)) _ (List.getElem_mem (hget j))).2 (fun _ => False) (sortWorldK enc sz w blk 0 m dk os) ([argV agg (enc i), argV agg (enc j)] ++ cv) (fun b h => h.elim)
      ⟨hargs m dk os i, hargs m dk os j, immAll_of hcl (fun q v dd hv hd => (capOk_imm (hcv q v dd hv hd) (hcaps dd (List.mem_of_getElem? hd))).keep (hkeep m dk os))⟩
    have hr := calls_drawn hr
    have ea : (#[argV agg (enc i), argV agg (enc j)] ++ cv.toArray) = ([argV agg (enc i), argV agg (enc j)] ++ cv).toArray := by simp
    rw [ea]
    refine hr.mono fun e w' he => ?_
    obtain ⟨⟨v, rfl, him, hgb⟩, hd⟩ := he
    have hv : v = .int .i64 (cI i j) := him.v_inv
    subst hv
    exact ⟨rfl, grown_is hgb (hd ⟨_, rfl⟩)⟩
  have hcall := hS n enc hkl hone' cI hOI cv.toArray blk cap d w hg0 hC hH hblk (by rw [hdz]; omega)
  rw [hdz] at hcall
  have ear : ([Value.slice (some ⟨blk, 0, none⟩) l.length cap, Value.func (.func g) #[] cv.toArray] : List Value).toArray = #[.slice (some ⟨blk, 0, none⟩) ((n + 1 : Nat) : Nat) cap, .func (.func g) #[] cv.toArray] := by rw [hn]
  rw [ear]
  refine hcall.mono fun e0 w' he => ?_
  obtain ⟨rfl, d', m, os1, ⟨hdz', _, hperm⟩, hsorted, rfl⟩ := he
  rw [hdz] at hdz'
  have ex1 : d'.extract 0 d'.size = d' := Array.extract_size
  rw [hdz'] at ex1
  have ex2 : d.extract 0 d.size = d := Array.extract_size
  rw [hdz] at ex2
  rw [ex1, ex2] at hperm
  have hl' : d'.toList.map (fun i => l[i.1]'(hget i)) = l' := by
    have hpl : (d.toList.map fun i => l[i.1]'(hget i)) = l := by
      refine List.ext_getElem (by simp [hdz, hn]) fun t ht1 ht2 => ?_
      simp only [List.getElem_map, Array.getElem_toList]
      have := hdg t (by omega)
      rw [getElem!_pos d t (by omega)] at this
      simp only [this]
    have hp1 : (d'.toList.map fun i => l[i.1]'(hget i)).Perm l := by
      conv => rhs; rw [← hpl]
      exact hperm.map _
    refine List.Perm.eq_of_pairwise (le := fun x y => ltOf cf y x = false) ?_ ?_ hs (hp1.trans hp.symm)
    · intro a b ha hb h1 h2
      exact hanti a (hp1.mem_iff.1 ha) b (hp.mem_iff.1 hb) h2 h1
    · rw [List.pairwise_iff_getElem]
      intro i j hi hj hij
      simp only [List.getElem_map, Array.getElem_toList]
      simp only [List.length_map, Array.length_toList] at hi hj
      have := hsorted i j (Nat.zero_le _) hij (by omega)
      rw [getElem!_pos d' i hi, getElem!_pos d' j hj] at this
      exact this
  have hlen' : l'.length = n + 1 := by rw [← hl']; simp [hdz']
  let F' := Go.Sort.flatK enc sz d'
  have hF' : F'.size = (n + 1) * sz := by simp [F', hdz']
  let cur' := putCells id 0 F' cur
  have hcz' : cur'.size = cur.size := by simp [cur', putCells]
  have hfl : (n + 1) * sz ≤ cur.size := by
    rw [hcs, ← hn]
    exact Nat.mul_le_mul_right _ hnc
  have hcg' : ∀ t, t < (n + 1) * sz → cur'[t]? = some F'[t]! := fun t ht => by
    simp only [cur', putCells, Array.getElem?_mapIdx]
    rw [Array.getElem?_eq_getElem (by omega), Option.map_some, if_pos ⟨Nat.zero_le _, by rw [hF']; omega⟩]
    rfl
  have htk' : cur'.toList.take ((n + 1) * sz) = F'.toList := by
    refine List.ext_getElem? fun t => ?_
    rw [List.getElem?_take]
    by_cases ht : t < (n + 1) * sz
    · rw [if_pos ht, Array.getElem?_toList, hcg' t ht, getElem!_pos F' t (by omega)]
      simp [hF', ht]
    · rw [if_neg ht, List.getElem?_eq_none (by simp [hF']; omega)]
  have hheap' : (sortWorldK enc sz w blk 0 m d' os1).heap[blk]? = some (.cells cur' e (0, 0)) := by
    unfold sortWorldK Go.Sort.putRowK putRow mapBlock grow Go.Sort.ahead
    simp only
    rw [Array.getElem?_append_left (by simpa using hblk), Array.getElem?_modify, if_pos rfl, hheap]
    rfl
  have hofs : ∀ b, ofOs [(Value.slice (some ⟨blk, 0, none⟩) l.length cap, LObj.row e sz (l'.map F))] b → b = blk := fun b ⟨i, x, o, hi, _, hb⟩ => by
    match i, hi with
    | 0, hi => simp at hi; obtain ⟨rfl, _⟩ := hi; simp [Go.Lift.blk] at hb; exact hb.symm
  have hnA : ¬ A blk := fun h => hL.out blk h ⟨0, _, _, rfl, by simp, rfl⟩
  have hkeep' : Keeps (avoid A [(Value.slice (some ⟨blk, 0, none⟩) l.length cap, LObj.row e sz (l.map F))]) (avoid A [(Value.slice (some ⟨blk, 0, none⟩) l.length cap, LObj.row e sz (l'.map F))]) w (sortWorldK enc sz w blk 0 m d' os1) :=
    ⟨hWsize m d' os1, fun b hb h => by
      rcases h with h | h
      · exact .inl h
      · rw [hofs b h]; exact hav, fun b hb hnA => hWheap m d' os1 b (fun e => hnA (e ▸ hav)) hb⟩
  refine ⟨_, [(Value.slice (some ⟨blk, 0, none⟩) l.length cap, LObj.row e sz (l'.map F))], rfl, ⟨rfl, ?_, ?_, ?_⟩, .imm (.tup (vs := []) (ds := []) rfl (fun i v d h => by simp at h)), ⟨rfl, rfl, rfl, hWsize m d' os1, ?_⟩, ?_, ?_⟩
  · intro i x o hi
    match i, hi with
    | 0, hi =>
      simp at hi
      obtain ⟨rfl, rfl⟩ := hi
      refine ⟨fun b _ => .inr trivial, F'.toList, ⟨by simp [hF', hlen'], .inr ⟨blk, cap, cur', by rw [List.length_map, hlen', hn], Nat.zero_le _, hheap', by rw [List.length_map, hlen', ← hn]; exact hnc, hcm, by rw [hcz']; exact hcs, by rw [List.length_map, hlen']; exact htk'⟩⟩, hsz, ?_, ?_, ?_⟩
      · intro r hr
        obtain ⟨y, hy, rfl⟩ := List.mem_map.1 hr
        exact hrl _ (List.mem_map.2 ⟨y, hp.mem_iff.1 hy, rfl⟩)
      · intro v hv
        obtain ⟨t, ht, rfl⟩ := List.getElem_of_mem hv
        simp only [Array.length_toList, hF'] at ht
        simp only [Array.getElem_toList]
        have e2 := Go.Sort.get_flatK enc sz d' t (by rw [hdz']; exact ht)
        rw [getElem!_pos F' t (by omega)] at e2
        rw [e2, getElem!_pos _ (t % sz) (by rw [hkl]; exact Nat.mod_lt _ hsz)]
        exact hone' _ _ (List.getElem_mem _)
      · intro k j r dd hr hd
        have hk : k < l'.length := by have := (List.getElem?_eq_some_iff.1 hr).1; simpa using this
        have hk2 : k < n + 1 := by omega
        have hrk : r = F (l[(d'[k]'(by omega)).1]'(hget _)) := by
          simp only [List.getElem?_map, List.getElem?_eq_getElem hk, Option.map_some, Option.some.injEq] at hr
          rw [← hr]
          congr 1
          simp only [← hl', List.getElem_map, Array.getElem_toList]
        subst hrk
        obtain ⟨hl1, hl2⟩ := hel (d'[k]'(by omega))
        have hj : j < sz := by have := (List.getElem?_eq_some_iff.1 hd).1; omega
        have hlt : k * sz + j < (n + 1) * sz := by
          have := Nat.mul_le_mul_right sz (show k + 1 ≤ n + 1 by omega)
          rw [Nat.add_mul, Nat.one_mul] at this
          omega
        have e2 := Go.Sort.get_flatK enc sz d' (k * sz + j) (by rw [hdz']; exact hlt)
        have e3 : (k * sz + j) / sz = k := by
          rw [Nat.mul_comm, Nat.mul_add_div hsz, Nat.div_eq_of_lt hj, Nat.add_zero]
        have e4 : (k * sz + j) % sz = j := by
          rw [Nat.mul_comm, Nat.mul_add_mod, Nat.mod_eq_of_lt hj]
        rw [e3, e4, getElem!_pos d' k (by omega), getElem!_pos _ j (by rw [hkl]; exact hj)] at e2
        refine ⟨_, ?_, (hl2 j _ dd (List.getElem?_eq_getElem (by rw [hkl]; exact hj)) hd).keep hkeep'⟩
        rw [Array.getElem?_toList, Array.getElem?_eq_getElem (by omega), ← e2, getElem!_pos F' _ (by omega)]
  · intro i j x o y o' b hi hj _ _ _ _
    have a1 := (List.getElem?_eq_some_iff.1 hi).1
    have a2 := (List.getElem?_eq_some_iff.1 hj).1
    simp at a1 a2
    omega
  · intro b hb h
    rw [hofs b h] at hb
    exact hnA hb
  · intro k hk hnk
    exact hWheap m d' os1 k (fun e => hnk (e ▸ ⟨0, _, _, rfl, by simp, rfl⟩)) hk
  · intro b h
    rw [hofs b h]
    exact .inl ⟨0, _, _, rfl, by simp, rfl⟩
  · intro i x o h1 h2
    match i, h2 with
    | 0, h2 => simp at h2; obtain ⟨rfl, _⟩ := h2; exact ⟨_, rfl⟩
end Go.Lift

namespace Go.Lift
open Go Go.Proofs
open Go.Sort (grow putRow putCells mapBlock Holds)
def iE (x : Int) : List DV := [.v (.int .i64 x)]
theorem take_put (cur : Array Value) (zs l' : List Int) (h : zs.length ≤ cur.size) (hp : zs.take l'.length = l') (hl : l'.length ≤ zs.length) : (putCells (Value.int .i64) 0 zs.toArray cur).toList.take l'.length = l'.map (Value.int .i64) := by
  apply List.ext_getElem?
  intro j
  by_cases hj : j < l'.length
  · have e : l'[j]? = zs[j]? := by
      conv => lhs; rw [← hp]
      rw [List.getElem?_take_of_lt hj]
    rw [List.getElem?_take_of_lt hj, Array.getElem?_toList, List.getElem?_map, e]
    have h1 : j < zs.length := by omega
    simp [putCells, h1, show j < cur.size by omega]
  · rw [List.getElem?_take_eq_none (by omega), List.getElem?_eq_none (by simp; omega)]
theorem ints_laid {A : Nat → Prop} {w : World} {blk cap n : Nat} {os1 : Array Obj} {e : TypeId} {l l' zs : List Int} {cur : Array Value}
    (hL : Laid A [(Value.slice (some ⟨blk, 0, none⟩) l.length cap, LObj.row e 1 (l.map iE))] [LObj.row e 1 (l.map iE)] w)
    (hheap : w.heap[blk]? = some (.cells cur e (0, 0))) (hz : zs.length = l.length) (hnc : l.length ≤ cap) (hcm : cap ≤ maxLen) (hcs : cur.size = cap * 1) (hpre : zs.take l'.length = l') (hll : l'.length ≤ l.length) :
    Laid A [(Value.slice (some ⟨blk, 0, none⟩) l'.length cap, LObj.row e 1 (l'.map iE))] [LObj.row e 1 (l'.map iE)] (grow (putRow (Value.int .i64) (Go.Sort.ahead w n) blk 0 zs.toArray) os1) ∧
    Grown (ofOs [(Value.slice (some ⟨blk, 0, none⟩) l.length cap, LObj.row e 1 (l.map iE))]) w (grow (putRow (Value.int .i64) (Go.Sort.ahead w n) blk 0 zs.toArray) os1) ∧
    ∀ b, ofOs [(Value.slice (some ⟨blk, 0, none⟩) l'.length cap, LObj.row e 1 (l'.map iE))] b → ofOs [(Value.slice (some ⟨blk, 0, none⟩) l.length cap, LObj.row e 1 (l.map iE))] b ∨ w.heap.size ≤ b := by
  have hblk : blk < w.heap.size := (Array.getElem?_eq_some_iff.1 hheap).1
  have hheap' : (grow (putRow (Value.int .i64) (Go.Sort.ahead w n) blk 0 zs.toArray) os1).heap[blk]? = some (.cells (putCells (Value.int .i64) 0 zs.toArray cur) e (0, 0)) := by
    unfold putRow mapBlock grow Go.Sort.ahead
    simp only
    rw [Array.getElem?_append_left (by simpa using hblk), Array.getElem?_modify, if_pos rfl, hheap]
    rfl
  have hWheap : ∀ b, b ≠ blk → b < w.heap.size → (grow (putRow (Value.int .i64) (Go.Sort.ahead w n) blk 0 zs.toArray) os1).heap[b]? = w.heap[b]? := fun b hne hb => by
    unfold putRow mapBlock grow Go.Sort.ahead
    simp only
    rw [Array.getElem?_append_left (by simpa using hb), Array.getElem?_modify, if_neg (Ne.symm hne)]
  have hWsize : w.heap.size ≤ (grow (putRow (Value.int .i64) (Go.Sort.ahead w n) blk 0 zs.toArray) os1).heap.size := by
    unfold putRow mapBlock grow Go.Sort.ahead
    simp
  have hofs : ∀ b, ofOs [(Value.slice (some ⟨blk, 0, none⟩) l'.length cap, LObj.row e 1 (l'.map iE))] b → b = blk := fun b ⟨i, x, o, hi, _, hb⟩ => by
    match i, hi with
    | 0, hi => simp at hi; obtain ⟨rfl, _⟩ := hi; simp [Go.Lift.blk] at hb; exact hb.symm
  have hmine : ofOs [(Value.slice (some ⟨blk, 0, none⟩) l.length cap, LObj.row e 1 (l.map iE))] blk := ⟨0, _, _, rfl, by simp, rfl⟩
  have hnA : ¬ A blk := fun h => hL.out blk h hmine
  have hpl : (putCells (Value.int .i64) 0 zs.toArray cur).size = cur.size := by simp [putCells]
  refine ⟨⟨rfl, ?_, ?_, ?_⟩, ⟨rfl, rfl, rfl, hWsize, ?_⟩, ?_⟩
  · intro i x o hi
    match i, hi with
    | 0, hi =>
      simp at hi
      obtain ⟨rfl, rfl⟩ := hi
      refine ⟨fun b _ => .inr trivial, l'.map (Value.int .i64), ⟨by simp, .inr ⟨blk, cap, _, by rw [List.length_map], Nat.zero_le _, hheap', by rw [List.length_map]; omega, hcm, by rw [hpl]; exact hcs, ?_⟩⟩, Nat.one_pos, ?_, ?_, ?_⟩
      · rw [List.length_map, Nat.mul_one]
        exact take_put cur zs l' (by omega) hpre (by omega)
      · intro r hr
        obtain ⟨y, hy, rfl⟩ := List.mem_map.1 hr
        rfl
      · intro v hv
        obtain ⟨y, hy, rfl⟩ := List.mem_map.1 hv
        rfl
      · intro k j r dd hr hd
        have hk : k < l'.length := by have := (List.getElem?_eq_some_iff.1 hr).1; simpa using this
        simp only [List.getElem?_map, List.getElem?_eq_getElem hk, Option.map_some, Option.some.injEq] at hr
        subst hr
        match j, hd with
        | 0, hd =>
          simp only [iE, List.getElem?_cons_zero, Option.some.injEq] at hd
          subst hd
          exact ⟨.int .i64 l'[k], by simp [hk], .v rfl⟩
        | j + 1, hd => simp [iE] at hd
  · intro i j x o y o' b hi hj _ _ _ _
    have a1 := (List.getElem?_eq_some_iff.1 hi).1
    have a2 := (List.getElem?_eq_some_iff.1 hj).1
    simp at a1 a2
    omega
  · intro b hb h
    rw [hofs b h] at hb
    exact hnA hb
  · intro k hk hnk
    exact hWheap k (fun e => hnk (e ▸ hmine)) hk
  · intro b h
    rw [hofs b h]
    exact .inl hmine
theorem ints_retM {P : Program} {f : FuncId} {e : TypeId} (hf : ∀ (vs : Array Value) (w : World), (callFunc f vs).run P w = .ok (.enter f vs) w) (l l' zs : List Int) (kept : List Bool) (d : DV) (R : Option Addr → Nat → Value)
    (hN : l = [] → ∀ (p : Option Addr) (cap : Nat) (w : World), Calls P f #[.slice p 0 cap] w fun e w' => e = .returned (R p cap) ∧ w' = w)
    (hC : ∀ (blk cap : Nat) (w : World), Go.Sort.Holds (Value.int .i64) w blk 0 l.toArray → blk < w.heap.size → l.length ≤ cap → Calls P f #[.slice (some ⟨blk, 0, none⟩) l.length cap] w fun e w' => e = .returned (R (some ⟨blk, 0, none⟩) cap) ∧ ∃ n os, w' = grow (putRow (Value.int .i64) (Go.Sort.ahead w n) blk 0 zs.toArray) os)
    (hz : zs.length = l.length) (hpre : zs.take l'.length = l') (hll : l'.length ≤ l.length) (hkept : kept = [false] ∨ l'.length = l.length)
    (hR : ∀ A w (os' : Objs) p cap, os'[0]? = some (.slice p l'.length cap, .row e 1 (l'.map iE)) → RepV (avoid A os') os' w (R p cap) d) :
    RetM P f [.row e 1 (l.map iE)] [.own 0] kept [.row e 1 (l'.map iE)] d := by
  refine ⟨hf, fun A w os vals hA hL hv => ?_⟩
  obtain ⟨x, rfl⟩ : ∃ x, os = [(x, LObj.row e 1 (l.map iE))] := by
    have := hL.loc
    match os, this with
    | [(x, o)], this => simp at this; subst this; exact ⟨x, rfl⟩
  match vals, hv with
  | [v1], ⟨h1, _⟩ =>
  have e1 : v1 = x := h1.own_row (i := 0) rfl
  subst e1
  obtain ⟨hB, xs, ⟨hxl, hrow⟩, hsz, hrl, hone, hcell⟩ := hL.obj 0 v1 _ rfl
  rw [List.length_map] at hrow hxl
  have hnone : ∀ (p : Option Addr) (cap : Nat), l = [] → v1 = .slice p 0 cap → Calls P f [v1].toArray w fun e_1 w' => ∃ v os', e_1 = .returned v ∧ Laid A os' [.row e 1 (l'.map iE)] w' ∧ RepV (avoid A os') os' w' v d ∧ Grown (ofOs [(v1, LObj.row e 1 (l.map iE))]) w w' ∧ (∀ b, ofOs os' b → ofOs [(v1, LObj.row e 1 (l.map iE))] b ∨ w.heap.size ≤ b) ∧
      ∀ (i : Nat) x o, kept[i]? = some true → ([(v1, LObj.row e 1 (l.map iE))] : Objs)[i]? = some (x, o) → ∃ o', os'[i]? = some (x, o') := fun p cap hl hv1 => by
    subst hl hv1
    have : l' = [] := List.length_eq_zero_iff.1 (by simpa using hll)
    subst this
    refine (hN rfl p cap w).mono fun e0 w' he => ?_
    obtain ⟨rfl, rfl⟩ := he
    exact ⟨_, _, rfl, hL, hR _ _ _ p cap rfl, ⟨rfl, rfl, rfl, Nat.le_refl _, fun _ _ _ => rfl⟩, fun b h => .inl h, fun i x o h1 h2 => ⟨o, h2⟩⟩
  rcases hrow with ⟨rfl, h0⟩ | ⟨blk, cap, cur, rfl, _, hheap, hnc, hcm, hcs, htk⟩
  · exact hnone none 0 (List.length_eq_zero_iff.1 h0) rfl
  by_cases hn0 : l.length = 0
  · exact hnone (some ⟨blk, 0, none⟩) cap (List.length_eq_zero_iff.1 hn0) (by rw [hn0])
  have hblk : blk < w.heap.size := (Array.getElem?_eq_some_iff.1 hheap).1
  have hH : Go.Sort.Holds (Value.int .i64) w blk 0 l.toArray := by
    intro j hj
    have hj' : j < l.length := by simpa using hj
    have hlj : (l.map iE)[j]? = some (iE l[j]) := by simp [hj']
    obtain ⟨u, hu, him⟩ := hcell j 0 _ _ hlj (rfl : (iE l[j])[0]? = some (.v (.int .i64 l[j])))
    have hu2 : u = .int .i64 l[j] := him.v_inv
    subst hu2
    rw [Nat.mul_one, Nat.add_zero, ← htk, List.getElem?_take] at hu
    have hjl : j < l.length * 1 := by omega
    rw [if_pos hjl, Array.getElem?_toList] at hu
    refine ⟨?_, by simp [World.frozen?, hheap]⟩
    simp only [World.cell?, hheap, Nat.zero_add]
    simp only [Option.isSome_none, Bool.false_eq_true, if_false]
    rw [hu]
    simp [hj']
  refine (hC blk cap w hH hblk hnc).mono fun e0 w' he => ?_
  obtain ⟨rfl, n, os1, rfl⟩ := he
  obtain ⟨g1, g2, g3⟩ := ints_laid (n := n) (os1 := os1) hL hheap hz hnc hcm hcs hpre hll
  refine ⟨_, _, rfl, g1, hR _ _ _ _ _ rfl, g2, g3, ?_⟩
  intro i x o h1 h2
  match i, h2 with
  | 0, h2 =>
    simp at h2
    obtain ⟨rfl, _⟩ := h2
    rcases hkept with rfl | hk
    · simp at h1
    · rw [← hk]
      exact ⟨_, rfl⟩
theorem sortI_retM {P : Program} {ρ : Go.Shelf.Ren} {f : FuncId} {e : TypeId} (L : Lays.n189 P ρ) (hρ : ρ.f 189 = f) (hf : ∀ (vs : Array Value) (w : World), (callFunc f vs).run P w = .ok (.enter f vs) w) (l l' : List Int) (hp : l'.Perm l) (hs : l'.Pairwise fun x y => x ≤ y) (hlen : l.length < 4611686018427387904) :
    RetM P f [.row e 1 (l.map iE)] [.own 0] [true] [.row e 1 (l'.map iE)] (.tup []) := by
  subst hρ
  have he : l.mergeSort (fun x y => decide (x ≤ y)) = l' := by
    have h1 := List.pairwise_mergeSort (le := fun x y : Int => decide (x ≤ y)) (fun a b c h1 h2 => by simp at *; omega) (fun a b => by simp; omega) l
    refine List.Perm.eq_of_pairwise (le := fun x y : Int => x ≤ y) (fun a b _ _ h1 h2 => by omega) (h1.imp fun h => by simpa using h) hs ((List.mergeSort_perm _ _).trans hp.symm)
  refine ints_retM hf l l' l' [true] (.tup []) (fun _ _ => .tuple #[]) (fun _ p cap w => Any.slices_Sort_int_none L p cap w) (fun blk cap w hH hb _ => ?_) hp.length_eq (List.take_length ..) (Nat.le_of_eq hp.length_eq) (.inr hp.length_eq) (fun A w os' p cap h => .imm (.tup (vs := []) (ds := []) rfl (fun i v d h => by simp at h)))
  have h := Any.slices_Sort_int L blk 0 cap l w hH hb hlen
  rw [he] at h
  exact h
theorem grow_nil (w : World) : grow w #[] = w := by
  cases w
  simp [grow]
theorem compact_len (l : List Int) : (Lib.compact l).length ≤ l.length := by
  unfold Lib.compact Lib.compactUpTo
  rw [List.length_map]
  exact Nat.le_trans (List.length_filter_le ..) (by simp)
theorem compactI_retM {P : Program} {ρ : Go.Shelf.Ren} {f : FuncId} {e : TypeId} (L : Lays2.n20 P ρ) (hρ : ρ.f 20 = f) (hf : ∀ (vs : Array Value) (w : World), (callFunc f vs).run P w = .ok (.enter f vs) w) (l : List Int) (hlen : l.length ≤ 9223372036854775807) :
    RetM P f [.row e 1 (l.map iE)] [.own 0] [false] [.row e 1 ((Lib.compact l).map iE)] (.own 0) := by
  subst hρ
  have hc := compact_len l
  by_cases hl : l = []
  · subst hl
    refine ints_retM hf [] (Lib.compact []) [] [false] (.own 0) (fun p cap => .slice p (Lib.compact ([] : List Int)).length cap) (fun _ p cap w => Any.slices_Compact_int_empty L p cap w) (fun blk cap w hH hb _ => ?_) rfl rfl (Nat.le_refl _) (.inl rfl) (fun A w os' p cap h => .own h rfl)
    refine (Any.slices_Compact_int_empty L (some ⟨blk, 0, none⟩) cap w).mono fun e0 w' he => ?_
    obtain ⟨rfl, rfl⟩ := he
    refine ⟨rfl, 0, #[], ?_⟩
    refine (Go.Sort.putRow_self (Value.int .i64) _ blk 0 #[] ?_).symm.trans ?_
    · intro j hj
      simp at hj
    · rw [grow_nil]
      rfl
  · refine ints_retM hf l (Lib.compact l) (Lib.compact l ++ List.replicate (l.length - (Lib.compact l).length) 0) [false] (.own 0) (fun p cap => .slice p (Lib.compact l).length cap) (fun h => absurd h hl) (fun blk cap w hH hb hcap => ?_) (by simp; omega) (by simp) hc (.inl rfl) (fun A w os' p cap h => .own h rfl)
    · refine (Any.slices_Compact_int L blk 0 cap l w hH hlen hcap).mono fun e0 w' he => ?_
      obtain ⟨rfl, q, rfl⟩ := he
      exact ⟨rfl, q, #[], (grow_nil _).symm⟩
theorem enters_of {P : Program} {f : FuncId} {fn : Func} {c : Code} (hf : P.funcs[f]? = some fn) (hname : (fn.name == "runtime.NumGoroutine") = false) (hb : fn.body = some c) (vs : Array Value) (w : World) : (callFunc f vs).run P w = .ok (.enter f vs) w := by
  simp only [callFunc, Sem.run_bind, run_program, Result.andThen_ok, hf, hname, hb, Option.isNone_some]
  rfl
theorem cmp_up {zs : List Int} (hs : zs.Pairwise fun x y => x ≤ y) : ∀ m, m ≤ zs.length → (Lib.compactUpTo zs.toArray m).Pairwise (fun x y => x < y) ∧ ∀ x, x ∈ Lib.compactUpTo zs.toArray m ↔ x ∈ zs.take m
  | 0, _ => by simp [Lib.compactUpTo]
  | m + 1, h => by
    obtain ⟨h1, h2⟩ := cmp_up hs m (by omega)
    have hm : m < zs.length := by omega
    have e1 : zs.toArray[m]! = zs[m] := by simp [getElem!_pos, hm]
    have hup : ∀ x, x ∈ zs.take m → x ≤ zs[m] := fun x hx => by
      obtain ⟨j, hj, rfl⟩ := List.getElem_of_mem hx
      rw [List.getElem_take]
      rw [List.length_take] at hj
      exact List.pairwise_iff_getElem.1 hs j m (by omega) hm (by omega)
    rw [Lib.compactUpTo_succ, List.take_succ_eq_append_getElem hm, e1]
    by_cases h0 : m = 0
    · subst h0
      have hk : Lib.keeps zs.toArray 0 = true := Lib.keeps_lt_one _ 0 (by omega)
      rw [if_pos hk]
      simp [Lib.compactUpTo]
    · have hm1 : m - 1 < zs.length := by omega
      have e2 : zs.toArray[m - 1]! = zs[m - 1] := by simp [getElem!_pos, hm1]
      have hin : zs[m - 1] ∈ zs.take m := by
        refine List.mem_iff_getElem.2 ⟨m - 1, by simp; omega, ?_⟩
        rw [List.getElem_take]
      by_cases he : zs[m] = zs[m - 1]
      · have hk : Lib.keeps zs.toArray m = false := Lib.keeps_neg (by omega) (by rw [e1, e2, he])
        rw [hk, if_neg (by simp), List.append_nil]
        refine ⟨h1, fun x => ?_⟩
        rw [h2, List.mem_append, List.mem_singleton]
        refine ⟨.inl, fun h => h.elim id fun h => ?_⟩
        rw [h, he]
        exact hin
      · have hk : Lib.keeps zs.toArray m = true := Lib.keeps_pos (by rw [e1, e2]; exact he)
        rw [if_pos hk]
        refine ⟨List.pairwise_append.2 ⟨h1, by simp, fun x hx y hy => ?_⟩, fun x => ?_⟩
        · rw [List.mem_singleton] at hy
          subst hy
          have hx := (h2 x).1 hx
          have h3 := hup x hx
          obtain ⟨j, hj, rfl⟩ := List.getElem_of_mem hx
          rw [List.getElem_take] at h3 ⊢
          rw [List.length_take] at hj
          have hle : zs[j] ≤ zs[m - 1] := by
            by_cases hjm : j = m - 1
            · subst hjm
              exact Int.le_refl _
            · exact List.pairwise_iff_getElem.1 hs j (m - 1) (by omega) hm1 (by omega)
          have hle2 : zs[m - 1] ≤ zs[m] := hup _ hin
          omega
        · rw [List.mem_append, List.mem_append, h2]
theorem compact_ok {zs : List Int} (hs : zs.Pairwise fun x y => x ≤ y) : (Lib.compact zs).Pairwise (fun x y => x < y) ∧ ∀ x, x ∈ Lib.compact zs ↔ x ∈ zs := by
  have h := cmp_up hs zs.length (Nat.le_refl _)
  rw [List.take_length] at h
  exact h
end Go.Lift
