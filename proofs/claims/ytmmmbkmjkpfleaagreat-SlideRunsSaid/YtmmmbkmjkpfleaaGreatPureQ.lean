/- Plain functions: a sliding of what stays. No statement of the seat is proved here; conditions: none. -/
import Derived.Test.YtmmmbkmjkpfleaaGreatPureP
namespace Go.Proofs.YtmmmbkmjkpfleaaGreat
open Go Go.RowKit

def clrHd (h : Hd) : Hd := ⟨h.cls, h.age, 0, false, h.final, h.done⟩
theorem clrHd_R {h : Hd} (k : hdR h = true) : hdR (clrHd h) = true := by
  rw [hdR_iff] at k ⊢
  exact ⟨k.1, k.2.1, k.2.2.1, k.2.2.2.1, Int.le_refl 0, (by decide : (0 : Int) < 4096), k.2.2.2.2.2.2⟩
/-- Where an object is whose words were moved. -/
theorem obj_moved {ws ws' : List Int} {cs : List Cls} {G : Int → Option Int} {a t : Int} (hcs : ∀ x ∈ cs, clsR x = true) (h : objE ws cs a = 0) (hl : ws'.length = ws.length) (ht0 : 1 ≤ t) (ht : t ≤ a)
    (hg : ∀ d : Int, 0 ≤ d → d < wordsAt ws cs a → gi ws' (t + d) = newW ws cs G a d) : objF ws' cs t = (0, ⟨clrHd (objT ws cs a).hd, (objT ws cs a).refs, (objT ws cs a).data, (objT ws cs a).words⟩) := by
  obtain ⟨h1, h2, h3⟩ := objE_zero h
  obtain ⟨q1, q2, q3, q4, q5⟩ := at_obj h1 h2
  have hb := objT_bd hcs h
  have hw := wordsAt_bd hcs h
  have hz := shapeE_zero q4
  have g0 := hg 0 (by omega) (by omega)
  have g1 := hg 1 (by omega) (by omega)
  unfold newW at g0 g1
  rw [if_pos rfl, Int.add_zero] at g0
  rw [if_neg (by omega), if_neg (by omega)] at g1
  have hT : objT ws cs a = ⟨hdOf (gi ws a), (cget cs (hdOf (gi ws a)).cls).refs + gi ws (a + 1), (cget cs (hdOf (gi ws a)).cls).data, 2 + ((cget cs (hdOf (gi ws a)).cls).refs + gi ws (a + 1)) + (cget cs (hdOf (gi ws a)).cls).data⟩ := by rw [h3]; exact q5
  have hhd : (objT ws cs a).hd = hdOf (gi ws a) := by rw [hT]
  have hR : hdR (clrHd (objT ws cs a).hd) = true := clrHd_R (by rw [hhd]; exact q2)
  have hwd : (objT ws cs a).words = layWords cs (hdOf (gi ws a)).cls (gi ws (a + 1)) := by rw [hT]; rfl
  have := obj_of (ws := ws') (cs := cs) (a := t) (n := (hdOf (gi ws a)).cls) (m := gi ws (a + 1)) (hd := clrHd (objT ws cs a).hd) hR (by rw [hhd]; rfl) q4 ((thereB_iff _ _ _).2 (by rw [← hwd, hl]; omega)) hcs g0 g1
  rw [this, hwd]
  have e1 : (objT ws cs a).refs = (cget cs (hdOf (gi ws a)).cls).refs + gi ws (a + 1) := by rw [hT]
  have e2 : (objT ws cs a).data = (cget cs (hdOf (gi ws a)).cls).data := by rw [hT]
  rw [e1, e2]
abbrev slTo (ws : List Int) (cs : List Cls) (l : List Spc) (st : List Int) : List Int := (planR l (st.map fun a => (atT ws cs a).words)).2.1
abbrev slNow (ws : List Int) (cs : List Cls) (l : List Spc) (st : List Int) : List Spc := (planR l (st.map fun a => (atT ws cs a).words)).2.2
abbrev slWs (ws : List Int) (cs : List Cls) (l : List Spc) (st : List Int) : List Int := movesW ws cs (slG ws cs l st) (wordsAt ws cs) st
structure SlideRes (ws : List Int) (cs : List Cls) (l : List Spc) (st : List Int) : Prop where
  len : (slWs ws cs l st).length = ws.length
  tlen : (slTo ws cs l st).length = st.length
  nlen : (slNow ws cs l st).length = l.length
  G : ∀ i : Nat, i < st.length → slG ws cs l st (st.getD i default) = some ((slTo ws cs l st).getD i default)
  G0 : slG ws cs l st 0 = some 0
  Gout : ∀ k : Int, k ∉ st → k ≠ 0 → slG ws cs l st k = none
  asc : ∀ q i : Nat, q < i → i < st.length → st.getD q default + wordsAt ws cs (st.getD q default) ≤ st.getD i default
  mono : ∀ q i : Nat, q < i → i < st.length → (slTo ws cs l st).getD q default + wordsAt ws cs (st.getD q default) ≤ (slTo ws cs l st).getD i default
  le : ∀ i : Nat, i < st.length → 1 ≤ (slTo ws cs l st).getD i default ∧ (slTo ws cs l st).getD i default ≤ st.getD i default
  was : ∀ i : Nat, i < st.length → objE ws cs (st.getD i default) = 0 ∧ 2 ≤ wordsAt ws cs (st.getD i default)
  obj : ∀ i : Nat, i < st.length → objF (slWs ws cs l st) cs ((slTo ws cs l st).getD i default) = (0, ⟨clrHd (objT ws cs (st.getD i default)).hd, (objT ws cs (st.getD i default)).refs, (objT ws cs (st.getD i default)).data, (objT ws cs (st.getD i default)).words⟩)
  word : ∀ i : Nat, i < st.length → ∀ d : Int, 0 ≤ d → d < wordsAt ws cs (st.getD i default) → gi (slWs ws cs l st) ((slTo ws cs l st).getD i default + d) = newW ws cs (slG ws cs l st) (st.getD i default) d
  tile : ∃ g : Nat → List Int, (∀ j : Nat, j < l.length → ((slNow ws cs l st).getD j default).from_ = (l.getD j default).from_ ∧ ((slNow ws cs l st).getD j default).end_ = (l.getD j default).end_ ∧ spR ((slNow ws cs l st).getD j default) = true ∧ Tile (wordsAt (slWs ws cs l st) cs) (l.getD j default).from_ (g j) ((slNow ws cs l st).getD j default).top) ∧ catF g l.length = slTo ws cs l st
theorem slide_res {ws : List Int} {cs : List Cls} {l : List Spc} {st al : List Int} (hcs : ∀ x ∈ cs, clsR x = true) (hl : 0 < l.length) (ha : SlArgs ws l st) (hw : walksF ws cs [] l = some al) (hm : ∀ x ∈ st, x ∈ al) : SlideRes ws cs l st := by
  obtain ⟨h1, h2, hr, h4⟩ := ha
  obtain ⟨g1, g2⟩ := plan_ok hcs hr hw h1 h2 hm
  obtain ⟨s1, s2⟩ := stay_chain hcs hr hw h1 h2 hm
  have hok := slide_ok hcs hr hw h1 h2 hm
  have hn : ∀ a ∈ st, 0 ≤ wordsAt ws cs a := fun a ha => by have := (s2 a ha).2.1; omega
  have hasc := fun q i (hq : q < i) (hi : i < st.length) => s1.get hn i q hq hi
  have hlt : ∀ q i : Nat, q < i → i < st.length → st.getD q default < st.getD i default := fun q i hq hi => by
    have := hasc q i hq hi
    have := (s2 _ (mem_getD (show q < st.length by omega))).2.1
    omega
  have hsl := g2.get hn
  have hG : ∀ i : Nat, i < st.length → slG ws cs l st (st.getD i default) = some ((slTo ws cs l st).getD i default) := fun i hi => toG_get g2.len hlt hi
  have h0 : (0 : Int) ∉ st := fun h => by
    have := s1.ge hn 0 h
    omega
  have hmono : ∀ q i : Nat, q < i → i < st.length → (slTo ws cs l st).getD q default + wordsAt ws cs (st.getD q default) ≤ (slTo ws cs l st).getD i default := fun q i hq hi => (hsl i hi).2.2 q hq
  have hword := moves_at hok hG hmono st.length (Nat.le_refl _)
  rw [List.take_length] at hword
  have hlen := movesW_len (ws := ws) (cs := cs) (G := slG ws cs l st) (n := wordsAt ws cs) st
  have hobj : ∀ i : Nat, i < st.length → objF (slWs ws cs l st) cs ((slTo ws cs l st).getD i default) = (0, ⟨clrHd (objT ws cs (st.getD i default)).hd, (objT ws cs (st.getD i default)).refs, (objT ws cs (st.getD i default)).data, (objT ws cs (st.getD i default)).words⟩) := fun i hi =>
    obj_moved hcs (s2 _ (mem_getD hi)).1 hlen (hsl i hi).1 (hsl i hi).2.1 (hword i hi)
  have hz := planR_zero g1
  have hsz : (st.map fun a => (atT ws cs a).words) = st.map (wordsAt ws cs) := rfl
  have hwn : ∀ i : Nat, i < st.length → wordsAt (slWs ws cs l st) cs ((slTo ws cs l st).getD i default) = wordsAt ws cs (st.getD i default) := fun i hi => by
    have he : objE (slWs ws cs l st) cs ((slTo ws cs l st).getD i default) = 0 := by unfold objE; rw [hobj i hi]
    rw [← (wordsAt_bd hcs he).2.1, ← (wordsAt_bd hcs (s2 _ (mem_getD hi)).1).2.1]
    unfold objT; rw [hobj i hi]
    rfl
  have htl := planF_tiles (l := l) (wordsAt ws cs) (wordsAt (slWs ws cs l st) cs) st (l.map spEmpty) 0 [] (fun _ => []) (slTo ws cs l st) (slNow ws cs l st) (by simp) hl (by rw [List.nil_append]; exact hz.2.2) (fun j hj => by
      rw [getD_map' _ hj, (spEmpty_R (rise_all hr _ (mem_getD hj))).2]
      exact ⟨rfl, rfl⟩) (fun j hj => by
      rw [getD_map' _ hj, (spEmpty_R (rise_all hr _ (mem_getD hj))).2]
      have := spR_t (rise_all hr _ (mem_getD hj))
      simp only; omega) (fun _ _ => rfl) hwn
  have hwt : ∀ y ∈ slTo ws cs l st, 0 ≤ wordsAt (slWs ws cs l st) cs y := fun y hy => by
    obtain ⟨i, hi, rfl⟩ := List.getElem_of_mem hy
    have h5 := hwn i (by rw [← g2.len]; exact hi)
    rw [List.getD_eq_getElem?_getD, List.getElem?_eq_getElem hi] at h5
    have h6 := (s2 _ (mem_getD (show i < st.length by rw [← g2.len]; exact hi))).2.1
    have h7 : wordsAt (slWs ws cs l st) cs (slTo ws cs l st)[i] = wordsAt ws cs (st.getD i default) := h5
    omega
  obtain ⟨g, e1, e2, e3⟩ := htl
  refine ⟨hlen, g2.len, e1, hG, ?_, fun k hk h0 => ?_, hasc, hmono, fun i hi => ⟨(hsl i hi).1, (hsl i hi).2.1⟩, fun i hi => ⟨(s2 _ (mem_getD hi)).1, (s2 _ (mem_getD hi)).2.1⟩, hobj, hword, g, fun j hj => ?_, ?_⟩
  · show toG (st.zip (slTo ws cs l st)) 0 = some 0
    rw [toG_out h0, if_pos rfl]
  · show toG (st.zip (slTo ws cs l st)) k = none
    rw [toG_out hk, if_neg (fun e => h0 e.symm)]
  · have := e2 j hj
    rw [getD_map' _ hj, (spEmpty_R (rise_all hr _ (mem_getD hj))).2] at this
    refine ⟨this.1, this.2.1, ?_, this.2.2.2⟩
    have h5 := this.2.2.2.sum
    have h6 := spR_t (rise_all hr _ (mem_getD hj))
    have h7 : 0 ≤ ((g j).map (wordsAt (slWs ws cs l st) cs)).sum := sum_nonneg fun x hx => by
      obtain ⟨y, hy, rfl⟩ := List.mem_map.1 hx
      refine hwt y ?_
      have := mem_catF (m := l.length) hj hy
      rw [e3] at this
      have hnil : ∀ m, catF (fun _ => ([] : List Int)) m = [] := fun m => by
        induction m with
        | zero => rfl
        | succ m ih => rw [catF, ih]; rfl
      rw [hnil, List.nil_append] at this
      exact this
    have h8 := this.2.1
    simp only at h8
    rw [spR_iff]
    omega
  · rw [e3]
    have : ∀ m, catF (fun _ => ([] : List Int)) m = [] := fun m => by
      induction m with
      | zero => rfl
      | succ m ih => rw [catF, ih]; rfl
    rw [this, List.nil_append]
theorem rise_same {l l' : List Spc} (h : rise l = true) (hl : l'.length = l.length) (hs : ∀ j : Nat, j < l.length → (l'.getD j default).from_ = (l.getD j default).from_ ∧ (l'.getD j default).end_ = (l.getD j default).end_ ∧ spR (l'.getD j default) = true) : rise l' = true := by
  have key : ∀ (l l' : List Spc) (e : Int), riseF e l = true → l'.length = l.length → (∀ j : Nat, j < l.length → (l'.getD j default).from_ = (l.getD j default).from_ ∧ (l'.getD j default).end_ = (l.getD j default).end_ ∧ spR (l'.getD j default) = true) → riseF e l' = true := by
    intro l
    induction l with
    | nil => intro l' e _ hl _; rw [List.length_eq_zero_iff.1 hl]; rfl
    | cons a r ih =>
      intro l' e hr hl hs
      obtain ⟨b, q, rfl⟩ : ∃ b q, l' = b :: q := by
        cases l' with
        | nil => simp at hl
        | cons b q => exact ⟨b, q, rfl⟩
      have h0 := hs 0 (by simp)
      simp only [List.getD_cons_zero] at h0
      rw [riseF] at hr
      split at hr
      · rename_i h1
        rw [riseF, if_pos ⟨h0.2.2, by rw [h0.1]; exact h1.2⟩, h0.2.1]
        exact ih q _ hr (by simpa using hl) (fun j hj => by have := hs (j + 1) (by simp; omega); simpa using this)
      · cases hr
  exact key l l' 1 h hl hs
theorem mem_getD_ex {l : List Int} {x : Int} (h : x ∈ l) : ∃ i : Nat, i < l.length ∧ l.getD i default = x := by
  obtain ⟨i, hi, rfl⟩ := List.getElem_of_mem h
  exact ⟨i, hi, by rw [List.getD_eq_getElem?_getD, List.getElem?_eq_getElem hi]; rfl⟩
theorem slide_fine {ws : List Int} {cs : List Cls} {l : List Spc} {st al rt : List Int} (hcs : ∀ x ∈ cs, clsR x = true) (hl : 0 < l.length) (ha : SlArgs ws l st) (hw : walksF ws cs [] l = some al) (hm : ∀ x ∈ st, x ∈ al)
    (hc : ∀ a ∈ st, ∀ j : Nat, (j : Int) < (objT ws cs a).refs → gi ws (a + 2 + j) = 0 ∨ gi ws (a + 2 + j) ∈ st) (hrt : ∀ x ∈ rt, x = 0 ∨ x ∈ st) : slideE ws cs l st rt = 0 := by
  have h := slide_res hcs hl ha hw hm
  have hs : ∀ x : Int, x = 0 ∨ x ∈ st → (slG ws cs l st x).isSome = true := by
    rintro x (rfl | hx)
    · rw [h.G0]; rfl
    · obtain ⟨i, hi, rfl⟩ := mem_getD_ex hx
      rw [h.G i hi]; rfl
  refine slideE_ok ha hw hm (fun q => ?_) (fun q => ?_)
  · obtain ⟨a, ha, hq⟩ := List.any_eq_true.1 q
    rw [lostF_no (fun j hj => hs _ (hc a ha j (by omega)))] at hq
    cases hq
  · obtain ⟨a, ha, hq⟩ := List.any_eq_true.1 q
    rw [hs a (hrt a ha)] at hq
    cases hq
/-! ## Made worlds -/
theorem walksF_segs {ws : List Int} {cs : List Cls} (hcs : ∀ x ∈ cs, clsR x = true) {l : List Spc} {f : Nat → List Int} (h : ∀ k : Nat, k < l.length → Seg ws cs (l.getD k default).from_ (l.getD k default).top (f k)) : walksF ws cs [] l = some (catF f l.length) := by
  have : ∀ (m i : Nat), l.length - i = m → i ≤ l.length → walksF ws cs (catF f i) (l.drop i) = some (catF f l.length) := by
    intro m
    induction m with
    | zero =>
      intro i hm hi
      have : i = l.length := by omega
      subst this
      rw [List.drop_length]; rfl
    | succ m ih =>
      intro i hm hi
      have hs := (h i (by omega)).walk hcs
      rw [walksF_step (by omega) (by rw [hs]; simp), hs]
      exact ih (i + 1) (by omega) (by omega)
  exact this _ 0 rfl (Nat.zero_le _)
theorem LayInv.walks {ws : List Int} {cs : List Cls} {sp : List Spc} {al : List Int} (h : LayInv ws cs sp al) (hcs : ∀ x ∈ cs, clsR x = true) : ∃ al', walksF ws cs [] sp = some al' ∧ ∀ x, x ∈ al ↔ x ∈ al' := by
  obtain ⟨h1, h2, h3, h4, f, h5, h6⟩ := h
  refine ⟨_, walksF_segs hcs (f := f) (fun k hk => h5 k (by omega)), fun x => ?_⟩
  rw [h6.mem_iff, h2]
  show _ ↔ x ∈ (([] ++ f 0) ++ f 1) ++ f 2
  simp [List.mem_append, or_assoc]
theorem LayInv.args {ws : List Int} {cs : List Cls} {sp : List Spc} {al st : List Int} (h : LayInv ws cs sp al) (h1 : sortedB st = true) (h2 : noAdjB st = true) : SlArgs ws sp st := by
  refine ⟨h1, h2, h.rise, fun q => ?_⟩
  obtain ⟨s, hs, hq⟩ := List.any_eq_true.1 q
  have := of_decide_eq_true hq
  have := h.end5 s hs
  have := h.len
  omega
theorem nodup_adj {q : List Int} (h : q.Nodup) : noAdjB q = true := noAdjB_yes fun i h0 hi e => by
  have h1 := List.pairwise_iff_getElem.1 h (i - 1) i (by omega) hi (by omega)
  have g1 := get_some hi
  have g2 := get_some (show i - 1 < q.length by omega)
  rw [List.getElem?_eq_getElem hi] at g1
  rw [List.getElem?_eq_getElem (show i - 1 < q.length by omega)] at g2
  rw [Option.some.inj g1, Option.some.inj g2, e] at h1
  exact h1 rfl
structure Stays (ws : List Int) (cs : List Cls) (al fr q : List Int) : Prop where
  sort : sortedB q = true
  adj : noAdjB q = true
  nd : q.Nodup
  sub : ∀ x ∈ q, x ∈ al
  fr : ∀ x ∈ fr, x = 0 ∨ x ∈ q
  clo : ∀ a ∈ q, ∀ j : Nat, (j : Int) < (objT ws cs a).refs → gi ws (a + 2 + j) = 0 ∨ gi ws (a + 2 + j) ∈ q
theorem stays_of {ws : List Int} {cs : List Cls} {al fr q r : List Int} (hs : sortedB q = true) (hp : q.Perm r) (h : RB ws cs al fr r r.length) : Stays ws cs al fr q := by
  have hnd : q.Nodup := hp.nodup_iff.2 h.nd
  refine ⟨hs, nodup_adj hnd, hnd, fun x hx => h.sub x (hp.mem_iff.1 hx), fun x hx => (h.fr x hx).imp id fun h => hp.mem_iff.2 h, fun a ha j hj => ?_⟩
  obtain ⟨i, hi, rfl⟩ := mem_getD_ex (hp.mem_iff.1 ha)
  exact (h.clo i hi j (by omega)).imp id fun h => hp.mem_iff.2 h
end Go.Proofs.YtmmmbkmjkpfleaaGreat
