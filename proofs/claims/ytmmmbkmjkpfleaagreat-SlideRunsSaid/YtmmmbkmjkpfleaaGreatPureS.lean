/- Plain functions: heads that are laid anew. No statement of the seat is proved here; conditions: none. -/
import Derived.Test.YtmmmbkmjkpfleaaGreatPureR
namespace Go.Proofs.YtmmmbkmjkpfleaaGreat
open Go Go.RowKit

theorem obj_sethead {ws : List Int} {cs : List Cls} {x : Int} {h : Hd} (hcs : ∀ x ∈ cs, clsR x = true) (ho : objE ws cs x = 0) (hR : hdR h = true) (hc : h.cls = (objT ws cs x).hd.cls) :
    objF (ws.set x.toNat (hdW h)) cs x = (0, ⟨h, (objT ws cs x).refs, (objT ws cs x).data, (objT ws cs x).words⟩) := by
  obtain ⟨h1, h2, h3⟩ := objE_zero ho
  obtain ⟨q1, q2, q3, q4, q5⟩ := at_obj h1 h2
  have hb := objT_bd hcs ho
  have hz := shapeE_zero q4
  have hT : objT ws cs x = ⟨hdOf (gi ws x), (cget cs (hdOf (gi ws x)).cls).refs + gi ws (x + 1), (cget cs (hdOf (gi ws x)).cls).data, 2 + ((cget cs (hdOf (gi ws x)).cls).refs + gi ws (x + 1)) + (cget cs (hdOf (gi ws x)).cls).data⟩ := by rw [h3]; exact q5
  have hhd : (objT ws cs x).hd = hdOf (gi ws x) := by rw [hT]
  have hwd : (objT ws cs x).words = layWords cs (hdOf (gi ws x)).cls (gi ws (x + 1)) := by rw [hT]; rfl
  have := obj_of (ws := ws.set x.toNat (hdW h)) (cs := cs) (a := x) (n := (hdOf (gi ws x)).cls) (m := gi ws (x + 1)) (hd := h) hR (by rw [hc, hhd]) q4 ((thereB_iff _ _ _).2 (by rw [← hwd, List.length_set]; omega)) hcs (gi_set_eq (by omega)) (gi_set_ne (by omega))
  rw [this, hwd]
  have e1 : (objT ws cs x).refs = (cget cs (hdOf (gi ws x)).cls).refs + gi ws (x + 1) := by rw [hT]
  have e2 : (objT ws cs x).data = (cget cs (hdOf (gi ws x)).cls).data := by rw [hT]
  rw [e1, e2]
theorem at_of_obj {ws : List Int} {cs : List Cls} {x : Int} {t : Thg} (h : objF ws cs x = (0, t)) : atE ws cs x = 0 ∧ atT ws cs x = t ∧ t.hd.cls ≠ 0 := by
  have he : objE ws cs x = 0 := by unfold objE; rw [h]
  have ht : objT ws cs x = t := by unfold objT; rw [h]
  obtain ⟨h1, h2, h3⟩ := objE_zero he
  rw [ht] at h3
  exact ⟨h1, h3.symm, by rw [h3]; exact h2⟩
theorem Seg.sethead {ws : List Int} {cs : List Cls} (hcs : ∀ x ∈ cs, clsR x = true) {a to : Int} {r : List Int} {h : Hd} (hs : Seg ws cs a to r) (hR : hdR h = true) : ∀ x ∈ r, h.cls = (objT ws cs x).hd.cls → Seg (ws.set x.toNat (hdW h)) cs a to r := by
  induction hs with
  | nil a => simp
  | obj h1 h2 h3 ih =>
    rename_i a to r
    intro x hx hc
    have hb := atT_bd hcs h1
    have he : objE ws cs a = 0 := by unfold objE; rw [objF_else (fun q => h2 q.2)]; exact h1
    have hw := (objE_zero he).2.2
    rcases List.mem_cons.1 hx with rfl | hx
    · obtain ⟨g1, g2, g3⟩ := at_of_obj (obj_sethead hcs he hR hc)
      refine .obj g1 (by rw [g2]; exact g3) (by rw [g2]; simp only; rw [hw]; exact (h3.congr hcs (by simp) (fun y h4 h5 => gi_set_ne (by omega))).1)
    · have hm := (h3.mem hcs x hx).2.1
      have hcg : atF (ws.set x.toNat (hdW h)) cs a = atF ws cs a := at_congr hcs h1 (by simp) (gi_set_ne (by omega)) (fun _ => gi_set_ne (by omega))
      exact .obj (by unfold atE; rw [hcg]; exact h1) (by unfold atT; rw [hcg]; exact h2) (by unfold atT; rw [hcg]; exact ih x hx hc)
  | gap h1 h2 h3 ih =>
    rename_i a to r
    intro x hx hc
    have hb := atT_bd hcs h1
    have hm := (h3.mem hcs x hx).2.1
    have hcg : atF (ws.set x.toNat (hdW h)) cs a = atF ws cs a := at_congr hcs h1 (by simp) (gi_set_ne (by omega)) (fun _ => gi_set_ne (by omega))
    exact .gap (by unfold atE; rw [hcg]; exact h1) (by unfold atT; rw [hcg]; exact h2) (by unfold atT; rw [hcg]; exact ih x hx hc)
theorem LayInv.sethead {ws : List Int} {cs : List Cls} {sp : List Spc} {al : List Int} {h : Hd} (hi : LayInv ws cs sp al) (hcs : ∀ x ∈ cs, clsR x = true) {a : Int} (ha : a ∈ al) (hR : hdR h = true) (hc : h.cls = (objT ws cs a).hd.cls) :
    LayInv (ws.set a.toNat (hdW h)) cs sp al ∧ ∀ x ∈ al, x ≠ a → objF (ws.set a.toNat (hdW h)) cs x = objF ws cs x ∧ ∀ y : Int, x ≤ y → y < x + (objT ws cs x).words → gi (ws.set a.toNat (hdW h)) y = gi ws y := by
  have hd := hi.disj hcs
  have hmem := hi.mem hcs
  have hea := hmem a ha
  have hba := objT_bd hcs hea.1
  refine ⟨?_, fun x hx hxa => ?_⟩
  · obtain ⟨g1, g2, g3, g4, f, h5, h6⟩ := hi
    refine ⟨by rw [List.length_set]; exact g1, g2, g3, g4, f, fun k hk => ?_, h6⟩
    by_cases hak : a ∈ f k
    · exact (h5 k hk).sethead hcs hR a hak hc
    · refine ((h5 k hk).congr hcs (by simp) fun y h7 h8 => gi_set_ne ?_).1
      obtain ⟨j, hj, h9⟩ : ∃ j : Nat, j < 3 ∧ a ∈ f j := by
        have ha' := h6.mem_iff.1 ha
        rw [List.mem_append, List.mem_append] at ha'
        rcases ha' with ha' | ha' | ha'
        · exact ⟨0, by omega, ha'⟩
        · exact ⟨1, by omega, ha'⟩
        · exact ⟨2, by omega, ha'⟩
      have hm := (h5 j hj).mem hcs a h9
      have hRj := spR_t (rise_all g3 _ (mem_getD (show j < sp.length by omega)))
      have hRk := spR_t (rise_all g3 _ (mem_getD (show k < sp.length by omega)))
      rcases Nat.lt_trichotomy j k with hlt | heq | hgt
      · have := riseF_ix sp 1 g3 j k hlt (by omega); omega
      · subst heq; exact absurd h9 hak
      · have := riseF_ix sp 1 g3 k j hgt (by omega); omega
  · have hex := hmem x hx
    have hbx := objT_bd hcs hex.1
    have hg : ∀ y : Int, x ≤ y → y < x + (objT ws cs x).words → gi (ws.set a.toNat (hdW h)) y = gi ws y := fun y h1 h2 => gi_set_ne (by
      rcases Int.lt_trichotomy a x with hlt | heq | hgt
      · have := hd a ha x hx hlt; omega
      · exact absurd heq.symm hxa
      · have := hd x hx a ha hgt; omega)
    exact ⟨objF_congr (by simp) (hg x (by omega) (by omega)) (hg (x + 1) (by omega) (by omega)), hg⟩
def fwdHd (h : Hd) (k : Nat) : Hd := ⟨h.cls, h.age, k, h.mark, h.final, h.done⟩
def fwdW (ws : List Int) (cs : List Cls) (q : List Int) : Nat → List Int
  | 0 => ws
  | k + 1 => (fwdW ws cs q k).set (q.getD k default).toNat (hdW (fwdHd (objT (fwdW ws cs q k) cs (q.getD k default)).hd k))
structure FwdInv (ws : List Int) (cs : List Cls) (sp : List Spc) (al q : List Int) (i : Nat) : Prop where
  inv : LayInv (fwdW ws cs q i) cs sp al
  obj : ∀ k : Nat, k < q.length → objF (fwdW ws cs q i) cs (q.getD k default) = (0, ⟨if k < i then fwdHd (objT ws cs (q.getD k default)).hd k else (objT ws cs (q.getD k default)).hd, (objT ws cs (q.getD k default)).refs, (objT ws cs (q.getD k default)).data, (objT ws cs (q.getD k default)).words⟩)
  word : ∀ a ∈ q, ∀ y : Int, a + 2 ≤ y → y < a + (objT ws cs a).words → gi (fwdW ws cs q i) y = gi ws y
theorem FwdInv.next {ws : List Int} {cs : List Cls} {sp : List Spc} {al q : List Int} {i : Nat} (hcs : ∀ x ∈ cs, clsR x = true) (h : FwdInv ws cs sp al q i) (hq : ∀ x ∈ q, x ∈ al) (hnd : q.Nodup) (hi : i < q.length) (hl : q.length ≤ 60) :
    setHeadE (fwdW ws cs q i) cs (q.getD i default) (fwdHd (objT (fwdW ws cs q i) cs (q.getD i default)).hd i) = 0 ∧ FwdInv ws cs sp al q (i + 1) := by
  have ho := h.obj i hi
  rw [if_neg (by omega)] at ho
  have hE : objE (fwdW ws cs q i) cs (q.getD i default) = 0 := by unfold objE; rw [ho]
  have hT := objT_head hE
  have hR : hdR (fwdHd (objT (fwdW ws cs q i) cs (q.getD i default)).hd i) = true := by
    have := hT.1
    rw [hdR_iff] at this ⊢
    exact ⟨this.1, this.2.1, this.2.2.1, this.2.2.2.1, (by show (0 : Int) ≤ (i : Int); omega), (by show (i : Int) < 4096; omega), this.2.2.2.2.2.2⟩
  have hal := hq _ (mem_getD hi)
  have hs := h.inv.sethead hcs hal hR rfl
  have hnew := obj_sethead hcs hE hR rfl
  have hne : ∀ k : Nat, k < q.length → k ≠ i → q.getD k default ≠ q.getD i default := fun k hk hki e => by
    have g1 := get_some hk
    have g2 := get_some hi
    rw [List.getElem?_eq_getElem hk] at g1
    rw [List.getElem?_eq_getElem hi] at g2
    have e1 : q[k] = q[i] := by rw [Option.some.inj g1, Option.some.inj g2, e]
    have h5 := List.pairwise_iff_getElem.1 hnd
    rcases Nat.lt_or_ge k i with hlt | hge
    · exact h5 k i hk hi hlt e1
    · exact h5 i k hi hk (by omega) e1.symm
  refine ⟨by unfold setHeadE; rw [if_neg (not_not_intro hE), if_neg (fun c => c.elim (fun c => c hR) (fun c => c rfl))], hs.1, fun k hk => ?_, fun a ha y h1 h2 => ?_⟩
  · by_cases hki : k = i
    · subst hki
      show objF ((fwdW ws cs q k).set _ _) cs _ = _
      rw [hnew, if_pos (by omega)]
      unfold objT
      rw [ho]
      rfl
    · show objF ((fwdW ws cs q i).set _ _) cs _ = _
      rw [(hs.2 _ (hq _ (mem_getD hk)) (hne k hk hki)).1, h.obj k hk]
      by_cases h3 : k < i
      · rw [if_pos h3, if_pos (by omega)]
      · rw [if_neg h3, if_neg (by omega)]
  · rw [← h.word a ha y h1 h2]
    obtain ⟨k, hk, rfl⟩ := mem_getD_ex ha
    by_cases hki : k = i
    · subst hki
      have := objT_bd hcs hE
      exact gi_set_ne (by omega)
    · refine (hs.2 _ (hq _ (mem_getD hk)) (hne k hk hki)).2 y (by omega) ?_
      have : (objT (fwdW ws cs q i) cs (q.getD k default)).words = (objT ws cs (q.getD k default)).words := by unfold objT; rw [h.obj k hk]; rfl
      rw [this]; exact h2
theorem FwdInv.start {ws : List Int} {cs : List Cls} {sp : List Spc} {al q : List Int} (hcs : ∀ x ∈ cs, clsR x = true) (h : LayInv ws cs sp al) (hq : ∀ x ∈ q, x ∈ al) : FwdInv ws cs sp al q 0 := by
  refine ⟨h, fun k hk => ?_, fun a _ y _ _ => rfl⟩
  rw [if_neg (by omega)]
  have := (h.mem hcs _ (hq _ (mem_getD hk))).1
  unfold objE at this
  show objF ws cs _ = _
  unfold objT
  rw [← this]
theorem FwdInv.stays {ws : List Int} {cs : List Cls} {sp : List Spc} {al fr q : List Int} {i : Nat} (h : FwdInv ws cs sp al q i) (hcs : ∀ x ∈ cs, clsR x = true) (hb : LayInv ws cs sp al) (hs : Stays ws cs al fr q) : Stays (fwdW ws cs q i) cs al fr q := by
  refine ⟨hs.sort, hs.adj, hs.nd, hs.sub, hs.fr, fun a ha j hj => ?_⟩
  obtain ⟨k, hk, rfl⟩ := mem_getD_ex ha
  have hT : (objT (fwdW ws cs q i) cs (q.getD k default)).refs = (objT ws cs (q.getD k default)).refs := by unfold objT; rw [h.obj k hk]; rfl
  rw [hT] at hj
  have h1 := objT_bd hcs (hb.mem hcs _ (hs.sub _ ha)).1
  rw [h.word _ ha _ (by omega) (by omega)]
  exact hs.clo _ ha j hj
def headsL (ws : List Int) (cs : List Cls) (q : List Int) : List Hd := q.map fun a => clrHd (objT ws cs a).hd
end Go.Proofs.YtmmmbkmjkpfleaaGreat
