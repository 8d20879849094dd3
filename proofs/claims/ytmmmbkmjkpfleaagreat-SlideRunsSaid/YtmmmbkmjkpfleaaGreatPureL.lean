/- Plain functions: what the law's worlds are. No statement of the seat is proved here; conditions: none. -/
import Derived.Test.YtmmmbkmjkpfleaaGreatPureK
namespace Go.Proofs.YtmmmbkmjkpfleaaGreat
open Go Go.RowKit

theorem riseF_set : ∀ (l : List Spc) (e : Int) (k : Nat) (t : Int), riseF e l = true → k < l.length → spR ⟨(l.getD k default).from_, t, (l.getD k default).end_⟩ = true → riseF e (l.set k ⟨(l.getD k default).from_, t, (l.getD k default).end_⟩) = true
  | [], _, _, _, _, hk, _ => by simp at hk
  | s :: l, e, 0, t, h, _, hs => by
    rw [riseF] at h
    split at h
    · rename_i h1
      simp only [List.getD_cons_zero] at hs ⊢
      rw [List.set_cons_zero, riseF, if_pos ⟨hs, h1.2⟩]
      exact h
    · cases h
  | s :: l, e, k + 1, t, h, hk, hs => by
    rw [riseF] at h
    split at h
    · rename_i h1
      simp only [List.getD_cons_succ] at hs ⊢
      rw [List.set_cons_succ, riseF, if_pos h1]
      exact riseF_set l s.end_ k t h (by simpa using hk) hs
    · cases h
structure LayInv (ws : List Int) (cs : List Cls) (sp : List Spc) (al : List Int) : Prop where
  len : ws.length = 500
  sp3 : sp.length = 3
  rise : rise sp = true
  end5 : ∀ s ∈ sp, s.end_ ≤ 500
  seg : ∃ f : Nat → List Int, (∀ k : Nat, k < 3 → Seg ws cs (sp.getD k default).from_ (sp.getD k default).top (f k)) ∧ al.Perm (f 0 ++ (f 1 ++ f 2))
theorem LayInv.step {ws ws' : List Int} {cs : List Cls} {sp : List Spc} {al q : List Int} (h : LayInv ws cs sp al) (hcs : ∀ x ∈ cs, clsR x = true) {k : Nat} {n : Int} (hk : k < 3) (hl : ws'.length = ws.length) (hn : 0 ≤ n)
    (hroom : (sp.getD k default).top + n ≤ (sp.getD k default).end_) (hg : ∀ x : Int, 0 ≤ x → (x < (sp.getD k default).top ∨ (sp.getD k default).top + n ≤ x) → gi ws' x = gi ws x)
    (hq : Seg ws' cs (sp.getD k default).top ((sp.getD k default).top + n) q) :
    LayInv ws' cs (sp.set k ⟨(sp.getD k default).from_, (sp.getD k default).top + n, (sp.getD k default).end_⟩) (al ++ q) := by
  obtain ⟨h1, h2, h3, h4, f, h5, h6⟩ := h
  have hkl : k < sp.length := by omega
  have hR := spR_t (rise_all h3 _ (mem_getD hkl))
  have hsp : spR ⟨(sp.getD k default).from_, (sp.getD k default).top + n, (sp.getD k default).end_⟩ = true := by rw [spR_iff]; simp only; omega
  refine ⟨by rw [hl, h1], by rw [List.length_set, h2], riseF_set sp 1 k _ h3 hkl hsp, fun s hs => ?_, fun j => if j = k then f j ++ q else f j, fun j hj => ?_, ?_⟩
  · rcases List.mem_or_eq_of_mem_set hs with hs | hs
    · exact h4 s hs
    · rw [hs]; exact h4 (sp.getD k default) (mem_getD hkl)
  · show Seg ws' cs _ _ (if j = k then f j ++ q else f j)
    have hjl : j < sp.length := by omega
    have hRj := spR_t (rise_all h3 _ (mem_getD hjl))
    by_cases hjk : j = k
    · subst hjk
      rw [getD_set hjl, if_pos rfl, if_pos rfl]
      exact ((h5 j hj).congr hcs hl (fun x h7 h8 => hg x (by omega) (.inl h8))).1.append hq
    · rw [getD_set hjl, if_neg (fun e => hjk e.symm), if_neg hjk]
      refine ((h5 j hj).congr hcs hl (fun x h7 h8 => hg x (by omega) ?_)).1
      rcases Nat.lt_or_ge j k with hlt | hge
      · have := riseF_ix sp 1 h3 j k hlt hkl
        omega
      · have := riseF_ix sp 1 h3 k j (by omega) hjl
        omega
  · rw [List.perm_iff_count] at h6 ⊢
    intro a
    have := h6 a
    simp only [List.count_append] at this ⊢
    obtain rfl | rfl | rfl : k = 0 ∨ k = 1 ∨ k = 2 := by omega
    all_goals simp [List.count_append]; omega
theorem gapE_zero {ws : List Int} {a k : Int} (h : gapE ws a k = 0) : 1 ≤ k ∧ thereB ws.length a k = true := by
  unfold gapE at h
  split at h
  · cases h
  split at h
  · cases h
  rename_i h1 h2
  exact ⟨by omega, Classical.not_not.1 h2⟩
theorem gapW_len {ws : List Int} {a k : Int} : (gapW ws a k).length = ws.length := by unfold gapW; split <;> simp
theorem gapW_gi {ws : List Int} {a k x : Int} (ha : 1 ≤ a) (h0 : 0 ≤ x) (hx : x < a ∨ a + k ≤ x) (hk : 1 ≤ k) : gi (gapW ws a k) x = gi ws x := by
  unfold gapW
  split
  · rw [gi_set_ne (by omega), gi_set_ne (by omega)]
  · rw [gi_set_ne (by omega)]
theorem gap_seg {ws : List Int} {cs : List Cls} {a k : Int} (h : gapE ws a k = 0) : Seg (gapW ws a k) cs a (a + k) [] := by
  obtain ⟨h1, h2⟩ := gapE_zero h
  have h3 := thereB_t h2
  have hof : ∀ b : Bool, hdOf (hdW ⟨0, 0, 0, b, false, false⟩) = ⟨0, 0, 0, b, false, false⟩ := fun b => hdOf_hdW hdR_gap
  by_cases hk : 1 < k
  · have g1 : gi (gapW ws a k) a = hdW ⟨0, 0, 0, decide (k = 1), false, false⟩ := by
      unfold gapW; rw [if_pos hk, gi_set_ne (by omega), gi_set_eq (by omega)]
    have g2 : gi (gapW ws a k) (a + 1) = k := by
      unfold gapW; rw [if_pos hk, gi_set_eq (by rw [List.length_set]; omega)]
    have hd : decide (k = 1) = false := by simp; omega
    rw [hd] at g1
    have hat : atF (gapW ws a k) cs a = (0, ⟨⟨0, 0, 0, false, false, false⟩, 0, 0, k⟩) := by
      have := atF_gap (ws := gapW ws a k) (cs := cs) (a := a) ((thereB_iff _ _ _).2 (by rw [gapW_len]; omega)) (by rw [g1, hof]; exact hdR_gap) (by rw [g1, hof]; simp) (by rw [g1, hof]; simp) (by rw [gapW_len]; omega) (by rw [g2]; omega) (by rw [g2, gapW_len]; exact h2)
      rw [this, g1, hof, g2]
    have hT : atT (gapW ws a k) cs a = ⟨⟨0, 0, 0, false, false, false⟩, 0, 0, k⟩ := by unfold atT; rw [hat]
    refine .gap (by unfold atE; rw [hat]) (by rw [hT]) ?_
    rw [hT]; exact .nil _
  · have hk1 : k = 1 := by omega
    subst hk1
    have g1 : gi (gapW ws a 1) a = hdW ⟨0, 0, 0, true, false, false⟩ := by
      unfold gapW; rw [if_neg (by omega), gi_set_eq (by omega)]; rfl
    have hat : atF (gapW ws a 1) cs a = (0, ⟨⟨0, 0, 0, true, false, false⟩, 0, 0, 1⟩) := by
      have := atF_one (ws := gapW ws a 1) (cs := cs) (a := a) ((thereB_iff _ _ _).2 (by rw [gapW_len]; omega)) (by rw [g1, hof]; exact hdR_gap) (by rw [g1, hof]) (by rw [g1, hof])
      rw [this, g1, hof]
    have hT : atT (gapW ws a 1) cs a = ⟨⟨0, 0, 0, true, false, false⟩, 0, 0, 1⟩ := by unfold atT; rw [hat]
    refine .gap (by unfold atE; rw [hat]) (by rw [hT]) ?_
    rw [hT]; exact .nil _
theorem gi_fillW_out {ws : List Int} {a k : Nat} {v x : Int} (h : x.toNat < a ∨ a + k ≤ x.toNat) : gi (fillW ws a k v) x = gi ws x := by
  unfold gi fillW
  simp only [List.getD_eq_getElem?_getD, List.getElem?_mapIdx]
  cases ws[x.toNat]? with
  | none => rfl
  | some y => simp only [Option.map_some, Option.getD_some]; rw [if_neg (by omega)]
theorem gi_fillW_in {ws : List Int} {a k : Nat} {v x : Int} (h1 : a ≤ x.toNat) (h2 : x.toNat < a + k) (h3 : x.toNat < ws.length) : gi (fillW ws a k v) x = v := by
  unfold gi fillW
  simp only [List.getD_eq_getElem?_getD, List.getElem?_mapIdx, List.getElem?_eq_getElem h3, Option.map_some, Option.getD_some]
  rw [if_pos ⟨h1, h2⟩]
theorem layA_len {ws : List Int} {cs : List Cls} {a n m d : Int} {s : Bool} {k : Nat} : (layA ws cs a n m d s k).length = ws.length := by unfold layA; rw [numsW_len, List.length_set, layW_len]
theorem layA_gi {ws : List Int} {cs : List Cls} {a n m d x : Int} {s : Bool} {k : Nat} (hcs : ∀ x ∈ cs, clsR x = true) (h : layE ws cs a n m = 0) (hk : (k : Int) ≤ (cget cs n).data) (h0 : 0 ≤ x) (hx : x < a ∨ a + layWords cs n m ≤ x) : gi (layA ws cs a n m d s k) x = gi ws x := by
  obtain ⟨h1, h2⟩ := layE_zero h
  have h3 := thereB_t h2
  have h4 := shape_bd5 hcs h1
  have h5 : layWords cs n m = 2 + ((cget cs n).refs + m) + (cget cs n).data := rfl
  unfold layA
  rw [numsW_gi _ _ _ (by omega) _ _ (by omega) h0, gi_set_ne (by omega)]
  unfold layW
  rw [gi_set_ne (by omega), gi_set_ne (by omega), gi_fillW_out (by omega)]
theorem layA_ref {ws : List Int} {cs : List Cls} {a n m d j : Int} {s : Bool} {k : Nat} (hcs : ∀ x ∈ cs, clsR x = true) (h : layE ws cs a n m = 0) (h0 : 0 ≤ j) (hj : j < (cget cs n).refs + m) : gi (layA ws cs a n m d s k) (a + 2 + j) = 0 := by
  obtain ⟨h1, h2⟩ := layE_zero h
  have h3 := thereB_t h2
  have h4 := shape_bd5 hcs h1
  have h5 : layWords cs n m = 2 + ((cget cs n).refs + m) + (cget cs n).data := rfl
  unfold layA
  rw [numsW_gi _ _ _ (by omega) _ _ (by omega) (by omega), gi_set_ne (by omega)]
  unfold layW
  rw [gi_set_ne (by omega), gi_set_ne (by omega), gi_fillW_in (by omega) (by omega) (by omega)]
theorem LayInv.mem {ws : List Int} {cs : List Cls} {sp : List Spc} {al : List Int} (h : LayInv ws cs sp al) (hcs : ∀ x ∈ cs, clsR x = true) : ∀ a ∈ al, objE ws cs a = 0 ∧ ∃ j : Nat, j < 3 ∧ (sp.getD j default).from_ ≤ a ∧ a + (objT ws cs a).words ≤ (sp.getD j default).top := by
  obtain ⟨_, _, _, _, f, h5, h6⟩ := h
  intro a ha
  have ha' := h6.mem_iff.1 ha
  rw [List.mem_append, List.mem_append] at ha'
  rcases ha' with ha' | ha' | ha'
  · have := (h5 0 (by omega)).mem hcs a ha'; exact ⟨this.1, 0, by omega, this.2⟩
  · have := (h5 1 (by omega)).mem hcs a ha'; exact ⟨this.1, 1, by omega, this.2⟩
  · have := (h5 2 (by omega)).mem hcs a ha'; exact ⟨this.1, 2, by omega, this.2⟩
theorem LayInv.keep {ws ws' : List Int} {cs : List Cls} {sp : List Spc} {al : List Int} (h : LayInv ws cs sp al) (hcs : ∀ x ∈ cs, clsR x = true) {k : Nat} {n : Int} (hk : k < 3) (hl : ws'.length = ws.length) (hn : 0 ≤ n)
    (hroom : (sp.getD k default).top + n ≤ (sp.getD k default).end_) (hg : ∀ x : Int, 0 ≤ x → (x < (sp.getD k default).top ∨ (sp.getD k default).top + n ≤ x) → gi ws' x = gi ws x) :
    ∀ a ∈ al, objE ws cs a = 0 ∧ objF ws' cs a = objF ws cs a ∧ ∀ x : Int, a ≤ x → x < a + (objT ws cs a).words → gi ws' x = gi ws x := by
  intro a ha
  obtain ⟨he, j, hj, h1, h2⟩ := h.mem hcs a ha
  have hb := objT_bd hcs he
  have hsp := h.sp3
  have hRj := spR_t (rise_all h.rise _ (mem_getD (show j < sp.length by omega)))
  have hRk := spR_t (rise_all h.rise _ (mem_getD (show k < sp.length by omega)))
  have hx : ∀ x : Int, a ≤ x → x < a + (objT ws cs a).words → gi ws' x = gi ws x := fun x h3 h4 => by
    refine hg x (by omega) ?_
    rcases Nat.lt_trichotomy j k with hlt | heq | hgt
    · have := riseF_ix sp 1 h.rise j k hlt (by omega); omega
    · subst heq; omega
    · have := riseF_ix sp 1 h.rise k j hgt (by omega); omega
  exact ⟨he, objF_congr hl (hx a (by omega) (by omega)) (hx (a + 1) (by omega) (by omega)), hx⟩
/-- References of what is there stay in what is there. -/
theorem Clo.keep {ws ws' : List Int} {cs : List Cls} {al q : List Int} (h : Clo ws cs al) (hcs : ∀ x ∈ cs, clsR x = true) (hk : ∀ a ∈ al, objF ws' cs a = objF ws cs a ∧ ∀ x : Int, a ≤ x → x < a + (objT ws cs a).words → gi ws' x = gi ws x)
    (hq : ∀ a ∈ q, objE ws' cs a = 0 ∧ ∀ j : Nat, (j : Int) < (objT ws' cs a).refs → gi ws' (a + 2 + j) = 0) : Clo ws' cs (al ++ q) := by
  intro a ha
  rcases List.mem_append.1 ha with ha | ha
  · obtain ⟨h1, h2⟩ := h a ha
    obtain ⟨h3, h4⟩ := hk a ha
    have hb := objT_bd hcs h1
    have hT : objT ws' cs a = objT ws cs a := by unfold objT; rw [h3]
    refine ⟨by unfold objE; rw [h3]; exact h1, fun j hj => ?_⟩
    rw [hT] at hj
    rw [h4 _ (by omega) (by omega)]
    exact (h2 j hj).imp id fun h => List.mem_append_left _ h
  · exact ⟨(hq a ha).1, fun j hj => .inl ((hq a ha).2 j hj)⟩
theorem layS_inv {ws : List Int} {cs : List Cls} {sp : List Spc} {al : List Int} (h : LayInv ws cs sp al) (hcl : Clo ws cs al) (hcs : ∀ x ∈ cs, clsR x = true) (h64 : cs.length < 64) {c d u : Int} {s : Bool} (hd : 0 ≤ d) (hu : 0 ≤ u) :
    LayInv (layS ws cs sp al c d u s).1 cs (layS ws cs sp al c d u s).2.1 (layS ws cs sp al c d u s).2.2.1 ∧ Clo (layS ws cs sp al c d u s).1 cs (layS ws cs sp al c d u s).2.2.1 := by
  have hk : (u % 3).toNat < 3 := by omega
  have hnb := Int.emod_nonneg c (show (cs.length : Int) + 1 ≠ 0 by omega)
  have hnl := Int.emod_lt_of_pos c (show (0 : Int) < (cs.length : Int) + 1 by omega)
  have hsp := h.sp3
  have hR := spR_t (rise_all h.rise _ (mem_getD (show (u % 3).toNat < sp.length by omega)))
  have hfr := riseF_ge sp 1 h.rise _ (mem_getD (show (u % 3).toNat < sp.length by omega))
  by_cases h0 : c % (cs.length + 1) = 0
  · by_cases h1 : d % 9 + 1 ≤ (sp.getD (u % 3).toNat default).end_ - (sp.getD (u % 3).toNat default).top ∧ gapE ws (sp.getD (u % 3).toNat default).top (d % 9 + 1) = 0
    · rw [layS_gap h0 h1.1 h1.2]
      simp only
      have hg : ∀ x : Int, 0 ≤ x → (x < (sp.getD (u % 3).toNat default).top ∨ (sp.getD (u % 3).toNat default).top + (d % 9 + 1) ≤ x) → gi (gapW ws (sp.getD (u % 3).toNat default).top (d % 9 + 1)) x = gi ws x := fun x hx0 hx => gapW_gi (by omega) hx0 hx (by omega)
      have h3 := h.step hcs hk gapW_len (by omega) (by omega) hg (gap_seg h1.2)
      have h4 := h.keep hcs hk gapW_len (by omega) (by omega) hg
      have h5 := hcl.keep (q := []) hcs (fun a ha => (h4 a ha).2) (by simp)
      rw [List.append_nil] at h3 h5
      exact ⟨h3, h5⟩
    · rw [layS_gapno h0 h1]; exact ⟨h, hcl⟩
  · by_cases h1 : layWords cs (c % (cs.length + 1)) (layLen cs (c % (cs.length + 1)) d) ≤ (sp.getD (u % 3).toNat default).end_ - (sp.getD (u % 3).toNat default).top ∧ layE ws cs (sp.getD (u % 3).toNat default).top (c % (cs.length + 1)) (layLen cs (c % (cs.length + 1)) d) = 0
    · rw [layS_obj h0 rfl h1.1 h1.2]
      simp only
      have hz := layE_zero h1.2
      have hbd := shape_bd5 hcs hz.1
      have hlw : layWords cs (c % (cs.length + 1)) (layLen cs (c % (cs.length + 1)) d) = 2 + ((cget cs (c % (cs.length + 1))).refs + layLen cs (c % (cs.length + 1)) d) + (cget cs (c % (cs.length + 1))).data := rfl
      have hg : ∀ x : Int, 0 ≤ x → (x < (sp.getD (u % 3).toNat default).top ∨ (sp.getD (u % 3).toNat default).top + layWords cs (c % (cs.length + 1)) (layLen cs (c % (cs.length + 1)) d) ≤ x) → gi (layA ws cs (sp.getD (u % 3).toNat default).top (c % (cs.length + 1)) (layLen cs (c % (cs.length + 1)) d) d s (cget cs (c % (cs.length + 1))).data.toNat) x = gi ws x :=
        fun x hx0 hx => layA_gi hcs h1.2 (by omega) hx0 hx
      have hob := layA_obj (s := s) hcs (by omega) hd h1.2 (cget cs (c % (cs.length + 1))).data.toNat
      have hoE : objE (layA ws cs (sp.getD (u % 3).toNat default).top (c % (cs.length + 1)) (layLen cs (c % (cs.length + 1)) d) d s (cget cs (c % (cs.length + 1))).data.toNat) cs (sp.getD (u % 3).toNat default).top = 0 := by unfold objE; rw [hob]
      have hoT : objT (layA ws cs (sp.getD (u % 3).toNat default).top (c % (cs.length + 1)) (layLen cs (c % (cs.length + 1)) d) d s (cget cs (c % (cs.length + 1))).data.toNat) cs (sp.getD (u % 3).toNat default).top = ⟨layHd cs (c % (cs.length + 1)) d s, (cget cs (c % (cs.length + 1))).refs + layLen cs (c % (cs.length + 1)) d, (cget cs (c % (cs.length + 1))).data, layWords cs (c % (cs.length + 1)) (layLen cs (c % (cs.length + 1)) d)⟩ := by unfold objT; rw [hob]
      have hseg := Seg.one hoE
      rw [hoT] at hseg
      have h3 := h.step hcs hk layA_len (by omega) (by omega) hg hseg
      have h4 := h.keep hcs hk layA_len (by omega) (by omega) hg
      refine ⟨h3, hcl.keep hcs (fun a ha => (h4 a ha).2) fun a ha => ?_⟩
      simp only [List.mem_singleton] at ha
      subst ha
      refine ⟨hoE, fun j hj => ?_⟩
      rw [hoT] at hj
      exact layA_ref hcs h1.2 (by omega) hj
    · rw [layS_objno h0 rfl h1]; exact ⟨h, hcl⟩
end Go.Proofs.YtmmmbkmjkpfleaaGreat
