/- Plain functions: what can't be slid. No statement of the seat is proved here; conditions: none. -/
import Derived.Test.YtmmmbkmjkpfleaaPureT
namespace Go.Proofs.Ytmmmbkmjkpfleaa
open Go Go.RowKit

theorem sorted_snoc {q : List Int} {x : Int} (h : sortedB q = true) (hx : ∀ y ∈ q, y ≤ x) : sortedB (q ++ [x]) = true := sortedB_yes fun i h0 hi hlt => by
  have hall := List.all_eq_true.1 (show (List.range q.length).all _ = true from h)
  rw [List.length_append, List.length_singleton] at hi
  by_cases hq : i < q.length
  · rw [getD_app hq, getD_app (by omega)] at hlt
    have := of_decide_eq_true (hall i (List.mem_range.2 hq))
    omega
  · have hie : i = q.length := by omega
    subst hie
    rw [getD_app (q := q.length - 1) (by omega)] at hlt
    have h1 : (q ++ [x]).getD q.length default = x := by rw [List.getD_eq_getElem?_getD, List.getElem?_append_right (by omega)]; simp
    rw [h1] at hlt
    have := hx _ (mem_getD (show q.length - 1 < q.length by omega))
    omega
theorem adj_snoc {q : List Int} {x : Int} (h : noAdjB q = true) (hx : ∀ y ∈ q, y ≠ x) : noAdjB (q ++ [x]) = true := noAdjB_yes fun i h0 hi heq => by
  have hall := List.all_eq_true.1 (show (List.range q.length).all _ = true from h)
  rw [List.length_append, List.length_singleton] at hi
  by_cases hq : i < q.length
  · rw [getD_app hq, getD_app (by omega)] at heq
    have := of_decide_eq_true (hall i (List.mem_range.2 hq))
    omega
  · have hie : i = q.length := by omega
    subst hie
    rw [getD_app (q := q.length - 1) (by omega)] at heq
    have h1 : (q ++ [x]).getD q.length default = x := by rw [List.getD_eq_getElem?_getD, List.getElem?_append_right (by omega)]; simp
    rw [h1] at heq
    exact hx _ (mem_getD (show q.length - 1 < q.length by omega)) heq.symm
section
variable {ws : List Int} {cs : List Cls} {sp : List Spc} {al fr q rt : List Int}
/-- Each object's words lie below 500. -/
theorem LayInv.lt499 (h : LayInv ws cs sp al) (hcs : ∀ x ∈ cs, clsR x = true) : ∀ x ∈ al, 1 ≤ x ∧ x < 499 := fun x hx => by
  obtain ⟨he, j, hj, h1, h2⟩ := h.mem hcs x hx
  have hb := objT_bd hcs he
  have hl := h.len
  omega
theorem ref_dup (h : Stays ws cs al fr q) (h0 : 0 < q.length) : slideE ws cs sp (q ++ [q.getD (q.length - 1) default]) rt = 1 := slideE_arg fun a => by
  refine noAdjB_no (l := q ++ [q.getD (q.length - 1) default]) (q := q.length) h0 (by simp) ?_ a.2.1
  rw [getD_app (q := q.length - 1) (by omega)]
  have h1 : ∀ z : Int, (q ++ [z]).getD q.length default = z := fun z => by rw [List.getD_eq_getElem?_getD, List.getElem?_append_right (by omega)]; simp
  rw [h1]
theorem ref_499 (hi : LayInv ws cs sp al) (hcs : ∀ x ∈ cs, clsR x = true) (h : Stays ws cs al fr q) : slideE ws cs sp (q ++ [499]) rt = 12 := by
  have hl := hi.lt499 hcs
  obtain ⟨al', h1, h2⟩ := hi.walks hcs
  have hlt : ∀ y ∈ q, y < 499 := fun y hy => (hl y (h.sub y hy)).2
  refine slideE_mem (hi.args (sorted_snoc h.sort fun y hy => by have := hlt y hy; omega) (adj_snoc h.adj fun y hy e => by have := hlt y hy; omega)) h1 fun hm => ?_
  have := hl 499 ((h2 499).2 (hm 499 (by simp)))
  omega
theorem ref_root (hi : LayInv ws cs sp al) (hcs : ∀ x ∈ cs, clsR x = true) (h : Stays ws cs al fr q) {k : Nat} (hk : k < q.length) : slideE ws cs sp q (rt ++ [q.getD k default + 1]) = 12 := by
  obtain ⟨al', h1, h2⟩ := hi.walks hcs
  have h4 : ∀ x ∈ q, x ∈ al' := fun x hx => (h2 x).1 (h.sub x hx)
  have hR := slide_res hcs (by rw [hi.sp3]; decide) (hi.args h.sort h.adj) h1 h4
  have hno : q.getD k default + 1 ∉ q := fun hm => by
    obtain ⟨j, hj, he⟩ := mem_getD_ex hm
    rcases Nat.lt_trichotomy k j with hlt | heq | hgt
    · have a := hR.asc k j hlt hj
      have b := (hR.was k hk).2
      omega
    · subst heq; omega
    · have a := hR.asc j k hgt hk
      have b := (hR.was j hj).2
      omega
  have hl := hi.lt499 hcs _ (h.sub _ (mem_getD hk))
  refine slideE_lost (hi.args h.sort h.adj) h1 h4 (.inr (List.any_eq_true.2 ⟨q.getD k default + 1, by simp, ?_⟩))
  rw [hR.Gout _ hno (by omega)]
  rfl
theorem ref_space {sp' : List Spc} (h3 : sp'.length = 3) (h0 : (sp'.getD 0 default).from_ = 0) : slideE ws cs sp' q rt = 1 := slideE_arg fun a => by
  have hr := a.2.2.1
  match sp', h3 with
  | [x, y, z], _ =>
    simp only [List.getD_cons_zero] at h0
    unfold rise at hr
    rw [riseF] at hr
    split at hr
    · rename_i h
      exact h.2 (by omega)
    · cases hr
theorem walk_spoilt (hcs : ∀ x ∈ cs, clsR x = true) {a to : Int} {r : List Int} {ws' : List Int} (h : Seg ws cs a to r) (hl : ws'.length = ws.length) : ∀ x ∈ r, (∀ y : Int, a ≤ y → y < x → gi ws' y = gi ws y) → atE ws' cs x ≠ 0 → ∀ (k : Nat) (acc : List Int), (to - a).toNat < k → (walkF ws' cs k a to acc).1 ≠ 0 := by
  induction h with
  | nil a => intro x hx; simp at hx
  | obj h1 h2 h3 ih =>
    rename_i a to r
    intro x hx hg hx0 k acc hk
    obtain ⟨k, rfl⟩ : ∃ m, k = m + 1 := ⟨k - 1, by omega⟩
    have hb := atT_bd hcs h1
    have hle := h3.le hcs
    rcases List.mem_cons.1 hx with rfl | hx
    · rw [walkF_err (by omega) hx0]; exact hx0
    · have hm := (h3.mem hcs x hx).2.1
      have hc := at_congr hcs h1 hl (hg _ (by omega) (by omega)) (fun hw => hg _ (by omega) (by omega))
      have e1 : atE ws' cs a = 0 := by unfold atE; rw [hc]; exact h1
      have e2 : atT ws' cs a = atT ws cs a := by unfold atT; rw [hc]
      rw [walkF_obj (by omega) (not_not_intro e1) (by rw [e2]; omega) (by rw [e2]; exact h2), e2]
      exact ih x hx (fun y h5 h6 => hg y (by omega) h6) hx0 k _ (by omega)
  | gap h1 h2 h3 ih =>
    rename_i a to r
    intro x hx hg hx0 k acc hk
    obtain ⟨k, rfl⟩ : ∃ m, k = m + 1 := ⟨k - 1, by omega⟩
    have hb := atT_bd hcs h1
    have hle := h3.le hcs
    have hm := (h3.mem hcs x hx).2.1
    have hc := at_congr hcs h1 hl (hg _ (by omega) (by omega)) (fun hw => hg _ (by omega) (by omega))
    have e1 : atE ws' cs a = 0 := by unfold atE; rw [hc]; exact h1
    have e2 : atT ws' cs a = atT ws cs a := by unfold atT; rw [hc]
    rw [walkF_gap (by omega) (not_not_intro e1) (by rw [e2]; omega) (by rw [e2]; exact not_not_intro h2), e2]
    exact ih x hx (fun y h5 h6 => hg y (by omega) h6) hx0 k _ (by omega)
theorem walksF_mem {ws : List Int} {cs : List Cls} : ∀ (l : List Spc) (acc al : List Int), walksF ws cs acc l = some al → ∀ s ∈ l, (walk ws cs s.from_ s.top).1 = 0
  | [], _, _, _, s, hs => by simp at hs
  | a :: l, acc, al, h, s, hs => by
    rw [walksF] at h
    split at h
    · cases h
    · rename_i h1
      rcases List.mem_cons.1 hs with rfl | hs
      · exact Classical.not_not.1 h1
      · exact walksF_mem l _ _ h s hs
theorem ref_spoilt (hi : LayInv ws cs sp al) (hcs : ∀ x ∈ cs, clsR x = true) (h : Stays ws cs al fr q) {k : Nat} (hk : k < q.length) {v : Int} (hv : v < 0) : slideE (ws.set (q.getD k default).toNat v) cs sp q rt = 12 := by
  have hl := hi.lt499 hcs _ (h.sub _ (mem_getD hk))
  have hlen := hi.len
  have hargs : SlArgs (ws.set (q.getD k default).toNat v) sp q := by
    have := hi.args h.sort h.adj
    refine ⟨this.1, this.2.1, this.2.2.1, fun q => this.2.2.2 ?_⟩
    rw [List.length_set] at q; exact q
  have hE : atE (ws.set (q.getD k default).toNat v) cs (q.getD k default) ≠ 0 := by
    have hg : gi (ws.set (q.getD k default).toNat v) (q.getD k default) = v := gi_set_eq (by omega)
    unfold atE
    rw [atF_head ((thereB_iff _ _ _).2 (by rw [List.length_set]; omega)) (by rw [hg]; exact fun q => by have := hdR_range q; omega)]
    decide
  cases hw : walksF (ws.set (q.getD k default).toNat v) cs [] sp with
  | none => exact slideE_walk hargs hw
  | some al' =>
    exfalso
    obtain ⟨_, h2, h3, _, f, h5, h6⟩ := hi
    have hm := h6.mem_iff.1 (h.sub _ (mem_getD hk))
    have key : ∀ j : Nat, j < 3 → q.getD k default ∈ f j → False := fun j hj hx => by
      have h9 := walksF_mem sp [] _ hw _ (mem_getD (show j < sp.length by omega))
      exact walk_spoilt hcs (h5 j hj) (by simp) _ hx (fun y h7 h8 => gi_set_ne (by
        have := riseF_ge sp 1 h3 _ (mem_getD (show j < sp.length by omega))
        omega)) hE _ [] (by omega) h9
    rw [List.mem_append, List.mem_append] at hm
    rcases hm with hm | hm | hm
    · exact key 0 (by omega) hm
    · exact key 1 (by omega) hm
    · exact key 2 (by omega) hm
theorem ref_lost (hi : LayInv ws cs sp al) (hcs : ∀ x ∈ cs, clsR x = true) (h : Stays ws cs al fr q) {k : Nat} (hk : k < q.length) {f : Int} (hf0 : 0 ≤ f) (hf : f < (objT ws cs (q.getD k default)).refs) : slideE (ws.set (q.getD k default + 2 + f).toNat 499) cs sp q rt = 12 := by
  have hqa := h.sub _ (mem_getD hk)
  have hm := hi.mem hcs _ hqa
  have hb := objT_bd hcs hm.1
  obtain ⟨hi2, hobj⟩ := hi.setref (v := 499) hcs hqa (p := q.getD k default + 2 + f) (by omega) (by omega)
  obtain ⟨al', h1, h2⟩ := hi2.walks hcs
  have h4 : ∀ x ∈ q, x ∈ al' := fun x hx => (h2 x).1 (h.sub x hx)
  have hargs := hi2.args h.sort h.adj
  have hR := slide_res hcs (by rw [hi.sp3]; decide) hargs h1 h4
  have hno : (499 : Int) ∉ q := fun hm => by have := hi.lt499 hcs 499 (h.sub _ hm); omega
  refine slideE_lost hargs h1 h4 (.inl (List.any_eq_true.2 ⟨q.getD k default, mem_getD hk, ?_⟩))
  have hT : objT (ws.set (q.getD k default + 2 + f).toNat 499) cs (q.getD k default) = objT ws cs (q.getD k default) := by unfold objT; rw [hobj _ hqa]
  refine lostF_yes (i := f.toNat) (by rw [hT]; omega) ?_
  have hg : gi (ws.set (q.getD k default + 2 + f).toNat 499) (q.getD k default + 2 + (f.toNat : Int)) = 499 := gi_set_same (by omega) (by omega)
  rw [hg, hR.Gout 499 hno (by decide)]
  simp
end
end Go.Proofs.Ytmmmbkmjkpfleaa
