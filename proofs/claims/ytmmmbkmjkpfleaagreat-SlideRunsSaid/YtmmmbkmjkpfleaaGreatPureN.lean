/- Plain functions: references of a world that is made. No statement of the seat is proved here; conditions: none. -/
import Derived.Test.YtmmmbkmjkpfleaaGreatPureM
namespace Go.Proofs.YtmmmbkmjkpfleaaGreat
open Go Go.RowKit

theorem Seg.chain {ws : List Int} {cs : List Cls} (hcs : ∀ x ∈ cs, clsR x = true) {a to : Int} {r : List Int} (h : Seg ws cs a to r) : Chain (wordsAt ws cs) a r := by
  induction h with
  | nil a => trivial
  | obj h1 h2 h3 ih => exact ⟨Int.le_refl _, ih⟩
  | gap h1 h2 h3 ih => have := atT_bd hcs h1; exact ih.mono (by omega)
theorem LayInv.disj {ws : List Int} {cs : List Cls} {sp : List Spc} {al : List Int} (h : LayInv ws cs sp al) (hcs : ∀ x ∈ cs, clsR x = true) : ∀ a ∈ al, ∀ b ∈ al, a < b → a + (objT ws cs a).words ≤ b := by
  obtain ⟨h1, h2, h3, h4, f, h5, h6⟩ := h
  have hm : ∀ a ∈ al, ∃ j : Nat, j < 3 ∧ a ∈ f j := fun a ha => by
    have ha' := h6.mem_iff.1 ha
    rw [List.mem_append, List.mem_append] at ha'
    rcases ha' with ha' | ha' | ha'
    · exact ⟨0, by omega, ha'⟩
    · exact ⟨1, by omega, ha'⟩
    · exact ⟨2, by omega, ha'⟩
  intro a ha b hb hab
  obtain ⟨j, hj, haj⟩ := hm a ha
  obtain ⟨k, hk, hbk⟩ := hm b hb
  have ma := (h5 j hj).mem hcs a haj
  have mb := (h5 k hk).mem hcs b hbk
  have hRj := spR_t (rise_all h3 _ (mem_getD (show j < sp.length by omega)))
  have hRk := spR_t (rise_all h3 _ (mem_getD (show k < sp.length by omega)))
  have hwb := objT_bd hcs mb.1
  rcases Nat.lt_trichotomy j k with hlt | heq | hgt
  · have := riseF_ix sp 1 h3 j k hlt (by omega); omega
  · subst heq
    have hn : ∀ x ∈ f j, 1 ≤ wordsAt ws cs x := fun x hx => by have := wordsAt_bd hcs ((h5 j hj).mem hcs x hx).1; omega
    have := ((h5 j hj).chain hcs).lt hn a haj b hbk hab
    have hw := (wordsAt_bd hcs ma.1).2.1
    omega
  · have := riseF_ix sp 1 h3 k j hgt (by omega); omega
theorem LayInv.setref {ws : List Int} {cs : List Cls} {sp : List Spc} {al : List Int} (h : LayInv ws cs sp al) (hcs : ∀ x ∈ cs, clsR x = true) {a p v : Int} (ha : a ∈ al) (h1 : a + 2 ≤ p) (h2 : p < a + (objT ws cs a).words) :
    LayInv (ws.set p.toNat v) cs sp al ∧ ∀ x ∈ al, objF (ws.set p.toNat v) cs x = objF ws cs x := by
  have hd := h.disj hcs
  have hmem := h.mem hcs
  have hea := hmem a ha
  have hba := objT_bd hcs hea.1
  refine ⟨?_, fun x hx => ?_⟩
  · obtain ⟨g1, g2, g3, g4, f, h5, h6⟩ := h
    refine ⟨by rw [List.length_set]; exact g1, g2, g3, g4, f, fun k hk => ?_, h6⟩
    by_cases hak : a ∈ f k
    · exact (h5 k hk).setref hcs a hak h1 h2
    · refine ((h5 k hk).congr hcs (by simp) fun y h7 h8 => gi_set_ne ?_).1
      obtain ⟨j, hj, h9, h10⟩ : ∃ j : Nat, j < 3 ∧ a ∈ f j ∧ True := by
        have ha' := h6.mem_iff.1 ha
        rw [List.mem_append, List.mem_append] at ha'
        rcases ha' with ha' | ha' | ha'
        · exact ⟨0, by omega, ha', trivial⟩
        · exact ⟨1, by omega, ha', trivial⟩
        · exact ⟨2, by omega, ha', trivial⟩
      have hm := (h5 j hj).mem hcs a h9
      have hRj := spR_t (rise_all g3 _ (mem_getD (show j < sp.length by omega)))
      have hRk := spR_t (rise_all g3 _ (mem_getD (show k < sp.length by omega)))
      rcases Nat.lt_trichotomy j k with hlt | heq | hgt
      · have := riseF_ix sp 1 g3 j k hlt (by omega); omega
      · subst heq; exact absurd h9 hak
      · have := riseF_ix sp 1 g3 k j hgt (by omega); omega
  · have hex := hmem x hx
    have hbx := objT_bd hcs hex.1
    refine objF_congr (by simp) (gi_set_ne ?_) (gi_set_ne ?_)
    all_goals
      rcases Int.lt_trichotomy a x with hlt | heq | hgt
      · have := hd a ha x hx hlt; omega
      · subst heq; omega
      · have := hd x hx a ha hgt; omega
theorem Clo.setref {ws : List Int} {cs : List Cls} {sp : List Spc} {al : List Int} (h : LayInv ws cs sp al) (hc : Clo ws cs al) (hcs : ∀ x ∈ cs, clsR x = true) {a p v : Int} (ha : a ∈ al) (h1 : a + 2 ≤ p) (h2 : p < a + 2 + (objT ws cs a).refs) (hv : v = 0 ∨ v ∈ al) :
    Clo (ws.set p.toNat v) cs al := by
  have hea := h.mem hcs a ha
  have hba := objT_bd hcs hea.1
  have hs := h.setref (p := p) (v := v) hcs ha h1 (by omega)
  intro x hx
  have hF := hs.2 x hx
  have hT : objT (ws.set p.toNat v) cs x = objT ws cs x := by unfold objT; rw [hF]
  refine ⟨by unfold objE; rw [hF]; exact (hc x hx).1, fun j hj => ?_⟩
  rw [hT] at hj
  have hbx := objT_bd hcs (hc x hx).1
  by_cases hp : (x + 2 + j).toNat = p.toNat
  · have : gi (ws.set p.toNat v) (x + 2 + j) = v := by
      rw [← hp]; exact gi_set_eq (by omega)
    rw [this]; exact hv
  · rw [gi_set_ne hp]; exact (hc x hx).2 j hj
def pickA (al : List Int) (k : Int) : Int := if 0 < k then al.getD (k - 1).toNat default else 0
theorem pickA_mem {al : List Int} {k : Int} (h : k ≤ al.length) : pickA al k = 0 ∨ pickA al k ∈ al := by
  unfold pickA
  split
  · exact .inr (mem_getD (by omega))
  · exact .inl rfl
def refOne (cs : List Cls) (al : List Int) (ws : List Int) (r : R3) : List Int :=
  if 0 < (objT ws cs (al.getD (r.a % al.length).toNat default)).refs then
    ws.set (al.getD (r.a % al.length).toNat default + 2 + r.b % (objT ws cs (al.getD (r.a % al.length).toNat default)).refs).toNat (pickA al (r.c % (al.length + 1)))
  else ws
def refsF (cs : List Cls) (al : List Int) (ws : List Int) (rfs : List R3) : List Int := rfs.foldl (refOne cs al) ws
theorem refsF_step {cs : List Cls} {al ws : List Int} {rfs : List R3} {i : Nat} (h : i < rfs.length) : refsF cs al ws (rfs.take (i + 1)) = refOne cs al (refsF cs al ws (rfs.take i)) (rfs.getD i default) := by
  unfold refsF; rw [take_getD h, List.foldl_append]; rfl
theorem refOne_inv {cs : List Cls} {al ws : List Int} {sp : List Spc} {r : R3} (h : LayInv ws cs sp al) (hc : Clo ws cs al) (hcs : ∀ x ∈ cs, clsR x = true) (hal : 0 < al.length) (h1 : 0 ≤ r.a) :
    LayInv (refOne cs al ws r) cs sp al ∧ Clo (refOne cs al ws r) cs al ∧ ∀ x ∈ al, objF (refOne cs al ws r) cs x = objF ws cs x := by
  have hm := Int.emod_nonneg r.a (show (al.length : Int) ≠ 0 by omega)
  have hl := Int.emod_lt_of_pos r.a (show (0 : Int) < al.length by omega)
  have ha : al.getD (r.a % al.length).toNat default ∈ al := mem_getD (by omega)
  have hk := Int.emod_lt_of_pos r.c (show (0 : Int) < (al.length : Int) + 1 by omega)
  have he := h.mem hcs _ ha
  have hb := objT_bd hcs he.1
  unfold refOne
  split
  · rename_i hr
    have h2 := Int.emod_nonneg r.b (show (objT ws cs (al.getD (r.a % al.length).toNat default)).refs ≠ 0 by omega)
    have h3 := Int.emod_lt_of_pos r.b hr
    have hs := h.setref (v := pickA al (r.c % (al.length + 1))) hcs ha (p := al.getD (r.a % al.length).toNat default + 2 + r.b % (objT ws cs (al.getD (r.a % al.length).toNat default)).refs) (by omega) (by omega)
    exact ⟨hs.1, Clo.setref h hc hcs ha (by omega) (by omega) (pickA_mem (by omega)), hs.2⟩
  · exact ⟨h, hc, fun _ _ => rfl⟩
theorem refsF_inv {cs : List Cls} {al : List Int} {sp : List Spc} (hcs : ∀ x ∈ cs, clsR x = true) (hal : 0 < al.length) : ∀ (rfs : List R3) (ws : List Int), LayInv ws cs sp al → Clo ws cs al → (∀ r ∈ rfs, 0 ≤ r.a) →
    LayInv (refsF cs al ws rfs) cs sp al ∧ Clo (refsF cs al ws rfs) cs al ∧ ∀ x ∈ al, objF (refsF cs al ws rfs) cs x = objF ws cs x
  | [], ws, h, hc, _ => ⟨h, hc, fun _ _ => rfl⟩
  | r :: l, ws, h, hc, hb => by
    have h1 := refOne_inv (r := r) h hc hcs hal (hb r (by simp))
    have h2 := refsF_inv hcs hal l (refOne cs al ws r) h1.1 h1.2.1 (fun q hq => hb q (by simp [hq]))
    exact ⟨h2.1, h2.2.1, fun x hx => by rw [← h1.2.2 x hx]; exact h2.2.2 x hx⟩
def made0 (z0 z1 z2 : Int) : LS := ⟨List.replicate 500 0, splitF 1 [z0 % 151, z1 % 151, z2 % 151], [], []⟩
theorem made0_inv {cs : List Cls} {z0 z1 z2 : Int} : LSInv cs (made0 z0 z1 z2) := by
  have h0 := Int.emod_nonneg z0 (show (151 : Int) ≠ 0 by decide)
  have h1 := Int.emod_nonneg z1 (show (151 : Int) ≠ 0 by decide)
  have h2 := Int.emod_nonneg z2 (show (151 : Int) ≠ 0 by decide)
  have g0 := Int.emod_lt_of_pos z0 (show (0 : Int) < 151 by decide)
  have g1 := Int.emod_lt_of_pos z1 (show (0 : Int) < 151 by decide)
  have g2 := Int.emod_lt_of_pos z2 (show (0 : Int) < 151 by decide)
  have hspR : ∀ a n : Int, 0 ≤ a → 0 ≤ n → a + n ≤ 4096 → spR ⟨a, a, a + n⟩ = true := fun a n h h' h'' => by rw [spR_iff]; simp only; omega
  refine ⟨⟨List.length_replicate, rfl, ?_, fun s hs => ?_, fun _ => [], fun k hk => ?_, List.Perm.refl _⟩, fun a ha => absurd ha (List.not_mem_nil), fun a ha => absurd ha (List.not_mem_nil)⟩
  · show riseF 1 (splitF 1 [z0 % 151, z1 % 151, z2 % 151]) = true
    simp only [splitF, riseF]
    rw [if_pos ⟨hspR _ _ (by omega) (by omega) (by omega), by omega⟩, if_pos ⟨hspR _ _ (by omega) (by omega) (by omega), by omega⟩, if_pos ⟨hspR _ _ (by omega) (by omega) (by omega), by omega⟩]
  · simp only [made0, splitF, List.mem_cons, List.not_mem_nil, or_false] at hs
    rcases hs with rfl | rfl | rfl <;> (simp only; omega)
  · obtain rfl | rfl | rfl : k = 0 ∨ k = 1 ∨ k = 2 := by omega
    all_goals exact .nil _
theorem layOne_yes {cs : List Cls} {L : LS} {x : Th} (h1 : (layS L.ws cs L.sp L.al x.c x.d x.u x.s).2.2.2 = true) (h2 : x.s = true) :
    (layOne cs L x).st = L.st ++ [(layS L.ws cs L.sp L.al x.c x.d x.u x.s).2.2.1.getD (((layS L.ws cs L.sp L.al x.c x.d x.u x.s).2.2.1.length : Int) - 1).toNat default] := by
  unfold layOne
  simp only
  rw [if_pos ⟨h1, h2⟩, show (((layS L.ws cs L.sp L.al x.c x.d x.u x.s).2.2.1.length : Int) - 1).toNat = (layS L.ws cs L.sp L.al x.c x.d x.u x.s).2.2.1.length - 1 from by omega]
theorem layOne_no {cs : List Cls} {L : LS} {x : Th} (h : ¬ ((layS L.ws cs L.sp L.al x.c x.d x.u x.s).2.2.2 = true ∧ x.s = true)) : (layOne cs L x).st = L.st := by
  unfold layOne
  simp only
  rw [if_neg h]
theorem refOne_nil {cs : List Cls} {ws al : List Int} {r : R3} (h : al.length = 0) : refOne cs al ws r = ws := by
  have : al = [] := List.length_eq_zero_iff.1 h
  subst this
  unfold refOne
  have h0 : objE ws cs (([] : List Int).getD (r.a % (([] : List Int).length : Int)).toNat default) ≠ 0 := by
    show objE ws cs 0 ≠ 0
    intro q
    have h1 := (objE_zero q).1
    have : atF ws cs 0 = (2, default) := atF_there (fun q => by have := thereB_t q; omega)
    unfold atE at h1
    rw [this] at h1
    cases h1
  rw [objT_err h0, if_neg (by decide)]
theorem refsF_nil {cs : List Cls} {al : List Int} (h : al.length = 0) : ∀ (rfs : List R3) (ws : List Int), refsF cs al ws rfs = ws
  | [], _ => rfl
  | r :: l, ws => by
    show refsF cs al (refOne cs al ws r) l = ws
    rw [refOne_nil h, refsF_nil h l ws]
def rootsF (al : List Int) (ros : List Int) : List Int := ros.map fun k => pickA al (k % (al.length + 1))
end Go.Proofs.YtmmmbkmjkpfleaaGreat
