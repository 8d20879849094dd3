/- Plain functions: what the laws of the slide say. No statement of the seat is proved here; conditions: none. -/
import Derived.Test.YtmmmbkmjkpfleaaPureQ
namespace Go.Proofs.Ytmmmbkmjkpfleaa
open Go Go.RowKit

theorem beq_dec {p q : Prop} [Decidable p] [Decidable q] (h : p ↔ q) : (decide p == decide q) = true := by
  by_cases hp : p
  · have hq := h.1 hp; simp [hp, hq]
  · have hq : ¬ q := fun k => hp (h.2 k); simp [hp, hq]
section
variable {ws : List Int} {cs : List Cls} {l : List Spc} {st : List Int}
abbrev slR (ws : List Int) (cs : List Cls) (l : List Spc) (st : List Int) (a : Int) : Int := (slG ws cs l st a).getD 0
theorem SlideRes.gv (h : SlideRes ws cs l st) {x : Int} (hx : x = 0 ∨ x ∈ st) : (x = 0 ∧ slR ws cs l st x = 0) ∨ ∃ i : Nat, i < st.length ∧ st.getD i default = x ∧ slR ws cs l st x = (slTo ws cs l st).getD i default := by
  by_cases h0 : x = 0
  · exact .inl ⟨h0, by unfold slR; rw [h0, h.G0]; rfl⟩
  · obtain ⟨i, hi, rfl⟩ := mem_getD_ex (hx.resolve_left h0)
    exact .inr ⟨i, hi, rfl, by unfold slR; rw [h.G i hi]; rfl⟩
theorem SlideRes.leq (h : SlideRes ws cs l st) {x : Int} (hx : x = 0 ∨ x ∈ st) : slR ws cs l st x ≤ x := by
  rcases h.gv hx with ⟨h1, h2⟩ | ⟨i, hi, h1, h2⟩
  · omega
  · have := h.le i hi; omega
theorem SlideRes.zero (h : SlideRes ws cs l st) {x : Int} (hx : x = 0 ∨ x ∈ st) : slR ws cs l st x = 0 ↔ x = 0 := by
  rcases h.gv hx with ⟨h1, h2⟩ | ⟨i, hi, h1, h2⟩
  · omega
  · have := h.le i hi; omega
theorem SlideRes.lt (h : SlideRes ws cs l st) {x y : Int} (hx : x = 0 ∨ x ∈ st) (hy : y = 0 ∨ y ∈ st) : slR ws cs l st x < slR ws cs l st y ↔ x < y := by
  rcases h.gv hx with ⟨h1, h2⟩ | ⟨i, hi, h1, h2⟩
  · rcases h.gv hy with ⟨h3, h4⟩ | ⟨j, hj, h3, h4⟩
    · omega
    · have := h.le j hj; omega
  · rcases h.gv hy with ⟨h3, h4⟩ | ⟨j, hj, h3, h4⟩
    · have := h.le i hi; omega
    · rw [h2, h4, ← h1, ← h3]
      rcases Nat.lt_trichotomy i j with hlt | heq | hgt
      · have a := h.mono i j hlt hj
        have b := h.asc i j hlt hj
        have c := (h.was i hi).2
        omega
      · subst heq; omega
      · have a := h.mono j i hgt hi
        have b := h.asc j i hgt hi
        have c := (h.was j hj).2
        omega
end
structure Wd.Good (W : Wd) (q : List Int) : Prop where
  bd : W.Bd
  ok : W.Ok
  hcs : ∀ x ∈ W.cs, clsR x = true
  inv : LayInv W.ws W.cs W.sp W.al
  clo : Clo W.ws W.cs W.al
  st : Stays W.ws W.cs W.al (W.roots ++ W.L.st) q
  qlen : q.length ≤ 60
  rlen : W.roots.length ≤ 20
  allen : W.al.length ≤ 60
theorem Wd.good {W : Wd} {q : List Int} (hb : W.Bd) (ho : W.Ok) (hs : W.Stay q) : W.Good q := by
  have h1 := Wd.inv hb ho.hcs ho.lt
  obtain ⟨s1, r, s2, s3⟩ := hs
  have h2 := stays_of s1 s2 s3
  have h3 := (laysF_len (cs := W.cs) W.ths (made0 W.z0 W.z1 W.z2)).1
  have h4 : (made0 W.z0 W.z1 W.z2).al.length = 0 := rfl
  have h5 := nodup_len h2.nd h2.sub
  have h6 := ho.ths
  have h7 : W.al.length = (laysF W.cs (made0 W.z0 W.z1 W.z2) W.ths).al.length := rfl
  refine ⟨hb, ho, ho.hcs, h1.1, h1.2, h2, by omega, ?_, by omega⟩
  have h8 := ho.ros
  unfold Wd.roots rootsF
  rw [List.length_map]; exact h8
theorem Wd.Good.root {W : Wd} {q : List Int} (h : W.Good q) : ∀ x ∈ W.roots, x = 0 ∨ x ∈ q := fun x hx => h.st.fr x (List.mem_append_left _ hx)
theorem Wd.Good.run0 {W : Wd} {q rt : List Int} (h : W.Good q) (hrt : ∀ x ∈ rt, x = 0 ∨ x ∈ q) : slideE W.ws W.cs W.sp q rt = 0 ∧ SlideRes W.ws W.cs W.sp q := by
  obtain ⟨al', h1, h2⟩ := h.inv.walks h.hcs
  have h3 := h.inv.args h.st.sort h.st.adj
  have h4 : ∀ x ∈ q, x ∈ al' := fun x hx => (h2 x).1 (h.st.sub x hx)
  have hl : 0 < W.sp.length := by rw [h.inv.sp3]; decide
  exact ⟨slide_fine h.hcs hl h3 h1 h4 h.st.clo hrt, slide_res h.hcs hl h3 h1 h4⟩
/-! ## Roots -/
section
variable {ws : List Int} {cs : List Cls} {l : List Spc} {st R : List Int}
theorem SlideRes.rlt (h : SlideRes ws cs l st) (hR : ∀ x ∈ R, x = 0 ∨ x ∈ st) {i k : Nat} (hi : i < R.length) (hk : k < R.length) :
    ((decide ((R.map fun a => (slG ws cs l st a).getD 0).getD i default < (R.map fun a => (slG ws cs l st a).getD 0).getD k default)) == (decide (R.getD i default < R.getD k default))) = true := by
  rw [getD_map' _ hi, getD_map' _ hk]
  exact beq_dec (h.lt (hR _ (mem_getD hi)) (hR _ (mem_getD hk)))
theorem SlideRes.rle (h : SlideRes ws cs l st) (hR : ∀ x ∈ R, x = 0 ∨ x ∈ st) {i : Nat} (hi : i < R.length) : ¬ R.getD i default < (R.map fun a => (slG ws cs l st a).getD 0).getD i default := by
  rw [getD_map' _ hi]
  have : (slG ws cs l st (R.getD i default)).getD 0 ≤ R.getD i default := h.leq (hR _ (mem_getD hi))
  omega
theorem SlideRes.rz (h : SlideRes ws cs l st) (hR : ∀ x ∈ R, x = 0 ∨ x ∈ st) {i : Nat} (hi : i < R.length) : ((decide ((R.map fun a => (slG ws cs l st a).getD 0).getD i default = 0)) == (decide (R.getD i default = 0))) = true := by
  rw [getD_map' _ hi]
  exact beq_dec (h.zero (hR _ (mem_getD hi)))
end
end Go.Proofs.Ytmmmbkmjkpfleaa
