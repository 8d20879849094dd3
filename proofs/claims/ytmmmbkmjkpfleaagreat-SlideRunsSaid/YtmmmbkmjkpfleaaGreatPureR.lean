/- Plain functions: what the laws of the slide say. No statement of the seat is proved here; conditions: none. -/
import Derived.Test.YtmmmbkmjkpfleaaGreatPureQ
namespace Go.Proofs.YtmmmbkmjkpfleaaGreat
open Go Go.RowKit

section
variable {ws : List Int} {cs : List Cls} {l : List Spc} {st : List Int}
abbrev slR (ws : List Int) (cs : List Cls) (l : List Spc) (st : List Int) (a : Int) : Int := (slG ws cs l st a).getD 0
theorem SlideRes.gv (h : SlideRes ws cs l st) {x : Int} (hx : x = 0 ∨ x ∈ st) : (x = 0 ∧ slR ws cs l st x = 0) ∨ ∃ i : Nat, i < st.length ∧ st.getD i default = x ∧ slR ws cs l st x = (slTo ws cs l st).getD i default := by
  by_cases h0 : x = 0
  · exact .inl ⟨h0, by unfold slR; rw [h0, h.G0]; rfl⟩
  · obtain ⟨i, hi, rfl⟩ := mem_getD_ex (hx.resolve_left h0)
    exact .inr ⟨i, hi, rfl, by unfold slR; rw [h.G i hi]; rfl⟩
theorem SlideRes.leq (h : SlideRes ws cs l st) {x : Int} (hx : x = 0 ∨ x ∈ st) : slR ws cs l st x ≤ x := by
  rcases h.gv hx with ⟨h1, h2⟩ | ⟨i, hi, h1, h2⟩
  · omega
  · have := h.le i hi; omega
theorem SlideRes.zero (h : SlideRes ws cs l st) {x : Int} (hx : x = 0 ∨ x ∈ st) : slR ws cs l st x = 0 ↔ x = 0 := by
  rcases h.gv hx with ⟨h1, h2⟩ | ⟨i, hi, h1, h2⟩
  · omega
  · have := h.le i hi; omega
theorem SlideRes.lt (h : SlideRes ws cs l st) {x y : Int} (hx : x = 0 ∨ x ∈ st) (hy : y = 0 ∨ y ∈ st) : slR ws cs l st x < slR ws cs l st y ↔ x < y := by
  rcases h.gv hx with ⟨h1, h2⟩ | ⟨i, hi, h1, h2⟩
  · rcases h.gv hy with ⟨h3, h4⟩ | ⟨j, hj, h3, h4⟩
    · omega
    · have := h.le j hj; omega
  · rcases h.gv hy with ⟨h3, h4⟩ | ⟨j, hj, h3, h4⟩
    · have := h.le i hi; omega
    · rw [h2, h4, ← h1, ← h3]
      rcases Nat.lt_trichotomy i j with hlt | heq | hgt
      · have a := h.mono i j hlt hj
        have b := h.asc i j hlt hj
        have c := (h.was i hi).2
        omega
      · subst heq; omega
      · have a := h.mono j i hgt hi
        have b := h.asc j i hgt hi
        have c := (h.was j hj).2
        omega
end
structure Wd.Good (W : Wd) (q : List Int) : Prop where
  bd : W.Bd
  ok : W.Ok
  hcs : ∀ x ∈ W.cs, clsR x = true
  inv : LayInv W.ws W.cs W.sp W.al
  clo : Clo W.ws W.cs W.al
  st : Stays W.ws W.cs W.al (W.roots ++ W.L.st) q
  qlen : q.length ≤ 60
  rlen : W.roots.length ≤ 20
  allen : W.al.length ≤ 60
theorem Wd.good {W : Wd} {q : List Int} (hb : W.Bd) (ho : W.Ok) (hs : W.Stay q) : W.Good q := by
  have h1 := Wd.inv hb ho.hcs ho.lt
  obtain ⟨s1, r, s2, s3⟩ := hs
  have h2 := stays_of s1 s2 s3
  have h3 := (laysF_len (cs := W.cs) W.ths (made0 W.z0 W.z1 W.z2)).1
  have h4 : (made0 W.z0 W.z1 W.z2).al.length = 0 := rfl
  have h5 := nodup_len h2.nd h2.sub
  have h6 := ho.ths
  have h7 : W.al.length = (laysF W.cs (made0 W.z0 W.z1 W.z2) W.ths).al.length := rfl
  refine ⟨hb, ho, ho.hcs, h1.1, h1.2, h2, by omega, ?_, by omega⟩
  have h8 := ho.ros
  unfold Wd.roots rootsF
  rw [List.length_map]; exact h8
theorem Wd.Good.root {W : Wd} {q : List Int} (h : W.Good q) : ∀ x ∈ W.roots, x = 0 ∨ x ∈ q := fun x hx => h.st.fr x (List.mem_append_left _ hx)
theorem Wd.Good.run0 {W : Wd} {q rt : List Int} (h : W.Good q) (hrt : ∀ x ∈ rt, x = 0 ∨ x ∈ q) : slideE W.ws W.cs W.sp q rt = 0 ∧ SlideRes W.ws W.cs W.sp q := by
  obtain ⟨al', h1, h2⟩ := h.inv.walks h.hcs
  have h3 := h.inv.args h.st.sort h.st.adj
  have h4 : ∀ x ∈ q, x ∈ al' := fun x hx => (h2 x).1 (h.st.sub x hx)
  have hl : 0 < W.sp.length := by rw [h.inv.sp3]; decide
  exact ⟨slide_fine h.hcs hl h3 h1 h4 h.st.clo hrt, slide_res h.hcs hl h3 h1 h4⟩
/-! ## Walks behind it -/
theorem Tile.takeSum {n : Int → Int} : ∀ {r : List Int} {a to : Int}, Tile n a r to → (∀ y ∈ r, 0 ≤ n y) → ∀ k : Nat, 0 ≤ (((r.take k).map n).sum) ∧ (((r.take k).map n).sum) ≤ to - a
  | [], a, to, h, _, k => by cases h; simp
  | y :: r, a, to, h, hn, k => by
    obtain ⟨rfl, h⟩ := h
    have h0 := hn y (by simp)
    have h1 := Tile.takeSum h (fun z hz => hn z (by simp [hz]))
    cases k with
    | zero =>
      have := (h1 r.length).1
      have := (h1 r.length).2
      simp; omega
    | succ k =>
      have := h1 k
      rw [List.take_succ_cons, List.map_cons, List.sum_cons]; omega
structure Walks (ws : List Int) (cs : List Cls) (now : List Spc) (to : List Int) (g : Nat → List Int) : Prop where
  spr : ∀ j : Nat, j < now.length → spR (now.getD j default) = true
  walk : ∀ j : Nat, j < now.length → walk ws cs (now.getD j default).from_ (now.getD j default).top = (0, g j)
  tile : ∀ j : Nat, j < now.length → Tile (wordsAt ws cs) (now.getD j default).from_ (g j) (now.getD j default).top
  obj : ∀ j : Nat, j < now.length → ∀ y ∈ g j, objE ws cs y = 0
  cat : catF g now.length = to
theorem SlideRes.walks {ws : List Int} {cs : List Cls} {l : List Spc} {st : List Int} (hcs : ∀ x ∈ cs, clsR x = true) (h : SlideRes ws cs l st) : ∃ g, Walks (slWs ws cs l st) cs (slNow ws cs l st) (slTo ws cs l st) g := by
  obtain ⟨g, h1, h2⟩ := h.tile
  have hob : ∀ y ∈ slTo ws cs l st, objE (slWs ws cs l st) cs y = 0 := fun y hy => by
    obtain ⟨i, hi, rfl⟩ := mem_getD_ex hy
    unfold objE; rw [h.obj i (by rw [← h.tlen]; exact hi)]
  have hg : ∀ j : Nat, j < l.length → ∀ y ∈ g j, objE (slWs ws cs l st) cs y = 0 := fun j hj y hy => hob y (by rw [← h2]; exact mem_catF hj hy)
  have hn := h.nlen
  refine ⟨g, fun j hj => (h1 j (by omega)).2.2.1, fun j hj => ?_, fun j hj => ?_, fun j hj => hg j (by omega), by rw [h.nlen]; exact h2⟩
  · have := h1 j (by omega)
    rw [this.1]
    exact (this.2.2.2.seg (hg j (by omega))).walk hcs
  · have := h1 j (by omega)
    rw [this.1]; exact this.2.2.2
theorem Walks.used {ws : List Int} {cs : List Cls} {now : List Spc} {to : List Int} {g : Nat → List Int} (h : Walks ws cs now to g) {j : Nat} (hj : j < now.length) : spUsed (now.getD j default) = ((g j).map (wordsAt ws cs)).sum ∧ 0 ≤ (now.getD j default).from_ ∧ (now.getD j default).from_ ≤ (now.getD j default).top ∧ (now.getD j default).top ≤ 4096 ∧ 0 ≤ spUsed (now.getD j default) ∧ spUsed (now.getD j default) ≤ 4096 := by
  have h1 := spR_t (h.spr j hj)
  have h2 := (h.tile j hj).sum
  unfold spUsed
  rw [if_pos (h.spr j hj)]
  omega
theorem Walks.part {ws : List Int} {cs : List Cls} {now : List Spc} {to : List Int} {g : Nat → List Int} (hcs : ∀ x ∈ cs, clsR x = true) (h : Walks ws cs now to g) {j : Nat} (hj : j < now.length) (k : Nat) : 0 ≤ (((g j).take k).map (wordsAt ws cs)).sum ∧ (((g j).take k).map (wordsAt ws cs)).sum ≤ 4096 := by
  have h1 := spR_t (h.spr j hj)
  have h2 := (h.tile j hj).takeSum (fun y hy => by have := wordsAt_bd hcs (h.obj j hj y hy); omega) k
  omega
theorem Walks.one {ws : List Int} {cs : List Cls} {now : List Spc} {to : List Int} {g : Nat → List Int} (hcs : ∀ x ∈ cs, clsR x = true) (h : Walks ws cs now to g) {j : Nat} (hj : j < now.length) {k : Nat} (hk : k < (g j).length) :
    (atT ws cs ((g j).getD k default)).hd.cls ≠ 0 ∧ (((g j).take (k + 1)).map (wordsAt ws cs)).sum = (((g j).take k).map (wordsAt ws cs)).sum + (atT ws cs ((g j).getD k default)).words := by
  refine ⟨(objE_zero (h.obj j hj _ (mem_getD hk))).2.1, ?_⟩
  rw [take_getD hk, List.map_append, List.sum_append]
  simp [wordsAt]
theorem catF_len {g : Nat → List Int} : ∀ {n i : Nat}, i < n → (catF g i).length + (g i).length ≤ (catF g n).length
  | 0, i, h => by omega
  | n + 1, i, h => by
    rw [catF, List.length_append]
    by_cases hi : i = n
    · subst hi; exact Nat.le_refl _
    · have := catF_len (g := g) (show i < n by omega); omega
theorem Walks.len {ws : List Int} {cs : List Cls} {now : List Spc} {to : List Int} {g : Nat → List Int} (h : Walks ws cs now to g) {j : Nat} (hj : j < now.length) : (catF g j).length + (g j).length ≤ to.length := by rw [← h.cat]; exact catF_len hj
theorem SlideRes.sizes {ws : List Int} {cs : List Cls} {l : List Spc} {st : List Int} (hcs : ∀ x ∈ cs, clsR x = true) (h : SlideRes ws cs l st) : sameB (st.map fun a => (atT ws cs a).words) ((slTo ws cs l st).map fun a => (atT (slWs ws cs l st) cs a).words) = true := by
  refine same_yes (by rw [List.length_map, List.length_map, h.tlen]) fun q hq => ?_
  rw [List.length_map] at hq
  rw [getD_map' _ hq, getD_map' _ (by rw [h.tlen]; exact hq)]
  have h1 := h.obj q hq
  have he : objE (slWs ws cs l st) cs ((slTo ws cs l st).getD q default) = 0 := by unfold objE; rw [h1]
  have h2 := (wordsAt_bd hcs he).2.1
  have h3 := (wordsAt_bd hcs (h.was q hq).1).2.1
  unfold wordsAt at h2 h3
  rw [← h2, ← h3]
  unfold objT; rw [h1]
  rfl
/-! ## Roots -/
section
variable {ws : List Int} {cs : List Cls} {l : List Spc} {st R : List Int}
end
end Go.Proofs.YtmmmbkmjkpfleaaGreat
