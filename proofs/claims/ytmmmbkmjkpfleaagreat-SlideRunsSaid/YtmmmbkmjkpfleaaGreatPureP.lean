/- Plain functions: what lies where behind a sliding. No statement of the seat is proved here; conditions: none. -/
import Derived.Test.YtmmmbkmjkpfleaaGreatPureO
namespace Go.Proofs.YtmmmbkmjkpfleaaGreat
open Go Go.RowKit

/-- One behind the other, from a place up to another one, nothing between. -/
def Tile (n : Int → Int) : Int → List Int → Int → Prop
  | a, [], to => a = to
  | a, x :: r, to => x = a ∧ Tile n (a + n a) r to
theorem Tile.snoc {n : Int → Int} : ∀ {r : List Int} {a to x : Int}, Tile n a r to → x = to → Tile n a (r ++ [x]) (to + n to)
  | [], a, to, x, h, hx => by
    cases h; subst hx; exact ⟨rfl, rfl⟩
  | y :: r, a, to, x, h, hx => ⟨h.1, Tile.snoc h.2 hx⟩
theorem Tile.cover {n : Int → Int} : ∀ {r : List Int} {a to x : Int}, Tile n a r to → (∀ y ∈ r, 1 ≤ n y) → a ≤ x → x < to → ∃ y ∈ r, y ≤ x ∧ x < y + n y
  | [], a, to, x, h, _, h1, h2 => by cases h; omega
  | y :: r, a, to, x, h, hn, h1, h2 => by
    obtain ⟨rfl, h⟩ := h
    by_cases hx : x < y + n y
    · exact ⟨y, by simp, h1, hx⟩
    · obtain ⟨z, hz, h3⟩ := Tile.cover h (fun z hz => hn z (by simp [hz])) (by omega) h2
      exact ⟨z, by simp [hz], h3⟩
theorem Tile.sum {n : Int → Int} : ∀ {r : List Int} {a to : Int}, Tile n a r to → to - a = (r.map n).sum
  | [], a, to, h => by cases h; simp
  | y :: r, a, to, h => by
    obtain ⟨rfl, h⟩ := h
    have := Tile.sum h
    rw [List.map_cons, List.sum_cons]; omega
theorem Tile.congr {n m : Int → Int} : ∀ {r : List Int} {a to : Int}, Tile n a r to → (∀ y ∈ r, m y = n y) → Tile m a r to
  | [], _, _, h, _ => h
  | y :: r, a, to, h, hm => by
    obtain ⟨rfl, h⟩ := h
    exact ⟨rfl, by rw [hm y (by simp)]; exact Tile.congr h (fun z hz => hm z (by simp [hz]))⟩
theorem Tile.seg {ws : List Int} {cs : List Cls} : ∀ {r : List Int} {a to : Int}, Tile (wordsAt ws cs) a r to → (∀ y ∈ r, objE ws cs y = 0) → Seg ws cs a to r
  | [], a, to, h, _ => by cases h; exact .nil _
  | y :: r, a, to, h, ho => by
    obtain ⟨rfl, h⟩ := h
    obtain ⟨h1, h2, _⟩ := objE_zero (ho y (by simp))
    exact .obj h1 h2 (Tile.seg h (fun z hz => ho z (by simp [hz])))
def catF (g : Nat → List Int) : Nat → List Int
  | 0 => []
  | k + 1 => catF g k ++ g k
theorem catF_congr {g g' : Nat → List Int} : ∀ {m : Nat}, (∀ j : Nat, j < m → g j = g' j) → catF g m = catF g' m
  | 0, _ => rfl
  | m + 1, h => by rw [catF, catF, catF_congr (fun j hj => h j (by omega)), h m (by omega)]
theorem catF_nil {g : Nat → List Int} {k : Nat} : ∀ {m : Nat}, k ≤ m → (∀ j : Nat, k ≤ j → g j = []) → catF g m = catF g k
  | 0, hk, _ => by
    have : k = 0 := by omega
    rw [this]
  | m + 1, hk, h => by
    by_cases hm : k = m + 1
    · rw [hm]
    · rw [catF, catF_nil (by omega) h, h m (by omega), List.append_nil]
theorem mem_catF {g : Nat → List Int} {x : Int} {j : Nat} : ∀ {m : Nat}, j < m → x ∈ g j → x ∈ catF g m
  | 0, h, _ => by omega
  | m + 1, h, hx => by
    rw [catF, List.mem_append]
    by_cases hj : j = m
    · subst hj; exact .inr hx
    · exact .inl (mem_catF (by omega) hx)
/-- What a plan lays lies one behind the other in each space, from its begin up to its top. -/
theorem planF_tiles {l : List Spc} (n m : Int → Int) : ∀ (st : List Int) (now : List Spc) (k : Nat) (out : List Int) (g : Nat → List Int) (to : List Int) (now' : List Spc), now.length = l.length → k < l.length →
    planF now k (st.map n) out = some (out ++ to, now') → (∀ j : Nat, j < l.length → (now.getD j default).from_ = (l.getD j default).from_ ∧ Tile m (l.getD j default).from_ (g j) (now.getD j default).top) → (∀ j : Nat, j < l.length → (now.getD j default).top ≤ (now.getD j default).end_) → (∀ j : Nat, k < j → g j = []) →
    (∀ i : Nat, i < st.length → m (to.getD i default) = n (st.getD i default)) →
    ∃ g' : Nat → List Int, now'.length = l.length ∧ (∀ j : Nat, j < l.length → (now'.getD j default).from_ = (l.getD j default).from_ ∧ (now'.getD j default).end_ = (now.getD j default).end_ ∧ (now'.getD j default).top ≤ (now'.getD j default).end_ ∧ Tile m (l.getD j default).from_ (g' j) (now'.getD j default).top) ∧ catF g' l.length = catF g l.length ++ to
  | [], now, k, out, g, to, now', h1, h2, h3, h4, hle, h5, h6 => by
    simp only [List.map_nil, planF, Option.some.injEq, Prod.mk.injEq] at h3
    have ht : to = [] := by have := h3.1; simpa using this
    obtain ⟨_, rfl⟩ := h3
    subst ht
    exact ⟨g, h1, fun j hj => ⟨(h4 j hj).1, rfl, hle j hj, (h4 j hj).2⟩, by simp⟩
  | a :: r, now, k, out, g, to, now', h1, h2, h3, h4, hle, h5, h6 => by
    obtain ⟨f1, f2, f3, f4⟩ := fit_spec now (n a) _ k rfl (by omega)
    rw [List.map_cons] at h3
    by_cases hf : k + fitL (n a) (now.drop k) < now.length
    · generalize hk' : k + fitL (n a) (now.drop k) = k' at *
      rw [planF_step hk' hf] at h3
      have hlen := (planF_len _ _ _ _ _ _ h3).1
      obtain ⟨t, q, rfl⟩ : ∃ t q, to = t :: q := by
        cases to with
        | nil => simp at hlen; omega
        | cons t q => exact ⟨t, q, rfl⟩
      have hpre : ∀ (sz : List Int) (now : List Spc) (k : Nat) (out o : List Int) (q : List Spc), planF now k sz out = some (o, q) → out <+: o := by
        intro sz
        induction sz with
        | nil => intro now k out o q h; simp only [planF, Option.some.injEq, Prod.mk.injEq] at h; rw [h.1]; exact List.prefix_refl _
        | cons x sz ih =>
          intro now k out o q h
          rw [planF] at h
          split at h
          · exact (List.prefix_append _ _).trans (ih _ _ _ _ _ h)
          · cases h
      have hp := hpre _ _ _ _ _ _ h3
      have hte : (now.getD k' default).top = t := by
        obtain ⟨z, hz⟩ := hp
        rw [List.append_assoc] at hz
        have := List.append_cancel_left hz
        simp only [List.singleton_append, List.cons.injEq] at this
        exact this.1
      have h3' : planF (now.set k' ⟨(now.getD k' default).from_, (now.getD k' default).top + n a, (now.getD k' default).end_⟩) k' (r.map n) (out ++ [t]) = some ((out ++ [t]) ++ q, now') := by
        rw [hte] at h3 ⊢; rw [h3]; simp
      have hmt : m t = n a := by have := h6 0 (by simp); simpa using this
      have ih := planF_tiles (l := l) n m r _ k' (out ++ [t]) (fun j => if j = k' then g j ++ [t] else g j) q now' (by rw [List.length_set]; exact h1) (by omega) h3' (fun j hj => ?_) (fun j hj => ?_) (fun j hj => ?_) (fun i hi => ?_)
      · obtain ⟨g', e1, e2, e3⟩ := ih
        refine ⟨g', e1, fun j hj => ?_, ?_⟩
        · have := e2 j hj
          rw [getD_set (by omega)] at this
          split at this
          · rename_i hjk; subst hjk; exact this
          · exact this
        · rw [e3]
          have hg : ∀ j : Nat, k' < j → g j = [] := fun j hj => h5 j (by omega)
          have c1 : catF g l.length = catF g k' ++ g k' := by
            rw [← catF]; exact catF_nil (by omega) (fun j hj => hg j (by omega))
          have c2 : catF (fun j => if j = k' then g j ++ [t] else g j) l.length = catF g k' ++ (g k' ++ [t]) := by
            rw [catF_nil (k := k' + 1) (by omega) (fun j hj => by rw [if_neg (by omega)]; exact hg j (by omega)), catF]
            simp only [if_true]
            rw [catF_congr (g' := g) (fun j hj => by rw [if_neg (by omega)])]
          rw [c1, c2]; simp
      · have h := h4 j hj
        rw [getD_set (by omega)]
        split
        · rename_i hjk
          subst hjk
          refine ⟨h.1, ?_⟩
          simp only [if_true]
          have := h.2.snoc (x := t) hte.symm
          rw [hte] at this ⊢
          rw [← hmt]; exact this
        · rename_i hjk
          rw [if_neg (fun e => hjk e.symm)]
          exact h
      · rw [getD_set (by omega)]
        have h7 := f4 hf
        split
        · rename_i hjk; subst hjk; simp only; omega
        · exact hle j hj
      · rw [if_neg (by omega)]
        exact h5 j (by omega)
      · have := h6 (i + 1) (by simp; omega); simpa using this
    · rw [planF_none rfl hf] at h3; cases h3
/-- What an object's words are behind its move. -/
def newW (ws : List Int) (cs : List Cls) (G : Int → Option Int) (a d : Int) : Int :=
  if d = 0 then hdW ⟨(objT ws cs a).hd.cls, (objT ws cs a).hd.age, 0, false, (objT ws cs a).hd.final, (objT ws cs a).hd.done⟩
  else if 2 ≤ d ∧ d < 2 + (objT ws cs a).refs then (G (gi ws (a + d))).getD 0 else gi ws (a + d)
theorem gi_set_same {ws : List Int} {j : Nat} {x a : Int} (h : a.toNat = j) (hl : j < ws.length) : gi (ws.set j x) a = x := by
  subst h; exact gi_set_eq hl
theorem adjF_in (ws : List Int) (G : Int → Option Int) (a : Int) (ha : 1 ≤ a) : ∀ (k : Nat), a + 2 + k ≤ ws.length → ∀ (x : Int), a + 2 ≤ x → x < a + 2 + k → gi (adjF ws G a k) x = (G (gi ws x)).getD 0
  | 0, _, x, h1, h2 => by omega
  | k + 1, hl, x, h1, h2 => by
    rw [adjF]
    by_cases hx : x = a + 2 + k
    · subst hx
      rw [gi_set_same rfl (by rw [adjF_len]; omega), adjF_gi ws G a ha k _ (by omega) (by omega)]
    · rw [gi_set_ne (by omega)]
      exact adjF_in ws G a ha k (by omega) x h1 (by omega)
theorem slMove_in {ws : List Int} {cs : List Cls} {G : Int → Option Int} {a n t d : Int} (ha : 1 ≤ a) (hr : 0 ≤ (objT ws cs a).refs) (hn : 2 + (objT ws cs a).refs ≤ n) (hl : a + n ≤ ws.length) (hG : G a = some t) (ht0 : 1 ≤ t) (ht : t ≤ a) (hd0 : 0 ≤ d) (hd : d < n) :
    gi (slMove ws cs G a n) (t + d) = newW ws cs G a d := by
  unfold slMove
  rw [hG]
  simp only [Option.getD_some]
  have hlen : ((adjF ws G a (objT ws cs a).refs.toNat).set a.toNat (hdW ⟨(objT ws cs a).hd.cls, (objT ws cs a).hd.age, 0, false, (objT ws cs a).hd.final, (objT ws cs a).hd.done⟩)).length = ws.length := by rw [List.length_set, adjF_len]
  rw [gi_moveW_in (by omega) (by omega) (by omega)]
  rw [show a.toNat + ((t + d).toNat - t.toNat) = (a + d).toNat from by omega]
  show gi _ (a + d) = _
  unfold newW
  split
  · rename_i h
    subst h
    rw [gi_set_same (by omega) (by rw [adjF_len]; omega)]
  · rename_i h
    rw [gi_set_ne (by omega)]
    split
    · rename_i h1
      rw [adjF_in ws G a ha _ (by omega) _ (by omega) (by omega)]
    · rename_i h1
      rw [adjF_gi ws G a ha _ _ (by omega) (by omega)]
theorem newW_congr {ws ws' : List Int} {cs : List Cls} {G : Int → Option Int} {a d n : Int} (hF : objF ws' cs a = objF ws cs a) (h : ∀ x : Int, a ≤ x → x < a + n → gi ws' x = gi ws x) (h0 : 0 ≤ d) (h1 : d < n) : newW ws' cs G a d = newW ws cs G a d := by
  have hT : objT ws' cs a = objT ws cs a := by unfold objT; rw [hF]
  unfold newW
  rw [hT, h (a + d) (by omega) (by omega)]
/-- All words behind the moves, in what has been moved. -/
theorem moves_at {ws : List Int} {cs : List Cls} {st to : List Int} {G : Int → Option Int} (h : SlideOk ws cs st G) (hG : ∀ i : Nat, i < st.length → G (st.getD i default) = some (to.getD i default))
    (hto : ∀ q i : Nat, q < i → i < st.length → to.getD q default + wordsAt ws cs (st.getD q default) ≤ to.getD i default) :
    ∀ (i : Nat), i ≤ st.length → ∀ q : Nat, q < i → ∀ d : Int, 0 ≤ d → d < wordsAt ws cs (st.getD q default) → gi (movesW ws cs G (wordsAt ws cs) (st.take i)) (to.getD q default + d) = newW ws cs G (st.getD q default) d
  | 0, _, q, hq, _, _, _ => by omega
  | i + 1, hi, q, hq, d, hd0, hd => by
    obtain ⟨h1, h2, ⟨t, h3, h3a, h3b⟩, h4⟩ := h i (by omega)
    have hob := moves_obj h (show i < st.length by omega)
    have hot : objT (movesW ws cs G (wordsAt ws cs) (st.take i)) cs (st.getD i default) = objT ws cs (st.getD i default) := by unfold objT; rw [hob]
    have hml := movesW_len (ws := ws) (cs := cs) (G := G) (n := wordsAt ws cs) (st.take i)
    have htt : t = to.getD i default := by rw [hG i (by omega)] at h3; exact (Option.some.inj h3).symm
    rw [movesW_step (by omega)]
    by_cases hqi : q = i
    · subst hqi
      rw [← htt, slMove_in h2.1 (by rw [hot]; exact h2.2.1) (by rw [hot]; exact h2.2.2.1) (by rw [hml]; exact h2.2.2.2) h3 h3a h3b hd0 hd]
      exact newW_congr hob (fun x h5 h6 => moves_ge h q (by omega) x (by omega) (fun p hp => by have := h4 p hp; omega)) hd0 hd
    · have hlt := hto q i (by omega) (by omega)
      have hq1 := h q (by omega)
      obtain ⟨t', ht', ht1, _⟩ := hq1.2.2.1
      have hte : t' = to.getD q default := by rw [hG q (by omega)] at ht'; exact (Option.some.inj ht').symm
      rw [slMove_lt h2.1 (by rw [h3]; exact h3b) (by omega) (by rw [h3]; simp only [Option.getD_some]; omega)]
      exact moves_at h hG hto i (by omega) q (by omega) d hd0 hd
end Go.Proofs.YtmmmbkmjkpfleaaGreat
