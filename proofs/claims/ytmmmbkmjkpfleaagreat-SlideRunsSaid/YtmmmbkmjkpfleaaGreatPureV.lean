/- Plain functions: the document's slide. No statement of the seat is proved here; conditions: none. -/
import Derived.Test.YtmmmbkmjkpfleaaGreatPureU
namespace Go.Proofs.YtmmmbkmjkpfleaaGreat
open Go Go.RowKit

/-- Where an address goes. -/
def goesF (st to : List Int) (a : Int) : Option Int := if a = 0 then some 0 else if placeF st a < 0 then none else some (to.getD (placeF st a).toNat 0)
theorem placeF_get {l : List Int} {x : Int} (h : ¬ placeF l x < 0) : ∃ i : Nat, placeF l x = i ∧ i < l.length ∧ l.getD i default = x := by
  unfold placeF at h ⊢
  cases hf : l.findIdx? (· == x) with
  | none => rw [hf] at h; simp at h
  | some i =>
    rw [List.findIdx?_eq_some_iff_getElem] at hf
    obtain ⟨h1, h2, _⟩ := hf
    refine ⟨i, rfl, h1, ?_⟩
    rw [List.getD_eq_getElem?_getD, List.getElem?_eq_getElem h1]
    simpa using h2
theorem placeF_bd {l : List Int} {x : Int} : -1 ≤ placeF l x ∧ placeF l x < l.length := by
  by_cases h : placeF l x < 0
  · unfold placeF at h ⊢
    split
    · rename_i i hi; rw [hi] at h; simp at h; omega
    · omega
  · obtain ⟨i, h1, h2, _⟩ := placeF_get h
    omega
section
variable {ws : List Int} {cs : List Cls} {l : List Spc} {st : List Int}
theorem SlideRes.goes (h : SlideRes ws cs l st) (a : Int) : goesF st (slTo ws cs l st) a = slG ws cs l st a := by
  unfold goesF
  split
  · rename_i h0; rw [h0, h.G0]
  · rename_i h0
    split
    · rename_i h1; rw [h.Gout a (placeF_neg.1 h1) h0]
    · rename_i h1
      obtain ⟨i, e1, e2, e3⟩ := placeF_get h1
      rw [e1]
      have := h.G i e2
      rw [e3] at this
      rw [this]
      rfl
/-- The words with the references and the heads of what stays laid anew, none moved. -/
def adW (ws : List Int) (cs : List Cls) (G : Int → Option Int) (st : List Int) : Nat → List Int
  | 0 => ws
  | i + 1 => (adjF (adW ws cs G st i) G (st.getD i default) (objT ws cs (st.getD i default)).refs.toNat).set (st.getD i default).toNat (hdW (clrHd (objT ws cs (st.getD i default)).hd))
theorem adW_len (G : Int → Option Int) : ∀ i, (adW ws cs G st i).length = ws.length
  | 0 => rfl
  | i + 1 => by rw [adW, List.length_set, adjF_len, adW_len G i]
theorem adW_out {G : Int → Option Int} (h : SlideOk ws cs st G) : ∀ (i : Nat), i ≤ st.length → ∀ x : Int, 0 ≤ x → (∀ q : Nat, q < i → x < st.getD q default ∨ st.getD q default + wordsAt ws cs (st.getD q default) ≤ x) → gi (adW ws cs G st i) x = gi ws x
  | 0, _, _, _, _ => rfl
  | i + 1, hi, x, h0, hx => by
    obtain ⟨h1, h2, _, _⟩ := h i (by omega)
    have := hx i (by omega)
    rw [adW, gi_set_ne (by omega), adjF_gi _ _ _ h2.1 _ _ (by omega) h0]
    exact adW_out h i (by omega) x h0 (fun q hq => hx q (by omega))
theorem adW_in {G : Int → Option Int} (h : SlideOk ws cs st G) : ∀ (i : Nat), i ≤ st.length → ∀ q : Nat, q < i → ∀ d : Int, 0 ≤ d → d < wordsAt ws cs (st.getD q default) → gi (adW ws cs G st i) (st.getD q default + d) = newW ws cs G (st.getD q default) d
  | 0, _, q, hq, _, _, _ => by omega
  | i + 1, hi, q, hq, d, h0, hd => by
    obtain ⟨h1, h2, _, h4⟩ := h i (by omega)
    by_cases hqi : q = i
    · subst hqi
      have hout : ∀ x : Int, st.getD q default ≤ x → x < st.getD q default + wordsAt ws cs (st.getD q default) → gi (adW ws cs G st q) x = gi ws x := fun x a b => adW_out h q (by omega) x (by omega) (fun p hp => by have := h4 p hp; omega)
      have hl := adW_len (ws := ws) (cs := cs) (st := st) G q
      rw [adW]
      unfold newW
      split
      · rename_i hd0
        subst hd0
        rw [Int.add_zero, gi_set_eq (by rw [adjF_len]; omega)]
        rfl
      · rename_i hd0
        rw [gi_set_ne (by omega)]
        split
        · rename_i hd1
          rw [adjF_in _ G _ h2.1 _ (by rw [hl]; omega) _ (by omega) (by omega), hout _ (by omega) (by omega)]
        · rename_i hd1
          rw [adjF_gi _ _ _ h2.1 _ _ (by omega) (by omega), hout _ (by omega) (by omega)]
    · have := h4 q (by omega)
      obtain ⟨_, g2, _, _⟩ := h q (by omega)
      rw [adW, gi_set_ne (by omega), adjF_gi _ _ _ h2.1 _ _ (by omega) (by omega)]
      exact adW_in h i (by omega) q (by omega) d h0 hd
def cpF (W wz : List Int) (t a : Int) : Nat → List Int
  | 0 => W
  | k + 1 => (cpF W wz t a k).set (t + k).toNat (gi wz (a + k))
theorem cpF_len (W wz : List Int) (t a : Int) : ∀ k, (cpF W wz t a k).length = W.length
  | 0 => rfl
  | k + 1 => by rw [cpF, List.length_set, cpF_len W wz t a k]
theorem cpF_out {W wz : List Int} {t a : Int} (ht : 0 ≤ t) : ∀ (k : Nat) (x : Int), 0 ≤ x → (x < t ∨ t + k ≤ x) → gi (cpF W wz t a k) x = gi W x
  | 0, _, _, _ => rfl
  | k + 1, x, h0, hx => by rw [cpF, gi_set_ne (by omega), cpF_out ht k x h0 (by omega)]
theorem cpF_in {W wz : List Int} {t a : Int} (ht : 0 ≤ t) : ∀ (k : Nat), t + k ≤ W.length → ∀ d : Int, 0 ≤ d → d < k → gi (cpF W wz t a k) (t + d) = gi wz (a + d)
  | 0, _, d, h0, hd => by omega
  | k + 1, hl, d, h0, hd => by
    rw [cpF]
    by_cases hdk : d = k
    · subst hdk
      rw [gi_set_eq (by rw [cpF_len]; omega)]
    · rw [gi_set_ne (by omega)]
      exact cpF_in ht k (by omega) d h0 (by omega)
def cpW (ws : List Int) (cs : List Cls) (wz : List Int) (st to : List Int) : Nat → List Int
  | 0 => ws
  | i + 1 => cpF (cpW ws cs wz st to i) wz (to.getD i default) (st.getD i default) (wordsAt ws cs (st.getD i default)).toNat
theorem cpW_len (wz to : List Int) : ∀ i, (cpW ws cs wz st to i).length = ws.length
  | 0 => rfl
  | i + 1 => by rw [cpW, cpF_len, cpW_len wz to i]
/-- The words of the document, where what stays lies behind it, are those of the program. -/
theorem cpW_in (h : SlideRes ws cs l st) (hb : ∀ i : Nat, i < st.length → st.getD i default + wordsAt ws cs (st.getD i default) ≤ ws.length) (wz : List Int) : ∀ (i : Nat), i ≤ st.length → ∀ q : Nat, q < i → ∀ d : Int, 0 ≤ d → d < wordsAt ws cs (st.getD q default) →
    gi (cpW ws cs wz st (slTo ws cs l st) i) ((slTo ws cs l st).getD q default + d) = gi wz (st.getD q default + d)
  | 0, _, q, hq, _, _, _ => by omega
  | i + 1, hi, q, hq, d, h0, hd => by
    have h1 := h.le i (by omega)
    have h2 := h.was i (by omega)
    have h3 := hb i (by omega)
    rw [cpW]
    by_cases hqi : q = i
    · subst hqi
      exact cpF_in (by omega) _ (by rw [cpW_len]; omega) d h0 (by omega)
    · have h4 := h.mono q i (by omega) (by omega)
      have h5 := h.le q (by omega)
      rw [cpF_out (by omega) _ _ (by omega) (by omega)]
      exact cpW_in h hb wz i (by omega) q (by omega) d h0 hd
theorem SlideRes.bound (hcs : ∀ x ∈ cs, clsR x = true) (h : SlideRes ws cs l st) : ∀ i : Nat, i < st.length → st.getD i default + wordsAt ws cs (st.getD i default) ≤ ws.length := fun i hi => by
  have h1 := h.was i hi
  have h2 := objT_bd hcs h1.1
  have h3 := wordsAt_bd hcs h1.1
  omega
theorem SlideRes.ok (hcs : ∀ x ∈ cs, clsR x = true) (h : SlideRes ws cs l st) : SlideOk ws cs st (slG ws cs l st) := fun i hi => by
  have h1 := h.was i hi
  have h2 := objT_bd hcs h1.1
  have h3 := wordsAt_bd hcs h1.1
  refine ⟨h1.1, ⟨h2.1, h2.2.2.2.1, by omega, by omega⟩, ⟨_, h.G i hi, h.le i hi⟩, fun q hq => h.asc q i hq hi⟩
abbrev refWs (ws : List Int) (cs : List Cls) (l : List Spc) (st : List Int) : List Int := cpW ws cs (adW ws cs (slG ws cs l st) st st.length) st (slTo ws cs l st) st.length
theorem ref_word (hcs : ∀ x ∈ cs, clsR x = true) (h : SlideRes ws cs l st) {i : Nat} (hi : i < st.length) {d : Int} (h0 : 0 ≤ d) (hd : d < wordsAt ws cs (st.getD i default)) : gi (refWs ws cs l st) ((slTo ws cs l st).getD i default + d) = gi (slWs ws cs l st) ((slTo ws cs l st).getD i default + d) := by
  rw [h.word i hi d h0 hd]
  unfold refWs
  rw [cpW_in h (h.bound hcs) _ st.length (Nat.le_refl _) i hi d h0 hd]
  exact adW_in (h.ok hcs) st.length (Nat.le_refl _) i hi d h0 hd
/-- In each space the words, up to its top, are alike. -/
theorem ref_same (hcs : ∀ x ∈ cs, clsR x = true) (h : SlideRes ws cs l st) {g : Nat → List Int} (hw : Walks (slWs ws cs l st) cs (slNow ws cs l st) (slTo ws cs l st) g) {j : Nat} (hj : j < (slNow ws cs l st).length) {x : Int} (h1 : ((slNow ws cs l st).getD j default).from_ ≤ x) (h2 : x < ((slNow ws cs l st).getD j default).top) :
    gi (slWs ws cs l st) x = gi (refWs ws cs l st) x := by
  obtain ⟨y, hy, hy1, hy2⟩ := (hw.tile j hj).cover (fun y hy => by have := wordsAt_bd hcs (hw.obj j hj y hy); omega) h1 h2
  have hm : y ∈ slTo ws cs l st := by rw [← hw.cat]; exact mem_catF hj hy
  obtain ⟨i, hi, rfl⟩ := mem_getD_ex hm
  rw [h.tlen] at hi
  have he : objE (slWs ws cs l st) cs ((slTo ws cs l st).getD i default) = 0 := by unfold objE; rw [h.obj i hi]
  have hwd : wordsAt (slWs ws cs l st) cs ((slTo ws cs l st).getD i default) = wordsAt ws cs (st.getD i default) := by
    rw [← (wordsAt_bd hcs he).2.1, ← (wordsAt_bd hcs (h.was i hi).1).2.1]
    unfold objT; rw [h.obj i hi]
    rfl
  have := ref_word hcs h hi (d := x - (slTo ws cs l st).getD i default) (by omega) (by omega)
  rw [show (slTo ws cs l st).getD i default + (x - (slTo ws cs l st).getD i default) = x from by omega] at this
  exact this.symm
end
theorem slice_same {A B : List Int} {lo hi : Int} (h0 : 0 ≤ lo) (h1 : lo ≤ hi) (hA : hi ≤ A.length) (hB : hi ≤ B.length) (h : ∀ x : Int, lo ≤ x → x < hi → gi A x = gi B x) : sameB ((A.drop lo.toNat).take (hi - lo).toNat) ((B.drop lo.toNat).take (hi.toNat - lo.toNat)) = true := by
  refine same_yes (by simp; omega) fun q hq => ?_
  rw [List.length_take, List.length_drop] at hq
  have := h (lo + q) (by omega) (by omega)
  unfold gi at this
  rw [show (lo + q).toNat = lo.toNat + q from by omega] at this
  rw [List.getD_eq_getElem?_getD, List.getElem?_take_of_lt (by omega), List.getElem?_drop, List.getD_eq_getElem?_getD, List.getElem?_take_of_lt (by omega), List.getElem?_drop]
  rw [List.getD_eq_getElem?_getD, List.getD_eq_getElem?_getD] at this
  rw [List.getElem?_eq_getElem (by omega), List.getElem?_eq_getElem (by omega)] at this ⊢
  simpa using this
end Go.Proofs.YtmmmbkmjkpfleaaGreat
