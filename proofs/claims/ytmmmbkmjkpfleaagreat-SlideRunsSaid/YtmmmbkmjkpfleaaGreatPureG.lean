/- Plain functions: the moves, one after the other. No statement of the seat is proved here; conditions: none. -/
import Derived.Test.YtmmmbkmjkpfleaaGreatPureF
namespace Go.Proofs.YtmmmbkmjkpfleaaGreat
open Go Go.RowKit

theorem foldl_mset_ne (k : Int) : ∀ (prs : List (Int × Int)) (G : Int → Option Int), (∀ p ∈ prs, p.1 ≠ k) → prs.foldl (fun G q => mset G q.1 q.2) G k = G k
  | [], _, _ => rfl
  | p :: prs, G, h => by
    rw [List.foldl_cons, foldl_mset_ne k prs _ (fun q hq => h q (by simp [hq]))]
    unfold mset
    rw [if_neg (h p (by simp))]
theorem toG_ne {prs : List (Int × Int)} {k : Int} (h : ∀ p ∈ prs, p.1 ≠ k) : toG prs k = if 0 = k then some 0 else none := by
  unfold toG
  rw [foldl_mset_ne k prs _ h]
  rfl
theorem toG_split {pre post : List (Int × Int)} {k v : Int} (h : ∀ p ∈ post, p.1 ≠ k) : toG (pre ++ (k, v) :: post) k = some v := by
  unfold toG
  rw [List.foldl_append, List.foldl_cons, foldl_mset_ne k post _ h]
  unfold mset
  rw [if_pos rfl]
theorem toG_get {st to : List Int} (hl : to.length = st.length) (hlt : ∀ q i : Nat, q < i → i < st.length → st.getD q default < st.getD i default) {i : Nat} (hi : i < st.length) : toG (st.zip to) (st.getD i default) = some (to.getD i default) := by
  have h1 : st.zip to = (st.zip to).take i ++ (st.getD i default, to.getD i default) :: (st.zip to).drop (i + 1) := by
    have h := zip_take hi (by omega : i < to.length)
    conv => lhs; rw [← List.take_append_drop (i + 1) (st.zip to), h]
    simp
  rw [h1]
  refine toG_split fun p hp => ?_
  obtain ⟨j, hj, rfl⟩ := List.getElem_of_mem hp
  rw [List.length_drop, List.length_zip] at hj
  rw [List.getElem_drop, List.getElem_zip]
  have h2 := hlt i (i + 1 + j) (by omega) (by omega)
  have h3 : st.getD (i + 1 + j) default = st[i + 1 + j] := by rw [List.getD_eq_getElem?_getD, List.getElem?_eq_getElem (by omega)]; rfl
  rw [h3] at h2
  show st[i + 1 + j] ≠ _
  omega
theorem toG_out {st to : List Int} {k : Int} (h : k ∉ st) : toG (st.zip to) k = if 0 = k then some 0 else none :=
  toG_ne fun p hp e => h (by rw [← e]; exact (List.of_mem_zip hp).1)
theorem gi_moveW {ws : List Int} {to fr k : Nat} {x : Int} (h : x.toNat < to ∨ to + k ≤ x.toNat) : gi (moveW ws to fr k) x = gi ws x := by
  unfold gi moveW
  simp only [List.getD_eq_getElem?_getD, List.getElem?_mapIdx]
  cases ws[x.toNat]? with
  | none => rfl
  | some y => simp only [Option.map_some, Option.getD_some]; rw [if_neg (by omega)]
theorem gi_moveW_in {ws : List Int} {to fr k : Nat} {x : Int} (h1 : to ≤ x.toNat) (h2 : x.toNat < to + k) (h3 : x.toNat < ws.length) : gi (moveW ws to fr k) x = ws.getD (fr + (x.toNat - to)) 0 := by
  unfold gi moveW
  rw [List.getD_eq_getElem?_getD, List.getElem?_mapIdx, List.getElem?_eq_getElem h3]
  simp only [Option.map_some, Option.getD_some]
  rw [if_pos ⟨h1, h2⟩]
theorem slMove_len {ws : List Int} {cs : List Cls} {G : Int → Option Int} {a n : Int} : (slMove ws cs G a n).length = ws.length := by
  unfold slMove; rw [moveW_length, List.length_set, adjF_len]
theorem slMove_ge {ws : List Int} {cs : List Cls} {G : Int → Option Int} {a n x : Int} (ha : 1 ≤ a) (hr : 0 ≤ (objT ws cs a).refs) (hn : 2 + (objT ws cs a).refs ≤ n) (ht0 : 0 ≤ (G a).getD 0) (ht : (G a).getD 0 ≤ a) (hx : a + n ≤ x) : gi (slMove ws cs G a n) x = gi ws x := by
  unfold slMove
  rw [gi_moveW (by omega), gi_set_ne (by omega), adjF_gi _ _ _ ha _ _ (by omega) (by omega)]
theorem slMove_lt {ws : List Int} {cs : List Cls} {G : Int → Option Int} {a n x : Int} (ha : 1 ≤ a) (ht : (G a).getD 0 ≤ a) (hx0 : 0 ≤ x) (hx : x < (G a).getD 0) : gi (slMove ws cs G a n) x = gi ws x := by
  unfold slMove
  rw [gi_moveW (by omega), gi_set_ne (by omega), adjF_gi _ _ _ ha _ _ (by omega) (by omega)]
def movesW (ws : List Int) (cs : List Cls) (G : Int → Option Int) (n : Int → Int) (st : List Int) : List Int := st.foldl (fun w a => slMove w cs G a (n a)) ws
theorem movesW_step {ws : List Int} {cs : List Cls} {G : Int → Option Int} {n : Int → Int} {st : List Int} {i : Nat} (h : i < st.length) : movesW ws cs G n (st.take (i + 1)) = slMove (movesW ws cs G n (st.take i)) cs G (st.getD i default) (n (st.getD i default)) := by
  unfold movesW; rw [take_getD h, List.foldl_append]; rfl
theorem movesW_len {ws : List Int} {cs : List Cls} {G : Int → Option Int} {n : Int → Int} : ∀ (st : List Int), (movesW ws cs G n st).length = ws.length := by
  intro st
  unfold movesW
  induction st generalizing ws with
  | nil => rfl
  | cons a r ih => rw [List.foldl_cons, ih, slMove_len]
/-- What stays lies as it must for the moves. -/
def SlideOk (ws : List Int) (cs : List Cls) (st : List Int) (G : Int → Option Int) : Prop := ∀ i : Nat, i < st.length →
  objE ws cs (st.getD i default) = 0 ∧ (1 ≤ st.getD i default ∧ 0 ≤ (objT ws cs (st.getD i default)).refs ∧ 2 + (objT ws cs (st.getD i default)).refs ≤ wordsAt ws cs (st.getD i default) ∧ st.getD i default + wordsAt ws cs (st.getD i default) ≤ ws.length) ∧
  (∃ t, G (st.getD i default) = some t ∧ 1 ≤ t ∧ t ≤ st.getD i default) ∧ ∀ q : Nat, q < i → st.getD q default + wordsAt ws cs (st.getD q default) ≤ st.getD i default
theorem moves_ge {ws : List Int} {cs : List Cls} {st : List Int} {G : Int → Option Int} (h : SlideOk ws cs st G) : ∀ (i : Nat), i ≤ st.length → ∀ x : Int, 0 ≤ x → (∀ q : Nat, q < i → st.getD q default + wordsAt ws cs (st.getD q default) ≤ x) →
    gi (movesW ws cs G (wordsAt ws cs) (st.take i)) x = gi ws x
  | 0, _, x, _, _ => by rw [List.take_zero]; rfl
  | i + 1, hi, x, h0, hx => by
    obtain ⟨h1, h2, ⟨t, h3, h3a, h3b⟩, h4⟩ := h i (by omega)
    have ih := moves_ge h i (by omega)
    have hob : objF (movesW ws cs G (wordsAt ws cs) (st.take i)) cs (st.getD i default) = objF ws cs (st.getD i default) :=
      objF_congr (movesW_len _) (ih _ (by omega) h4) (ih _ (by omega) (fun q hq => by have := h4 q hq; omega))
    have hot : objT (movesW ws cs G (wordsAt ws cs) (st.take i)) cs (st.getD i default) = objT ws cs (st.getD i default) := by unfold objT; rw [hob]
    rw [movesW_step (by omega), slMove_ge h2.1 (by rw [hot]; exact h2.2.1) (by rw [hot]; exact h2.2.2.1) (by rw [h3]; simp; omega) (by rw [h3]; exact h3b) (hx i (by omega)), ih x h0 (fun q hq => hx q (by omega))]
theorem moves_obj {ws : List Int} {cs : List Cls} {st : List Int} {G : Int → Option Int} (h : SlideOk ws cs st G) {i : Nat} (hi : i < st.length) : objF (movesW ws cs G (wordsAt ws cs) (st.take i)) cs (st.getD i default) = objF ws cs (st.getD i default) := by
  obtain ⟨h1, h2, _, h4⟩ := h i hi
  exact objF_congr (movesW_len _) (moves_ge h i (by omega) _ (by omega) h4) (moves_ge h i (by omega) _ (by omega) (fun q hq => by have := h4 q hq; omega))
theorem slide_ok {ws : List Int} {cs : List Cls} (hc : ∀ x ∈ cs, clsR x = true) {l : List Spc} {st al : List Int} (hr : rise l = true) (hw : walksF ws cs [] l = some al) (h1 : sortedB st = true) (h2 : noAdjB st = true) (h3 : ∀ x ∈ st, x ∈ al) :
    SlideOk ws cs st (toG (st.zip (planR l (st.map fun a => (atT ws cs a).words)).2.1)) := by
  obtain ⟨g1, g2⟩ := plan_ok hc hr hw h1 h2 h3
  obtain ⟨s1, s2⟩ := stay_chain hc hr hw h1 h2 h3
  have hn : ∀ a ∈ st, 0 ≤ wordsAt ws cs a := fun a ha => by have := (s2 a ha).2.1; omega
  have hget := s1.get hn
  have hlt : ∀ q i : Nat, q < i → i < st.length → st.getD q default < st.getD i default := fun q i hq hi => by
    have := hget i q hq hi
    have := (s2 _ (mem_getD (show q < st.length by omega))).2.1
    omega
  intro i hi
  have hm := mem_getD (l := st) hi
  have hs := s2 _ hm
  have hb := objT_bd hc hs.1
  have hwd := wordsAt_bd hc hs.1
  have hsl := g2.get hn i hi
  refine ⟨hs.1, ⟨hb.1, by omega, by omega, by omega⟩, ⟨_, toG_get (by rw [g2.len]) hlt hi, hsl.1, hsl.2.1⟩, fun q hq => hget i q hq hi⟩
end Go.Proofs.YtmmmbkmjkpfleaaGreat
