/- Plain functions: more on lists and maps. No statement of the seat is proved here; conditions: none. -/
import Derived.Test.YtmmmbkmjkpfleaaGreatPureC
import Derived.Test.YtmmmbkmjkpfleaaGreatResD
namespace Go.Proofs.YtmmmbkmjkpfleaaGreat
open Go Go.RowKit

theorem encN_lk (o : Option Int) : (o.map encN).getD (.int .i64 0) = .int .i64 (o.getD 0) := by cases o <;> rfl
theorem any_lt1 {sz : List Int} {i : Nat} (h : ¬ sz.any (fun n => decide (n < 1)) = true) (hi : i < sz.length) : 1 ≤ sz.getD i default := by
  rcases Int.lt_or_le (sz.getD i default) 1 with h1 | h1
  · exact absurd (any_of_getD hi (by simpa using h1)) h
  · exact h1
theorem set_spR {now : List Spc} {k : Nat} {s : Spc} (h : ∀ x ∈ now, spR x = true) (hs : spR s = true) : ∀ x ∈ now.set k s, spR x = true := fun x hx => by
  rcases List.mem_or_eq_of_mem_set hx with h1 | h1
  · exact h x h1
  · rw [h1]; exact hs
theorem map_empty_R {l : List Spc} (h : rise l = true) : ∀ x ∈ l.map spEmpty, spR x = true := fun x hx => by
  obtain ⟨y, hy, rfl⟩ := List.mem_map.1 hx
  exact (spEmpty_R (rise_all h y hy)).1
theorem planR_bad {l : List Spc} {sz : List Int} (h : ¬ rise l = true ∨ sz.any (fun n => decide (n < 1)) = true) : planR l sz = (1, [], []) := by unfold planR; rw [if_pos h]
theorem planR_full {l : List Spc} {sz : List Int} (h1 : rise l = true) (h2 : ¬ sz.any (fun n => decide (n < 1)) = true) (h : planF (l.map spEmpty) 0 sz [] = none) : planR l sz = (3, [], []) := by
  unfold planR; rw [if_neg (by simp [h1]; simpa using h2), h]
theorem planR_ok {l : List Spc} {sz : List Int} {o : List Int} {s : List Spc} (h1 : rise l = true) (h2 : ¬ sz.any (fun n => decide (n < 1)) = true) (h : planF (l.map spEmpty) 0 sz [] = some (o, s)) : planR l sz = (0, o, s) := by
  unfold planR; rw [if_neg (by simp [h1]; simpa using h2), h]
theorem take_R {s : Spc} {n : Int} (h : spR s = true) (h1 : 1 ≤ n) (h2 : n ≤ s.end_ - s.top) : spR ⟨s.from_, s.top + n, s.end_⟩ = true := by
  have := spR_t h
  rw [spR_iff]; simp only; omega
theorem refE_ok {ws : List Int} {cs : List Cls} {a f : Int} (h : objE ws cs a = 0) (h1 : 0 ≤ f) (h2 : f < (objT ws cs a).refs) : refE ws cs a f = 0 := by
  unfold refE; rw [if_neg (not_not_intro h), if_neg (by omega)]
theorem lost_step {ws : List Int} {G : Int → Option Int} {a : Int} {i : Nat} (h : ∀ q : Nat, q < i → (G (gi ws (a + 2 + q))).isSome = true) (h1 : (G (gi ws (a + 2 + i))).isSome = true) : ∀ q : Nat, q < i + 1 → (G (gi ws (a + 2 + q))).isSome = true := fun q hq => by
  by_cases hqi : q = i
  · rw [hqi]; exact h1
  · exact h q (by omega)
theorem lostF_yes {ws : List Int} {cs : List Cls} {G : Int → Option Int} {a : Int} {i : Nat} (h : i < (objT ws cs a).refs.toNat) (h1 : ¬ (G (gi ws (a + 2 + i))).isSome = true) : lostF ws cs G a = true := by
  unfold lostF
  exact List.any_eq_true.2 ⟨i, List.mem_range.2 h, by simpa using h1⟩
theorem lostF_no {ws : List Int} {cs : List Cls} {G : Int → Option Int} {a : Int} (h : ∀ q : Nat, q < (objT ws cs a).refs.toNat → (G (gi ws (a + 2 + q))).isSome = true) : lostF ws cs G a = false := by
  unfold lostF
  rw [List.any_eq_false]
  intro q hq
  have := h q (List.mem_range.1 hq)
  simp [this]
theorem planF_len : ∀ (sz : List Int) (now : List Spc) (k : Nat) (out o : List Int) (q : List Spc), planF now k sz out = some (o, q) → o.length = out.length + sz.length ∧ q.length = now.length
  | [], now, k, out, o, q, h => by simp [planF] at h; obtain ⟨rfl, rfl⟩ := h; simp
  | n :: r, now, k, out, o, q, h => by
    rw [planF] at h
    split at h
    · have := planF_len r _ _ _ _ _ h
      simp only [List.length_append, List.length_cons, List.length_nil, List.length_set] at this ⊢
      omega
    · cases h
theorem planR_zero {l : List Spc} {sz : List Int} (h : (planR l sz).1 = 0) : rise l = true ∧ ¬ sz.any (fun n => decide (n < 1)) = true ∧ planF (l.map spEmpty) 0 sz [] = some ((planR l sz).2.1, (planR l sz).2.2) := by
  unfold planR at h ⊢
  split at h
  · cases h
  · rename_i hb
    rw [if_neg hb]
    split at h
    · rename_i o s hs
      rw [hs]
      refine ⟨?_, ?_, rfl⟩
      · exact Classical.byContradiction fun q => hb (.inl q)
      · exact fun q => hb (.inr q)
    · cases h
theorem planR_len {l : List Spc} {sz : List Int} (h : (planR l sz).1 = 0) : (planR l sz).2.1.length = sz.length := by
  have := planF_len _ _ _ _ _ _ (planR_zero h).2.2
  simpa using this.1
theorem zip_take {st to : List Int} {i : Nat} (h1 : i < st.length) (h2 : i < to.length) : (st.zip to).take (i + 1) = (st.zip to).take i ++ [(st.getD i default, to.getD i default)] := by
  have h : i < (st.zip to).length := by rw [List.length_zip]; omega
  rw [take_getD h]
  congr 2
  have g1 := get_some h1
  have g2 := get_some h2
  rw [List.getD_eq_getElem?_getD, (List.getElem?_zip_eq_some (z := (st.getD i default, to.getD i default))).2 ⟨g1, g2⟩]
  rfl
theorem toG_step {st to : List Int} {i : Nat} (h1 : i < st.length) (h2 : i < to.length) (k : Int) : mset (toG ((st.zip to).take i)) (st.getD i default) (to.getD i default) k = toG ((st.zip to).take (i + 1)) k := by
  rw [zip_take h1 h2, toG_snoc]
theorem gi_set_ne {ws : List Int} {j : Nat} {x a : Int} (h : a.toNat ≠ j) : gi (ws.set j x) a = gi ws a := by
  unfold gi; simp [List.getElem?_set, h.symm]
theorem atF_congr {ws ws' : List Int} {cs : List Cls} {a : Int} (h : ws'.length = ws.length) (h1 : gi ws' a = gi ws a) (h2 : gi ws' (a + 1) = gi ws (a + 1)) : atF ws' cs a = atF ws cs a := by
  unfold atF; rw [h, h1, h2]
theorem objF_congr {ws ws' : List Int} {cs : List Cls} {a : Int} (h : ws'.length = ws.length) (h1 : gi ws' a = gi ws a) (h2 : gi ws' (a + 1) = gi ws (a + 1)) : objF ws' cs a = objF ws cs a := by
  unfold objF atE atT; rw [atF_congr h h1 h2]
theorem adjF_len (ws : List Int) (G : Int → Option Int) (a : Int) : ∀ k, (adjF ws G a k).length = ws.length
  | 0 => rfl
  | k + 1 => by rw [adjF, List.length_set, adjF_len ws G a k]
theorem adjF_gi (ws : List Int) (G : Int → Option Int) (a : Int) (ha : 1 ≤ a) : ∀ (k : Nat) (x : Int), (x < a + 2 ∨ a + 2 + k ≤ x) → 0 ≤ x → gi (adjF ws G a k) x = gi ws x
  | 0, _, _, _ => rfl
  | k + 1, x, hx, h0 => by
    rw [adjF, gi_set_ne (by omega), adjF_gi ws G a ha k x (by omega) h0]
theorem adjF_obj {ws : List Int} {cs : List Cls} {G : Int → Option Int} {a : Int} (ha : 1 ≤ a) (k : Nat) : objF (adjF ws G a k) cs a = objF ws cs a :=
  objF_congr (adjF_len ws G a k) (adjF_gi ws G a ha k a (by omega) (by omega)) (adjF_gi ws G a ha k (a + 1) (by omega) (by omega))
theorem adjF_objE {ws : List Int} {cs : List Cls} {G : Int → Option Int} {a : Int} (ha : 1 ≤ a) (k : Nat) : objE (adjF ws G a k) cs a = objE ws cs a := by unfold objE; rw [adjF_obj ha]
theorem adjF_objT {ws : List Int} {cs : List Cls} {G : Int → Option Int} {a : Int} (ha : 1 ≤ a) (k : Nat) : objT (adjF ws G a k) cs a = objT ws cs a := by unfold objT; rw [adjF_obj ha]
theorem objT_head {ws : List Int} {cs : List Cls} {a : Int} (h : objE ws cs a = 0) : hdR (objT ws cs a).hd = true ∧ (objT ws cs a).hd = hdOf (gi ws a) := by
  obtain ⟨h1, h2, h3⟩ := objE_zero h
  rw [h3]
  unfold atE at h1
  unfold atT
  unfold atF at h1 ⊢
  split at h1
  · cases h1
  · split at h1
    · cases h1
    · rename_i q1 q2
      rw [if_neg q1, if_neg q2]
      have q2' := Classical.not_not.1 q2
      split at h1
      · rename_i q3; rw [if_pos q3]; exact ⟨q2', rfl⟩
      · rename_i q3; rw [if_neg q3]
        split at h1
        · cases h1
        · rename_i q4; rw [if_neg q4]
          split at h1
          · rename_i q5; rw [if_pos q5]
            split at h1
            · cases h1
            · rename_i q6; rw [if_neg q6]
              split at h1
              · cases h1
              · rename_i q7; rw [if_neg q7]; exact ⟨q2', rfl⟩
          · rename_i q5; rw [if_neg q5]
            split at h1
            · cases h1
            · rename_i q6; rw [if_neg q6]; exact ⟨q2', rfl⟩
theorem setHeadE_ok {ws : List Int} {cs : List Cls} {a : Int} (h : objE ws cs a = 0) : setHeadE ws cs a ⟨(objT ws cs a).hd.cls, (objT ws cs a).hd.age, 0, false, (objT ws cs a).hd.final, (objT ws cs a).hd.done⟩ = 0 := by
  unfold setHeadE
  have h1 := (hdR_iff _).1 (objT_head h).1
  rw [if_neg (not_not_intro h), if_neg]
  rintro (q | q)
  · exact q ((hdR_iff _).2 ⟨h1.1, h1.2.1, h1.2.2.1, h1.2.2.2.1, Int.le_refl 0, Int.lt_of_lt_of_le (by decide : (0 : Int) < 1) (by decide), h1.2.2.2.2.2.2⟩)
  · exact q rfl
theorem mem_step {st al : List Int} {i : Nat} (h : ∀ q : Nat, q < i → st.getD q default ∈ al) (h1 : st.getD i default ∈ al) : ∀ q : Nat, q < i + 1 → st.getD q default ∈ al := fun q hq => by
  by_cases hqi : q = i
  · rw [hqi]; exact h1
  · exact h q (by omega)
theorem mem_all {st al : List Int} (h : ∀ q : Nat, q < st.length → st.getD q default ∈ al) : ∀ x ∈ st, x ∈ al := fun x hx => by
  obtain ⟨q, hq, rfl⟩ := List.getElem_of_mem hx
  have := h q hq
  have g := get_some hq
  rw [List.getElem?_eq_getElem hq] at g
  rw [Option.some.inj g]; exact this
def sortedB (l : List Int) : Bool := (List.range l.length).all fun q => decide (q = 0 ∨ l.getD (q - 1) default ≤ l.getD q default)
theorem sortedB_yes {l : List Int} (h : ∀ q : Nat, 0 < q → q < l.length → ¬ l.getD q default < l.getD (q - 1) default) : sortedB l = true := by
  unfold sortedB
  rw [List.all_eq_true]
  intro q hq
  rw [List.mem_range] at hq
  rw [decide_eq_true_eq]
  by_cases h0 : q = 0
  · exact .inl h0
  · exact .inr (Int.not_lt.1 (h q (by omega) hq))
theorem sortedB_no {l : List Int} {q : Nat} (h0 : 0 < q) (hq : q < l.length) (h : l.getD q default < l.getD (q - 1) default) : sortedB l = false := by
  unfold sortedB
  rw [List.all_eq_false]
  exact ⟨q, List.mem_range.2 hq, by rw [decide_eq_true_eq]; omega⟩
def noAdjB (l : List Int) : Bool := (List.range l.length).all fun q => decide (q = 0 ∨ l.getD q default ≠ l.getD (q - 1) default)
theorem noAdjB_yes {l : List Int} (h : ∀ q : Nat, 0 < q → q < l.length → ¬ l.getD q default = l.getD (q - 1) default) : noAdjB l = true := by
  unfold noAdjB
  rw [List.all_eq_true]
  intro q hq
  rw [List.mem_range] at hq
  rw [decide_eq_true_eq]
  by_cases h0 : q = 0
  · exact .inl h0
  · exact .inr (h q (by omega) hq)
theorem noAdjB_no {l : List Int} {q : Nat} (h0 : 0 < q) (hq : q < l.length) (h : l.getD q default = l.getD (q - 1) default) : ¬ noAdjB l = true := by
  unfold noAdjB
  rw [Bool.not_eq_true, List.all_eq_false]
  exact ⟨q, List.mem_range.2 hq, by rw [decide_eq_true_eq]; omega⟩
theorem own_cell {l : List Int} {e : TypeId} {w : World} {g N c j : Nat} (h : (ownR e encI 1 (.slice (some ⟨g, 0, none⟩) N c) l).ok w) (hj : j < l.length) : w.cell? ⟨g, j, none⟩ = some (.int .i64 (l.getD j default)) :=
  view_cell (f := 0) (own_view h) (get_some hj) rfl (by simp [offOf])
end Go.Proofs.YtmmmbkmjkpfleaaGreat
