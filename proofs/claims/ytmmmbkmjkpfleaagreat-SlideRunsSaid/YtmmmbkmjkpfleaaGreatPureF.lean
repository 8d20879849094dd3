/- Plain functions: a plan of what stays fits, and nothing goes up. No statement of the seat is proved here; conditions: none. -/
import Derived.Test.YtmmmbkmjkpfleaaGreatPureE
namespace Go.Proofs.YtmmmbkmjkpfleaaGreat
open Go Go.RowKit

theorem riseF_ge : ∀ (l : List Spc) (e : Int), riseF e l = true → ∀ s ∈ l, e ≤ s.from_
  | [], _, _, s, hs => by simp at hs
  | a :: l, e, h, s, hs => by
    rw [riseF] at h
    split at h
    · rename_i h1
      rcases List.mem_cons.1 hs with rfl | hs
      · exact Int.not_lt.1 h1.2
      · have h2 := riseF_ge l _ h s hs
        have h3 := spR_t h1.1
        have h4 := h1.2
        omega
    · cases h
theorem riseF_ix : ∀ (l : List Spc) (e : Int), riseF e l = true → ∀ i j : Nat, i < j → j < l.length → (l.getD i default).end_ ≤ (l.getD j default).from_
  | [], _, _, _, _, _, hj => by simp at hj
  | a :: l, e, h, i, j, hij, hj => by
    rw [riseF] at h
    split at h
    · obtain ⟨j, rfl⟩ : ∃ m, j = m + 1 := ⟨j - 1, by omega⟩
      cases i with
      | zero => simpa using riseF_ge l _ h _ (mem_getD (by simpa using hj))
      | succ i => simpa using riseF_ix l _ h i j (by omega) (by simpa using hj)
    · cases h
theorem fit_spec (now : List Spc) (n : Int) : ∀ (m k : Nat), now.length - k = m → k ≤ now.length →
    k ≤ k + fitL n (now.drop k) ∧ k + fitL n (now.drop k) ≤ now.length ∧ (∀ j, k ≤ j → j < k + fitL n (now.drop k) → ¬ n ≤ (now.getD j default).end_ - (now.getD j default).top) ∧
      (k + fitL n (now.drop k) < now.length → n ≤ (now.getD (k + fitL n (now.drop k)) default).end_ - (now.getD (k + fitL n (now.drop k)) default).top)
  | 0, k, hm, hk => by
    rw [fitL_end (by omega)]
    exact ⟨by omega, hk, fun j h1 h2 => by omega, fun h => by omega⟩
  | m + 1, k, hm, hk => by
    by_cases h : n ≤ (now.getD k default).end_ - (now.getD k default).top
    · rw [fitL_here (by omega) h]
      exact ⟨by omega, hk, fun j h1 h2 => by omega, fun _ => h⟩
    · rw [fitL_next (by omega) h]
      obtain ⟨h1, h2, h3, h4⟩ := fit_spec now n m (k + 1) (by omega) (by omega)
      refine ⟨by omega, h2, fun j h5 h6 => ?_, h4⟩
      by_cases hj : j = k
      · rw [hj]; exact h
      · exact h3 j (by omega) h6
def PInv (l now : List Spc) (k : Nat) : Prop := now.length = l.length ∧ k < l.length ∧ ∀ j : Nat, j < l.length →
  (now.getD j default).from_ = (l.getD j default).from_ ∧ (now.getD j default).end_ = (l.getD j default).end_ ∧ (l.getD j default).from_ ≤ (now.getD j default).top ∧ (now.getD j default).top ≤ (l.getD j default).end_ ∧ (k < j → (now.getD j default).top = (l.getD j default).from_)
theorem getD_map' {α β : Type} [Inhabited α] [Inhabited β] (f : α → β) {l : List α} {j : Nat} (h : j < l.length) : (l.map f).getD j default = f (l.getD j default) := by
  have h1 := get_some h
  rw [List.getD_eq_getElem?_getD, List.getElem?_map, h1]; rfl
theorem PInv.start {l : List Spc} (hr : rise l = true) (hl : 0 < l.length) : PInv l (l.map spEmpty) 0 := by
  refine ⟨by simp, hl, fun j hj => ?_⟩
  rw [getD_map' _ hj]
  have h1 := rise_all hr _ (mem_getD hj)
  rw [(spEmpty_R h1).2]
  have := spR_t h1
  exact ⟨rfl, rfl, Int.le_refl _, by dsimp only; omega, fun _ => rfl⟩
theorem getD_set {l : List Spc} {i j : Nat} {x : Spc} (h : j < l.length) : (l.set i x).getD j default = if i = j then x else l.getD j default := by
  rw [List.getD_eq_getElem?_getD, List.getElem?_set]
  split
  · rename_i hij; subst hij; rw [if_pos h]; rfl
  · rw [List.getD_eq_getElem?_getD]
def Slid (n : Int → Int) : Int → List Int → List Int → Prop
  | _, [], [] => True
  | lo, a :: r, t :: q => lo ≤ t ∧ t ≤ a ∧ Slid n (t + n a) r q
  | _, _, _ => False
theorem planF_fits {l : List Spc} (hr : rise l = true) (n : Int → Int) : ∀ (st : List Int) (now : List Spc) (k : Nat) (out : List Int), PInv l now k →
    (∀ a ∈ st, 1 ≤ n a ∧ ∃ j : Nat, j < l.length ∧ (l.getD j default).from_ ≤ a ∧ a + n a ≤ (l.getD j default).end_) → Chain n (now.getD k default).top st →
    ∃ to now' k', planF now k (st.map n) out = some (out ++ to, now') ∧ Slid n (now.getD k default).top st to ∧ PInv l now' k'
  | [], now, k, out, hi, _, _ => ⟨[], now, k, by simp [planF], trivial, hi⟩
  | a :: r, now, k, out, hi, hs, hc => by
    obtain ⟨h1, h2, h3⟩ := hi
    obtain ⟨hn, j, hj, hja, hjb⟩ := hs a (by simp)
    obtain ⟨f1, f2, f3, f4⟩ := fit_spec now (n a) _ k rfl (by omega)
    have ix := riseF_ix l 1 hr
    have hkk := h3 k h2
    have hjj := h3 j hj
    have hca := hc.1
    have hkj : k ≤ j := by
      rcases Nat.lt_or_ge j k with h | h
      · have := ix j k h h2; omega
      · exact h
    have hfj : k + fitL (n a) (now.drop k) ≤ j := by
      rcases Nat.lt_or_ge j (k + fitL (n a) (now.drop k)) with h | h
      · exfalso
        refine f3 j hkj h ?_
        rcases Nat.lt_or_ge k j with h' | h'
        · have := hjj.2.2.2.2 h'; omega
        · have hjk : j = k := by omega
          subst hjk; omega
      · exact h
    generalize hf : k + fitL (n a) (now.drop k) = f at f1 f2 f3 f4 hfj
    have hfl : f < now.length := by omega
    have hff := h3 f (by omega)
    have hroom := f4 hfl
    have hta : (now.getD f default).top ≤ a := by
      rcases Nat.lt_or_ge f j with h | h
      · have := ix f j h hj; omega
      · have hfj' : f = j := by omega
        subst hfj'
        rcases Nat.lt_or_ge k f with h' | h'
        · have := hff.2.2.2.2 h'; omega
        · have hk' : f = k := by omega
          subst hk'; exact hca
    have hlo : (now.getD k default).top ≤ (now.getD f default).top := by
      rcases Nat.lt_or_ge k f with h' | h'
      · have h4 := hff.2.2.2.2 h'
        have h5 := ix k f h' (by omega)
        omega
      · have hk' : f = k := by omega
        subst hk'; exact Int.le_refl _
    have hset : (now.set f ⟨(now.getD f default).from_, (now.getD f default).top + n a, (now.getD f default).end_⟩).getD f default = ⟨(now.getD f default).from_, (now.getD f default).top + n a, (now.getD f default).end_⟩ := by
      rw [getD_set hfl, if_pos rfl]
    have hi' : PInv l (now.set f ⟨(now.getD f default).from_, (now.getD f default).top + n a, (now.getD f default).end_⟩) f := by
      refine ⟨by rw [List.length_set]; exact h1, by omega, fun q hq => ?_⟩
      rw [getD_set (by omega)]
      split
      · rename_i hfq
        subst hfq
        simp only
        omega
      · have := h3 q hq
        refine ⟨this.1, this.2.1, this.2.2.1, this.2.2.2.1, fun hfq => this.2.2.2.2 (by omega)⟩
    obtain ⟨to, now', k', g1, g2, g3⟩ := planF_fits hr n r _ f (out ++ [(now.getD f default).top]) hi' (fun b hb => hs b (by simp [hb])) (by rw [hset]; exact hc.2.mono (by simp only; omega))
    rw [hset] at g2
    refine ⟨(now.getD f default).top :: to, now', k', ?_, ⟨hlo, hta, g2⟩, g3⟩
    rw [List.map_cons, planF_step hf hfl, g1]
    simp
theorem Slid.len {n : Int → Int} : ∀ {st to : List Int} {lo : Int}, Slid n lo st to → to.length = st.length
  | [], [], _, _ => rfl
  | a :: r, t :: q, _, h => by simp [Slid.len h.2.2]
theorem Slid.get {n : Int → Int} : ∀ {st to : List Int} {lo : Int}, Slid n lo st to → (∀ a ∈ st, 0 ≤ n a) → ∀ i : Nat, i < st.length → lo ≤ to.getD i default ∧ to.getD i default ≤ st.getD i default ∧ ∀ q : Nat, q < i → to.getD q default + n (st.getD q default) ≤ to.getD i default
  | [], [], _, _, _, i, h => by simp at h
  | a :: r, t :: q, lo, h, hn, i, hi => by
    cases i with
    | zero => exact ⟨by simpa using h.1, by simpa using h.2.1, fun q hq => by omega⟩
    | succ i =>
      have h1 := Slid.get h.2.2 (fun b hb => hn b (by simp [hb])) i (by simpa using hi)
      have h0 := hn a (by simp)
      have h2 := h.1
      refine ⟨by simp only [List.getD_cons_succ]; omega, by simpa using h1.2.1, fun q hq => ?_⟩
      cases q with
      | zero => simpa using h1.1
      | succ q => simpa using h1.2.2 q (by omega)
/-- What stays can be planned, and the plan takes nothing up. -/
theorem plan_ok {ws : List Int} {cs : List Cls} (hc : ∀ x ∈ cs, clsR x = true) {l : List Spc} {st al : List Int} (hr : rise l = true) (hw : walksF ws cs [] l = some al) (h1 : sortedB st = true) (h2 : noAdjB st = true) (h3 : ∀ x ∈ st, x ∈ al) :
    (planR l (st.map fun a => (atT ws cs a).words)).1 = 0 ∧ Slid (wordsAt ws cs) 1 st (planR l (st.map fun a => (atT ws cs a).words)).2.1 := by
  obtain ⟨g1, g2⟩ := stay_chain hc hr hw h1 h2 h3
  have hany : ¬ (st.map fun a => (atT ws cs a).words).any (fun n => decide (n < 1)) = true := by
    intro h
    obtain ⟨y, hy, hy'⟩ := List.any_eq_true.1 h
    obtain ⟨a, ha, rfl⟩ := List.mem_map.1 hy
    have := (g2 a ha).2.1
    unfold wordsAt at this
    have := of_decide_eq_true hy'
    omega
  cases hst : st with
  | nil =>
    have h7 : planR l [] = (0, [], l.map spEmpty) := planR_ok hr (by simp) rfl
    rw [List.map_nil, h7]
    exact ⟨rfl, trivial⟩
  | cons a r =>
    rw [← hst]
    obtain ⟨s, hs, _⟩ := (g2 a (by rw [hst]; simp)).2.2
    have hl : 0 < l.length := List.length_pos_of_mem hs
    have hi := PInv.start hr hl
    have htop : ((l.map spEmpty).getD 0 default).top = (l.getD 0 default).from_ := by
      rw [getD_map' _ hl, (spEmpty_R (rise_all hr _ (mem_getD hl))).2]
    have hfr : 1 ≤ (l.getD 0 default).from_ := riseF_ge l 1 hr _ (mem_getD hl)
    have hch : Chain (wordsAt ws cs) ((l.map spEmpty).getD 0 default).top st := by
      rw [htop, hst]
      rw [hst] at g1
      refine ⟨?_, g1.2⟩
      obtain ⟨s', hs', h4, _⟩ := (g2 a (by rw [hst]; simp)).2.2
      obtain ⟨q, hq, rfl⟩ := List.getElem_of_mem hs'
      rcases Nat.eq_zero_or_pos q with rfl | h0
      · have : l.getD 0 default = l[0] := by rw [List.getD_eq_getElem?_getD, List.getElem?_eq_getElem hq]; rfl
        rw [this]; exact h4
      · have h5 := riseF_ix l 1 hr 0 q h0 hq
        have h6 := spR_t (rise_all hr _ (mem_getD hl))
        have : l.getD q default = l[q] := by rw [List.getD_eq_getElem?_getD, List.getElem?_eq_getElem hq]; rfl
        rw [this] at h5
        omega
    obtain ⟨to, now', k', h4, h5, h6⟩ := planF_fits hr (wordsAt ws cs) st (l.map spEmpty) 0 [] hi (fun b hb => by
      obtain ⟨h7, h8, s', hs', h9, h10⟩ := g2 b hb
      obtain ⟨q, hq, rfl⟩ := List.getElem_of_mem hs'
      have : l.getD q default = l[q] := by rw [List.getD_eq_getElem?_getD, List.getElem?_eq_getElem hq]; rfl
      have h11 := spR_t (rise_all hr _ hs')
      exact ⟨by omega, q, hq, by rw [this]; exact h9, by rw [this]; omega⟩) hch
    have h7 : planR l (st.map fun a => (atT ws cs a).words) = (0, to, now') := planR_ok hr hany (by
      have : (st.map fun a => (atT ws cs a).words) = st.map (wordsAt ws cs) := rfl
      rw [this, h4]; simp)
    rw [h7]
    refine ⟨rfl, ?_⟩
    rw [htop] at h5
    show Slid (wordsAt ws cs) 1 st to
    rw [hst] at h5 ⊢
    cases to with
    | nil => exact h5.elim
    | cons t q => exact ⟨by have := h5.1; omega, h5.2⟩
end Go.Proofs.YtmmmbkmjkpfleaaGreat
