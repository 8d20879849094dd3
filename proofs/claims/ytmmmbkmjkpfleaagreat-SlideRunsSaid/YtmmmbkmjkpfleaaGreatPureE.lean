/- Plain functions: what stays lies one behind the other, and slides down. No statement of the seat is proved here; conditions: none. -/
import Derived.Test.YtmmmbkmjkpfleaaGreatPureD
namespace Go.Proofs.YtmmmbkmjkpfleaaGreat
open Go Go.RowKit

/-- Each lies where the one before has ended, or later. -/
def Chain (n : Int → Int) : Int → List Int → Prop
  | _, [] => True
  | lo, a :: r => lo ≤ a ∧ Chain n (a + n a) r
theorem Chain.mono {n : Int → Int} : ∀ {r : List Int} {lo lo' : Int}, Chain n lo r → lo' ≤ lo → Chain n lo' r
  | [], _, _, _, _ => trivial
  | _ :: _, _, _, h, hl => ⟨Int.le_trans hl h.1, h.2⟩
theorem Chain.append {n : Int → Int} : ∀ {r q : List Int} {lo m : Int}, Chain n lo r → (∀ a ∈ r, a + n a ≤ m) → lo ≤ m → Chain n m q → Chain n lo (r ++ q)
  | [], _, _, _, _, _, hl, hq => hq.mono hl
  | a :: r, q, lo, m, h, ha, hl, hq => ⟨h.1, Chain.append h.2 (fun b hb => ha b (by simp [hb])) (ha a (by simp)) hq⟩
theorem Chain.ge {n : Int → Int} : ∀ {r : List Int} {lo : Int}, Chain n lo r → (∀ a ∈ r, 0 ≤ n a) → ∀ a ∈ r, lo ≤ a
  | [], _, _, _, _, ha => by simp at ha
  | b :: r, lo, h, hn, a, ha => by
    rcases List.mem_cons.1 ha with rfl | ha
    · exact h.1
    · have h1 := Chain.ge h.2 (fun c hc => hn c (by simp [hc])) a ha
      have h2 := hn b (by simp)
      have h3 := h.1
      omega
theorem Chain.lt {n : Int → Int} : ∀ {r : List Int} {lo : Int}, Chain n lo r → (∀ a ∈ r, 1 ≤ n a) → ∀ a ∈ r, ∀ b ∈ r, a < b → a + n a ≤ b
  | [], _, _, _, _, ha, _, _, _ => by simp at ha
  | c :: r, lo, h, hn, a, ha, b, hb, hab => by
    have hge := Chain.ge h.2 (fun d hd => by have := hn d (by simp [hd]); omega)
    rcases List.mem_cons.1 ha with rfl | ha'
    · rcases List.mem_cons.1 hb with rfl | hb'
      · omega
      · exact hge b hb'
    · rcases List.mem_cons.1 hb with rfl | hb'
      · have h1 := hge a ha'
        have h2 := hn b (by simp)
        omega
      · exact Chain.lt h.2 (fun d hd => hn d (by simp [hd])) a ha' b hb' hab
def wordsAt (ws : List Int) (cs : List Cls) (a : Int) : Int := (atT ws cs a).words
theorem walkF_chain {ws : List Int} {cs : List Cls} (hc : ∀ x ∈ cs, clsR x = true) : ∀ (k : Nat) (a to : Int) (acc : List Int), (walkF ws cs k a to acc).1 = 0 → (to - a).toNat < k → a ≤ to →
    ∃ r, (walkF ws cs k a to acc).2 = acc ++ r ∧ Chain (wordsAt ws cs) a r ∧ ∀ x ∈ r, objE ws cs x = 0 ∧ x + wordsAt ws cs x ≤ to
  | 0, a, to, acc, _, h, _ => by omega
  | k + 1, a, to, acc, h, hk, hle => by
    rw [walkF] at h ⊢
    split
    · exact ⟨[], by simp, trivial, by simp⟩
    rename_i h1
    rw [if_neg h1] at h
    split at h
    · rename_i h2; exact absurd h h2
    rename_i h2
    rw [if_neg h2]
    have h2' := Classical.not_not.1 h2
    split at h
    · cases h
    rename_i h3
    rw [if_neg h3]
    have hb := atT_bd hc h2'
    obtain ⟨r, hr1, hr2, hr3⟩ := walkF_chain hc k _ to _ h (by omega) (by omega)
    by_cases h4 : (atT ws cs a).hd.cls ≠ 0
    · rw [if_pos h4] at hr1 ⊢
      refine ⟨a :: r, by rw [hr1]; simp, ⟨Int.le_refl a, hr2⟩, fun x hx => ?_⟩
      rcases List.mem_cons.1 hx with rfl | hx
      · refine ⟨?_, by unfold wordsAt; omega⟩
        unfold objE; rw [objF_else (fun q => h4 q.2)]; exact h2'
      · exact hr3 x hx
    · rw [if_neg h4] at hr1 ⊢
      exact ⟨r, hr1, hr2.mono (by omega), hr3⟩
theorem walk_chain {ws : List Int} {cs : List Cls} (hc : ∀ x ∈ cs, clsR x = true) {a to : Int} (h : (walk ws cs a to).1 = 0) (hle : a ≤ to) : Chain (wordsAt ws cs) a (walk ws cs a to).2 ∧ ∀ x ∈ (walk ws cs a to).2, objE ws cs x = 0 ∧ x + wordsAt ws cs x ≤ to := by
  obtain ⟨r, h1, h2⟩ := walkF_chain hc _ a to [] h (by omega) hle
  unfold walk
  rw [h1, List.nil_append]
  exact h2
theorem wordsAt_bd {ws : List Int} {cs : List Cls} (hc : ∀ x ∈ cs, clsR x = true) {a : Int} (h : objE ws cs a = 0) : 2 ≤ wordsAt ws cs a ∧ (objT ws cs a).words = wordsAt ws cs a ∧ wordsAt ws cs a = 2 + (objT ws cs a).refs + (objT ws cs a).data := by
  have h1 := objT_bd hc h
  have h2 := (objE_zero h).2.2
  unfold wordsAt
  rw [← h2]
  omega
theorem walksF_chain {ws : List Int} {cs : List Cls} (hc : ∀ x ∈ cs, clsR x = true) : ∀ (l : List Spc) (e : Int) (acc al : List Int), riseF e l = true → walksF ws cs acc l = some al →
    ∃ r, al = acc ++ r ∧ Chain (wordsAt ws cs) e r ∧ ∀ x ∈ r, objE ws cs x = 0 ∧ ∃ s ∈ l, s.from_ ≤ x ∧ x + wordsAt ws cs x ≤ s.top
  | [], e, acc, al, _, h => by
    simp [walksF] at h; subst h
    exact ⟨[], by simp, trivial, by simp⟩
  | s :: l, e, acc, al, hr, h => by
    rw [riseF] at hr
    split at hr
    · rename_i hs
      have hsp := spR_t hs.1
      rw [walksF] at h
      split at h
      · cases h
      · rename_i h1
        have hw := walk_chain hc (Classical.not_not.1 h1) hsp.2.1
        obtain ⟨r, h2, h3, h4⟩ := walksF_chain hc l s.end_ _ al hr h
        have hge := Chain.ge hw.1 (fun a ha => by have := wordsAt_bd hc (hw.2 a ha).1; omega)
        refine ⟨(walk ws cs s.from_ s.top).2 ++ r, by rw [h2, List.append_assoc], ?_, fun x hx => ?_⟩
        · have h5 := hs.2
          refine Chain.append (hw.1.mono (by omega)) (fun a ha => ?_) ?_ h3
          · have := (hw.2 a ha).2; omega
          · omega
        · rcases List.mem_append.1 hx with hx | hx
          · exact ⟨(hw.2 x hx).1, s, by simp, hge x hx, (hw.2 x hx).2⟩
          · obtain ⟨h6, s', h7, h8⟩ := h4 x hx
            exact ⟨h6, s', by simp [h7], h8⟩
    · cases hr
theorem sorted_lt {l : List Int} (h1 : sortedB l = true) (h2 : noAdjB l = true) {q : Nat} (h0 : 0 < q) (hq : q < l.length) : l.getD (q - 1) default < l.getD q default := by
  unfold sortedB at h1
  unfold noAdjB at h2
  rw [List.all_eq_true] at h1 h2
  have h3 := of_decide_eq_true (h1 q (List.mem_range.2 hq))
  have h4 := of_decide_eq_true (h2 q (List.mem_range.2 hq))
  omega
theorem Chain.of_get {n : Int → Int} : ∀ (l : List Int) (lo : Int), (∀ q : Nat, 0 < q → q < l.length → l.getD (q - 1) default + n (l.getD (q - 1) default) ≤ l.getD q default) → (0 < l.length → lo ≤ l.getD 0 default) → Chain n lo l
  | [], _, _, _ => trivial
  | a :: r, lo, h, h0 => ⟨by simpa using h0 (by simp), Chain.of_get r _ (fun q hq hl => by
      have := h (q + 1) (by omega) (by simpa using hl)
      obtain ⟨q, rfl⟩ : ∃ m, q = m + 1 := ⟨q - 1, by omega⟩
      simpa using this) (fun hl => by have := h 1 (by omega) (by simpa using hl); simpa using this)⟩
theorem Chain.get {n : Int → Int} : ∀ {l : List Int} {lo : Int}, Chain n lo l → (∀ a ∈ l, 0 ≤ n a) → ∀ (i q : Nat), q < i → i < l.length → l.getD q default + n (l.getD q default) ≤ l.getD i default
  | [], _, _, _, i, q, _, h => by simp at h
  | a :: r, lo, h, hn, i, q, hqi, hi => by
    obtain ⟨i, rfl⟩ : ∃ m, i = m + 1 := ⟨i - 1, by omega⟩
    cases q with
    | zero =>
      have := Chain.ge h.2 (fun b hb => hn b (by simp [hb])) (r.getD i default) (mem_getD (by simpa using hi))
      simpa using this
    | succ q => simpa using Chain.get h.2 (fun b hb => hn b (by simp [hb])) i q (by omega) (by simpa using hi)
theorem stay_chain {ws : List Int} {cs : List Cls} (hc : ∀ x ∈ cs, clsR x = true) {l : List Spc} {st al : List Int} (hr : rise l = true) (hw : walksF ws cs [] l = some al) (h1 : sortedB st = true) (h2 : noAdjB st = true) (h3 : ∀ x ∈ st, x ∈ al) :
    Chain (wordsAt ws cs) 1 st ∧ ∀ x ∈ st, objE ws cs x = 0 ∧ 2 ≤ wordsAt ws cs x ∧ ∃ s ∈ l, s.from_ ≤ x ∧ x + wordsAt ws cs x ≤ s.top := by
  obtain ⟨r, h4, h5, h6⟩ := walksF_chain hc l 1 [] al hr hw
  rw [List.nil_append] at h4
  subst h4
  have hn : ∀ a ∈ al, 1 ≤ wordsAt ws cs a := fun a ha => by have := wordsAt_bd hc (h6 a ha).1; omega
  refine ⟨Chain.of_get st 1 (fun q h0 hq => ?_) (fun h0 => ?_), fun x hx => ⟨(h6 x (h3 x hx)).1, (wordsAt_bd hc (h6 x (h3 x hx)).1).1, (h6 x (h3 x hx)).2⟩⟩
  · exact h5.lt hn _ (h3 _ (mem_getD (by omega))) _ (h3 _ (mem_getD hq)) (sorted_lt h1 h2 h0 hq)
  · exact h5.ge (fun a ha => by have := hn a ha; omega) _ (h3 _ (mem_getD h0))
end Go.Proofs.YtmmmbkmjkpfleaaGreat
