/- Plain functions: traces of objects and gaps. No statement of the seat is proved here; conditions: none. -/
import Derived.Test.YtmmmbkmjkpfleaaGreatPureJ
namespace Go.Proofs.YtmmmbkmjkpfleaaGreat
open Go Go.RowKit

/-- From an address on up to another one stand objects (these) and gaps. -/
inductive Seg (ws : List Int) (cs : List Cls) : Int → Int → List Int → Prop
  | nil (a : Int) : Seg ws cs a a []
  | obj {a to : Int} {r : List Int} : atE ws cs a = 0 → (atT ws cs a).hd.cls ≠ 0 → Seg ws cs (a + (atT ws cs a).words) to r → Seg ws cs a to (a :: r)
  | gap {a to : Int} {r : List Int} : atE ws cs a = 0 → (atT ws cs a).hd.cls = 0 → Seg ws cs (a + (atT ws cs a).words) to r → Seg ws cs a to r
theorem Seg.le {ws : List Int} {cs : List Cls} (hcs : ∀ x ∈ cs, clsR x = true) {a to : Int} {r : List Int} (h : Seg ws cs a to r) : a ≤ to := by
  induction h with
  | nil a => exact Int.le_refl a
  | obj h1 _ _ ih => have := atT_bd hcs h1; omega
  | gap h1 _ _ ih => have := atT_bd hcs h1; omega
/-- What stands at an address depends on the words from there on up to its end, but for a gap of one word only on its first. -/
theorem at_congr {ws ws' : List Int} {cs : List Cls} (hcs : ∀ x ∈ cs, clsR x = true) {a : Int} (h : atE ws cs a = 0) (hl : ws'.length = ws.length) (h1 : gi ws' a = gi ws a) (h2 : 1 < (atT ws cs a).words → gi ws' (a + 1) = gi ws (a + 1)) : atF ws' cs a = atF ws cs a := by
  by_cases h3 : 1 < (atT ws cs a).words
  · exact atF_congr hl h1 (h2 h3)
  · have hE : (atF ws cs a).1 = 0 := h
    have hT : (atT ws cs a).words = (atF ws cs a).2.words := rfl
    rw [hT] at h3
    unfold atF at hE h3 ⊢
    rw [hl, h1]
    split at hE
    · cases hE
    rename_i q1
    rw [if_neg q1] at h3 ⊢
    rw [if_neg q1]
    split at hE
    · cases hE
    rename_i q2
    rw [if_neg q2] at h3 ⊢
    rw [if_neg q2]
    split at hE
    · rename_i q3
      rw [if_pos q3, if_pos q3]
    rename_i q3
    rw [if_neg q3] at h3
    split at hE
    · cases hE
    rename_i q4
    rw [if_neg q4] at h3
    split at hE
    · rename_i q5
      rw [if_pos q5] at h3
      split at hE
      · cases hE
      rename_i q6
      rw [if_neg q6] at h3
      split at hE
      · cases hE
      rename_i q7
      rw [if_neg q7] at h3
      exfalso
      have := shape_bd5 hcs (Classical.not_not.1 q6)
      simp only at h3
      omega
    · rename_i q5
      rw [if_neg q5] at h3
      split at hE
      · cases hE
      rename_i q6
      rw [if_neg q6] at h3
      exfalso
      simp only at h3
      omega
theorem Seg.congr {ws ws' : List Int} {cs : List Cls} (hcs : ∀ x ∈ cs, clsR x = true) (hl : ws'.length = ws.length) {a to : Int} {r : List Int} (h : Seg ws cs a to r) : (∀ x : Int, a ≤ x → x < to → gi ws' x = gi ws x) → Seg ws' cs a to r ∧ ∀ x ∈ r, atF ws' cs x = atF ws cs x := by
  induction h with
  | nil a => exact fun _ => ⟨.nil a, by simp⟩
  | obj h1 h2 h3 ih =>
    intro hg
    have hb := atT_bd hcs h1
    have hle := h3.le hcs
    have hc := at_congr hcs h1 hl (hg _ (by omega) (by omega)) (fun hw => hg _ (by omega) (by omega))
    have hi := ih (fun x h4 h5 => hg x (by omega) h5)
    refine ⟨.obj (by unfold atE; rw [hc]; exact h1) (by unfold atT; rw [hc]; exact h2) (by unfold atT; rw [hc]; exact hi.1), fun x hx => ?_⟩
    rcases List.mem_cons.1 hx with rfl | hx
    · exact hc
    · exact hi.2 x hx
  | gap h1 h2 h3 ih =>
    intro hg
    have hb := atT_bd hcs h1
    have hle := h3.le hcs
    have hc := at_congr hcs h1 hl (hg _ (by omega) (by omega)) (fun hw => hg _ (by omega) (by omega))
    have hi := ih (fun x h4 h5 => hg x (by omega) h5)
    exact ⟨.gap (by unfold atE; rw [hc]; exact h1) (by unfold atT; rw [hc]; exact h2) (by unfold atT; rw [hc]; exact hi.1), hi.2⟩
theorem Seg.append {ws : List Int} {cs : List Cls} {a m to : Int} {r q : List Int} (h : Seg ws cs a m r) (h' : Seg ws cs m to q) : Seg ws cs a to (r ++ q) := by
  induction h with
  | nil a => exact h'
  | obj h1 h2 _ ih => exact .obj h1 h2 (ih h')
  | gap h1 h2 _ ih => exact .gap h1 h2 (ih h')
theorem Seg.one {ws : List Int} {cs : List Cls} {a : Int} (h : objE ws cs a = 0) : Seg ws cs a (a + (objT ws cs a).words) [a] := by
  obtain ⟨h1, h2, h3⟩ := objE_zero h
  rw [h3]
  exact .obj h1 h2 (.nil _)
theorem Seg.walkF {ws : List Int} {cs : List Cls} (hcs : ∀ x ∈ cs, clsR x = true) {a to : Int} {r : List Int} (h : Seg ws cs a to r) : ∀ (k : Nat) (acc : List Int), (to - a).toNat < k → Go.Proofs.YtmmmbkmjkpfleaaGreat.walkF ws cs k a to acc = (0, acc ++ r) := by
  induction h with
  | nil a =>
    intro k acc hk
    obtain ⟨k, rfl⟩ : ∃ m, k = m + 1 := ⟨k - 1, by omega⟩
    rw [walkF_stop (Int.le_refl a), List.append_nil]
  | obj h1 h2 h3 ih =>
    intro k acc hk
    obtain ⟨k, rfl⟩ : ∃ m, k = m + 1 := ⟨k - 1, by omega⟩
    have hb := atT_bd hcs h1
    have hle := h3.le hcs
    rw [walkF_obj (by omega) (not_not_intro h1) (by omega) h2, ih k _ (by omega), List.append_assoc]
    rfl
  | gap h1 h2 h3 ih =>
    intro k acc hk
    obtain ⟨k, rfl⟩ : ∃ m, k = m + 1 := ⟨k - 1, by omega⟩
    have hb := atT_bd hcs h1
    have hle := h3.le hcs
    rw [walkF_gap (by omega) (not_not_intro h1) (by omega) (not_not_intro h2), ih k _ (by omega)]
theorem Seg.walk {ws : List Int} {cs : List Cls} (hcs : ∀ x ∈ cs, clsR x = true) {a to : Int} {r : List Int} (h : Seg ws cs a to r) : Go.Proofs.YtmmmbkmjkpfleaaGreat.walk ws cs a to = (0, r) := by
  have := h.walkF hcs ((to - a).toNat + 1) [] (by omega)
  rw [List.nil_append] at this
  exact this
theorem Seg.mem {ws : List Int} {cs : List Cls} (hcs : ∀ x ∈ cs, clsR x = true) {a to : Int} {r : List Int} (h : Seg ws cs a to r) : ∀ x ∈ r, objE ws cs x = 0 ∧ a ≤ x ∧ x + (objT ws cs x).words ≤ to := by
  induction h with
  | nil a => simp
  | obj h1 h2 h3 ih =>
    intro x hx
    have hb := atT_bd hcs h1
    have hle := h3.le hcs
    rcases List.mem_cons.1 hx with rfl | hx
    · have he : objE ws cs x = 0 := by unfold objE; rw [objF_else (fun q => h2 q.2)]; exact h1
      refine ⟨he, Int.le_refl _, ?_⟩
      rw [(objE_zero he).2.2]; omega
    · have := ih x hx; omega
  | gap h1 h2 h3 ih =>
    intro x hx
    have hb := atT_bd hcs h1
    have := ih x hx; omega
end Go.Proofs.YtmmmbkmjkpfleaaGreat
