/- Plain functions: objects in an arena. No statement of the seat is proved here; conditions: none. -/
import Derived.Test.YtmmmbkmjkpfleaaGreatPureA
namespace Go.Proofs.YtmmmbkmjkpfleaaGreat
open Go Go.RowKit

def thereB (n : Nat) (a k : Int) : Bool := decide (1 ≤ a ∧ 1 ≤ k ∧ a < n ∧ k ≤ n - a)
theorem thereB_iff (n : Nat) (a k : Int) : thereB n a k = true ↔ 1 ≤ a ∧ 1 ≤ k ∧ a < n ∧ k ≤ n - a := by simp [thereB]
theorem thereB_t {n : Nat} {a k : Int} (h : thereB n a k = true) : 1 ≤ a ∧ 1 ≤ k ∧ a < n ∧ k ≤ n - a := (thereB_iff n a k).1 h
theorem thereB_f {n : Nat} {a k : Int} (h : ¬ thereB n a k = true) : ¬ (1 ≤ a ∧ 1 ≤ k ∧ a < n ∧ k ≤ n - a) := fun q => h ((thereB_iff n a k).2 q)

structure Thg where
  hd : Hd
  refs : Int
  data : Int
  words : Int
  deriving DecidableEq, Repr
instance : Inhabited Thg := ⟨⟨default, 0, 0, 0⟩⟩
/-- What stands at an address: the error's number, the thing. -/
def atF (ws : List Int) (cs : List Cls) (a : Int) : Int × Thg :=
  if ¬ thereB ws.length a 1 = true then (2, default) else
  if ¬ hdR (hdOf (gi ws a)) = true then (12, default) else
  if (hdOf (gi ws a)).cls = 0 ∧ (hdOf (gi ws a)).mark = true then (0, ⟨hdOf (gi ws a), 0, 0, 1⟩) else
  if ¬ a + 1 < ws.length then (12, default) else
  if (hdOf (gi ws a)).cls ≠ 0 then
    if shapeE cs (hdOf (gi ws a)).cls (gi ws (a + 1)) ≠ 0 then (12, default) else
    if ¬ thereB ws.length a (2 + ((cget cs (hdOf (gi ws a)).cls).refs + gi ws (a + 1)) + (cget cs (hdOf (gi ws a)).cls).data) = true then (12, default) else
    (0, ⟨hdOf (gi ws a), (cget cs (hdOf (gi ws a)).cls).refs + gi ws (a + 1), (cget cs (hdOf (gi ws a)).cls).data, 2 + ((cget cs (hdOf (gi ws a)).cls).refs + gi ws (a + 1)) + (cget cs (hdOf (gi ws a)).cls).data⟩)
  else if gi ws (a + 1) < 2 ∨ ¬ thereB ws.length a (gi ws (a + 1)) = true then (12, default) else (0, ⟨hdOf (gi ws a), 0, 0, gi ws (a + 1)⟩)
def atE (ws : List Int) (cs : List Cls) (a : Int) : Int := (atF ws cs a).1
def atT (ws : List Int) (cs : List Cls) (a : Int) : Thg := (atF ws cs a).2
section
variable {ws : List Int} {cs : List Cls} {a : Int}
theorem atF_there (h : ¬ thereB ws.length a 1 = true) : atF ws cs a = (2, default) := by unfold atF; rw [if_pos h]
theorem atF_head (h1 : thereB ws.length a 1 = true) (h2 : ¬ hdR (hdOf (gi ws a)) = true) : atF ws cs a = (12, default) := by unfold atF; rw [if_neg (not_not_intro h1), if_pos h2]
theorem atF_one (h1 : thereB ws.length a 1 = true) (h2 : hdR (hdOf (gi ws a)) = true) (h3 : (hdOf (gi ws a)).cls = 0) (h4 : (hdOf (gi ws a)).mark = true) : atF ws cs a = (0, ⟨hdOf (gi ws a), 0, 0, 1⟩) := by
  unfold atF; rw [if_neg (not_not_intro h1), if_neg (not_not_intro h2), if_pos ⟨h3, h4⟩]
theorem atF_len (h1 : thereB ws.length a 1 = true) (h2 : hdR (hdOf (gi ws a)) = true) (h3 : ¬ ((hdOf (gi ws a)).cls = 0 ∧ (hdOf (gi ws a)).mark = true)) (h4 : ¬ a + 1 < ws.length) : atF ws cs a = (12, default) := by
  unfold atF; rw [if_neg (not_not_intro h1), if_neg (not_not_intro h2), if_neg h3, if_pos h4]
theorem atF_shape (h1 : thereB ws.length a 1 = true) (h2 : hdR (hdOf (gi ws a)) = true) (h3 : (hdOf (gi ws a)).cls ≠ 0) (h4 : a + 1 < ws.length) (h5 : shapeE cs (hdOf (gi ws a)).cls (gi ws (a + 1)) ≠ 0) : atF ws cs a = (12, default) := by
  unfold atF; rw [if_neg (not_not_intro h1), if_neg (not_not_intro h2), if_neg (fun h => h3 h.1), if_neg (not_not_intro h4), if_pos h3, if_pos h5]
theorem atF_out (h1 : thereB ws.length a 1 = true) (h2 : hdR (hdOf (gi ws a)) = true) (h3 : (hdOf (gi ws a)).cls ≠ 0) (h4 : a + 1 < ws.length) (h5 : shapeE cs (hdOf (gi ws a)).cls (gi ws (a + 1)) = 0)
    (h6 : ¬ thereB ws.length a (2 + ((cget cs (hdOf (gi ws a)).cls).refs + gi ws (a + 1)) + (cget cs (hdOf (gi ws a)).cls).data) = true) : atF ws cs a = (12, default) := by
  unfold atF; rw [if_neg (not_not_intro h1), if_neg (not_not_intro h2), if_neg (fun h => h3 h.1), if_neg (not_not_intro h4), if_pos h3, if_neg (not_not_intro h5), if_pos h6]
theorem atF_obj (h1 : thereB ws.length a 1 = true) (h2 : hdR (hdOf (gi ws a)) = true) (h3 : (hdOf (gi ws a)).cls ≠ 0) (h4 : a + 1 < ws.length) (h5 : shapeE cs (hdOf (gi ws a)).cls (gi ws (a + 1)) = 0)
    (h6 : thereB ws.length a (2 + ((cget cs (hdOf (gi ws a)).cls).refs + gi ws (a + 1)) + (cget cs (hdOf (gi ws a)).cls).data) = true) :
    atF ws cs a = (0, ⟨hdOf (gi ws a), (cget cs (hdOf (gi ws a)).cls).refs + gi ws (a + 1), (cget cs (hdOf (gi ws a)).cls).data, 2 + ((cget cs (hdOf (gi ws a)).cls).refs + gi ws (a + 1)) + (cget cs (hdOf (gi ws a)).cls).data⟩) := by
  unfold atF; rw [if_neg (not_not_intro h1), if_neg (not_not_intro h2), if_neg (fun h => h3 h.1), if_neg (not_not_intro h4), if_pos h3, if_neg (not_not_intro h5), if_neg (not_not_intro h6)]
theorem atF_gapx (h1 : thereB ws.length a 1 = true) (h2 : hdR (hdOf (gi ws a)) = true) (h3 : ¬ (hdOf (gi ws a)).cls ≠ 0) (h3' : ¬ (hdOf (gi ws a)).mark = true) (h4 : a + 1 < ws.length) (h5 : gi ws (a + 1) < 2 ∨ ¬ thereB ws.length a (gi ws (a + 1)) = true) : atF ws cs a = (12, default) := by
  unfold atF; rw [if_neg (not_not_intro h1), if_neg (not_not_intro h2), if_neg (fun h => h3' h.2), if_neg (not_not_intro h4), if_neg h3, if_pos h5]
theorem atF_gap (h1 : thereB ws.length a 1 = true) (h2 : hdR (hdOf (gi ws a)) = true) (h3 : ¬ (hdOf (gi ws a)).cls ≠ 0) (h3' : ¬ (hdOf (gi ws a)).mark = true) (h4 : a + 1 < ws.length) (h5 : ¬ gi ws (a + 1) < 2) (h6 : thereB ws.length a (gi ws (a + 1)) = true) : atF ws cs a = (0, ⟨hdOf (gi ws a), 0, 0, gi ws (a + 1)⟩) := by
  unfold atF; rw [if_neg (not_not_intro h1), if_neg (not_not_intro h2), if_neg (fun h => h3' h.2), if_neg (not_not_intro h4), if_neg h3, if_neg (fun h => h.elim h5 (fun h => h h6))]
/-- What is known of a thing that is there. -/
theorem atT_bd (hc : ∀ x ∈ cs, clsR x = true) (h : atE ws cs a = 0) : 1 ≤ a ∧ 1 ≤ (atT ws cs a).words ∧ a + (atT ws cs a).words ≤ ws.length ∧ 0 ≤ (atT ws cs a).refs ∧ 0 ≤ (atT ws cs a).data ∧ (atT ws cs a).refs ≤ 30 ∧ (atT ws cs a).data ≤ 30 ∧
    ((atT ws cs a).hd.cls ≠ 0 → (atT ws cs a).words = 2 + (atT ws cs a).refs + (atT ws cs a).data) := by
  unfold atE at h
  unfold atT
  unfold atF at h ⊢
  split at h
  · simp at h
  rename_i h1
  have h1 := thereB_t (Classical.not_not.1 h1)
  rw [if_neg (by rw [thereB_iff]; omega)]
  split at h
  · simp at h
  rename_i h2
  rw [if_neg h2]
  split at h
  · rename_i h3; rw [if_pos h3]; simp only; omega
  rename_i h3
  rw [if_neg h3]
  split at h
  · simp at h
  rename_i h4
  rw [if_neg h4]
  split at h
  · rename_i h5
    rw [if_pos h5]
    split at h
    · simp at h
    rename_i h6
    rw [if_neg h6]
    split at h
    · simp at h
    rename_i h7
    rw [if_neg h7]
    have h6 := shapeE_zero (Classical.not_not.1 h6)
    have h7 := thereB_t (Classical.not_not.1 h7)
    have h8 := hc _ (cget_mem ⟨h6.1, h6.2.1⟩)
    have h9 := clsR_bd h8
    rcases (clsR_iff _).1 h8 with h10 | h10 | h10 <;> refine ⟨by omega, ?_, ?_, ?_, ?_, ?_, ?_, fun _ => rfl⟩ <;> dsimp only <;> omega
  · rename_i h5
    rw [if_neg h5]
    split at h
    · simp at h
    rename_i h6
    rw [if_neg h6]
    simp only [not_or, Classical.not_not] at h6
    have h7 := thereB_t h6.2
    simp only; omega
theorem atF_err (h : atE ws cs a ≠ 0) : atT ws cs a = default := by
  unfold atE at h
  unfold atT
  unfold atF at h ⊢
  split
  · rfl
  rename_i h1
  rw [if_neg h1] at h
  split
  · rfl
  rename_i h1
  rw [if_neg h1] at h
  split
  · rename_i h1; rw [if_pos h1] at h; exact absurd rfl h
  rename_i h1
  rw [if_neg h1] at h
  split
  · rfl
  rename_i h1
  rw [if_neg h1] at h
  split
  · rename_i h1
    rw [if_pos h1] at h
    split
    · rfl
    rename_i h1
    rw [if_neg h1] at h
    split
    · rfl
    rename_i h1
    rw [if_neg h1] at h
    exact absurd rfl h
  · rename_i h1
    rw [if_neg h1] at h
    split
    · rfl
    rename_i h1
    rw [if_neg h1] at h
    exact absurd rfl h
end
def objF (ws : List Int) (cs : List Cls) (a : Int) : Int × Thg := if atE ws cs a = 0 ∧ (atT ws cs a).hd.cls = 0 then (5, default) else atF ws cs a
def objE (ws : List Int) (cs : List Cls) (a : Int) : Int := (objF ws cs a).1
def objT (ws : List Int) (cs : List Cls) (a : Int) : Thg := (objF ws cs a).2
section
variable {ws : List Int} {cs : List Cls} {a : Int}
theorem objF_gap (h : atE ws cs a = 0) (h' : (atT ws cs a).hd.cls = 0) : objF ws cs a = (5, default) := by unfold objF; rw [if_pos ⟨h, h'⟩]
theorem objF_else (h : ¬ (atE ws cs a = 0 ∧ (atT ws cs a).hd.cls = 0)) : objF ws cs a = (atE ws cs a, atT ws cs a) := by unfold objF; rw [if_neg h]; rfl
theorem objE_zero (h : objE ws cs a = 0) : atE ws cs a = 0 ∧ (atT ws cs a).hd.cls ≠ 0 ∧ objT ws cs a = atT ws cs a := by
  unfold objE at h
  unfold objT
  unfold objF at h ⊢
  split at h
  · simp at h
  · rename_i h1
    rw [if_neg h1]
    exact ⟨h, fun h2 => h1 ⟨h, h2⟩, rfl⟩
theorem objT_bd (hc : ∀ x ∈ cs, clsR x = true) (h : objE ws cs a = 0) : 1 ≤ a ∧ 2 ≤ (objT ws cs a).words ∧ a + (objT ws cs a).words ≤ ws.length ∧ 0 ≤ (objT ws cs a).refs ∧ 0 ≤ (objT ws cs a).data ∧ (objT ws cs a).words = 2 + (objT ws cs a).refs + (objT ws cs a).data ∧ (objT ws cs a).refs ≤ 30 ∧ (objT ws cs a).data ≤ 30 := by
  obtain ⟨h1, h2, h3⟩ := objE_zero h
  have h4 := atT_bd hc h1
  rw [h3]
  have := h4.2.2.2.2.2.2.2 h2
  omega
theorem objT_err (h : objE ws cs a ≠ 0) : objT ws cs a = default := by
  unfold objE at h
  unfold objT
  unfold objF at h ⊢
  split
  · rfl
  · rename_i h1
    rw [if_neg h1] at h
    exact atF_err h
end
def refE (ws : List Int) (cs : List Cls) (a f : Int) : Int := if objE ws cs a ≠ 0 then objE ws cs a else if f < 0 ∨ (objT ws cs a).refs ≤ f then 1 else 0
def numE (ws : List Int) (cs : List Cls) (a f : Int) : Int := if objE ws cs a ≠ 0 then objE ws cs a else if f < 0 ∨ (objT ws cs a).data ≤ f then 1 else 0
theorem refE_zero {ws : List Int} {cs : List Cls} {a f : Int} (h : refE ws cs a f = 0) : objE ws cs a = 0 ∧ 0 ≤ f ∧ f < (objT ws cs a).refs := by
  unfold refE at h
  split at h
  · omega
  split at h
  · omega
  · omega
theorem numE_zero {ws : List Int} {cs : List Cls} {a f : Int} (h : numE ws cs a f = 0) : objE ws cs a = 0 ∧ 0 ≤ f ∧ f < (objT ws cs a).data := by
  unfold numE at h
  split at h
  · omega
  split at h
  · omega
  · omega
theorem refE_bd {ws : List Int} {cs : List Cls} {a f : Int} (hc : ∀ x ∈ cs, clsR x = true) (h : refE ws cs a f = 0) : 1 ≤ a ∧ 0 ≤ f ∧ f < 30 ∧ a + 2 + f < ws.length := by
  have h1 := refE_zero h
  have h2 := objT_bd hc h1.1
  omega
theorem numE_bd {ws : List Int} {cs : List Cls} {a f : Int} (hc : ∀ x ∈ cs, clsR x = true) (h : numE ws cs a f = 0) : 1 ≤ a ∧ 0 ≤ f ∧ f < 30 ∧ a + 2 + (objT ws cs a).refs + f < ws.length ∧ 0 ≤ (objT ws cs a).refs := by
  have h1 := numE_zero h
  have h2 := objT_bd hc h1.1
  omega
theorem hdR_lay {n : Int} {f : Bool} (h : 0 ≤ n ∧ n < 64) : hdR ⟨n, 0, 0, false, f, false⟩ = true := (hdR_iff _).2 ⟨h.1, h.2, Int.le_refl 0, by dsimp only; omega, Int.le_refl 0, by dsimp only; omega, fun q => by simp at q⟩
theorem hdR_gap {m : Bool} : hdR ⟨0, 0, 0, m, false, false⟩ = true := (hdR_iff _).2 ⟨Int.le_refl 0, by dsimp only; omega, Int.le_refl 0, by dsimp only; omega, Int.le_refl 0, by dsimp only; omega, fun q => by simp at q⟩
def setHeadE (ws : List Int) (cs : List Cls) (a : Int) (h : Hd) : Int := if objE ws cs a ≠ 0 then objE ws cs a else if ¬ hdR h = true ∨ h.cls ≠ (objT ws cs a).hd.cls then 1 else 0
def layWords (cs : List Cls) (n m : Int) : Int := 2 + ((cget cs n).refs + m) + (cget cs n).data
def layE (ws : List Int) (cs : List Cls) (a n m : Int) : Int := if shapeE cs n m ≠ 0 then shapeE cs n m else if ¬ thereB ws.length a (layWords cs n m) = true then 2 else 0
def layW (ws : List Int) (cs : List Cls) (a n m : Int) : List Int :=
  ((fillW ws a.toNat (layWords cs n m).toNat 0).set a.toNat (hdW ⟨n, 0, 0, false, (cget cs n).final, false⟩)).set (a + 1).toNat m
def gapE (ws : List Int) (a k : Int) : Int := if k < 1 then 1 else if ¬ thereB ws.length a k = true then 2 else 0
def gapW (ws : List Int) (a k : Int) : List Int := if 1 < k then (ws.set a.toNat (hdW ⟨0, 0, 0, decide (k = 1), false, false⟩)).set (a + 1).toNat k else ws.set a.toNat (hdW ⟨0, 0, 0, decide (k = 1), false, false⟩)
/-- The objects from an address on, up to another one: the error's number, the list. -/
def walkF (ws : List Int) (cs : List Cls) : Nat → Int → Int → List Int → Int × List Int
  | 0, _, _, acc => (0, acc)
  | k + 1, a, to, acc =>
    if to ≤ a then (0, acc) else if atE ws cs a ≠ 0 then (atE ws cs a, []) else if to - a < (atT ws cs a).words then (12, [])
    else walkF ws cs k (a + (atT ws cs a).words) to (if (atT ws cs a).hd.cls ≠ 0 then acc ++ [a] else acc)
def walk (ws : List Int) (cs : List Cls) (a to : Int) : Int × List Int := walkF ws cs ((to - a).toNat + 1) a to []
theorem walkF_stop {ws : List Int} {cs : List Cls} {k : Nat} {a to : Int} {acc : List Int} (h : to ≤ a) : walkF ws cs (k + 1) a to acc = (0, acc) := by rw [walkF, if_pos h]
theorem walkF_err {ws : List Int} {cs : List Cls} {k : Nat} {a to : Int} {acc : List Int} (h : ¬ to ≤ a) (h1 : atE ws cs a ≠ 0) : walkF ws cs (k + 1) a to acc = (atE ws cs a, []) := by rw [walkF, if_neg h, if_pos h1]
theorem walkF_over {ws : List Int} {cs : List Cls} {k : Nat} {a to : Int} {acc : List Int} (h : ¬ to ≤ a) (h1 : ¬ atE ws cs a ≠ 0) (h2 : to - a < (atT ws cs a).words) : walkF ws cs (k + 1) a to acc = (12, []) := by rw [walkF, if_neg h, if_neg h1, if_pos h2]
theorem walkF_obj {ws : List Int} {cs : List Cls} {k : Nat} {a to : Int} {acc : List Int} (h : ¬ to ≤ a) (h1 : ¬ atE ws cs a ≠ 0) (h2 : ¬ to - a < (atT ws cs a).words) (h3 : (atT ws cs a).hd.cls ≠ 0) : walkF ws cs (k + 1) a to acc = walkF ws cs k (a + (atT ws cs a).words) to (acc ++ [a]) := by
  rw [walkF, if_neg h, if_neg h1, if_neg h2, if_pos h3]
theorem walkF_gap {ws : List Int} {cs : List Cls} {k : Nat} {a to : Int} {acc : List Int} (h : ¬ to ≤ a) (h1 : ¬ atE ws cs a ≠ 0) (h2 : ¬ to - a < (atT ws cs a).words) (h3 : ¬ (atT ws cs a).hd.cls ≠ 0) : walkF ws cs (k + 1) a to acc = walkF ws cs k (a + (atT ws cs a).words) to acc := by
  rw [walkF, if_neg h, if_neg h1, if_neg h2, if_neg h3]
/-- Each object of a walk lies where the next may begin behind the one before. -/
theorem walkF_len {ws : List Int} {cs : List Cls} (hc : ∀ x ∈ cs, clsR x = true) : ∀ (k : Nat) (a to : Int) (acc : List Int), ((walkF ws cs k a to acc).2.length : Int) ≤ acc.length + (if a ≤ to then to - a else 0)
  | 0, a, to, acc => by rw [walkF]; simp only; split <;> omega
  | k + 1, a, to, acc => by
    rw [walkF]
    split
    · simp only; split <;> omega
    split
    · simp only [List.length_nil]; split <;> omega
    split
    · simp only [List.length_nil]; split <;> omega
    rename_i h1 h2 h3
    have := atT_bd (a := a) hc (Classical.not_not.1 h2)
    refine Int.le_trans (walkF_len hc k _ to _) ?_
    have e1 : (if a + (atT ws cs a).words ≤ to then to - (a + (atT ws cs a).words) else 0) = to - (a + (atT ws cs a).words) := if_pos (by omega)
    have e2 : (if a ≤ to then to - a else 0) = to - a := if_pos (by omega)
    rw [e1, e2]
    split
    · simp only [List.length_append, List.length_cons, List.length_nil]; omega
    · omega
end Go.Proofs.YtmmmbkmjkpfleaaGreat
