/- Plain functions: what a sliding answers. No statement of the seat is proved here; conditions: none. -/
import Derived.Test.YtmmmbkmjkpfleaaGreatPureG
namespace Go.Proofs.YtmmmbkmjkpfleaaGreat
open Go Go.RowKit

def slG (ws : List Int) (cs : List Cls) (l : List Spc) (st : List Int) : Int → Option Int := toG (st.zip (planR l (st.map fun a => (atT ws cs a).words)).2.1)
def SlArgs (ws : List Int) (l : List Spc) (st : List Int) : Prop := sortedB st = true ∧ noAdjB st = true ∧ rise l = true ∧ ¬ l.any (fun s => decide ((ws.length : Int) < s.end_)) = true
instance (ws : List Int) (l : List Spc) (st : List Int) : Decidable (SlArgs ws l st) := by unfold SlArgs; infer_instance
def slideE (ws : List Int) (cs : List Cls) (l : List Spc) (st rt : List Int) : Int :=
  if ¬ SlArgs ws l st then 1 else match walksF ws cs [] l with
    | none => 12
    | some al => if ¬ ∀ x ∈ st, x ∈ al then 12 else if st.any (fun a => lostF ws cs (slG ws cs l st) a) = true ∨ rt.any (fun a => !(slG ws cs l st a).isSome) = true then 12 else 0
section
variable {ws : List Int} {cs : List Cls} {l : List Spc} {st rt al : List Int}
theorem slideE_arg (h : ¬ SlArgs ws l st) : slideE ws cs l st rt = 1 := by unfold slideE; rw [if_pos h]
theorem slideE_walk (h : SlArgs ws l st) (hw : walksF ws cs [] l = none) : slideE ws cs l st rt = 12 := by unfold slideE; rw [if_neg (not_not_intro h), hw]
theorem slideE_mem (h : SlArgs ws l st) (hw : walksF ws cs [] l = some al) (hm : ¬ ∀ x ∈ st, x ∈ al) : slideE ws cs l st rt = 12 := by unfold slideE; rw [if_neg (not_not_intro h), hw]; simp only; rw [if_pos hm]
theorem slideE_plan (h : SlArgs ws l st) (hw : walksF ws cs [] l = none ∨ ∃ al, walksF ws cs [] l = some al ∧ ¬ ∀ x ∈ st, x ∈ al) : slideE ws cs l st rt = 12 := by
  rcases hw with hw | ⟨al, hw, hm⟩
  · exact slideE_walk h hw
  · exact slideE_mem h hw hm
theorem slideE_lost (h : SlArgs ws l st) (hw : walksF ws cs [] l = some al) (hm : ∀ x ∈ st, x ∈ al) (hl : st.any (fun a => lostF ws cs (slG ws cs l st) a) = true ∨ rt.any (fun a => !(slG ws cs l st a).isSome) = true) : slideE ws cs l st rt = 12 := by
  unfold slideE; rw [if_neg (not_not_intro h), hw]; simp only; rw [if_neg (not_not_intro hm), if_pos hl]
theorem slideE_ok (h : SlArgs ws l st) (hw : walksF ws cs [] l = some al) (hm : ∀ x ∈ st, x ∈ al) (hl : ¬ st.any (fun a => lostF ws cs (slG ws cs l st) a) = true) (hr : ¬ rt.any (fun a => !(slG ws cs l st a).isSome) = true) : slideE ws cs l st rt = 0 := by
  unfold slideE; rw [if_neg (not_not_intro h), hw]; simp only; rw [if_neg (not_not_intro hm), if_neg (fun q => q.elim hl hr)]
theorem slideE_zero (h : slideE ws cs l st rt = 0) : SlArgs ws l st ∧ ∃ al, walksF ws cs [] l = some al ∧ (∀ x ∈ st, x ∈ al) ∧ ¬ st.any (fun a => lostF ws cs (slG ws cs l st) a) = true ∧ ¬ rt.any (fun a => !(slG ws cs l st a).isSome) = true := by
  unfold slideE at h
  split at h
  · cases h
  · rename_i h1
    refine ⟨Classical.not_not.1 h1, ?_⟩
    split at h
    · cases h
    · rename_i al hw
      split at h
      · cases h
      · rename_i h2
        split at h
        · cases h
        · rename_i h3
          exact ⟨al, hw, Classical.not_not.1 h2, fun q => h3 (.inl q), fun q => h3 (.inr q)⟩
end
theorem Hp.oldDis {w0 w : World} {F : List Nat} {Rs : List Res} {R S : Res} (hp : Hp w0 F Rs w) (i : Nat) (hi : Rs[i]? = some S) (hR : R.ok w0) (hF : ∀ k ∈ R.foot, k ∉ F) : ∀ k ∈ R.foot, k ∉ S.foot := fun k hk hk' =>
  (hp.wr S (List.mem_of_getElem? hi) k hk').elim (fun h => by have := R.lt w0 hR k hk; omega) (hF k hk)
/-! ## What the document's functions read -/
theorem view_gi {w : World} {v : Value} {ws : List Int} (h : (viewR encI 1 v ws).ok w) {a : Int} (h0 : a.toNat < ws.length) : w.cell? ⟨blkOf v, offOf v + a.toNat * 1, none⟩ = some (.int .i64 (gi ws a)) :=
  view_cell (f := 0) h (get_some h0) rfl (by omega)
theorem hdR_range {x : Int} (h : hdR (hdOf x) = true) : 0 ≤ x ∧ x < 33554432 := by
  have h1 := (hdR_iff _).1 h
  have h2 : (hdOf x).fwd = x / 8192 := rfl
  rw [h2] at h1
  omega
def sameB (a b : List Int) : Bool := decide (a = b)
theorem same_yes {a b : List Int} (hl : a.length = b.length) (h : ∀ q : Nat, q < a.length → a.getD q default = b.getD q default) : sameB a b = true := by
  unfold sameB
  rw [decide_eq_true_eq]
  apply List.ext_getElem hl
  intro q h1 h2
  have := h q h1
  rw [List.getD_eq_getElem?_getD, List.getD_eq_getElem?_getD, List.getElem?_eq_getElem h1, List.getElem?_eq_getElem h2] at this
  simpa using this
theorem same_no {a b : List Int} (h : a ≠ b) : sameB a b = false := by unfold sameB; simpa using h
def placeF (l : List Int) (x : Int) : Int := match l.findIdx? (· == x) with | some i => i | none => -1
theorem place_some {l : List Int} {x : Int} {i : Nat} (h : i < l.length) (h1 : l.getD i default = x) (h2 : ∀ q : Nat, q < i → ¬ l.getD q default = x) : placeF l x = i := by
  unfold placeF
  have : l.findIdx? (· == x) = some i := by
    rw [List.findIdx?_eq_some_iff_getElem]
    refine ⟨h, ?_, fun q hq => ?_⟩
    · have g := get_some h
      rw [List.getElem?_eq_getElem h] at g
      rw [Option.some.inj g]; simpa using h1
    · have g := get_some (show q < l.length by omega)
      rw [List.getElem?_eq_getElem (by omega)] at g
      rw [Option.some.inj g]; simpa using h2 q hq
  rw [this]
theorem place_none {l : List Int} {x : Int} (h : ∀ q : Nat, q < l.length → ¬ l.getD q default = x) : placeF l x = -1 := by
  unfold placeF
  have : l.findIdx? (· == x) = none := by
    rw [List.findIdx?_eq_none_iff]
    intro y hy
    obtain ⟨q, hq, rfl⟩ := List.getElem_of_mem hy
    have g := get_some hq
    rw [List.getElem?_eq_getElem hq] at g
    rw [Option.some.inj g]; simpa using h q hq
  rw [this]
theorem placeF_neg {l : List Int} {x : Int} : placeF l x < 0 ↔ x ∉ l := by
  unfold placeF
  cases h : l.findIdx? (· == x) with
  | none =>
    rw [List.findIdx?_eq_none_iff] at h
    refine ⟨fun _ hx => by have := h x hx; simp at this, fun _ => by simp⟩
  | some i =>
    rw [List.findIdx?_eq_some_iff_getElem] at h
    obtain ⟨h1, h2, _⟩ := h
    refine ⟨fun hi => by simp only at hi; omega, fun hx => absurd (List.getElem_mem h1) (by simp only [beq_iff_eq] at h2; rw [h2]; exact hx)⟩
theorem all_take_succ {α : Type} [Inhabited α] {l : List α} {p : α → Bool} {i : Nat} (h : i < l.length) (h1 : (l.take i).all p = true) (h2 : p (l.getD i default) = true) : (l.take (i + 1)).all p = true := by
  rw [take_getD h, List.all_append, h1, List.all_cons, h2]; rfl
theorem all_no {α : Type} [Inhabited α] {l : List α} {p : α → Bool} {i : Nat} (h : i < l.length) (h2 : ¬ p (l.getD i default) = true) : ¬ l.all p = true := fun q => h2 (List.all_eq_true.1 q _ (mem_getD h))
def splitF (e : Int) : List Int → List Spc
  | [] => []
  | n :: r => ⟨e, e, e + n⟩ :: splitF (e + n) r
theorem sum_nonneg {l : List Int} (h : ∀ x ∈ l, 0 ≤ x) : 0 ≤ l.sum := by
  induction l with
  | nil => simp
  | cons a r ih =>
    have h1 := h a (by simp)
    have h2 := ih (fun x hx => h x (by simp [hx]))
    rw [List.sum_cons]; omega
theorem shape_bd5 {cs : List Cls} (hcs : ∀ x ∈ cs, clsR x = true) {n m : Int} (h : shapeE cs n m = 0) : 0 ≤ (cget cs n).refs ∧ 0 ≤ (cget cs n).data ∧ (cget cs n).refs + (cget cs n).data ≤ 30 ∧ 0 ≤ m ∧ m ≤ 30 := by
  have h1 := shapeE_zero h
  have h2 : 0 ≤ (cget cs n).refs ∧ 0 ≤ (cget cs n).data ∧ (cget cs n).refs + (cget cs n).data ≤ 30 := clsR_bd (hcs _ (mem_getD (by omega)))
  omega
theorem at_obj {ws : List Int} {cs : List Cls} {a : Int} (h : atE ws cs a = 0) (hc : (atT ws cs a).hd.cls ≠ 0) :
    thereB ws.length a 1 = true ∧ hdR (hdOf (gi ws a)) = true ∧ a + 1 < ws.length ∧ shapeE cs (hdOf (gi ws a)).cls (gi ws (a + 1)) = 0 ∧
    atT ws cs a = ⟨hdOf (gi ws a), (cget cs (hdOf (gi ws a)).cls).refs + gi ws (a + 1), (cget cs (hdOf (gi ws a)).cls).data, 2 + ((cget cs (hdOf (gi ws a)).cls).refs + gi ws (a + 1)) + (cget cs (hdOf (gi ws a)).cls).data⟩ := by
  unfold atE at h
  unfold atT at hc ⊢
  unfold atF at h hc ⊢
  split at h
  · cases h
  rename_i q1
  rw [if_neg q1] at hc ⊢
  split at h
  · cases h
  rename_i q2
  rw [if_neg q2] at hc ⊢
  split at h
  · rename_i q3
    rw [if_pos q3] at hc
    exact absurd q3.1 hc
  rename_i q3
  rw [if_neg q3] at hc ⊢
  split at h
  · cases h
  rename_i q4
  rw [if_neg q4] at hc ⊢
  split at h
  · rename_i q5
    rw [if_pos q5]
    split at h
    · cases h
    rename_i q6
    rw [if_neg q6]
    split at h
    · cases h
    rename_i q7
    rw [if_neg q7]
    exact ⟨Classical.not_not.1 q1, Classical.not_not.1 q2, Classical.not_not.1 q4, Classical.not_not.1 q6, rfl⟩
  · rename_i q5
    rw [if_neg q5] at hc
    split at h
    · cases h
    rename_i q6
    rw [if_neg q6] at hc
    exact absurd hc q5
theorem atT_err {ws : List Int} {cs : List Cls} {a : Int} (h : atE ws cs a ≠ 0) : atT ws cs a = default := atF_err h
theorem tup_f {n e c : Int} (h : c = 0) : Value.tuple #[.int .i64 n, .bool false, .int .i64 e] = .tuple #[.int .i64 n, .bool (decide (c ≠ 0)), .int .i64 e] := by rw [decide_eq_false (not_not_intro h)]
theorem tup_t {n e c : Int} (h : ¬ c = 0) : Value.tuple #[.int .i64 n, .bool true, .int .i64 e] = .tuple #[.int .i64 n, .bool (decide (c ≠ 0)), .int .i64 e] := by rw [decide_eq_true h]
end Go.Proofs.YtmmmbkmjkpfleaaGreat
