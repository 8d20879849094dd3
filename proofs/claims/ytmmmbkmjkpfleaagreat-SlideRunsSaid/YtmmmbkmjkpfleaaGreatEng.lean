/- A small program logic over the kit's weakest preconditions: frames as short lists of slots, memory as a list of resources.
   No statement of the seat is proved here; conditions: none. -/
import Derived.WalkKit
import Derived.OrdersHeld
import Derived.ScopeJumps
import Derived.KernelRfl
import Derived.Deep.Draws
namespace Go.Proofs.YtmmmbkmjkpfleaaGreat
open Go Go.RowKit

/-! ## Frames -/
abbrev Env := List (Nat × Value)
def get : Env → Nat → Option Value
  | [], _ => none
  | (k, v) :: l, i => bif Nat.beq k i then some v else get l i
def ev (l : Env) : Operand → Option Value
  | .tmp t => get l t
  | .const v => some v
  | .global g => some (.pointer (some ⟨g, 0, none⟩))
  | .func f => some (.func (.func f) #[] #[])
def evs (l : Env) : List Operand → Option (List Value)
  | [] => some []
  | x :: xs => match ev l x, evs l xs with
    | some v, some vs => some (v :: vs)
    | _, _ => none
def puto : Option Nat → Value → Env → Env
  | some d, v, l => (d, v) :: l
  | none, _, l => l
def okd (n : Nat) : Option Nat → Bool
  | some d => Nat.blt d n
  | none => true
structure St (n : Nat) (l : Env) (a : Act) : Prop where
  size : a.tmps.size = n
  defers : a.defers = []
  vals : ∀ i v, get l i = some v → a.tmps[i]? = some v
def Ag (l : Env) (ρ : Operand → Value) : Prop := ∀ x v, ev l x = some v → ρ x = v
def Sub : Env → Env → Prop
  | [], _ => True
  | (i, v) :: t, l => get l i = some v ∧ Sub t l

section
variable {n : Nat} {l l' : Env} {a : Act}
theorem St.ag (h : St n l a) : Ag l a.eval := by
  intro x v hv
  cases x with
  | tmp t =>
    have := h.vals t v hv
    simp only [Act.eval, Array.getD_eq_getD_getElem?, this, Option.getD_some]
  | const c => simpa [ev, Act.eval] using hv
  | global g => simpa [ev, Act.eval] using hv
  | func f => simpa [ev, Act.eval] using hv
theorem St.puto (h : St n l a) {d : Option Nat} (hd : okd n d = true) (v : Value) : St n (puto d v l) (a.put d v) := by
  cases d with
  | none => exact h
  | some d =>
    have hd' : d < n := by simpa [okd, Nat.blt_eq] using hd
    refine ⟨by simp [Act.put, h.size], h.defers, fun i u hu => ?_⟩
    simp only [Go.Proofs.YtmmmbkmjkpfleaaGreat.puto, get] at hu
    simp only [Act.put]
    by_cases e : d = i
    · subst e
      have : Nat.beq d d = true := Nat.beq_refl d
      rw [this, cond_true] at hu
      rw [Array.getElem?_setIfInBounds_self_of_lt (by rw [h.size]; exact hd')]
      exact hu
    · have hb : Nat.beq d i = false := by
        cases hq : Nat.beq d i
        · rfl
        · exact absurd (Nat.eq_of_beq_eq_true hq) e
      rw [hb, cond_false] at hu
      rw [Array.getElem?_setIfInBounds_ne e]
      exact h.vals i u hu
theorem Sub.get : ∀ {t l : Env}, Sub t l → ∀ i v, get t i = some v → get l i = some v
  | [], _, _, i, v, h => by cases h
  | (k, u) :: t, l, h, i, v, hv => by
    simp only [Go.Proofs.YtmmmbkmjkpfleaaGreat.get] at hv
    cases hq : Nat.beq k i with
    | true =>
      rw [hq, cond_true] at hv
      have := Nat.eq_of_beq_eq_true hq
      subst this
      rw [← hv]; exact h.1
    | false => rw [hq, cond_false] at hv; exact Sub.get h.2 i v hv
theorem St.sub (h : St n l a) (hs : Sub l' l) : St n l' a := ⟨h.size, h.defers, fun i v hv => h.vals i v (hs.get i v hv)⟩
end

/-! ## Weakest preconditions from a frame -/
def WK (n : Nat) (K : Act → World → Prop) (l : Env) (w : World) : Prop := ∀ a, St n l a → K a w
def W (P : Program) (n : Nat) (c : Code) (Q : Exit → Act → World → Prop) (l : Env) (w : World) : Prop := WK n (Code.wp P c Q) l w
def WL (P : Program) (n : Nat) (L : List Oper) (Q : Exit → Act → World → Prop) (rest : List Oper) (l : Env) (w : World) : Prop :=
  WK n (wpList P L.toArray Q rest) l w

section
variable {P : Program} {n : Nat} {Q : Exit → Act → World → Prop} {l l' : Env} {w : World} {x y c : Code}
theorem WK.sub {K : Act → World → Prop} (hs : Sub l' l) (h : WK n K l' w) : WK n K l w := fun a ha => h a (ha.sub hs)
theorem W.sub (hs : Sub l' l) (h : W P n c Q l' w) : W P n c Q l w := fun a ha => h a (ha.sub hs)
theorem W.seq (h : W P n x (Exit.then (Code.wp P y Q) Q) l w) : W P n (.seq x y) Q l w := fun a ha => wp_seq (h a ha)
theorem W.reg {id : Nat} {L : List Oper} (h : WL P n L Q L l w) : W P n (.region id L.toArray false) Q l w := fun a ha => wp_region_lit (h a ha)
theorem W.cT {o : Operand} {b : Bool} (h : ev l o = some (.bool b)) (hb : b = true) (k : W P n x Q l w) : W P n (.cond o x y) Q l w :=
  fun a ha => wp_cond_true (by rw [ha.ag _ _ h, hb]) (k a ha)
theorem W.cF {o : Operand} {b : Bool} (h : ev l o = some (.bool b)) (hb : b = false) (k : W P n y Q l w) : W P n (.cond o x y) Q l w :=
  fun a ha => wp_cond_false (by rw [ha.ag _ _ h, hb]) (k a ha)
theorem W.skip (h : WK n (Q .normal) l w) : W P n .skip Q l w := fun a ha => wp_skip (h a ha)
theorem W.label {j : Nat} (h : WK n (Q .normal) l w) : W P n (.label j) Q l w := fun a ha => wp_label (h a ha)
theorem W.ret (h : WK n (Q .ret) l w) : W P n .ret Q l w := fun a ha => wp_ret (h a ha)
theorem W.exit {id : Nat} (h : WK n (Q (.exit id)) l w) : W P n (.exit id) Q l w := fun a ha => wp_exit (h a ha)
theorem W.goto {j : Nat} (h : WK n (Q (.goto j)) l w) : W P n (.goto j) Q l w := fun a ha => wp_goto (h a ha)
theorem W.block {id : Nat} (h : W P n c (Exit.inBlock id Q) l w) : W P n (.block id c) Q l w := fun a ha => wp_block (h a ha)
theorem X.thenN (h : W P n y Q l w) : WK n (Exit.then (Code.wp P y Q) Q .normal) l w := h
theorem X.thenE {K : Act → World → Prop} {id : Nat} (h : WK n (Q (.exit id)) l w) : WK n (Exit.then K Q (.exit id)) l w := h
theorem X.thenR {K : Act → World → Prop} (h : WK n (Q .ret) l w) : WK n (Exit.then K Q .ret) l w := h
theorem X.inN {id : Nat} (h : WK n (Q .normal) l w) : WK n (Exit.inBlock id Q .normal) l w := h
theorem X.inR {id : Nat} (h : WK n (Q .ret) l w) : WK n (Exit.inBlock id Q .ret) l w := h
theorem X.inH {id : Nat} (h : WK n (Q .normal) l w) : WK n (Exit.inBlock id Q (.exit id)) l w := fun a ha => by
  simp only [Exit.inBlock, if_true]; exact h a ha
theorem X.inM {id j : Nat} (hne : (j == id) = false) (h : WK n (Q (.exit j)) l w) : WK n (Exit.inBlock id Q (.exit j)) l w := fun a ha => by
  have : ¬ j = id := by simpa using hne
  simp only [Exit.inBlock, this, if_false]; exact h a ha
theorem X.jmpR {j : Nat} {J : Act → World → Prop} (h : WK n (Q .ret) l w) : WK n (Exit.jump j J Q .ret) l w := h
def Here {X : Type} (n : Nat) (L : X → Env) (J : X → World → Prop) : Act → World → Prop := fun a w => ∃ y, St n (L y) a ∧ J y w
def Again {X : Type} (n : Nat) (μ : X → Nat) (L : X → Env) (J : X → World → Prop) (x : X) : Act → World → Prop :=
  fun a w => ∃ y, St n (L y) a ∧ J y w ∧ μ y < μ x

open Classical in
theorem exists_least {X : Type} (p : X → Prop) (μ : X → Nat) (h : ∃ x, p x) : ∃ x, p x ∧ ∀ y, p y → μ x ≤ μ y := by
  obtain ⟨x0, h0⟩ := h
  generalize hm : μ x0 = m
  induction m using Nat.strongRecOn generalizing x0 with
  | _ m ih =>
    by_cases hq : ∃ y, p y ∧ μ y < m
    · obtain ⟨y, hy, hlt⟩ := hq
      exact ih (μ y) hlt y hy rfl
    · refine ⟨x0, h0, fun y hy => ?_⟩
      rw [hm]
      exact Nat.le_of_not_lt fun hlt => hq ⟨y, hy, hlt⟩

open Classical in
noncomputable def leastOf {X : Type} (p : X → Prop) (μ : X → Nat) : Nat := if h : ∃ x, p x then μ (Classical.choose (exists_least p μ h)) else 0
theorem leastOf_le {X : Type} {p : X → Prop} {μ : X → Nat} {x : X} (h : p x) : leastOf p μ ≤ μ x := by
  unfold leastOf
  rw [dif_pos ⟨x, h⟩]
  exact (Classical.choose_spec (exists_least p μ ⟨x, h⟩)).2 x h
theorem leastOf_mem {X : Type} {p : X → Prop} {μ : X → Nat} (h : ∃ x, p x) : ∃ x, p x ∧ μ x = leastOf p μ := by
  unfold leastOf
  rw [dif_pos h]
  exact ⟨_, (Classical.choose_spec (exists_least p μ h)).1, rfl⟩

theorem W.loop {X : Type} (μ : X → Nat) (L : X → Env) (J : X → World → Prop) (x0 : X) (hs : Sub (L x0) l) (h0 : J x0 w)
    (round : ∀ x w, J x w → W P n c (Exit.then (Again n μ L J x) Q) (L x) w) : W P n (.loop c) Q l w := by
  intro a ha
  refine wp_loop (fun a w => ∃ x, St n (L x) a ∧ J x w) (fun a w => leastOf (fun x => St n (L x) a ∧ J x w) μ) ⟨x0, ha.sub hs, h0⟩ ?_
  intro a w hI
  obtain ⟨x, ⟨hx, hJ⟩, hm⟩ := leastOf_mem (μ := μ) hI
  refine wp_mono (round x w hJ a hx) ?_
  intro e a' w' h
  cases e <;> try exact h
  obtain ⟨y, hy, hJy, hlt⟩ := h
  refine ⟨⟨y, hy, hJy⟩, ?_⟩
  have := leastOf_le (p := fun x => St n (L x) a' ∧ J x w') (μ := μ) ⟨hy, hJy⟩
  show leastOf _ μ < leastOf _ μ
  omega

theorem X.again {X : Type} {μ : X → Nat} {L : X → Env} {J : X → World → Prop} {x : X} (y : X) (hs : Sub (L y) l) (hJ : J y w) (hμ : μ y < μ x) :
    WK n (Exit.then (Again n μ L J x) Q .normal) l w := fun a ha => ⟨y, ha.sub hs, hJ, hμ⟩
theorem X.jmpA {X : Type} {μ : X → Nat} {L : X → Env} {J : X → World → Prop} {x : X} {j : Nat} (y : X) (hs : Sub (L y) l) (hJ : J y w) (hμ : μ y < μ x) :
    WK n (Exit.jump j (Again n μ L J x) Q (.goto j)) l w := fun a ha => ⟨rfl, y, ha.sub hs, hJ, hμ⟩

theorem W.scope {X : Type} {B : Code} (j : Nat) (hf : findLabel c j = some (.seq .skip B)) (μ : X → Nat) (L : X → Env) (J : X → World → Prop)
    (pass : ∀ x w, J x w → W P n B (Exit.jump j (Again n μ L J x) Q) (L x) w)
    (first : (∀ x l w, Sub (L x) l → J x w → W P n B (Exit.jump j (Here n L J) Q) l w) → W P n c (Exit.jump j (Here n L J) Q) l w) : W P n (.scope c) Q l w := by
  intro a ha
  refine wp_scope_jumps j (fun a w => ∃ x, St n (L x) a ∧ J x w) (fun a w => leastOf (fun x => St n (L x) a ∧ J x w) μ) hf (first ?_ a ha) ?_
  · intro x l w hs hJ a ha
    refine wp_mono (pass x w hJ a (ha.sub hs)) ?_
    intro e a' w' h
    cases e <;> try exact h
    obtain ⟨he, y, hy, hJy, _⟩ := h
    exact ⟨he, y, hy, hJy⟩
  · intro a w hI
    obtain ⟨x, ⟨hx, hJ⟩, hm⟩ := leastOf_mem (μ := μ) hI
    refine wp_seq (wp_skip ?_)
    refine wp_mono (pass x w hJ a hx) ?_
    intro e a' w' h
    cases e <;> try exact h
    obtain ⟨he, y, hy, hJy, hlt⟩ := h
    refine ⟨he, ⟨y, hy, hJy⟩, ?_⟩
    have := leastOf_le (p := fun x => St n (L x) a' ∧ J x w') (μ := μ) ⟨hy, hJy⟩
    show leastOf _ μ < leastOf _ μ
    omega
end

/-! ## Operations -/
/-- The operation, from a frame with these slots and in this world, yields v and leaves the world w'. -/
def Ex (P : Program) (l : Env) (w : World) (o : Oper) (v : Value) (w' : World) : Prop := ∀ ρ, Ag l ρ → (execOp ρ o).run P w = .ok (.value v) w'
def ExS (P : Program) (l : Env) (w : World) (o : Oper) (w' : World) : Prop := ∀ ρ, Ag l ρ → (execOp ρ o).run P w = .ok .skip w'

section
variable {P : Program} {n : Nat} {L : List Oper} {Q : Exit → Act → World → Prop} {rest : List Oper} {l : Env} {w w' : World} {o : Oper} {v : Value} {y : Code}
theorem WL.nil (h : WK n (Q .normal) l w) : WL P n L Q [] l w := h
theorem WL.fin (h : W P n y Q l w) : WL P n L (Exit.then (Code.wp P y Q) Q) [] l w := h
theorem WL.val (hg : o.guard = none) (hd : okd n o.dst = true) (hx : Ex P l w o v w') (k : WL P n L Q rest (puto o.dst v l) w') : WL P n L Q (o :: rest) l w :=
  fun a ha => wpList_plain hg fun K hK => by
    unfold Oper.wp
    rw [hx _ ha.ag, Oper.upon_value]
    exact hK _ _ (k _ (ha.puto hd v))
theorem WL.stp (hg : o.guard = none) (hd : o.dst = none) (hx : ExS P l w o w') (k : WL P n L Q rest l w') : WL P n L Q (o :: rest) l w :=
  fun a ha => wpList_plain hg fun K hK => by
    unfold Oper.wp
    rw [hx _ ha.ag, Oper.upon_skip, hd]
    exact hK _ _ (k _ ha)
theorem yielded_of {j dj : Nat} {b : Bool} {a : Act} (ha : St n l a) (hj : (L[j]?).bind (·.dst) = some dj) (hb : get l dj = some (.bool b)) : yielded L.toArray a.tmps j = some b := by
  unfold yielded
  rw [show (L.toArray[j]?) = L[j]? from by simp, hj]
  simp only [Option.bind_some, ha.vals _ _ hb]
theorem WL.g1 {d : Option Nat} {op : Op} {t : TypeId} {p : String} {af : Array Edge} {j dj : Nat} {want b : Bool} (hj : (L[j]?).bind (·.dst) = some dj) (hb : get l dj = some (.bool b)) (hw : b = want)
    (k : WL P n L Q (⟨d, op, t, p, af, none⟩ :: rest) l w) : WL P n L Q (⟨d, op, t, p, af, some (j, want)⟩ :: rest) l w := fun a ha => by
  have h := k a ha
  have hy := yielded_of ha hj hb
  unfold wpList at h ⊢
  have h1 : Region.wanted ⟨d, op, t, p, af, some (j, want)⟩ (yielded L.toArray a.tmps) = true := by simp [Region.wanted, hy, hw]
  have h2 : Region.wanted ⟨d, op, t, p, af, none⟩ (yielded L.toArray a.tmps) = true := by simp [Region.wanted]
  rw [if_pos h1]; rw [if_pos h2] at h
  exact h
theorem WL.g0 {d : Option Nat} {op : Op} {t : TypeId} {p : String} {af : Array Edge} {j dj : Nat} {want b : Bool} (hj : (L[j]?).bind (·.dst) = some dj) (hb : get l dj = some (.bool b)) (hw : b = !want) (hd : okd n d = true)
    (k : WL P n L Q rest (puto d undef l) w) : WL P n L Q (⟨d, op, t, p, af, some (j, want)⟩ :: rest) l w := fun a ha => by
  have hy := yielded_of ha hj hb
  unfold wpList
  have h1 : Region.wanted ⟨d, op, t, p, af, some (j, want)⟩ (yielded L.toArray a.tmps) = false := by subst hw; cases want <;> simp [Region.wanted, hy]
  rw [if_neg (by simp [h1])]
  exact k _ (ha.puto hd undef)
theorem yielded_undef {j dj : Nat} {a : Act} (ha : St n l a) (hj : (L[j]?).bind (·.dst) = some dj) (hb : get l dj = some undef) : yielded L.toArray a.tmps j = none := by
  unfold yielded
  rw [show (L.toArray[j]?) = L[j]? from by simp, hj]
  simp only [Option.bind_some, ha.vals _ _ hb]
  rfl
theorem WL.gu {d : Option Nat} {op : Op} {t : TypeId} {p : String} {af : Array Edge} {j dj : Nat} {want : Bool} (hj : (L[j]?).bind (·.dst) = some dj) (hb : get l dj = some undef) (hd : okd n d = true)
    (k : WL P n L Q rest (puto d undef l) w) : WL P n L Q (⟨d, op, t, p, af, some (j, want)⟩ :: rest) l w := fun a ha => by
  have hy := yielded_undef ha hj hb
  unfold wpList
  have h1 : Region.wanted ⟨d, op, t, p, af, some (j, want)⟩ (yielded L.toArray a.tmps) = false := by simp [Region.wanted, hy]
  rw [if_neg (by simp [h1])]
  exact k _ (ha.puto hd undef)
end
end Go.Proofs.YtmmmbkmjkpfleaaGreat
