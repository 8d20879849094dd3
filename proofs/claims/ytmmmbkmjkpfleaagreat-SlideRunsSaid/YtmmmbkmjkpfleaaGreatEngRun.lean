/- Many steps at once; cuts. No statement of the seat is proved here; conditions: none. -/
import Derived.Test.YtmmmbkmjkpfleaaGreatEngMem
namespace Go.Proofs.YtmmmbkmjkpfleaaGreat
open Go Go.RowKit

/-! ## Plain operations, several at once -/
def lookF : List (Nat × Nat × Nat) → Nat → Nat → Option Nat
  | [], _, _ => none
  | (s, f, k) :: r, S, g => bif Nat.beq s S && Nat.beq f g then some k else lookF r S g
def stepI (k : IntKind) (a b : Int) : BinOp → Option Value
  | .lss => some (.bool (decide (a < b)))
  | .leq => some (.bool (decide (a ≤ b)))
  | .gtr => some (.bool (decide (b < a)))
  | .geq => some (.bool (decide (b ≤ a)))
  | .eql => some (.bool (decide (a = b)))
  | .neq => some (.bool (decide (a ≠ b)))
  | _ => none
def stepV (ft : List (Nat × Nat × Nat)) (l : Env) : Op → Option Value
  | .move x => ev l x
  | .assign x => ev l x
  | .extract x i => match ev l x with
    | some (.tuple vs) => vs[i]?
    | _ => none
  | .unOp .not _ x => match ev l x with
    | some (.bool b) => some (.bool (!b))
    | _ => none
  | .nilCheck x => match ev l x with
    | some (.pointer (some a)) => some (.pointer (some a))
    | _ => none
  | .fieldAddr S x f => match ev l x with
    | some (.pointer (some ⟨b, o, none⟩)) => match lookF ft S f with
      | some k => some (.pointer (some ⟨b, o + k, none⟩))
      | none => none
    | _ => none
  | .binOp op _ x y _ => match ev l x, ev l y with
    | some (.int k a), some (.int j b) => if k = j then stepI k a b op else none
    | _, _ => none
  | _ => none
def runS (ft : List (Nat × Nat × Nat)) (n : Nat) : Nat → List Oper → Env → Option (List Oper × Env)
  | 0, L, l => some (L, l)
  | _ + 1, [], _ => none
  | k + 1, ⟨d, op, _, _, _, none⟩ :: rest, l => match okd n d, stepV ft l op with
    | true, some v => runS ft n k rest (puto d v l)
    | _, _ => none
  | _ + 1, _ :: _, _ => none
section
variable {P : Program} {n : Nat} {L : List Oper} {Q : Exit → Act → World → Prop} {rest rest' : List Oper} {l l' : Env} {w : World} {ft : List (Nat × Nat × Nat)}
theorem step_ok (hft : ∀ S f k, lookF ft S f = some k → fieldOff P S f = some k) {op : Op} {d : Option Tmp} {t : TypeId} {p : String} {af : Array Edge} {g : Option (Nat × Bool)} {v : Value} (h : stepV ft l op = some v) : Ex P l w ⟨d, op, t, p, af, g⟩ v w := by
  unfold stepV at h
  split at h
  · exact X.mv h
  · exact X.as h
  · split at h
    · rename_i hx; exact X.ext hx h
    · cases h
  · split at h
    · rename_i hx; cases h; exact X.not hx
    · cases h
  · split at h
    · rename_i hx; cases h; exact X.nilc hx
    · cases h
  · split at h
    · rename_i hx
      split at h
      · rename_i hk; cases h; exact X.fa (hft _ _ _ hk) hx rfl
      · cases h
    · cases h
  · split at h
    · rename_i hx hy
      split at h
      · rename_i hk
        subst hk
        unfold stepI at h
        split at h <;> cases h
        · exact X.lss hx hy
        · exact X.leq hx hy
        · exact X.gtr hx hy
        · exact X.geq hx hy
        · exact X.eql hx hy
        · exact X.neq hx hy
      · cases h
    · cases h
  · cases h
theorem runS_ok (hft : ∀ S f k, lookF ft S f = some k → fieldOff P S f = some k) : ∀ (k : Nat) {rest : List Oper} {l : Env}, runS ft n k rest l = some (rest', l') → WL P n L Q rest' l' w → WL P n L Q rest l w
  | 0, rest, l, h, hk => by
    simp only [runS, Option.some.injEq, Prod.mk.injEq] at h
    obtain ⟨rfl, rfl⟩ := h
    exact hk
  | k + 1, [], l, h, hk => by cases h
  | k + 1, ⟨d, op, t, p, af, none⟩ :: rest, l, h, hk => by
    simp only [runS] at h
    split at h
    · rename_i h1 h2
      exact WL.val rfl h1 (step_ok hft h2) (runS_ok hft k h hk)
    · cases h
  | k + 1, ⟨d, op, t, p, af, some _⟩ :: rest, l, h, hk => by cases h
/-! ## Steps that come together -/
variable {x y : Code}
theorem W.sr {id : Nat} (h : WL P n L (Exit.then (Code.wp P y Q) Q) L l w) : W P n (.seq (.region id L.toArray false) y) Q l w := W.seq (W.reg h)
theorem WL.a {id : Nat} {L2 : List Oper} (h : WL P n L2 (Exit.then (Code.wp P y Q) Q) L2 l w) : WL P n L (Exit.then (Code.wp P (.seq (.region id L2.toArray false) y) Q) Q) [] l w := WL.fin (W.sr h)
theorem WL.b {id : Nat} {L2 : List Oper} (h : WL P n L2 Q L2 l w) : WL P n L (Exit.then (Code.wp P (.region id L2.toArray false) Q) Q) [] l w := WL.fin (W.reg h)
theorem WL.c {id : Nat} (h : W P n x (Exit.inBlock id (Exit.then (Code.wp P y Q) Q)) l w) : WL P n L (Exit.then (Code.wp P (.seq (.block id x) y) Q) Q) [] l w := WL.fin (W.seq (W.block h))
theorem WL.s (h : W P n x (Exit.then (Code.wp P y Q) Q) l w) : WL P n L (Exit.then (Code.wp P (.seq x y) Q) Q) [] l w := WL.fin (W.seq h)
theorem W.k (h : W P n y Q l w) : W P n .skip (Exit.then (Code.wp P y Q) Q) l w := W.skip (X.thenN h)
theorem W.ks {id : Nat} {L2 : List Oper} (h : WL P n L2 (Exit.then (Code.wp P y Q) Q) L2 l w) : W P n .skip (Exit.then (Code.wp P (.seq (.region id L2.toArray false) y) Q) Q) l w := W.k (W.sr h)
theorem W.kr {id : Nat} {L2 : List Oper} (h : WL P n L2 Q L2 l w) : W P n .skip (Exit.then (Code.wp P (.region id L2.toArray false) Q) Q) l w := W.k (W.reg h)
theorem WL.v {o : Oper} {v : Value} {w' : World} (hx : Ex P l w o v w') (k : WL P n L Q rest (puto o.dst v l) w') (hg : o.guard = none := by rfl) (hd : okd n o.dst = true := by rfl) : WL P n L Q (o :: rest) l w := WL.val hg hd hx k
theorem WD.v {S : World → Prop} {fuel : Nat} {listed : Array Bool} {o : Oper} {v : Value} (i : Nat) (hi : L[i]? = some o) (hS : S w) (hx : ∀ w, S w → Ex P l w o v w) (k : WD P n L Q S fuel (listed.setIfInBounds i true) (puto o.dst v l) w)
    (hc : canTake L listed i = true := by kernel_rfl) (hg : o.guard = none := by rfl) (hd : okd n o.dst = true := by rfl) (hQ : ∀ c a w, Q (.panic c) (a.put o.dst v) w → Q (.panic c) a w := by exact fun _ _ _ h => h) : WD P n L Q S (fuel + 1) listed l w := WD.val i hi hc hg hd hQ hS hx k
theorem WD.s {S : World → Prop} {fuel : Nat} {listed : Array Bool} (h : S w) (k : S w → WD P n L Q S fuel listed l w) : WD P n L Q S fuel listed l w := k h
theorem andS {a b : Prop} (h : a) (k : a → b) : a ∧ b := ⟨h, k h⟩
theorem WD.gv {S : World → Prop} {fuel : Nat} {listed : Array Bool} {o : Oper} {v : Value} {j dj : Nat} {want b : Bool} (i : Nat) (hi : L[i]? = some o) (hg : o.guard = some (j, want)) (hj : (L[j]?).bind (·.dst) = some dj) (hb : get l dj = some (.bool b)) (hw : b = want) (hS : S w) (hx : ∀ w, S w → Ex P l w o v w)
    (k : WD P n L Q S fuel (listed.setIfInBounds i true) (puto o.dst v l) w) (hc : canTake L listed i = true := by kernel_rfl) (hd : okd n o.dst = true := by rfl) (hQ : ∀ c a w, Q (.panic c) (a.put o.dst v) w → Q (.panic c) a w := by exact fun _ _ _ h => h) : WD P n L Q S (fuel + 1) listed l w := WD.g1 i hi hc hg hj hb hw hd hQ hS hx k
/-! ## A piece of code that ends in a few slots, with what is known of them -/
theorem W.seqCut {X : Type} (L : X → Env) (J : X → World → Prop) (hx : W P n x (Exit.then (Here n L J) Q) l w) (hy : ∀ z w, J z w → W P n y Q (L z) w) : W P n (.seq x y) Q l w := by
  intro a ha
  refine wp_seq (wp_mono (hx a ha) ?_)
  intro e a' w' h
  cases e <;> try exact h
  obtain ⟨z, hz, hJ⟩ := h
  exact hy z w' hJ a' hz
theorem X.here {X : Type} {L : X → Env} {J : X → World → Prop} (z : X) (hs : Sub (L z) l) (hJ : J z w) : WK n (Exit.then (Here n L J) Q .normal) l w := fun a ha => ⟨z, ha.sub hs, hJ⟩
end
end Go.Proofs.YtmmmbkmjkpfleaaGreat
