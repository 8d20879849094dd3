/- Equality of structs by their cells. No statement of the seat is proved here; conditions: none. -/
import Derived.Test.YtmmmbkmjkpfleaaGreatResF
import Derived.Laws.StructEq
namespace Go.Proofs.YtmmmbkmjkpfleaaGreat
open Go Go.RowKit

inductive EC where
  | i (k : IntKind)
  | b
def eqC : Value → Value → Bool
  | .int _ a, .int _ b => a == b
  | .bool a, .bool b => a == b
  | _, _ => false
def eqL : List Value → List Value → Bool
  | [], [] => true
  | x :: xs, y :: ys => eqC x y && eqL xs ys
  | _, _ => false
def fitK : EC → Value → Bool
  | .i k, .int j _ => decide (j = k)
  | .b, .bool _ => true
  | _, _ => false
def fitLs : List EC → List Value → Bool
  | [], [] => true
  | k :: ks, v :: vs => fitK k v && fitLs ks vs
  | _, _ => false
def eqFs (P : Program) : Nat → List Field → Option (List EC)
  | _, [] => some []
  | k, f :: fs => if f.offset = k ∧ f.name ≠ "_" ∧ isA P f.type = some false then match intT P f.type, boolT P f.type, eqFs P (k + 1) fs with
      | some j, _, some ks => some (.i j :: ks)
      | none, true, some ks => some (.b :: ks)
      | _, _, _ => none
    else none
def eqTy (P : Program) (T : TypeId) : Option (List EC) := match P.underlying T with
  | some (.struct fs) => if P.stoodInHeld T = false ∧ P.eqGuardType P.depth T = false then eqFs P 0 fs.toList else none
  | _ => none
section
variable {P : Program} {w : World}
theorem run_eqFs (d : Nat) : ∀ (fs : List Field) (k : Nat) (ks : List EC) (xs ys ps qs : List Value), eqFs P k fs = some ks → ps.length = k → qs.length = k → fitLs ks xs = true → fitLs ks ys = true →
    (Op.eqFields (d + 1) (ps ++ xs).toArray (qs ++ ys).toArray fs).run P w = .ok (eqL xs ys) w
  | [], k, ks, xs, ys, ps, qs, h, _, _, hx, hy => by
    cases h
    cases xs <;> cases ys <;> simp_all [fitLs, Op.eqFields, eqL]
  | f :: fs, k, ks, xs, ys, ps, qs, h, hp, hq, hx, hy => by
    rw [eqFs] at h
    split at h
    · rename_i hf
      obtain ⟨ho, hn, hA⟩ := hf
      have key : ∀ (c : EC) (ks' : List EC), eqFs P (k + 1) fs = some ks' → ks = c :: ks' → (∀ x y : Value, fitK c x = true → fitK c y = true → (Op.equalIn (d + 1) f.type x y).run P w = .ok (eqC x y) w) →
          (Op.eqFields (d + 1) (ps ++ xs).toArray (qs ++ ys).toArray (f :: fs)).run P w = .ok (eqL xs ys) w := by
        intro c ks' h1 h2 h3
        subst h2
        cases xs with
        | nil => simp [fitLs] at hx
        | cons x xs =>
          cases ys with
          | nil => simp [fitLs] at hy
          | cons y ys =>
            simp only [fitLs, Bool.and_eq_true] at hx hy
            have e1 : (part f.type (ps ++ x :: xs).toArray f.offset).run P w = .ok x w := by
              simp [part, run_isA hA, ho, ← hp]
            have e2 : (part f.type (qs ++ y :: ys).toArray f.offset).run P w = .ok y w := by
              simp [part, run_isA hA, ho, ← hq]
            have ih := run_eqFs d fs (k + 1) ks' xs ys (ps ++ [x]) (qs ++ [y]) h1 (by simp [hp]) (by simp [hq]) hx.2 hy.2
            rw [List.append_assoc, List.append_assoc] at ih
            simp only [List.singleton_append] at ih
            simp only [Op.eqFields, if_pos hn, Sem.run_bind, e1, e2, Result.andThen_ok, h3 x y hx.1 hy.1, eqL]
            cases hc : eqC x y with
            | true => simp only [Bool.not_true, Bool.false_eq_true, if_false, ih, Bool.true_and]
            | false => simp
      cases hk : eqFs P (k + 1) fs with
      | none => rw [hk] at h; simp at h
      | some ks' =>
        rw [hk] at h
        cases hj : intT P f.type with
        | some j =>
          rw [hj] at h
          cases h
          refine key (.i j) ks' hk rfl fun x y h1 h2 => ?_
          cases x <;> simp [fitK] at h1
          cases y <;> simp [fitK] at h2
          subst h1 h2
          exact run_equalIn_int w d f.type _ _ _ _ (intT_eq hj)
        | none =>
          rw [hj] at h
          cases hb : boolT P f.type with
          | false => rw [hb] at h; simp at h
          | true =>
            rw [hb] at h
            cases h
            refine key .b ks' hk rfl fun x y h1 h2 => ?_
            cases x <;> simp [fitK] at h1
            cases y <;> simp [fitK] at h2
            exact run_equalIn_bool' w d f.type _ _ (boolT_eq hb)
    · cases h
theorem run_eqTy {T : TypeId} {ks : List EC} {xs ys : List Value} (h : eqTy P T = some ks) (hx : fitLs ks xs = true) (hy : fitLs ks ys = true) (d : Nat) : (Op.equalIn (d + 2) T (.agg xs.toArray) (.agg ys.toArray)).run P w = .ok (eqL xs ys) w ∧ P.eqGuardType P.depth T = false := by
  unfold eqTy at h
  split at h <;> try cases h
  rename_i fs hu
  split at h <;> try cases h
  rename_i hp
  have hfs : P.fieldsOf T = fs := by unfold Program.fieldsOf; rw [hu]
  refine ⟨?_, hp.2⟩
  rw [run_equalIn_agg w (d + 1) T _ _ (by rw [hfs]; exact hu) hp.1, hfs]
  have := run_eqFs (P := P) (w := w) d fs.toList 0 ks xs ys [] [] h rfl rfl hx hy
  simpa using this
end
section
variable {P : Program} {l : Env} {w : World} {d : Option Tmp} {t : TypeId} {p : String} {af : Array Edge} {g : Option (Nat × Bool)} {x y : Operand}
theorem X.neA {T T' : TypeId} {ks : List EC} {xs ys : List Value} {b : Bool} (hT : eqTy P T = some ks) (hx : ev l x = some (.agg xs.toArray)) (hy : ev l y = some (.agg ys.toArray)) (h1 : fitLs ks xs = true) (h2 : fitLs ks ys = true) (hb : eqL xs ys = b) :
    Ex P l w ⟨d, .binOp .neq T x y T', t, p, af, g⟩ (.bool (!b)) w := fun ρ hρ => by
  subst hb
  have h := run_eqTy (P := P) (w := w) hT h1 h2 9998
  simp only [execOp, hρ _ _ hx, hρ _ _ hy, Sem.run_bind, run_eqGuard_agg w .neq T x y _ _ h.2, Result.andThen_ok, run_neq_struct, h.1, Sem.run_pure]
end
theorem encS_eq (s t : Spc) : eqL (encS s) (encS t) = decide (s = t) := by
  rw [Bool.eq_iff_iff]
  obtain ⟨a, b, c⟩ := s
  obtain ⟨a', b', c'⟩ := t
  simp [encS, eqL, eqC]
end Go.Proofs.YtmmmbkmjkpfleaaGreat
