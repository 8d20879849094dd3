/- Plain functions: sliding. No statement of the seat is proved here; conditions: none. -/
import Derived.Test.YtmmmbkmjkpfleaaGreatResC
namespace Go.Proofs.YtmmmbkmjkpfleaaGreat
open Go Go.RowKit

def riseF : Int → List Spc → Bool
  | _, [] => true
  | e, s :: l => if spR s = true ∧ ¬ s.from_ < e then riseF s.end_ l else false
def rise (l : List Spc) : Bool := riseF 1 l
theorem drop_getD {α : Type} [Inhabited α] {l : List α} {i : Nat} (h : i < l.length) : l.drop i = l.getD i default :: l.drop (i + 1) := by
  rw [List.drop_eq_getElem_cons h]
  have := get_some h
  rw [List.getElem?_eq_getElem h] at this
  rw [Option.some.inj this]
theorem take_getD {α : Type} [Inhabited α] {l : List α} {i : Nat} (h : i < l.length) : l.take (i + 1) = l.take i ++ [l.getD i default] := by
  rw [List.take_succ_eq_append_getElem h]
  have := get_some h
  rw [List.getElem?_eq_getElem h] at this
  rw [Option.some.inj this]
theorem riseF_step {l : List Spc} {i : Nat} {e : Int} (h : i < l.length) (h1 : spR (l.getD i default) = true) (h2 : ¬ (l.getD i default).from_ < e) : riseF e (l.drop i) = riseF (l.getD i default).end_ (l.drop (i + 1)) := by
  rw [drop_getD h, riseF, if_pos ⟨h1, h2⟩]
theorem riseF_no {l : List Spc} {i : Nat} {e : Int} (h : i < l.length) (h1 : ¬ (spR (l.getD i default) = true ∧ ¬ (l.getD i default).from_ < e)) : riseF e (l.drop i) = false := by
  rw [drop_getD h, riseF, if_neg h1]
theorem riseF_all : ∀ (l : List Spc) (e : Int), riseF e l = true → ∀ s ∈ l, spR s = true
  | [], _, _, s, hs => by simp at hs
  | a :: l, e, h, s, hs => by
    rw [riseF] at h
    split at h
    · rename_i h1
      rcases List.mem_cons.1 hs with rfl | hs
      · exact h1.1
      · exact riseF_all l _ h s hs
    · cases h
theorem rise_all {l : List Spc} (h : rise l = true) : ∀ s ∈ l, spR s = true := riseF_all l 1 h
theorem spEmpty_R {s : Spc} (h : spR s = true) : spR (spEmpty s) = true ∧ spEmpty s = ⟨s.from_, s.from_, s.end_⟩ := by
  have e : spEmpty s = ⟨s.from_, s.from_, s.end_⟩ := by unfold spEmpty; rw [if_pos h]
  have := spR_t h
  refine ⟨?_, e⟩
  rw [e, spR_iff]; simp only; omega
def fitL (n : Int) : List Spc → Nat
  | [] => 0
  | s :: r => if n ≤ s.end_ - s.top then 0 else 1 + fitL n r
def planF (now : List Spc) (k : Nat) : List Int → List Int → Option (List Int × List Spc)
  | [], out => some (out, now)
  | n :: r, out =>
    if k + fitL n (now.drop k) < now.length then
      planF (now.set (k + fitL n (now.drop k)) ⟨(now.getD (k + fitL n (now.drop k)) default).from_, (now.getD (k + fitL n (now.drop k)) default).top + n, (now.getD (k + fitL n (now.drop k)) default).end_⟩) (k + fitL n (now.drop k)) r (out ++ [(now.getD (k + fitL n (now.drop k)) default).top])
    else none
def planR (l : List Spc) (sz : List Int) : Int × List Int × List Spc :=
  if ¬ rise l = true ∨ sz.any (fun n => decide (n < 1)) = true then (1, [], []) else match planF (l.map spEmpty) 0 sz [] with
    | some (o, s) => (0, o, s)
    | none => (3, [], [])
theorem planF_step {now : List Spc} {k0 k : Nat} {n : Int} {r out : List Int} (he : k0 + fitL n (now.drop k0) = k) (hk : k < now.length) :
    planF now k0 (n :: r) out = planF (now.set k ⟨(now.getD k default).from_, (now.getD k default).top + n, (now.getD k default).end_⟩) k r (out ++ [(now.getD k default).top]) := by
  rw [planF, he, if_pos hk]
theorem planF_none {now : List Spc} {k0 k : Nat} {n : Int} {r out : List Int} (he : k0 + fitL n (now.drop k0) = k) (hk : ¬ k < now.length) : planF now k0 (n :: r) out = none := by
  rw [planF, he, if_neg hk]
theorem fitL_here {now : List Spc} {k : Nat} {n : Int} (hk : k < now.length) (h : n ≤ (now.getD k default).end_ - (now.getD k default).top) : k + fitL n (now.drop k) = k := by
  rw [drop_getD hk, fitL, if_pos h]; rfl
theorem fitL_next {now : List Spc} {k : Nat} {n : Int} (hk : k < now.length) (h : ¬ n ≤ (now.getD k default).end_ - (now.getD k default).top) : k + fitL n (now.drop k) = k + 1 + fitL n (now.drop (k + 1)) := by
  rw [drop_getD hk, fitL, if_neg h]; omega
theorem fitL_end {now : List Spc} {k : Nat} {n : Int} (hk : now.length ≤ k) : k + fitL n (now.drop k) = k := by
  rw [List.drop_eq_nil_of_le hk]; rfl
/-- The objects of some spaces, none where one cannot be walked through. -/
def walksF (ws : List Int) (cs : List Cls) (acc : List Int) : List Spc → Option (List Int)
  | [] => some acc
  | s :: l => if (walk ws cs s.from_ s.top).1 ≠ 0 then none else walksF ws cs (acc ++ (walk ws cs s.from_ s.top).2) l
theorem walksF_step {ws : List Int} {cs : List Cls} {acc : List Int} {l : List Spc} {i : Nat} (h : i < l.length) (h1 : ¬ (walk ws cs (l.getD i default).from_ (l.getD i default).top).1 ≠ 0) :
    walksF ws cs acc (l.drop i) = walksF ws cs (acc ++ (walk ws cs (l.getD i default).from_ (l.getD i default).top).2) (l.drop (i + 1)) := by rw [drop_getD h, walksF, if_neg h1]
theorem walksF_no {ws : List Int} {cs : List Cls} {acc : List Int} {l : List Spc} {i : Nat} (h : i < l.length) (h1 : (walk ws cs (l.getD i default).from_ (l.getD i default).top).1 ≠ 0) : walksF ws cs acc (l.drop i) = none := by rw [drop_getD h, walksF, if_pos h1]
def encB : Bool → Value := .bool
def encN : Int → Value := .int .i64
/-- The set of some numbers, as a map. -/
def memF (al : List Int) : Int → Option Bool := fun k => if k ∈ al then some true else none
theorem memF_snoc (al : List Int) (x k : Int) : mset (memF al) x true k = memF (al ++ [x]) k := by
  unfold mset memF
  by_cases h : x = k
  · subst h; simp
  · have h' : ¬ k = x := fun e => h e.symm
    simp [h, h']
theorem memF_lk (al : List Int) (k : Int) : ((memF al k).map encB).getD (.bool false) = .bool (decide (k ∈ al)) := by
  unfold memF; split <;> simp_all [encB]
/-- Where each goes: 0 to 0, and the pairs. -/
def toG (prs : List (Int × Int)) : Int → Option Int := prs.foldl (fun G q => mset G q.1 q.2) (mset (fun _ => none) 0 0)
theorem toG_snoc (prs : List (Int × Int)) (q : Int × Int) : toG (prs ++ [q]) = mset (toG prs) q.1 q.2 := by simp [toG]
def lostF (ws : List Int) (cs : List Cls) (G : Int → Option Int) (a : Int) : Bool := (List.range (objT ws cs a).refs.toNat).any fun i => !(G (gi ws (a + 2 + i))).isSome
/-- An object's references, made to lead where they go. -/
def adjF (ws : List Int) (G : Int → Option Int) (a : Int) : Nat → List Int
  | 0 => ws
  | k + 1 => (adjF ws G a k).set (a + 2 + k).toNat ((G (gi (adjF ws G a k) (a + 2 + k))).getD 0)
def slMove (ws : List Int) (cs : List Cls) (G : Int → Option Int) (a n : Int) : List Int :=
  moveW ((adjF ws G a (objT ws cs a).refs.toNat).set a.toNat (hdW ⟨(objT ws cs a).hd.cls, (objT ws cs a).hd.age, 0, false, (objT ws cs a).hd.final, (objT ws cs a).hd.done⟩)) ((G a).getD 0).toNat a.toNat n.toNat
end Go.Proofs.YtmmmbkmjkpfleaaGreat
