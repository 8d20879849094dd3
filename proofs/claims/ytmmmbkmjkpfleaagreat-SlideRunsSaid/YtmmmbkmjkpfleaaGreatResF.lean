/- Resources: what is given to a call, and what is not. No statement of the seat is proved here; conditions: none. -/
import Derived.Test.YtmmmbkmjkpfleaaGreatPureM
namespace Go.Proofs.YtmmmbkmjkpfleaaGreat
open Go Go.RowKit

theorem Hp.frontDis {w0 w : World} {F : List Nat} {Rs Rs' : List Res} {R : Res} (hp : Hp w0 F (Rs ++ Rs') w) (i : Nat) (hi : Rs'[i]? = some R) : ∀ k ∈ R.foot, k ∉ Rs.flatMap Res.foot := fun k hk hk' => by
  have hd := hp.dis
  rw [List.flatMap_append, List.nodup_append] at hd
  exact hd.2.2 k hk' k (List.mem_flatMap.2 ⟨R, List.mem_of_getElem? hi, hk⟩) rfl
theorem Hp.oldFront {w0 w : World} {Rs Rs' : List Res} {R : Res} (hp : Hp w0 [] (Rs ++ Rs') w) (hR : R.ok w0) : ∀ k ∈ R.foot, k ∉ Rs.flatMap Res.foot := fun k hk hk' => by
  obtain ⟨S, hS, hkS⟩ := List.mem_flatMap.1 hk'
  have h1 := (hp.wr S (List.mem_append_left _ hS) k hkS).resolve_right (by simp)
  have h2 := R.lt w0 hR k hk
  omega
theorem X.idxAO {P : Program} {l : Env} {w : World} {t : TypeId} {p : String} {af : Array Edge} {d : Option Tmp} {g : Option (Nat × Bool)} {x y : Operand} {T e : TypeId} {b o m sz : Nat} {i : Int} {k : IntKind} {j r : Nat} (hT : arrT P T = some (m, e)) (hs : szT P e = some sz) (hx : ev l x = some (.pointer (some ⟨b, o, none⟩))) (hi : ev l y = some (.int k i))
    (hj : i = (j : Int)) (hlt : j < m) (hr : o + j * sz = r) : Ex P l w ⟨d, .indexAddr T x y, t, p, af, g⟩ (.pointer (some ⟨b, r, none⟩)) w := by
  have h := X.idxA (P := P) (l := l) (w := w) (d := d) (t := t) (p := p) (af := af) (g := g) (j := j) hT hs hx hi hj hlt
  rw [addr_add, hr] at h
  exact h
end Go.Proofs.YtmmmbkmjkpfleaaGreat
