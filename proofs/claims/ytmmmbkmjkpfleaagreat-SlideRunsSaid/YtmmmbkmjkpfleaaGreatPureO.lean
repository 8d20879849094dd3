/- Plain functions: a world that was made. No statement of the seat is proved here; conditions: none. -/
import Derived.Test.YtmmmbkmjkpfleaaGreatPureN
namespace Go.Proofs.YtmmmbkmjkpfleaaGreat
open Go Go.RowKit

def bd8 (x : Int) : Prop := 0 ≤ x ∧ x ≤ 255
/-- A world as it is told: classes, things, references, roots, sizes. -/
structure Wd where
  cs : List Cls
  ths : List Th
  rfs : List R3
  ros : List Int
  z0 : Int
  z1 : Int
  z2 : Int
def Wd.L (W : Wd) : LS := laysF W.cs (made0 W.z0 W.z1 W.z2) W.ths
def Wd.al (W : Wd) : List Int := W.L.al
def Wd.sp (W : Wd) : List Spc := W.L.sp
def Wd.ws (W : Wd) : List Int := refsF W.cs W.L.al W.L.ws W.rfs
def Wd.roots (W : Wd) : List Int := rootsF W.L.al W.ros
structure Wd.Bd (W : Wd) : Prop where
  th : ∀ x ∈ W.ths, (0 ≤ x.c ∧ x.c ≤ 255) ∧ (0 ≤ x.d ∧ x.d ≤ 255) ∧ (0 ≤ x.u ∧ x.u ≤ 255)
  rf : ∀ x ∈ W.rfs, (0 ≤ x.a ∧ x.a ≤ 255) ∧ (0 ≤ x.b ∧ x.b ≤ 255) ∧ (0 ≤ x.c ∧ x.c ≤ 255)
  ro : ∀ x ∈ W.ros, 0 ≤ x ∧ x ≤ 255
  z0 : 0 ≤ W.z0 ∧ W.z0 ≤ 255
  z1 : 0 ≤ W.z1 ∧ W.z1 ≤ 255
  z2 : 0 ≤ W.z2 ∧ W.z2 ≤ 255
structure Wd.Sz (W : Wd) : Prop where
  cs : W.cs.length ≤ 140737488351232
  ths : W.ths.length ≤ 140737488351232
  rfs : W.rfs.length ≤ 140737488351232
  ros : W.ros.length ≤ 140737488351232
structure Wd.Ok (W : Wd) : Prop where
  ne : W.cs ≠ []
  all : W.cs.all clsR = true
  lt : W.cs.length < 64
  ths : W.ths.length ≤ 60
  rfs : W.rfs.length ≤ 200
  ros : W.ros.length ≤ 20
theorem Wd.Ok.hcs {W : Wd} (h : W.Ok) : ∀ x ∈ W.cs, clsR x = true := List.all_eq_true.1 h.all
theorem Wd.inv1 {W : Wd} (hb : W.Bd) (hcs : ∀ x ∈ W.cs, clsR x = true) (h64 : W.cs.length < 64) : LSInv W.cs W.L := laysF_inv hcs h64 W.ths _ made0_inv (fun x hx => by have := hb.th x hx; omega)
theorem Wd.inv {W : Wd} (hb : W.Bd) (hcs : ∀ x ∈ W.cs, clsR x = true) (h64 : W.cs.length < 64) : LayInv W.ws W.cs W.sp W.al ∧ Clo W.ws W.cs W.al := by
  have h1 := Wd.inv1 hb hcs h64
  by_cases h0 : W.L.al.length = 0
  · unfold Wd.ws Wd.sp Wd.al
    rw [refsF_nil h0]
    exact ⟨h1.1, h1.2.1⟩
  · have := refsF_inv hcs (show 0 < W.L.al.length by omega) W.rfs W.L.ws h1.1 h1.2.1 (fun r hr => (hb.rf r hr).1.1)
    exact ⟨this.1, this.2.1⟩
theorem Wd.roots_mem {W : Wd} (hb : W.Bd) : ∀ x ∈ W.roots, x = 0 ∨ x ∈ W.al := fun x hx => by
  obtain ⟨k, hk, rfl⟩ := List.mem_map.1 hx
  have := Int.emod_lt_of_pos k (show (0 : Int) < (W.L.al.length : Int) + 1 by omega)
  exact pickA_mem (by omega)
theorem Wd.st_mem {W : Wd} (hb : W.Bd) (hcs : ∀ x ∈ W.cs, clsR x = true) (h64 : W.cs.length < 64) : ∀ x ∈ W.L.st, x ∈ W.al := (Wd.inv1 hb hcs h64).2.2
/-- What stays: what is reached from the roots and from what is told to stay, rising. -/
def Wd.Stay (W : Wd) (q : List Int) : Prop := sortedB q = true ∧ ∃ r, q.Perm r ∧ RB W.ws W.cs W.al (W.roots ++ W.L.st) r r.length
end Go.Proofs.YtmmmbkmjkpfleaaGreat
