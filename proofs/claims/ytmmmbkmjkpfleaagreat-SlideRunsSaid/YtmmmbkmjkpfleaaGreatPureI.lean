/- Plain functions: what is reached. No statement of the seat is proved here; conditions: none. -/
import Derived.Test.YtmmmbkmjkpfleaaGreatResE
namespace Go.Proofs.YtmmmbkmjkpfleaaGreat
open Go Go.RowKit

/-- All that is in the list is an object, and its references lead to 0, or into the list. -/
def Clo (ws : List Int) (cs : List Cls) (al : List Int) : Prop := ∀ a ∈ al, objE ws cs a = 0 ∧ ∀ j : Nat, (j : Int) < (objT ws cs a).refs → gi ws (a + 2 + j) = 0 ∨ gi ws (a + 2 + j) ∈ al
def RefsIn (ws : List Int) (out : List Int) (a : Int) (n : Nat) : Prop := ∀ j : Nat, j < n → gi ws (a + 2 + j) = 0 ∨ gi ws (a + 2 + j) ∈ out
theorem RefsIn.app {ws out : List Int} {a x : Int} {n : Nat} (h : RefsIn ws out a n) : RefsIn ws (out ++ [x]) a n := fun j hj => (h j hj).imp id fun h => List.mem_append_left _ h
theorem getD_app {out : List Int} {x : Int} {q : Nat} (h : q < out.length) : (out ++ [x]).getD q default = out.getD q default := by
  rw [List.getD_eq_getElem?_getD, List.getElem?_append_left h, List.getD_eq_getElem?_getD]
structure RA (al fr out : List Int) (i : Nat) : Prop where
  nd : out.Nodup
  sub : ∀ x ∈ out, x ∈ al
  fr : ∀ q : Nat, q < i → fr.getD q default = 0 ∨ fr.getD q default ∈ out
structure RB (ws : List Int) (cs : List Cls) (al fr out : List Int) (i : Nat) : Prop where
  nd : out.Nodup
  sub : ∀ x ∈ out, x ∈ al
  fr : ∀ x ∈ fr, x = 0 ∨ x ∈ out
  clo : ∀ q : Nat, q < i → RefsIn ws out (out.getD q default) (objT ws cs (out.getD q default)).refs.toNat
  le : i ≤ out.length
structure RC (ws : List Int) (cs : List Cls) (al fr out : List Int) (i : Nat) (a : Int) (j : Nat) : Prop where
  rb : RB ws cs al fr out i
  lt : i < out.length
  at_ : out.getD i default = a
  ref : RefsIn ws out a j
theorem nodup_snoc {out : List Int} {x : Int} (h : out.Nodup) (hx : x ∉ out) : (out ++ [x]).Nodup := by
  rw [List.nodup_append]
  exact ⟨h, by simp, fun a ha b hb e => by simp at hb; subst hb; subst e; exact hx ha⟩
theorem RA.start {al fr : List Int} : RA al fr [] 0 := ⟨List.nodup_nil, by simp, fun q h => by omega⟩
theorem RA.skip {al fr out : List Int} {i : Nat} (h : RA al fr out i) (hx : fr.getD i default = 0 ∨ fr.getD i default ∈ out) : RA al fr out (i + 1) := ⟨h.nd, h.sub, fun q hq => by
  by_cases hqi : q = i
  · rw [hqi]; exact hx
  · exact h.fr q (by omega)⟩
theorem RA.add {al fr out : List Int} {i : Nat} (h : RA al fr out i) (hf : ∀ x ∈ fr, x = 0 ∨ x ∈ al) (hi : i < fr.length) (h0 : fr.getD i default ≠ 0) (hx : fr.getD i default ∉ out) : RA al fr (out ++ [fr.getD i default]) (i + 1) :=
  ⟨nodup_snoc h.nd hx, fun x hxm => by
    rcases List.mem_append.1 hxm with hxm | hxm
    · exact h.sub x hxm
    · simp only [List.mem_singleton] at hxm
      rw [hxm]; exact (hf _ (mem_getD hi)).resolve_left h0, fun q hq => by
    by_cases hqi : q = i
    · rw [hqi]; exact .inr (by simp)
    · exact (h.fr q (by omega)).imp id fun h => List.mem_append_left _ h⟩
theorem RA.done {ws : List Int} {cs : List Cls} {al fr out : List Int} {i : Nat} (h : RA al fr out i) (hi : fr.length ≤ i) : RB ws cs al fr out 0 := ⟨h.nd, h.sub, fun x hx => by
  obtain ⟨q, hq, rfl⟩ := List.getElem_of_mem hx
  have := h.fr q (by omega)
  rw [List.getD_eq_getElem?_getD, List.getElem?_eq_getElem hq] at this
  exact this, fun q hq => by omega, by omega⟩
theorem RB.enter {ws : List Int} {cs : List Cls} {al fr out : List Int} {i : Nat} (h : RB ws cs al fr out i) (hi : i < out.length) : RC ws cs al fr out i (out.getD i default) 0 := ⟨h, hi, rfl, fun q hq => by omega⟩
theorem RC.skip {ws : List Int} {cs : List Cls} {al fr out : List Int} {i j : Nat} {a : Int} (h : RC ws cs al fr out i a j) (hx : gi ws (a + 2 + j) = 0 ∨ gi ws (a + 2 + j) ∈ out) : RC ws cs al fr out i a (j + 1) := ⟨h.rb, h.lt, h.at_, fun q hq => by
  by_cases hqi : q = j
  · rw [hqi]; exact hx
  · exact h.ref q (by omega)⟩
theorem RC.add {ws : List Int} {cs : List Cls} {al fr out : List Int} {i j : Nat} {a : Int} (h : RC ws cs al fr out i a j) (hc : Clo ws cs al) (hj : (j : Int) < (objT ws cs a).refs) (h0 : gi ws (a + 2 + j) ≠ 0) (hx : gi ws (a + 2 + j) ∉ out) : RC ws cs al fr (out ++ [gi ws (a + 2 + j)]) i a (j + 1) := by
  have ha : a ∈ al := by rw [← h.at_]; exact h.rb.sub _ (mem_getD h.lt)
  refine ⟨⟨nodup_snoc h.rb.nd hx, fun x hxm => ?_, fun x hxm => (h.rb.fr x hxm).imp id fun h => List.mem_append_left _ h, fun q hq => ?_, by simp; have := h.lt; omega⟩, by simp; have := h.lt; omega, by rw [getD_app h.lt]; exact h.at_, fun q hq => ?_⟩
  · rcases List.mem_append.1 hxm with hxm | hxm
    · exact h.rb.sub x hxm
    · simp only [List.mem_singleton] at hxm
      rw [hxm]; exact ((hc a ha).2 j hj).resolve_left h0
  · rw [getD_app (by have := h.lt; omega)]
    exact (h.rb.clo q hq).app
  · by_cases hqi : q = j
    · rw [hqi]; exact .inr (by simp)
    · exact (h.ref q (by omega)).imp id fun h => List.mem_append_left _ h
theorem RC.done {ws : List Int} {cs : List Cls} {al fr out : List Int} {i j : Nat} {a : Int} (h : RC ws cs al fr out i a j) (hj : (objT ws cs a).refs.toNat ≤ j) : RB ws cs al fr out (i + 1) := ⟨h.rb.nd, h.rb.sub, h.rb.fr, fun q hq => by
  by_cases hqi : q = i
  · rw [hqi, h.at_]
    exact fun k hk => h.ref k (by omega)
  · exact h.rb.clo q (by omega), h.lt⟩
theorem nodup_len : ∀ {out al : List Int}, out.Nodup → (∀ x ∈ out, x ∈ al) → out.length ≤ al.length
  | [], _, _, _ => by simp
  | x :: r, al, h, hs => by
    have hx := hs x (by simp)
    rw [List.nodup_cons] at h
    have h1 := nodup_len (out := r) (al := al.erase x) h.2 (fun y hy => (List.mem_erase_of_ne (fun e => h.1 (by rw [← e]; exact hy))).2 (hs y (by simp [hy])))
    have h2 := List.length_erase_of_mem hx
    have h3 := List.length_pos_of_mem hx
    simp only [List.length_cons]
    omega
theorem sub_get {ws : List Int} {a r : Int} {j : Nat} (ha : 0 ≤ a) (hr : 0 ≤ r) (hj : (j : Int) < r) (hl : a + 2 + r ≤ ws.length) : ((ws.drop (a + 2).toNat).take ((a + 2 + r).toNat - (a + 2).toNat)).getD j default = gi ws (a + 2 + j) := by
  unfold gi
  rw [List.getD_eq_getElem?_getD, List.getElem?_take_of_lt (by omega), List.getElem?_drop, List.getD_eq_getElem?_getD]
  rw [show (a + 2).toNat + j = (a + 2 + j).toNat from by omega]
  rfl
end Go.Proofs.YtmmmbkmjkpfleaaGreat
