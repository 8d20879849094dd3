/- Resources: slices made at once. No statement of the seat is proved here; conditions: none. -/
import Derived.Test.YtmmmbkmjkpfleaaGreatPureV
namespace Go.Proofs.YtmmmbkmjkpfleaaGreat
open Go Go.RowKit

theorem list_same {α : Type} [Inhabited α] {a b : List α} (hl : a.length = b.length) (h : ∀ q : Nat, q < a.length → a.getD q default = b.getD q default) : a = b := by
  apply List.ext_getElem hl
  intro q h1 h2
  have := h q h1
  rw [List.getD_eq_getElem?_getD, List.getD_eq_getElem?_getD, List.getElem?_eq_getElem h1, List.getElem?_eq_getElem h2] at this
  simpa using this
theorem any_no {sz : List Int} (h : ∀ q : Nat, q < sz.length → ¬ sz.getD q default < 1) : ¬ sz.any (fun n => decide (n < 1)) = true := fun ha => by
  obtain ⟨x, hx, hd⟩ := List.any_eq_true.1 ha
  obtain ⟨i, hi, rfl⟩ := mem_getD_ex hx
  exact h i hi (of_decide_eq_true hd)
theorem Hp.ofRep {w0 w : World} {F : List Nat} {Rs : List Res} {b : Nat} {e : TypeId} {m : Nat} (hp : Hp w0 F Rs w) (i : Nat) (hi : Rs[i]? = some (blkR b (.cells (Array.replicate m (.int .i64 0)) e (0, 0)))) (hm : m ≤ 9223372036854775807) : Hp w0 F (Rs.set i (ownR e encI 1 (.slice (some ⟨b, 0, none⟩) m m) (List.replicate m 0))) w :=
  hp.upd (G := []) i hi (Chg.refl _ _) (by simp) ⟨⟨by simp [flat_encI], .inr ⟨b, m, Array.replicate m (.int .i64 0), by simp, Nat.zero_le _, hp.at i hi, by simp, by unfold maxLen; omega, by simp, by simp [flat_encI]⟩⟩, encI_len, by omega⟩ (by simp [ownR, blkR, footV]) (by simp [ownR, footV])
theorem out_step {rt : List Int} {f : Int → Int} {i : Nat} (h : i < rt.length) : (((rt.take i).map f) ++ List.replicate (rt.length - i) 0).set i (f (rt.getD i default)) = ((rt.take (i + 1)).map f) ++ List.replicate (rt.length - (i + 1)) 0 := by
  have hl : ((rt.take i).map f).length = i := by rw [List.length_map, List.length_take]; omega
  rw [take_getD h, List.map_append, List.map_singleton, show rt.length - i = (rt.length - (i + 1)) + 1 from by omega]
  conv => lhs; arg 2; rw [← hl]
  rw [List.set_append_right _ _ (Nat.le_refl _), Nat.sub_self, List.replicate_succ, List.set_cons_zero, List.append_assoc]; rfl
theorem walk_len {ws : List Int} {cs : List Cls} (hcs : ∀ x ∈ cs, clsR x = true) {a to : Int} (h : a ≤ to) : ((walk ws cs a to).2.length : Int) ≤ to - a := by
  have := walkF_len (ws := ws) hcs ((to - a).toNat + 1) a to []
  rw [if_pos h] at this
  unfold walk
  simpa using this
theorem lost_none {ws : List Int} {cs : List Cls} {st : List Int} {G : Int → Option Int} (h : ¬ st.any (fun a => lostF ws cs G a) = true) : ∀ a ∈ st, ∀ k : Nat, (k : Int) < (objT ws cs a).refs → (G (gi ws (a + 2 + k))).isSome = true := fun a ha k hk => by
  refine Classical.byContradiction fun hn => h (List.any_eq_true.2 ⟨a, ha, lostF_yes (i := k) (by omega) hn⟩)
theorem roots_some {rt : List Int} {G : Int → Option Int} (h : ¬ rt.any (fun a => !(G a).isSome) = true) : ∀ a ∈ rt, (G a).isSome = true := fun a ha => by
  refine Classical.byContradiction fun hn => h (List.any_eq_true.2 ⟨a, ha, by simpa using hn⟩)
theorem last_ok {l : List Spc} {n : Nat} (h : ¬ l.any (fun s => decide ((n : Int) < s.end_)) = true) (h0 : 0 < l.length) : ¬ (n : Int) < (l.getD ((l.length : Int) - 1).toNat default).end_ := fun hn => h (List.any_eq_true.2 ⟨_, mem_getD (by omega), decide_eq_true hn⟩)
end Go.Proofs.YtmmmbkmjkpfleaaGreat
