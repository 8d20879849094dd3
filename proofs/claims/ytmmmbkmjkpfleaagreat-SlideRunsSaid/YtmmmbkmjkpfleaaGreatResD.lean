/- Resources: a slice of the call's own taken apart; cuts of slices; clear. No statement of the seat is proved here; conditions: none. -/
import Derived.Test.YtmmmbkmjkpfleaaGreatResC
namespace Go.Proofs.YtmmmbkmjkpfleaaGreat
open Go Go.RowKit

theorem slice_eq2 {b o o' n c : Nat} (h : o = o') : Value.slice (some ⟨b, o, none⟩) n c = .slice (some ⟨b, o', none⟩) n c := by rw [h]
theorem own_nd {α : Type} {enc : α → List Value} {m : Nat} {v : Value} {l : List α} {e : TypeId} : (ownR e enc m v l).foot.Nodup := footV_nd v
theorem own_form {α : Type} {enc : α → List Value} {m : Nat} {v : Value} {l : List α} {e : TypeId} {w : World} (h : (ownR e enc m v l).ok w) (hl : 0 < l.length) : ∃ g cap, v = .slice (some ⟨g, 0, none⟩) l.length cap ∧ l.length ≤ cap ∧ cap ≤ 9223372036854775807 := by
  obtain ⟨⟨hlen, h2⟩, h3, h4⟩ := h
  rcases h2 with ⟨rfl, h0⟩ | ⟨g, cap, cur, rfl, hg0, hh, hn, hm, hs, ht⟩
  · omega
  · refine ⟨g, cap, rfl, hn, ?_⟩
    unfold maxLen at hm; omega
/-- A row of a slice's, whatever it holds. -/
def anyR (g : Nat) : Res where
  foot := [g]
  ok := fun w => g < w.heap.size
  st := fun w w' h hw => by
    have h1 := h g (by simp)
    have h2 : w'.heap[g]? = some w.heap[g] := by rw [h1]; simp [hw]
    exact (Array.getElem?_eq_some_iff.1 h2).1
  lt := fun w hw k hk => by simp at hk; subst hk; exact hw
section
variable {P : Program} {n : Nat} {L : List Oper} {Q : Exit → Act → World → Prop} {rest : List Oper} {l : Env} {w0 w w' : World} {F : List Nat} {Rs : List Res} {t : TypeId} {p : String} {af : Array Edge} {d : Option Tmp} {g : Option (Nat × Bool)} {x y z : Operand}
theorem X.slcL {T e : TypeId} {b o m c sz lo : Nat} {i : Int} (hT : sliceT P T = some e) (hs : szT P e = some sz) (hx : ev l x = some (.slice (some ⟨b, o, none⟩) m c)) (hy : ev l y = some (.int .i64 i)) (h1 : i = (lo : Int)) (h3 : lo ≤ m) (h5 : lo < c) {r : Value} (hr : .slice (some ⟨b, o + lo * sz, none⟩) (m - lo) (c - lo) = r) :
    Ex P l w ⟨d, .slice T x (some y) none none, t, p, af, g⟩ r w := fun ρ hρ => by
  subst h1 hr
  have : ¬ c = lo := by omega
  simp [execOp, hρ _ _ hx, hρ _ _ hy, Instr.sliceAt, underlying, sliceT_eq hT, Instr.slice, Instr.sliceBounds, Instr.sliceBound, asIntOf, h3, run_szT hs, addr_add, this]
theorem X.slcH {T e : TypeId} {b o m c sz hi : Nat} {i : Int} (hT : sliceT P T = some e) (hs : szT P e = some sz) (hx : ev l x = some (.slice (some ⟨b, o, none⟩) m c)) (hy : ev l y = some (.int .i64 i)) (h1 : i = (hi : Int)) (h3 : hi ≤ c) (h5 : 0 < c) :
    Ex P l w ⟨d, .slice T x none (some y) none, t, p, af, g⟩ (.slice (some ⟨b, o, none⟩) hi c) w := fun ρ hρ => by
  subst h1
  have : ¬ c = 0 := by omega
  simp [execOp, hρ _ _ hx, hρ _ _ hy, Instr.sliceAt, underlying, sliceT_eq hT, Instr.slice, Instr.sliceBounds, Instr.sliceBound, asIntOf, h3, run_szT hs, addr_add, this]
theorem zeroCells_one (z : Value) (k : Nat) : (Builtin.zeroCells #[z] k).toList = List.replicate k z := by
  unfold Builtin.zeroCells
  simp only [Array.toList_map, List.size_toArray, List.length_cons, List.length_nil, Nat.zero_add, Nat.mul_one, Array.toList_range]
  apply List.ext_getElem?
  intro i
  by_cases h : i < k
  · simp [h, Nat.mod_one]
  · simp [h]
theorem WL.clearOwn {T e : TypeId} {b k c cap N : Nat} {z : Value} {ll : List Int} (hp : Hp w0 F Rs w) (i : Nat) (hi : Rs[i]? = some (ownR e encI 1 (.slice (some ⟨b, 0, none⟩) N cap) ll)) (hT : sliceT P T = some e) (hz : zeroT P e = some #[z]) (h1 : z.oneCell' = true) (hx : ev l x = some (.slice (some ⟨b, k, none⟩) c (cap - k))) (hkc : k + c ≤ cap) (hc : 0 < c)
    (kk : ∀ w', Hp w0 F (Rs.set i (anyR b)) w' → WL P n L Q rest l w') : WL P n L Q (⟨none, .call ⟨.builtin .clear, #[x], #[T]⟩, t, p, af, none⟩ :: rest) l w := by
  have hA := hp.at i hi
  obtain ⟨⟨hlen, h2⟩, h3, h4⟩ := hA
  rcases h2 with ⟨hv, h0⟩ | ⟨g, cap', cur, hv, hg0, hh, hn, hm, hs, ht⟩
  · cases hv
  · cases hv
    obtain ⟨zv, hzv, hzc⟩ := run_zeroT (w := w) hz
    have hst := run_storeCells_at (P := P) b k e (List.replicate c z) 0 cur w hh (by simp only [List.length_replicate]; omega) (fun v hv => by rw [List.eq_of_mem_replicate hv]; exact h1)
    simp only [Nat.add_zero] at hst
    have hlt : b < w.heap.size := (Array.getElem?_eq_some_iff.1 hh).1
    refine WL.val rfl rfl (v := .tuple #[]) (X.blt (xs := [x]) (vs := [.slice (some ⟨b, k, none⟩) c (cap - k)]) (by simp [evs, hx]) (fun cs => ?_)) (kk (w.setRow b (cur.toList.take k ++ List.replicate c z ++ cur.toList.drop (k + c)).toArray) (hp.upd i hi (chg_setRow w b _) (by simp [ownR, footV]) (R' := anyR b) (by simp [anyR, World.setRow, hlt]) (by simp [anyR, ownR, footV]) (by simp [anyR])))
    obtain ⟨c, rfl⟩ : ∃ q, c = q + 1 := ⟨c - 1, by omega⟩
    simp [builtin, Builtin.clear_, run_underlying (sliceT_eq hT), hzv, hzc, zeroCells_one, hst]
end
end Go.Proofs.YtmmmbkmjkpfleaaGreat
