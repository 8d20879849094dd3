/- Resources: parts of slices that are only read. No statement of the seat is proved here; conditions: none. -/
import Derived.Test.YtmmmbkmjkpfleaaGreatPureH
namespace Go.Proofs.YtmmmbkmjkpfleaaGreat
open Go Go.RowKit

theorem one_int (k : IntKind) (n : Int) : (Value.int k n).oneCell' = true := rfl
theorem one_bool (b : Bool) : (Value.bool b).oneCell' = true := rfl
theorem one_ptr (a : Option Addr) : (Value.pointer a).oneCell' = true := rfl
theorem one_map (a : Option Nat) : (Value.map a).oneCell' = true := rfl
theorem one_sl (a : Option Addr) (n c : Nat) : (Value.slice a n c).oneCell' = true := rfl
def subV (v : Value) (lo hi : Nat) : Value := match v with
  | .slice A _ c => .slice (if c = lo then A else A.map (·.add lo)) (hi - lo) (c - lo)
  | v => v
theorem subV_eq (A : Option Addr) (n c lo hi : Nat) : subV (.slice A n c) lo hi = .slice (if c = lo then A else A.map (·.add lo)) (hi - lo) (c - lo) := rfl
theorem view_sub {w : World} {v : Value} {l : List Int} {lo hi : Nat} (h : (viewR encI 1 v l).ok w) (h1 : lo ≤ hi) (h2 : hi ≤ l.length) : (viewR encI 1 (subV v lo hi) ((l.drop lo).take (hi - lo))).ok w := by
  obtain ⟨A, c, rfl, hc, hm, hA⟩ := h.form
  have hlen : ((l.drop lo).take (hi - lo)).length = hi - lo := by rw [List.length_take, List.length_drop]; omega
  rw [subV_eq]
  refine ⟨⟨if c = lo then A else A.map (·.add lo), c - lo, by rw [hlen], by rw [hlen]; omega, by omega, fun hne => ?_⟩, fun k hk => ?_, h.len, h.pos, fun k u hu => ?_⟩
  · have hl : l ≠ [] := by rintro rfl; simp at hne
    obtain ⟨b, o, rfl⟩ := hA hl
    split
    · exact ⟨b, o, rfl⟩
    · exact ⟨b, o + lo, by rw [Option.map_some, addr_add]⟩
  · refine h.blk k ?_
    by_cases hcl : c = lo
    · rw [if_pos hcl] at hk
      cases A with
      | none => exact hk
      | some a => exact hk
    · rw [if_neg hcl] at hk
      cases A with
      | none => exact hk
      | some a =>
        have hbl : (a.add lo).block = a.block := by unfold Addr.add; split <;> rfl
        simp only [footV, Option.map_some] at hk ⊢
        rw [hbl] at hk
        exact hk
  · have e1 : ∀ (q : List Int), q.flatMap encI = q.map (Value.int .i64) := fun q => by induction q with
      | nil => rfl
      | cons a r ih => rw [List.flatMap_cons, ih]; rfl
    have hk := (List.getElem?_eq_some_iff.1 hu).1
    rw [e1, List.length_map, hlen] at hk
    have hl : l ≠ [] := by rintro rfl; simp at h2; omega
    obtain ⟨b, o, rfl⟩ := hA hl
    have hne : ¬ c = lo := by omega
    have hx : (l.flatMap encI)[lo + k]? = some u := by
      rw [← hu]
      rw [e1, e1, List.getElem?_map, List.getElem?_map, List.getElem?_take_of_lt (by omega), List.getElem?_drop]
    have h3 := h.cell (lo + k) u hx
    rw [if_neg hne]
    rw [Option.map_some, addr_add]
    simp only [blkOf, offOf] at h3 ⊢
    rw [← h3, Nat.add_assoc]
section
variable {P : Program} {l : Env} {w : World} {t : TypeId} {p : String} {af : Array Edge} {d : Option Tmp} {g : Option (Nat × Bool)} {x y z : Operand}
theorem X.slcV {T e : TypeId} {v : Value} {q : List Int} {lo hi : Nat} {i j : Int} (hT : sliceT P T = some e) (hs : szT P e = some 1) (hR : (viewR encI 1 v q).ok w) (hx : ev l x = some v) (hy : ev l y = some (.int .i64 i)) (hz : ev l z = some (.int .i64 j))
    (h1 : i = (lo : Int)) (h2 : j = (hi : Int)) (h3 : lo ≤ hi) (h4 : hi ≤ q.length) : Ex P l w ⟨d, .slice T x (some y) (some z) none, t, p, af, g⟩ (subV v lo hi) w := fun ρ hρ => by
  obtain ⟨A, c, rfl, hc, hm, hA⟩ := hR.form
  subst h1 h2
  have h5 : hi ≤ c := by omega
  simp [execOp, hρ _ _ hx, hρ _ _ hy, hρ _ _ hz, Instr.sliceAt, underlying, sliceT_eq hT, Instr.slice, Instr.sliceBounds, Instr.sliceBound, asIntOf, h3, h5, run_szT hs, subV]
end
/-! ## Guarded operations of a region that draws its order -/
section
variable {P : Program} {n : Nat} {L : List Oper} {Q : Exit → Act → World → Prop} {S : World → Prop} {fuel : Nat} {listed : Array Bool} {l : Env} {w w' : World} {o : Oper} {v : Value}
theorem WO.g0 {i j dj : Nat} {want b : Bool} (hi : L[i]? = some o) (hg : o.guard = some (j, want)) (hj : (L[j]?).bind (·.dst) = some dj) (hb : get l dj = some (.bool b)) (hw : b = !want) (hd : okd n o.dst = true) (hS : S w) (k : WD P n L Q S fuel (listed.setIfInBounds i true) (puto o.dst undef l) w) : WO P n L Q S fuel listed i l w := fun a ha => by
  unfold wpOp
  rw [show L.toArray[i]? = some o from by simpa using hi]
  have hy := yielded_of ha hj hb
  have hwn : Region.wanted o (yielded L.toArray a.tmps) = false := by subst hw; cases want <;> simp [Region.wanted, hg, hy]
  simp only [hwn]
  exact ⟨hS, k _ (ha.puto hd undef)⟩
theorem WO.gu {i j dj : Nat} {want : Bool} (hi : L[i]? = some o) (hg : o.guard = some (j, want)) (hj : (L[j]?).bind (·.dst) = some dj) (hb : get l dj = some undef) (hd : okd n o.dst = true) (hS : S w) (k : WD P n L Q S fuel (listed.setIfInBounds i true) (puto o.dst undef l) w) : WO P n L Q S fuel listed i l w := fun a ha => by
  unfold wpOp
  rw [show L.toArray[i]? = some o from by simpa using hi]
  have hy := yielded_undef ha hj hb
  have hwn : Region.wanted o (yielded L.toArray a.tmps) = false := by simp [Region.wanted, hg, hy]
  simp only [hwn]
  exact ⟨hS, k _ (ha.puto hd undef)⟩
theorem WO.callG {i j dj : Nat} {want b : Bool} {f : FuncId} {xs : List Operand} {ts : Array TypeId} {vs : List Value} {F1 : List Nat} {R : Value → World → Prop} {d : Option Tmp} {t : TypeId} {p : String} {af : Array Edge} (hi : L[i]? = some ⟨d, .call ⟨.value (.func f), xs.toArray, ts⟩, t, p, af, some (j, want)⟩) (hj : (L[j]?).bind (·.dst) = some dj) (hb : get l dj = some (.bool b)) (hw : b = want) (hf : IsFn P f) (hx : evs l xs = some vs)
    (hd : okd n d = true) (hc : Calls P f vs.toArray w (Ret F1 w R)) (k : ∀ v w', Chg F1 w w' → R v w' → S w' ∧ WD P n L Q S fuel (listed.setIfInBounds i true) (puto d v l) w') : WO P n L Q S fuel listed i l w := fun a ha => by
  unfold wpOp
  rw [show L.toArray[i]? = some _ from by simpa using hi]
  have hy := yielded_of ha hj hb
  simp only [Region.wanted, hy, hw, beq_self_eq_true, if_true]
  exact .inl (wp_callV ha hf (caps := #[]) rfl hx (by simpa using hc) fun v w' h1 h2 => ⟨(k v w' h1 h2).1, (k v w' h1 h2).2 _ (ha.puto hd v)⟩)
end
/-! ## Sorting -/
def ordK (q : List Int) (i k : Nat) : Prop := ∀ a b : Nat, a < b → b ≤ i → b ≠ k → q.getD a default ≤ q.getD b default
theorem getD_setI {l : List Int} {i j : Nat} {x : Int} (h : i < l.length) : (l.set i x).getD j default = if i = j then x else l.getD j default := by
  rw [List.getD_eq_getElem?_getD, List.getElem?_set]
  split
  · rename_i hij; subst hij; first | rfl | (rw [if_pos h]; rfl)
  · rw [List.getD_eq_getElem?_getD]
theorem ordK_swap {q : List Int} {i k : Nat} (hk : 0 < k) (hki : k ≤ i) (hi : i < q.length) (h : ordK q i k) (hlt : q.getD k default < q.getD (k - 1) default) :
    ordK ((q.set k (q.getD (k - 1) default)).set (k - 1) (q.getD k default)) i (k - 1) := by
  intro a b hab hbi hbk
  have e : ∀ j : Nat, ((q.set k (q.getD (k - 1) default)).set (k - 1) (q.getD k default)).getD j default = if k - 1 = j then q.getD k default else if k = j then q.getD (k - 1) default else q.getD j default := fun j => by
    rw [getD_setI (by rw [List.length_set]; omega), getD_setI (by omega)]
  rw [e, e]
  have h1 : ¬ k - 1 = b := fun x => hbk x.symm
  rw [if_neg h1]
  by_cases hb : k = b
  · rw [if_pos hb]
    by_cases ha : k - 1 = a
    · rw [if_pos ha]; omega
    · rw [if_neg ha, if_neg (by omega)]
      exact h a (k - 1) (by omega) (by omega) (by omega)
  · rw [if_neg hb]
    by_cases ha : k - 1 = a
    · rw [if_pos ha]; exact h k b (by omega) hbi (by omega)
    · rw [if_neg ha]
      by_cases ha2 : k = a
      · rw [if_pos ha2]; exact h (k - 1) b (by omega) hbi (by omega)
      · rw [if_neg ha2]; exact h a b hab hbi (by omega)
theorem ordK_done {q : List Int} {i k : Nat} (hki : k ≤ i) (h : ordK q i k) (hk : ¬ (0 < k ∧ q.getD k default < q.getD (k - 1) default)) : ∀ a b : Nat, a < b → b < i + 1 → q.getD a default ≤ q.getD b default := by
  intro a b hab hb
  by_cases hbk : b = k
  · subst hbk
    have h1 : q.getD (b - 1) default ≤ q.getD b default := by
      rcases Int.lt_or_le (q.getD b default) (q.getD (b - 1) default) with h2 | h2
      · exact absurd ⟨by omega, h2⟩ hk
      · exact h2
    by_cases ha : a = b - 1
    · rw [ha]; exact h1
    · exact Int.le_trans (h a (b - 1) (by omega) (by omega) (by omega)) h1
  · exact h a b hab (by omega) hbk
theorem swap_perm {q : List Int} {k : Nat} (hk : 0 < k) (h : k < q.length) : ((q.set k (q.getD (k - 1) default)).set (k - 1) (q.getD k default)).Perm q := by
  have h1 : q.getD (k - 1) default = q[k - 1] := by rw [List.getD_eq_getElem?_getD, List.getElem?_eq_getElem (by omega)]; rfl
  have h2 : q.getD k default = q[k] := by rw [List.getD_eq_getElem?_getD, List.getElem?_eq_getElem h]; rfl
  rw [h1, h2]
  exact List.set_set_perm h (by omega)
theorem ord_sorted {q : List Int} (h : ∀ a b : Nat, a < b → b < q.length → q.getD a default ≤ q.getD b default) : sortedB q = true :=
  sortedB_yes fun a h0 ha => Int.not_lt.2 (h (a - 1) a (by omega) ha)
end Go.Proofs.YtmmmbkmjkpfleaaGreat
