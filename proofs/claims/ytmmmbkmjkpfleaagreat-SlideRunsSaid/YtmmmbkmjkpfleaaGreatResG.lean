/- What a law is handed: data opened into views. No statement of the seat is proved here; conditions: none. -/
import Derived.Test.YtmmmbkmjkpfleaaGreatResF
import Derived.Deep.Slices
import Derived.OpenShut
import GoSem.ClaimWide
import Derived.SizedLaws
namespace Go.Proofs.YtmmmbkmjkpfleaaGreat
open Go Go.RowKit

inductive FC where
  | i (k : IntKind)
  | b
def fitC : FC → Value → Prop
  | .i k, v => ∃ n, v = .int k n ∧ (Lit.int k n).wf = true
  | .b, v => ∃ b, v = .bool b
def Fits : List FC → List Value → Prop
  | [], [] => True
  | k :: ks, v :: vs => fitC k v ∧ Fits ks vs
  | _, _ => False
theorem Fits.len : ∀ {ks : List FC} {vs : List Value}, Fits ks vs → vs.length = ks.length
  | [], [], _ => rfl
  | _ :: _, _ :: _, h => by simp [Fits.len h.2]
  | [], _ :: _, h => h.elim
  | _ :: _, [], h => h.elim
theorem Fits.append : ∀ {ks js : List FC} {vs us : List Value}, Fits ks vs → Fits js us → Fits (ks ++ js) (vs ++ us)
  | [], _, [], _, _, h => h
  | _ :: _, _, _ :: _, _, h, h' => ⟨h.1, Fits.append h.2 h'⟩
  | [], _, _ :: _, _, h, _ => h.elim
  | _ :: _, _, [], _, h, _ => h.elim
theorem Fits.int {k : IntKind} {ks : List FC} {cs : List Value} (h : Fits (.i k :: ks) cs) : ∃ n vs, cs = .int k n :: vs ∧ (Lit.int k n).wf = true ∧ Fits ks vs := by
  cases cs with
  | nil => exact h.elim
  | cons v vs => obtain ⟨⟨n, hv, hw⟩, h2⟩ := h; subst hv; exact ⟨n, vs, rfl, hw, h2⟩
theorem Fits.bool {ks : List FC} {cs : List Value} (h : Fits (.b :: ks) cs) : ∃ n vs, cs = .bool n :: vs ∧ Fits ks vs := by
  cases cs with
  | nil => exact h.elim
  | cons v vs => obtain ⟨⟨n, hv⟩, h2⟩ := h; subst hv; exact ⟨n, vs, rfl, h2⟩
theorem Fits.nil {cs : List Value} (h : Fits [] cs) : cs = [] := by
  cases cs with
  | nil => rfl
  | cons v vs => exact h.elim
def flatFs (g : TypeId → Option (List FC)) : List Field → List FC → Option (List FC)
  | [], acc => some acc
  | f :: fs, acc => if f.offset = acc.length then match g f.type with
      | some ks => flatFs g fs (acc ++ ks)
      | none => none
    else none
def flatT (P : Program) : Nat → TypeId → Option (List FC)
  | 0, _ => none
  | n + 1, t => match P.underlying t with
    | some .bool => some [.b]
    | some (.int k) => some [.i k]
    | some (.struct fs) => match flatFs (flatT P n) fs.toList [] with
      | some ks => if P.cellsOf t = ks.length then some ks else none
      | none => none
    | some (.array m e) => match flatT P n e with
      | some ks => if P.cellsOf e = ks.length ∧ P.cellsOf t = m * ks.length then some (List.replicate m ks).flatten else none
      | none => none
    | _ => none
theorem seg_take {cs : List Value} {o c n : Nat} (h : ((cs.drop o).take c).length = n) : (cs.drop o).take c = (cs.drop o).take n ∧ o + n ≤ max o cs.length := by
  have h1 : min c (cs.length - o) = n := by simpa using h
  refine ⟨?_, by omega⟩
  subst h1
  rw [List.take_eq_take_iff]
  simp
section
variable {H : Type} {enc : TypeId × Value → H} {P : Program} {w : World} {base : Nat} {spare : Nat → Bool} {held : Bool}
theorem flatFs_ok {n : Nat} {cs : List Value} {g : TypeId → Option (List FC)} (ih : ∀ t ks, g t = some ks → ∀ cs x, DataW.trod enc P w base spare held n t cs = some x → Fits ks cs) : ∀ (fl : List Field) (acc ks : List FC), flatFs g fl acc = some ks →
    (∀ f ∈ fl, ∃ x, DataW.trod enc P w base spare held n f.type ((cs.drop f.offset).take (P.cellsOf f.type)) = some x) → Fits acc (cs.take acc.length) → acc.length ≤ cs.length → Fits ks (cs.take ks.length) ∧ ks.length ≤ cs.length
  | [], acc, ks, h, _, h1, h2 => by
    cases h; exact ⟨h1, h2⟩
  | f :: fl, acc, ks, h, hf, h1, h2 => by
    rw [flatFs] at h
    split at h
    · rename_i ho
      split at h
      · rename_i kf hk
        obtain ⟨x, hx⟩ := hf f (by simp)
        have h3 := ih _ _ hk _ _ hx
        obtain ⟨h4, h5⟩ := seg_take h3.len
        rw [h4, ho] at h3
        refine flatFs_ok ih fl (acc ++ kf) ks h (fun q hq => hf q (by simp [hq])) ?_ ?_
        · rw [List.length_append, List.take_add]
          exact h1.append h3
        · rw [List.length_append]; omega
      · cases h
    · cases h
theorem flat_ok : ∀ (n : Nat) (t : TypeId) (ks : List FC), flatT P n t = some ks → ∀ (fuel : Nat) (cs : List Value) (x), DataW.trod enc P w base spare held fuel t cs = some x → Fits ks cs
  | 0, _, _, h, _, _, _, _ => by cases h
  | n + 1, t, ks, h, fuel, cs, x, hx => by
    rw [flatT] at h
    split at h
    · rename_i ht
      cases h
      obtain ⟨b, rfl, _⟩ := DataW.trod_bool ht hx
      exact ⟨⟨b, rfl⟩, trivial⟩
    · rename_i k ht
      cases h
      obtain ⟨a, rfl, _, hw⟩ := DataW.trod_int ht hx
      exact ⟨⟨a, rfl, hw⟩, trivial⟩
    · rename_i fs ht
      split at h
      · rename_i ks' hk
        split at h
        · rename_i hc
          cases h
          obtain ⟨xs, m, _, _, hl, hxl, hi⟩ := DataW.trod_struct ht hx
          have h1 := flatFs_ok (enc := enc) (P := P) (w := w) (base := base) (spare := spare) (held := held) (n := m) (cs := cs) (g := flatT P n) (fun t ks h cs x => flat_ok n t ks h m cs x) fs.toList [] ks hk (fun f hf => by
            obtain ⟨i, hi', rfl⟩ := List.getElem_of_mem hf
            have h2 := hi i _ (by rw [Array.getElem?_eq_getElem (by simpa using hi')])
            rw [List.getElem?_eq_getElem (by rw [hxl]; simpa using hi')] at h2
            exact ⟨_, by simpa using h2⟩) (by simp [Fits]) (by simp)
          rw [List.take_of_length_le (by omega)] at h1
          exact h1.1
        · cases h
      · cases h
    · rename_i m e ht
      split at h
      · rename_i ks' hk
        split at h
        · rename_i hc
          cases h
          obtain ⟨xs, j, _, _, hl, hxl, hi⟩ := DataW.trod_array ht hx
          have key : ∀ i, i ≤ m → Fits (List.replicate i ks').flatten (cs.take (i * ks'.length)) := by
            intro i
            induction i with
            | zero => intro _; simp [Fits]
            | succ i ihh =>
              intro him
              have h2 := hi i (by omega)
              rw [List.getElem?_eq_getElem (by omega)] at h2
              have h3 := flat_ok n e ks' hk j _ _ h2
              rw [hc.1] at h3
              have h4 := (ihh (by omega)).append h3
              rw [List.replicate_succ', List.flatten_append, Nat.succ_mul, List.take_add]
              simpa using h4
          have h5 := key m (Nat.le_refl _)
          rw [List.take_of_length_le (by omega)] at h5
          exact h5
        · cases h
      · cases h
    · cases h
theorem ok_of_wide {t : TypeId} {v : Value} {d : TypeDesc} (ht : P.underlying t = some d) (hd : (∃ e, d = .slice e) ∨ (∃ k, d = .int k) ∨ d = .bool) (h : Cell.okWide P w .any base t v) : Cell.ok P w .any base t v := by
  unfold Cell.okWide at h
  rw [ht] at h
  rcases hd with ⟨e, rfl⟩ | ⟨k, rfl⟩ | rfl
  all_goals split at h <;> first | exact h | simp_all
theorem cell_slice {t e : TypeId} {v : Value} (ht : P.underlying t = some (.slice e)) (h : Cell.okWide P w .any base t v) : v = .slice none 0 0 ∨ ∃ b o len cap, v = .slice (some ⟨b, o, none⟩) len cap ∧ len ≤ cap ∧ b < w.heap.size := by
  have h := ok_of_wide ht (.inl ⟨e, rfl⟩) h
  unfold Cell.ok at h
  rw [ht] at h
  cases v with
  | slice a len cap =>
    cases a with
    | none =>
      match len, cap, h with
      | 0, 0, _ => exact .inl rfl
      | _ + 1, _, h => exact h.elim
      | 0, _ + 1, h => exact h.elim
    | some a =>
      obtain ⟨h1, _, _, hs, row, n, hsh, _⟩ := h
      obtain ⟨b, o, s⟩ := a
      simp only at hs hsh
      subst hs
      refine .inr ⟨b, o, len, cap, rfl, h1, ?_⟩
      unfold World.shape? at hsh
      refine Classical.byContradiction fun hb => ?_
      rw [Array.getElem?_eq_none (by omega)] at hsh
      simp at hsh
  | _ => exact h.elim
theorem cell_int {t : TypeId} {k : IntKind} {v : Value} (ht : P.underlying t = some (.int k)) (h : Cell.okWide P w .any base t v) : ∃ n, v = .int k n ∧ k.min ≤ n ∧ n ≤ k.max := by
  have h := ok_of_wide ht (.inr (.inl ⟨k, rfl⟩)) h
  unfold Cell.ok at h
  rw [ht] at h
  cases v with
  | int j n => obtain ⟨rfl, h⟩ := h; exact ⟨n, rfl, h⟩
  | _ => exact h.elim
theorem list_of {α : Type} {R : Nat → α → Prop} : ∀ (n : Nat), (∀ i : Nat, i < n → ∃ a, R i a) → ∃ l : List α, l.length = n ∧ ∀ (i : Nat) (h : i < l.length), R i l[i]
  | 0, _ => ⟨[], rfl, fun i h => by simp at h⟩
  | n + 1, hel => by
    obtain ⟨l, h1, h2⟩ := list_of n (fun i hil => hel i (by omega))
    obtain ⟨a, h3⟩ := hel n (by omega)
    refine ⟨l ++ [a], by simp [h1], fun i hil => ?_⟩
    by_cases hil' : i < l.length
    · rw [List.getElem_append_left hil']; exact h2 i hil'
    · have : i = n := by simp at hil; omega
      subst this
      rw [List.getElem_append_right (by omega)]
      simp only [h1, Nat.sub_self, List.getElem_cons_zero]
      exact h3
/-- A slice of flat elements reads as a list. -/
theorem open_view {α : Type} {encA : α → List Value} {Q : α → Prop} {t e : TypeId} {m : Nat} {ks : List FC} {v : Value} {fuel : Nat} {x : DataW H × List MemPlace} (ht : P.underlying t = some (.slice e)) (hm : P.cellsOf e = m) (hpos : 0 < m) (hl : ∀ a, (encA a).length = m)
    (hk : flatT P 9 e = some ks) (hd : ∀ cs, Fits ks cs → ∃ a, cs = encA a ∧ Q a) (hok : Cell.okWide P w .any base t v) (h : DataW.trod enc P w 0 (fun _ => true) held fuel t [v] = some x) :
    ∃ l : List α, (viewR encA m v l).ok w ∧ (∀ a ∈ l, Q a) ∧ ∀ B, (∀ n ∈ DataW.weights P t x.1, n ≤ B) → l.length * P.bytesOf e ≤ B := by
  rcases Go.Deep.open_slice ht h with ⟨hv, _⟩ | ⟨a, len, cap, mm, n, D, Pl, hv, _, hlc, hcm, hmm, hx, hi⟩
  · cases hv
    exact ⟨[], view_none hl hpos, by simp, by simp⟩
  · cases hv
    rcases cell_slice ht hok with hv | ⟨b, o, len', cap', hv, _, hb⟩
    · cases hv
    cases hv
    rw [if_pos rfl] at hmm
    subst hmm
    rw [hm] at hi
    have hel : ∀ i : Nat, i < len → ∃ a : α, (∀ j u, (encA a)[j]? = some u → w.cell? ⟨b, o + i * m + j, none⟩ = some u) ∧ Q a := fun i hil => by
      obtain ⟨cs, h1, h2⟩ := hi i (by omega)
      obtain ⟨a, rfl, hq⟩ := hd _ (flat_ok 9 e ks hk n _ _ h2)
      obtain ⟨_, hln, hc⟩ := World.cells?_some h1
      refine ⟨a, fun j u hu => ?_, hq⟩
      have hj : j < m := by rw [← hln]; exact (List.getElem?_eq_some_iff.1 hu).1
      have := hc j hj
      rw [addr_add, addr_add, hu] at this
      exact this
    obtain ⟨l, h1, h2⟩ := list_of len hel
    subst h1
    refine ⟨l, ⟨⟨_, _, rfl, hlc, hcm, fun _ => ⟨b, o, rfl⟩⟩, fun k hk => ?_, hl, hpos, fun k u hu => ?_⟩, fun a ha => ?_, fun B hB => ?_⟩
    · simp [footV] at hk; subst hk; exact hb
    · have hkl := (List.getElem?_eq_some_iff.1 hu).1
      have hfl : ∀ l : List α, (l.flatMap encA).length = l.length * m := fun l => by
        induction l with
        | nil => simp
        | cons y l ih => rw [List.flatMap_cons, List.length_append, ih, hl, List.length_cons, Nat.succ_mul]; omega
      rw [hfl] at hkl
      have hdm : k = k / m * m + k % m := by rw [Nat.mul_comm]; exact (Nat.div_add_mod k m).symm
      have hkd : k / m < l.length := Nat.div_lt_of_lt_mul (by rw [Nat.mul_comm]; exact hkl)
      have hkm : k % m < m := Nat.mod_lt _ hpos
      have hg := flat_get encA m hl l (k / m) (k % m) l[k / m] (List.getElem?_eq_getElem hkd) hkm
      rw [← hdm, hu] at hg
      have := (h2 (k / m) hkd).1 (k % m) u hg.symm
      simp only [blkOf, offOf]
      rw [show o + k = o + k / m * m + k % m from by omega]
      exact this
    · obtain ⟨i, hi', rfl⟩ := List.getElem_of_mem ha
      exact (h2 i hi').2
    · have h9 := hB ((l.length + (mm - l.length)) * P.bytesOf e) (by rw [hx]; simp [DataW.weights, ht])
      exact Nat.le_trans (Nat.mul_le_mul_right _ (by omega)) h9
theorem list_cons {α : Type} {l : List α} {n : Nat} (h : l.length = n + 1) : ∃ a r, l = a :: r ∧ r.length = n := by
  cases l with
  | nil => simp at h
  | cons a r => exact ⟨a, r, rfl, by simpa using h⟩
def fieldsT (P : Program) (t : TypeId) : Option (List (TypeId × Nat)) := match P.underlying t with
  | some (.struct fs) => some (fs.toList.map fun f => (f.type, f.offset))
  | _ => none
theorem open_struct {t : TypeId} {v : Value} {fuel : Nat} {x : DataW H × List MemPlace} {ts : List TypeId} {fl : List (TypeId × Nat)} (hA : isA P t = some true) (hts : P.cellTypes P.depth t = some ts) (hc : P.cellsOf t = ts.length) (hfl : fieldsT P t = some fl)
    (hok : Value.okWide P w .any base t v) (h : DataW.trod enc P w 0 spare held fuel t v.cells.toList = some x) :
    ∃ cs : List Value, v = .agg cs.toArray ∧ cs.length = ts.length ∧ (∀ (i : Nat) (c : Value) (u : TypeId), cs[i]? = some c → ts[i]? = some u → Cell.okWide P w .any base u c) ∧ ∃ n, ∀ T o, (T, o) ∈ fl → ∃ y, DataW.trod enc P w 0 spare held n T ((cs.drop o).take (P.cellsOf T)) = some y ∧ ∀ n ∈ DataW.weights P T y.1, n ∈ DataW.weights P t x.1 := by
  have hag : ∃ cs, v = .agg cs ∧ cs.size = P.cellsOf t ∧ Row.okWide P w .any base t cs := by
    unfold isA at hA
    unfold Value.okWide at hok
    split at hok
    · exact hok
    · exact hok
    · rename_i h1 h2
      split at hA
      · rename_i hu; exact absurd hu (h1 _)
      · rename_i hu; exact absurd hu (h2 _ _)
      · cases hA
      · cases hA
  obtain ⟨cs, rfl, hs, ts', ht', _, hcell⟩ := hag
  rw [hts] at ht'
  cases ht'
  unfold fieldsT at hfl
  split at hfl <;> try cases hfl
  rename_i fs hu
  rw [show (Value.agg cs).cells = cs from rfl] at h
  obtain ⟨xs, n, _, hxe, _, hxl, hi⟩ := DataW.trod_struct hu h
  refine ⟨cs.toList, rfl, by simp [hs, hc], fun i c u h1 h2 => ?_, n, fun T o hm => ?_⟩
  · obtain ⟨u', h3, h4⟩ := hcell i c (by simpa using h1)
    have hil : i < ts.length := (List.getElem?_eq_some_iff.1 h2).1
    rw [Nat.mod_eq_of_lt hil, h2] at h3
    cases h3; exact h4
  · obtain ⟨f, hf, hfe⟩ := List.mem_map.1 hm
    simp only [Prod.mk.injEq] at hfe
    obtain ⟨rfl, rfl⟩ := hfe
    obtain ⟨i, hi', rfl⟩ := List.getElem_of_mem hf
    have h2 := hi i _ (by rw [Array.getElem?_eq_getElem (by simpa using hi')])
    rw [List.getElem?_eq_getElem (by rw [hxl]; simpa using hi')] at h2
    refine ⟨_, by simpa using h2, fun n hn => ?_⟩
    rw [hxe]
    simp only [DataW.weights, hu]
    refine DataW.weights_mem_each (j := i) ?_ ?_ n hn
    · rw [List.getElem?_map, List.getElem?_eq_getElem hi']; rfl
    · rw [List.getElem?_map, List.getElem?_eq_getElem (by rw [hxl]; simpa using hi')]; rfl
end
end Go.Proofs.YtmmmbkmjkpfleaaGreat
