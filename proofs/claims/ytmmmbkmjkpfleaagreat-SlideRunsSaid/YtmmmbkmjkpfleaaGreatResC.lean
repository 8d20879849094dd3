/- Resources: maps with int keys; several new resources at once. No statement of the seat is proved here; conditions: none. -/
import Derived.Test.YtmmmbkmjkpfleaaGreatPureB
namespace Go.Proofs.YtmmmbkmjkpfleaaGreat
open Go Go.RowKit

def mapT (P : Program) (T : TypeId) : Option (IntKind × TypeId) :=
  match P.underlying T with
  | some (.map k e) => match P.underlying k with
    | some (.int j) => some (j, e)
    | _ => none
  | _ => none
theorem mapT_eq {P : Program} {T e : TypeId} {j : IntKind} (h : mapT P T = some (j, e)) : ∃ k, P.underlying T = some (.map k e) ∧ P.underlying k = some (.int j) := by
  unfold mapT at h
  split at h
  · rename_i k e' h1
    split at h
    · rename_i j' h2
      simp at h
      obtain ⟨rfl, rfl⟩ := h
      exact ⟨k, h1, h2⟩
    · cases h
  · cases h
/-- What a list of entries says of a key. -/
def mget : List MapEntry → Int → Option Value
  | [], _ => none
  | e :: es, k => match e.key with
    | .int _ n => if n = k then some e.val else mget es k
    | _ => mget es k
def intKeys (es : List MapEntry) : Prop := ∀ e ∈ es, ∃ n, e.key = .int .i64 n
theorem findNow_int {j : IntKind} (k : Int) : ∀ (es : List MapEntry) (i : Nat), intKeys es →
    (∃ n v, Instr.findNow (.int j) (.int .i64 k) es i = some (some (i + n, v)) ∧ mget es k = some v ∧ ∃ e, es[n]? = some e ∧ e.key = .int .i64 k ∧ e.val = v) ∨ (Instr.findNow (.int j) (.int .i64 k) es i = some none ∧ mget es k = none)
  | [], i, _ => .inr ⟨rfl, rfl⟩
  | e :: es, i, h => by
    obtain ⟨n, hn⟩ := h e (by simp)
    have ih := findNow_int (j := j) k es (i + 1) (fun e he => h e (by simp [he]))
    simp only [Instr.findNow, Instr.sameNow, hn, mget, if_true]
    by_cases hk : n = k
    · subst hk
      refine .inl ⟨0, e.val, ?_⟩
      simp [hn]
    · have hk' : (k == n) = false := by simp; exact fun q => hk q.symm
      rw [hk', if_neg hk]
      simp only
      rcases ih with ⟨m, v, h1, h2, e', h3, h4, h5⟩ | h1
      · refine .inl ⟨m + 1, v, by rw [h1]; congr 3; omega, h2, e', by simpa using h3, h4, h5⟩
      · exact .inr h1
theorem run_checkKey {P : Program} {w : World} {b : Bool} {t : TypeId} {j : IntKind} {k : Int} (h : P.underlying t = some (.int j)) (n : Nat) : (Instr.checkKey b (n + 1) t (.int .i64 k)).run P w = .ok () w := by
  simp [Instr.checkKey, run_underlying h]
theorem run_getObj {P : Program} {w : World} {r : Nat} {es : Array MapEntry} {c : Nat} (h : w.heap[r]? = some (.map es c)) : (getObj r).run P w = .ok (.map es c) w := by
  unfold getObj Sem.run; rw [h]; rfl

def mapR {α : Type} (enc : α → Value) (m : Nat) (F : Int → Option α) : Res where
  foot := [m]
  ok := fun w => ∃ es c, w.heap[m]? = some (.map es c) ∧ intKeys es.toList ∧ ∀ k, mget es.toList k = (F k).map enc
  st := fun w w' h hw => by rw [h m (by simp)]; exact hw
  lt := fun w hw k hk => by
    obtain ⟨es, c, h1, _⟩ := hw
    simp at hk; subst hk
    exact (Array.getElem?_eq_some_iff.1 h1).1
section
variable {P : Program} {n : Nat} {L : List Oper} {Q : Exit → Act → World → Prop} {S : World → Prop} {fuel : Nat} {listed : Array Bool} {rest : List Oper} {l : Env} {w0 w w' : World} {F : List Nat} {Rs : List Res} {t : TypeId} {p : String} {af : Array Edge} {d : Option Tmp} {g : Option (Nat × Bool)} {x y z : Operand} {α : Type} {enc : α → Value} {m : Nat} {G : Int → Option α}
theorem map_congr {G' : Int → Option α} (h : (mapR enc m G).ok w) (hG : ∀ k, G k = G' k) : (mapR enc m G').ok w := by
  obtain ⟨es, c, h1, h2, h3⟩ := h
  exact ⟨es, c, h1, h2, fun k => by rw [h3, hG]⟩
theorem Hp.mapCongr {G' : Int → Option α} (hp : Hp w0 F Rs w) (i : Nat) (hi : Rs[i]? = some (mapR enc m G)) (hG : ∀ k, G k = G' k) : Hp w0 F (Rs.set i (mapR enc m G')) w :=
  hp.upd (G := []) i hi (Chg.refl _ _) (by simp) (map_congr (hp.at i hi) hG) (by simp [mapR]) (by simp [mapR])
theorem X.lkOk {T e : TypeId} {j : IntKind} {k : Int} {zv : Value} (hT : mapT P T = some (j, e)) (hz : (zeroValue e).run P w = .ok zv w) (hm : (mapR enc m G).ok w) (hx : ev l x = some (.map (some m))) (hy : ev l y = some (.int .i64 k)) :
    Ex P l w ⟨d, .lookup T x y true, t, p, af, g⟩ (.tuple #[((G k).map enc).getD zv, .bool (G k).isSome]) w := fun ρ hρ => by
  obtain ⟨kt, h1, h2⟩ := mapT_eq hT
  obtain ⟨es, c, h3, h4, h5⟩ := hm
  have h6 := findNow_int (j := j) k es.toList 0 h4
  have hk := h5 k
  rcases h6 with ⟨i, v, h7, h8, _⟩ | ⟨h7, h8⟩
  · rw [h8] at hk
    cases hG : G k with
    | none => rw [hG] at hk; simp at hk
    | some a =>
      rw [hG] at hk; simp at hk
      simp [execOp, hρ _ _ hx, hρ _ _ hy, Instr.lookup, run_underlying h1, run_getObj h3, run_checkKey h2 9999, Instr.findKey, run_underlying h2, h7, hk]
  · rw [h8] at hk
    cases hG : G k with
    | some a => rw [hG] at hk; simp at hk
    | none => simp [execOp, hρ _ _ hx, hρ _ _ hy, Instr.lookup, run_underlying h1, run_getObj h3, run_checkKey h2 9999, Instr.findKey, run_underlying h2, h7, hz]
theorem X.lk {T e : TypeId} {j : IntKind} {k : Int} {zv : Value} (hT : mapT P T = some (j, e)) (hz : (zeroValue e).run P w = .ok zv w) (hm : (mapR enc m G).ok w) (hx : ev l x = some (.map (some m))) (hy : ev l y = some (.int .i64 k)) :
    Ex P l w ⟨d, .lookup T x y false, t, p, af, g⟩ (((G k).map enc).getD zv) w := fun ρ hρ => by
  obtain ⟨kt, h1, h2⟩ := mapT_eq hT
  obtain ⟨es, c, h3, h4, h5⟩ := hm
  have h6 := findNow_int (j := j) k es.toList 0 h4
  have hk := h5 k
  rcases h6 with ⟨i, v, h7, h8, _⟩ | ⟨h7, h8⟩
  · rw [h8] at hk
    cases hG : G k with
    | none => rw [hG] at hk; simp at hk
    | some a =>
      rw [hG] at hk; simp at hk
      simp [execOp, hρ _ _ hx, hρ _ _ hy, Instr.lookup, run_underlying h1, run_getObj h3, run_checkKey h2 9999, Instr.findKey, run_underlying h2, h7, hk]
  · rw [h8] at hk
    cases hG : G k with
    | some a => rw [hG] at hk; simp at hk
    | none => simp [execOp, hρ _ _ hx, hρ _ _ hy, Instr.lookup, run_underlying h1, run_getObj h3, run_checkKey h2 9999, Instr.findKey, run_underlying h2, h7, hz]
theorem mget_append (es : List MapEntry) (k n b : Int) (v : Value) (c : Nat) (h : intKeys es) (hn : mget es n = none) : mget (es ++ [⟨.int .i64 n, v, c⟩]) k = if n = k then some v else mget es k := by
  induction es with
  | nil => simp [mget]
  | cons e es ih =>
    obtain ⟨q, hq⟩ := h e (by simp)
    have h' : intKeys es := fun e he => h e (by simp [he])
    simp only [mget, List.cons_append, hq] at hn ⊢
    split at hn
    · cases hn
    · rename_i hqn
      rw [ih h' hn]
      split
      · rename_i hqk
        rw [if_neg (by omega)]
      · rfl
theorem mget_modify (es : List MapEntry) (n : Int) (v u : Value) (h : intKeys es) : ∀ (i : Nat) (e : MapEntry), es[i]? = some e → e.key = .int .i64 n → (∀ j < i, ∀ e', es[j]? = some e' → e'.key ≠ .int .i64 n) →
    intKeys (es.modify i fun e => { e with key := .int .i64 n, val := v }) ∧ ∀ k, mget (es.modify i fun e => { e with key := .int .i64 n, val := v }) k = if n = k then some v else mget es k := by
  induction es with
  | nil => intro i e he; simp at he
  | cons e0 es ih =>
    intro i e he hk hb
    obtain ⟨q, hq⟩ := h e0 (by simp)
    have h' : intKeys es := fun e he => h e (by simp [he])
    cases i with
    | zero =>
      simp at he; subst he
      refine ⟨fun e he => ?_, fun k => ?_⟩
      · simp at he
        rcases he with rfl | he
        · exact ⟨n, rfl⟩
        · exact h' e he
      · rw [hk] at hq; cases hq
        simp only [List.modify_zero_cons, mget, hk]
        split <;> rfl
    | succ i =>
      simp at he
      obtain ⟨h1, h2⟩ := ih h' i e he hk (fun j hj e' he' => hb (j + 1) (by omega) e' (by simpa using he'))
      have hq0 : q ≠ n := fun e' => hb 0 (by omega) e0 (by simp) (by rw [hq, e'])
      refine ⟨fun e he => ?_, fun k => ?_⟩
      · simp at he
        rcases he with rfl | he
        · exact ⟨q, hq⟩
        · exact h1 e he
      · simp only [List.modify_succ_cons, mget, hq, h2]
        split
        · rw [if_neg (by omega)]
        · rfl
theorem findNow_first {j : IntKind} (k : Int) : ∀ (es : List MapEntry) (i m : Nat) (v : Value), intKeys es → Instr.findNow (.int j) (.int .i64 k) es i = some (some (i + m, v)) → ∀ q < m, ∀ e', es[q]? = some e' → e'.key ≠ .int .i64 k
  | [], i, m, v, _, h => by simp [Instr.findNow] at h
  | e :: es, i, m, v, hk, h => by
    intro q hq e' he'
    obtain ⟨n, hn⟩ := hk e (by simp)
    simp only [Instr.findNow, Instr.sameNow, hn, if_true] at h
    by_cases hkn : n = k
    · subst hkn
      simp at h
      omega
    · have hk' : (k == n) = false := by simp; exact fun q => hkn q.symm
      rw [hk'] at h
      simp only at h
      cases q with
      | zero =>
        simp at he'; subst he'
        rw [hn]; intro hc; cases hc; exact hkn rfl
      | succ q =>
        cases m with
        | zero => omega
        | succ m =>
          exact findNow_first k es (i + 1) m v (fun e he => hk e (by simp [he])) (by rw [h]; congr 3; omega) q (by omega) e' (by simpa using he')
/-- The map with one key more, or changed. -/
def mset (G : Int → Option α) (n : Int) (a : α) : Int → Option α := fun k => if n = k then some a else G k
theorem sameBits_int (n : Nat) (j : IntKind) (a : Int) : Instr.sameBits n (.int j a) (.int j a) = true := by cases n <;> simp [Instr.sameBits]
theorem run_mapUpdate {T e : TypeId} {j : IntKind} {k : Int} {v : Value} {a : α} (hp : Hp w0 F Rs w) (i : Nat) (hi : Rs[i]? = some (mapR enc m G)) (hT : mapT P T = some (j, e)) (hv : v = enc a) :
    ∃ w', (Instr.mapUpdate T (.map (some m)) (.int .i64 k) v).run P w = .ok () w' ∧ Hp w0 F (Rs.set i (mapR enc m (mset G k a))) w' := by
  obtain ⟨kt, h1, h2⟩ := mapT_eq hT
  obtain ⟨es, c, h3, h4, h5⟩ := hp.at i hi
  have hset : ∀ o : Obj, Chg [m] w { w with heap := w.heap.setIfInBounds m o } := fun o => ⟨rfl, rfl, rfl, by simp, fun k hk hn => by
    have : m ≠ k := fun e => hn (by simp [e])
    simp [Array.getElem?_setIfInBounds, this]⟩
  have hlt : m < w.heap.size := (Array.getElem?_eq_some_iff.1 h3).1
  have hso : ∀ o : Obj, (setObj m o).run P w = .ok () { w with heap := w.heap.setIfInBounds m o } := fun o => by unfold setObj Sem.run; rw [h3]; rfl
  have hnew : ∀ (es' : Array MapEntry) (c' : Nat), intKeys es'.toList → (∀ q, mget es'.toList q = (mset G k a q).map enc) → Hp w0 F (Rs.set i (mapR enc m (mset G k a))) { w with heap := w.heap.setIfInBounds m (.map es' c') } := fun es' c' hk hg =>
    hp.upd i hi (hset _) (by simp [mapR]) ⟨es', c', by simp [Array.getElem?_setIfInBounds, hlt], hk, hg⟩ (by simp [mapR]) (by simp [mapR])
  have h6 := findNow_int (j := j) k es.toList 0 h4
  rcases h6 with ⟨n, u, h7, h8, e0, h9, h10, h11⟩ | ⟨h7, h8⟩
  · have hm := mget_modify es.toList k v u h4 n e0 h9 h10 (findNow_first k es.toList 0 n u h4 h7)
    refine ⟨_, ?_, hnew (es.modify n fun e => { e with key := .int .i64 k, val := v }) c (by simpa using hm.1) (fun q => ?_)⟩
    · have hkey : ((es[n]?).map (·.key)).getD (.int .i64 k) = .int .i64 k := by
        have : es[n]? = some e0 := by simpa using h9
        rw [this]; simp [h10]
      rw [Nat.zero_add] at h7
      simp only [Instr.mapUpdate, run_underlying h1, Sem.run_bind, Result.andThen_ok, run_getObj h3, run_checkKey h2 9999, Instr.findKey, run_underlying h2, h7, Sem.run_pure, hkey, Instr.keyThatStays, sameBits_int, if_true, hso]
    · have h12 := hm.2 q
      simp only [Array.toList_modify]
      rw [h12]
      unfold mset
      split
      · simp [hv]
      · rw [h5]
  · refine ⟨_, ?_, hnew (es.push ⟨.int .i64 k, v, c⟩) (c + 1) (fun e he => ?_) (fun q => ?_)⟩
    · simp only [Instr.mapUpdate, run_underlying h1, Sem.run_bind, Result.andThen_ok, run_getObj h3, run_checkKey h2 9999, Instr.findKey, run_underlying h2, h7, Sem.run_pure, hso]
    · simp at he
      rcases he with he | rfl
      · exact h4 e (by simpa using he)
      · exact ⟨k, rfl⟩
    · rw [Array.toList_push, mget_append es.toList q k 0 v c h4 h8, h5]
      unfold mset
      split
      · simp [hv]
      · rfl
theorem WL.mupd {T e : TypeId} {j : IntKind} {k : Int} {v : Value} {a : α} (hp : Hp w0 F Rs w) (i : Nat) (hi : Rs[i]? = some (mapR enc m G)) (hT : mapT P T = some (j, e)) (hx : ev l x = some (.map (some m))) (hy : ev l y = some (.int .i64 k)) (hz : ev l z = some v) (hv : v = enc a)
    (kk : ∀ w', Hp w0 F (Rs.set i (mapR enc m (mset G k a))) w' → WL P n L Q rest l w') : WL P n L Q (⟨none, .mapUpdate T x y z, t, p, af, none⟩ :: rest) l w := by
  obtain ⟨w', h1, h2⟩ := run_mapUpdate (P := P) hp i hi hT (k := k) hv
  exact WL.stp rfl rfl (fun ρ hρ => by simp [execOp, hρ _ _ hx, hρ _ _ hy, hρ _ _ hz, h1]) (kk w' h2)
theorem WL.mins {T e : TypeId} {j : IntKind} {k : Int} {v : Value} {a : α} (hp : Hp w0 F Rs w) (i : Nat) (hi : Rs[i]? = some (mapR enc m G)) (hT : mapT P T = some (j, e)) (hx : ev l x = some (.map (some m))) (hy : ev l y = some (.int .i64 k)) (hz : ev l z = some v) (hv : v = enc a)
    (kk : ∀ w', Hp w0 F (Rs.set i (mapR enc m (mset G k a))) w' → WL P n L Q rest l w') : WL P n L Q (⟨none, .insert T x y z, t, p, af, none⟩ :: rest) l w := by
  obtain ⟨w', h1, h2⟩ := run_mapUpdate (P := P) hp i hi hT (k := k) hv
  exact WL.stp rfl rfl (fun ρ hρ => by simp [execOp, hρ _ _ hx, hρ _ _ hy, hρ _ _ hz, h1]) (kk w' h2)
theorem WO.mupd {T e : TypeId} {j : IntKind} {k : Int} {v : Value} {a : α} {o : Nat} (hp : Hp w0 F Rs w) (i : Nat) (ho : L[o]? = some ⟨none, .mapUpdate T x y z, t, p, af, none⟩) (hi : Rs[i]? = some (mapR enc m G)) (hT : mapT P T = some (j, e)) (hx : ev l x = some (.map (some m))) (hy : ev l y = some (.int .i64 k)) (hz : ev l z = some v) (hv : v = enc a)
    (kk : ∀ w', Hp w0 F (Rs.set i (mapR enc m (mset G k a))) w' → S w' ∧ WD P n L Q S fuel (listed.setIfInBounds o true) l w') : WO P n L Q S fuel listed o l w := by
  obtain ⟨w', h1, h2⟩ := run_mapUpdate (P := P) hp i hi hT (k := k) hv
  have h := kk w' h2
  exact WO.stp ho rfl rfl (fun ρ hρ => by simp [execOp, hρ _ _ hx, hρ _ _ hy, hρ _ _ hz, h1]) h.1 h.2
theorem WL.mkmap {T : TypeId} {d : Nat} (enc : α → Value) (hp : Hp w0 F Rs w) (hd : okd n (some d) = true)
    (k : ∀ m w', Hp w0 F (mapR enc m (fun _ => none) :: Rs) w' → WL P n L Q rest ((d, .map (some m)) :: l) w') : WL P n L Q (⟨some d, .makeMap T none, t, p, af, none⟩ :: rest) l w := by
  have hx : Ex P l w ⟨some d, .makeMap T none, t, p, af, none⟩ (.map (some w.heap.size)) (w.alloc (.map #[] 0)) := fun ρ hρ => by
    simp [execOp, Instr.makeMap]
  exact WL.val rfl hd hx (k _ _ (hp.new (chg_alloc w _) ⟨#[], 0, heap_alloc_new w _, by simp [intKeys], fun k => rfl⟩ (by simp [mapR]) (by simp [mapR])))
/-- Several resources in blocks that were not there. -/
theorem Hp.adds {Ss : List Res} (hp : Hp w0 F Rs w) (hn : Hp w [] Ss w') : Hp w0 F (Ss ++ Rs) w' := by
  have hd := hp.dis
  refine ⟨hp.chg.trans (hn.chg.mono (by simp)), fun R hR => ?_, ?_, fun R hR k hk => ?_⟩
  · rcases List.mem_append.1 hR with h | h
    · exact hn.ok R h
    · exact hn.chg.ext (hp.ok R h)
  · rw [List.flatMap_append, List.nodup_append]
    refine ⟨hn.dis, hd, fun a ha b hb e => ?_⟩
    subst e
    obtain ⟨R, hR, hk⟩ := List.mem_flatMap.1 ha
    have h1 := (hn.wr R hR a hk).resolve_right (by simp)
    have h2 := flat_lt hp a hb
    omega
  · rcases List.mem_append.1 hR with h | h
    · exact .inl (Nat.le_trans hp.chg.size ((hn.wr R h k hk).resolve_right (by simp)))
    · exact hp.wr R h k hk
end

/-! ## Stores into a slice of the call's own -/
theorem flat_set' {α : Type} (f : α → List Value) (m : Nat) (hf : ∀ a, (f a).length = m) : ∀ (l : List α) (j : Nat) (x : α), j < l.length → (l.set j x).flatMap f = (l.flatMap f).take (j * m) ++ f x ++ (l.flatMap f).drop (j * m + m)
  | [], j, x, h => by simp at h
  | y :: l, 0, x, _ => by
    rw [List.set_cons_zero, List.flatMap_cons, List.flatMap_cons, Nat.zero_mul, List.take_zero, List.nil_append, Nat.zero_add, List.drop_append, ← hf y]
    simp
  | y :: l, j + 1, x, h => by
    rw [List.set_cons_succ, List.flatMap_cons, flat_set' f m hf l j x (by simpa using h), List.flatMap_cons]
    have h1 : (j + 1) * m = (f y).length + j * m := by rw [hf, Nat.succ_mul]; omega
    have h2 : (j + 1) * m + m = (f y).length + (j * m + m) := by rw [h1]; omega
    rw [h2, h1, List.take_length_add_append, List.drop_length_add_append]
    simp only [List.append_assoc]
theorem splice {α : Type} (cl vs : List α) (N o jm f m : Nat) (ho : o = jm + f) (hf : f + vs.length ≤ m) (hm : jm + m ≤ N) (hN : N ≤ cl.length) :
    (cl.take o ++ vs ++ cl.drop (o + vs.length)).take N = (cl.take N).take jm ++ ((((cl.take N).drop jm).take m).take f ++ vs ++ (((cl.take N).drop jm).take m).drop (f + vs.length)) ++ (cl.take N).drop (jm + m) := by
  have e1 : (cl.take N).take jm ++ (((cl.take N).drop jm).take m).take f = (cl.take N).take o := by
    rw [List.take_take (i := f), Nat.min_eq_left (by omega), ho, List.take_add]
  have e2 : (((cl.take N).drop jm).take m).drop (f + vs.length) ++ (cl.take N).drop (jm + m) = (cl.take N).drop (o + vs.length) := by
    have h1 : (cl.take N).drop (jm + m) = ((cl.take N).drop jm).drop m := by rw [List.drop_drop]
    have h2 : (cl.take N).drop (o + vs.length) = ((cl.take N).drop jm).drop (f + vs.length) := by rw [List.drop_drop]; congr 1; omega
    rw [h1, h2]
    generalize (cl.take N).drop jm = Y
    conv => rhs; rw [← List.take_append_drop m Y]
    rw [List.drop_append]
    by_cases hY : m ≤ Y.length
    · rw [List.length_take, Nat.min_eq_left hY, show f + vs.length - m = 0 from by omega, List.drop_zero]
    · have hY' : Y.drop m = [] := List.drop_eq_nil_of_le (by omega)
      rw [hY']; simp
  have e3 : (cl.take N).take jm ++ ((((cl.take N).drop jm).take m).take f ++ vs ++ (((cl.take N).drop jm).take m).drop (f + vs.length)) ++ (cl.take N).drop (jm + m) = ((cl.take N).take jm ++ (((cl.take N).drop jm).take m).take f) ++ vs ++ ((((cl.take N).drop jm).take m).drop (f + vs.length) ++ (cl.take N).drop (jm + m)) := by
    simp only [List.append_assoc]
  have l1 : (cl.take o).length = o := by rw [List.length_take]; omega
  have l2 : (cl.take N).take o = cl.take o := by rw [List.take_take, Nat.min_eq_left (by omega)]
  rw [e3, e1, e2, List.take_append, List.take_append, List.drop_take, l2]
  have l3 : (cl.take o).take N = cl.take o := List.take_of_length_le (by omega)
  have l4 : vs.take (N - (cl.take o).length) = vs := List.take_of_length_le (by omega)
  rw [l3, l4, List.length_append, l1]
theorem own_store {α : Type} {enc : α → List Value} {m : Nat} {v : Value} {l : List α} {w0 w : World} {F : List Nat} {Rs : List Res} {e : TypeId} {P : Program} (hp : Hp w0 F Rs w) (i : Nat) (hi : Rs[i]? = some (ownR e enc m v l)) {j o f : Nat} {x x' : α} {vs : List Value} (hj : l[j]? = some x) (hx : enc x' = (enc x).take f ++ vs ++ (enc x).drop (f + vs.length)) (hfm : f + vs.length ≤ m) (ho : o = offOf v + j * m + f) (h1 : ∀ u ∈ vs, u.oneCell' = true) :
    ∃ w', (storeCells ⟨blkOf v, o, none⟩ vs).run P w = .ok () w' ∧ Hp w0 F (Rs.set i (ownR e enc m v (l.set j x'))) w' := by
  have hR := hp.at i hi
  obtain ⟨⟨hlen, h2⟩, h3, h4⟩ := hR
  have hjl : j < l.length := (List.getElem?_eq_some_iff.1 hj).1
  rcases h2 with ⟨rfl, h0⟩ | ⟨g, cap, cur, rfl, hg0, hh, hn, hm, hs, ht⟩
  · omega
  · simp only [blkOf, offOf, Nat.zero_add] at ho ⊢
    have hjm : (j + 1) * m ≤ l.length * m := Nat.mul_le_mul_right _ hjl
    rw [Nat.succ_mul] at hjm
    have hnm : l.length * m ≤ cap * m := Nat.mul_le_mul_right _ hn
    have hst := run_storeCells_at (P := P) g o e vs 0 cur w hh (by omega) h1
    simp only [Nat.add_zero] at hst
    have hflat := flat_set' enc m h3 l j x' hjl
    have hexj : ((l.flatMap enc).drop (j * m)).take m = enc x := by
      apply List.ext_getElem?
      intro q
      by_cases hq : q < m
      · rw [List.getElem?_take_of_lt hq, List.getElem?_drop, flat_get enc m h3 l j q x hj hq]
      · rw [List.getElem?_eq_none (by simp; omega), List.getElem?_eq_none (by rw [h3]; omega)]
    refine ⟨_, hst, hp.upd i hi (chg_setRow w g _) (by simp [ownR, footV]) ⟨⟨?_, .inr ⟨g, cap, (cur.toList.take o ++ vs ++ cur.toList.drop (o + vs.length)).toArray, by rw [List.length_set], hg0, ?_, by rw [List.length_set]; exact hn, hm, ?_, ?_⟩⟩, h3, h4⟩ (by simp [ownR, footV]) (by simp [ownR, footV])⟩
    · rw [hflat, List.length_set]
      simp only [List.length_append, List.length_take, List.length_drop, hlen, h3]; omega
    · simp [World.setRow, Array.getElem?_modify, hh]
    · simp only [List.size_toArray, List.length_append, List.length_take, List.length_drop, Array.length_toList, hs]; omega
    · rw [List.length_set, hflat, List.toList_toArray, hx, ← hexj, ← ht]
      have hcl : cur.toList.length = cap * m := by simpa using hs
      exact splice cur.toList vs (l.length * m) o (j * m) f m ho hfm (by omega) (by omega)
section
variable {P : Program} {n : Nat} {L : List Oper} {Q : Exit → Act → World → Prop} {S : World → Prop} {fuel : Nat} {listed : Array Bool} {rest : List Oper} {lv : Env} {w0 w w' : World} {F : List Nat} {Rs : List Res} {t : TypeId} {p : String} {af : Array Edge} {x y : Operand} {α : Type} {enc : α → List Value} {m : Nat} {v u : Value} {l : List α} {e T : TypeId}
theorem run_storeVar {vs : List Value} {a : Addr} {w' : World} (hs : szT P T = some vs.length) (hu : u.cells = vs.toArray) (h : (storeCells a vs).run P w = .ok () w') : (storeVar T a u).run P w = .ok () w' := by
  simp [storeVar, run_szT hs, hu, h]
theorem WL.stOwn (hp : Hp w0 F Rs w) (i : Nat) (hi : Rs[i]? = some (ownR e enc m v l)) {j o f : Nat} {q q' : α} {vs : List Value} (hs : szT P T = some vs.length) (ha : ev lv x = some (.pointer (some ⟨blkOf v, o, none⟩))) (hv : ev lv y = some u) (hu : u.cells = vs.toArray) (h1 : vs.all (·.oneCell') = true) (hj : l[j]? = some q)
    (hx : enc q' = (enc q).take f ++ vs ++ (enc q).drop (f + vs.length)) (hfm : f + vs.length ≤ m) (ho : o = offOf v + j * m + f) (k : ∀ w', Hp w0 F (Rs.set i (ownR e enc m v (l.set j q'))) w' → WL P n L Q rest lv w') : WL P n L Q (⟨none, .store T x y, t, p, af, none⟩ :: rest) lv w := by
  obtain ⟨w', h2, h3⟩ := own_store (P := P) hp i hi hj hx hfm ho (by simpa using h1)
  exact WL.stp rfl rfl (fun ρ hρ => by simp [execOp, hρ _ _ ha, hρ _ _ hv, Instr.storeAt, Instr.sureAddr, run_storeVar hs hu h2]) (k w' h3)
theorem WO.stOwn {oi : Nat} (hp : Hp w0 F Rs w) (i : Nat) (hoi : L[oi]? = some ⟨none, .store T x y, t, p, af, none⟩) (hi : Rs[i]? = some (ownR e enc m v l)) {j o f : Nat} {q q' : α} {vs : List Value} (hs : szT P T = some vs.length) (ha : ev lv x = some (.pointer (some ⟨blkOf v, o, none⟩))) (hv : ev lv y = some u) (hu : u.cells = vs.toArray) (h1 : vs.all (·.oneCell') = true) (hj : l[j]? = some q)
    (hx : enc q' = (enc q).take f ++ vs ++ (enc q).drop (f + vs.length)) (hfm : f + vs.length ≤ m) (ho : o = offOf v + j * m + f) (k : ∀ w', Hp w0 F (Rs.set i (ownR e enc m v (l.set j q'))) w' → S w' ∧ WD P n L Q S fuel (listed.setIfInBounds oi true) lv w') : WO P n L Q S fuel listed oi lv w := by
  obtain ⟨w', h2, h3⟩ := own_store (P := P) hp i hi hj hx hfm ho (by simpa using h1)
  have h := k w' h3
  exact WO.stp hoi rfl rfl (fun ρ hρ => by simp [execOp, hρ _ _ ha, hρ _ _ hv, Instr.storeAt, Instr.sureAddr, run_storeVar hs hu h2]) h.1 h.2
theorem X.lkE {d : Option Tmp} {g : Option (Nat × Bool)} {em : TypeId} {j : IntKind} {k : Int} {zv r : Value} {encm : α → Value} {mm : Nat} {G : Int → Option α} (hT : mapT P T = some (j, em)) (hz : (zeroValue em).run P w = .ok zv w) (hm : (mapR encm mm G).ok w) (hx : ev lv x = some (.map (some mm))) (hy : ev lv y = some (.int .i64 k)) (hr : ((G k).map encm).getD zv = r) :
    Ex P lv w ⟨d, .lookup T x y false, t, p, af, g⟩ r w := by rw [← hr]; exact X.lk hT hz hm hx hy
theorem W.scopeS {c : Code} (h : W P n c (Exit.noGoto Q) lv w) : W P n (.scope c) Q lv w := fun a ha => wp_scope_straight (h a ha)
theorem X.ngR (h : WK n (Q .ret) lv w) : WK n (Exit.noGoto Q .ret) lv w := h
end
end Go.Proofs.YtmmmbkmjkpfleaaGreat
