/- Memory as a list of resources, calls, returns, regions that draw their order. No statement of the seat is proved here; conditions: none. -/
import Derived.Test.YtmmmbkmjkpfleaaGreatEngOps
namespace Go.Proofs.YtmmmbkmjkpfleaaGreat
open Go Go.RowKit

structure Res where
  foot : List Nat
  ok : World → Prop
  st : ∀ w w' : World, (∀ k ∈ foot, w'.heap[k]? = w.heap[k]?) → ok w → ok w'
  lt : ∀ w : World, ok w → ∀ k ∈ foot, k < w.heap.size

/-- Nothing that was there has changed, but for the blocks F. -/
structure Chg (F : List Nat) (w w' : World) : Prop where
  os : w'.os = w.os
  tape : w'.tape = w.tape
  out : w'.output = w.output
  size : w.heap.size ≤ w'.heap.size
  keep : ∀ k, k < w.heap.size → k ∉ F → w'.heap[k]? = w.heap[k]?

structure Hp (w0 : World) (F : List Nat) (Rs : List Res) (w : World) : Prop where
  chg : Chg F w0 w
  ok : ∀ R ∈ Rs, R.ok w
  dis : (Rs.flatMap Res.foot).Nodup
  wr : ∀ R ∈ Rs, ∀ k ∈ R.foot, w0.heap.size ≤ k ∨ k ∈ F

theorem Chg.refl (F : List Nat) (w : World) : Chg F w w := ⟨rfl, rfl, rfl, Nat.le_refl _, fun _ _ _ => rfl⟩
theorem Chg.ok {F : List Nat} {w w' : World} {R : Res} (h : Chg F w w') (hR : R.ok w) (hF : ∀ k ∈ R.foot, k ∉ F) : R.ok w' :=
  R.st w w' (fun k hk => h.keep k (R.lt w hR k hk) (hF k hk)) hR
theorem Chg.ext {w w' : World} {R : Res} (h : Chg [] w w') (hR : R.ok w) : R.ok w' := h.ok hR (by simp)
theorem Chg.trans {F : List Nat} {a b c : World} (h : Chg F a b) (k : Chg F b c) : Chg F a c :=
  ⟨k.os.trans h.os, k.tape.trans h.tape, k.out.trans h.out, Nat.le_trans h.size k.size, fun i hi hF => (k.keep i (Nat.lt_of_lt_of_le hi h.size) hF).trans (h.keep i hi hF)⟩
theorem Chg.mono {F G : List Nat} {a b : World} (h : Chg F a b) (hFG : ∀ k ∈ F, k ∈ G) : Chg G a b :=
  ⟨h.os, h.tape, h.out, h.size, fun i hi hG => h.keep i hi fun hF => hG (hFG _ hF)⟩
/-- Writes that go to new blocks alone are none. -/
theorem Chg.cut {F G : List Nat} {a b : World} (h : Chg F a b) (hFG : ∀ k ∈ F, k ∈ G ∨ a.heap.size ≤ k) : Chg G a b :=
  ⟨h.os, h.tape, h.out, h.size, fun i hi hG => h.keep i hi fun hF => (hFG _ hF).elim hG (by omega)⟩
theorem Chg.below {w w' : World} (h : Chg [] w w') : Below w.heap.size w w' := ⟨h.os, h.tape, h.out, h.size, fun k hk => h.keep k hk (by simp)⟩

def blkR (b : Nat) (o : Obj) : Res where
  foot := [b]
  ok := fun w => w.heap[b]? = some o
  st := fun w w' h hw => by rw [h b (by simp)]; exact hw
  lt := fun w hw k hk => by
    simp at hk; subst hk
    exact (Array.getElem?_eq_some_iff.1 hw).1

section
variable {w0 w w' : World} {F G : List Nat} {Rs Rs' : List Res} {R R' : Res}
theorem Hp.init (w : World) : Hp w [] [] w := ⟨Chg.refl _ _, by simp, by simp, by simp⟩
theorem Hp.one {R : Res} (h : R.ok w) (hn : R.foot.Nodup) : Hp w R.foot [R] w := ⟨Chg.refl _ _, by simpa using h, by simpa using hn, fun S hS k hk => by simp at hS; subst hS; exact .inr hk⟩
theorem Hp.at (h : Hp w0 F Rs w) (i : Nat) (hi : Rs[i]? = some R) : R.ok w := h.ok R (List.mem_of_getElem? hi)
theorem Hp.lt (h : Hp w0 F Rs w) : ∀ R ∈ Rs, ∀ k ∈ R.foot, k < w.heap.size := fun R hR k hk => R.lt w (h.ok R hR) k hk
theorem Hp.old (h : Hp w0 F Rs w) (hR : R.ok w0) (hF : ∀ k ∈ R.foot, k ∉ F) : R.ok w := h.chg.ok hR hF
theorem Hp.old0 (h : Hp w0 [] Rs w) (hR : R.ok w0) : R.ok w := h.chg.ok hR (by simp)
theorem flat_lt (h : Hp w0 F Rs w) : ∀ k ∈ Rs.flatMap Res.foot, k < w.heap.size := fun k hk => by
  obtain ⟨R, hR, hk⟩ := List.mem_flatMap.1 hk
  exact h.lt R hR k hk
/-- One more resource, in blocks that were not there before. -/
theorem Hp.new (h : Hp w0 F Rs w) (hc : Chg [] w w') (hR : R.ok w') (hn : ∀ k ∈ R.foot, w.heap.size ≤ k) (hd : R.foot.Nodup) : Hp w0 F (R :: Rs) w' := by
  refine ⟨h.chg.trans (hc.mono (by simp)), ?_, ?_, ?_⟩
  · intro S hS
    rcases List.mem_cons.1 hS with rfl | hS
    · exact hR
    · exact hc.ext (h.ok S hS)
  · rw [List.flatMap_cons, List.nodup_append]
    exact ⟨hd, h.dis, fun a ha b hb e => by have := hn a ha; have := flat_lt h b hb; omega⟩
  · intro S hS k hk
    rcases List.mem_cons.1 hS with rfl | hS
    · exact .inl (Nat.le_trans h.chg.size (hn k hk))
    · exact h.wr S hS k hk
theorem Hp.ext (h : Hp w0 F Rs w) (hc : Chg [] w w') : Hp w0 F Rs w' :=
  ⟨h.chg.trans (hc.mono (by simp)), fun R hR => hc.ext (h.ok R hR), h.dis, h.wr⟩
theorem chg_alloc (w : World) (o : Obj) : Chg [] w (w.alloc o) := ⟨rfl, rfl, rfl, by simp, fun k hk _ => Below.heap_alloc w o k hk⟩
theorem chg_drew (w : World) : Chg [] w { w with drawn := w.drawn + 1 } := ⟨rfl, rfl, rfl, Nat.le_refl _, fun _ _ _ => rfl⟩
theorem Hp.alloc (h : Hp w0 F Rs w) (o : Obj) : Hp w0 F (blkR w.heap.size o :: Rs) (w.alloc o) :=
  h.new (chg_alloc w o) (heap_alloc_new w o) (by simp [blkR]) (by simp [blkR])
theorem foot_dis (h : Hp w0 F Rs w) {i j : Nat} {S : Res} (hi : Rs[i]? = some R) (hj : Rs[j]? = some S) (hij : i ≠ j) : ∀ k ∈ R.foot, k ∉ S.foot := by
  have hd := h.dis
  clear h
  induction Rs generalizing i j with
  | nil => simp at hi
  | cons T Rs ih =>
    rw [List.flatMap_cons, List.nodup_append] at hd
    cases i with
    | zero =>
      simp at hi; subst hi
      cases j with
      | zero => exact absurd rfl hij
      | succ j =>
        simp at hj
        exact fun k hk hk' => hd.2.2 k hk k (List.mem_flatMap.2 ⟨S, List.mem_of_getElem? hj, hk'⟩) rfl
    | succ i =>
      simp at hi
      cases j with
      | zero =>
        simp at hj; subst hj
        exact fun k hk hk' => hd.2.2 k hk' k (List.mem_flatMap.2 ⟨R, List.mem_of_getElem? hi, hk⟩) rfl
      | succ j => simp at hj; exact ih hi hj (by omega) hd.2.1
theorem flat_set {i : Nat} (hi : Rs[i]? = some R) (hR' : R'.foot.Nodup) (hd : (Rs.flatMap Res.foot).Nodup) (hsub : ∀ k ∈ R'.foot, k ∈ R.foot ∨ k ∉ Rs.flatMap Res.foot) : ((Rs.set i R').flatMap Res.foot).Nodup := by
  induction Rs generalizing i with
  | nil => simp at hi
  | cons T Rs ih =>
    rw [List.flatMap_cons, List.nodup_append] at hd
    cases i with
    | zero =>
      simp at hi; subst hi
      rw [List.set_cons_zero, List.flatMap_cons, List.nodup_append]
      refine ⟨hR', hd.2.1, fun a ha b hb e => ?_⟩
      subst e
      rcases hsub a ha with h | h
      · exact hd.2.2 a h a hb rfl
      · exact h (by rw [List.flatMap_cons]; exact List.mem_append.2 (.inr hb))
    | succ i =>
      simp at hi
      rw [List.set_cons_succ, List.flatMap_cons, List.nodup_append]
      refine ⟨hd.1, ih hi hd.2.1 (fun k hk => (hsub k hk).imp id fun h hk' => h (by rw [List.flatMap_cons]; exact List.mem_append.2 (.inr hk'))), fun a ha b hb e => ?_⟩
      subst e
      obtain ⟨S, hS, hk⟩ := List.mem_flatMap.1 hb
      rcases List.mem_or_eq_of_mem_set hS with hS | rfl
      · exact hd.2.2 a ha a (List.mem_flatMap.2 ⟨S, hS, hk⟩) rfl
      · rcases hsub a hk with h | h
        · exact hd.2.2 a ha a (List.mem_flatMap.2 ⟨R, List.mem_of_getElem? hi, h⟩) rfl
        · exact h (by rw [List.flatMap_cons]; exact List.mem_append.2 (.inl ha))
/-- One resource has been changed, by whoever writes to its blocks alone; it may have taken new blocks. -/
theorem Hp.upd (h : Hp w0 F Rs w) (i : Nat) (hi : Rs[i]? = some R) (hc : Chg G w w') (hG : ∀ k ∈ G, k ∈ R.foot) (hR : R'.ok w') (hf : ∀ k ∈ R'.foot, k ∈ R.foot ∨ w.heap.size ≤ k) (hn : R'.foot.Nodup) : Hp w0 F (Rs.set i R') w' := by
  refine ⟨⟨hc.os.trans h.chg.os, hc.tape.trans h.chg.tape, hc.out.trans h.chg.out, Nat.le_trans h.chg.size hc.size, fun k hk hF => ?_⟩, ?_, ?_, ?_⟩
  · rw [hc.keep k (Nat.lt_of_lt_of_le hk h.chg.size) (fun hkG => (h.wr R (List.mem_of_getElem? hi) k (hG k hkG)).elim (by omega) hF)]
    exact h.chg.keep k hk hF
  · intro S hS
    obtain ⟨j, hj⟩ := List.getElem?_of_mem hS
    rw [List.getElem?_set] at hj
    split at hj
    · split at hj <;> simp at hj
      subst hj; exact hR
    · rename_i hij
      exact hc.ok (h.ok S (List.mem_of_getElem? hj)) fun k hk hkG => foot_dis h hi hj (by omega) k (hG k hkG) hk
  · refine flat_set hi hn h.dis fun k hk => (hf k hk).imp id fun hlt hk' => ?_
    have := flat_lt h k hk'; omega
  · intro S hS k hk
    rcases List.mem_or_eq_of_mem_set hS with hS | rfl
    · exact h.wr S hS k hk
    · rcases hf k hk with hk | hk
      · exact h.wr R (List.mem_of_getElem? hi) k hk
      · exact .inl (Nat.le_trans h.chg.size hk)
theorem chg_setRow (w : World) (b : Nat) (cs : Array Value) : Chg [b] w (w.setRow b cs) :=
  ⟨rfl, rfl, rfl, by simp, fun k hk hb => by
    have : b ≠ k := fun e => hb (by simp [e])
    simp [World.setRow, Array.getElem?_modify, this]⟩
theorem Hp.setRow (h : Hp w0 F Rs w) (i : Nat) {b : Nat} {cur cs : Array Value} {T : TypeId} {fr : Nat × Nat} (hi : Rs[i]? = some (blkR b (.cells cur T fr))) : Hp w0 F (Rs.set i (blkR b (.cells cs T fr))) (w.setRow b cs) :=
  h.upd i hi (chg_setRow w b cs) (by simp [blkR]) (by
    have := h.at i hi
    simp only [blkR] at this ⊢
    simp [World.setRow, Array.getElem?_modify, this]) (by simp [blkR]) (by simp [blkR])
theorem Hp.cut (h : Hp w0 F (Rs ++ Rs') w) : Hp w0 F Rs w := by
  refine ⟨h.chg, fun R hR => h.ok R (by simp [hR]), ?_, fun R hR => h.wr R (by simp [hR])⟩
  have := h.dis
  rw [List.flatMap_append, List.nodup_append] at this
  exact this.1
/-- What a callee is handed: its own resources alone, all of whose blocks it may write. -/
theorem Hp.give (h : Hp w0 F (Rs ++ Rs') w) : Hp w (Rs.flatMap Res.foot) Rs w :=
  ⟨Chg.refl _ _, fun R hR => h.ok R (by simp [hR]), h.cut.dis, fun R hR k hk => .inr (List.mem_flatMap.2 ⟨R, hR, hk⟩)⟩
/-- What comes back from it. -/
theorem Hp.back {Ss : List Res} (h : Hp w0 F (Rs ++ Rs') w) (hb : Hp w (Rs.flatMap Res.foot) Ss w') : Hp w0 F (Ss ++ Rs') w' := by
  have hd := h.dis
  rw [List.flatMap_append, List.nodup_append] at hd
  have hwr : ∀ k ∈ Rs.flatMap Res.foot, w0.heap.size ≤ k ∨ k ∈ F := fun k hk => by
    obtain ⟨R, hR, hk⟩ := List.mem_flatMap.1 hk
    exact h.wr R (by simp [hR]) k hk
  refine ⟨⟨hb.chg.os.trans h.chg.os, hb.chg.tape.trans h.chg.tape, hb.chg.out.trans h.chg.out, Nat.le_trans h.chg.size hb.chg.size, fun k hk hF => ?_⟩, ?_, ?_, ?_⟩
  · rw [hb.chg.keep k (Nat.lt_of_lt_of_le hk h.chg.size) (fun hkG => (hwr k hkG).elim (by omega) hF)]
    exact h.chg.keep k hk hF
  · intro S hS
    rcases List.mem_append.1 hS with hS | hS
    · exact hb.ok S hS
    · exact hb.chg.ok (h.ok S (by simp [hS])) fun k hk hkG => hd.2.2 k hkG k (List.mem_flatMap.2 ⟨S, hS, hk⟩) rfl
  · rw [List.flatMap_append, List.nodup_append]
    refine ⟨hb.dis, hd.2.1, fun a ha b hb' e => ?_⟩
    subst e
    obtain ⟨S, hS, hk⟩ := List.mem_flatMap.1 ha
    rcases hb.wr S hS a hk with h1 | h1
    · obtain ⟨S', hS', hk'⟩ := List.mem_flatMap.1 hb'
      have := h.lt S' (by simp [hS']) a hk'
      omega
    · exact hd.2.2 a h1 a hb' rfl
  · intro S hS k hk
    rcases List.mem_append.1 hS with hS | hS
    · rcases hb.wr S hS k hk with h1 | h1
      · exact .inl (Nat.le_trans h.chg.size h1)
      · exact hwr k h1
    · exact h.wr S (by simp [hS]) k hk
def picks (is : List Nat) (Rs : List Res) : List Res := is.filterMap (Rs[·]?)
end

/-! ## Steps with memory -/
section
variable {P : Program} {n : Nat} {L : List Oper} {Q : Exit → Act → World → Prop} {rest : List Oper} {l : Env} {w0 w w' : World} {F : List Nat} {Rs : List Res} {d : Option Tmp} {t : TypeId} {p : String} {af : Array Edge} {g : Option (Nat × Bool)} {x y : Operand} {v : Value}
theorem WL.alloc {T : TypeId} {z : Array Value} {d : Nat} (hp : Hp w0 F Rs w) (hz : zeroT P T = some z) (hd : okd n (some d) = true)
    (k : ∀ b w', Hp w0 F (blkR b (.cells z T) :: Rs) w' → WL P n L Q rest ((d, .pointer (some ⟨b, 0, none⟩)) :: l) w') : WL P n L Q (⟨some d, .alloc T, t, p, af, none⟩ :: rest) l w :=
  WL.val rfl hd (X.al hz) (k _ _ (hp.alloc _))
theorem WL.box {T : TypeId} {cs : Array Value} {d : Nat} (hp : Hp w0 F Rs w) (hx : ev l x = some v) (hc : v.cells = cs) (hd : okd n (some d) = true)
    (k : ∀ b w', Hp w0 F (blkR b (.cells cs T) :: Rs) w' → WL P n L Q rest ((d, .pointer (some ⟨b, 0, none⟩)) :: l) w') : WL P n L Q (⟨some d, .box T x, t, p, af, none⟩ :: rest) l w :=
  WL.val rfl hd (X.bx hx hc) (k _ _ (hp.alloc _))
theorem WL.store {T e : TypeId} {b o : Nat} {vs : List Value} {cur new : Array Value} (hp : Hp w0 F Rs w) (i : Nat) (hi : Rs[i]? = some (blkR b (.cells cur e (0, 0)))) (hs : szT P T = some vs.length) (ha : ev l x = some (.pointer (some ⟨b, o, none⟩))) (hv : ev l y = some v)
    (hvs : v.cells = vs.toArray) (h1 : vs.all (·.oneCell') = true) (hle : Nat.ble (o + vs.length) cur.size = true) (hnew : (cur.toList.take o ++ vs ++ cur.toList.drop (o + vs.length)).toArray = new)
    (k : ∀ w', Hp w0 F (Rs.set i (blkR b (.cells new e (0, 0)))) w' → WL P n L Q rest l w') : WL P n L Q (⟨none, .store T x y, t, p, af, none⟩ :: rest) l w := by
  subst hnew
  exact WL.stp rfl rfl (X.st hs ha hv hvs (by simpa using h1) (hp.at i hi) (by simpa using hle)) (k _ (hp.setRow i hi))
theorem X.ldk {T e : TypeId} {b o : Nat} {cur : Array Value} {fr : Nat × Nat} (h : (blkR b (.cells cur e fr)).ok w) (hT : isA P T = some false) (ha : ev l x = some (.pointer (some ⟨b, o, none⟩))) (hv : cur[o]? = some v) :
    Ex P l w ⟨d, .load T x, t, p, af, g⟩ v w := X.ld1 hT ha (by rw [cell_of_row w b o cur e fr h]; exact hv)
theorem X.ldkA {T e : TypeId} {b o : Nat} {cur : Array Value} {fr : Nat × Nat} {vs : List Value} (h : (blkR b (.cells cur e fr)).ok w) (hT : isA P T = some true) (hs : szT P T = some vs.length) (ha : ev l x = some (.pointer (some ⟨b, o, none⟩))) (hv : (cur.toList.drop o).take vs.length = vs) :
    Ex P l w ⟨d, .load T x, t, p, af, g⟩ (.agg vs.toArray) w := X.ldA hT hs ha (fun j u hu => by
  rw [addr_add, cell_of_row w b (o + j) cur e fr h]
  have hj : j < vs.length := (List.getElem?_eq_some_iff.1 hu).1
  rw [← hv, List.getElem?_take_of_lt hj, List.getElem?_drop] at hu
  simpa using hu)

/-- What a contract says: it returns some v, changes no block but those of F, and R holds of v and the world behind. -/
def Ret (F : List Nat) (w : World) (R : Value → World → Prop) : Ending → World → Prop := fun e w' => ∃ v, e = .returned v ∧ Chg F w w' ∧ R v w'
def IsFn (P : Program) (f : FuncId) : Prop := ∃ fn, P.funcs[f]? = some fn ∧ (fn.name == "runtime.NumGoroutine") = false ∧ fn.body.isNone = false
theorem run_callFunc {f : FuncId} (hf : IsFn P f) (args : Array Value) : (callFunc f args).run P w = .ok (.enter f args) w := by
  obtain ⟨fn, h1, h2, h3⟩ := hf
  have h2' : ¬ fn.name = "runtime.NumGoroutine" := by simpa using h2
  have h3' : ¬ fn.body = none := by intro h; simp [h] at h3
  simp [callFunc, h1, h2', h3']
theorem run_call {f : FuncId} {fo : Operand} {xs : List Operand} {ts : Array TypeId} {vs : List Value} {caps : Array Value} (hf : IsFn P f) (hfo : ev l fo = some (.func (.func f) #[] caps)) (hx : evs l xs = some vs) {ρ : Operand → Value} (hρ : Ag l ρ) :
    (execOp ρ ⟨d, .call ⟨.value fo, xs.toArray, ts⟩, t, p, af, g⟩).run P w = .ok (.enter f (vs.toArray ++ caps)) w := by
  simp [execOp, resolve, hρ _ _ hfo, Deferred.ofValue, invoke, evs_map hx hρ, run_callFunc hf]
theorem wp_callV {f : FuncId} {fo : Operand} {xs : List Operand} {ts : Array TypeId} {vs : List Value} {caps : Array Value} {F1 : List Nat} {R : Value → World → Prop} {K : Act → World → Prop} {a : Act} (ha : St n l a) (hf : IsFn P f)
    (hfo : ev l fo = some (.func (.func f) #[] caps)) (hx : evs l xs = some vs) (hc : Calls P f (vs.toArray ++ caps) w (Ret F1 w R)) (hK : ∀ v w', Chg F1 w w' → R v w' → K (a.put d v) w') : Oper.wp P ⟨d, .call ⟨.value fo, xs.toArray, ts⟩, t, p, af, g⟩ a w K Q := by
  unfold Oper.wp
  rw [run_call hf hfo hx ha.ag, Oper.upon_enter]
  refine hc.mono ?_
  rintro e w' ⟨v, rfl, h1, h2⟩
  exact hK v w' h1 h2
theorem WL.callV {f : FuncId} {fo : Operand} {xs : List Operand} {ts : Array TypeId} {vs : List Value} {caps : Array Value} {F1 : List Nat} {R : Value → World → Prop} (hf : IsFn P f) (hfo : ev l fo = some (.func (.func f) #[] caps)) (hx : evs l xs = some vs)
    (hd : okd n d = true) (hc : Calls P f (vs.toArray ++ caps) w (Ret F1 w R)) (k : ∀ v w', Chg F1 w w' → R v w' → WL P n L Q rest (puto d v l) w') :
    WL P n L Q (⟨d, .call ⟨.value fo, xs.toArray, ts⟩, t, p, af, none⟩ :: rest) l w :=
  fun a ha => wpList_plain rfl fun K hK => wp_callV ha hf hfo hx hc fun v w' h1 h2 => hK _ _ (k v w' h1 h2 _ (ha.puto hd v))
theorem WL.call {f : FuncId} {xs : List Operand} {ts : Array TypeId} {vs : List Value} {F1 : List Nat} {R : Value → World → Prop} (hf : IsFn P f) (hx : evs l xs = some vs)
    (hd : okd n d = true) (hc : Calls P f vs.toArray w (Ret F1 w R)) (k : ∀ v w', Chg F1 w w' → R v w' → WL P n L Q rest (puto d v l) w') :
    WL P n L Q (⟨d, .call ⟨.value (.func f), xs.toArray, ts⟩, t, p, af, none⟩ :: rest) l w :=
  WL.callV hf rfl hx hd (by simpa using hc) k
end

/-! ## Entry and return -/
def argsEnv : Nat → List Value → Env
  | _, [] => []
  | i, v :: vs => (i, v) :: argsEnv (i + 1) vs
theorem get_argsEnv : ∀ (vs : List Value) (k i : Nat) (v : Value), get (argsEnv k vs) i = some v → k ≤ i ∧ vs[i - k]? = some v
  | [], _, _, _, h => by cases h
  | u :: vs, k, i, v, h => by
    simp only [argsEnv, get] at h
    cases hq : Nat.beq k i with
    | true =>
      rw [hq, cond_true] at h
      have := Nat.eq_of_beq_eq_true hq
      subst this
      simp [← h]
    | false =>
      rw [hq, cond_false] at h
      obtain ⟨h1, h2⟩ := get_argsEnv vs (k + 1) i v h
      refine ⟨by omega, ?_⟩
      rw [show i - k = (i - (k + 1)) + 1 from by omega, List.getElem?_cons_succ]
      exact h2
theorem enter {P : Program} {f : FuncId} {fn : Func} {c : Code} {n : Nat} {vs : List Value} {w : World} {R : Ending → World → Prop} (hf : P.funcs[f]? = some fn) (hb : fn.body = some c) (hn : fn.ntmps = n) (hle : Nat.ble vs.length n = true)
    (h : W P n c (bodyPost P fn R) (argsEnv 0 vs) w) : Calls P f vs.toArray w R := by
  refine calls_of_wp hf hb (h _ ⟨?_, rfl, fun i v hv => ?_⟩)
  · have : vs.length ≤ n := by simpa using hle
    simp [hn]; omega
  · obtain ⟨_, hv⟩ := get_argsEnv vs 0 i v hv
    have hi : i < vs.length := (List.getElem?_eq_some_iff.1 (by simpa using hv)).1
    rw [Array.getElem?_append_left (by simpa using hi)]
    simpa using hv
def rvs (P : Program) (l : Env) (w : World) : List ResultVar → List Value → Prop
  | [], [] => True
  | .tmp t :: rs, v :: vs => get l t = some v ∧ rvs P l w rs vs
  | .cell a T :: rs, v :: vs => (∃ ad, get l a = some (.pointer (some ad)) ∧ (loadVar T ad).run P w = .ok v w) ∧ rvs P l w rs vs
  | _, _ => False
def tupV : List Value → Value
  | [v] => v
  | vs => .tuple vs.toArray
section
variable {P : Program} {n : Nat} {l : Env} {w0 w : World} {F : List Nat} {Rs : List Res}
def resStep (P : Program) (tmps : Array Value) : ResultVar → Sem Value
    | .tmp t => pure (tmps.getD t undef)
    | .cell a t => do loadVar t (← asAddr (tmps.getD a undef))
theorem run_resStep {a : Act} (ha : St n l a) : ∀ (rs : List ResultVar) (vs : List Value), rvs P l w rs vs → (rs.mapM (resStep P a.tmps)).run P w = .ok vs w
  | [], [], _ => by simp
  | .tmp t :: rs, v :: vs, h => by
    have h1 := ha.vals _ _ h.1
    simp [List.mapM_cons, resStep, run_resStep ha rs vs h.2, h1]
  | .cell c T :: rs, v :: vs, h => by
    obtain ⟨⟨ad, h1, h2⟩, h3⟩ := h
    have h1 := ha.vals _ _ h1
    simp [List.mapM_cons, resStep, run_resStep ha rs vs h3, h1, asAddr, h2]
  | [], _ :: _, h => h.elim
  | .tmp _ :: _, [], h => h.elim
  | .cell _ _ :: _, [], h => h.elim
theorem run_results {fn : Func} {rs : List ResultVar} {vs : List Value} {a : Act} (ha : St n l a) (hr : fn.results = rs.toArray) (h : rvs P l w rs vs) : (results fn a.tmps).run P w = .ok (tupV vs) w := by
  have h1 := run_resStep ha rs vs h
  have : results fn a.tmps = (do
      let vs ← fn.results.mapM (resStep P a.tmps)
      pure (if h : vs.size = 1 then vs[0] else .tuple vs)) := by
    unfold results
    congr 1
  rw [this, hr, List.mapM_toArray]
  simp only [Sem.run_bind, Sem.run_map, h1, Result.andThen_ok, Sem.run_pure]
  congr 1
  match vs with
  | [] => rfl
  | [v] => rfl
  | u :: v :: vs => simp [tupV]
theorem W.done {fn : Func} {rs : List ResultVar} {vs : List Value} {v : Value} {R : Value → World → Prop} (hp : Hp w0 F Rs w) (hr : fn.results = rs.toArray) (h : rvs P l w rs vs) (hv : tupV vs = v) (hR : R v w) :
    WK n (bodyPost P fn (Ret F w0 R) .ret) l w := fun a ha => ⟨ha.defers, tupV vs, run_results ha hr h, v, by rw [hv], hp.chg, hR⟩
theorem W.doneN {fn : Func} {rs : List ResultVar} {vs : List Value} {v : Value} {R : Value → World → Prop} (hp : Hp w0 F Rs w) (hr : fn.results = rs.toArray) (h : rvs P l w rs vs) (hv : tupV vs = v) (hR : R v w) :
    WK n (bodyPost P fn (Ret F w0 R) .normal) l w := fun a ha => ⟨ha.defers, tupV vs, run_results ha hr h, v, by rw [hv], hp.chg, hR⟩
end

/-! ## Regions that draw their order -/
def WD (P : Program) (n : Nat) (L : List Oper) (Q : Exit → Act → World → Prop) (S : World → Prop) (fuel : Nat) (listed : Array Bool) (l : Env) (w : World) : Prop :=
  WK n (wpAnyH P .any L.toArray Q S fuel listed) l w
def WO (P : Program) (n : Nat) (L : List Oper) (Q : Exit → Act → World → Prop) (S : World → Prop) (fuel : Nat) (listed : Array Bool) (i : Nat) (l : Env) (w : World) : Prop :=
  WK n (wpOp P L.toArray Q i (fun a' w' => S w' ∧ wpAnyH P .any L.toArray Q S fuel (listed.setIfInBounds i true) a' w')) l w
/-- May operation i be taken now, ahead of all others? -/
def canTake (L : List Oper) (listed : Array Bool) (i : Nat) : Bool :=
  Region.noSelect L.toArray && Region.free .any L.toArray listed i && (Region.ready .any L.toArray listed).contains i
section
variable {P : Program} {n : Nat} {L : List Oper} {Q : Exit → Act → World → Prop} {S : World → Prop} {fuel : Nat} {listed : Array Bool} {l : Env} {w0 w w' : World} {F : List Nat} {Rs : List Res} {o : Oper} {v : Value} {y : Code} {id : Nat}
theorem W.draw (hm : P.follows .mixedOrders = true) (S : World → Prop) (hp : Hp w0 F Rs w) (h : ∀ w', Hp w0 F Rs w' → WD P n L Q S L.length (Array.replicate L.length false) l w') : W P n (.region id L.toArray true) Q l w := fun a ha => by
  refine wp_region_held (S := S) hm ?_
  have := h _ (hp.ext (chg_drew w)) a ha
  simpa [WD, WK] using this
theorem WD.val (i : Nat) (hi : L[i]? = some o) (hc : canTake L listed i = true) (hg : o.guard = none) (hd : okd n o.dst = true) (hQ : ∀ c a w, Q (.panic c) (a.put o.dst v) w → Q (.panic c) a w) (hS : S w) (hx : ∀ w, S w → Ex P l w o v w)
    (k : WD P n L Q S fuel (listed.setIfInBounds i true) (puto o.dst v l) w) : WD P n L Q S (fuel + 1) listed l w := fun a ha => by
  unfold canTake at hc
  simp only [Bool.and_eq_true] at hc
  refine wpAnyH_take (i := i) (oi := o) (v := v) (by simpa using hi) hc.1.1 hc.1.2 hc.2 hQ (.inl ⟨by simp [Region.wanted, hg], fun w hw => hx w hw _ ha.ag⟩) hS (k _ (ha.puto hd v))
theorem WD.g1 (i : Nat) {j dj : Nat} {want b : Bool} (hi : L[i]? = some o) (hc : canTake L listed i = true) (hg : o.guard = some (j, want)) (hj : (L[j]?).bind (·.dst) = some dj) (hb : get l dj = some (.bool b)) (hw : b = want) (hd : okd n o.dst = true)
    (hQ : ∀ c a w, Q (.panic c) (a.put o.dst v) w → Q (.panic c) a w) (hS : S w) (hx : ∀ w, S w → Ex P l w o v w)
    (k : WD P n L Q S fuel (listed.setIfInBounds i true) (puto o.dst v l) w) : WD P n L Q S (fuel + 1) listed l w := fun a ha => by
  unfold canTake at hc
  simp only [Bool.and_eq_true] at hc
  have hy := yielded_of ha hj hb
  refine wpAnyH_take (i := i) (oi := o) (v := v) (by simpa using hi) hc.1.1 hc.1.2 hc.2 hQ (.inl ⟨by simp [Region.wanted, hg, hy, hw], fun w hw => hx w hw _ ha.ag⟩) hS (k _ (ha.puto hd v))
theorem WD.g0 (i : Nat) {j dj : Nat} {want b : Bool} (hi : L[i]? = some o) (hc : canTake L listed i = true) (hg : o.guard = some (j, want)) (hj : (L[j]?).bind (·.dst) = some dj) (hb : get l dj = some (.bool b)) (hw : b = !want) (hd : okd n o.dst = true)
    (hQ : ∀ c a w, Q (.panic c) (a.put o.dst undef) w → Q (.panic c) a w) (hS : S w)
    (k : WD P n L Q S fuel (listed.setIfInBounds i true) (puto o.dst undef l) w) : WD P n L Q S (fuel + 1) listed l w := fun a ha => by
  unfold canTake at hc
  simp only [Bool.and_eq_true] at hc
  have hy := yielded_of ha hj hb
  refine wpAnyH_take (i := i) (oi := o) (v := undef) (by simpa using hi) hc.1.1 hc.1.2 hc.2 hQ (.inr ⟨by subst hw; cases want <;> simp [Region.wanted, hg, hy], rfl⟩) hS (k _ (ha.puto hd undef))
theorem WD.gu (i : Nat) {j dj : Nat} {want : Bool} (hi : L[i]? = some o) (hc : canTake L listed i = true) (hg : o.guard = some (j, want)) (hj : (L[j]?).bind (·.dst) = some dj) (hb : get l dj = some undef) (hd : okd n o.dst = true)
    (hQ : ∀ c a w, Q (.panic c) (a.put o.dst undef) w → Q (.panic c) a w) (hS : S w)
    (k : WD P n L Q S fuel (listed.setIfInBounds i true) (puto o.dst undef l) w) : WD P n L Q S (fuel + 1) listed l w := fun a ha => by
  unfold canTake at hc
  simp only [Bool.and_eq_true] at hc
  have hy := yielded_undef ha hj hb
  refine wpAnyH_take (i := i) (oi := o) (v := undef) (by simpa using hi) hc.1.1 hc.1.2 hc.2 hQ (.inr ⟨by simp [Region.wanted, hg, hy], rfl⟩) hS (k _ (ha.puto hd undef))
theorem WD.one (i : Nat) (hr : Region.ready .any L.toArray listed = [i]) (h : WO P n L Q S fuel listed i l w) : WD P n L Q S (fuel + 1) listed l w := fun a ha =>
  wpAnyH_all hr (by simp) (by simp only [List.mem_singleton, forall_eq]; exact h a ha)
theorem WD.two (i j : Nat) (hr : Region.ready .any L.toArray listed = [i, j]) (h : WO P n L Q S fuel listed i l w) (h' : WO P n L Q S fuel listed j l w) : WD P n L Q S (fuel + 1) listed l w := fun a ha =>
  wpAnyH_all hr (by simp) (by
    intro m hm
    rcases List.mem_cons.1 hm with rfl | hm
    · exact h a ha
    · rw [List.mem_singleton.1 hm]; exact h' a ha)
theorem WD.three (i j k : Nat) (hr : Region.ready .any L.toArray listed = [i, j, k]) (h : WO P n L Q S fuel listed i l w) (h' : WO P n L Q S fuel listed j l w) (h'' : WO P n L Q S fuel listed k l w) : WD P n L Q S (fuel + 1) listed l w := fun a ha =>
  wpAnyH_all hr (by simp) (by
    intro m hm
    rcases List.mem_cons.1 hm with rfl | hm
    · exact h a ha
    rcases List.mem_cons.1 hm with rfl | hm
    · exact h' a ha
    · rw [List.mem_singleton.1 hm]; exact h'' a ha)
theorem WO.val {i : Nat} (hi : L[i]? = some o) (hg : o.guard = none) (hd : okd n o.dst = true) (hx : Ex P l w o v w') (hS : S w') (k : WD P n L Q S fuel (listed.setIfInBounds i true) (puto o.dst v l) w') : WO P n L Q S fuel listed i l w := fun a ha => by
  unfold wpOp
  rw [show L.toArray[i]? = some o from by simpa using hi]
  simp only [Region.wanted, hg, if_true]
  refine .inl ?_
  unfold Oper.wp
  rw [hx _ ha.ag, Oper.upon_value]
  exact ⟨hS, k _ (ha.puto hd v)⟩
theorem WO.stp {i : Nat} (hi : L[i]? = some o) (hg : o.guard = none) (hd : o.dst = none) (hx : ExS P l w o w') (hS : S w') (k : WD P n L Q S fuel (listed.setIfInBounds i true) l w') : WO P n L Q S fuel listed i l w := fun a ha => by
  unfold wpOp
  rw [show L.toArray[i]? = some o from by simpa using hi]
  simp only [Region.wanted, hg, if_true]
  refine .inl ?_
  unfold Oper.wp
  rw [hx _ ha.ag, Oper.upon_skip, hd]
  exact ⟨hS, k _ ha⟩
theorem WO.callV {i : Nat} {f : FuncId} {fo : Operand} {xs : List Operand} {ts : Array TypeId} {vs : List Value} {caps : Array Value} {F1 : List Nat} {R : Value → World → Prop} {d : Option Tmp} {t : TypeId} {p : String} {af : Array Edge} (hi : L[i]? = some ⟨d, .call ⟨.value fo, xs.toArray, ts⟩, t, p, af, none⟩) (hf : IsFn P f) (hfo : ev l fo = some (.func (.func f) #[] caps)) (hx : evs l xs = some vs)
    (hd : okd n d = true) (hc : Calls P f (vs.toArray ++ caps) w (Ret F1 w R)) (k : ∀ v w', Chg F1 w w' → R v w' → S w' ∧ WD P n L Q S fuel (listed.setIfInBounds i true) (puto d v l) w') : WO P n L Q S fuel listed i l w := fun a ha => by
  unfold wpOp
  rw [show L.toArray[i]? = some _ from by simpa using hi]
  simp only [Region.wanted, if_true]
  exact .inl (wp_callV ha hf hfo hx hc fun v w' h1 h2 => ⟨(k v w' h1 h2).1, (k v w' h1 h2).2 _ (ha.puto hd v)⟩)
theorem WO.call {i : Nat} {f : FuncId} {xs : List Operand} {ts : Array TypeId} {vs : List Value} {F1 : List Nat} {R : Value → World → Prop} {d : Option Tmp} {t : TypeId} {p : String} {af : Array Edge} (hi : L[i]? = some ⟨d, .call ⟨.value (.func f), xs.toArray, ts⟩, t, p, af, none⟩) (hf : IsFn P f) (hx : evs l xs = some vs)
    (hd : okd n d = true) (hc : Calls P f vs.toArray w (Ret F1 w R)) (k : ∀ v w', Chg F1 w w' → R v w' → S w' ∧ WD P n L Q S fuel (listed.setIfInBounds i true) (puto d v l) w') : WO P n L Q S fuel listed i l w :=
  WO.callV hi hf rfl hx hd (by simpa using hc) k
theorem WO.alloc {i : Nat} {T : TypeId} {z : Array Value} {d : Nat} {t : TypeId} {p : String} {af : Array Edge} (hp : Hp w0 F Rs w) (hi : L[i]? = some ⟨some d, .alloc T, t, p, af, none⟩) (hz : zeroT P T = some z) (hd : okd n (some d) = true)
    (k : ∀ b w', Hp w0 F (blkR b (.cells z T) :: Rs) w' → S w' ∧ WD P n L Q S fuel (listed.setIfInBounds i true) ((d, .pointer (some ⟨b, 0, none⟩)) :: l) w') : WO P n L Q S fuel listed i l w :=
  have h := k _ _ (hp.alloc _)
  WO.val hi rfl hd (X.al hz) h.1 h.2
theorem WO.box {i : Nat} {T : TypeId} {x : Operand} {cs : Array Value} {d : Nat} {t : TypeId} {p : String} {af : Array Edge} (hp : Hp w0 F Rs w) (hi : L[i]? = some ⟨some d, .box T x, t, p, af, none⟩) (hx : ev l x = some v) (hc : v.cells = cs) (hd : okd n (some d) = true)
    (k : ∀ b w', Hp w0 F (blkR b (.cells cs T) :: Rs) w' → S w' ∧ WD P n L Q S fuel (listed.setIfInBounds i true) ((d, .pointer (some ⟨b, 0, none⟩)) :: l) w') : WO P n L Q S fuel listed i l w :=
  have h := k _ _ (hp.alloc _)
  WO.val hi rfl hd (X.bx hx hc) h.1 h.2
theorem WO.store {i : Nat} {T e : TypeId} {x y : Operand} {b o : Nat} {vs : List Value} {cur new : Array Value} {t : TypeId} {p : String} {af : Array Edge} (hp : Hp w0 F Rs w) (j : Nat) (hi : L[i]? = some ⟨none, .store T x y, t, p, af, none⟩) (hj : Rs[j]? = some (blkR b (.cells cur e (0, 0)))) (hs : szT P T = some vs.length) (ha : ev l x = some (.pointer (some ⟨b, o, none⟩))) (hv : ev l y = some v)
    (hvs : v.cells = vs.toArray) (h1 : vs.all (·.oneCell') = true) (hle : Nat.ble (o + vs.length) cur.size = true) (hnew : (cur.toList.take o ++ vs ++ cur.toList.drop (o + vs.length)).toArray = new)
    (k : ∀ w', Hp w0 F (Rs.set j (blkR b (.cells new e (0, 0)))) w' → S w' ∧ WD P n L Q S fuel (listed.setIfInBounds i true) l w') : WO P n L Q S fuel listed i l w := by
  subst hnew
  have h := k _ (hp.setRow j (cs := (cur.toList.take o ++ vs ++ cur.toList.drop (o + vs.length)).toArray) hj)
  exact WO.stp hi rfl rfl (X.st hs ha hv hvs (by simpa using h1) (hp.at j hj) (by simpa using hle)) h.1 h.2
theorem gen_world {c : Code} (hp : Hp w0 F Rs w) (h : ∀ w', Hp w0 F Rs w' → W P n c Q l w') : W P n c Q l w := h w hp
theorem run_loadVarB {T e : TypeId} {b : Nat} {o : Nat} {cur : Array Value} {fr : Nat × Nat} {vs : List Value} (hp : Hp w0 F Rs w) (i : Nat) (hi : Rs[i]? = some (blkR b (.cells cur e fr))) (hT : isA P T = some true) (hs : szT P T = some vs.length) (hv : (cur.toList.drop o).take vs.length = vs) :
    (loadVar T ⟨b, o, none⟩).run P w = .ok (.agg vs.toArray) w := run_loadVarA hT hs (fun j u hu => by
  rw [addr_add, cell_of_row w b (o + j) cur e fr (hp.at i hi)]
  have hj : j < vs.length := (List.getElem?_eq_some_iff.1 hu).1
  rw [← hv, List.getElem?_take_of_lt hj, List.getElem?_drop] at hu
  simpa using hu)
theorem in64 {z : Int} (h : -9223372036854775808 ≤ z ∧ z ≤ 9223372036854775807) : In64 z := h
/-- A resource in blocks that were not there. -/
def New (w w' : World) (R : Res) : Prop := R.ok w' ∧ (∀ k ∈ R.foot, w.heap.size ≤ k) ∧ R.foot.Nodup
theorem Hp.newN {R : Res} (h : Hp w0 F Rs w) (hc : Chg [] w w') (hn : New w w' R) : Hp w0 F (R :: Rs) w' := h.new hc hn.1 hn.2.1 hn.2.2
theorem WD.nil (hr : Region.ready .any L.toArray listed = []) (h : WK n (Q .normal) l w) : WD P n L Q S fuel listed l w := fun a ha => wpAnyH_done hr (h a ha) _
end
end Go.Proofs.YtmmmbkmjkpfleaaGreat
