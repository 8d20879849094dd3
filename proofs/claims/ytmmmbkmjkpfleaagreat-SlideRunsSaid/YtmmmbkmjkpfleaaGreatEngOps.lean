/- The single operations of the model, each as one lemma over a frame. No statement of the seat is proved here; conditions: none. -/
import Derived.Test.YtmmmbkmjkpfleaaGreatEng
namespace Go.Proofs.YtmmmbkmjkpfleaaGreat
open Go Go.RowKit

def isA (P : Program) (T : TypeId) : Option Bool :=
  match P.underlying T with
  | some (.struct _) | some (.array _ _) => some true
  | some _ => some false
  | none => none
def szT (P : Program) (T : TypeId) : Option Nat := (P.info? T).map (·.size)
def zeroT (P : Program) (T : TypeId) : Option (Array Value) := (P.info? T).bind fun i => i.zero.map (·.cells)
def fieldOff (P : Program) (S : TypeId) (f : Nat) : Option Nat :=
  match P.underlying S with
  | some (.struct fs) => match fs[f]? with
    | some fd => match P.info? fd.type with
      | some i => if i.size = 0 then none else some fd.offset
      | none => none
    | none => none
  | _ => none
def intT (P : Program) (T : TypeId) : Option IntKind :=
  match P.underlying T with
  | some (.int k) => some k
  | _ => none
def sliceT (P : Program) (T : TypeId) : Option TypeId :=
  match P.underlying T with
  | some (.slice e) => some e
  | _ => none
def arrT (P : Program) (T : TypeId) : Option (Nat × TypeId) :=
  match P.underlying T with
  | some (.array n e) => some (n, e)
  | _ => none
def bytesT (P : Program) (T : TypeId) : Option Nat := (P.info? T).map (·.bytes)

section
variable {P : Program} {w : World}
theorem sliceT_eq {T e : TypeId} (h : sliceT P T = some e) : P.underlying T = some (.slice e) := by
  unfold sliceT at h; split at h <;> simp_all
theorem intT_eq {T : TypeId} {k : IntKind} (h : intT P T = some k) : P.underlying T = some (.int k) := by
  unfold intT at h; split at h <;> simp_all
theorem arrT_eq {T : TypeId} {n : Nat} {e : TypeId} (h : arrT P T = some (n, e)) : P.underlying T = some (.array n e) := by
  unfold arrT at h; split at h <;> simp_all
theorem run_szT {T : TypeId} {m : Nat} (h : szT P T = some m) : (sizeOf T).run P w = .ok m w := by
  unfold szT at h
  cases hq : P.info? T with
  | none => rw [hq] at h; simp at h
  | some i => rw [hq] at h; simp at h; simp [sizeOf, typeInfo, hq, h]
theorem run_bytesT {T : TypeId} {m : Nat} (h : bytesT P T = some m) : ∃ i, P.info? T = some i ∧ i.bytes = m := by
  unfold bytesT at h
  cases hq : P.info? T with
  | none => rw [hq] at h; simp at h
  | some i => rw [hq] at h; simp at h; exact ⟨i, rfl, h⟩
theorem run_isA {T : TypeId} {b : Bool} (h : isA P T = some b) : (isAgg T).run P w = .ok b w := by
  unfold isA at h
  cases hq : P.underlying T with
  | none => rw [hq] at h; simp at h
  | some d => rw [hq] at h; cases d <;> simp_all [isAgg, underlying]
theorem run_zeroT {T : TypeId} {z : Array Value} (h : zeroT P T = some z) : ∃ v, (zeroValue T).run P w = .ok v w ∧ v.cells = z := by
  unfold zeroT at h
  cases hq : P.info? T with
  | none => rw [hq] at h; simp at h
  | some i =>
    rw [hq] at h; simp at h
    obtain ⟨v, hv, hz⟩ := h
    exact ⟨v, by simp [zeroValue, typeInfo, hq, hv], hz⟩
theorem run_loadVar1 {T : TypeId} {a : Addr} {v : Value} (hT : isA P T = some false) (hc : w.cell? a = some v) : (loadVar T a).run P w = .ok v w := by
  simp [loadVar, run_isA hT, hc]
theorem run_loadVarA {T : TypeId} {a : Addr} {cs : List Value} (hT : isA P T = some true) (hs : szT P T = some cs.length) (hc : ∀ j v, cs[j]? = some v → w.cell? (a.add j) = some v) :
    (loadVar T a).run P w = .ok (.agg cs.toArray) w := by
  simp [loadVar, run_isA hT, run_szT hs, run_loadCells_list w a cs hc]
end

def In64 (z : Int) : Prop := -9223372036854775808 ≤ z ∧ z ≤ 9223372036854775807
theorem wrap_in64 {z : Int} (h : In64 z) : IntKind.i64.wrap z = z := by
  unfold In64 at h
  rw [IntKind.wrap_i64]; omega

section
variable {P : Program} {l : Env} {w w' : World} {d : Option Tmp} {t : TypeId} {p : String} {af : Array Edge} {g : Option (Nat × Bool)} {x y z : Operand} {v : Value}
theorem X.mv (h : ev l x = some v) : Ex P l w ⟨d, .move x, t, p, af, g⟩ v w := fun ρ hρ => by simp [execOp, hρ _ _ h]
theorem X.as (h : ev l x = some v) : Ex P l w ⟨d, .assign x, t, p, af, g⟩ v w := fun ρ hρ => by simp [execOp, hρ _ _ h]
theorem X.pkT {b : Bool} (hb : ev l x = some (.bool b)) (ht : b = true) (h : ev l y = some v) : Ex P l w ⟨d, .pick x y z, t, p, af, g⟩ v w := fun ρ hρ => by
  subst ht; simp [execOp, asBool, hρ _ _ hb, hρ _ _ h]
theorem X.pkF {b : Bool} (hb : ev l x = some (.bool b)) (ht : b = false) (h : ev l z = some v) : Ex P l w ⟨d, .pick x y z, t, p, af, g⟩ v w := fun ρ hρ => by
  subst ht; simp [execOp, asBool, hρ _ _ hb, hρ _ _ h]
theorem X.not {b : Bool} {T : TypeId} (hb : ev l x = some (.bool b)) : Ex P l w ⟨d, .unOp .not T x, t, p, af, g⟩ (.bool (!b)) w := fun ρ hρ => by
  simp [execOp, Op.unary, hρ _ _ hb]
theorem eqGuard_int {op : BinOp} {T : TypeId} {k j : IntKind} {a b : Int} : (eqGuard op T x y (.int k a) (.int j b)).run P w = .ok () w := by
  cases op <;> simp [eqGuard]
theorem X.bin {op : BinOp} {T T' : TypeId} {k j : IntKind} {a b : Int} (hx : ev l x = some (.int k a)) (hy : ev l y = some (.int j b)) (h : (binOp op T (.int k a) (.int j b)).run P w = .ok v w) :
    Ex P l w ⟨d, .binOp op T x y T', t, p, af, g⟩ v w := fun ρ hρ => by
  simp [execOp, hρ _ _ hx, hρ _ _ hy, eqGuard_int, h]
theorem X.add {T T' : TypeId} {a b : Int} (hx : ev l x = some (.int .i64 a)) (hy : ev l y = some (.int .i64 b)) (h : In64 (a + b)) :
    Ex P l w ⟨d, .binOp .add T x y T', t, p, af, g⟩ (.int .i64 (a + b)) w := X.bin hx hy (by simp [binOp, Op.intArith, wrap_in64 h])
theorem X.sub {T T' : TypeId} {a b : Int} (hx : ev l x = some (.int .i64 a)) (hy : ev l y = some (.int .i64 b)) (h : In64 (a - b)) :
    Ex P l w ⟨d, .binOp .sub T x y T', t, p, af, g⟩ (.int .i64 (a - b)) w := X.bin hx hy (by simp [binOp, Op.intArith, wrap_in64 h])
theorem X.mul {T T' : TypeId} {a b : Int} (hx : ev l x = some (.int .i64 a)) (hy : ev l y = some (.int .i64 b)) (h : In64 (a * b)) :
    Ex P l w ⟨d, .binOp .mul T x y T', t, p, af, g⟩ (.int .i64 (a * b)) w := X.bin hx hy (by simp [binOp, Op.intArith, wrap_in64 h])
theorem X.quo {T T' : TypeId} {a b : Int} (hx : ev l x = some (.int .i64 a)) (hy : ev l y = some (.int .i64 b)) (h : 0 ≤ a ∧ 0 < b ∧ a ≤ 9223372036854775807) :
    Ex P l w ⟨d, .binOp .quo T x y T', t, p, af, g⟩ (.int .i64 (a / b)) w := X.bin hx hy (by
  have hb : ¬ b = 0 := by omega
  have h1 : a.tdiv b = a / b := Int.tdiv_eq_ediv_of_nonneg h.1
  have h2 : 0 ≤ a / b := Int.ediv_nonneg h.1 (by omega)
  have h3 : a / b ≤ a := Int.ediv_le_self _ h.1
  have h4 : In64 (a / b) := by unfold In64; omega
  simp [binOp, Op.intDiv, hb, h1, wrap_in64 h4])
theorem X.rem {T T' : TypeId} {k : IntKind} {a b : Int} (hx : ev l x = some (.int k a)) (hy : ev l y = some (.int k b)) (h : 0 ≤ a ∧ 0 < b) :
    Ex P l w ⟨d, .binOp .rem T x y T', t, p, af, g⟩ (.int k (a % b)) w := X.bin hx hy (by
  have hb : ¬ b = 0 := by omega
  have h1 : a.tmod b = a % b := Int.tmod_eq_emod_of_nonneg h.1
  simp [binOp, Op.intDiv, hb, h1])
theorem X.lss {T T' : TypeId} {k : IntKind} {a b : Int} (hx : ev l x = some (.int k a)) (hy : ev l y = some (.int k b)) :
    Ex P l w ⟨d, .binOp .lss T x y T', t, p, af, g⟩ (.bool (decide (a < b))) w := X.bin hx hy (by simp [binOp, Op.intCmp])
theorem X.leq {T T' : TypeId} {k : IntKind} {a b : Int} (hx : ev l x = some (.int k a)) (hy : ev l y = some (.int k b)) :
    Ex P l w ⟨d, .binOp .leq T x y T', t, p, af, g⟩ (.bool (decide (a ≤ b))) w := X.bin hx hy (by simp [binOp, Op.intCmp])
theorem X.gtr {T T' : TypeId} {k : IntKind} {a b : Int} (hx : ev l x = some (.int k a)) (hy : ev l y = some (.int k b)) :
    Ex P l w ⟨d, .binOp .gtr T x y T', t, p, af, g⟩ (.bool (decide (b < a))) w := X.bin hx hy (by simp [binOp, Op.intCmp])
theorem X.geq {T T' : TypeId} {k : IntKind} {a b : Int} (hx : ev l x = some (.int k a)) (hy : ev l y = some (.int k b)) :
    Ex P l w ⟨d, .binOp .geq T x y T', t, p, af, g⟩ (.bool (decide (b ≤ a))) w := X.bin hx hy (by simp [binOp, Op.intCmp])
theorem X.eql {T T' : TypeId} {k : IntKind} {a b : Int} (hx : ev l x = some (.int k a)) (hy : ev l y = some (.int k b)) :
    Ex P l w ⟨d, .binOp .eql T x y T', t, p, af, g⟩ (.bool (decide (a = b))) w := X.bin hx hy (by
  have : (a == b) = decide (a = b) := by rw [Bool.eq_iff_iff]; simp
  simp [binOp, Op.intCmp, this])
theorem X.neq {T T' : TypeId} {k : IntKind} {a b : Int} (hx : ev l x = some (.int k a)) (hy : ev l y = some (.int k b)) :
    Ex P l w ⟨d, .binOp .neq T x y T', t, p, af, g⟩ (.bool (decide (a ≠ b))) w := X.bin hx hy (by
  have : (a != b) = decide (a ≠ b) := by rw [Bool.eq_iff_iff]; simp
  simp [binOp, Op.intCmp, this])
theorem X.eqV {T T' : TypeId} {u v : Value} {b : Bool} (hx : ev l x = some u) (hy : ev l y = some v) (hg : (eqGuard .eql T x y u v).run P w = .ok () w) (hb : binOp .eql T u v = (do pure (.bool (← Op.equal T u v))))
    (he : ∀ dd, (Op.equalIn (dd + 1) T u v).run P w = .ok b w) : Ex P l w ⟨d, .binOp .eql T x y T', t, p, af, g⟩ (.bool b) w := fun ρ hρ => by
  have h2 : (binOp .eql T u v).run P w = .ok (.bool b) w := by
    rw [hb, Sem.run_bind, show Op.equal T u v = Op.equalIn (9999 + 1) T u v from rfl, he]; rfl
  simp only [execOp, hρ _ _ hx, hρ _ _ hy, Sem.run_bind, hg, h2, Result.andThen_ok, Sem.run_pure]
def boolT (P : Program) (T : TypeId) : Bool := match P.underlying T with
  | some .bool => true
  | _ => false
def ptrT (P : Program) (T : TypeId) : Bool := match P.underlying T with
  | some (.pointer _) => true
  | _ => false
theorem boolT_eq {T : TypeId} (h : boolT P T = true) : P.underlying T = some .bool := by unfold boolT at h; split at h <;> simp_all
theorem ptrT_eq {T : TypeId} (h : ptrT P T = true) : ∃ e, P.underlying T = some (.pointer e) := by unfold ptrT at h; split at h <;> simp_all
theorem X.eqPn {T T' : TypeId} {a : Option Addr} (hT : ptrT P T = true) (hx : ev l x = some (.pointer a)) (hy : ev l y = some (.pointer none)) :
    Ex P l w ⟨d, .binOp .eql T x y T', t, p, af, g⟩ (.bool a.isNone) w := by
  obtain ⟨e, he⟩ := ptrT_eq hT
  cases a with
  | none => exact X.eqV hx hy rfl rfl fun dd => by unfold Op.equalIn; simp [underlying, he]
  | some a => exact X.eqV hx hy rfl rfl fun dd => by unfold Op.equalIn; simp [underlying, he]
theorem X.eqSn {T T' e : TypeId} {A : Option Addr} {m c : Nat} (hT : sliceT P T = some e) (hx : ev l x = some (.slice A m c)) (hy : ev l y = some (.slice none 0 0)) :
    Ex P l w ⟨d, .binOp .eql T x y T', t, p, af, g⟩ (.bool A.isNone) w := by
  have he := sliceT_eq hT
  cases A with
  | none => exact X.eqV hx hy rfl rfl fun dd => by unfold Op.equalIn; simp [underlying, he]
  | some a => exact X.eqV hx hy rfl rfl fun dd => by unfold Op.equalIn; simp [underlying, he]
theorem X.conv {S D : TypeId} {j k : IntKind} {a b : Int} (hs : intT P S = some j) (hd : intT P D = some k) (hx : ev l x = some (.int j a)) (h : k.wrap a = b) :
    Ex P l w ⟨d, .convert S D x, t, p, af, g⟩ (.int k b) w := fun ρ hρ => by
  simp [execOp, hρ _ _ hx, convert, underlying, intT_eq hs, intT_eq hd, Conv.intToInt, h]
theorem X.ext {vs : Array Value} {i : Nat} (hx : ev l x = some (.tuple vs)) (h : vs[i]? = some v) : Ex P l w ⟨d, .extract x i, t, p, af, g⟩ v w := fun ρ hρ => by
  simp [execOp, hρ _ _ hx, Instr.extract, h]
theorem X.nilc {a : Addr} (hx : ev l x = some (.pointer (some a))) : Ex P l w ⟨d, .nilCheck x, t, p, af, g⟩ (.pointer (some a)) w := fun ρ hρ => by
  simp [execOp, hρ _ _ hx]
theorem addr_add (b o k : Nat) : (⟨b, o, none⟩ : Addr).add k = ⟨b, o + k, none⟩ := by unfold Addr.add; split <;> simp_all
theorem X.fa {S : TypeId} {f b o k r : Nat} (hf : fieldOff P S f = some k) (hx : ev l x = some (.pointer (some ⟨b, o, none⟩))) (hr : o + k = r) :
    Ex P l w ⟨d, .fieldAddr S x f, t, p, af, g⟩ (.pointer (some ⟨b, r, none⟩)) w := fun ρ hρ => by
  unfold fieldOff at hf
  split at hf <;> try cases hf
  split at hf <;> try cases hf
  split at hf <;> try cases hf
  rename_i fs h1 _ fd h2 _ i h3
  split at hf <;> cases hf
  rename_i h4
  simp [execOp, hρ _ _ hx, Instr.fieldAt, underlying, h1, h2, Instr.sureAddr, fieldPlace, sizeOf, typeInfo, h3, h4, addr_add, hr]
theorem evs_map {xs : List Operand} {vs : List Value} (h : evs l xs = some vs) {ρ : Operand → Value} (hρ : Ag l ρ) : xs.map ρ = vs := by
  induction xs generalizing vs with
  | nil => simp [evs] at h; simp [h]
  | cons x xs ih =>
    simp only [evs] at h
    split at h <;> simp at h
    rename_i u us hu hus
    subst h
    simp [hρ _ _ hu, ih hus]
theorem X.mkf {fn : Fn} {fs cs : List Operand} {us vs : List Value} (hf : evs l fs = some us) (hc : evs l cs = some vs) :
    Ex P l w ⟨d, .makeFunc fn fs.toArray cs.toArray, t, p, af, g⟩ (.func fn us.toArray vs.toArray) w := fun ρ hρ => by
  simp [execOp, Instr.makeFunc, evs_map hf hρ, evs_map hc hρ]
theorem X.ld1 {T : TypeId} {a : Addr} (hT : isA P T = some false) (ha : ev l x = some (.pointer (some a))) (hc : w.cell? a = some v) : Ex P l w ⟨d, .load T x, t, p, af, g⟩ v w := fun ρ hρ => by
  simp [execOp, hρ _ _ ha, Instr.loadAt, Instr.sureAddr, run_loadVar1 hT hc]
theorem X.ldA {T : TypeId} {a : Addr} {cs : List Value} (hT : isA P T = some true) (hs : szT P T = some cs.length) (ha : ev l x = some (.pointer (some a))) (hc : ∀ j v, cs[j]? = some v → w.cell? (a.add j) = some v) :
    Ex P l w ⟨d, .load T x, t, p, af, g⟩ (.agg cs.toArray) w := fun ρ hρ => by
  simp [execOp, hρ _ _ ha, Instr.loadAt, Instr.sureAddr, run_loadVarA hT hs hc]
theorem X.st {T : TypeId} {b o : Nat} {vs : List Value} {cur : Array Value} {e : TypeId} (hs : szT P T = some vs.length) (ha : ev l x = some (.pointer (some ⟨b, o, none⟩))) (hv : ev l y = some v)
    (hvs : v.cells = vs.toArray) (h1 : ∀ v ∈ vs, v.oneCell' = true) (hg : w.heap[b]? = some (.cells cur e (0, 0))) (hle : o + vs.length ≤ cur.size) :
    ExS P l w ⟨d, .store T x y, t, p, af, g⟩ (w.setRow b (cur.toList.take o ++ vs ++ cur.toList.drop (o + vs.length)).toArray) := fun ρ hρ => by
  have := run_storeCells_at (P := P) b o e vs 0 cur w hg (by simpa using hle) h1
  simp only [Nat.add_zero] at this
  simp [execOp, hρ _ _ ha, hρ _ _ hv, Instr.storeAt, Instr.sureAddr, storeVar, run_szT hs, hvs, this]
theorem X.al {T : TypeId} {z : Array Value} (hz : zeroT P T = some z) : Ex P l w ⟨d, .alloc T, t, p, af, g⟩ (.pointer (some ⟨w.heap.size, 0, none⟩)) (w.alloc (.cells z T)) := fun ρ hρ => by
  obtain ⟨v, hv, hc⟩ := run_zeroT (w := w) hz
  simp [execOp, Instr.alloc, hv, newVar, newRow, hc]
theorem X.bx {T : TypeId} {cs : Array Value} (hx : ev l x = some v) (hc : v.cells = cs) : Ex P l w ⟨d, .box T x, t, p, af, g⟩ (.pointer (some ⟨w.heap.size, 0, none⟩)) (w.alloc (.cells cs T)) := fun ρ hρ => by
  simp [execOp, Instr.box, hρ _ _ hx, newVar, newRow, hc]
def evp (l : Env) : List (Nat × Operand) → Option (List (Nat × Value))
  | [] => some []
  | (i, x) :: xs => match ev l x, evp l xs with
    | some v, some vs => some ((i, v) :: vs)
    | _, _ => none
theorem evp_map {xs : List (Nat × Operand)} {vs : List (Nat × Value)} (h : evp l xs = some vs) {ρ : Operand → Value} (hρ : Ag l ρ) : xs.map (fun q => (q.1, ρ q.2)) = vs := by
  induction xs generalizing vs with
  | nil => simp [evp] at h; simp [h]
  | cons x xs ih =>
    obtain ⟨i, x⟩ := x
    simp only [evp] at h
    split at h <;> simp at h
    rename_i u us hu hus
    subst h
    simp only [List.map_cons, hρ _ _ hu, ih hus]
theorem X.bld {T : TypeId} {ps : List (Nat × Operand)} {vs : List (Nat × Value)} (hp : evp l ps = some vs) (h : (Instr.build T vs.toArray).run P w = .ok v w) :
    Ex P l w ⟨d, .build T ps.toArray, t, p, af, g⟩ v w := fun ρ hρ => by
  have h2 : (ps.toArray.map fun q => (q.1, ρ q.2)) = vs.toArray := by
    rw [List.map_toArray]; exact congrArg List.toArray (evp_map hp hρ)
  have : ((do pure (Next.value (← Instr.build T (ps.toArray.map fun q => (q.1, ρ q.2))))) : Sem Next).run P w = .ok (.value v) w := by
    rw [h2]; simp [h]
  exact this
theorem X.bsl {T e : TypeId} {m : Nat} {ps : List (Nat × Operand)} {vs : List (Nat × Value)} {cs : Array Value} (hp : evp l ps = some vs)
    (h : (Instr.buildSlice T m vs.toArray).run P w = .ok (.slice (some ⟨w.heap.size, 0, none⟩) m m) (w.alloc (.cells cs e))) :
    Ex P l w ⟨d, .buildSlice T m ps.toArray, t, p, af, g⟩ (.slice (some ⟨w.heap.size, 0, none⟩) m m) (w.alloc (.cells cs e)) := fun ρ hρ => by
  have h2 : (ps.toArray.map fun q => (q.1, ρ q.2)) = vs.toArray := by
    rw [List.map_toArray]; exact congrArg List.toArray (evp_map hp hρ)
  have : ((do pure (Next.value (← Instr.buildSlice T m (ps.toArray.map fun q => (q.1, ρ q.2))))) : Sem Next).run P w = .ok (.value (.slice (some ⟨w.heap.size, 0, none⟩) m m)) (w.alloc (.cells cs e)) := by
    rw [h2]; simp [h]
  exact this
theorem X.blt {b : Builtin} {xs : List Operand} {ts : Array TypeId} {vs : List Value} (hx : evs l xs = some vs)
    (h : ∀ cs, (builtin b ts t cs vs.toArray).run P w = .ok (.value v) w') : Ex P l w ⟨d, .call ⟨.builtin b, xs.toArray, ts⟩, t, p, af, g⟩ v w' := fun ρ hρ => by
  simp only [execOp, resolve, List.map_toArray, evs_map hx hρ, Sem.run_bind, Sem.run_pure, Result.andThen_ok, invoke, h]
theorem X.len {T e : TypeId} {A : Option Addr} {m c : Nat} (hT : sliceT P T = some e) (hx : ev l x = some (.slice A m c)) :
    Ex P l w ⟨d, .call ⟨.builtin .len, #[x], #[T]⟩, t, p, af, g⟩ (.int .i64 m) w :=
  X.blt (xs := [x]) (vs := [.slice A m c]) (by simp [evs, hx]) (fun cs => by simp [builtin, Builtin.len_, underlying, sliceT_eq hT, goInt])
theorem X.min2 {k : IntKind} {a b : Int} {ts : Array TypeId} (hx : ev l x = some (.int k a)) (hy : ev l y = some (.int k b)) (h : (builtin .min ts t #[] #[.int k a, .int k b]).run P w = .ok (.value v) w)
    (hc : ∀ cs, (builtin .min ts t cs #[.int k a, .int k b]) = builtin .min ts t #[] #[.int k a, .int k b]) :
    Ex P l w ⟨d, .call ⟨.builtin .min, #[x, y], ts⟩, t, p, af, g⟩ v w :=
  X.blt (xs := [x, y]) (vs := [.int k a, .int k b]) (by simp [evs, hx, hy]) (fun cs => by rw [hc]; exact h)
theorem X.idxS {T e : TypeId} {b o m c sz : Nat} {i : Int} {k : IntKind} {j r : Nat} (hT : sliceT P T = some e) (hs : szT P e = some sz) (hx : ev l x = some (.slice (some ⟨b, o, none⟩) m c)) (hi : ev l y = some (.int k i))
    (hj : i = (j : Int)) (hlt : j < m) (hr : o + j * sz = r) : Ex P l w ⟨d, .indexAddr T x y, t, p, af, g⟩ (.pointer (some ⟨b, r, none⟩)) w := fun ρ hρ => by
  subst hj
  simp [execOp, hρ _ _ hx, hρ _ _ hi, Instr.indexAt, asIntOf, underlying, sliceT_eq hT, hlt, run_szT hs, addr_add, hr]
theorem X.idxA {T e : TypeId} {a : Addr} {m sz : Nat} {i : Int} {k : IntKind} {j : Nat} (hT : arrT P T = some (m, e)) (hs : szT P e = some sz) (hx : ev l x = some (.pointer (some a))) (hi : ev l y = some (.int k i))
    (hj : i = (j : Int)) (hlt : j < m) : Ex P l w ⟨d, .indexAddr T x y, t, p, af, g⟩ (.pointer (some (a.add (j * sz)))) w := fun ρ hρ => by
  subst hj
  simp [execOp, hρ _ _ hx, hρ _ _ hi, Instr.indexAt, asIntOf, underlying, arrT_eq hT, hlt, run_szT hs, Instr.sureAddr]
theorem X.slc {T e : TypeId} {b o m c sz lo hi : Nat} {i j : Int} {r : Value} (hT : sliceT P T = some e) (hs : szT P e = some sz) (hx : ev l x = some (.slice (some ⟨b, o, none⟩) m c)) (hy : ev l y = some (.int .i64 i)) (hz : ev l z = some (.int .i64 j))
    (h1 : i = (lo : Int)) (h2 : j = (hi : Int)) (h3 : lo ≤ hi) (h4 : hi ≤ c) (h5 : lo < c) (hr : .slice (some ⟨b, o + lo * sz, none⟩) (hi - lo) (c - lo) = r) :
    Ex P l w ⟨d, .slice T x (some y) (some z) none, t, p, af, g⟩ r w := fun ρ hρ => by
  subst h1 h2 hr
  have : ¬ c = lo := by omega
  simp [execOp, hρ _ _ hx, hρ _ _ hy, hρ _ _ hz, Instr.sliceAt, underlying, sliceT_eq hT, Instr.slice, Instr.sliceBounds, Instr.sliceBound, asIntOf, h3, h4, run_szT hs, addr_add, this]
end
end Go.Proofs.YtmmmbkmjkpfleaaGreat
