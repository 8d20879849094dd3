/- Plain functions: spaces, heads, classes. No statement of the seat is proved here; conditions: none. -/
import Derived.Test.YtmmmbkmjkpfleaaGreatResB
namespace Go.Proofs.YtmmmbkmjkpfleaaGreat
open Go Go.RowKit

theorem bool_val {a b : Bool} (h : a = true ↔ b = true) : Value.bool a = .bool b := by rw [Bool.eq_iff_iff.2 h]
theorem int_val {k : IntKind} {a b : Int} (h : a = b) : Value.int k a = .int k b := by rw [h]

structure Spc where
  from_ : Int
  top : Int
  end_ : Int
  deriving DecidableEq, Repr
instance : Inhabited Spc := ⟨⟨0, 0, 0⟩⟩
def encS (s : Spc) : List Value := [.int .i64 s.from_, .int .i64 s.top, .int .i64 s.end_]
theorem encS_len (s : Spc) : (encS s).length = 3 := rfl
theorem encS_one (s : Spc) : (encS s).all (·.oneCell') = true := rfl
def spR (s : Spc) : Bool := decide (0 ≤ s.from_ ∧ s.from_ ≤ s.top ∧ s.top ≤ s.end_ ∧ s.end_ ≤ 4096)
theorem spR_iff (s : Spc) : spR s = true ↔ 0 ≤ s.from_ ∧ s.from_ ≤ s.top ∧ s.top ≤ s.end_ ∧ s.end_ ≤ 4096 := by simp [spR]
theorem spR_t {s : Spc} (h : spR s = true) : 0 ≤ s.from_ ∧ s.from_ ≤ s.top ∧ s.top ≤ s.end_ ∧ s.end_ ≤ 4096 := (spR_iff s).1 h
theorem spR_f {s : Spc} (h : ¬ spR s = true) : ¬ (0 ≤ s.from_ ∧ s.from_ ≤ s.top ∧ s.top ≤ s.end_ ∧ s.end_ ≤ 4096) := fun k => h ((spR_iff s).2 k)
def spUsed (s : Spc) : Int := if spR s = true then s.top - s.from_ else 0
def spRoom (s : Spc) : Int := if spR s = true then s.end_ - s.top else 0
def spEmpty (s : Spc) : Spc := if spR s = true then ⟨s.from_, s.from_, s.end_⟩ else ⟨0, 0, 0⟩

structure Hd where
  cls : Int
  age : Int
  fwd : Int
  mark : Bool
  final : Bool
  done : Bool
  deriving DecidableEq, Repr
instance : Inhabited Hd := ⟨⟨0, 0, 0, false, false, false⟩⟩
def encH (h : Hd) : List Value := [.int .i64 h.cls, .int .i64 h.age, .int .i64 h.fwd, .bool h.mark, .bool h.final, .bool h.done]
def hdR (h : Hd) : Bool := decide (0 ≤ h.cls ∧ h.cls < 64 ∧ 0 ≤ h.age ∧ h.age < 8 ∧ 0 ≤ h.fwd ∧ h.fwd < 4096 ∧ ¬ (h.final = true ∧ h.done = true))
theorem hdR_iff (h : Hd) : hdR h = true ↔ (0 ≤ h.cls ∧ h.cls < 64 ∧ 0 ≤ h.age ∧ h.age < 8 ∧ 0 ≤ h.fwd ∧ h.fwd < 4096 ∧ ¬ (h.final = true ∧ h.done = true)) := by unfold hdR; exact decide_eq_true_iff
theorem hdR_t {h : Hd} (k : hdR h = true) : 0 ≤ h.cls ∧ h.cls < 64 ∧ 0 ≤ h.age ∧ h.age < 8 ∧ 0 ≤ h.fwd ∧ h.fwd < 4096 ∧ ¬ (h.final = true ∧ h.done = true) := (hdR_iff h).1 k
theorem hdR_f {h : Hd} (k : ¬ hdR h = true) : ¬ (0 ≤ h.cls ∧ h.cls < 64 ∧ 0 ≤ h.age ∧ h.age < 8 ∧ 0 ≤ h.fwd ∧ h.fwd < 4096 ∧ ¬ (h.final = true ∧ h.done = true)) := fun q => k ((hdR_iff h).2 q)
def b2i (b : Bool) : Int := if b then 1 else 0
/-- A head's word. -/
def hdW (h : Hd) : Int := h.cls + 64 * h.age + 1024 * b2i h.mark + 2048 * b2i h.final + 4096 * b2i h.done + 8192 * h.fwd
/-- The head that a word tells, whether it can be or not. -/
def hdOf (x : Int) : Hd := ⟨x % 64, x / 64 % 16, x / 8192, decide (x / 1024 % 2 = 1), decide (x / 2048 % 2 = 1), decide (x / 4096 % 2 = 1)⟩

theorem b2i_01 (b : Bool) : 0 ≤ b2i b ∧ b2i b ≤ 1 := by cases b <;> simp [b2i]
/-- The error of a shape, 0 if there is none. -/
def shapeE (cs : List Cls) (n m : Int) : Int :=
  if ¬ (1 ≤ n ∧ n ≤ cs.length) then 4 else if m < 0 ∨ 0 < m ∧ (cget cs n).kind ≠ 2 then 1 else if 30 < m then 8 else 0
theorem shapeE_zero {cs : List Cls} {n m : Int} (h : shapeE cs n m = 0) : 1 ≤ n ∧ n ≤ cs.length ∧ 0 ≤ m ∧ m ≤ 30 ∧ ¬ (0 < m ∧ (cget cs n).kind ≠ 2) := by
  unfold shapeE at h
  split at h
  · omega
  split at h
  · omega
  split at h
  · omega
  · omega
theorem shape_bd {w : World} {t c : Nat} {cs : List Cls} {n m : Int} (hT : (tableR t c cs).ok w) (h : shapeE cs n m = 0) : 0 ≤ (cget cs n).refs ∧ 0 ≤ (cget cs n).data ∧ 0 ≤ m ∧ (cget cs n).refs + m + (cget cs n).data ≤ 30 ∧ 1 ≤ n ∧ n ≤ cs.length := by
  have h1 := shapeE_zero h
  have h2 := table_bd hT (n := n) ⟨h1.1, h1.2.1⟩
  have h3 := clsR_bd h2
  rcases (clsR_iff _).1 h2 with h | h | h <;> omega
theorem mem_getD {α : Type} [Inhabited α] {l : List α} {j : Nat} (h : j < l.length) : l.getD j default ∈ l := List.mem_of_getElem? (get_some h)
theorem any_take_succ {α : Type} [Inhabited α] {l : List α} {p : α → Bool} {i : Nat} (h : i < l.length) : (l.take (i + 1)).any p = ((l.take i).any p || p (l.getD i default)) := by
  rw [List.take_succ_eq_append_getElem h, List.any_append]
  have := get_some h
  rw [List.getElem?_eq_getElem h] at this
  simp only [Option.some.injEq] at this
  rw [this]; simp only [List.any_cons, List.any_nil, Bool.or_false]
theorem any_of_getD {α : Type} [Inhabited α] {l : List α} {p : α → Bool} {i : Nat} (h : i < l.length) (hp : p (l.getD i default) = true) : l.any p = true := List.any_eq_true.2 ⟨_, mem_getD h, hp⟩
theorem all_any {cs : List Cls} (h : cs.all clsR = true) : cs.any (fun c => !clsR c) = false := by
  rw [List.any_eq_false]; rw [List.all_eq_true] at h
  intro x hx; simp [h x hx]
theorem any_all {cs : List Cls} (h : ¬ cs.any (fun c => !clsR c) = true) : cs.all clsR = true := by
  rw [List.all_eq_true]
  intro x hx
  refine Classical.byContradiction fun hc => h (List.any_eq_true.2 ⟨x, hx, by simpa using hc⟩)
theorem table_new {w0 w : World} {Rs : List Res} {t : Nat} {v : Value} {T e : TypeId} {cs : List Cls} (hp : Hp w0 [] Rs w) (i j : Nat) (hi : Rs[i]? = some (blkR t (.cells #[v] T (0, 0)))) (hj : Rs[j]? = some (ownR e clsV 4 v cs)) (hij : i ≠ j) (hne : cs ≠ []) (hl : cs.length < 64) (ha : cs.all clsR = true) :
    ∃ c, blkOf v = c ∧ New w0 w (tableR t c cs) := by
  have h1 := hp.newAt i hi
  have h2 := hp.newAt j hj
  refine ⟨_, rfl, ?_⟩
  rcases h2.1.1.2 with ⟨_, h0⟩ | ⟨g, cap, cur, rfl, _, hh, hn, hm, hs, ht⟩
  · exact absurd (List.eq_nil_of_length_eq_zero h0) hne
  · have hne : t ≠ g := fun e => foot_dis hp hi hj hij t (by simp [blkR]) (by simp [ownR, footV, e])
    refine ⟨⟨⟨T, cap, h1.1⟩, ⟨e, cur, hh, fun k u hu => ?_⟩, hne, by omega, fun x hx => List.all_eq_true.1 ha x hx⟩, ?_, by simp [tableR, blkOf, hne]⟩
    · have hk : k < cs.length * 4 := by rw [← h2.1.1.1]; exact (List.getElem?_eq_some_iff.1 hu).1
      rw [← ht, List.getElem?_take_of_lt hk] at hu
      simpa using hu
    · intro k hk
      simp [tableR, blkOf] at hk
      rcases hk with rfl | rfl
      · exact h1.2.1 k (by simp [blkR])
      · exact h2.2.1 k (by simp [ownR, footV])

/-! ## Bits -/
section
variable {P : Program} {w : World} {T : TypeId}
theorem toNat_ofInt64 (x : Int) : ((BitVec.ofInt 64 x).toNat : Int) = x % 18446744073709551616 := by
  rw [BitVec.toNat_ofInt]
  have : (0 : Int) ≤ x % ((2 ^ 64 : Nat) : Int) := Int.emod_nonneg _ (by decide)
  rw [Int.toNat_of_nonneg this]; rfl
theorem and_mask (x : Int) (k : Nat) (hk : k ≤ 62) : IntKind.i64.wrap ((BitVec.ofInt 64 x &&& BitVec.ofInt 64 (2 ^ k - 1)).toNat : Int) = x % 2 ^ k := by
  have h1 : (BitVec.ofInt 64 (2 ^ k - 1)).toNat = 2 ^ k - 1 := by
    have hlt : (2 : Nat) ^ k < 2 ^ 64 := Nat.pow_lt_pow_right (by decide) (by omega)
    have hpos : (1 : Nat) ≤ 2 ^ k := Nat.one_le_two_pow
    have : ((2 : Int) ^ k - 1) = ((2 ^ k - 1 : Nat) : Int) := by rw [Int.natCast_sub hpos]; simp
    rw [this, BitVec.ofInt_natCast, BitVec.toNat_ofNat, Nat.mod_eq_of_lt (by omega)]
  rw [BitVec.toNat_and, h1, Nat.and_two_pow_sub_one_eq_mod]
  have h2 : (((BitVec.ofInt 64 x).toNat % 2 ^ k : Nat) : Int) = x % 2 ^ k := by
    rw [Int.natCast_emod, toNat_ofInt64]
    have : ((2 : Int) ^ k) ∣ 18446744073709551616 := by
      refine ⟨2 ^ (64 - k), ?_⟩
      rw [← Int.pow_add, show k + (64 - k) = 64 from by omega]; rfl
    simp only [Int.natCast_pow]
    exact Int.emod_emod_of_dvd x this
  rw [h2]
  have hp : (0 : Int) < 2 ^ k := Int.pow_pos (by decide)
  have hle : (2 : Int) ^ k ≤ 2 ^ 62 := by
    have := Int.ofNat_le.2 (Nat.pow_le_pow_right (n := 2) (by decide) hk)
    simpa using this
  have a1 := Int.emod_nonneg x (Int.ne_of_gt hp)
  have a2 := Int.emod_lt_of_pos x hp
  have hv : (2 : Int) ^ 62 = 4611686018427387904 := rfl
  exact wrap_in64 (by unfold In64; omega)
theorem run_and (x y r : Int) (k : Nat) (hk : k ≤ 62) (hy : y = 2 ^ k - 1) (hr : x % 2 ^ k = r) : (binOp .and T (.int .i64 x) (.int .i64 y)).run P w = .ok (.int .i64 r) w := by
  subst hy hr
  have := and_mask x k hk
  simp only [binOp, Op.intBits]
  show (pure (Value.int .i64 (IntKind.i64.wrap ((BitVec.ofInt 64 x &&& BitVec.ofInt 64 (2 ^ k - 1)).toNat : Int))) : Sem Value).run P w = _
  rw [this]; rfl
theorem run_shr (x n r : Int) (k : Nat) {j : IntKind} (hn : n = (k : Int)) (hk : k ≤ 62) (hr : x / 2 ^ k = r) : (binOp .shr T (.int .i64 x) (.int j n)).run P w = .ok (.int .i64 r) w := by
  subst hn hr
  have h0 : ¬ ((k : Int) < 0) := by omega
  have hm : min ((k : Int).toNat) 64 = k := by simp; omega
  simp only [binOp, Op.shift, if_neg h0]
  show (pure (Value.int .i64 (x.fdiv (2 ^ (min ((k : Int).toNat) 64)))) : Sem Value).run P w = _
  rw [hm, Int.fdiv_eq_ediv_of_nonneg _ (Int.le_of_lt (Int.pow_pos (by decide)))]; rfl
theorem run_shl (x n r : Int) (k : Nat) {j : IntKind} (hn : n = (k : Int)) (hk : k ≤ 62) (hr : x * 2 ^ k = r) (hb : In64 r) : (binOp .shl T (.int .i64 x) (.int j n)).run P w = .ok (.int .i64 r) w := by
  subst hn hr
  have h0 : ¬ ((k : Int) < 0) := by omega
  have hm : min ((k : Int).toNat) 64 = k := by simp; omega
  simp only [binOp, Op.shift, if_neg h0]
  show (pure (Value.int .i64 (IntKind.i64.wrap (x * 2 ^ (min ((k : Int).toNat) 64)))) : Sem Value).run P w = _
  rw [hm, wrap_in64 hb]; rfl
/-- 'x | y' where x lies below 2^k, and y is a multiple of it. -/
theorem run_or (x y : Int) (k : Nat) (m : Nat) (hx : 0 ≤ x ∧ x < 2 ^ k) (hy : y = 2 ^ k * (m : Int)) (hb : x + y < 4611686018427387904) : (binOp .or T (.int .i64 x) (.int .i64 y)).run P w = .ok (.int .i64 (x + y)) w := by
  obtain ⟨a, rfl⟩ := Int.eq_ofNat_of_zero_le hx.1
  have hyn : y = ((2 ^ k * m : Nat) : Int) := by rw [hy]; simp
  have ha : a < 2 ^ k := by
    have h2 := hx.2
    have : ((2 : Int) ^ k) = ((2 ^ k : Nat) : Int) := by simp
    rw [this] at h2; exact Int.ofNat_lt.1 h2
  generalize hq : 2 ^ k * m = q at hyn
  subst hyn
  have hqa : a + q < 4611686018427387904 := by omega
  have h1 : (BitVec.ofInt 64 (a : Int) ||| BitVec.ofInt 64 (q : Int)).toNat = a + q := by
    rw [BitVec.toNat_or, BitVec.ofInt_natCast, BitVec.ofInt_natCast, BitVec.toNat_ofNat, BitVec.toNat_ofNat, Nat.mod_eq_of_lt (by omega), Nat.mod_eq_of_lt (by omega), Nat.or_comm, ← hq, ← Nat.two_pow_add_eq_or_of_lt ha]
    omega
  simp only [binOp, Op.intBits]
  show (pure (Value.int .i64 (IntKind.i64.wrap ((BitVec.ofInt 64 (a : Int) ||| BitVec.ofInt 64 (q : Int)).toNat : Int))) : Sem Value).run P w = _
  rw [h1, wrap_in64 (by unfold In64; omega)]
  rfl
end
end Go.Proofs.YtmmmbkmjkpfleaaGreat
