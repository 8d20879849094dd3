/- Resources: the arena, the class table. No statement of the seat is proved here; conditions: none. -/
import Derived.Test.YtmmmbkmjkpfleaaGreatTypes
namespace Go.Proofs.YtmmmbkmjkpfleaaGreat
open Go Go.RowKit

def gi (ws : List Int) (a : Int) : Int := ws.getD a.toNat 0
def intsA (ws : List Int) : Array Value := (ws.map (Value.int .i64)).toArray
theorem intsA_size (ws : List Int) : (intsA ws).size = ws.length := by simp [intsA]
theorem intsA_get (ws : List Int) (j : Nat) (h : j < ws.length) : (intsA ws)[j]? = some (.int .i64 (ws.getD j 0)) := by
  simp [intsA, List.getD_eq_getElem?_getD, List.getElem?_eq_getElem h]
theorem intsA_set (ws : List Int) (j : Nat) (x : Int) (h : j < ws.length) : ((intsA ws).toList.take j ++ [Value.int .i64 x] ++ (intsA ws).toList.drop (j + 1)).toArray = intsA (ws.set j x) := by
  simp only [intsA]
  congr 1
  rw [List.set_eq_take_append_cons_drop, if_pos h]
  simp
theorem slice_eq {b o o' n n' c c' : Nat} (h1 : o = o') (h2 : n = n') (h3 : c = c') : Value.slice (some ⟨b, o, none⟩) n c = .slice (some ⟨b, o', none⟩) n' c' := by rw [h1, h2, h3]

def arenaR (p b : Nat) (ws : List Int) : Res where
  foot := [p, b]
  ok := fun w => (∃ T, w.heap[p]? = some (.cells #[.slice (some ⟨b, 0, none⟩) ws.length ws.length] T (0, 0))) ∧ (∃ T, w.heap[b]? = some (.cells (intsA ws) T (0, 0))) ∧ p ≠ b ∧ ws.length ≤ 4096
  st := fun w w' h hw => by
    rw [h p (by simp), h b (by simp)]; exact hw
  lt := fun w hw k hk => by
    obtain ⟨⟨T, h1⟩, ⟨T', h2⟩, _⟩ := hw
    simp at hk
    rcases hk with rfl | rfl
    · exact (Array.getElem?_eq_some_iff.1 h1).1
    · exact (Array.getElem?_eq_some_iff.1 h2).1
section
variable {w0 w w' : World} {F : List Nat} {Rs : List Res} {p b : Nat} {ws ws' : List Int}
theorem arena_head (h : (arenaR p b ws).ok w) : w.cell? ⟨p, 0, none⟩ = some (.slice (some ⟨b, 0, none⟩) ws.length ws.length) := by
  obtain ⟨⟨T, h1⟩, _⟩ := h
  rw [cell_of_row w p 0 _ _ _ h1]; rfl
theorem arena_small (h : (arenaR p b ws).ok w) : ws.length ≤ 4096 := h.2.2.2
theorem arena_nd (h : (arenaR p b ws).ok w) : (arenaR p b ws).foot.Nodup := by simp [arenaR, h.2.2.1]
theorem arena_cell {o j : Nat} (h : (arenaR p b ws).ok w) (hj : j < ws.length) (ho : o = j) : w.cell? ⟨b, o, none⟩ = some (.int .i64 (ws.getD j 0)) := by
  subst ho
  obtain ⟨_, ⟨T, h2⟩, _⟩ := h
  rw [cell_of_row w b o _ _ _ h2]; exact intsA_get ws o hj
theorem Hp.arena (h : Hp w0 F Rs w) (i : Nat) (hi : Rs[i]? = some (arenaR p b ws)) (hc : Chg [p, b] w w') (hR : (arenaR p b ws').ok w') : Hp w0 F (Rs.set i (arenaR p b ws')) w' :=
  h.upd i hi hc (by simp [arenaR]) hR (by simp [arenaR]) (arena_nd hR)
theorem WL.stArena {P : Program} {n : Nat} {L : List Oper} {Q : Exit → Act → World → Prop} {rest : List Oper} {l : Env} {t : TypeId} {pp : String} {af : Array Edge} {x y : Operand} {T : TypeId} {o j : Nat} {v : Int}
    (hp : Hp w0 F Rs w) (i : Nat) (hi : Rs[i]? = some (arenaR p b ws)) (hs : szT P T = some 1) (ha : ev l x = some (.pointer (some ⟨b, o, none⟩))) (hv : ev l y = some (.int .i64 v)) (hj : j < ws.length) (ho : o = j)
    (k : ∀ w', Hp w0 F (Rs.set i (arenaR p b (ws.set j v))) w' → WL P n L Q rest l w') : WL P n L Q (⟨none, .store T x y, t, pp, af, none⟩ :: rest) l w := by
  subst ho
  obtain ⟨⟨T1, h1⟩, ⟨T2, h2⟩, hne, hs4⟩ := hp.at i hi
  have hw := X.st (P := P) (d := none) (t := t) (p := pp) (af := af) (g := none) (vs := [.int .i64 v]) hs ha hv rfl (by simp [Value.oneCell']) h2 (by rw [intsA_size]; exact hj)
  rw [show [Value.int .i64 v].length = 1 from rfl, intsA_set ws o v hj] at hw
  refine WL.stp rfl rfl hw (k _ (hp.arena i hi ((chg_setRow w b _).mono (by simp)) ⟨⟨T1, ?_⟩, ⟨T2, ?_⟩, hne, by simpa using hs4⟩))
  · have : b ≠ p := fun e => hne e.symm
    simp [World.setRow, Array.getElem?_modify, this, h1]
  · simp [World.setRow, Array.getElem?_modify, h2]
end

/-- The words with k of them, from a on, made x. -/
def fillW (ws : List Int) (a k : Nat) (x : Int) : List Int := ws.mapIdx fun i y => if a ≤ i ∧ i < a + k then x else y
theorem fillW_length (ws : List Int) (a k : Nat) (x : Int) : (fillW ws a k x).length = ws.length := by simp [fillW]
theorem fillW_zero (ws : List Int) (a : Nat) (x : Int) : fillW ws a 0 x = ws := by
  apply List.ext_getElem (by simp [fillW])
  intro i h1 h2
  simp only [fillW, List.getElem_mapIdx]
  rw [if_neg (by omega)]
theorem fillW_succ (ws : List Int) (a k : Nat) (x : Int) : (fillW ws a k x).set (a + k) x = fillW ws a (k + 1) x := by
  apply List.ext_getElem (by simp [fillW])
  intro i h1 h2
  simp only [fillW, List.getElem_set, List.getElem_mapIdx]
  by_cases h : a + k = i
  · rw [if_pos h, if_pos (by omega)]
  · rw [if_neg h]
    by_cases h3 : a ≤ i ∧ i < a + k
    · rw [if_pos h3, if_pos (by omega)]
    · rw [if_neg h3, if_neg (by omega)]
theorem fillW_one (ws : List Int) (a : Nat) (x : Int) : fillW ws a 1 x = ws.set a x := by
  rw [← fillW_succ ws a 0 x, fillW_zero]; rfl

/-- A class. -/
structure Cls where
  kind : Int
  refs : Int
  data : Int
  final : Bool
  deriving DecidableEq, Repr
instance : Inhabited Cls := ⟨⟨0, 0, 0, false⟩⟩
def clsV (c : Cls) : List Value := [.int .i64 c.kind, .int .i64 c.refs, .int .i64 c.data, .bool c.final]
def clsSmall (c : Cls) : Bool := decide (0 ≤ c.refs ∧ 0 ≤ c.data ∧ c.refs ≤ 30 ∧ c.data ≤ 30 - c.refs)
theorem clsSmall_iff (c : Cls) : clsSmall c = true ↔ 0 ≤ c.refs ∧ 0 ≤ c.data ∧ c.refs ≤ 30 ∧ c.data ≤ 30 - c.refs := by simp [clsSmall]
theorem clsSmall_t {c : Cls} (h : clsSmall c = true) : 0 ≤ c.refs ∧ 0 ≤ c.data ∧ c.refs ≤ 30 ∧ c.data ≤ 30 - c.refs := (clsSmall_iff c).1 h
theorem clsSmall_f {c : Cls} (h : ¬ clsSmall c = true) : ¬ (0 ≤ c.refs ∧ 0 ≤ c.data ∧ c.refs ≤ 30 ∧ c.data ≤ 30 - c.refs) := fun q => h ((clsSmall_iff c).2 q)
/-- Can a class be? -/
def clsR (c : Cls) : Bool := decide (c.kind = 1 ∧ clsSmall c = true ∨ c.kind = 2 ∧ c.refs = 0 ∧ c.data = 0 ∨ (c.kind = 3 ∨ c.kind = 4 ∨ c.kind = 5) ∧ clsSmall c = true ∧ 1 ≤ c.refs ∧ 2 ≤ c.data ∧ c.final = false)
theorem clsR_iff (c : Cls) : clsR c = true ↔ (c.kind = 1 ∧ clsSmall c = true ∨ c.kind = 2 ∧ c.refs = 0 ∧ c.data = 0 ∨ (c.kind = 3 ∨ c.kind = 4 ∨ c.kind = 5) ∧ clsSmall c = true ∧ 1 ≤ c.refs ∧ 2 ≤ c.data ∧ c.final = false) := by unfold clsR; exact decide_eq_true_iff
theorem clsV_len (s : Cls) : (clsV s).length = 4 := rfl
theorem clsV_one (s : Cls) : (clsV s).all (·.oneCell') = true := rfl
theorem flat_get {α : Type} (f : α → List Value) (m : Nat) (hf : ∀ a, (f a).length = m) : ∀ (cs : List α) (i j : Nat) (c : α), cs[i]? = some c → j < m → (cs.flatMap f)[i * m + j]? = (f c)[j]?
  | [], i, j, c, h, _ => by simp at h
  | d :: cs, 0, j, c, h, hj => by
    simp at h; subst h
    rw [List.flatMap_cons, Nat.zero_mul, Nat.zero_add, List.getElem?_append_left (by rw [hf]; exact hj)]
  | d :: cs, i + 1, j, c, h, hj => by
    simp at h
    rw [List.flatMap_cons, List.getElem?_append_right (by rw [hf, Nat.succ_mul]; omega), hf, show (i + 1) * m + j - m = i * m + j from by rw [Nat.succ_mul]; omega]
    exact flat_get f m hf cs i j c h hj
/-- A block whose first cells are these. -/
def rowOk (w : World) (b : Nat) (vs : List Value) : Prop := ∃ T arr, w.heap[b]? = some (.cells arr T (0, 0)) ∧ ∀ (k : Nat) (v : Value), vs[k]? = some v → arr[k]? = some v
theorem rowOk.cell {w : World} {b : Nat} {vs : List Value} (h : rowOk w b vs) {k : Nat} {v : Value} (hk : vs[k]? = some v) : w.cell? ⟨b, k, none⟩ = some v := by
  obtain ⟨T, arr, h1, h2⟩ := h
  rw [cell_of_row w b k _ _ _ h1]; exact h2 k v hk
theorem rowOk.lt {w : World} {b : Nat} {vs : List Value} (h : rowOk w b vs) : b < w.heap.size := by
  obtain ⟨T, arr, h1, _⟩ := h
  exact (Array.getElem?_eq_some_iff.1 h1).1
def tableR (t c : Nat) (cs : List Cls) : Res where
  foot := [t, c]
  ok := fun w => (∃ T cap, w.heap[t]? = some (.cells #[.slice (some ⟨c, 0, none⟩) cs.length cap] T (0, 0))) ∧ rowOk w c (cs.flatMap clsV) ∧ t ≠ c ∧ cs.length ≤ 63 ∧ ∀ x ∈ cs, clsR x = true
  st := fun w w' h hw => by
    unfold rowOk at hw ⊢
    rw [h t (by simp), h c (by simp)]; exact hw
  lt := fun w hw k hk => by
    obtain ⟨⟨T, cap, h1⟩, h2, _⟩ := hw
    simp at hk
    rcases hk with rfl | rfl
    · exact (Array.getElem?_eq_some_iff.1 h1).1
    · exact h2.lt
section
variable {w0 w w' : World} {t c : Nat} {cs : List Cls}
theorem table_head (h : (tableR t c cs).ok w) : ∃ cap, w.cell? ⟨t, 0, none⟩ = some (.slice (some ⟨c, 0, none⟩) cs.length cap) := by
  obtain ⟨⟨T, cap, h1⟩, _⟩ := h
  exact ⟨cap, by rw [cell_of_row w t 0 _ _ _ h1]; rfl⟩
theorem table_small (h : (tableR t c cs).ok w) : cs.length ≤ 63 := h.2.2.2.1
theorem clsR_bd {x : Cls} (h : clsR x = true) : 0 ≤ x.refs ∧ 0 ≤ x.data ∧ x.refs + x.data ≤ 30 := by
  rcases (clsR_iff x).1 h with h | h | h
  · have := clsSmall_t h.2; omega
  · omega
  · have := clsSmall_t h.2.1; omega
def cget (cs : List Cls) (n : Int) : Cls := cs.getD (n - 1).toNat default
theorem cget_mem {cs : List Cls} {n : Int} (h : 1 ≤ n ∧ n ≤ cs.length) : cget cs n ∈ cs := by
  unfold cget
  rw [List.getD_eq_getElem?_getD, List.getElem?_eq_getElem (by omega)]
  exact List.getElem_mem _
theorem table_all (h : (tableR t c cs).ok w) : ∀ x ∈ cs, clsR x = true := h.2.2.2.2
theorem table_bd (h : (tableR t c cs).ok w) {n : Int} (hn : 1 ≤ n ∧ n ≤ cs.length) : clsR (cget cs n) = true := h.2.2.2.2 _ (cget_mem hn)
theorem table_cell (h : (tableR t c cs).ok w) {i j : Nat} {v : Value} (hi : i < cs.length) (hv : (clsV (cs.getD i default))[j]? = some v) : w.cell? ⟨c, i * 4 + j, none⟩ = some v := by
  have hj : j < 4 := by have := (List.getElem?_eq_some_iff.1 hv).1; simpa [clsV] using this
  refine h.2.1.cell ?_
  rw [flat_get clsV 4 (fun _ => rfl) cs i j (cs.getD i default) (by rw [List.getElem?_eq_getElem hi]; simp [List.getD_eq_getElem?_getD, List.getElem?_eq_getElem hi]) hj]
  exact hv
theorem table_cells (h : (tableR t c cs).ok w) {i o : Nat} (hi : i < cs.length) (ho : o = i * 4) : ∀ (f : Nat) (u : Value), (clsV (cs.getD i default))[f]? = some u → w.cell? ((⟨c, o, none⟩ : Addr).add f) = some u := fun f u hf => by
  rw [addr_add, ho]; exact table_cell h hi hf
end
end Go.Proofs.YtmmmbkmjkpfleaaGreat
