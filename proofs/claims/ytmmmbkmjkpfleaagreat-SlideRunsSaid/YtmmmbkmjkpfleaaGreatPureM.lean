/- Plain functions: a world that is made, thing by thing, reference by reference. No statement of the seat is proved here; conditions: none. -/
import Derived.Test.YtmmmbkmjkpfleaaGreatPureL
namespace Go.Proofs.YtmmmbkmjkpfleaaGreat
open Go Go.RowKit

structure Th where
  c : Int
  d : Int
  u : Int
  s : Bool
instance : Inhabited Th := ⟨⟨0, 0, 0, false⟩⟩
def encTh (x : Th) : List Value := [.int .u8 x.c, .int .u8 x.d, .int .u8 x.u, .bool x.s]
structure R3 where
  a : Int
  b : Int
  c : Int
instance : Inhabited R3 := ⟨⟨0, 0, 0⟩⟩
def encR3 (x : R3) : List Value := [.int .u8 x.a, .int .u8 x.b, .int .u8 x.c]
def encU8 (x : Int) : List Value := [.int .u8 x]
theorem encTh_len (x : Th) : (encTh x).length = 4 := rfl
theorem encR3_len (x : R3) : (encR3 x).length = 3 := rfl
theorem encU8_len (x : Int) : (encU8 x).length = 1 := rfl
/-- The words, the spaces, the objects, those that are told to stay. -/
structure LS where
  ws : List Int
  sp : List Spc
  al : List Int
  st : List Int
def layOne (cs : List Cls) (L : LS) (x : Th) : LS :=
  let r := layS L.ws cs L.sp L.al x.c x.d x.u x.s
  ⟨r.1, r.2.1, r.2.2.1, if r.2.2.2 = true ∧ x.s = true then L.st ++ [r.2.2.1.getD (r.2.2.1.length - 1) default] else L.st⟩
def laysF (cs : List Cls) (L : LS) (ths : List Th) : LS := ths.foldl (layOne cs) L
theorem laysF_step {cs : List Cls} {L : LS} {ths : List Th} {i : Nat} (h : i < ths.length) : laysF cs L (ths.take (i + 1)) = layOne cs (laysF cs L (ths.take i)) (ths.getD i default) := by
  unfold laysF; rw [take_getD h, List.foldl_append]; rfl
def LSInv (cs : List Cls) (L : LS) : Prop := LayInv L.ws cs L.sp L.al ∧ Clo L.ws cs L.al ∧ ∀ x ∈ L.st, x ∈ L.al
theorem layS_mono {ws : List Int} {cs : List Cls} {sp : List Spc} {al : List Int} {c d u : Int} {s : Bool} : (∀ x ∈ al, x ∈ (layS ws cs sp al c d u s).2.2.1) ∧ ((layS ws cs sp al c d u s).2.2.2 = true → 0 < (layS ws cs sp al c d u s).2.2.1.length) ∧ (layS ws cs sp al c d u s).2.2.1.length ≤ al.length + 1 := by
  by_cases h0 : c % (cs.length + 1) = 0
  · by_cases h1 : d % 9 + 1 ≤ (sp.getD (u % 3).toNat default).end_ - (sp.getD (u % 3).toNat default).top ∧ gapE ws (sp.getD (u % 3).toNat default).top (d % 9 + 1) = 0
    · rw [layS_gap h0 h1.1 h1.2]; simp
    · rw [layS_gapno h0 h1]; simp
  · by_cases h1 : layWords cs (c % (cs.length + 1)) (layLen cs (c % (cs.length + 1)) d) ≤ (sp.getD (u % 3).toNat default).end_ - (sp.getD (u % 3).toNat default).top ∧ layE ws cs (sp.getD (u % 3).toNat default).top (c % (cs.length + 1)) (layLen cs (c % (cs.length + 1)) d) = 0
    · rw [layS_obj h0 rfl h1.1 h1.2]; simp; exact fun x hx => .inl hx
    · rw [layS_objno h0 rfl h1]; simp
theorem layOne_inv {cs : List Cls} (hcs : ∀ x ∈ cs, clsR x = true) (h64 : cs.length < 64) {L : LS} {x : Th} (h : LSInv cs L) (hd : 0 ≤ x.d) (hu : 0 ≤ x.u) : LSInv cs (layOne cs L x) := by
  obtain ⟨h1, h2, h3⟩ := h
  have h4 := layS_inv h1 h2 hcs h64 (c := x.c) (s := x.s) hd hu
  have h5 := layS_mono (ws := L.ws) (cs := cs) (sp := L.sp) (al := L.al) (c := x.c) (d := x.d) (u := x.u) (s := x.s)
  refine ⟨h4.1, h4.2, fun y hy => ?_⟩
  unfold layOne at hy ⊢
  simp only at hy ⊢
  split at hy
  · rename_i hs
    rcases List.mem_append.1 hy with hy | hy
    · exact h5.1 y (h3 y hy)
    · simp only [List.mem_singleton] at hy
      rw [hy]
      exact mem_getD (by have := h5.2.1 hs.1; omega)
  · exact h5.1 y (h3 y hy)
theorem laysF_inv {cs : List Cls} (hcs : ∀ x ∈ cs, clsR x = true) (h64 : cs.length < 64) : ∀ (ths : List Th) (L : LS), LSInv cs L → (∀ x ∈ ths, 0 ≤ x.d ∧ 0 ≤ x.u) → LSInv cs (laysF cs L ths)
  | [], _, h, _ => h
  | x :: r, L, h, hb => laysF_inv hcs h64 r (layOne cs L x) (layOne_inv hcs h64 h (hb x (by simp)).1 (hb x (by simp)).2) (fun y hy => hb y (by simp [hy]))
theorem laysF_len {cs : List Cls} : ∀ (ths : List Th) (L : LS), (laysF cs L ths).al.length ≤ L.al.length + ths.length ∧ (laysF cs L ths).st.length ≤ L.st.length + ths.length
  | [], L => by simp [laysF]
  | x :: r, L => by
    have h1 := laysF_len (cs := cs) r (layOne cs L x)
    have h2 := (layS_mono (ws := L.ws) (cs := cs) (sp := L.sp) (al := L.al) (c := x.c) (d := x.d) (u := x.u) (s := x.s)).2.2
    have h3 : (layOne cs L x).al.length ≤ L.al.length + 1 := h2
    have h4 : (layOne cs L x).st.length ≤ L.st.length + 1 := by
      unfold layOne
      simp only
      split <;> simp
    have h5 : laysF cs L (x :: r) = laysF cs (layOne cs L x) r := rfl
    rw [h5, List.length_cons]
    omega
/-- A reference's word may be any. -/
theorem Seg.setref {ws : List Int} {cs : List Cls} (hcs : ∀ x ∈ cs, clsR x = true) {a to : Int} {r : List Int} {p v : Int} (h : Seg ws cs a to r) : ∀ x ∈ r, x + 2 ≤ p → p < x + (objT ws cs x).words → Seg (ws.set p.toNat v) cs a to r := by
  induction h with
  | nil a => simp
  | obj h1 h2 h3 ih =>
    rename_i a to r
    intro x hx hp1 hp2
    have hb := atT_bd hcs h1
    have he : objE ws cs a = 0 := by unfold objE; rw [objF_else (fun q => h2 q.2)]; exact h1
    have hw := (objE_zero he).2.2
    rcases List.mem_cons.1 hx with rfl | hx
    · have hc : atF (ws.set p.toNat v) cs x = atF ws cs x := atF_congr (by simp) (gi_set_ne (by omega)) (gi_set_ne (by omega))
      rw [hw] at hp2
      refine .obj (by unfold atE; rw [hc]; exact h1) (by unfold atT; rw [hc]; exact h2) (by unfold atT; rw [hc]; exact (h3.congr hcs (by simp) (fun y h4 h5 => gi_set_ne (by omega))).1)
    · have hm := (h3.mem hcs x hx).2.1
      have hc : atF (ws.set p.toNat v) cs a = atF ws cs a := atF_congr (by simp) (gi_set_ne (by omega)) (gi_set_ne (by omega))
      exact .obj (by unfold atE; rw [hc]; exact h1) (by unfold atT; rw [hc]; exact h2) (by unfold atT; rw [hc]; exact ih x hx hp1 hp2)
  | gap h1 h2 h3 ih =>
    rename_i a to r
    intro x hx hp1 hp2
    have hb := atT_bd hcs h1
    have hm := (h3.mem hcs x hx).2.1
    have hc : atF (ws.set p.toNat v) cs a = atF ws cs a := at_congr hcs h1 (by simp) (gi_set_ne (by omega)) (fun _ => gi_set_ne (by omega))
    exact .gap (by unfold atE; rw [hc]; exact h1) (by unfold atT; rw [hc]; exact h2) (by unfold atT; rw [hc]; exact ih x hx hp1 hp2)
end Go.Proofs.YtmmmbkmjkpfleaaGreat
