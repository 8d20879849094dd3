/- Plain functions: what is laid. No statement of the seat is proved here; conditions: none. -/
import Derived.Test.YtmmmbkmjkpfleaaGreatPureI
namespace Go.Proofs.YtmmmbkmjkpfleaaGreat
open Go Go.RowKit

theorem hdOf_hdW {h : Hd} (hR : hdR h = true) : hdOf (hdW h) = h := by
  have h1 := (hdR_iff h).1 hR
  obtain ⟨c, a, f, m, fi, d⟩ := h
  simp only at h1
  have hm := b2i_01 m
  have hf := b2i_01 fi
  have hd := b2i_01 d
  have e1 : (c + 64 * a + 1024 * b2i m + 2048 * b2i fi + 4096 * b2i d + 8192 * f) % 64 = c := by omega
  have e2 : (c + 64 * a + 1024 * b2i m + 2048 * b2i fi + 4096 * b2i d + 8192 * f) / 64 % 16 = a := by omega
  have e3 : (c + 64 * a + 1024 * b2i m + 2048 * b2i fi + 4096 * b2i d + 8192 * f) / 8192 = f := by omega
  have e4 : (c + 64 * a + 1024 * b2i m + 2048 * b2i fi + 4096 * b2i d + 8192 * f) / 1024 % 2 = b2i m := by omega
  have e5 : (c + 64 * a + 1024 * b2i m + 2048 * b2i fi + 4096 * b2i d + 8192 * f) / 2048 % 2 = b2i fi := by omega
  have e6 : (c + 64 * a + 1024 * b2i m + 2048 * b2i fi + 4096 * b2i d + 8192 * f) / 4096 % 2 = b2i d := by omega
  unfold hdOf hdW
  rw [e1, e2, e3, e4, e5, e6]
  cases m <;> cases fi <;> cases d <;> rfl
theorem gi_set_eq {ws : List Int} {a x : Int} (h : a.toNat < ws.length) : gi (ws.set a.toNat x) a = x := by
  unfold gi; simp [h]
theorem layE_zero {ws : List Int} {cs : List Cls} {a n m : Int} (h : layE ws cs a n m = 0) : shapeE cs n m = 0 ∧ thereB ws.length a (layWords cs n m) = true := by
  unfold layE at h
  split at h
  · rename_i h1; exact absurd h h1
  · rename_i h1
    split at h
    · cases h
    · rename_i h2; exact ⟨Classical.not_not.1 h1, Classical.not_not.1 h2⟩
theorem layW_len {ws : List Int} {cs : List Cls} {a n m : Int} : (layW ws cs a n m).length = ws.length := by unfold layW; rw [List.length_set, List.length_set, fillW_length]
theorem lay_gi {ws : List Int} {cs : List Cls} {a n m : Int} (hcs : ∀ x ∈ cs, clsR x = true) (h : layE ws cs a n m = 0) : gi (layW ws cs a n m) a = hdW ⟨n, 0, 0, false, (cget cs n).final, false⟩ ∧ gi (layW ws cs a n m) (a + 1) = m := by
  obtain ⟨h1, h2⟩ := layE_zero h
  have h3 := thereB_t h2
  have h4 := shape_bd5 hcs h1
  unfold layWords at h3
  unfold layW
  refine ⟨?_, gi_set_eq (by rw [List.length_set, fillW_length]; omega)⟩
  rw [gi_set_ne (by omega), gi_set_eq (by rw [fillW_length]; omega)]
/-- What stands where an object's head and length are written. -/
theorem obj_of {ws : List Int} {cs : List Cls} {a n m : Int} {hd : Hd} (hR : hdR hd = true) (hn : hd.cls = n) (hs : shapeE cs n m = 0) (ht : thereB ws.length a (layWords cs n m) = true) (hcs : ∀ x ∈ cs, clsR x = true) (g1 : gi ws a = hdW hd) (g2 : gi ws (a + 1) = m) :
    objF ws cs a = (0, ⟨hd, (cget cs n).refs + m, (cget cs n).data, layWords cs n m⟩) := by
  have h1 := shapeE_zero hs
  have h4 := shape_bd5 hcs hs
  have h3 := thereB_t ht
  unfold layWords at h3
  have hof : hdOf (gi ws a) = hd := by rw [g1, hdOf_hdW hR]
  have hat : atF ws cs a = (0, ⟨hd, (cget cs n).refs + m, (cget cs n).data, layWords cs n m⟩) := by
    have := atF_obj (ws := ws) (cs := cs) (a := a) ((thereB_iff _ _ _).2 (by omega)) (by rw [hof]; exact hR) (by rw [hof, hn]; omega) (by omega) (by rw [hof, hn, g2]; exact hs) (by rw [hof, hn, g2]; exact ht)
    rw [this, hof, hn, g2]
    rfl
  have hT : atT ws cs a = ⟨hd, (cget cs n).refs + m, (cget cs n).data, layWords cs n m⟩ := by unfold atT; rw [hat]
  have hE : atE ws cs a = 0 := by unfold atE; rw [hat]
  rw [objF_else (fun q => by have := q.2; rw [hT] at this; simp only at this; omega), hE, hT]
theorem lay_obj {ws : List Int} {cs : List Cls} {a n m : Int} (hcs : ∀ x ∈ cs, clsR x = true) (hn : n < 64) (h : layE ws cs a n m = 0) :
    objF (layW ws cs a n m) cs a = (0, ⟨⟨n, 0, 0, false, (cget cs n).final, false⟩, (cget cs n).refs + m, (cget cs n).data, layWords cs n m⟩) := by
  obtain ⟨h1, h2⟩ := layE_zero h
  have hz := shapeE_zero h1
  have hg := lay_gi hcs h
  exact obj_of (hdR_lay (by omega)) rfl h1 (by rw [layW_len]; exact h2) hcs hg.1 hg.2
/-- Numbers, one behind the other. -/
def numsW (ws : List Int) (b d : Int) : Nat → List Int
  | 0 => ws
  | k + 1 => (numsW ws b d k).set (b + k).toNat (d + k)
theorem numsW_len (ws : List Int) (b d : Int) : ∀ k, (numsW ws b d k).length = ws.length
  | 0 => rfl
  | k + 1 => by rw [numsW, List.length_set, numsW_len ws b d k]
theorem numsW_gi (ws : List Int) (b d : Int) (hb : 0 ≤ b) : ∀ (k : Nat) (x : Int), (x < b ∨ b + k ≤ x) → 0 ≤ x → gi (numsW ws b d k) x = gi ws x
  | 0, _, _, _ => rfl
  | k + 1, x, hx, h0 => by rw [numsW, gi_set_ne (by omega), numsW_gi ws b d hb k x (by omega) h0]
def layHd (cs : List Cls) (n d : Int) (s : Bool) : Hd := ⟨n, d % 8, 0, s, (cget cs n).final, false⟩
def layA (ws : List Int) (cs : List Cls) (a n m d : Int) (s : Bool) (k : Nat) : List Int := numsW ((layW ws cs a n m).set a.toNat (hdW (layHd cs n d s))) (a + 2 + ((cget cs n).refs + m)) d k
theorem layA_obj {ws : List Int} {cs : List Cls} {a n m d : Int} {s : Bool} (hcs : ∀ x ∈ cs, clsR x = true) (hn : n < 64) (hd : 0 ≤ d) (h : layE ws cs a n m = 0) (k : Nat) :
    objF (layA ws cs a n m d s k) cs a = (0, ⟨layHd cs n d s, (cget cs n).refs + m, (cget cs n).data, layWords cs n m⟩) := by
  obtain ⟨h1, h2⟩ := layE_zero h
  have hz := shapeE_zero h1
  have h3 := thereB_t h2
  have h4 := shape_bd5 hcs h1
  have hg := lay_gi hcs h
  have h5 : layWords cs n m = 2 + ((cget cs n).refs + m) + (cget cs n).data := rfl
  have hlen : (layW ws cs a n m).length = ws.length := layW_len
  unfold layA
  refine obj_of ((hdR_iff _).2 ⟨by show 0 ≤ n; omega, hn, by show 0 ≤ d % 8; omega, by show d % 8 < 8; omega, Int.le_refl 0, (by decide : (0 : Int) < 4096), fun q => by cases q.2⟩) rfl h1 (by rw [numsW_len, List.length_set, hlen]; exact h2) hcs ?_ ?_
  · rw [numsW_gi _ _ _ (by omega) _ _ (by omega) (by omega), gi_set_eq (by rw [hlen]; omega)]
  · rw [numsW_gi _ _ _ (by omega) _ _ (by omega) (by omega), gi_set_ne (by omega), hg.2]
/-- One thing laid: the words, the spaces, the objects, is it an object. -/
def layLen (cs : List Cls) (n d : Int) : Int := if (cget cs n).kind = 2 then d % 5 else 0
def layS (ws : List Int) (cs : List Cls) (sp : List Spc) (al : List Int) (c d u : Int) (s : Bool) : List Int × List Spc × List Int × Bool :=
  if c % (cs.length + 1) = 0 then
    if d % 9 + 1 ≤ (sp.getD (u % 3).toNat default).end_ - (sp.getD (u % 3).toNat default).top ∧ gapE ws (sp.getD (u % 3).toNat default).top (d % 9 + 1) = 0 then
      (gapW ws (sp.getD (u % 3).toNat default).top (d % 9 + 1), sp.set (u % 3).toNat ⟨(sp.getD (u % 3).toNat default).from_, (sp.getD (u % 3).toNat default).top + (d % 9 + 1), (sp.getD (u % 3).toNat default).end_⟩, al, false)
    else (ws, sp, al, false)
  else if layWords cs (c % (cs.length + 1)) (layLen cs (c % (cs.length + 1)) d) ≤ (sp.getD (u % 3).toNat default).end_ - (sp.getD (u % 3).toNat default).top ∧ layE ws cs (sp.getD (u % 3).toNat default).top (c % (cs.length + 1)) (layLen cs (c % (cs.length + 1)) d) = 0 then
    (layA ws cs (sp.getD (u % 3).toNat default).top (c % (cs.length + 1)) (layLen cs (c % (cs.length + 1)) d) d s (cget cs (c % (cs.length + 1))).data.toNat,
      sp.set (u % 3).toNat ⟨(sp.getD (u % 3).toNat default).from_, (sp.getD (u % 3).toNat default).top + layWords cs (c % (cs.length + 1)) (layLen cs (c % (cs.length + 1)) d), (sp.getD (u % 3).toNat default).end_⟩, al ++ [(sp.getD (u % 3).toNat default).top], true)
  else (ws, sp, al, false)
theorem layLen_bd {cs : List Cls} {n d : Int} (hd : 0 ≤ d) : 0 ≤ layLen cs n d ∧ layLen cs n d ≤ 4 ∧ (layLen cs n d = 0 ∨ (cget cs n).kind = 2) := by
  unfold layLen; split
  · rename_i h; exact ⟨by omega, by omega, .inr h⟩
  · exact ⟨by omega, by omega, .inl rfl⟩
theorem shapeE_ok {cs : List Cls} {n m : Int} (h1 : 1 ≤ n) (h2 : n ≤ cs.length) (h3 : 0 ≤ m) (h4 : m ≤ 30) (h5 : m = 0 ∨ (cget cs n).kind = 2) : shapeE cs n m = 0 := by
  unfold shapeE; rw [if_neg (by omega), if_neg (by omega), if_neg (by omega)]
theorem numE_ok {ws : List Int} {cs : List Cls} {a f : Int} (h : objE ws cs a = 0) (h1 : 0 ≤ f) (h2 : f < (objT ws cs a).data) : numE ws cs a f = 0 := by
  unfold numE; rw [if_neg (not_not_intro h), if_neg (by omega)]
section
variable {ws : List Int} {cs : List Cls} {sp : List Spc} {al : List Int} {c d u m : Int} {s : Bool}
theorem layS_gap (h0 : c % (cs.length + 1) = 0) (h1 : d % 9 + 1 ≤ (sp.getD (u % 3).toNat default).end_ - (sp.getD (u % 3).toNat default).top) (h2 : gapE ws (sp.getD (u % 3).toNat default).top (d % 9 + 1) = 0) :
    layS ws cs sp al c d u s = (gapW ws (sp.getD (u % 3).toNat default).top (d % 9 + 1), sp.set (u % 3).toNat ⟨(sp.getD (u % 3).toNat default).from_, (sp.getD (u % 3).toNat default).top + (d % 9 + 1), (sp.getD (u % 3).toNat default).end_⟩, al, false) := by
  unfold layS; rw [if_pos h0, if_pos ⟨h1, h2⟩]
theorem layS_gapno (h0 : c % (cs.length + 1) = 0) (h1 : ¬ (d % 9 + 1 ≤ (sp.getD (u % 3).toNat default).end_ - (sp.getD (u % 3).toNat default).top ∧ gapE ws (sp.getD (u % 3).toNat default).top (d % 9 + 1) = 0)) :
    layS ws cs sp al c d u s = (ws, sp, al, false) := by
  unfold layS; rw [if_pos h0, if_neg h1]
theorem layS_obj (h0 : ¬ c % (cs.length + 1) = 0) (hm : layLen cs (c % (cs.length + 1)) d = m) (h1 : layWords cs (c % (cs.length + 1)) m ≤ (sp.getD (u % 3).toNat default).end_ - (sp.getD (u % 3).toNat default).top) (h2 : layE ws cs (sp.getD (u % 3).toNat default).top (c % (cs.length + 1)) m = 0) :
    layS ws cs sp al c d u s = (layA ws cs (sp.getD (u % 3).toNat default).top (c % (cs.length + 1)) m d s (cget cs (c % (cs.length + 1))).data.toNat,
      sp.set (u % 3).toNat ⟨(sp.getD (u % 3).toNat default).from_, (sp.getD (u % 3).toNat default).top + layWords cs (c % (cs.length + 1)) m, (sp.getD (u % 3).toNat default).end_⟩, al ++ [(sp.getD (u % 3).toNat default).top], true) := by
  subst hm; unfold layS; rw [if_neg h0, if_pos ⟨h1, h2⟩]
theorem layS_objno (h0 : ¬ c % (cs.length + 1) = 0) (hm : layLen cs (c % (cs.length + 1)) d = m) (h1 : ¬ (layWords cs (c % (cs.length + 1)) m ≤ (sp.getD (u % 3).toNat default).end_ - (sp.getD (u % 3).toNat default).top ∧ layE ws cs (sp.getD (u % 3).toNat default).top (c % (cs.length + 1)) m = 0)) :
    layS ws cs sp al c d u s = (ws, sp, al, false) := by
  subst hm; unfold layS; rw [if_neg h0, if_neg h1]
theorem setHead_lay {a n : Int} (hcs : ∀ x ∈ cs, clsR x = true) (hn : n < 64) (hd : 0 ≤ d) (h : layE ws cs a n m = 0) : setHeadE (layW ws cs a n m) cs a (layHd cs n d s) = 0 := by
  have hob := lay_obj hcs hn h
  have hz := shapeE_zero (layE_zero h).1
  unfold setHeadE objE objT
  rw [hob, if_neg (by simp), if_neg]
  rintro (q | q)
  · exact q ((hdR_iff _).2 ⟨by show 0 ≤ n; omega, hn, by show 0 ≤ d % 8; omega, by show d % 8 < 8; omega, Int.le_refl 0, (by decide : (0 : Int) < 4096), fun q => by cases q.2⟩)
  · exact q rfl
end
end Go.Proofs.YtmmmbkmjkpfleaaGreat
