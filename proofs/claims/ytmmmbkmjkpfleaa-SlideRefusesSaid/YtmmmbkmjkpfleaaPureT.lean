/- Plain functions: where all stays. No statement of the seat is proved here; conditions: none. -/
import Derived.Test.YtmmmbkmjkpfleaaPureS
namespace Go.Proofs.Ytmmmbkmjkpfleaa
open Go Go.RowKit

theorem Seg.sum {ws : List Int} {cs : List Cls} (hcs : ∀ x ∈ cs, clsR x = true) {a to : Int} {r : List Int} (h : Seg ws cs a to r) : (r.map (wordsAt ws cs)).sum ≤ to - a ∧ (to - a ≤ (r.map (wordsAt ws cs)).sum → Tile (wordsAt ws cs) a r to) := by
  induction h with
  | nil a => exact ⟨by simp, fun _ => rfl⟩
  | obj h1 h2 h3 ih =>
    rw [List.map_cons, List.sum_cons]
    unfold wordsAt at ih ⊢
    exact ⟨by omega, fun h => ⟨rfl, ih.2 (by omega)⟩⟩
  | gap h1 h2 h3 ih =>
    have := atT_bd hcs h1
    exact ⟨by omega, fun h => by exfalso; omega⟩
def usedL (sp : List Spc) : Int := (sp.map fun s => s.top - s.from_).sum
theorem sum_set {α : Type} [Inhabited α] (f : α → Int) : ∀ (l : List α) (k : Nat) (x : α), k < l.length → ((l.set k x).map f).sum = (l.map f).sum - f (l.getD k default) + f x
  | [], k, x, h => by simp at h
  | a :: l, 0, x, _ => by simp; omega
  | a :: l, k + 1, x, h => by
    have := sum_set f l k x (by simpa using h)
    rw [List.set_cons_succ, List.map_cons, List.sum_cons, List.map_cons, List.sum_cons, this, List.getD_cons_succ]; omega
def FullLS (cs : List Cls) (L : LS) : Prop := usedL L.sp = (L.al.map (wordsAt L.ws cs)).sum
theorem sum_congr {l : List Int} {f g : Int → Int} (h : ∀ x ∈ l, f x = g x) : (l.map f).sum = (l.map g).sum := by rw [List.map_congr_left h]
theorem words_of {ws : List Int} {cs : List Cls} {a : Int} (hcs : ∀ x ∈ cs, clsR x = true) (h : objE ws cs a = 0) : wordsAt ws cs a = (objT ws cs a).words := (wordsAt_bd hcs h).2.1.symm
theorem words_congr {ws ws' : List Int} {cs : List Cls} {a : Int} (hcs : ∀ x ∈ cs, clsR x = true) (h : objE ws cs a = 0) (hF : objF ws' cs a = objF ws cs a) : wordsAt ws' cs a = wordsAt ws cs a := by
  have he : objE ws' cs a = 0 := by unfold objE; rw [hF]; exact h
  rw [words_of hcs h, words_of hcs he]
  unfold objT; rw [hF]
theorem layOne_full {cs : List Cls} (hcs : ∀ x ∈ cs, clsR x = true) (h64 : cs.length < 64) {L : LS} {x : Th} (h : LSInv cs L) (hf : FullLS cs L) (hd : 0 ≤ x.d) (hu : 0 ≤ x.u) (hc : ¬ x.c % (cs.length + 1) = 0) : FullLS cs (layOne cs L x) := by
  have hi := h.1
  have hk : (x.u % 3).toNat < 3 := by omega
  have hsp := hi.sp3
  have hnb := Int.emod_nonneg x.c (show (cs.length : Int) + 1 ≠ 0 by omega)
  have hnl := Int.emod_lt_of_pos x.c (show (0 : Int) < (cs.length : Int) + 1 by omega)
  have hfr := riseF_ge L.sp 1 hi.rise _ (mem_getD (show (x.u % 3).toNat < L.sp.length by omega))
  have hRk := spR_t (rise_all hi.rise _ (mem_getD (show (x.u % 3).toNat < L.sp.length by omega)))
  have hL : (layOne cs L x).ws = (layS L.ws cs L.sp L.al x.c x.d x.u x.s).1 ∧ (layOne cs L x).sp = (layS L.ws cs L.sp L.al x.c x.d x.u x.s).2.1 ∧ (layOne cs L x).al = (layS L.ws cs L.sp L.al x.c x.d x.u x.s).2.2.1 := ⟨rfl, rfl, rfl⟩
  unfold FullLS at hf ⊢
  rw [hL.1, hL.2.1, hL.2.2]
  by_cases h1 : layWords cs (x.c % (cs.length + 1)) (layLen cs (x.c % (cs.length + 1)) x.d) ≤ (L.sp.getD (x.u % 3).toNat default).end_ - (L.sp.getD (x.u % 3).toNat default).top ∧ layE L.ws cs (L.sp.getD (x.u % 3).toNat default).top (x.c % (cs.length + 1)) (layLen cs (x.c % (cs.length + 1)) x.d) = 0
  · rw [layS_obj hc rfl h1.1 h1.2]
    simp only
    have hz := layE_zero h1.2
    have hbd := shape_bd5 hcs hz.1
    have hlw : layWords cs (x.c % (cs.length + 1)) (layLen cs (x.c % (cs.length + 1)) x.d) = 2 + ((cget cs (x.c % (cs.length + 1))).refs + layLen cs (x.c % (cs.length + 1)) x.d) + (cget cs (x.c % (cs.length + 1))).data := rfl
    have h4 := hi.keep hcs hk (layA_len (n := x.c % (cs.length + 1)) (m := layLen cs (x.c % (cs.length + 1)) x.d) (d := x.d) (s := x.s) (k := (cget cs (x.c % (cs.length + 1))).data.toNat)) (n := layWords cs (x.c % (cs.length + 1)) (layLen cs (x.c % (cs.length + 1)) x.d)) (by omega) (by omega) (fun y hy0 hy => layA_gi hcs h1.2 (by omega) hy0 hy)
    have hob := layA_obj (s := x.s) hcs (by omega) hd h1.2 (cget cs (x.c % (cs.length + 1))).data.toNat
    have hoE : objE (layA L.ws cs (L.sp.getD (x.u % 3).toNat default).top (x.c % (cs.length + 1)) (layLen cs (x.c % (cs.length + 1)) x.d) x.d x.s (cget cs (x.c % (cs.length + 1))).data.toNat) cs (L.sp.getD (x.u % 3).toNat default).top = 0 := by unfold objE; rw [hob]
    have hwn : wordsAt (layA L.ws cs (L.sp.getD (x.u % 3).toNat default).top (x.c % (cs.length + 1)) (layLen cs (x.c % (cs.length + 1)) x.d) x.d x.s (cget cs (x.c % (cs.length + 1))).data.toNat) cs (L.sp.getD (x.u % 3).toNat default).top = layWords cs (x.c % (cs.length + 1)) (layLen cs (x.c % (cs.length + 1)) x.d) := by
      rw [words_of hcs hoE]; unfold objT; rw [hob]
    rw [List.map_append, List.sum_append, List.map_singleton, List.sum_singleton, hwn]
    unfold usedL at hf ⊢
    rw [sum_set _ _ _ _ (by omega), sum_congr (f := wordsAt _ cs) (g := wordsAt L.ws cs) (fun a ha => words_congr hcs (h4 a ha).1 (h4 a ha).2.1), hf]
    simp only
    omega
  · rw [layS_objno hc rfl h1]; exact hf
theorem laysF_full {cs : List Cls} (hcs : ∀ x ∈ cs, clsR x = true) (h64 : cs.length < 64) : ∀ (ths : List Th) (L : LS), LSInv cs L → FullLS cs L → (∀ x ∈ ths, 0 ≤ x.d ∧ 0 ≤ x.u) → (∀ x ∈ ths, ¬ x.c % (cs.length + 1) = 0) → FullLS cs (laysF cs L ths)
  | [], _, _, h, _, _ => h
  | x :: r, L, hi, h, hb, hc => by
    have h0 := hb x (by simp)
    exact laysF_full hcs h64 r _ (layOne_inv hcs h64 hi h0.1 h0.2) (layOne_full hcs h64 hi h h0.1 h0.2 (hc x (by simp))) (fun y hy => hb y (by simp [hy])) (fun y hy => hc y (by simp [hy]))
theorem Wd.full {W : Wd} {q : List Int} (h : W.Good q) (hc : ∀ x ∈ W.ths, ¬ x.c % (W.cs.length + 1) = 0) : usedL W.sp = (W.al.map (wordsAt W.ws W.cs)).sum := by
  have h1 := laysF_full h.hcs h.ok.lt W.ths (made0 W.z0 W.z1 W.z2) made0_inv (by
    show ((splitF 1 [W.z0 % 151, W.z1 % 151, W.z2 % 151]).map fun s => s.top - s.from_).sum = 0
    simp [splitF]) (fun x hx => by have := h.bd.th x hx; omega) hc
  have h2 := Wd.inv1 h.bd h.hcs h.ok.lt
  unfold FullLS at h1
  show usedL W.L.sp = _
  have e : usedL W.L.sp = (W.L.al.map (wordsAt W.L.ws W.cs)).sum := h1
  rw [e]
  by_cases h0 : W.L.al.length = 0
  · have : W.L.al = [] := List.length_eq_zero_iff.1 h0
    show _ = (W.L.al.map _).sum
    rw [this]; rfl
  · have h3 := refsF_inv h.hcs (show 0 < W.L.al.length by omega) W.rfs W.L.ws h2.1 h2.2.1 (fun r hr => (h.bd.rf r hr).1.1)
    exact sum_congr fun x hx => (words_congr h.hcs (h2.1.mem h.hcs x hx).1 (h3.2.2 x hx)).symm
theorem Chain.asc {n : Int → Int} : ∀ {r : List Int} {lo : Int}, Chain n lo r → (∀ a ∈ r, 1 ≤ n a) → r.Nodup
  | [], _, _, _ => List.nodup_nil
  | a :: r, lo, h, hn => by
    have hge := Chain.ge h.2 (fun d hd => by have := hn d (by simp [hd]); omega)
    have h1 := hn a (by simp)
    exact List.nodup_cons.2 ⟨fun ha => by have := hge a ha; omega, Chain.asc h.2 (fun b hb => hn b (by simp [hb]))⟩
theorem LayInv.nodup {ws : List Int} {cs : List Cls} {sp : List Spc} {al : List Int} (h : LayInv ws cs sp al) (hcs : ∀ x ∈ cs, clsR x = true) : al.Nodup := by
  obtain ⟨_, h2, h3, _, f, h5, h6⟩ := h
  have hw := walksF_segs hcs (f := f) (l := sp) (fun k hk => h5 k (by omega))
  obtain ⟨r, e1, e2, e3⟩ := walksF_chain hcs sp 1 [] _ h3 hw
  rw [List.nil_append] at e1
  have hnd := e2.asc (fun a ha => by have := wordsAt_bd hcs (e3 a ha).1; omega)
  rw [← e1, h2] at hnd
  rw [h6.nodup_iff]
  have : catF f 3 = f 0 ++ (f 1 ++ f 2) := by simp [catF]
  rw [← this]; exact hnd
theorem LayInv.all {ws : List Int} {cs : List Cls} {sp : List Spc} {al qs : List Int} (h : LayInv ws cs sp al) (hc : Clo ws cs al) (hcs : ∀ x ∈ cs, clsR x = true) (hs : sortedB qs = true) (hp : qs.Perm al) : Stays ws cs al [] qs := by
  have hnd : qs.Nodup := hp.nodup_iff.2 (h.nodup hcs)
  refine ⟨hs, nodup_adj hnd, hnd, fun x hx => hp.mem_iff.1 hx, by simp, fun a ha j hj => ?_⟩
  exact ((hc a (hp.mem_iff.1 ha)).2 j hj).imp id fun h => hp.mem_iff.2 h
theorem sizes_eq {ws : List Int} {cs : List Cls} {l : List Spc} {st : List Int} (hcs : ∀ x ∈ cs, clsR x = true) (h : SlideRes ws cs l st) : st.map (wordsAt ws cs) = (slTo ws cs l st).map (wordsAt (slWs ws cs l st) cs) := by
  have := h.sizes hcs
  unfold sameB at this
  exact of_decide_eq_true this
theorem sum_filter {f : Int → Int} {p : Int → Bool} : ∀ {l : List Int}, (∀ x ∈ l, 0 ≤ f x) → ((l.filter p).map f).sum ≤ (l.map f).sum
  | [], _ => by simp
  | a :: l, h => by
    have h1 := sum_filter (f := f) (p := p) (l := l) (fun x hx => h x (by simp [hx]))
    have h2 := h a (by simp)
    rw [List.filter_cons]
    split
    · simp only [List.map_cons, List.sum_cons]; omega
    · simp only [List.map_cons, List.sum_cons]; omega
theorem usedL_cat {ws : List Int} {cs : List Cls} {now : List Spc} {to : List Int} {g : Nat → List Int} (h : Walks ws cs now to g) : usedL now = (to.map (wordsAt ws cs)).sum := by
  have key : ∀ k : Nat, k ≤ now.length → usedL (now.take k) = ((catF g k).map (wordsAt ws cs)).sum := by
    intro k
    induction k with
    | zero => intro _; rfl
    | succ k ih =>
      intro hk
      have h1 := (h.tile k (by omega)).sum
      have h2 := ih (by omega)
      unfold usedL at h2 ⊢
      rw [take_getD (by omega), List.map_append, List.sum_append, h2, catF, List.map_append, List.sum_append]
      simp only [List.map_cons, List.map_nil, List.sum_cons, List.sum_nil]
      omega
  have := key now.length (Nat.le_refl _)
  rw [List.take_length, h.cat] at this
  exact this
theorem perm_sum {l r : List Int} (h : l.Perm r) : l.sum = r.sum := by
  induction h with
  | nil => rfl
  | cons x _ ih => simp [ih]
  | swap x y l => simp; omega
  | trans _ _ a b => exact a.trans b
theorem asc_of {l : List Int} {f : Nat → Int} (hl : ∀ q i : Nat, q < i → i < l.length → l.getD q default < l.getD i default) {i j : Nat} (hi : i < l.length) (hj : j < l.length) (h : l.getD i default = l.getD j default) : i = j := by
  rcases Nat.lt_trichotomy i j with hlt | heq | hgt
  · have := hl i j hlt hj; omega
  · exact heq
  · have := hl j i hgt hi; omega
/-- Where all stays, and no gaps were, no fewer words are taken in the first space. -/
theorem first_ge {ws : List Int} {cs : List Cls} {sp : List Spc} {al qs : List Int} (hcs : ∀ x ∈ cs, clsR x = true) (hi : LayInv ws cs sp al) (hp : qs.Perm al) (hfull : usedL sp = (al.map (wordsAt ws cs)).sum) (h : SlideRes ws cs sp qs) {g : Nat → List Int} (hw : Walks (slWs ws cs sp qs) cs (slNow ws cs sp qs) (slTo ws cs sp qs) g) :
    spUsed (sp.getD 0 default) ≤ spUsed ((slNow ws cs sp qs).getD 0 default) := by
  have hnd := hi.nodup hcs
  obtain ⟨_, h2, h3, _, f, h5, h6⟩ := hi
  have hnl := h.nlen
  have hR0 := spR_t (rise_all h3 _ (mem_getD (show 0 < sp.length by omega)))
  have hu0 := (hw.used (show 0 < (slNow ws cs sp qs).length by omega)).1
  rw [hu0]
  have hold : spUsed (sp.getD 0 default) = (sp.getD 0 default).top - (sp.getD 0 default).from_ := by unfold spUsed; rw [if_pos (rise_all h3 _ (mem_getD (by omega)))]
  have hs0 := (h5 0 (by omega)).sum hcs
  have hs1 := (h5 1 (by omega)).sum hcs
  have hs2 := (h5 2 (by omega)).sum hcs
  have hsum : (al.map (wordsAt ws cs)).sum = ((f 0).map (wordsAt ws cs)).sum + (((f 1).map (wordsAt ws cs)).sum + ((f 2).map (wordsAt ws cs)).sum) := by
    rw [perm_sum (h6.map _)]; simp
  have hul : usedL sp = (sp.getD 0 default).top - (sp.getD 0 default).from_ + ((sp.getD 1 default).top - (sp.getD 1 default).from_ + ((sp.getD 2 default).top - (sp.getD 2 default).from_)) := by
    match sp, h2 with
    | [a, b, c], _ => simp [usedL]
  have hf0 : spUsed (sp.getD 0 default) = ((f 0).map (wordsAt ws cs)).sum := by omega
  rw [hf0]
  have hnq : qs.Nodup := hp.nodup_iff.2 hnd
  have hpos : ∀ x ∈ qs, 0 ≤ wordsAt ws cs x := fun x hx => by
    obtain ⟨i, hi, rfl⟩ := mem_getD_ex hx
    have := (h.was i hi).2; omega
  have hasc : ∀ q i : Nat, q < i → i < qs.length → qs.getD q default < qs.getD i default := fun q i hq hi => by
    have a := h.asc q i hq hi
    have b := (h.was q (by omega)).2
    omega
  have htasc : ∀ q i : Nat, q < i → i < (slTo ws cs sp qs).length → (slTo ws cs sp qs).getD q default < (slTo ws cs sp qs).getD i default := fun q i hq hi => by
    have hi' : i < qs.length := by rw [← h.tlen]; exact hi
    have a := h.mono q i hq hi'
    have b := (h.was q (by omega)).2
    omega
  have hg0 : g 0 = (slTo ws cs sp qs).take (g 0).length := by
    rw [← hw.cat, hnl, h2]
    simp [catF]
  have hm0 : ∀ i : Nat, i < qs.length → qs.getD i default < (sp.getD 0 default).top → i < (g 0).length := fun i hi hlt => by
    have hle := (h.le i hi).2
    have hmem : (slTo ws cs sp qs).getD i default ∈ catF g (slNow ws cs sp qs).length := by rw [hw.cat]; exact mem_getD (by rw [h.tlen]; exact hi)
    obtain ⟨j, hj, hjm⟩ := catF_mem hmem
    have hj0 : j = 0 := by
      refine Classical.byContradiction fun hj0 => ?_
      obtain ⟨t, ht1, ht2⟩ := h.tile
      have hfr := riseF_ix sp 1 h3 0 j (by omega) (by omega)
      have htl := hw.tile j hj
      have hge : (sp.getD j default).from_ ≤ (slTo ws cs sp qs).getD i default := by
        have hfe := (ht1 j (by omega)).1
        rw [hfe] at htl
        have hc : ∀ {r : List Int} {a to : Int}, Tile (wordsAt (slWs ws cs sp qs) cs) a r to → (∀ y ∈ r, 0 ≤ wordsAt (slWs ws cs sp qs) cs y) → ∀ y ∈ r, a ≤ y := by
          intro r
          induction r with
          | nil => intro _ _ _ _ y hy; simp at hy
          | cons x r ih =>
            intro a to ht hn y hy
            obtain ⟨rfl, ht⟩ := ht
            rcases List.mem_cons.1 hy with rfl | hy
            · exact Int.le_refl _
            · have h7 := ih ht (fun z hz => hn z (by simp [hz])) y hy
              have h8 := hn x (by simp)
              omega
        exact hc htl (fun y hy => by have := wordsAt_bd hcs (hw.obj j hj y hy); omega) _ hjm
      omega
    subst hj0
    rw [hg0] at hjm
    obtain ⟨k, hk, hke⟩ := List.getElem_of_mem hjm
    rw [List.length_take] at hk
    rw [List.getElem_take] at hke
    have hke' : (slTo ws cs sp qs).getD k default = (slTo ws cs sp qs).getD i default := by
      rw [List.getD_eq_getElem?_getD, List.getElem?_eq_getElem (by omega)]; exact hke
    have := asc_of (f := fun _ => 0) htasc (show k < (slTo ws cs sp qs).length by omega) (show i < (slTo ws cs sp qs).length by rw [h.tlen]; exact hi) hke'
    omega
  have hperm : (f 0).Perm (qs.filter fun x => decide (x < (sp.getD 0 default).top)) := by
    have hf0n : (f 0).Nodup := by
      have := h6.nodup_iff.1 hnd
      rw [List.nodup_append] at this
      exact this.1
    rw [List.perm_ext_iff_of_nodup hf0n (hnq.filter _)]
    intro x
    rw [List.mem_filter, decide_eq_true_iff, hp.mem_iff, h6.mem_iff, List.mem_append, List.mem_append]
    constructor
    · intro hx
      have := (h5 0 (by omega)).mem hcs x hx
      have := objT_bd hcs this.1
      exact ⟨.inl hx, by omega⟩
    · rintro ⟨hx | hx | hx, hlt⟩
      · exact hx
      · have := (h5 1 (by omega)).mem hcs x hx
        have := riseF_ix sp 1 h3 0 1 (by omega) (by omega)
        omega
      · have := (h5 2 (by omega)).mem hcs x hx
        have := riseF_ix sp 1 h3 0 2 (by omega) (by omega)
        omega
  have hfil : (qs.filter fun x => decide (x < (sp.getD 0 default).top)) = ((qs.take (g 0).length).filter fun x => decide (x < (sp.getD 0 default).top)) := by
    have hd : ((qs.drop (g 0).length).filter fun x => decide (x < (sp.getD 0 default).top)) = [] := by
      rw [List.filter_eq_nil_iff]
      intro x hx
      obtain ⟨k, hk, rfl⟩ := List.getElem_of_mem hx
      rw [List.length_drop] at hk
      rw [List.getElem_drop]
      intro hlt
      have hlt := of_decide_eq_true hlt
      have hke : qs.getD ((g 0).length + k) default = qs[(g 0).length + k] := by rw [List.getD_eq_getElem?_getD, List.getElem?_eq_getElem (by omega)]; rfl
      rw [← hke] at hlt
      have := hm0 _ (by omega) hlt
      omega
    conv => lhs; rw [← List.take_append_drop (g 0).length qs]
    rw [List.filter_append, hd, List.append_nil]
  rw [perm_sum (hperm.map _), hfil]
  have hsz := sizes_eq hcs h
  have hsz2 : ((qs.take (g 0).length).map (wordsAt ws cs)) = ((g 0).map (wordsAt (slWs ws cs sp qs) cs)) := by
    rw [List.map_take, hsz, ← List.map_take, ← hg0]
  rw [← hsz2]
  exact sum_filter fun x hx => hpos x (List.mem_of_mem_take hx)
theorem SlideRes.ends {ws : List Int} {cs : List Cls} {sp : List Spc} {al qs : List Int} (hi : LayInv ws cs sp al) (h : SlideRes ws cs sp qs) : rise (slNow ws cs sp qs) = true ∧ ∀ s ∈ slNow ws cs sp qs, s.end_ ≤ (slWs ws cs sp qs).length := by
  obtain ⟨t, h1, _⟩ := h.tile
  refine ⟨rise_same hi.rise h.nlen fun j hj => ⟨(h1 j hj).1, (h1 j hj).2.1, (h1 j hj).2.2.1⟩, fun s hs => ?_⟩
  obtain ⟨j, hj, rfl⟩ := List.getElem_of_mem hs
  have hj' : j < sp.length := by rw [← h.nlen]; exact hj
  have h2 := (h1 j hj').2.1
  rw [List.getD_eq_getElem?_getD, List.getElem?_eq_getElem hj] at h2
  have h3 := hi.end5 _ (mem_getD hj')
  rw [h.len, hi.len]
  have h4 : (slNow ws cs sp qs)[j].end_ = (sp.getD j default).end_ := h2
  omega
theorem all_of_get {α : Type} [Inhabited α] {l : List α} {P : α → Prop} (h : ∀ j : Nat, j < l.length → P (l.getD j default)) : ∀ x ∈ l, P x := fun x hx => by
  obtain ⟨j, hj, rfl⟩ := List.getElem_of_mem hx
  have := h j hj
  rw [List.getD_eq_getElem?_getD, List.getElem?_eq_getElem hj] at this
  exact this
theorem all_sum {ws : List Int} {cs : List Cls} {sp : List Spc} {al qs : List Int} (hcs : ∀ x ∈ cs, clsR x = true) (hp : qs.Perm al) (hfull : usedL sp = (al.map (wordsAt ws cs)).sum) (h : SlideRes ws cs sp qs) {g : Nat → List Int} (hw : Walks (slWs ws cs sp qs) cs (slNow ws cs sp qs) (slTo ws cs sp qs) g) : usedL (slNow ws cs sp qs) = usedL sp := by
  rw [usedL_cat hw, ← sizes_eq hcs h, hfull, perm_sum (hp.map _)]
theorem used_empty (s : Spc) : spUsed (spEmpty s) = 0 := by
  unfold spEmpty spUsed
  split
  · simp
  · simp
theorem usedL_take {now : List Spc} (hR : ∀ j : Nat, j < now.length → spR (now.getD j default) = true) {i : Nat} (hi : i < now.length) : usedL (now.take (i + 1)) = usedL (now.take i) + spUsed (now.getD i default) := by
  unfold usedL spUsed
  rw [if_pos (hR i hi), take_getD hi, List.map_append, List.sum_append]
  simp
theorem usedL_bd {now : List Spc} (hR : ∀ j : Nat, j < now.length → spR (now.getD j default) = true) : ∀ {i : Nat}, i ≤ now.length → 0 ≤ usedL (now.take i) ∧ usedL (now.take i) ≤ 4096 * i
  | 0, _ => by simp [usedL]
  | i + 1, h => by
    have h1 := usedL_bd hR (i := i) (by omega)
    have h2 := spR_t (hR i (by omega))
    rw [usedL_take hR (by omega)]
    unfold spUsed
    rw [if_pos (hR i (by omega))]
    omega
/-- Where nothing stays nothing is left. -/
theorem run_none {ws : List Int} {cs : List Cls} {now : List Spc} {to : List Int} {g : Nat → List Int} (hcs : ∀ x ∈ cs, clsR x = true) (hw : Walks ws cs now to g) (hr : rise now = true) (he : ∀ s ∈ now, s.end_ ≤ ws.length) : slideE ws cs now [] [0] = 0 ∧ slNow ws cs now [] = now.map spEmpty := by
  have ha : SlArgs ws now [] := ⟨rfl, rfl, hr, fun q => by
    obtain ⟨s, hs, hq⟩ := List.any_eq_true.1 q
    have := of_decide_eq_true hq
    have := he s hs
    omega⟩
  have hws := walksF_segs hcs (f := g) (l := now) (fun k hk => (hw.tile k hk).seg (hw.obj k hk))
  refine ⟨slideE_ok ha hws (by simp) (by simp) (by simp [slG, toG, mset]), ?_⟩
  show (planR now []).2.2 = _
  rw [planR_ok hr (by simp) rfl]
end Go.Proofs.Ytmmmbkmjkpfleaa
