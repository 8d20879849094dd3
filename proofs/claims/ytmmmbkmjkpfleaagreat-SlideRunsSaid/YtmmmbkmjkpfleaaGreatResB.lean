/- Resources: slices, read only (viewR) or of the call's own (ownR); append. No statement of the seat is proved here; conditions: none. -/
import Derived.Test.YtmmmbkmjkpfleaaGreatResA
import Derived.Maps.AppendAt
namespace Go.Proofs.YtmmmbkmjkpfleaaGreat
open Go Go.RowKit

def blkOf : Value → Nat
  | .slice (some a) _ _ => a.block
  | _ => 0
def offOf : Value → Nat
  | .slice (some a) _ _ => a.off
  | _ => 0
def footV : Value → List Nat
  | .slice (some a) _ _ => [a.block]
  | _ => []
def isNilV : Value → Bool
  | .slice none _ _ => true
  | _ => false
theorem footV_nd (v : Value) : (footV v).Nodup := by unfold footV; split <;> simp
theorem footV_own (v : Value) (k : Nat) : k ∈ footV v ↔ v.ownBlock = some k := by
  unfold footV Value.ownBlock
  split <;> simp [eq_comm]

/-- A slice that reads as the list l, each element m cells. -/
structure ViewOk {α : Type} (enc : α → List Value) (m : Nat) (v : Value) (l : List α) (w : World) : Prop where
  form : ∃ A c, v = .slice A l.length c ∧ l.length ≤ c ∧ c ≤ maxLen ∧ (l ≠ [] → ∃ b o, A = some ⟨b, o, none⟩)
  blk : ∀ k ∈ footV v, k < w.heap.size
  len : ∀ x, (enc x).length = m
  pos : 0 < m
  cell : ∀ k u, (l.flatMap enc)[k]? = some u → w.cell? ⟨blkOf v, offOf v + k, none⟩ = some u
def viewR {α : Type} (enc : α → List Value) (m : Nat) (v : Value) (l : List α) : Res where
  foot := footV v
  ok := fun w => ViewOk enc m v l w
  st := fun w w' h hw => by
    have hb : ∀ k ∈ footV v, k < w'.heap.size := fun k hk => by
      have h1 := hw.blk k hk
      have h2 := h k hk
      rw [Array.getElem?_eq_getElem h1] at h2
      exact (Array.getElem?_eq_some_iff.1 h2).1
    refine ⟨hw.form, hb, hw.len, hw.pos, fun k u hu => ?_⟩
    obtain ⟨A, c, hv, _, _, hA⟩ := hw.form
    have hl : l ≠ [] := by rintro rfl; simp at hu
    obtain ⟨b, o, rfl⟩ := hA hl
    subst hv
    have hc := hw.cell k u hu
    rw [← hc]
    exact World.cell?_of_block (h b (by simp [footV]))
  lt := fun w hw k hk => hw.blk k hk
/-- A slice whose row the call owns: it may be appended to. -/
def ownR {α : Type} (e : TypeId) (enc : α → List Value) (m : Nat) (v : Value) (l : List α) : Res where
  foot := footV v
  ok := fun w => w.ownsRow 0 e m v l.length (l.flatMap enc) ∧ (∀ x, (enc x).length = m) ∧ 0 < m
  st := fun w w' h hw => by
    refine ⟨⟨hw.1.1, ?_⟩, hw.2⟩
    rcases hw.1.2 with h2 | ⟨g, cap, cur, hv, hg, hh, r⟩
    · exact .inl h2
    · exact .inr ⟨g, cap, cur, hv, hg, by rw [h g (by rw [hv]; simp [footV])]; exact hh, r⟩
  lt := fun w hw k hk => (hw.1.lt k ((footV_own v k).1 hk)).2
section
variable {α : Type} {enc : α → List Value} {m : Nat} {v : Value} {l : List α} {w0 w w' : World} {e : TypeId}
theorem own_view (h : (ownR e enc m v l).ok w) : (viewR enc m v l).ok w := by
  obtain ⟨⟨hlen, h2⟩, h3, h4⟩ := h
  rcases h2 with ⟨rfl, h0⟩ | ⟨g, cap, cur, rfl, _, hh, hn, hm, hs, ht⟩
  · have : l = [] := List.eq_nil_of_length_eq_zero h0
    subst this
    exact ⟨⟨none, 0, rfl, by simp, by simp, by simp⟩, by simp [footV], h3, h4, by simp⟩
  · refine ⟨⟨_, cap, rfl, hn, hm, fun _ => ⟨g, 0, rfl⟩⟩, ?_, h3, h4, fun k u hu => ?_⟩
    · intro k hk; simp [footV] at hk; subst hk; exact (Array.getElem?_eq_some_iff.1 hh).1
    · simp only [blkOf, offOf, Nat.zero_add]
      rw [cell_of_row w g k _ _ _ hh]
      have hk : k < l.length * m := by rw [← hlen]; exact (List.getElem?_eq_some_iff.1 hu).1
      rw [← ht, List.getElem?_take_of_lt hk] at hu
      simpa using hu
theorem view_len {P : Program} {lv : Env} {x : Operand} {d : Option Tmp} {t T E : TypeId} {p : String} {af : Array Edge} {g : Option (Nat × Bool)} (hT : sliceT P T = some E) (hR : (viewR enc m v l).ok w) (hx : ev lv x = some v) :
    Ex P lv w ⟨d, .call ⟨.builtin .len, #[x], #[T]⟩, t, p, af, g⟩ (.int .i64 l.length) w := by
  obtain ⟨A, c, rfl, _⟩ := hR.form
  exact X.len hT hx
theorem X.idxV {P : Program} {lv : Env} {x y : Operand} {d : Option Tmp} {t T E : TypeId} {p : String} {af : Array Edge} {g : Option (Nat × Bool)} {i : Int} {k : IntKind} {j r : Nat} (hT : sliceT P T = some E) (hs : szT P E = some m) (hR : (viewR enc m v l).ok w) (hx : ev lv x = some v) (hi : ev lv y = some (.int k i))
    (hj : i = (j : Int)) (hlt : j < l.length) (hr : offOf v + j * m = r) : Ex P lv w ⟨d, .indexAddr T x y, t, p, af, g⟩ (.pointer (some ⟨blkOf v, r, none⟩)) w := by
  obtain ⟨A, c, rfl, _, _, hA⟩ := hR.form
  obtain ⟨b, o, rfl⟩ := hA (by intro h; rw [h] at hlt; simp at hlt)
  exact X.idxS hT hs hx hi hj hlt hr
theorem view_cell (hR : (viewR enc m v l).ok w) {j f o : Nat} {x : α} {u : Value} (hj : l[j]? = some x) (hf : (enc x)[f]? = some u) (ho : o = offOf v + j * m + f) : w.cell? ⟨blkOf v, o, none⟩ = some u := by
  have hfm : f < m := by rw [← hR.len x]; exact (List.getElem?_eq_some_iff.1 hf).1
  have := hR.cell (j * m + f) u (by rw [flat_get enc m hR.len l j f x hj hfm]; exact hf)
  rw [ho, Nat.add_assoc]; exact this
theorem view_cells (hR : (viewR enc m v l).ok w) {j o : Nat} {x : α} (hj : l[j]? = some x) (ho : o = offOf v + j * m) : ∀ (f : Nat) (u : Value), (enc x)[f]? = some u → w.cell? ((⟨blkOf v, o, none⟩ : Addr).add f) = some u := fun f u hf => by
  rw [addr_add]; exact view_cell hR hj hf (by rw [ho])
theorem view_form (hR : (viewR enc m v l).ok w) : ∃ A n c, v = .slice A n c := by
  obtain ⟨A, c, h, _⟩ := hR.form
  exact ⟨A, _, c, h⟩
theorem view_cells1 (hR : (viewR enc m v l).ok w) : v.cells = #[v] := by
  obtain ⟨A, n, c, rfl⟩ := view_form hR
  rfl
theorem view_one (hR : (viewR enc m v l).ok w) : v.oneCell' = true := by
  obtain ⟨A, n, c, rfl⟩ := view_form hR
  rfl
theorem view_len_le (hR : (viewR enc m v l).ok w) : l.length ≤ 9223372036854775807 := by
  obtain ⟨A, c, _, h1, h2, _⟩ := hR.form
  unfold maxLen at h2; omega
theorem view_nil (hR : (viewR enc m v l).ok w) (h : isNilV v = true) : l = [] := by
  obtain ⟨A, c, rfl, h1, h2, hA⟩ := hR.form
  cases A with
  | some a => simp [isNilV] at h
  | none =>
    refine Classical.byContradiction fun hl => ?_
    obtain ⟨b, o, h⟩ := hA hl
    cases h
theorem X.eqNilV {P : Program} {lv : Env} {x y : Operand} {d : Option Tmp} {t T T' E : TypeId} {p : String} {af : Array Edge} {g : Option (Nat × Bool)} (hT : sliceT P T = some E) (hR : (viewR enc m v l).ok w) (hx : ev lv x = some v) (hy : ev lv y = some (.slice none 0 0)) :
    Ex P lv w ⟨d, .binOp .eql T x y T', t, p, af, g⟩ (.bool (isNilV v)) w := by
  obtain ⟨A, c, rfl, _⟩ := hR.form
  have : isNilV (.slice A l.length c) = A.isNone := by cases A <;> rfl
  rw [this]
  exact X.eqSn hT hx hy
theorem New.own (h : (ownR e enc m v l).ok w') (hb : ∀ k, v.ownBlock = some k → w.heap.size ≤ k) : New w w' (ownR e enc m v l) :=
  ⟨h, fun k hk => hb k ((footV_own v k).1 hk), footV_nd v⟩
theorem own_nil (w : World) (e : TypeId) (enc : α → List Value) (m : Nat) (h1 : ∀ x, (enc x).length = m) (h2 : 0 < m) : (ownR e enc m (.slice none 0 0) []).ok w := ⟨World.ownsRow_nil w 0 e m, h1, h2⟩
theorem Hp.addNil {F : List Nat} {Rs : List Res} (hp : Hp w0 F Rs w) (e : TypeId) (enc : α → List Value) (m : Nat) (h1 : ∀ x, (enc x).length = m) (h2 : 0 < m) : Hp w0 F (ownR e enc m (.slice none 0 0) [] :: Rs) w :=
  hp.new (Chg.refl _ _) (own_nil w e enc m h1 h2) (by simp [ownR, footV]) (by simp [ownR, footV])
/-- append of what reads as the list news -/
theorem run_append_view {P : Program} {T ty : TypeId} {bytes : Nat} {u : Value} {news : List α} {F : List Nat} {Rs : List Res} (hp : Hp w0 F Rs w) (i : Nat) (hi : Rs[i]? = some (ownR e enc m v l)) (hT : sliceT P T = some e) (hz : ∃ z, (P.info? e).bind (·.zero) = some z ∧ z.cells.size = m) (hs : szT P e = some m) (hy : bytesT P e = some bytes)
    (hN : ViewOk enc m u news w) (h1 : ∀ x, (enc x).all (·.oneCell') = true) (hle : (l.length + news.length) * bytes ≤ 140737488355328) (hle' : l.length + news.length ≤ 9223372036854775807) :
    ∃ v' w', (Builtin.append_ #[T, T] ty #[v, u]).run P w = .ok v' w' ∧ Hp w0 F (Rs.set i (ownR e enc m v' (l ++ news))) w' := by
  obtain ⟨A, c, rfl, hc, hm, hA⟩ := hN.form
  have hR := hp.at i hi
  obtain ⟨info, hinfo, hbytes⟩ := run_bytesT hy
  obtain ⟨z, hz, hzs⟩ := hz
  rw [hinfo] at hz
  have hsz : info.size = m := by unfold szT at hs; rw [hinfo] at hs; simpa using hs
  cases A with
  | none =>
    have hnil : news = [] := by
      refine Classical.byContradiction fun hl => ?_
      obtain ⟨b, o, h⟩ := hA hl
      cases h
    subst hnil
    refine ⟨v, w, ?_, ?_⟩
    · rcases hR.1.2 with ⟨rfl, h0⟩ | ⟨g, cap, cur, rfl, _, _, hnc, _⟩
      · simp [Builtin.append_, run_underlying (sliceT_eq hT), sizeOf, typeInfo, hinfo, Builtin.lenOf, Builtin.firstCells]
      · simp [Builtin.append_, run_underlying (sliceT_eq hT), sizeOf, typeInfo, hinfo, Builtin.lenOf, Builtin.firstCells, hnc, storeCells]
    · rw [List.append_nil]
      have : Rs.set i (ownR e enc m v l) = Rs := by
        apply List.ext_getElem?
        intro j
        rw [List.getElem?_set]
        split
        · rename_i hij
          subst hij
          rw [hi]; simp
          exact (List.getElem?_eq_some_iff.1 hi).1
        · rfl
      rw [this]; exact hp
  | some a =>
    have hcell : ∀ j x, (news.flatMap enc)[j]? = some x → w.cell? (a.add j) = some x := by
      intro j x hx
      have hl : news ≠ [] := by rintro rfl; simp at hx
      obtain ⟨b, o, h⟩ := hA hl
      cases h
      rw [addr_add]
      exact hN.cell j x hx
    have hflat : ∀ (l : List α), (l.flatMap enc).length = l.length * m := by
      intro l
      induction l with
      | nil => simp
      | cons x l ih => rw [List.flatMap_cons, List.length_append, ih, hN.len, List.length_cons, Nat.succ_mul]; omega
    obtain ⟨v', w', h2, h3, h4, _, h6⟩ := run_append_own_at (P := P) w 0 T ty e info z m bytes (sliceT_eq hT) hinfo (by simpa using hz) hsz hbytes hzs hN.pos v l.length (l.flatMap enc) hR.1 a news.length c (news.flatMap enc) (hflat news) hcell
      (fun x hx => by
        obtain ⟨y, _, hy⟩ := List.mem_flatMap.1 hx
        have := h1 y
        rw [List.all_eq_true] at this
        exact this x hy) (by unfold maxLen; omega) hle (Nat.zero_le _)
    refine ⟨v', w', h2, ?_⟩
    refine hp.upd (G := footV v) i hi ⟨h4.os, h4.tape, h4.output, h4.size, fun k hk hn => h4.block k hk (fun he => hn ((footV_own v k).2 he.symm))⟩ (fun k hk => hk) ⟨by rw [List.length_append, List.flatMap_append]; exact h3, hR.2⟩ (fun k hk => ?_) (footV_nd v')
    have hk' := (footV_own v' k).1 hk
    rcases h6 with h | h
    · exact .inl ((footV_own v k).2 (h ▸ hk'))
    · rw [h] at hk'; cases hk'; exact .inr (Nat.le_refl _)
theorem WL.append {P : Program} {n : Nat} {L : List Oper} {Q : Exit → Act → World → Prop} {rest : List Oper} {lv : Env} {x y : Operand} {d : Option Tmp} {t T : TypeId} {p : String} {af : Array Edge} {bytes : Nat} {u : Value} {news : List α} {F : List Nat} {Rs : List Res} (hp : Hp w0 F Rs w) (i : Nat) (hi : Rs[i]? = some (ownR e enc m v l)) (hT : sliceT P T = some e) (hz : ∃ z, (P.info? e).bind (·.zero) = some z ∧ z.cells.size = m) (hs : szT P e = some m) (hy : bytesT P e = some bytes)
    (hx : ev lv x = some v) (hyv : ev lv y = some u) (hN : ViewOk enc m u news w) (h1 : ∀ x, (enc x).all (·.oneCell') = true) (hle : (l.length + news.length) * bytes ≤ 140737488355328 ∧ l.length + news.length ≤ 9223372036854775807) (hd : okd n d = true)
    (k : ∀ v' w', Hp w0 F (Rs.set i (ownR e enc m v' (l ++ news))) w' → WL P n L Q rest (puto d v' lv) w') : WL P n L Q (⟨d, .call ⟨.builtin .append, #[x, y], #[T, T]⟩, t, p, af, none⟩ :: rest) lv w := by
  obtain ⟨v', w', h2, h3⟩ := run_append_view (P := P) (T := T) (ty := t) hp i hi hT hz hs hy hN h1 hle.1 hle.2
  exact WL.val rfl hd (X.blt (xs := [x, y]) (vs := [v, u]) (by simp [evs, hx, hyv]) (fun cs => by simp [builtin, h2])) (k v' w' h3)
theorem WO.append {P : Program} {n : Nat} {L : List Oper} {Q : Exit → Act → World → Prop} {S : World → Prop} {fuel : Nat} {listed : Array Bool} {lv : Env} {x y : Operand} {d : Option Tmp} {t T : TypeId} {p : String} {af : Array Edge} {bytes o : Nat} {u : Value} {news : List α} {F : List Nat} {Rs : List Res} (hp : Hp w0 F Rs w) (i : Nat) (ho : L[o]? = some ⟨d, .call ⟨.builtin .append, #[x, y], #[T, T]⟩, t, p, af, none⟩) (hi : Rs[i]? = some (ownR e enc m v l)) (hT : sliceT P T = some e) (hz : ∃ z, (P.info? e).bind (·.zero) = some z ∧ z.cells.size = m) (hs : szT P e = some m) (hy : bytesT P e = some bytes)
    (hx : ev lv x = some v) (hyv : ev lv y = some u) (hN : ViewOk enc m u news w) (h1 : ∀ x, (enc x).all (·.oneCell') = true) (hle : (l.length + news.length) * bytes ≤ 140737488355328 ∧ l.length + news.length ≤ 9223372036854775807) (hd : okd n d = true)
    (k : ∀ v' w', Hp w0 F (Rs.set i (ownR e enc m v' (l ++ news))) w' → S w' ∧ WD P n L Q S fuel (listed.setIfInBounds o true) (puto d v' lv) w') : WO P n L Q S fuel listed o lv w := by
  obtain ⟨v', w', h2, h3⟩ := run_append_view (P := P) (T := T) (ty := t) hp i hi hT hz hs hy hN h1 hle.1 hle.2
  have h := k v' w' h3
  exact WO.val ho rfl hd (X.blt (xs := [x, y]) (vs := [v, u]) (by simp [evs, hx, hyv]) (fun cs => by simp [builtin, h2])) h.1 h.2
theorem view_of_blk {F : List Nat} {Rs : List Res} {b c : Nat} {T' : TypeId} {fr : Nat × Nat} {cs : Array Value} (hp : Hp w0 F Rs w) (i : Nat) (hi : Rs[i]? = some (blkR b (.cells cs T' fr))) (h1 : ∀ x, (enc x).length = m) (h2 : 0 < m) (hl : l.flatMap enc = cs.toList) (hc : l.length ≤ c) (hm : c ≤ 9223372036854775807) :
    ViewOk enc m (.slice (some ⟨b, 0, none⟩) l.length c) l w := by
  have hb := hp.at i hi
  refine ⟨⟨_, c, rfl, hc, by unfold maxLen; omega, fun _ => ⟨b, 0, rfl⟩⟩, ?_, h1, h2, fun k u hu => ?_⟩
  · intro k hk; simp [footV] at hk; subst hk; exact (Array.getElem?_eq_some_iff.1 hb).1
  · simp only [blkOf, offOf, Nat.zero_add]
    rw [cell_of_row w b k _ _ _ hb]
    rw [hl] at hu; simpa using hu
/-- Some of the resources, each once. -/
theorem Hp.sel {F : List Nat} {Rs : List Res} (h : Hp w0 F Rs w) (is : List Nat) (hn : is.Nodup) : Hp w0 F (picks is Rs) w := by
  have hmem : ∀ R ∈ picks is Rs, R ∈ Rs := fun R hR => by
    obtain ⟨i, _, hi⟩ := List.mem_filterMap.1 hR
    exact List.mem_of_getElem? hi
  refine ⟨h.chg, fun R hR => h.ok R (hmem R hR), ?_, fun R hR => h.wr R (hmem R hR)⟩
  have hnd : ∀ R ∈ Rs, R.foot.Nodup := fun R hR => by
    have := h.dis
    obtain ⟨s, t, rfl⟩ := List.append_of_mem hR
    rw [List.flatMap_append, List.flatMap_cons, List.nodup_append, List.nodup_append] at this
    exact this.2.1.1
  clear hmem
  induction is with
  | nil => simp [picks]
  | cons i is ih =>
    rw [List.nodup_cons] at hn
    have ih := ih hn.2
    unfold picks at ih ⊢
    rw [List.filterMap_cons]
    cases hi : Rs[i]? with
    | none => exact ih
    | some R =>
      show (List.flatMap _ (R :: _)).Nodup
      rw [List.flatMap_cons, List.nodup_append]
      refine ⟨hnd R (List.mem_of_getElem? hi), ih, fun a ha b hb e => ?_⟩
      subst e
      obtain ⟨S, hS, hk⟩ := List.mem_flatMap.1 hb
      obtain ⟨j, hj, hjS⟩ := List.mem_filterMap.1 hS
      exact foot_dis h hi hjS (fun e => hn.1 (e ▸ hj)) a ha hk
end
theorem get_some {α : Type} [Inhabited α] {l : List α} {j : Nat} (h : j < l.length) : l[j]? = some (l.getD j default) := by
  rw [List.getElem?_eq_getElem h, List.getD_eq_getElem?_getD, List.getElem?_eq_getElem h]; rfl
theorem zeroT_ex {P : Program} {T : TypeId} {zs : Array Value} (h : zeroT P T = some zs) : ∃ z, (P.info? T).bind (·.zero) = some z ∧ z.cells.size = zs.size := by
  unfold zeroT at h
  cases hq : P.info? T with
  | none => rw [hq] at h; simp at h
  | some i =>
    rw [hq] at h; simp at h
    obtain ⟨v, hv, hz⟩ := h
    exact ⟨v, by simp [hv], by rw [hz]⟩
section
variable {P : Program} {n : Nat} {L : List Oper} {Q : Exit → Act → World → Prop} {S : World → Prop} {fuel : Nat} {listed : Array Bool} {rest : List Oper} {l : Env} {w0 w w' : World} {F : List Nat} {Rs : List Res} {t : TypeId} {p : String} {af : Array Edge}
theorem WL.bsl {T e : TypeId} {m d : Nat} {ps : List (Nat × Operand)} {vs : List (Nat × Value)} {cs : Array Value} (hp : Hp w0 F Rs w) (hq : evp l ps = some vs)
    (h : ∀ w : World, (Instr.buildSlice T m vs.toArray).run P w = .ok (.slice (some ⟨w.heap.size, 0, none⟩) m m) (w.alloc (.cells cs e))) (hd : okd n (some d) = true)
    (k : ∀ b w', Hp w0 F (blkR b (.cells cs e) :: Rs) w' → WL P n L Q rest ((d, .slice (some ⟨b, 0, none⟩) m m) :: l) w') : WL P n L Q (⟨some d, .buildSlice T m ps.toArray, t, p, af, none⟩ :: rest) l w :=
  WL.val rfl hd (X.bsl hq (h w)) (k _ _ (hp.alloc _))
theorem WO.bsl {T e : TypeId} {m d o : Nat} {ps : List (Nat × Operand)} {vs : List (Nat × Value)} {cs : Array Value} (hp : Hp w0 F Rs w) (hi : L[o]? = some ⟨some d, .buildSlice T m ps.toArray, t, p, af, none⟩) (hq : evp l ps = some vs)
    (h : ∀ w : World, (Instr.buildSlice T m vs.toArray).run P w = .ok (.slice (some ⟨w.heap.size, 0, none⟩) m m) (w.alloc (.cells cs e))) (hd : okd n (some d) = true)
    (k : ∀ b w', Hp w0 F (blkR b (.cells cs e) :: Rs) w' → S w' ∧ WD P n L Q S fuel (listed.setIfInBounds o true) ((d, .slice (some ⟨b, 0, none⟩) m m) :: l) w') : WO P n L Q S fuel listed o l w :=
  have hk := k _ _ (hp.alloc _)
  WO.val hi rfl hd (X.bsl hq (h w)) hk.1 hk.2
theorem Hp.ofEmpty {α : Type} {b : Nat} {e : TypeId} (hp : Hp w0 F Rs w) (i : Nat) (hi : Rs[i]? = some (blkR b (.cells #[] e (0, 0)))) (enc : α → List Value) (m : Nat) (h1 : ∀ x, (enc x).length = m) (h2 : 0 < m) : Hp w0 F (Rs.set i (ownR e enc m (.slice (some ⟨b, 0, none⟩) 0 0) [])) w :=
  hp.upd (G := []) i hi (Chg.refl _ _) (by simp) ⟨⟨by simp, .inr ⟨b, 0, #[], rfl, Nat.zero_le _, hp.at i hi, by simp, by unfold maxLen; omega, by simp, by simp⟩⟩, h1, h2⟩ (by simp [ownR, blkR, footV]) (by simp [ownR, footV])
end
def encI (x : Int) : List Value := [.int .i64 x]
theorem encI_len (x : Int) : (encI x).length = 1 := rfl
theorem encI_one (x : Int) : (encI x).all (·.oneCell') = true := rfl
theorem flat_encI (l : List Int) : l.flatMap encI = l.map (Value.int .i64) := by
  induction l with
  | nil => rfl
  | cons x l ih => rw [List.flatMap_cons, List.map_cons, ih]; rfl
theorem arena_view {w : World} {p b : Nat} {ws : List Int} {o n c : Nat} (h : (arenaR p b ws).ok w) (hn : o + n ≤ ws.length) (hc : n ≤ c) (hm : c ≤ 9223372036854775807) : (viewR encI 1 (.slice (some ⟨b, o, none⟩) n c) ((ws.drop o).take n)).ok w := by
  have hl : ((ws.drop o).take n).length = n := by simp; omega
  refine ⟨⟨_, c, by rw [hl], by omega, by unfold maxLen; omega, fun _ => ⟨b, o, rfl⟩⟩, ?_, encI_len, by omega, fun k u hu => ?_⟩
  · intro k hk; simp [footV] at hk; subst hk
    exact (arenaR p k ws).lt w h k (by simp [arenaR])
  · rw [flat_encI] at hu
    simp only [blkOf, offOf]
    have hk : k < n := by have := (List.getElem?_eq_some_iff.1 hu).1; rw [List.length_map, hl] at this; exact this
    rw [arena_cell (j := o + k) h (by omega) rfl]
    rw [List.getElem?_map, List.getElem?_take_of_lt hk, List.getElem?_drop, List.getElem?_eq_getElem (by omega)] at hu
    rw [List.getD_eq_getElem?_getD, List.getElem?_eq_getElem (by omega)]
    simpa using hu

theorem Hp.newAt {w0 w : World} {Rs : List Res} {R : Res} (hp : Hp w0 [] Rs w) (i : Nat) (hi : Rs[i]? = some R) : New w0 w R := by
  have hm := List.mem_of_getElem? hi
  refine ⟨hp.at i hi, fun k hk => (hp.wr R hm k hk).resolve_right (by simp), ?_⟩
  have := hp.dis
  obtain ⟨s, t, rfl⟩ := List.append_of_mem hm
  rw [List.flatMap_append, List.flatMap_cons, List.nodup_append, List.nodup_append] at this
  exact this.2.1.1
theorem view_none {α : Type} {enc : α → List Value} {m : Nat} {w : World} (h1 : ∀ x, (enc x).length = m) (h2 : 0 < m) : (viewR enc m (.slice none 0 0) []).ok w :=
  ⟨⟨none, 0, rfl, by simp, by simp, by simp⟩, by simp [footV], h1, h2, by simp⟩
section
variable {P : Program} {n : Nat} {L : List Oper} {Q : Exit → Act → World → Prop} {rest : List Oper} {l : Env} {w0 w w' : World} {F : List Nat} {Rs : List Res} {t : TypeId} {p : String} {af : Array Edge} {d : Option Tmp} {g : Option (Nat × Bool)} {x y : Operand}
theorem X.mn {k : IntKind} {a b : Int} {ts : Array TypeId} (hx : ev l x = some (.int k a)) (hy : ev l y = some (.int k b)) : Ex P l w ⟨d, .call ⟨.builtin .min, #[x, y], ts⟩, t, p, af, g⟩ (.int k (min a b)) w :=
  X.blt (xs := [x, y]) (vs := [.int k a, .int k b]) (by simp [evs, hx, hy]) (fun cs => by
    have : (if b < a then b else a) = min a b := by split <;> omega
    simp [builtin, Builtin.min_, Builtin.min2, this])
theorem X.mx {k : IntKind} {a b : Int} {ts : Array TypeId} (hx : ev l x = some (.int k a)) (hy : ev l y = some (.int k b)) : Ex P l w ⟨d, .call ⟨.builtin .max, #[x, y], ts⟩, t, p, af, g⟩ (.int k (max a b)) w :=
  X.blt (xs := [x, y]) (vs := [.int k a, .int k b]) (by simp [evs, hx, hy]) (fun cs => by
    have : (if a < b then b else a) = max a b := by split <;> omega
    simp [builtin, Builtin.max_, Builtin.max2, this])
theorem run_makeSlice {T e : TypeId} {z : Value} {bytes m : Nat} {a : Int} (hT : sliceT P T = some e) (hs : szT P e = some 1) (hz : zeroT P e = some #[z]) (hy : bytesT P e = some bytes) (ha : a = (m : Int)) (hle : bytes * m ≤ 281474976710656) (hm : m ≤ 9223372036854775807) :
    (Instr.makeSlice T (.int .i64 a) (.int .i64 a)).run P w = .ok (.slice (some ⟨w.heap.size, 0, none⟩) m m) (w.alloc (.cells (Array.replicate m z) e)) := by
  subst ha
  obtain ⟨info, hinfo, hbytes⟩ := run_bytesT hy
  have hsz : info.size = 1 := by unfold szT at hs; rw [hinfo] at hs; simpa using hs
  obtain ⟨v, hv, hzc⟩ := run_zeroT (w := w) hz
  have hw : IntKind.i64.wrap (m : Int) = m := wrap_in64 (by unfold In64; omega)
  have h1 : ¬ ((bytes : Int) * (m : Int) > 281474976710656) := by
    have : ((bytes * m : Nat) : Int) ≤ ((281474976710656 : Nat) : Int) := Int.ofNat_le.2 hle
    rw [Int.natCast_mul] at this; omega
  have hmz : ¬ ((m : Int) < 0) := by omega
  have hrow : ((Array.range m).map (fun i => (#[z] : Array Value)[i % 1]!)) = Array.replicate m z := by
    apply Array.ext
    · simp
    · intro i h1 h2
      simp [Nat.mod_one]
  by_cases h0 : m = 0
  · subst h0
    have hw0 : IntKind.i64.wrap 0 = 0 := by simpa using hw
    simp [Instr.makeSlice, run_underlying (sliceT_eq hT), asInt, asIntOf, typeInfo, hinfo, hbytes, hw0, sizeOf, hsz, newRow]
    simp [Array.range]
  · simp [Instr.makeSlice, run_underlying (sliceT_eq hT), asInt, asIntOf, typeInfo, hinfo, hbytes, hw, hmz, h1, sizeOf, hsz, h0, hv, hzc, newRow]
    congr 2
    apply Array.ext
    · simp
    · intro i h1 h2
      simp [Nat.mod_one]
theorem WL.mks {T e : TypeId} {z : Value} {bytes m d : Nat} {a : Int} (hp : Hp w0 F Rs w) (hT : sliceT P T = some e) (hs : szT P e = some 1) (hz : zeroT P e = some #[z]) (hy : bytesT P e = some bytes) (hx : ev l x = some (.int .i64 a)) (hx' : ev l y = some (.int .i64 a)) (ha : a = (m : Int)) (hle : bytes * m ≤ 281474976710656 ∧ m ≤ 9223372036854775807) (hd : okd n (some d) = true)
    (k : ∀ b w', Hp w0 F (blkR b (.cells (Array.replicate m z) e) :: Rs) w' → WL P n L Q rest ((d, .slice (some ⟨b, 0, none⟩) m m) :: l) w') : WL P n L Q (⟨some d, .makeSlice T x y, t, p, af, none⟩ :: rest) l w := by
  refine WL.val rfl hd (fun ρ hρ => ?_) (k _ _ (hp.alloc _))
  simp only [execOp, hρ _ _ hx, hρ _ _ hx', Sem.run_bind, run_makeSlice hT hs hz hy ha hle.1 hle.2, Result.andThen_ok, Sem.run_pure]
theorem X.copyNil {T T' e : TypeId} {sz : Nat} (hT : sliceT P T = some e) (hs : szT P e = some sz) (hx : ev l x = some (.slice none 0 0)) (hy : ev l y = some (.slice none 0 0)) : Ex P l w ⟨d, .call ⟨.builtin .copy, #[x, y], #[T, T']⟩, t, p, af, g⟩ (.int .i64 0) w :=
  X.blt (xs := [x, y]) (vs := [.slice none 0 0, .slice none 0 0]) (by simp [evs, hx, hy]) (fun cs => by
    simp [builtin, Builtin.copy_, run_underlying (sliceT_eq hT), Builtin.lenOf, Builtin.firstCells, run_szT hs, goInt])
end
/-- The words with k of them, from 'to' on, made those that lie from 'from' on. -/
def moveW (ws : List Int) (to fr k : Nat) : List Int := ws.mapIdx fun i y => if to ≤ i ∧ i < to + k then ws.getD (fr + (i - to)) 0 else y
theorem moveW_length (ws : List Int) (to fr k : Nat) : (moveW ws to fr k).length = ws.length := by simp [moveW]
theorem moveW_zero (ws : List Int) (to fr : Nat) : moveW ws to fr 0 = ws := by
  apply List.ext_getElem (by simp [moveW])
  intro i h1 h2
  simp only [moveW, List.getElem_mapIdx]
  rw [if_neg (by omega)]
theorem moveW_eq (ws : List Int) (to fr k : Nat) (h1 : to + k ≤ ws.length) (h2 : fr + k ≤ ws.length) : moveW ws to fr k = ws.take to ++ (ws.drop fr).take k ++ ws.drop (to + k) := by
  apply List.ext_getElem
  · simp [moveW]; omega
  intro i hi1 hi2
  simp only [moveW, List.getElem_mapIdx, List.getElem_append, List.length_take, List.length_drop, List.length_append]
  simp only [moveW, List.length_mapIdx] at hi1
  by_cases h : i < to
  · rw [dif_pos (by omega), dif_pos (by omega), if_neg (by omega)]; simp
  · by_cases h3 : i < to + k
    · rw [dif_pos (by omega), dif_neg (by omega), if_pos (by omega), List.getD_eq_getElem?_getD, List.getElem?_eq_getElem (by omega)]
      simp only [Option.getD_some, List.getElem_take, List.getElem_drop]
      congr 1; omega
    · rw [dif_neg (by omega), if_neg (by omega)]
      simp only [List.getElem_drop]
      congr 1; omega
theorem WL.copyArena {P : Program} {n : Nat} {L : List Oper} {Q : Exit → Act → World → Prop} {rest : List Oper} {l : Env} {w0 w : World} {F : List Nat} {Rs : List Res} {t : TypeId} {p : String} {af : Array Edge} {d : Option Tmp} {x y : Operand} {T T' e : TypeId} {pp b to fr k c c' : Nat} {ws : List Int}
    (hp : Hp w0 F Rs w) (i : Nat) (hi : Rs[i]? = some (arenaR pp b ws)) (hT : sliceT P T = some e) (hs : szT P e = some 1) (hx : ev l x = some (.slice (some ⟨b, to, none⟩) k c)) (hy : ev l y = some (.slice (some ⟨b, fr, none⟩) k c')) (h1 : to + k ≤ ws.length ∧ fr + k ≤ ws.length) (hd : okd n d = true)
    (kk : ∀ w', Hp w0 F (Rs.set i (arenaR pp b (moveW ws to fr k))) w' → WL P n L Q rest (puto d (.int .i64 k) l) w') : WL P n L Q (⟨d, .call ⟨.builtin .copy, #[x, y], #[T, T']⟩, t, p, af, none⟩ :: rest) l w := by
  have hA := hp.at i hi
  obtain ⟨⟨T1, g1⟩, ⟨T2, g2⟩, hne, hs4⟩ := hA
  have hld := run_loadCells_list (P := P) w ⟨b, fr, none⟩ (((ws.drop fr).take k).map (Value.int .i64)) (fun j v hv => by
    rw [addr_add]
    have hj : j < k := by have := (List.getElem?_eq_some_iff.1 hv).1; simp at this; omega
    rw [arena_cell (j := fr + j) (hp.at i hi) (by omega) rfl]
    rw [List.getElem?_map, List.getElem?_take_of_lt hj, List.getElem?_drop, List.getElem?_eq_getElem (by omega)] at hv
    rw [List.getD_eq_getElem?_getD, List.getElem?_eq_getElem (by omega)]
    simpa using hv)
  have hlen : (((ws.drop fr).take k).map (Value.int .i64)).length = k := by simp; omega
  rw [hlen] at hld
  have hst := run_storeCells_at (P := P) b to T2 (((ws.drop fr).take k).map (Value.int .i64)) 0 (intsA ws) w g2 (by rw [intsA_size, hlen]; omega) (fun v hv => by obtain ⟨q, _, rfl⟩ := List.mem_map.1 hv; rfl)
  simp only [Nat.add_zero, hlen] at hst
  have hrow : ((intsA ws).toList.take to ++ ((ws.drop fr).take k).map (Value.int .i64) ++ (intsA ws).toList.drop (to + k)).toArray = intsA (moveW ws to fr k) := by
    rw [moveW_eq ws to fr k h1.1 h1.2]
    simp [intsA]
  rw [hrow] at hst
  clear hrow hlen
  generalize ((ws.drop fr).take k).map (Value.int .i64) = nw at hld hst
  refine WL.val rfl hd (X.blt (xs := [x, y]) (vs := [.slice (some ⟨b, to, none⟩) k c, .slice (some ⟨b, fr, none⟩) k c']) (by simp [evs, hx, hy]) (fun cs => ?_)) (kk (w.setRow b (intsA (moveW ws to fr k))) (hp.arena i hi ((chg_setRow w b _).mono (by simp)) ⟨⟨T1, ?_⟩, ⟨T2, ?_⟩, hne, by rw [moveW_length]; exact hs4⟩))
  · have hmin : Nat.min k k = k := Nat.min_self k
    simp [builtin, Builtin.copy_, run_underlying (sliceT_eq hT), Builtin.lenOf, Builtin.firstCells, run_szT hs, hmin, hld, hst, goInt]
  · have : b ≠ pp := fun e => hne e.symm
    rw [moveW_length]
    simp [World.setRow, Array.getElem?_modify, this, g1]
  · simp [World.setRow, Array.getElem?_modify, g2]
theorem arena_new {w0 w : World} {Rs : List Res} {p b n : Nat} {T T' : TypeId} (hp : Hp w0 [] Rs w) (i j : Nat) (hi : Rs[i]? = some (blkR p (.cells #[.slice (some ⟨b, 0, none⟩) n n] T (0, 0)))) (hj : Rs[j]? = some (blkR b (.cells (Array.replicate n (.int .i64 0)) T' (0, 0)))) (hij : i ≠ j) (hn : n ≤ 4096) : New w0 w (arenaR p b (List.replicate n 0)) := by
  have h1 := hp.newAt i hi
  have h2 := hp.newAt j hj
  have hne : p ≠ b := fun e => foot_dis hp hi hj hij p (by simp [blkR]) (by simp [blkR, e])
  refine ⟨⟨⟨T, by rw [List.length_replicate]; exact h1.1⟩, ⟨T', ?_⟩, hne, by simpa using hn⟩, ?_, by simp [arenaR, hne]⟩
  · have : intsA (List.replicate n 0) = Array.replicate n (.int .i64 0) := by simp [intsA]
    rw [this]; exact h2.1
  · intro k hk
    simp [arenaR] at hk
    rcases hk with rfl | rfl
    · exact h1.2.1 k (by simp [blkR])
    · exact h2.2.1 k (by simp [blkR])
/-! ## Calls of bound functions -/
section
variable {P : Program} {n : Nat} {L : List Oper} {Q : Exit → Act → World → Prop} {rest : List Oper} {l : Env} {w0 w : World} {t : TypeId} {p : String} {af : Array Edge} {d : Option Tmp} {g : Option (Nat × Bool)}
theorem run_callB {f : FuncId} {fo : Operand} {xs : List Operand} {ts : Array TypeId} {vs : List Value} {bnd caps : Array Value} (hf : IsFn P f) (hfo : ev l fo = some (.func (.func f) bnd caps)) (hx : evs l xs = some vs) {ρ : Operand → Value} (hρ : Ag l ρ) :
    (execOp ρ ⟨d, .call ⟨.value fo, xs.toArray, ts⟩, t, p, af, g⟩).run P w = .ok (.enter f (bnd ++ vs.toArray ++ caps)) w := by
  simp [execOp, resolve, hρ _ _ hfo, Deferred.ofValue, invoke, evs_map hx hρ, run_callFunc hf]
theorem WL.callB {f : FuncId} {fo : Operand} {xs : List Operand} {ts : Array TypeId} {vs : List Value} {bnd caps : Array Value} {F1 : List Nat} {R : Value → World → Prop} (hf : IsFn P f) (hfo : ev l fo = some (.func (.func f) bnd caps)) (hx : evs l xs = some vs)
    (hd : okd n d = true) (hc : Calls P f (bnd ++ vs.toArray ++ caps) w (Ret F1 w R)) (k : ∀ v w', Chg F1 w w' → R v w' → WL P n L Q rest (puto d v l) w') :
    WL P n L Q (⟨d, .call ⟨.value fo, xs.toArray, ts⟩, t, p, af, none⟩ :: rest) l w :=
  fun a ha => wpList_plain rfl fun K hK => by
    unfold Oper.wp
    rw [run_callB hf hfo hx ha.ag, Oper.upon_enter]
    refine hc.mono ?_
    rintro e w' ⟨v, rfl, h1, h2⟩
    exact hK _ _ (k v w' h1 h2 _ (ha.puto hd v))
/-- A resource that a call of ours may have spoilt is let go. -/
theorem Hp.lose {F : List Nat} {Rs : List Res} {R : Res} {w' : World} (hp : Hp w0 F (R :: Rs) w) (hc : Chg R.foot w w') : Hp w0 F Rs w' := by
  have h1 : Hp w0 F ([R] ++ Rs) w := hp
  have h2 := h1.back (Ss := []) ⟨by simpa using hc, by simp, by simp, by simp⟩
  simpa using h2
end
end Go.Proofs.YtmmmbkmjkpfleaaGreat
