/- Plain functions: where all stays. No statement of the seat is proved here; conditions: none. -/
import Derived.Test.YtmmmbkmjkpfleaaGreatPureS
namespace Go.Proofs.YtmmmbkmjkpfleaaGreat
open Go Go.RowKit

theorem Seg.sum {ws : List Int} {cs : List Cls} (hcs : ∀ x ∈ cs, clsR x = true) {a to : Int} {r : List Int} (h : Seg ws cs a to r) : (r.map (wordsAt ws cs)).sum ≤ to - a ∧ (to - a ≤ (r.map (wordsAt ws cs)).sum → Tile (wordsAt ws cs) a r to) := by
  induction h with
  | nil a => exact ⟨by simp, fun _ => rfl⟩
  | obj h1 h2 h3 ih =>
    rw [List.map_cons, List.sum_cons]
    unfold wordsAt at ih ⊢
    exact ⟨by omega, fun h => ⟨rfl, ih.2 (by omega)⟩⟩
  | gap h1 h2 h3 ih =>
    have := atT_bd hcs h1
    exact ⟨by omega, fun h => by exfalso; omega⟩
def usedL (sp : List Spc) : Int := (sp.map fun s => s.top - s.from_).sum
def FullLS (cs : List Cls) (L : LS) : Prop := usedL L.sp = (L.al.map (wordsAt L.ws cs)).sum
theorem Chain.asc {n : Int → Int} : ∀ {r : List Int} {lo : Int}, Chain n lo r → (∀ a ∈ r, 1 ≤ n a) → r.Nodup
  | [], _, _, _ => List.nodup_nil
  | a :: r, lo, h, hn => by
    have hge := Chain.ge h.2 (fun d hd => by have := hn d (by simp [hd]); omega)
    have h1 := hn a (by simp)
    exact List.nodup_cons.2 ⟨fun ha => by have := hge a ha; omega, Chain.asc h.2 (fun b hb => hn b (by simp [hb]))⟩
theorem LayInv.nodup {ws : List Int} {cs : List Cls} {sp : List Spc} {al : List Int} (h : LayInv ws cs sp al) (hcs : ∀ x ∈ cs, clsR x = true) : al.Nodup := by
  obtain ⟨_, h2, h3, _, f, h5, h6⟩ := h
  have hw := walksF_segs hcs (f := f) (l := sp) (fun k hk => h5 k (by omega))
  obtain ⟨r, e1, e2, e3⟩ := walksF_chain hcs sp 1 [] _ h3 hw
  rw [List.nil_append] at e1
  have hnd := e2.asc (fun a ha => by have := wordsAt_bd hcs (e3 a ha).1; omega)
  rw [← e1, h2] at hnd
  rw [h6.nodup_iff]
  have : catF f 3 = f 0 ++ (f 1 ++ f 2) := by simp [catF]
  rw [← this]; exact hnd
theorem LayInv.all {ws : List Int} {cs : List Cls} {sp : List Spc} {al qs : List Int} (h : LayInv ws cs sp al) (hc : Clo ws cs al) (hcs : ∀ x ∈ cs, clsR x = true) (hs : sortedB qs = true) (hp : qs.Perm al) : Stays ws cs al [] qs := by
  have hnd : qs.Nodup := hp.nodup_iff.2 (h.nodup hcs)
  refine ⟨hs, nodup_adj hnd, hnd, fun x hx => hp.mem_iff.1 hx, by simp, fun a ha j hj => ?_⟩
  exact ((hc a (hp.mem_iff.1 ha)).2 j hj).imp id fun h => hp.mem_iff.2 h
theorem SlideRes.ends {ws : List Int} {cs : List Cls} {sp : List Spc} {al qs : List Int} (hi : LayInv ws cs sp al) (h : SlideRes ws cs sp qs) : rise (slNow ws cs sp qs) = true ∧ ∀ s ∈ slNow ws cs sp qs, s.end_ ≤ (slWs ws cs sp qs).length := by
  obtain ⟨t, h1, _⟩ := h.tile
  refine ⟨rise_same hi.rise h.nlen fun j hj => ⟨(h1 j hj).1, (h1 j hj).2.1, (h1 j hj).2.2.1⟩, fun s hs => ?_⟩
  obtain ⟨j, hj, rfl⟩ := List.getElem_of_mem hs
  have hj' : j < sp.length := by rw [← h.nlen]; exact hj
  have h2 := (h1 j hj').2.1
  rw [List.getD_eq_getElem?_getD, List.getElem?_eq_getElem hj] at h2
  have h3 := hi.end5 _ (mem_getD hj')
  rw [h.len, hi.len]
  have h4 : (slNow ws cs sp qs)[j].end_ = (sp.getD j default).end_ := h2
  omega
end Go.Proofs.YtmmmbkmjkpfleaaGreat
