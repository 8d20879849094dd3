/- Walks, printed by gen.py from the specs I: what each function answers. No statement of the seat is proved here; conditions: each theorem's own. -/
import Derived.Test.YtmmmbkmjkpfleaaGreatPureJ
import Derived.Test.YtmmmbkmjkpfleaaGreatWH
namespace Go.Proofs.YtmmmbkmjkpfleaaGreat
open Go Go.RowKit

set_option maxHeartbeats 4000000 in
theorem lay16_c {w0 : World} {p b t c0 x : Nat} {spv atv sy rt cv : Value} {ws : List Int} {cs : List Cls} {sp : List Spc} {al : List Int} {FL : List Nat} {c d u : Int} {s : Bool} (hp00 : Hp w0 FL [arenaR p b ws, blkR x (.cells (#[.pointer (some ⟨p, 0, none⟩), .pointer (some ⟨t, 0, none⟩), .pointer (some ⟨p, 0, none⟩), .pointer (some ⟨t, 0, none⟩), spv, atv, sy, rt, cv]) 36 (0, 0)), ownR 56 encS 3 spv sp, ownR 3 encI 1 atv al] w0) (hT : (tableR t c0 cs).ok w0) (hTD : ∀ k ∈ [t, c0], k ∉ FL) (hD : ∀ k ∈ [t, c0], k ∉ [p, b]) (hC : (viewR clsV 4 cv cs).ok w0) (hCD : ∀ k ∈ (viewR clsV 4 cv cs).foot, k ∉ FL) (hsp : sp.length = 3) (hspR : ∀ x ∈ sp, spR x = true) (hal : (al.length + 1) * 32 ≤ 140737488355328) (hc : 0 ≤ c ∧ c ≤ 255) (hd : 0 ≤ d ∧ d ≤ 255) (hu : 0 ≤ u ∧ u ≤ 255) :
    Calls Tryz.prog 19 #[.pointer (some ⟨x, 0, none⟩), .agg #[.int .u8 c, .int .u8 d, .int .u8 u, .bool (s)]] w0 (Ret FL w0 (fun v w => v = .bool (layS ws cs sp al c d u s).2.2.2 ∧ ∃ atv2, Hp w0 FL [arenaR p b (layS ws cs sp al c d u s).1, blkR x (.cells #[.pointer (some ⟨p, 0, none⟩), .pointer (some ⟨t, 0, none⟩), .pointer (some ⟨p, 0, none⟩), .pointer (some ⟨t, 0, none⟩), spv, atv2, sy, rt, cv] 36 (0, 0)), ownR 56 encS 3 spv (layS ws cs sp al c d u s).2.1, ownR 3 encI 1 atv2 (layS ws cs sp al c d u s).2.2.1] w)) := by
  have hp : Hp w0 FL [arenaR p b ws, blkR x (.cells (#[.pointer (some ⟨p, 0, none⟩), .pointer (some ⟨t, 0, none⟩), .pointer (some ⟨p, 0, none⟩), .pointer (some ⟨t, 0, none⟩), spv, atv, sy, rt, cv]) 36 (0, 0)), ownR 56 encS 3 spv sp, ownR 3 encI 1 atv al] w0 := hp00
  have hcs : ∀ x ∈ cs, clsR x = true := table_all hT
  have hcsm := table_small hT
  have hpb := spR_t (hspR _ (mem_getD (show (u % 3).toNat < sp.length by omega)))
  have hle := view_len_le hC
  have hnb : 0 ≤ (c % ((cs.length : Int) + 1)) ∧ (c % ((cs.length : Int) + 1)) ≤ (cs.length : Int) := ⟨Int.emod_nonneg _ (by omega), by have := Int.emod_lt_of_pos c (show (0 : Int) < (cs.length : Int) + 1 by omega); omega⟩
  refine enter (vs := [.pointer (some ⟨x, 0, none⟩), .agg #[.int .u8 c, .int .u8 d, .int .u8 u, .bool (s)]]) Tryz.func19 rfl rfl rfl ?_
  refine gen_world hp ?_
  intro w hp
  refine W.sr ?_
  refine WL.box hp rfl (cs := #[.int .u8 c, .int .u8 d, .int .u8 u, .bool (s)]) rfl rfl ?_
  intro b1 w hp
  refine WL.run 1 rfl ?_
  refine WL.s ?_
  refine W.draw prog_mixed (fun w => (blkR b1 (.cells (#[.int .u8 c, .int .u8 d, .int .u8 u, .bool (s)]) 70 (0, 0))).ok w ∧ (arenaR p b ws).ok w ∧ (blkR x (.cells (#[.pointer (some ⟨p, 0, none⟩), .pointer (some ⟨t, 0, none⟩), .pointer (some ⟨p, 0, none⟩), .pointer (some ⟨t, 0, none⟩), spv, atv, sy, rt, cv]) 36 (0, 0))).ok w ∧ (ownR 56 encS 3 spv sp).ok w ∧ (ownR 3 encI 1 atv al).ok w ∧ (tableR t c0 cs).ok w ∧ (viewR clsV 4 cv cs).ok w ∧ True) hp ?_
  intro w hp
  refine WD.s ⟨hp.at 0 rfl, hp.at 1 rfl, hp.at 2 rfl, hp.at 3 rfl, hp.at 4 rfl, (hp.old hT hTD), (hp.old hC hCD), trivial⟩ fun hS0 => ?_
  refine WD.v 0 rfl hS0 (fun w hS => (X.mv rfl)) ?_
  refine WD.v 1 rfl hS0 (fun w hS => (X.nilc rfl)) ?_
  refine WD.v 2 rfl hS0 (fun w hS => (X.fa (r := 4) tF36_3 rfl rfl)) ?_
  refine WD.v 3 rfl hS0 (fun w hS => (X.ldk hS.2.2.1 tA33 rfl rfl)) ?_
  refine WD.v 4 rfl hS0 (fun w hS => (X.fa (r := 2) tF70_2 rfl rfl)) ?_
  refine WD.v 5 rfl hS0 (fun w hS => (X.ldk hS.1 tA5 rfl rfl)) ?_
  refine WD.v 6 rfl hS0 (fun w hS => (X.rem rfl rfl (by omega))) ?_
  refine WD.v 7 rfl hS0 (fun w hS => (X.idxV (j := (u % 3).toNat) (r := offOf spv + ((u % 3).toNat) * 3) tL33 tS56 (own_view hS.2.2.2.1) rfl rfl (by omega) (by omega) rfl)) ?_
  refine WD.v 8 rfl hS0 (fun w hS => (X.as rfl)) ?_
  refine WD.nil (by kernel_rfl) ?_
  refine X.thenN ?_
  refine W.seq ?_
  refine W.draw prog_mixed (fun w => (blkR b1 (.cells (#[.int .u8 c, .int .u8 d, .int .u8 u, .bool (s)]) 70 (0, 0))).ok w ∧ (arenaR p b ws).ok w ∧ (blkR x (.cells (#[.pointer (some ⟨p, 0, none⟩), .pointer (some ⟨t, 0, none⟩), .pointer (some ⟨p, 0, none⟩), .pointer (some ⟨t, 0, none⟩), spv, atv, sy, rt, cv]) 36 (0, 0))).ok w ∧ (ownR 56 encS 3 spv sp).ok w ∧ (ownR 3 encI 1 atv al).ok w ∧ (tableR t c0 cs).ok w ∧ (viewR clsV 4 cv cs).ok w ∧ True) hp ?_
  intro w hp
  refine WD.s ⟨hp.at 0 rfl, hp.at 1 rfl, hp.at 2 rfl, hp.at 3 rfl, hp.at 4 rfl, (hp.old hT hTD), (hp.old hC hCD), trivial⟩ fun hS0 => ?_
  refine WD.v 0 rfl hS0 (fun w hS => (X.fa (r := 0) tF70_0 rfl rfl)) ?_
  refine WD.v 1 rfl hS0 (fun w hS => (X.ldk hS.1 tA5 rfl rfl)) ?_
  refine WD.v 2 rfl hS0 (fun w hS => (X.conv (b := c) tI5 tI3 rfl (wrap_in64 (in64 (by omega))))) ?_
  refine WD.v 3 rfl hS0 (fun w hS => (X.mv rfl)) ?_
  refine WD.v 4 rfl hS0 (fun w hS => (X.nilc rfl)) ?_
  refine WD.v 5 rfl hS0 (fun w hS => (X.fa (r := 8) tF36_7 rfl rfl)) ?_
  refine WD.v 6 rfl hS0 (fun w hS => (X.ldk hS.2.2.1 tA22 rfl rfl)) ?_
  refine WD.v 7 rfl hS0 (fun w hS => (view_len tL22 hS.2.2.2.2.2.2.1 rfl)) ?_
  refine WD.v 8 rfl hS0 (fun w hS => (X.add rfl rfl (in64 (by omega)))) ?_
  refine WD.v 9 rfl hS0 (fun w hS => (X.rem rfl rfl (by omega))) ?_
  refine WD.v 10 rfl hS0 (fun w hS => (X.as rfl)) ?_
  refine WD.nil (by kernel_rfl) ?_
  refine X.thenN ?_
  refine W.seq ?_
  refine W.sr ?_
  refine WL.run 2 rfl ?_
  refine WL.fin ?_
  by_cases hc2 : (c % ((cs.length : Int) + 1)) = 0
  · refine W.cT rfl (decide_eq_true hc2) ?_
    refine W.sr ?_
    refine WL.run 1 rfl ?_
    refine WL.v (X.ldk (hp.at 0 rfl) tA5 rfl rfl) ?_
    refine WL.v (X.conv (b := d) tI5 tI3 rfl (wrap_in64 (in64 (by omega)))) ?_
    refine WL.v (X.rem rfl rfl (by omega)) ?_
    refine WL.v (X.add rfl rfl (in64 (by omega))) ?_
    refine WL.run 1 rfl ?_
    refine WL.s ?_
    refine W.seq ?_
    refine W.draw prog_mixed (fun w => (blkR b1 (.cells (#[.int .u8 c, .int .u8 d, .int .u8 u, .bool (s)]) 70 (0, 0))).ok w ∧ (blkR x (.cells (#[.pointer (some ⟨p, 0, none⟩), .pointer (some ⟨t, 0, none⟩), .pointer (some ⟨p, 0, none⟩), .pointer (some ⟨t, 0, none⟩), spv, atv, sy, rt, cv]) 36 (0, 0))).ok w ∧ (ownR 56 encS 3 spv sp).ok w ∧ (ownR 3 encI 1 atv al).ok w ∧ (tableR t c0 cs).ok w ∧ (viewR clsV 4 cv cs).ok w ∧ True) hp ?_
    intro w hp
    refine WD.s ⟨hp.at 0 rfl, hp.at 2 rfl, hp.at 3 rfl, hp.at 4 rfl, (hp.old hT hTD), (hp.old hC hCD), trivial⟩ fun hS0 => ?_
    refine WD.v 0 rfl hS0 (fun w hS => (X.mv rfl)) ?_
    refine WD.v 1 rfl hS0 (fun w hS => (X.nilc rfl)) ?_
    refine WD.v 2 rfl hS0 (fun w hS => (X.fa (r := offOf spv + ((u % 3).toNat) * 3 + 2) tF56_2 rfl rfl)) ?_
    refine WD.v 3 rfl hS0 (fun w hS => (X.ld1 tA3 rfl (view_cell (j := (u % 3).toNat) (f := 2) (own_view hS.2.2.1) (get_some (by omega)) rfl (by omega)))) ?_
    refine WD.v 4 rfl hS0 (fun w hS => (X.mv rfl)) ?_
    refine WD.v 5 rfl hS0 (fun w hS => (X.nilc rfl)) ?_
    refine WD.v 6 rfl hS0 (fun w hS => (X.fa (r := offOf spv + ((u % 3).toNat) * 3 + 1) tF56_1 rfl rfl)) ?_
    refine WD.v 7 rfl hS0 (fun w hS => (X.ld1 tA3 rfl (view_cell (j := (u % 3).toNat) (f := 1) (own_view hS.2.2.1) (get_some (by omega)) rfl (by omega)))) ?_
    refine WD.v 8 rfl hS0 (fun w hS => (X.sub rfl rfl (in64 (by omega)))) ?_
    refine WD.v 9 rfl hS0 (fun w hS => (X.mv rfl)) ?_
    refine WD.v 10 rfl hS0 (fun w hS => (X.geq rfl rfl)) ?_
    refine WD.v 11 rfl hS0 (fun w hS => (X.mv rfl)) ?_
    by_cases hc3 : ((d % 9) + 1) ≤ (((sp.getD ((u % 3).toNat) default).end_) - ((sp.getD ((u % 3).toNat) default).top))
    · refine WD.gv 12 rfl rfl rfl rfl (decide_eq_true hc3) hS0 (fun w hS => (X.mv rfl)) ?_
      refine WD.gv 13 rfl rfl rfl rfl (decide_eq_true hc3) hS0 (fun w hS => (X.nilc rfl)) ?_
      refine WD.gv 14 rfl rfl rfl rfl (decide_eq_true hc3) hS0 (fun w hS => (X.fa (r := 2) tF36_2 rfl rfl)) ?_
      refine WD.gv 15 rfl rfl rfl rfl (decide_eq_true hc3) hS0 (fun w hS => (X.ldkA hS.2.1 tA32 tS32 (vs := [.pointer (some ⟨p, 0, none⟩), .pointer (some ⟨t, 0, none⟩)]) rfl rfl)) ?_
      refine WD.gv 16 rfl rfl rfl rfl (decide_eq_true hc3) hS0 (fun w hS => (X.mv rfl)) ?_
      refine WD.gv 17 rfl rfl rfl rfl (decide_eq_true hc3) hS0 (fun w hS => (X.nilc rfl)) ?_
      refine WD.gv 18 rfl rfl rfl rfl (decide_eq_true hc3) hS0 (fun w hS => (X.fa (r := offOf spv + ((u % 3).toNat) * 3 + 1) tF56_1 rfl rfl)) ?_
      refine WD.gv 19 rfl rfl rfl rfl (decide_eq_true hc3) hS0 (fun w hS => (X.ld1 tA3 rfl (view_cell (j := (u % 3).toNat) (f := 1) (own_view hS.2.2.1) (get_some (by omega)) rfl (by omega)))) ?_
      refine WD.gv 20 rfl rfl rfl rfl (decide_eq_true hc3) hS0 (fun w hS => (X.mv rfl)) ?_
      refine WD.one 21 (by kernel_rfl) ?_
      refine WO.callG rfl rfl rfl (decide_eq_true hc3) isFn55 rfl rfl (gap_c (a := (sp.getD ((u % 3).toNat) default).top) (k := (d % 9) + 1) (hp.at 1 rfl) (hp.old hT hTD) hD) ?_
      intro v w hc hr
      rcases hr with ⟨hr4, rfl, hA⟩ | ⟨hr4, rfl, hA⟩
      · have hp := hp.arena 1 rfl hc hA
        refine andS ⟨hp.at 0 rfl, hp.at 2 rfl, hp.at 3 rfl, hp.at 4 rfl, (hp.old hT hTD), (hp.old hC hCD), trivial⟩ fun hS0 => ?_
        refine WD.gv 22 rfl rfl rfl rfl (decide_eq_true hc3) hS0 (fun w hS => (X.eql rfl rfl)) ?_
        refine WD.v 23 rfl hS0 (fun w hS => (X.pkT rfl (decide_eq_true hc3) rfl)) ?_
        refine WD.nil (by kernel_rfl) ?_
        refine X.thenN ?_
        refine W.cT rfl (decide_eq_true (by decide)) ?_
        refine W.reg ?_
        refine WL.run 3 rfl ?_
        refine WL.v (X.ld1 tA3 rfl (view_cell (j := (u % 3).toNat) (f := 1) (own_view (hp.at 3 rfl)) (get_some (by omega)) rfl (by omega))) ?_
        refine WL.run 1 rfl ?_
        refine WL.v (X.add rfl rfl (in64 (by omega))) ?_
        refine WL.run 2 rfl ?_
        refine WL.stOwn hp 3 rfl (j := (u % 3).toNat) (f := 1) (q := (sp.getD ((u % 3).toNat) default)) (q' := (⟨(sp.getD ((u % 3).toNat) default).from_, ((sp.getD ((u % 3).toNat) default).top) + ((d % 9) + 1), (sp.getD ((u % 3).toNat) default).end_⟩ : Spc)) tS3 rfl rfl (vs := [.int .i64 (((sp.getD ((u % 3).toNat) default).top) + ((d % 9) + 1))]) rfl rfl (get_some (by omega)) rfl (by simp only [List.length_cons, List.length_nil]; omega) rfl ?_
        intro w hp
        refine WL.a ?_
        refine WL.run 1 rfl ?_
        refine WL.fin ?_
        refine W.ret ?_
        refine X.thenR ?_
        refine W.done hp (rs := [.tmp 4]) (vs := [.bool false]) (v := .bool false) rfl ⟨rfl, trivial⟩ rfl ?_
        have hS := layS_gap (al := al) (s := s) (by assumption) (by assumption) (by assumption)
        rw [hS]
        exact ⟨rfl, atv, (hp.sel [1, 2, 3, 4] (by decide))⟩
      have hp := hp.arena 1 rfl hc hA
      refine andS ⟨hp.at 0 rfl, hp.at 2 rfl, hp.at 3 rfl, hp.at 4 rfl, (hp.old hT hTD), (hp.old hC hCD), trivial⟩ fun hS0 => ?_
      refine WD.gv 22 rfl rfl rfl rfl (decide_eq_true hc3) hS0 (fun w hS => (X.eql rfl rfl)) ?_
      refine WD.v 23 rfl hS0 (fun w hS => (X.pkT rfl (decide_eq_true hc3) rfl)) ?_
      refine WD.nil (by kernel_rfl) ?_
      refine X.thenN ?_
      refine W.cF rfl (decide_eq_false hr4) ?_
      refine W.ks ?_
      refine WL.run 1 rfl ?_
      refine WL.fin ?_
      refine W.ret ?_
      refine X.thenR ?_
      refine W.done hp (rs := [.tmp 4]) (vs := [.bool false]) (v := .bool false) rfl ⟨rfl, trivial⟩ rfl ?_
      have hS := layS_gapno (al := al) (s := s) (c := c) (d := d) (u := u) (ws := ws) (cs := cs) (sp := sp) (by assumption) (fun q => by first | exact absurd q.1 (by assumption) | exact absurd q.2 (by assumption))
      rw [hS]
      exact ⟨rfl, atv, (hp.sel [1, 2, 3, 4] (by decide))⟩
    refine WD.g0 12 rfl (by kernel_rfl) rfl rfl rfl (decide_eq_false hc3) rfl (fun _ _ _ h => h) hS0 ?_
    refine WD.g0 13 rfl (by kernel_rfl) rfl rfl rfl (decide_eq_false hc3) rfl (fun _ _ _ h => h) hS0 ?_
    refine WD.g0 14 rfl (by kernel_rfl) rfl rfl rfl (decide_eq_false hc3) rfl (fun _ _ _ h => h) hS0 ?_
    refine WD.g0 15 rfl (by kernel_rfl) rfl rfl rfl (decide_eq_false hc3) rfl (fun _ _ _ h => h) hS0 ?_
    refine WD.g0 16 rfl (by kernel_rfl) rfl rfl rfl (decide_eq_false hc3) rfl (fun _ _ _ h => h) hS0 ?_
    refine WD.g0 17 rfl (by kernel_rfl) rfl rfl rfl (decide_eq_false hc3) rfl (fun _ _ _ h => h) hS0 ?_
    refine WD.g0 18 rfl (by kernel_rfl) rfl rfl rfl (decide_eq_false hc3) rfl (fun _ _ _ h => h) hS0 ?_
    refine WD.g0 19 rfl (by kernel_rfl) rfl rfl rfl (decide_eq_false hc3) rfl (fun _ _ _ h => h) hS0 ?_
    refine WD.g0 20 rfl (by kernel_rfl) rfl rfl rfl (decide_eq_false hc3) rfl (fun _ _ _ h => h) hS0 ?_
    refine WD.one 21 (by kernel_rfl) ?_
    refine WO.g0 rfl rfl rfl rfl (decide_eq_false hc3) rfl hS0 ?_
    refine WD.g0 22 rfl (by kernel_rfl) rfl rfl rfl (decide_eq_false hc3) rfl (fun _ _ _ h => h) hS0 ?_
    refine WD.v 23 rfl hS0 (fun w hS => (X.pkF rfl (decide_eq_false hc3) rfl)) ?_
    refine WD.nil (by kernel_rfl) ?_
    refine X.thenN ?_
    refine W.cF rfl rfl ?_
    refine W.ks ?_
    refine WL.run 1 rfl ?_
    refine WL.fin ?_
    refine W.ret ?_
    refine X.thenR ?_
    refine W.done hp (rs := [.tmp 4]) (vs := [.bool false]) (v := .bool false) rfl ⟨rfl, trivial⟩ rfl ?_
    have hS := layS_gapno (al := al) (s := s) (c := c) (d := d) (u := u) (ws := ws) (cs := cs) (sp := sp) (by assumption) (fun q => by first | exact absurd q.1 (by assumption) | exact absurd q.2 (by assumption))
    rw [hS]
    exact ⟨rfl, atv, (hp.sel [1, 2, 3, 4] (by decide))⟩
  refine W.cF rfl (decide_eq_false hc2) ?_
  refine W.ks ?_
  refine WL.run 1 rfl ?_
  refine WL.fin ?_
  refine W.seqCut (X := Int) (fun m => [(0, .pointer (some ⟨x, 0, none⟩)), (3, .pointer (some ⟨b1, 0, none⟩)), (5, .pointer (some ⟨(blkOf spv), offOf spv + ((u % 3).toNat) * 3, none⟩)), (6, .int .i64 (c % ((cs.length : Int) + 1))), (8, .int .i64 m)]) (fun m w => Hp w0 FL [blkR b1 (.cells (#[.int .u8 c, .int .u8 d, .int .u8 u, .bool (s)]) 70 (0, 0)), arenaR p b ws, blkR x (.cells (#[.pointer (some ⟨p, 0, none⟩), .pointer (some ⟨t, 0, none⟩), .pointer (some ⟨p, 0, none⟩), .pointer (some ⟨t, 0, none⟩), spv, atv, sy, rt, cv]) 36 (0, 0)), ownR 56 encS 3 spv sp, ownR 3 encI 1 atv al] w ∧ layLen cs (c % ((cs.length : Int) + 1)) d = m) ?_ ?_
  · refine W.sr ?_
    refine WL.run 3 rfl ?_
    refine WL.v (X.ldk (hp.at 2 rfl) tA22 rfl rfl) ?_
    refine WL.run 1 rfl ?_
    refine WL.v (X.sub rfl rfl (in64 (by omega))) ?_
    refine WL.v (X.idxV (j := ((c % ((cs.length : Int) + 1)) - 1).toNat) (r := offOf cv + (((c % ((cs.length : Int) + 1)) - 1).toNat) * 4) tL22 tS111 (hp.old hC hCD) rfl rfl (by omega) (by omega) rfl) ?_
    refine WL.v (X.fa (r := offOf cv + (((c % ((cs.length : Int) + 1)) - 1).toNat) * 4) tF111_0 rfl rfl) ?_
    refine WL.v (X.ld1 tA3 rfl (view_cell (j := ((c % ((cs.length : Int) + 1)) - 1).toNat) (f := 0) (hp.old hC hCD) (get_some (by omega)) rfl (by omega))) ?_
    refine WL.run 1 rfl ?_
    refine WL.fin ?_
    by_cases hc6 : ((cs.getD (((c % ((cs.length : Int) + 1)) - 1).toNat) default).kind) = 2
    · refine W.cT rfl (decide_eq_true hc6) ?_
      refine W.reg ?_
      refine WL.run 1 rfl ?_
      refine WL.v (X.ldk (hp.at 0 rfl) tA5 rfl rfl) ?_
      refine WL.v (X.conv (b := d) tI5 tI3 rfl (wrap_in64 (in64 (by omega)))) ?_
      refine WL.v (X.rem rfl rfl (by omega)) ?_
      refine WL.run 1 rfl ?_
      refine WL.nil ?_
      exact X.here (d % 5) ⟨rfl, rfl, rfl, rfl, rfl, trivial⟩ (by
        exact ⟨hp, by unfold layLen; first | rw [if_pos (by assumption)] | rw [if_neg (by assumption)]⟩)
    refine W.cF rfl (decide_eq_false hc6) ?_
    refine W.skip ?_
    exact X.here 0 ⟨rfl, rfl, rfl, rfl, rfl, trivial⟩ (by
      exact ⟨hp, by unfold layLen; first | rw [if_pos (by assumption)] | rw [if_neg (by assumption)]⟩)
  rintro m w ⟨hp, hm⟩
  have hmb := layLen_bd (cs := cs) (n := (c % ((cs.length : Int) + 1))) hd.1
  rw [hm] at hmb
  refine W.seq ?_
  have hsh : shapeE cs (c % ((cs.length : Int) + 1)) m = 0 := shapeE_ok (by omega) (by omega) (by omega) (by omega) hmb.2.2
  have hbd5 := shape_bd5 hcs hsh
  have hlw : layWords cs (c % ((cs.length : Int) + 1)) m = 2 + ((cget cs (c % ((cs.length : Int) + 1))).refs + m) + (cget cs (c % ((cs.length : Int) + 1))).data := rfl
  refine W.reg ?_
  refine WL.run 3 rfl ?_
  refine WL.v (X.ldk (hp.at 2 rfl) tA22 rfl rfl) ?_
  refine WL.run 2 rfl ?_
  refine WL.call isFn56 rfl rfl (shape5_c (n := c % ((cs.length : Int) + 1)) (m := m) (hp.old hC hCD) hcs) ?_
  intro v w hc hr
  rcases hr with ⟨he7, rfl⟩ | ⟨he7, rfl⟩
  · have hp := hp.ext hc
    have hsb := shape_bd5 hcs he7
    refine WL.run 7 rfl ?_
    refine WL.a ?_
    refine WL.run 1 rfl ?_
    refine WL.v (X.add rfl rfl (in64 (by omega))) ?_
    refine WL.run 1 rfl ?_
    refine WL.v (X.add rfl rfl (in64 (by omega))) ?_
    refine WL.run 1 rfl ?_
    refine WL.s ?_
    refine W.seq ?_
    refine W.draw prog_mixed (fun w => (blkR b1 (.cells (#[.int .u8 c, .int .u8 d, .int .u8 u, .bool (s)]) 70 (0, 0))).ok w ∧ (blkR x (.cells (#[.pointer (some ⟨p, 0, none⟩), .pointer (some ⟨t, 0, none⟩), .pointer (some ⟨p, 0, none⟩), .pointer (some ⟨t, 0, none⟩), spv, atv, sy, rt, cv]) 36 (0, 0))).ok w ∧ (ownR 56 encS 3 spv sp).ok w ∧ (ownR 3 encI 1 atv al).ok w ∧ (tableR t c0 cs).ok w ∧ (viewR clsV 4 cv cs).ok w ∧ True) hp ?_
    intro w hp
    refine WD.s ⟨hp.at 0 rfl, hp.at 2 rfl, hp.at 3 rfl, hp.at 4 rfl, (hp.old hT hTD), (hp.old hC hCD), trivial⟩ fun hS0 => ?_
    refine WD.v 0 rfl hS0 (fun w hS => (X.mv rfl)) ?_
    refine WD.v 1 rfl hS0 (fun w hS => (X.nilc rfl)) ?_
    refine WD.v 2 rfl hS0 (fun w hS => (X.fa (r := offOf spv + ((u % 3).toNat) * 3 + 2) tF56_2 rfl rfl)) ?_
    refine WD.v 3 rfl hS0 (fun w hS => (X.ld1 tA3 rfl (view_cell (j := (u % 3).toNat) (f := 2) (own_view hS.2.2.1) (get_some (by omega)) rfl (by omega)))) ?_
    refine WD.v 4 rfl hS0 (fun w hS => (X.mv rfl)) ?_
    refine WD.v 5 rfl hS0 (fun w hS => (X.nilc rfl)) ?_
    refine WD.v 6 rfl hS0 (fun w hS => (X.fa (r := offOf spv + ((u % 3).toNat) * 3 + 1) tF56_1 rfl rfl)) ?_
    refine WD.v 7 rfl hS0 (fun w hS => (X.ld1 tA3 rfl (view_cell (j := (u % 3).toNat) (f := 1) (own_view hS.2.2.1) (get_some (by omega)) rfl (by omega)))) ?_
    refine WD.v 8 rfl hS0 (fun w hS => (X.sub rfl rfl (in64 (by omega)))) ?_
    refine WD.v 9 rfl hS0 (fun w hS => (X.mv rfl)) ?_
    refine WD.v 10 rfl hS0 (fun w hS => (X.lss rfl rfl)) ?_
    refine WD.v 11 rfl hS0 (fun w hS => (X.mv rfl)) ?_
    by_cases hc8 : (((sp.getD ((u % 3).toNat) default).end_) - ((sp.getD ((u % 3).toNat) default).top)) < ((2 + ((cget cs (c % ((cs.length : Int) + 1))).refs + m)) + ((cget cs (c % ((cs.length : Int) + 1))).data))
    · refine WD.g0 12 rfl (by kernel_rfl) rfl rfl rfl (decide_eq_true hc8) rfl (fun _ _ _ h => h) hS0 ?_
      refine WD.g0 13 rfl (by kernel_rfl) rfl rfl rfl (decide_eq_true hc8) rfl (fun _ _ _ h => h) hS0 ?_
      refine WD.g0 14 rfl (by kernel_rfl) rfl rfl rfl (decide_eq_true hc8) rfl (fun _ _ _ h => h) hS0 ?_
      refine WD.g0 15 rfl (by kernel_rfl) rfl rfl rfl (decide_eq_true hc8) rfl (fun _ _ _ h => h) hS0 ?_
      refine WD.g0 16 rfl (by kernel_rfl) rfl rfl rfl (decide_eq_true hc8) rfl (fun _ _ _ h => h) hS0 ?_
      refine WD.g0 17 rfl (by kernel_rfl) rfl rfl rfl (decide_eq_true hc8) rfl (fun _ _ _ h => h) hS0 ?_
      refine WD.g0 18 rfl (by kernel_rfl) rfl rfl rfl (decide_eq_true hc8) rfl (fun _ _ _ h => h) hS0 ?_
      refine WD.g0 19 rfl (by kernel_rfl) rfl rfl rfl (decide_eq_true hc8) rfl (fun _ _ _ h => h) hS0 ?_
      refine WD.g0 20 rfl (by kernel_rfl) rfl rfl rfl (decide_eq_true hc8) rfl (fun _ _ _ h => h) hS0 ?_
      refine WD.g0 21 rfl (by kernel_rfl) rfl rfl rfl (decide_eq_true hc8) rfl (fun _ _ _ h => h) hS0 ?_
      refine WD.one 22 (by kernel_rfl) ?_
      refine WO.g0 rfl rfl rfl rfl (decide_eq_true hc8) rfl hS0 ?_
      refine WD.g0 23 rfl (by kernel_rfl) rfl rfl rfl (decide_eq_true hc8) rfl (fun _ _ _ h => h) hS0 ?_
      refine WD.v 24 rfl hS0 (fun w hS => (X.pkT rfl (decide_eq_true hc8) rfl)) ?_
      refine WD.nil (by kernel_rfl) ?_
      refine X.thenN ?_
      refine W.cT rfl rfl ?_
      refine W.sr ?_
      refine WL.run 1 rfl ?_
      refine WL.fin ?_
      refine W.ret ?_
      refine X.thenR ?_
      refine W.done hp (rs := [.tmp 4]) (vs := [.bool false]) (v := .bool false) rfl ⟨rfl, trivial⟩ rfl ?_
      have hS := layS_objno (al := al) (s := s) (ws := ws) (sp := sp) (u := u) (by assumption) hm (fun q => by first | exact absurd q.2 (by assumption) | (have := q.1; omega))
      rw [hS]
      exact ⟨rfl, atv, (hp.sel [1, 2, 3, 4] (by decide))⟩
    refine WD.gv 12 rfl rfl rfl rfl (decide_eq_false hc8) hS0 (fun w hS => (X.mv rfl)) ?_
    refine WD.gv 13 rfl rfl rfl rfl (decide_eq_false hc8) hS0 (fun w hS => (X.nilc rfl)) ?_
    refine WD.gv 14 rfl rfl rfl rfl (decide_eq_false hc8) hS0 (fun w hS => (X.fa (r := 2) tF36_2 rfl rfl)) ?_
    refine WD.gv 15 rfl rfl rfl rfl (decide_eq_false hc8) hS0 (fun w hS => (X.ldkA hS.2.1 tA32 tS32 (vs := [.pointer (some ⟨p, 0, none⟩), .pointer (some ⟨t, 0, none⟩)]) rfl rfl)) ?_
    refine WD.gv 16 rfl rfl rfl rfl (decide_eq_false hc8) hS0 (fun w hS => (X.mv rfl)) ?_
    refine WD.gv 17 rfl rfl rfl rfl (decide_eq_false hc8) hS0 (fun w hS => (X.nilc rfl)) ?_
    refine WD.gv 18 rfl rfl rfl rfl (decide_eq_false hc8) hS0 (fun w hS => (X.fa (r := offOf spv + ((u % 3).toNat) * 3 + 1) tF56_1 rfl rfl)) ?_
    refine WD.gv 19 rfl rfl rfl rfl (decide_eq_false hc8) hS0 (fun w hS => (X.ld1 tA3 rfl (view_cell (j := (u % 3).toNat) (f := 1) (own_view hS.2.2.1) (get_some (by omega)) rfl (by omega)))) ?_
    refine WD.gv 20 rfl rfl rfl rfl (decide_eq_false hc8) hS0 (fun w hS => (X.mv rfl)) ?_
    refine WD.gv 21 rfl rfl rfl rfl (decide_eq_false hc8) hS0 (fun w hS => (X.mv rfl)) ?_
    refine WD.one 22 (by kernel_rfl) ?_
    refine WO.callG rfl rfl rfl (decide_eq_false hc8) isFn57 rfl rfl (lay_c (a := (sp.getD ((u % 3).toNat) default).top) (n := c % ((cs.length : Int) + 1)) (m := m) (hp.at 1 rfl) (hp.old hT hTD) hD) ?_
    intro v w hc hr
    rcases hr with ⟨hr9, rfl, hA⟩ | ⟨hr9, rfl, hA⟩
    · have hp := hp.arena 1 rfl hc hA
      refine andS ⟨hp.at 0 rfl, hp.at 2 rfl, hp.at 3 rfl, hp.at 4 rfl, (hp.old hT hTD), (hp.old hC hCD), trivial⟩ fun hS0 => ?_
      refine WD.gv 23 rfl rfl rfl rfl (decide_eq_false hc8) hS0 (fun w hS => (X.neq rfl rfl)) ?_
      refine WD.v 24 rfl hS0 (fun w hS => (X.pkF rfl (decide_eq_false hc8) rfl)) ?_
      refine WD.nil (by kernel_rfl) ?_
      refine X.thenN ?_
      refine W.cF rfl (decide_eq_false (by decide)) ?_
      refine W.k ?_
      refine W.seqCut (X := Nat) (fun bh => [(0, .pointer (some ⟨x, 0, none⟩)), (3, .pointer (some ⟨b1, 0, none⟩)), (5, .pointer (some ⟨(blkOf spv), offOf spv + ((u % 3).toNat) * 3, none⟩)), (6, .int .i64 (c % ((cs.length : Int) + 1))), (8, .int .i64 m), (10, .int .i64 ((cget cs (c % ((cs.length : Int) + 1))).data)), (12, .int .i64 ((2 + ((cget cs (c % ((cs.length : Int) + 1))).refs + m)) + ((cget cs (c % ((cs.length : Int) + 1))).data))), (13, .pointer (some ⟨bh, 0, none⟩))]) (fun bh w => Hp w0 FL [blkR bh (.cells (#[.int .i64 ((objT (layW ws cs ((sp.getD ((u % 3).toNat) default).top) (c % ((cs.length : Int) + 1)) m) cs (sp.getD (u % 3).toNat default).top).hd.cls), .int .i64 ((objT (layW ws cs ((sp.getD ((u % 3).toNat) default).top) (c % ((cs.length : Int) + 1)) m) cs (sp.getD (u % 3).toNat default).top).hd.age), .int .i64 ((objT (layW ws cs ((sp.getD ((u % 3).toNat) default).top) (c % ((cs.length : Int) + 1)) m) cs (sp.getD (u % 3).toNat default).top).hd.fwd), .bool ((objT (layW ws cs ((sp.getD ((u % 3).toNat) default).top) (c % ((cs.length : Int) + 1)) m) cs (sp.getD (u % 3).toNat default).top).hd.mark), .bool ((objT (layW ws cs ((sp.getD ((u % 3).toNat) default).top) (c % ((cs.length : Int) + 1)) m) cs (sp.getD (u % 3).toNat default).top).hd.final), .bool ((objT (layW ws cs ((sp.getD ((u % 3).toNat) default).top) (c % ((cs.length : Int) + 1)) m) cs (sp.getD (u % 3).toNat default).top).hd.done)]) 123 (0, 0)), blkR b1 (.cells (#[.int .u8 c, .int .u8 d, .int .u8 u, .bool (s)]) 70 (0, 0)), arenaR p b (layW ws cs ((sp.getD ((u % 3).toNat) default).top) (c % ((cs.length : Int) + 1)) m), blkR x (.cells (#[.pointer (some ⟨p, 0, none⟩), .pointer (some ⟨t, 0, none⟩), .pointer (some ⟨p, 0, none⟩), .pointer (some ⟨t, 0, none⟩), spv, atv, sy, rt, cv]) 36 (0, 0)), ownR 56 encS 3 spv sp, ownR 3 encI 1 atv al] w) ?_ ?_
      · refine W.draw prog_mixed (fun w => (blkR b1 (.cells (#[.int .u8 c, .int .u8 d, .int .u8 u, .bool (s)]) 70 (0, 0))).ok w ∧ (arenaR p b (layW ws cs ((sp.getD ((u % 3).toNat) default).top) (c % ((cs.length : Int) + 1)) m)).ok w ∧ (blkR x (.cells (#[.pointer (some ⟨p, 0, none⟩), .pointer (some ⟨t, 0, none⟩), .pointer (some ⟨p, 0, none⟩), .pointer (some ⟨t, 0, none⟩), spv, atv, sy, rt, cv]) 36 (0, 0))).ok w ∧ (ownR 56 encS 3 spv sp).ok w ∧ (ownR 3 encI 1 atv al).ok w ∧ (tableR t c0 cs).ok w ∧ (viewR clsV 4 cv cs).ok w ∧ True) hp ?_
        intro w hp
        refine WD.s ⟨hp.at 0 rfl, hp.at 1 rfl, hp.at 2 rfl, hp.at 3 rfl, hp.at 4 rfl, (hp.old hT hTD), (hp.old hC hCD), trivial⟩ fun hS0 => ?_
        refine WD.v 0 rfl hS0 (fun w hS => (X.mv rfl)) ?_
        refine WD.v 1 rfl hS0 (fun w hS => (X.nilc rfl)) ?_
        refine WD.v 2 rfl hS0 (fun w hS => (X.fa (r := 2) tF36_2 rfl rfl)) ?_
        refine WD.v 3 rfl hS0 (fun w hS => (X.ldkA hS.2.2.1 tA32 tS32 (vs := [.pointer (some ⟨p, 0, none⟩), .pointer (some ⟨t, 0, none⟩)]) rfl rfl)) ?_
        refine WD.v 4 rfl hS0 (fun w hS => (X.mv rfl)) ?_
        refine WD.v 5 rfl hS0 (fun w hS => (X.nilc rfl)) ?_
        refine WD.v 6 rfl hS0 (fun w hS => (X.fa (r := offOf spv + ((u % 3).toNat) * 3 + 1) tF56_1 rfl rfl)) ?_
        refine WD.v 7 rfl hS0 (fun w hS => (X.ld1 tA3 rfl (view_cell (j := (u % 3).toNat) (f := 1) (own_view hS.2.2.2.1) (get_some (by omega)) rfl (by omega)))) ?_
        refine WD.two 8 12 (by kernel_rfl) ?_ ?_
        · refine WO.call rfl isFn58 rfl rfl (head_c (a := (sp.getD ((u % 3).toNat) default).top) (hp.at 1 rfl) (hp.old hT hTD)) ?_
          intro v w hc hr
          obtain rfl := hr
          have hp := hp.ext hc
          refine andS ⟨hp.at 0 rfl, hp.at 1 rfl, hp.at 2 rfl, hp.at 3 rfl, hp.at 4 rfl, (hp.old hT hTD), (hp.old hC hCD), trivial⟩ fun hS0 => ?_
          refine WD.v 9 rfl hS0 (fun w hS => (X.mv rfl)) ?_
          refine WD.v 10 rfl hS0 (fun w hS => (X.ext rfl rfl)) ?_
          refine WD.v 11 rfl hS0 (fun w hS => (X.ext rfl rfl)) ?_
          refine WD.one 12 (by kernel_rfl) ?_
          refine WO.alloc hp rfl tZ123 rfl ?_
          intro b11 w hp
          refine andS ⟨hp.at 1 rfl, hp.at 2 rfl, hp.at 3 rfl, hp.at 4 rfl, hp.at 5 rfl, (hp.old hT hTD), (hp.old hC hCD), trivial⟩ fun hS0 => ?_
          refine WD.one 13 (by kernel_rfl) ?_
          refine WO.store hp 0 rfl rfl tS123 rfl rfl (vs := [.int .i64 ((objT (layW ws cs ((sp.getD ((u % 3).toNat) default).top) (c % ((cs.length : Int) + 1)) m) cs ((sp.getD ((u % 3).toNat) default).top)).hd.cls), .int .i64 ((objT (layW ws cs ((sp.getD ((u % 3).toNat) default).top) (c % ((cs.length : Int) + 1)) m) cs ((sp.getD ((u % 3).toNat) default).top)).hd.age), .int .i64 ((objT (layW ws cs ((sp.getD ((u % 3).toNat) default).top) (c % ((cs.length : Int) + 1)) m) cs ((sp.getD ((u % 3).toNat) default).top)).hd.fwd), .bool ((objT (layW ws cs ((sp.getD ((u % 3).toNat) default).top) (c % ((cs.length : Int) + 1)) m) cs ((sp.getD ((u % 3).toNat) default).top)).hd.mark), .bool ((objT (layW ws cs ((sp.getD ((u % 3).toNat) default).top) (c % ((cs.length : Int) + 1)) m) cs ((sp.getD ((u % 3).toNat) default).top)).hd.final), .bool ((objT (layW ws cs ((sp.getD ((u % 3).toNat) default).top) (c % ((cs.length : Int) + 1)) m) cs ((sp.getD ((u % 3).toNat) default).top)).hd.done)]) rfl rfl rfl (new := #[.int .i64 ((objT (layW ws cs ((sp.getD ((u % 3).toNat) default).top) (c % ((cs.length : Int) + 1)) m) cs ((sp.getD ((u % 3).toNat) default).top)).hd.cls), .int .i64 ((objT (layW ws cs ((sp.getD ((u % 3).toNat) default).top) (c % ((cs.length : Int) + 1)) m) cs ((sp.getD ((u % 3).toNat) default).top)).hd.age), .int .i64 ((objT (layW ws cs ((sp.getD ((u % 3).toNat) default).top) (c % ((cs.length : Int) + 1)) m) cs ((sp.getD ((u % 3).toNat) default).top)).hd.fwd), .bool ((objT (layW ws cs ((sp.getD ((u % 3).toNat) default).top) (c % ((cs.length : Int) + 1)) m) cs ((sp.getD ((u % 3).toNat) default).top)).hd.mark), .bool ((objT (layW ws cs ((sp.getD ((u % 3).toNat) default).top) (c % ((cs.length : Int) + 1)) m) cs ((sp.getD ((u % 3).toNat) default).top)).hd.final), .bool ((objT (layW ws cs ((sp.getD ((u % 3).toNat) default).top) (c % ((cs.length : Int) + 1)) m) cs ((sp.getD ((u % 3).toNat) default).top)).hd.done)]) rfl ?_
          intro w hp
          refine andS ⟨hp.at 1 rfl, hp.at 2 rfl, hp.at 3 rfl, hp.at 4 rfl, hp.at 5 rfl, (hp.old hT hTD), (hp.old hC hCD), trivial⟩ fun hS0 => ?_
          refine WD.v 14 rfl hS0 (fun w hS => (X.as rfl)) ?_
          refine WD.nil (by kernel_rfl) ?_
          exact X.here b11 ⟨rfl, rfl, rfl, rfl, rfl, rfl, rfl, rfl, trivial⟩ (by
            exact hp)
        refine WO.alloc hp rfl tZ123 rfl ?_
        intro b12 w hp
        refine andS ⟨hp.at 1 rfl, hp.at 2 rfl, hp.at 3 rfl, hp.at 4 rfl, hp.at 5 rfl, (hp.old hT hTD), (hp.old hC hCD), trivial⟩ fun hS0 => ?_
        refine WD.one 8 (by kernel_rfl) ?_
        refine WO.call rfl isFn58 rfl rfl (head_c (a := (sp.getD ((u % 3).toNat) default).top) (hp.at 2 rfl) (hp.old hT hTD)) ?_
        intro v w hc hr
        obtain rfl := hr
        have hp := hp.ext hc
        refine andS ⟨hp.at 1 rfl, hp.at 2 rfl, hp.at 3 rfl, hp.at 4 rfl, hp.at 5 rfl, (hp.old hT hTD), (hp.old hC hCD), trivial⟩ fun hS0 => ?_
        refine WD.v 9 rfl hS0 (fun w hS => (X.mv rfl)) ?_
        refine WD.v 10 rfl hS0 (fun w hS => (X.ext rfl rfl)) ?_
        refine WD.v 11 rfl hS0 (fun w hS => (X.ext rfl rfl)) ?_
        refine WD.one 13 (by kernel_rfl) ?_
        refine WO.store hp 0 rfl rfl tS123 rfl rfl (vs := [.int .i64 ((objT (layW ws cs ((sp.getD ((u % 3).toNat) default).top) (c % ((cs.length : Int) + 1)) m) cs ((sp.getD ((u % 3).toNat) default).top)).hd.cls), .int .i64 ((objT (layW ws cs ((sp.getD ((u % 3).toNat) default).top) (c % ((cs.length : Int) + 1)) m) cs ((sp.getD ((u % 3).toNat) default).top)).hd.age), .int .i64 ((objT (layW ws cs ((sp.getD ((u % 3).toNat) default).top) (c % ((cs.length : Int) + 1)) m) cs ((sp.getD ((u % 3).toNat) default).top)).hd.fwd), .bool ((objT (layW ws cs ((sp.getD ((u % 3).toNat) default).top) (c % ((cs.length : Int) + 1)) m) cs ((sp.getD ((u % 3).toNat) default).top)).hd.mark), .bool ((objT (layW ws cs ((sp.getD ((u % 3).toNat) default).top) (c % ((cs.length : Int) + 1)) m) cs ((sp.getD ((u % 3).toNat) default).top)).hd.final), .bool ((objT (layW ws cs ((sp.getD ((u % 3).toNat) default).top) (c % ((cs.length : Int) + 1)) m) cs ((sp.getD ((u % 3).toNat) default).top)).hd.done)]) rfl rfl rfl (new := #[.int .i64 ((objT (layW ws cs ((sp.getD ((u % 3).toNat) default).top) (c % ((cs.length : Int) + 1)) m) cs ((sp.getD ((u % 3).toNat) default).top)).hd.cls), .int .i64 ((objT (layW ws cs ((sp.getD ((u % 3).toNat) default).top) (c % ((cs.length : Int) + 1)) m) cs ((sp.getD ((u % 3).toNat) default).top)).hd.age), .int .i64 ((objT (layW ws cs ((sp.getD ((u % 3).toNat) default).top) (c % ((cs.length : Int) + 1)) m) cs ((sp.getD ((u % 3).toNat) default).top)).hd.fwd), .bool ((objT (layW ws cs ((sp.getD ((u % 3).toNat) default).top) (c % ((cs.length : Int) + 1)) m) cs ((sp.getD ((u % 3).toNat) default).top)).hd.mark), .bool ((objT (layW ws cs ((sp.getD ((u % 3).toNat) default).top) (c % ((cs.length : Int) + 1)) m) cs ((sp.getD ((u % 3).toNat) default).top)).hd.final), .bool ((objT (layW ws cs ((sp.getD ((u % 3).toNat) default).top) (c % ((cs.length : Int) + 1)) m) cs ((sp.getD ((u % 3).toNat) default).top)).hd.done)]) rfl ?_
        intro w hp
        refine andS ⟨hp.at 1 rfl, hp.at 2 rfl, hp.at 3 rfl, hp.at 4 rfl, hp.at 5 rfl, (hp.old hT hTD), (hp.old hC hCD), trivial⟩ fun hS0 => ?_
        refine WD.v 14 rfl hS0 (fun w hS => (X.as rfl)) ?_
        refine WD.nil (by kernel_rfl) ?_
        exact X.here b12 ⟨rfl, rfl, rfl, rfl, rfl, rfl, rfl, rfl, trivial⟩ (by
          exact hp)
      rintro bh w hp
      refine W.seq ?_
      refine W.draw prog_mixed (fun w => (blkR b1 (.cells (#[.int .u8 c, .int .u8 d, .int .u8 u, .bool (s)]) 70 (0, 0))).ok w ∧ (arenaR p b (layW ws cs ((sp.getD ((u % 3).toNat) default).top) (c % ((cs.length : Int) + 1)) m)).ok w ∧ (blkR x (.cells (#[.pointer (some ⟨p, 0, none⟩), .pointer (some ⟨t, 0, none⟩), .pointer (some ⟨p, 0, none⟩), .pointer (some ⟨t, 0, none⟩), spv, atv, sy, rt, cv]) 36 (0, 0))).ok w ∧ (ownR 56 encS 3 spv sp).ok w ∧ (ownR 3 encI 1 atv al).ok w ∧ (tableR t c0 cs).ok w ∧ (viewR clsV 4 cv cs).ok w ∧ True) hp ?_
      intro w hp
      refine WD.s ⟨hp.at 1 rfl, hp.at 2 rfl, hp.at 3 rfl, hp.at 4 rfl, hp.at 5 rfl, (hp.old hT hTD), (hp.old hC hCD), trivial⟩ fun hS0 => ?_
      refine WD.v 0 rfl hS0 (fun w hS => (X.fa (r := 1) tF70_1 rfl rfl)) ?_
      refine WD.v 1 rfl hS0 (fun w hS => (X.ldk hS.1 tA5 rfl rfl)) ?_
      refine WD.v 2 rfl hS0 (fun w hS => (X.conv (b := d) tI5 tI3 rfl (wrap_in64 (in64 (by omega))))) ?_
      refine WD.v 3 rfl hS0 (fun w hS => (X.rem rfl rfl (by omega))) ?_
      refine WD.v 4 rfl hS0 (fun w hS => (X.fa (r := 3) tF70_3 rfl rfl)) ?_
      refine WD.v 5 rfl hS0 (fun w hS => (X.ldk hS.1 tA4 rfl rfl)) ?_
      refine WD.v 6 rfl hS0 (fun w hS => (X.fa (r := 1) tF123_1 rfl rfl)) ?_
      refine WD.one 7 (by kernel_rfl) ?_
      refine WO.store hp 0 rfl rfl tS3 rfl rfl (vs := [.int .i64 (d % 8)]) rfl rfl rfl (new := #[.int .i64 ((objT (layW ws cs ((sp.getD ((u % 3).toNat) default).top) (c % ((cs.length : Int) + 1)) m) cs (sp.getD (u % 3).toNat default).top).hd.cls), .int .i64 (d % 8), .int .i64 ((objT (layW ws cs ((sp.getD ((u % 3).toNat) default).top) (c % ((cs.length : Int) + 1)) m) cs (sp.getD (u % 3).toNat default).top).hd.fwd), .bool ((objT (layW ws cs ((sp.getD ((u % 3).toNat) default).top) (c % ((cs.length : Int) + 1)) m) cs (sp.getD (u % 3).toNat default).top).hd.mark), .bool ((objT (layW ws cs ((sp.getD ((u % 3).toNat) default).top) (c % ((cs.length : Int) + 1)) m) cs (sp.getD (u % 3).toNat default).top).hd.final), .bool ((objT (layW ws cs ((sp.getD ((u % 3).toNat) default).top) (c % ((cs.length : Int) + 1)) m) cs (sp.getD (u % 3).toNat default).top).hd.done)]) rfl ?_
      intro w hp
      refine andS ⟨hp.at 1 rfl, hp.at 2 rfl, hp.at 3 rfl, hp.at 4 rfl, hp.at 5 rfl, (hp.old hT hTD), (hp.old hC hCD), trivial⟩ fun hS0 => ?_
      refine WD.v 8 rfl hS0 (fun w hS => (X.fa (r := 3) tF123_3 rfl rfl)) ?_
      refine WD.one 9 (by kernel_rfl) ?_
      refine WO.store hp 0 rfl rfl tS4 rfl rfl (vs := [.bool (s)]) rfl rfl rfl (new := #[.int .i64 ((objT (layW ws cs ((sp.getD ((u % 3).toNat) default).top) (c % ((cs.length : Int) + 1)) m) cs (sp.getD (u % 3).toNat default).top).hd.cls), .int .i64 (d % 8), .int .i64 ((objT (layW ws cs ((sp.getD ((u % 3).toNat) default).top) (c % ((cs.length : Int) + 1)) m) cs (sp.getD (u % 3).toNat default).top).hd.fwd), .bool (s), .bool ((objT (layW ws cs ((sp.getD ((u % 3).toNat) default).top) (c % ((cs.length : Int) + 1)) m) cs (sp.getD (u % 3).toNat default).top).hd.final), .bool ((objT (layW ws cs ((sp.getD ((u % 3).toNat) default).top) (c % ((cs.length : Int) + 1)) m) cs (sp.getD (u % 3).toNat default).top).hd.done)]) rfl ?_
      intro w hp
      refine andS ⟨hp.at 1 rfl, hp.at 2 rfl, hp.at 3 rfl, hp.at 4 rfl, hp.at 5 rfl, (hp.old hT hTD), (hp.old hC hCD), trivial⟩ fun hS0 => ?_
      refine WD.nil (by kernel_rfl) ?_
      refine X.thenN ?_
      refine W.seq ?_
      have hly := ‹layE ws cs (sp.getD (u % 3).toNat default).top (c % ((cs.length : Int) + 1)) m = 0›
      have hot := lay_obj hcs (by omega) hly
      have hah : (⟨(objT (layW ws cs (sp.getD (u % 3).toNat default).top (c % ((cs.length : Int) + 1)) m) cs (sp.getD (u % 3).toNat default).top).hd.cls, d % 8, (objT (layW ws cs (sp.getD (u % 3).toNat default).top (c % ((cs.length : Int) + 1)) m) cs (sp.getD (u % 3).toNat default).top).hd.fwd, s, (objT (layW ws cs (sp.getD (u % 3).toNat default).top (c % ((cs.length : Int) + 1)) m) cs (sp.getD (u % 3).toNat default).top).hd.final, (objT (layW ws cs (sp.getD (u % 3).toNat default).top (c % ((cs.length : Int) + 1)) m) cs (sp.getD (u % 3).toNat default).top).hd.done⟩ : Hd) = layHd cs (c % ((cs.length : Int) + 1)) d s := by unfold objT; rw [hot]; rfl
      have hse : setHeadE (layW ws cs (sp.getD (u % 3).toNat default).top (c % ((cs.length : Int) + 1)) m) cs (sp.getD (u % 3).toNat default).top (⟨(objT (layW ws cs (sp.getD (u % 3).toNat default).top (c % ((cs.length : Int) + 1)) m) cs (sp.getD (u % 3).toNat default).top).hd.cls, d % 8, (objT (layW ws cs (sp.getD (u % 3).toNat default).top (c % ((cs.length : Int) + 1)) m) cs (sp.getD (u % 3).toNat default).top).hd.fwd, s, (objT (layW ws cs (sp.getD (u % 3).toNat default).top (c % ((cs.length : Int) + 1)) m) cs (sp.getD (u % 3).toNat default).top).hd.final, (objT (layW ws cs (sp.getD (u % 3).toNat default).top (c % ((cs.length : Int) + 1)) m) cs (sp.getD (u % 3).toNat default).top).hd.done⟩ : Hd) = 0 := by rw [hah]; exact setHead_lay hcs (by omega) (by omega) hly
      refine W.draw prog_mixed (fun w => (blkR bh (.cells (#[.int .i64 ((objT (layW ws cs ((sp.getD ((u % 3).toNat) default).top) (c % ((cs.length : Int) + 1)) m) cs (sp.getD (u % 3).toNat default).top).hd.cls), .int .i64 (d % 8), .int .i64 ((objT (layW ws cs ((sp.getD ((u % 3).toNat) default).top) (c % ((cs.length : Int) + 1)) m) cs (sp.getD (u % 3).toNat default).top).hd.fwd), .bool (s), .bool ((objT (layW ws cs ((sp.getD ((u % 3).toNat) default).top) (c % ((cs.length : Int) + 1)) m) cs (sp.getD (u % 3).toNat default).top).hd.final), .bool ((objT (layW ws cs ((sp.getD ((u % 3).toNat) default).top) (c % ((cs.length : Int) + 1)) m) cs (sp.getD (u % 3).toNat default).top).hd.done)]) 123 (0, 0))).ok w ∧ (blkR b1 (.cells (#[.int .u8 c, .int .u8 d, .int .u8 u, .bool (s)]) 70 (0, 0))).ok w ∧ (blkR x (.cells (#[.pointer (some ⟨p, 0, none⟩), .pointer (some ⟨t, 0, none⟩), .pointer (some ⟨p, 0, none⟩), .pointer (some ⟨t, 0, none⟩), spv, atv, sy, rt, cv]) 36 (0, 0))).ok w ∧ (ownR 56 encS 3 spv sp).ok w ∧ (ownR 3 encI 1 atv al).ok w ∧ (tableR t c0 cs).ok w ∧ (viewR clsV 4 cv cs).ok w ∧ True) hp ?_
      intro w hp
      refine WD.s ⟨hp.at 0 rfl, hp.at 1 rfl, hp.at 3 rfl, hp.at 4 rfl, hp.at 5 rfl, (hp.old hT hTD), (hp.old hC hCD), trivial⟩ fun hS0 => ?_
      refine WD.v 0 rfl hS0 (fun w hS => (X.mv rfl)) ?_
      refine WD.v 1 rfl hS0 (fun w hS => (X.nilc rfl)) ?_
      refine WD.v 2 rfl hS0 (fun w hS => (X.fa (r := 2) tF36_2 rfl rfl)) ?_
      refine WD.v 3 rfl hS0 (fun w hS => (X.ldkA hS.2.2.1 tA32 tS32 (vs := [.pointer (some ⟨p, 0, none⟩), .pointer (some ⟨t, 0, none⟩)]) rfl rfl)) ?_
      refine WD.v 4 rfl hS0 (fun w hS => (X.mv rfl)) ?_
      refine WD.v 5 rfl hS0 (fun w hS => (X.nilc rfl)) ?_
      refine WD.v 6 rfl hS0 (fun w hS => (X.fa (r := offOf spv + ((u % 3).toNat) * 3 + 1) tF56_1 rfl rfl)) ?_
      refine WD.v 7 rfl hS0 (fun w hS => (X.ld1 tA3 rfl (view_cell (j := (u % 3).toNat) (f := 1) (own_view hS.2.2.2.1) (get_some (by omega)) rfl (by omega)))) ?_
      refine WD.v 8 rfl hS0 (fun w hS => (X.ldkA hS.1 tA123 tS123 (vs := [.int .i64 ((objT (layW ws cs ((sp.getD ((u % 3).toNat) default).top) (c % ((cs.length : Int) + 1)) m) cs (sp.getD (u % 3).toNat default).top).hd.cls), .int .i64 (d % 8), .int .i64 ((objT (layW ws cs ((sp.getD ((u % 3).toNat) default).top) (c % ((cs.length : Int) + 1)) m) cs (sp.getD (u % 3).toNat default).top).hd.fwd), .bool (s), .bool ((objT (layW ws cs ((sp.getD ((u % 3).toNat) default).top) (c % ((cs.length : Int) + 1)) m) cs (sp.getD (u % 3).toNat default).top).hd.final), .bool ((objT (layW ws cs ((sp.getD ((u % 3).toNat) default).top) (c % ((cs.length : Int) + 1)) m) cs (sp.getD (u % 3).toNat default).top).hd.done)]) rfl rfl)) ?_
      refine WD.one 9 (by kernel_rfl) ?_
      refine WO.call rfl isFn59 rfl rfl (sethead_c (a := (sp.getD ((u % 3).toNat) default).top) (h := (⟨(objT (layW ws cs ((sp.getD ((u % 3).toNat) default).top) (c % ((cs.length : Int) + 1)) m) cs (sp.getD (u % 3).toNat default).top).hd.cls, d % 8, (objT (layW ws cs ((sp.getD ((u % 3).toNat) default).top) (c % ((cs.length : Int) + 1)) m) cs (sp.getD (u % 3).toNat default).top).hd.fwd, s, (objT (layW ws cs ((sp.getD ((u % 3).toNat) default).top) (c % ((cs.length : Int) + 1)) m) cs (sp.getD (u % 3).toNat default).top).hd.final, (objT (layW ws cs ((sp.getD ((u % 3).toNat) default).top) (c % ((cs.length : Int) + 1)) m) cs (sp.getD (u % 3).toNat default).top).hd.done⟩ : Hd)) (hp.at 2 rfl) (hp.old hT hTD) hD) ?_
      intro v w hc hr
      rcases hr with ⟨hr13, rfl, hA⟩ | ⟨hr13, rfl, hA⟩
      · have hp := hp.arena 2 rfl hc hA
        refine andS ⟨hp.at 0 rfl, hp.at 1 rfl, hp.at 3 rfl, hp.at 4 rfl, hp.at 5 rfl, (hp.old hT hTD), (hp.old hC hCD), trivial⟩ fun hS0 => ?_
        refine WD.nil (by kernel_rfl) ?_
        refine X.thenN ?_
        refine W.seq ?_
        refine W.seq ?_
        rw [hah] at hp
        refine W.reg ?_
        refine WL.run 2 rfl ?_
        refine WL.fin ?_
        refine W.block ?_
        skip
        refine W.loop (X := Nat) (fun k => (cget cs (c % ((cs.length : Int) + 1))).data.toNat - k) (fun k => [(0, .pointer (some ⟨x, 0, none⟩)), (3, .pointer (some ⟨b1, 0, none⟩)), (5, .pointer (some ⟨(blkOf spv), offOf spv + ((u % 3).toNat) * 3, none⟩)), (10, .int .i64 ((cget cs (c % ((cs.length : Int) + 1))).data)), (12, .int .i64 ((2 + ((cget cs (c % ((cs.length : Int) + 1))).refs + m)) + ((cget cs (c % ((cs.length : Int) + 1))).data))), (157, .int .i64 ((cget cs (c % ((cs.length : Int) + 1))).data)), (158, .int .i64 (k : Int)), (8, .int .i64 m)]) (fun k w => Hp w0 FL [arenaR p b (layA ws cs (sp.getD (u % 3).toNat default).top (c % ((cs.length : Int) + 1)) m d s k), blkR b1 (.cells (#[.int .u8 c, .int .u8 d, .int .u8 u, .bool (s)]) 70 (0, 0)), blkR x (.cells (#[.pointer (some ⟨p, 0, none⟩), .pointer (some ⟨t, 0, none⟩), .pointer (some ⟨p, 0, none⟩), .pointer (some ⟨t, 0, none⟩), spv, atv, sy, rt, cv]) 36 (0, 0)), ownR 56 encS 3 spv sp, ownR 3 encI 1 atv al] w ∧ k ≤ (cget cs (c % ((cs.length : Int) + 1))).data.toNat) 0 ⟨rfl, rfl, rfl, rfl, rfl, rfl, rfl, rfl, trivial⟩ ?_ ?_
        · exact ⟨(hp.sel [2, 1, 3, 4, 5] (by decide)), by omega⟩
        rintro k w ⟨hp, hk⟩
        refine W.sr ?_
        refine WL.run 1 rfl ?_
        refine WL.s ?_
        by_cases hc14 : (k : Int) < ((cget cs (c % ((cs.length : Int) + 1))).data)
        · refine W.cT rfl (decide_eq_true hc14) ?_
          refine W.k ?_
          refine W.seq ?_
          refine W.block ?_
          refine W.sr ?_
          refine WL.run 2 rfl ?_
          refine WL.fin ?_
          have hlo := layA_obj (s := s) hcs (by omega) (show 0 ≤ d by omega) hly k
          have hoe : objE (layA ws cs (sp.getD (u % 3).toNat default).top (c % ((cs.length : Int) + 1)) m d s k) cs (sp.getD (u % 3).toNat default).top = 0 := by unfold objE; rw [hlo]
          have hor : (objT (layA ws cs (sp.getD (u % 3).toNat default).top (c % ((cs.length : Int) + 1)) m d s k) cs (sp.getD (u % 3).toNat default).top).refs = (cget cs (c % ((cs.length : Int) + 1))).refs + m := by unfold objT; rw [hlo]
          have hod : (objT (layA ws cs (sp.getD (u % 3).toNat default).top (c % ((cs.length : Int) + 1)) m d s k) cs (sp.getD (u % 3).toNat default).top).data = (cget cs (c % ((cs.length : Int) + 1))).data := by unfold objT; rw [hlo]
          have hne : numE (layA ws cs (sp.getD (u % 3).toNat default).top (c % ((cs.length : Int) + 1)) m d s k) cs (sp.getD (u % 3).toNat default).top (k : Int) = 0 := numE_ok hoe (by omega) (by rw [hod]; omega)
          refine W.draw prog_mixed (fun w => (blkR b1 (.cells (#[.int .u8 c, .int .u8 d, .int .u8 u, .bool (s)]) 70 (0, 0))).ok w ∧ (blkR x (.cells (#[.pointer (some ⟨p, 0, none⟩), .pointer (some ⟨t, 0, none⟩), .pointer (some ⟨p, 0, none⟩), .pointer (some ⟨t, 0, none⟩), spv, atv, sy, rt, cv]) 36 (0, 0))).ok w ∧ (ownR 56 encS 3 spv sp).ok w ∧ (ownR 3 encI 1 atv al).ok w ∧ (tableR t c0 cs).ok w ∧ (viewR clsV 4 cv cs).ok w ∧ True) hp ?_
          intro w hp
          refine WD.s ⟨hp.at 1 rfl, hp.at 2 rfl, hp.at 3 rfl, hp.at 4 rfl, (hp.old hT hTD), (hp.old hC hCD), trivial⟩ fun hS0 => ?_
          refine WD.v 0 rfl hS0 (fun w hS => (X.mv rfl)) ?_
          refine WD.v 1 rfl hS0 (fun w hS => (X.nilc rfl)) ?_
          refine WD.v 2 rfl hS0 (fun w hS => (X.fa (r := 2) tF36_2 rfl rfl)) ?_
          refine WD.v 3 rfl hS0 (fun w hS => (X.ldkA hS.2.1 tA32 tS32 (vs := [.pointer (some ⟨p, 0, none⟩), .pointer (some ⟨t, 0, none⟩)]) rfl rfl)) ?_
          refine WD.v 4 rfl hS0 (fun w hS => (X.mv rfl)) ?_
          refine WD.v 5 rfl hS0 (fun w hS => (X.nilc rfl)) ?_
          refine WD.v 6 rfl hS0 (fun w hS => (X.fa (r := offOf spv + ((u % 3).toNat) * 3 + 1) tF56_1 rfl rfl)) ?_
          refine WD.v 7 rfl hS0 (fun w hS => (X.ld1 tA3 rfl (view_cell (j := (u % 3).toNat) (f := 1) (own_view hS.2.2.1) (get_some (by omega)) rfl (by omega)))) ?_
          refine WD.v 8 rfl hS0 (fun w hS => (X.mv rfl)) ?_
          refine WD.v 9 rfl hS0 (fun w hS => (X.fa (r := 1) tF70_1 rfl rfl)) ?_
          refine WD.v 10 rfl hS0 (fun w hS => (X.ldk hS.1 tA5 rfl rfl)) ?_
          refine WD.v 11 rfl hS0 (fun w hS => (X.conv (b := d) tI5 tI3 rfl (wrap_in64 (in64 (by omega))))) ?_
          refine WD.v 12 rfl hS0 (fun w hS => (X.mv rfl)) ?_
          refine WD.v 13 rfl hS0 (fun w hS => (X.add rfl rfl (in64 (by omega)))) ?_
          refine WD.one 14 (by kernel_rfl) ?_
          refine WO.call rfl isFn60 rfl rfl (setnum_c (a := (sp.getD ((u % 3).toNat) default).top) (f := (k : Int)) (x := d + (k : Int)) (hp.at 0 rfl) (hp.old hT hTD) hD) ?_
          intro v w hc hr
          rcases hr with ⟨hr15, rfl, hA⟩ | ⟨hr15, rfl, hA⟩
          · have hp := hp.arena 0 rfl hc hA
            refine andS ⟨hp.at 1 rfl, hp.at 2 rfl, hp.at 3 rfl, hp.at 4 rfl, (hp.old hT hTD), (hp.old hC hCD), trivial⟩ fun hS0 => ?_
            refine WD.nil (by kernel_rfl) ?_
            refine X.inN ?_
            refine X.thenN ?_
            refine W.reg ?_
            refine WL.v (X.add rfl rfl (in64 (by omega))) ?_
            refine WL.run 1 rfl ?_
            refine WL.nil ?_
            refine X.again (k + 1) ⟨rfl, rfl, rfl, rfl, rfl, rfl, rfl, rfl, trivial⟩ ?_ ?_
            · exact ⟨by rw [hor] at hp; exact hp, by omega⟩
            · omega
          (try simp only [fillW_length, moveW_length, List.length_set] at hr15); first | contradiction | (exfalso; omega) | (exfalso; simp_all; done)
        refine W.cF rfl (decide_eq_false hc14) ?_
        refine W.exit ?_
        refine X.thenE ?_
        refine X.thenE ?_
        refine X.inH ?_
        refine X.thenN ?_
        refine W.seq ?_
        refine W.draw prog_mixed (fun w => (arenaR p b (layA ws cs (sp.getD (u % 3).toNat default).top (c % ((cs.length : Int) + 1)) m d s k)).ok w ∧ (blkR b1 (.cells (#[.int .u8 c, .int .u8 d, .int .u8 u, .bool (s)]) 70 (0, 0))).ok w ∧ (ownR 56 encS 3 spv sp).ok w ∧ (tableR t c0 cs).ok w ∧ (viewR clsV 4 cv cs).ok w ∧ True) hp ?_
        intro w hp
        refine WD.s ⟨hp.at 0 rfl, hp.at 1 rfl, hp.at 3 rfl, (hp.old hT hTD), (hp.old hC hCD), trivial⟩ fun hS0 => ?_
        refine WD.v 0 rfl hS0 (fun w hS => (X.mv rfl)) ?_
        refine WD.v 1 rfl hS0 (fun w hS => (X.mv rfl)) ?_
        refine WD.v 2 rfl hS0 (fun w hS => (X.nilc rfl)) ?_
        refine WD.v 3 rfl hS0 (fun w hS => (X.fa (r := 5) tF36_4 rfl rfl)) ?_
        refine WD.v 5 rfl hS0 (fun w hS => (X.mv rfl)) ?_
        refine WD.v 6 rfl hS0 (fun w hS => (X.nilc rfl)) ?_
        refine WD.v 7 rfl hS0 (fun w hS => (X.fa (r := offOf spv + ((u % 3).toNat) * 3 + 1) tF56_1 rfl rfl)) ?_
        refine WD.v 8 rfl hS0 (fun w hS => (X.ld1 tA3 rfl (view_cell (j := (u % 3).toNat) (f := 1) (own_view hS.2.2.1) (get_some (by omega)) rfl (by omega)))) ?_
        refine WD.two 4 9 (by kernel_rfl) ?_ ?_
        · refine WO.val rfl rfl rfl (X.ldk (hp.at 2 rfl) tA34 rfl rfl) hS0 ?_
          refine WD.one 9 (by kernel_rfl) ?_
          refine WO.bsl hp rfl (e := 3) (cs := #[.int .i64 ((sp.getD ((u % 3).toNat) default).top)]) rfl (fun _ => by kernel_rfl) rfl ?_
          intro b16 w hp
          refine andS ⟨hp.at 1 rfl, hp.at 2 rfl, hp.at 4 rfl, (hp.old hT hTD), (hp.old hC hCD), trivial⟩ fun hS0 => ?_
          refine WD.one 10 (by kernel_rfl) ?_
          refine WO.append hp 5 rfl rfl tL34 (zeroT_ex tZ3) tS3 tY3 rfl rfl (view_of_blk (l := [(sp.getD ((u % 3).toNat) default).top]) hp 0 rfl encI_len (by omega) rfl (by simp) (by simp)) encI_one (by simp only [List.length_append, List.length_cons, List.length_nil]; omega) rfl ?_
          intro v17 w hp
          refine andS ⟨hp.at 1 rfl, hp.at 2 rfl, hp.at 4 rfl, (hp.old hT hTD), (hp.old hC hCD), trivial⟩ fun hS0 => ?_
          refine WD.v 11 rfl hS0 (fun w hS => (X.nilc rfl)) ?_
          refine WD.v 12 rfl hS0 (fun w hS => (X.fa (r := 5) tF36_4 rfl rfl)) ?_
          refine WD.one 13 (by kernel_rfl) ?_
          refine WO.store hp 3 rfl rfl tS34 rfl rfl (vs := [v17]) (view_cells1 (own_view (hp.at 5 rfl))) (by first | (simp only [List.all_cons, List.all_nil, Bool.and_true, view_one (own_view (hp.at 5 rfl))]; done) | (simp only [List.all_cons, List.all_nil, Bool.and_true, one_int, one_bool, one_ptr, one_map, one_sl, view_one (own_view (hp.at 5 rfl))]; done) | simp [Value.oneCell', view_one (own_view (hp.at 5 rfl))]) rfl (new := #[.pointer (some ⟨p, 0, none⟩), .pointer (some ⟨t, 0, none⟩), .pointer (some ⟨p, 0, none⟩), .pointer (some ⟨t, 0, none⟩), spv, v17, sy, rt, cv]) rfl ?_
          intro w hp
          refine andS ⟨hp.at 1 rfl, hp.at 2 rfl, hp.at 4 rfl, (hp.old hT hTD), (hp.old hC hCD), trivial⟩ fun hS0 => ?_
          refine WD.nil (by kernel_rfl) ?_
          refine X.thenN ?_
          refine W.sr ?_
          refine WL.run 3 rfl ?_
          refine WL.v (X.ld1 tA3 rfl (view_cell (j := (u % 3).toNat) (f := 1) (own_view (hp.at 4 rfl)) (get_some (by omega)) rfl (by omega))) ?_
          refine WL.run 1 rfl ?_
          refine WL.v (X.add rfl rfl (in64 (by omega))) ?_
          refine WL.run 2 rfl ?_
          refine WL.stOwn hp 4 rfl (j := (u % 3).toNat) (f := 1) (q := (sp.getD ((u % 3).toNat) default)) (q' := (⟨(sp.getD ((u % 3).toNat) default).from_, ((sp.getD ((u % 3).toNat) default).top) + ((2 + ((cget cs (c % ((cs.length : Int) + 1))).refs + m)) + ((cget cs (c % ((cs.length : Int) + 1))).data)), (sp.getD ((u % 3).toNat) default).end_⟩ : Spc)) tS3 rfl rfl (vs := [.int .i64 (((sp.getD ((u % 3).toNat) default).top) + ((2 + ((cget cs (c % ((cs.length : Int) + 1))).refs + m)) + ((cget cs (c % ((cs.length : Int) + 1))).data)))]) rfl rfl (get_some (by omega)) rfl (by simp only [List.length_cons, List.length_nil]; omega) rfl ?_
          intro w hp
          refine WL.a ?_
          refine WL.run 1 rfl ?_
          refine WL.fin ?_
          refine W.ret ?_
          refine W.done hp (rs := [.tmp 4]) (vs := [.bool true]) (v := .bool true) rfl ⟨rfl, trivial⟩ rfl ?_
          have hke : k = (cget cs (c % ((cs.length : Int) + 1))).data.toNat := by omega
          subst hke
          have hS := layS_obj (al := al) (s := s) (ws := ws) (sp := sp) (u := u) (by assumption) hm (by omega) hly
          rw [hS]
          exact ⟨rfl, v17, (hp.sel [1, 3, 4, 5] (by decide))⟩
        refine WO.bsl hp rfl (e := 3) (cs := #[.int .i64 ((sp.getD ((u % 3).toNat) default).top)]) rfl (fun _ => by kernel_rfl) rfl ?_
        intro b18 w hp
        refine andS ⟨hp.at 1 rfl, hp.at 2 rfl, hp.at 4 rfl, (hp.old hT hTD), (hp.old hC hCD), trivial⟩ fun hS0 => ?_
        refine WD.one 4 (by kernel_rfl) ?_
        refine WO.val rfl rfl rfl (X.ldk (hp.at 3 rfl) tA34 rfl rfl) hS0 ?_
        refine WD.one 10 (by kernel_rfl) ?_
        refine WO.append hp 5 rfl rfl tL34 (zeroT_ex tZ3) tS3 tY3 rfl rfl (view_of_blk (l := [(sp.getD ((u % 3).toNat) default).top]) hp 0 rfl encI_len (by omega) rfl (by simp) (by simp)) encI_one (by simp only [List.length_append, List.length_cons, List.length_nil]; omega) rfl ?_
        intro v19 w hp
        refine andS ⟨hp.at 1 rfl, hp.at 2 rfl, hp.at 4 rfl, (hp.old hT hTD), (hp.old hC hCD), trivial⟩ fun hS0 => ?_
        refine WD.v 11 rfl hS0 (fun w hS => (X.nilc rfl)) ?_
        refine WD.v 12 rfl hS0 (fun w hS => (X.fa (r := 5) tF36_4 rfl rfl)) ?_
        refine WD.one 13 (by kernel_rfl) ?_
        refine WO.store hp 3 rfl rfl tS34 rfl rfl (vs := [v19]) (view_cells1 (own_view (hp.at 5 rfl))) (by first | (simp only [List.all_cons, List.all_nil, Bool.and_true, view_one (own_view (hp.at 5 rfl))]; done) | (simp only [List.all_cons, List.all_nil, Bool.and_true, one_int, one_bool, one_ptr, one_map, one_sl, view_one (own_view (hp.at 5 rfl))]; done) | simp [Value.oneCell', view_one (own_view (hp.at 5 rfl))]) rfl (new := #[.pointer (some ⟨p, 0, none⟩), .pointer (some ⟨t, 0, none⟩), .pointer (some ⟨p, 0, none⟩), .pointer (some ⟨t, 0, none⟩), spv, v19, sy, rt, cv]) rfl ?_
        intro w hp
        refine andS ⟨hp.at 1 rfl, hp.at 2 rfl, hp.at 4 rfl, (hp.old hT hTD), (hp.old hC hCD), trivial⟩ fun hS0 => ?_
        refine WD.nil (by kernel_rfl) ?_
        refine X.thenN ?_
        refine W.sr ?_
        refine WL.run 3 rfl ?_
        refine WL.v (X.ld1 tA3 rfl (view_cell (j := (u % 3).toNat) (f := 1) (own_view (hp.at 4 rfl)) (get_some (by omega)) rfl (by omega))) ?_
        refine WL.run 1 rfl ?_
        refine WL.v (X.add rfl rfl (in64 (by omega))) ?_
        refine WL.run 2 rfl ?_
        refine WL.stOwn hp 4 rfl (j := (u % 3).toNat) (f := 1) (q := (sp.getD ((u % 3).toNat) default)) (q' := (⟨(sp.getD ((u % 3).toNat) default).from_, ((sp.getD ((u % 3).toNat) default).top) + ((2 + ((cget cs (c % ((cs.length : Int) + 1))).refs + m)) + ((cget cs (c % ((cs.length : Int) + 1))).data)), (sp.getD ((u % 3).toNat) default).end_⟩ : Spc)) tS3 rfl rfl (vs := [.int .i64 (((sp.getD ((u % 3).toNat) default).top) + ((2 + ((cget cs (c % ((cs.length : Int) + 1))).refs + m)) + ((cget cs (c % ((cs.length : Int) + 1))).data)))]) rfl rfl (get_some (by omega)) rfl (by simp only [List.length_cons, List.length_nil]; omega) rfl ?_
        intro w hp
        refine WL.a ?_
        refine WL.run 1 rfl ?_
        refine WL.fin ?_
        refine W.ret ?_
        refine W.done hp (rs := [.tmp 4]) (vs := [.bool true]) (v := .bool true) rfl ⟨rfl, trivial⟩ rfl ?_
        have hke : k = (cget cs (c % ((cs.length : Int) + 1))).data.toNat := by omega
        subst hke
        have hS := layS_obj (al := al) (s := s) (ws := ws) (sp := sp) (u := u) (by assumption) hm (by omega) hly
        rw [hS]
        exact ⟨rfl, v19, (hp.sel [1, 3, 4, 5] (by decide))⟩
      (try simp only [fillW_length, moveW_length, List.length_set] at hr13); first | contradiction | (exfalso; omega) | (exfalso; simp_all; done)
    have hp := hp.arena 1 rfl hc hA
    refine andS ⟨hp.at 0 rfl, hp.at 2 rfl, hp.at 3 rfl, hp.at 4 rfl, (hp.old hT hTD), (hp.old hC hCD), trivial⟩ fun hS0 => ?_
    refine WD.gv 23 rfl rfl rfl rfl (decide_eq_false hc8) hS0 (fun w hS => (X.neq rfl rfl)) ?_
    refine WD.v 24 rfl hS0 (fun w hS => (X.pkF rfl (decide_eq_false hc8) rfl)) ?_
    refine WD.nil (by kernel_rfl) ?_
    refine X.thenN ?_
    refine W.cT rfl (decide_eq_true hr9) ?_
    refine W.sr ?_
    refine WL.run 1 rfl ?_
    refine WL.fin ?_
    refine W.ret ?_
    refine X.thenR ?_
    refine W.done hp (rs := [.tmp 4]) (vs := [.bool false]) (v := .bool false) rfl ⟨rfl, trivial⟩ rfl ?_
    have hS := layS_objno (al := al) (s := s) (ws := ws) (sp := sp) (u := u) (by assumption) hm (fun q => by first | exact absurd q.2 (by assumption) | (have := q.1; omega))
    rw [hS]
    exact ⟨rfl, atv, (hp.sel [1, 2, 3, 4] (by decide))⟩
  (try simp only [fillW_length, moveW_length, List.length_set] at he7); first | contradiction | (exfalso; omega) | (exfalso; simp_all; done)
end Go.Proofs.YtmmmbkmjkpfleaaGreat
