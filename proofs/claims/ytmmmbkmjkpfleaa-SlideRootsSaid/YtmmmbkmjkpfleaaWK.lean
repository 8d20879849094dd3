/- Walks, printed by gen.py from the specs K: what each function answers. No statement of the seat is proved here; conditions: each theorem's own. -/
import Derived.Test.YtmmmbkmjkpfleaaPureR
import Derived.Test.YtmmmbkmjkpfleaaWJ
namespace Go.Proofs.Ytmmmbkmjkpfleaa
open Go Go.RowKit

set_option maxHeartbeats 4000000 in
theorem SlideRoots_c {w0 : World} {cv tv fv ov : Value} {Wo : Wd} (hC : (viewR clsV 4 cv Wo.cs).ok w0) (hTh : (viewR encTh 4 tv Wo.ths).ok w0) (hRf : (viewR encR3 3 fv Wo.rfs).ok w0) (hRo : (viewR encU8 1 ov Wo.ros).ok w0) (hWb : Wo.Bd)  :
    Calls Try.prog 5 #[.agg #[cv, tv, fv, ov, .int .u8 Wo.z0, .int .u8 Wo.z1, .int .u8 Wo.z2]] w0 (Ret [] w0 (fun v _ => v = .bool true)) := by
  have hp : Hp w0 [] [] w0 := Hp.init w0
  refine enter (vs := [.agg #[cv, tv, fv, ov, .int .u8 Wo.z0, .int .u8 Wo.z1, .int .u8 Wo.z2]]) Try.func5 rfl rfl rfl ?_
  refine gen_world hp ?_
  intro w hp
  refine W.sr ?_
  refine WL.box hp rfl (cs := #[cv, tv, fv, ov, .int .u8 Wo.z0, .int .u8 Wo.z1, .int .u8 Wo.z2]) rfl rfl ?_
  intro b1 w hp
  refine WL.run 1 rfl ?_
  refine WL.a ?_
  refine WL.v (X.ldkA (hp.at 0 rfl) tA28 tS28 (vs := [cv, tv, fv, ov, .int .u8 Wo.z0, .int .u8 Wo.z1, .int .u8 Wo.z2]) rfl rfl) ?_
  refine WL.call isFn8 rfl rfl (made16_c (cs := Wo.cs) (ths := Wo.ths) (rfs := Wo.rfs) (ros := Wo.ros) (hp.old0 hC) (hp.old0 hTh) (hp.old0 hRf) (hp.old0 hRo) hWb.th hWb.rf hWb.ro hWb.z0 hWb.z1 hWb.z2) ?_
  intro v w hc hr
  rcases hr with rfl | ⟨hok, p, b, t, c0, sp, at_, sy, rt, q, hst, rfl, hN⟩
  · have hp := hp.ext hc
    refine WL.run 3 rfl ?_
    refine WL.alloc hp tZ37 rfl ?_
    intro b2 w hp
    refine WL.store hp 0 rfl tS37 rfl rfl (vs := [.pointer none, .pointer none, .pointer none, .pointer none, .slice none 0 0, .slice none 0 0, .slice none 0 0, .slice none 0 0, .slice none 0 0]) rfl rfl rfl (new := #[.pointer none, .pointer none, .pointer none, .pointer none, .slice none 0 0, .slice none 0 0, .slice none 0 0, .slice none 0 0, .slice none 0 0]) rfl ?_
    intro w hp
    refine WL.run 1 rfl ?_
    refine WL.s ?_
    refine W.sr ?_
    refine WL.call isFn9 rfl rfl awake_c ?_
    intro v w hc hr
    obtain rfl := hr
    have hp := hp.ext hc
    refine WL.run 2 rfl ?_
    refine WL.g1 rfl rfl rfl ?_
    refine WL.run 1 rfl ?_
    refine WL.g1 rfl rfl rfl ?_
    refine WL.run 1 rfl ?_
    refine WL.v (X.pkF rfl rfl rfl) ?_
    refine WL.fin ?_
    refine W.cT rfl rfl ?_
    refine W.sr ?_
    refine WL.call isFn9 rfl rfl awake_c ?_
    intro v w hc hr
    obtain rfl := hr
    have hp := hp.ext hc
    refine WL.run 1 rfl ?_
    refine WL.fin ?_
    refine W.ret ?_
    refine X.thenR ?_
    refine W.done hp (rs := [.tmp 2]) (vs := [.bool true]) (v := .bool true) rfl ⟨rfl, trivial⟩ rfl ?_
    exact rfl
  have hp := hp.adds hN
  have hp : Hp w0 [] [arenaR p b Wo.ws, tableR t c0 Wo.cs, ownR 44 encS 3 sp Wo.sp, ownR 3 encI 1 at_ Wo.al, ownR 3 encI 1 sy q, ownR 3 encI 1 rt Wo.roots, blkR b1 (.cells (#[cv, tv, fv, ov, .int .u8 Wo.z0, .int .u8 Wo.z1, .int .u8 Wo.z2]) 28 (0, 0))] w := hp
  have hg : Wo.Good q := Wd.good hWb hok hst
  have hcs := hg.hcs
  have hql := hg.qlen
  have hrl := hg.rlen
  have hal := hg.allen
  have hlen5 := hg.inv.len
  have hsp3 := hg.inv.sp3
  refine WL.run 3 rfl ?_
  refine WL.alloc hp tZ37 rfl ?_
  intro b3 w hp
  refine WL.store hp 0 rfl tS37 rfl rfl (vs := [.pointer (some ⟨p, 0, none⟩), .pointer (some ⟨t, 0, none⟩), .pointer (some ⟨p, 0, none⟩), .pointer (some ⟨t, 0, none⟩), sp, at_, sy, rt, cv]) rfl (by first | (simp only [List.all_cons, List.all_nil, Bool.and_true, view_one (own_view (hp.at 3 rfl)), view_one (own_view (hp.at 4 rfl)), view_one (own_view (hp.at 5 rfl)), view_one (own_view (hp.at 6 rfl)), view_one (hp.old0 hC)]; done) | (simp only [List.all_cons, List.all_nil, Bool.and_true, one_int, one_bool, one_ptr, one_map, one_sl, view_one (own_view (hp.at 3 rfl)), view_one (own_view (hp.at 4 rfl)), view_one (own_view (hp.at 5 rfl)), view_one (own_view (hp.at 6 rfl)), view_one (hp.old0 hC)]; done) | simp [Value.oneCell', view_one (own_view (hp.at 3 rfl)), view_one (own_view (hp.at 4 rfl)), view_one (own_view (hp.at 5 rfl)), view_one (own_view (hp.at 6 rfl)), view_one (hp.old0 hC)]) rfl (new := #[.pointer (some ⟨p, 0, none⟩), .pointer (some ⟨t, 0, none⟩), .pointer (some ⟨p, 0, none⟩), .pointer (some ⟨t, 0, none⟩), sp, at_, sy, rt, cv]) rfl ?_
  intro w hp
  refine WL.run 1 rfl ?_
  refine WL.s ?_
  refine W.sr ?_
  refine WL.call isFn9 rfl rfl awake_c ?_
  intro v w hc hr
  obtain rfl := hr
  have hp := hp.ext hc
  refine WL.run 2 rfl ?_
  refine WL.g1 rfl rfl rfl ?_
  refine WL.run 1 rfl ?_
  refine WL.g1 rfl rfl rfl ?_
  refine WL.run 1 rfl ?_
  refine WL.v (X.pkF rfl rfl rfl) ?_
  refine WL.fin ?_
  refine W.cF rfl rfl ?_
  refine W.k ?_
  refine W.seq ?_
  have hr0 := hg.run0 hg.root
  have hR := hr0.2
  have hRl : (Wo.roots.map fun a => ((slG Wo.ws Wo.cs Wo.sp q) a).getD 0).length = Wo.roots.length := List.length_map _
  refine W.reg ?_
  refine WL.run 1 rfl ?_
  refine WL.v (X.ldk (hp.at 0 rfl) tA30 rfl rfl) ?_
  refine WL.run 1 rfl ?_
  refine WL.v (X.ldk (hp.at 0 rfl) tA31 rfl rfl) ?_
  refine WL.run 1 rfl ?_
  refine WL.v (X.ldk (hp.at 0 rfl) tA34 rfl rfl) ?_
  refine WL.run 1 rfl ?_
  refine WL.v (X.ldk (hp.at 0 rfl) tA35 rfl rfl) ?_
  refine WL.run 1 rfl ?_
  refine WL.v (X.ldk (hp.at 0 rfl) tA35 rfl rfl) ?_
  have hp := hp.sel [1, 0, 2, 3, 4, 5, 6, 7] (by decide)
  refine WL.call isFn14 rfl rfl (run_c (l := Wo.sp) (st := q) (rt := Wo.roots) (hp.at 0 rfl) (hp.at 2 rfl) (foot_dis hp (i := 2) (j := 0) rfl rfl (by decide)) (own_view (hp.at 3 rfl)) (own_view (hp.at 5 rfl)) (own_view (hp.at 6 rfl)) (foot_dis hp (i := 3) (j := 0) rfl rfl (by decide)) (foot_dis hp (i := 5) (j := 0) rfl rfl (by decide)) (foot_dis hp (i := 6) (j := 0) rfl rfl (by decide)) (by omega) (by omega) (by omega)) ?_
  intro v w hc hr
  rcases hr with ⟨he6, o4, now5, rfl, hN⟩ | ⟨he6, rfl, hA⟩
  · have hp := Hp.back (Rs := [arenaR p b Wo.ws]) (Rs' := [blkR b3 (.cells (#[.pointer (some ⟨p, 0, none⟩), .pointer (some ⟨t, 0, none⟩), .pointer (some ⟨p, 0, none⟩), .pointer (some ⟨t, 0, none⟩), sp, at_, sy, rt, cv]) 37 (0, 0)), tableR t c0 Wo.cs, ownR 44 encS 3 sp Wo.sp, ownR 3 encI 1 at_ Wo.al, ownR 3 encI 1 sy q, ownR 3 encI 1 rt Wo.roots, blkR b1 (.cells (#[cv, tv, fv, ov, .int .u8 Wo.z0, .int .u8 Wo.z1, .int .u8 Wo.z2]) 28 (0, 0))]) hp hN
    have hp : Hp w0 [] [arenaR p b (slWs Wo.ws Wo.cs Wo.sp q), ownR 3 encI 1 o4 (Wo.roots.map fun a => ((slG Wo.ws Wo.cs Wo.sp q) a).getD 0), ownR 44 encS 3 now5 (slNow Wo.ws Wo.cs Wo.sp q), blkR b3 (.cells (#[.pointer (some ⟨p, 0, none⟩), .pointer (some ⟨t, 0, none⟩), .pointer (some ⟨p, 0, none⟩), .pointer (some ⟨t, 0, none⟩), sp, at_, sy, rt, cv]) 37 (0, 0)), tableR t c0 Wo.cs, ownR 44 encS 3 sp Wo.sp, ownR 3 encI 1 at_ Wo.al, ownR 3 encI 1 sy q, ownR 3 encI 1 rt Wo.roots, blkR b1 (.cells (#[cv, tv, fv, ov, .int .u8 Wo.z0, .int .u8 Wo.z1, .int .u8 Wo.z2]) 28 (0, 0))] w := hp
    refine WL.run 7 rfl ?_
    refine WL.s ?_
    refine W.sr ?_
    refine WL.run 3 rfl ?_
    refine WL.g1 rfl rfl (decide_eq_false (by decide)) ?_
    refine WL.run 1 rfl ?_
    refine WL.g1 rfl rfl (decide_eq_false (by decide)) ?_
    refine WL.v (view_len tL35 (own_view (hp.at 1 rfl)) rfl) ?_
    refine WL.g1 rfl rfl (decide_eq_false (by decide)) ?_
    refine WL.run 1 rfl ?_
    refine WL.g1 rfl rfl (decide_eq_false (by decide)) ?_
    refine WL.v (X.ldk (hp.at 3 rfl) tA35 rfl rfl) ?_
    refine WL.g1 rfl rfl (decide_eq_false (by decide)) ?_
    refine WL.v (view_len tL35 (own_view (hp.at 8 rfl)) rfl) ?_
    refine WL.g1 rfl rfl (decide_eq_false (by decide)) ?_
    refine WL.run 1 rfl ?_
    refine WL.v (X.pkF rfl (decide_eq_false (by decide)) rfl) ?_
    refine WL.fin ?_
    have hc8 : ¬ (((Wo.roots.map fun a => ((slG Wo.ws Wo.cs Wo.sp q) a).getD 0).length : Int) ≠ (Wo.roots.length : Int)) := by omega
    refine W.cF rfl (decide_eq_false hc8) ?_
    refine W.k ?_
    refine W.seq ?_
    refine W.sr ?_
    refine WL.run 1 rfl ?_
    refine WL.v (view_len tL35 (own_view (hp.at 1 rfl)) rfl) ?_
    refine WL.run 1 rfl ?_
    refine WL.fin ?_
    refine W.block ?_
    refine W.loop (X := Nat) (fun i => Wo.roots.length - i) (fun i => [(3, .pointer (some ⟨b3, 0, none⟩)), (5, o4), (48, .int .i64 ((Wo.roots.map fun a => ((slG Wo.ws Wo.cs Wo.sp q) a).getD 0).length : Int)), (49, .int .i64 (i : Int))]) (fun i w => Hp w0 [] [arenaR p b (slWs Wo.ws Wo.cs Wo.sp q), ownR 3 encI 1 o4 (Wo.roots.map fun a => ((slG Wo.ws Wo.cs Wo.sp q) a).getD 0), ownR 44 encS 3 now5 (slNow Wo.ws Wo.cs Wo.sp q), blkR b3 (.cells (#[.pointer (some ⟨p, 0, none⟩), .pointer (some ⟨t, 0, none⟩), .pointer (some ⟨p, 0, none⟩), .pointer (some ⟨t, 0, none⟩), sp, at_, sy, rt, cv]) 37 (0, 0)), tableR t c0 Wo.cs, ownR 44 encS 3 sp Wo.sp, ownR 3 encI 1 at_ Wo.al, ownR 3 encI 1 sy q, ownR 3 encI 1 rt Wo.roots, blkR b1 (.cells (#[cv, tv, fv, ov, .int .u8 Wo.z0, .int .u8 Wo.z1, .int .u8 Wo.z2]) 28 (0, 0))] w ∧ i ≤ Wo.roots.length) 0 ⟨rfl, rfl, rfl, rfl, trivial⟩ ?_ ?_
    · exact ⟨hp, by omega⟩
    rintro i w ⟨hp, hi⟩
    refine W.sr ?_
    refine WL.run 1 rfl ?_
    refine WL.s ?_
    by_cases hc9 : (i : Int) < ((Wo.roots.map fun a => ((slG Wo.ws Wo.cs Wo.sp q) a).getD 0).length : Int)
    · refine W.cT rfl (decide_eq_true hc9) ?_
      refine W.k ?_
      refine W.seq ?_
      refine W.block ?_
      refine W.seq ?_
      have hil : i < Wo.roots.length := by omega
      refine W.reg ?_
      refine WL.run 2 rfl ?_
      refine WL.s ?_
      refine W.sr ?_
      refine WL.run 1 rfl ?_
      refine WL.v (view_len tL35 (own_view (hp.at 1 rfl)) rfl) ?_
      refine WL.run 1 rfl ?_
      refine WL.fin ?_
      refine W.block ?_
      refine W.loop (X := Nat) (fun k => Wo.roots.length - k) (fun k => [(3, .pointer (some ⟨b3, 0, none⟩)), (5, o4), (8, .int .i64 (i : Int)), (48, .int .i64 ((Wo.roots.map fun a => ((slG Wo.ws Wo.cs Wo.sp q) a).getD 0).length : Int)), (49, .int .i64 (i : Int)), (53, .int .i64 ((Wo.roots.map fun a => ((slG Wo.ws Wo.cs Wo.sp q) a).getD 0).length : Int)), (54, .int .i64 (k : Int))]) (fun k w => Hp w0 [] [arenaR p b (slWs Wo.ws Wo.cs Wo.sp q), ownR 3 encI 1 o4 (Wo.roots.map fun a => ((slG Wo.ws Wo.cs Wo.sp q) a).getD 0), ownR 44 encS 3 now5 (slNow Wo.ws Wo.cs Wo.sp q), blkR b3 (.cells (#[.pointer (some ⟨p, 0, none⟩), .pointer (some ⟨t, 0, none⟩), .pointer (some ⟨p, 0, none⟩), .pointer (some ⟨t, 0, none⟩), sp, at_, sy, rt, cv]) 37 (0, 0)), tableR t c0 Wo.cs, ownR 44 encS 3 sp Wo.sp, ownR 3 encI 1 at_ Wo.al, ownR 3 encI 1 sy q, ownR 3 encI 1 rt Wo.roots, blkR b1 (.cells (#[cv, tv, fv, ov, .int .u8 Wo.z0, .int .u8 Wo.z1, .int .u8 Wo.z2]) 28 (0, 0))] w ∧ k ≤ Wo.roots.length) 0 ⟨rfl, rfl, rfl, rfl, rfl, rfl, rfl, trivial⟩ ?_ ?_
      · exact ⟨hp, by omega⟩
      rintro k w ⟨hp, hk⟩
      refine W.sr ?_
      refine WL.run 1 rfl ?_
      refine WL.s ?_
      by_cases hc10 : (k : Int) < ((Wo.roots.map fun a => ((slG Wo.ws Wo.cs Wo.sp q) a).getD 0).length : Int)
      · refine W.cT rfl (decide_eq_true hc10) ?_
        refine W.k ?_
        refine W.seq ?_
        refine W.block ?_
        refine W.seq ?_
        have hkl : k < Wo.roots.length := by omega
        refine W.reg ?_
        refine WL.run 2 rfl ?_
        refine WL.s ?_
        refine W.draw prog_mixed (fun w => (arenaR p b (slWs Wo.ws Wo.cs Wo.sp q)).ok w ∧ (ownR 3 encI 1 o4 (Wo.roots.map fun a => ((slG Wo.ws Wo.cs Wo.sp q) a).getD 0)).ok w ∧ (ownR 44 encS 3 now5 (slNow Wo.ws Wo.cs Wo.sp q)).ok w ∧ (blkR b3 (.cells (#[.pointer (some ⟨p, 0, none⟩), .pointer (some ⟨t, 0, none⟩), .pointer (some ⟨p, 0, none⟩), .pointer (some ⟨t, 0, none⟩), sp, at_, sy, rt, cv]) 37 (0, 0))).ok w ∧ (tableR t c0 Wo.cs).ok w ∧ (ownR 44 encS 3 sp Wo.sp).ok w ∧ (ownR 3 encI 1 at_ Wo.al).ok w ∧ (ownR 3 encI 1 sy q).ok w ∧ (ownR 3 encI 1 rt Wo.roots).ok w ∧ (blkR b1 (.cells (#[cv, tv, fv, ov, .int .u8 Wo.z0, .int .u8 Wo.z1, .int .u8 Wo.z2]) 28 (0, 0))).ok w ∧ (viewR clsV 4 cv Wo.cs).ok w ∧ (viewR encTh 4 tv Wo.ths).ok w ∧ (viewR encR3 3 fv Wo.rfs).ok w ∧ (viewR encU8 1 ov Wo.ros).ok w ∧ True) hp ?_
        intro w hp
        refine WD.s ⟨hp.at 0 rfl, hp.at 1 rfl, hp.at 2 rfl, hp.at 3 rfl, hp.at 4 rfl, hp.at 5 rfl, hp.at 6 rfl, hp.at 7 rfl, hp.at 8 rfl, hp.at 9 rfl, hp.old0 hC, hp.old0 hTh, hp.old0 hRf, hp.old0 hRo, trivial⟩ fun hS0 => ?_
        refine WD.v 0 rfl hS0 (fun w hS => (X.mv rfl)) ?_
        refine WD.v 1 rfl hS0 (fun w hS => (X.mv rfl)) ?_
        refine WD.v 2 rfl hS0 (fun w hS => (X.idxV (j := i) (r := offOf o4 + i * 1) tL35 tS3 (own_view hS.2.1) rfl rfl (by omega) (by omega) rfl)) ?_
        refine WD.v 3 rfl hS0 (fun w hS => (X.ld1 tA3 rfl (view_cell (j := i) (f := 0) (own_view hS.2.1) (get_some (by omega)) rfl (by omega)))) ?_
        refine WD.v 4 rfl hS0 (fun w hS => (X.mv rfl)) ?_
        refine WD.v 5 rfl hS0 (fun w hS => (X.mv rfl)) ?_
        refine WD.v 6 rfl hS0 (fun w hS => (X.idxV (j := k) (r := offOf o4 + k * 1) tL35 tS3 (own_view hS.2.1) rfl rfl (by omega) (by omega) rfl)) ?_
        refine WD.v 7 rfl hS0 (fun w hS => (X.ld1 tA3 rfl (view_cell (j := k) (f := 0) (own_view hS.2.1) (get_some (by omega)) rfl (by omega)))) ?_
        refine WD.v 8 rfl hS0 (fun w hS => (X.lss rfl rfl)) ?_
        refine WD.v 9 rfl hS0 (fun w hS => (X.fa (r := 7) tF37_6 rfl rfl)) ?_
        refine WD.v 10 rfl hS0 (fun w hS => (X.ldk hS.2.2.2.1 tA35 rfl rfl)) ?_
        refine WD.v 11 rfl hS0 (fun w hS => (X.mv rfl)) ?_
        refine WD.v 12 rfl hS0 (fun w hS => (X.idxV (j := i) (r := offOf rt + i * 1) tL35 tS3 (own_view hS.2.2.2.2.2.2.2.2.1) rfl rfl (by omega) (by omega) rfl)) ?_
        refine WD.v 13 rfl hS0 (fun w hS => (X.ld1 tA3 rfl (view_cell (j := i) (f := 0) (own_view hS.2.2.2.2.2.2.2.2.1) (get_some (by omega)) rfl (by omega)))) ?_
        refine WD.v 14 rfl hS0 (fun w hS => (X.fa (r := 7) tF37_6 rfl rfl)) ?_
        refine WD.v 15 rfl hS0 (fun w hS => (X.ldk hS.2.2.2.1 tA35 rfl rfl)) ?_
        refine WD.v 16 rfl hS0 (fun w hS => (X.mv rfl)) ?_
        refine WD.v 17 rfl hS0 (fun w hS => (X.idxV (j := k) (r := offOf rt + k * 1) tL35 tS3 (own_view hS.2.2.2.2.2.2.2.2.1) rfl rfl (by omega) (by omega) rfl)) ?_
        refine WD.v 18 rfl hS0 (fun w hS => (X.ld1 tA3 rfl (view_cell (j := k) (f := 0) (own_view hS.2.2.2.2.2.2.2.2.1) (get_some (by omega)) rfl (by omega)))) ?_
        refine WD.v 19 rfl hS0 (fun w hS => (X.lss rfl rfl)) ?_
        refine WD.v 20 rfl hS0 (fun w hS => (X.neB tB4 rfl rfl)) ?_
        refine WD.nil (by kernel_rfl) ?_
        refine X.thenN ?_
        have hc11 : ((decide (((Wo.roots.map fun a => ((slG Wo.ws Wo.cs Wo.sp q) a).getD 0).getD i default) < ((Wo.roots.map fun a => ((slG Wo.ws Wo.cs Wo.sp q) a).getD 0).getD k default))) == (decide ((Wo.roots.getD i default) < (Wo.roots.getD k default)))) = true := hR.rlt hg.root hil hkl
        refine W.cF rfl (congrArg not hc11) ?_
        refine W.skip ?_
        refine X.inN ?_
        refine X.thenN ?_
        refine W.reg ?_
        refine WL.v (X.add rfl rfl (in64 (by omega))) ?_
        refine WL.run 1 rfl ?_
        refine WL.nil ?_
        refine X.again (k + 1) ⟨rfl, rfl, rfl, rfl, rfl, rfl, rfl, trivial⟩ ?_ ?_
        · exact ⟨hp, by omega⟩
        · omega
      refine W.cF rfl (decide_eq_false hc10) ?_
      refine W.exit ?_
      refine X.thenE ?_
      refine X.thenE ?_
      refine X.inH ?_
      refine X.thenN ?_
      refine W.seq ?_
      refine W.draw prog_mixed (fun w => (arenaR p b (slWs Wo.ws Wo.cs Wo.sp q)).ok w ∧ (ownR 3 encI 1 o4 (Wo.roots.map fun a => ((slG Wo.ws Wo.cs Wo.sp q) a).getD 0)).ok w ∧ (ownR 44 encS 3 now5 (slNow Wo.ws Wo.cs Wo.sp q)).ok w ∧ (blkR b3 (.cells (#[.pointer (some ⟨p, 0, none⟩), .pointer (some ⟨t, 0, none⟩), .pointer (some ⟨p, 0, none⟩), .pointer (some ⟨t, 0, none⟩), sp, at_, sy, rt, cv]) 37 (0, 0))).ok w ∧ (tableR t c0 Wo.cs).ok w ∧ (ownR 44 encS 3 sp Wo.sp).ok w ∧ (ownR 3 encI 1 at_ Wo.al).ok w ∧ (ownR 3 encI 1 sy q).ok w ∧ (ownR 3 encI 1 rt Wo.roots).ok w ∧ (blkR b1 (.cells (#[cv, tv, fv, ov, .int .u8 Wo.z0, .int .u8 Wo.z1, .int .u8 Wo.z2]) 28 (0, 0))).ok w ∧ (viewR clsV 4 cv Wo.cs).ok w ∧ (viewR encTh 4 tv Wo.ths).ok w ∧ (viewR encR3 3 fv Wo.rfs).ok w ∧ (viewR encU8 1 ov Wo.ros).ok w ∧ True) hp ?_
      intro w hp
      refine WD.s ⟨hp.at 0 rfl, hp.at 1 rfl, hp.at 2 rfl, hp.at 3 rfl, hp.at 4 rfl, hp.at 5 rfl, hp.at 6 rfl, hp.at 7 rfl, hp.at 8 rfl, hp.at 9 rfl, hp.old0 hC, hp.old0 hTh, hp.old0 hRf, hp.old0 hRo, trivial⟩ fun hS0 => ?_
      refine WD.v 0 rfl hS0 (fun w hS => (X.mv rfl)) ?_
      refine WD.v 1 rfl hS0 (fun w hS => (X.mv rfl)) ?_
      refine WD.v 2 rfl hS0 (fun w hS => (X.idxV (j := i) (r := offOf o4 + i * 1) tL35 tS3 (own_view hS.2.1) rfl rfl (by omega) (by omega) rfl)) ?_
      refine WD.v 3 rfl hS0 (fun w hS => (X.ld1 tA3 rfl (view_cell (j := i) (f := 0) (own_view hS.2.1) (get_some (by omega)) rfl (by omega)))) ?_
      refine WD.v 4 rfl hS0 (fun w hS => (X.fa (r := 7) tF37_6 rfl rfl)) ?_
      refine WD.v 5 rfl hS0 (fun w hS => (X.ldk hS.2.2.2.1 tA35 rfl rfl)) ?_
      refine WD.v 6 rfl hS0 (fun w hS => (X.mv rfl)) ?_
      refine WD.v 7 rfl hS0 (fun w hS => (X.idxV (j := i) (r := offOf rt + i * 1) tL35 tS3 (own_view hS.2.2.2.2.2.2.2.2.1) rfl rfl (by omega) (by omega) rfl)) ?_
      refine WD.v 8 rfl hS0 (fun w hS => (X.ld1 tA3 rfl (view_cell (j := i) (f := 0) (own_view hS.2.2.2.2.2.2.2.2.1) (get_some (by omega)) rfl (by omega)))) ?_
      refine WD.v 9 rfl hS0 (fun w hS => (X.gtr rfl rfl)) ?_
      refine WD.v 10 rfl hS0 (fun w hS => (X.mv rfl)) ?_
      have hc12 : ¬ ((Wo.roots.getD i default) < ((Wo.roots.map fun a => ((slG Wo.ws Wo.cs Wo.sp q) a).getD 0).getD i default)) := hR.rle hg.root hil
      refine WD.gv 11 rfl rfl rfl rfl (decide_eq_false hc12) hS0 (fun w hS => (X.mv rfl)) ?_
      refine WD.gv 12 rfl rfl rfl rfl (decide_eq_false hc12) hS0 (fun w hS => (X.mv rfl)) ?_
      refine WD.gv 13 rfl rfl rfl rfl (decide_eq_false hc12) hS0 (fun w hS => (X.idxV (j := i) (r := offOf o4 + i * 1) tL35 tS3 (own_view hS.2.1) rfl rfl (by omega) (by omega) rfl)) ?_
      refine WD.gv 14 rfl rfl rfl rfl (decide_eq_false hc12) hS0 (fun w hS => (X.ld1 tA3 rfl (view_cell (j := i) (f := 0) (own_view hS.2.1) (get_some (by omega)) rfl (by omega)))) ?_
      refine WD.gv 15 rfl rfl rfl rfl (decide_eq_false hc12) hS0 (fun w hS => (X.eql rfl rfl)) ?_
      refine WD.gv 16 rfl rfl rfl rfl (decide_eq_false hc12) hS0 (fun w hS => (X.fa (r := 7) tF37_6 rfl rfl)) ?_
      refine WD.gv 17 rfl rfl rfl rfl (decide_eq_false hc12) hS0 (fun w hS => (X.ldk hS.2.2.2.1 tA35 rfl rfl)) ?_
      refine WD.gv 18 rfl rfl rfl rfl (decide_eq_false hc12) hS0 (fun w hS => (X.mv rfl)) ?_
      refine WD.gv 19 rfl rfl rfl rfl (decide_eq_false hc12) hS0 (fun w hS => (X.idxV (j := i) (r := offOf rt + i * 1) tL35 tS3 (own_view hS.2.2.2.2.2.2.2.2.1) rfl rfl (by omega) (by omega) rfl)) ?_
      refine WD.gv 20 rfl rfl rfl rfl (decide_eq_false hc12) hS0 (fun w hS => (X.ld1 tA3 rfl (view_cell (j := i) (f := 0) (own_view hS.2.2.2.2.2.2.2.2.1) (get_some (by omega)) rfl (by omega)))) ?_
      refine WD.gv 21 rfl rfl rfl rfl (decide_eq_false hc12) hS0 (fun w hS => (X.eql rfl rfl)) ?_
      refine WD.gv 22 rfl rfl rfl rfl (decide_eq_false hc12) hS0 (fun w hS => (X.neB tB4 rfl rfl)) ?_
      refine WD.v 23 rfl hS0 (fun w hS => (X.pkF rfl (decide_eq_false hc12) rfl)) ?_
      refine WD.nil (by kernel_rfl) ?_
      refine X.thenN ?_
      have hc13 : ((decide (((Wo.roots.map fun a => ((slG Wo.ws Wo.cs Wo.sp q) a).getD 0).getD i default) = 0)) == (decide ((Wo.roots.getD i default) = 0))) = true := hR.rz hg.root hil
      refine W.cF rfl (congrArg not hc13) ?_
      refine W.skip ?_
      refine X.inN ?_
      refine X.thenN ?_
      refine W.reg ?_
      refine WL.v (X.add rfl rfl (in64 (by omega))) ?_
      refine WL.run 1 rfl ?_
      refine WL.nil ?_
      refine X.again (i + 1) ⟨rfl, rfl, rfl, rfl, trivial⟩ ?_ ?_
      · exact ⟨hp, by omega⟩
      · omega
    refine W.cF rfl (decide_eq_false hc9) ?_
    refine W.exit ?_
    refine X.thenE ?_
    refine X.thenE ?_
    refine X.inH ?_
    refine X.thenN ?_
    refine W.sr ?_
    refine WL.run 1 rfl ?_
    refine WL.fin ?_
    refine W.ret ?_
    refine W.done hp (rs := [.tmp 2]) (vs := [.bool true]) (v := .bool true) rfl ⟨rfl, trivial⟩ rfl ?_
    exact rfl
  exact absurd hr0.1 he6
end Go.Proofs.Ytmmmbkmjkpfleaa
