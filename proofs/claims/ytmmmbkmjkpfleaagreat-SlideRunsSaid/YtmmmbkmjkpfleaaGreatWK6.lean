/- Walks, printed by gen.py from the specs K6: what each function answers. No statement of the seat is proved here; conditions: each theorem's own. -/
import Derived.Test.YtmmmbkmjkpfleaaGreatResJ
import Derived.Test.YtmmmbkmjkpfleaaGreatResI
import Derived.Test.YtmmmbkmjkpfleaaGreatWL2
namespace Go.Proofs.YtmmmbkmjkpfleaaGreat
open Go Go.RowKit

set_option maxHeartbeats 4000000 in
theorem SlideRuns_c {w0 : World} {cv tv fv ov : Value} {Wo : Wd} (hC : (viewR clsV 4 cv Wo.cs).ok w0) (hTh : (viewR encTh 4 tv Wo.ths).ok w0) (hRf : (viewR encR3 3 fv Wo.rfs).ok w0) (hRo : (viewR encU8 1 ov Wo.ros).ok w0) (hWb : Wo.Bd)  :
    Calls Tryz.prog 3 #[.agg #[cv, tv, fv, ov, .int .u8 Wo.z0, .int .u8 Wo.z1, .int .u8 Wo.z2]] w0 (Ret [] w0 (fun v _ => v = .bool true)) := by
  have hp : Hp w0 [] [] w0 := Hp.init w0
  refine enter (vs := [.agg #[cv, tv, fv, ov, .int .u8 Wo.z0, .int .u8 Wo.z1, .int .u8 Wo.z2]]) Tryz.func3 rfl rfl rfl ?_
  refine gen_world hp ?_
  intro w hp
  refine W.sr ?_
  refine WL.box hp rfl (cs := #[cv, tv, fv, ov, .int .u8 Wo.z0, .int .u8 Wo.z1, .int .u8 Wo.z2]) rfl rfl ?_
  intro b1 w hp
  refine WL.run 1 rfl ?_
  refine WL.a ?_
  refine WL.v (X.ldkA (hp.at 0 rfl) tA28 tS28 (vs := [cv, tv, fv, ov, .int .u8 Wo.z0, .int .u8 Wo.z1, .int .u8 Wo.z2]) rfl rfl) ?_
  refine WL.call isFn4 rfl rfl (made16_c (cs := Wo.cs) (ths := Wo.ths) (rfs := Wo.rfs) (ros := Wo.ros) (hp.old0 hC) (hp.old0 hTh) (hp.old0 hRf) (hp.old0 hRo) hWb.th hWb.rf hWb.ro hWb.z0 hWb.z1 hWb.z2) ?_
  intro v w hc hr
  rcases hr with rfl | ⟨hok, p, b, t, c0, sp, at_, sy, rt, q, hst, rfl, hN⟩
  · have hp := hp.ext hc
    refine WL.run 3 rfl ?_
    refine WL.alloc hp tZ36 rfl ?_
    intro b2 w hp
    refine WL.store hp 0 rfl tS36 rfl rfl (vs := [.pointer none, .pointer none, .pointer none, .pointer none, .slice none 0 0, .slice none 0 0, .slice none 0 0, .slice none 0 0, .slice none 0 0]) rfl rfl rfl (new := #[.pointer none, .pointer none, .pointer none, .pointer none, .slice none 0 0, .slice none 0 0, .slice none 0 0, .slice none 0 0, .slice none 0 0]) rfl ?_
    intro w hp
    refine WL.run 1 rfl ?_
    refine WL.s ?_
    refine W.sr ?_
    refine WL.call isFn5 rfl rfl awake_c ?_
    intro v w hc hr
    obtain rfl := hr
    have hp := hp.ext hc
    refine WL.run 2 rfl ?_
    refine WL.g1 rfl rfl rfl ?_
    refine WL.run 1 rfl ?_
    refine WL.g1 rfl rfl rfl ?_
    refine WL.run 1 rfl ?_
    refine WL.v (X.pkF rfl rfl rfl) ?_
    refine WL.fin ?_
    refine W.cT rfl rfl ?_
    refine W.sr ?_
    refine WL.call isFn5 rfl rfl awake_c ?_
    intro v w hc hr
    obtain rfl := hr
    have hp := hp.ext hc
    refine WL.run 1 rfl ?_
    refine WL.fin ?_
    refine W.ret ?_
    refine X.thenR ?_
    refine W.done hp (rs := [.tmp 2]) (vs := [.bool true]) (v := .bool true) rfl ⟨rfl, trivial⟩ rfl ?_
    exact rfl
  have hp := hp.adds hN
  have hp : Hp w0 [] [arenaR p b Wo.ws, tableR t c0 Wo.cs, ownR 56 encS 3 sp Wo.sp, ownR 3 encI 1 at_ Wo.al, ownR 3 encI 1 sy q, ownR 3 encI 1 rt Wo.roots, blkR b1 (.cells (#[cv, tv, fv, ov, .int .u8 Wo.z0, .int .u8 Wo.z1, .int .u8 Wo.z2]) 28 (0, 0))] w := hp
  have hg : Wo.Good q := Wd.good hWb hok hst
  have hcs := hg.hcs
  have hql := hg.qlen
  have hrl := hg.rlen
  have hal := hg.allen
  have hlen5 := hg.inv.len
  have hsp3 := hg.inv.sp3
  refine WL.run 3 rfl ?_
  refine WL.alloc hp tZ36 rfl ?_
  intro b3 w hp
  refine WL.store hp 0 rfl tS36 rfl rfl (vs := [.pointer (some ⟨p, 0, none⟩), .pointer (some ⟨t, 0, none⟩), .pointer (some ⟨p, 0, none⟩), .pointer (some ⟨t, 0, none⟩), sp, at_, sy, rt, cv]) rfl (by first | (simp only [List.all_cons, List.all_nil, Bool.and_true, view_one (own_view (hp.at 3 rfl)), view_one (own_view (hp.at 4 rfl)), view_one (own_view (hp.at 5 rfl)), view_one (own_view (hp.at 6 rfl)), view_one (hp.old0 hC)]; done) | (simp only [List.all_cons, List.all_nil, Bool.and_true, one_int, one_bool, one_ptr, one_map, one_sl, view_one (own_view (hp.at 3 rfl)), view_one (own_view (hp.at 4 rfl)), view_one (own_view (hp.at 5 rfl)), view_one (own_view (hp.at 6 rfl)), view_one (hp.old0 hC)]; done) | simp [Value.oneCell', view_one (own_view (hp.at 3 rfl)), view_one (own_view (hp.at 4 rfl)), view_one (own_view (hp.at 5 rfl)), view_one (own_view (hp.at 6 rfl)), view_one (hp.old0 hC)]) rfl (new := #[.pointer (some ⟨p, 0, none⟩), .pointer (some ⟨t, 0, none⟩), .pointer (some ⟨p, 0, none⟩), .pointer (some ⟨t, 0, none⟩), sp, at_, sy, rt, cv]) rfl ?_
  intro w hp
  refine WL.run 1 rfl ?_
  refine WL.s ?_
  refine W.sr ?_
  refine WL.call isFn5 rfl rfl awake_c ?_
  intro v w hc hr
  obtain rfl := hr
  have hp := hp.ext hc
  refine WL.run 2 rfl ?_
  refine WL.g1 rfl rfl rfl ?_
  refine WL.run 1 rfl ?_
  refine WL.g1 rfl rfl rfl ?_
  refine WL.run 1 rfl ?_
  refine WL.v (X.pkF rfl rfl rfl) ?_
  refine WL.fin ?_
  refine W.cF rfl rfl ?_
  refine W.ks ?_
  refine WL.call isFn6 rfl rfl (lstore_c (hp.at 1 rfl) (hp.at 0 rfl) (hp.old0 hC) hlen5) ?_
  intro v w hc hr
  obtain ⟨q4, wv5, rfl, hN⟩ := hr
  have hp := hp.adds hN
  refine WL.alloc hp tZ42 rfl ?_
  intro b6 w hp
  refine WL.store hp 0 rfl tS42 rfl rfl (vs := [.pointer (some ⟨q4, 0, none⟩), cv]) rfl (by first | (simp only [List.all_cons, List.all_nil, Bool.and_true, view_one (hp.old0 hC)]; done) | (simp only [List.all_cons, List.all_nil, Bool.and_true, one_int, one_bool, one_ptr, one_map, one_sl, view_one (hp.old0 hC)]; done) | simp [Value.oneCell', view_one (hp.old0 hC)]) rfl (new := #[.pointer (some ⟨q4, 0, none⟩), cv]) rfl ?_
  intro w hp
  refine WL.s ?_
  have hr0 := hg.run0 hg.root
  refine W.reg ?_
  refine WL.run 1 rfl ?_
  refine WL.v (X.ldk (hp.at 3 rfl) tA29 rfl rfl) ?_
  refine WL.run 1 rfl ?_
  refine WL.v (X.ldk (hp.at 3 rfl) tA30 rfl rfl) ?_
  refine WL.run 1 rfl ?_
  refine WL.v (X.ldk (hp.at 3 rfl) tA33 rfl rfl) ?_
  refine WL.run 1 rfl ?_
  refine WL.v (X.ldk (hp.at 3 rfl) tA34 rfl rfl) ?_
  refine WL.run 1 rfl ?_
  refine WL.v (X.ldk (hp.at 3 rfl) tA34 rfl rfl) ?_
  have hp := hp.sel [4, 0, 1, 2, 3, 5, 6, 7, 8, 9, 10] (by decide)
  refine WL.call isFn7 rfl rfl (run_c (l := Wo.sp) (st := q) (rt := Wo.roots) (hp.at 0 rfl) (hp.at 5 rfl) (foot_dis hp (i := 5) (j := 0) rfl rfl (by decide)) (own_view (hp.at 6 rfl)) (own_view (hp.at 8 rfl)) (own_view (hp.at 9 rfl)) (foot_dis hp (i := 6) (j := 0) rfl rfl (by decide)) (foot_dis hp (i := 8) (j := 0) rfl rfl (by decide)) (foot_dis hp (i := 9) (j := 0) rfl rfl (by decide)) (by first | omega | decide) (by first | omega | decide) (by first | omega | decide)) ?_
  intro v w hc hr
  rcases hr with ⟨he9, o7, now8, rfl, hN⟩ | ⟨he9, rfl, hA⟩
  · have hp := Hp.back (Rs := [arenaR p b Wo.ws]) (Rs' := [blkR b6 (.cells (#[.pointer (some ⟨q4, 0, none⟩), cv]) 42 (0, 0)), blkR q4 (.cells (#[wv5]) 59 (0, 0)), ownR 3 encI 1 wv5 Wo.ws, blkR b3 (.cells (#[.pointer (some ⟨p, 0, none⟩), .pointer (some ⟨t, 0, none⟩), .pointer (some ⟨p, 0, none⟩), .pointer (some ⟨t, 0, none⟩), sp, at_, sy, rt, cv]) 36 (0, 0)), tableR t c0 Wo.cs, ownR 56 encS 3 sp Wo.sp, ownR 3 encI 1 at_ Wo.al, ownR 3 encI 1 sy q, ownR 3 encI 1 rt Wo.roots, blkR b1 (.cells (#[cv, tv, fv, ov, .int .u8 Wo.z0, .int .u8 Wo.z1, .int .u8 Wo.z2]) 28 (0, 0))]) hp hN
    have hp : Hp w0 [] [arenaR p b (slWs Wo.ws Wo.cs Wo.sp q), ownR 3 encI 1 o7 (Wo.roots.map fun a => ((slG Wo.ws Wo.cs Wo.sp q) a).getD 0), ownR 56 encS 3 now8 (slNow Wo.ws Wo.cs Wo.sp q), blkR b6 (.cells (#[.pointer (some ⟨q4, 0, none⟩), cv]) 42 (0, 0)), blkR q4 (.cells (#[wv5]) 59 (0, 0)), ownR 3 encI 1 wv5 Wo.ws, blkR b3 (.cells (#[.pointer (some ⟨p, 0, none⟩), .pointer (some ⟨t, 0, none⟩), .pointer (some ⟨p, 0, none⟩), .pointer (some ⟨t, 0, none⟩), sp, at_, sy, rt, cv]) 36 (0, 0)), tableR t c0 Wo.cs, ownR 56 encS 3 sp Wo.sp, ownR 3 encI 1 at_ Wo.al, ownR 3 encI 1 sy q, ownR 3 encI 1 rt Wo.roots, blkR b1 (.cells (#[cv, tv, fv, ov, .int .u8 Wo.z0, .int .u8 Wo.z1, .int .u8 Wo.z2]) 28 (0, 0))] w := hp
    have hR := hr0.2
    obtain ⟨gt, hWk⟩ := hR.walks hcs
    have hnl : (slNow Wo.ws Wo.cs Wo.sp q).length = 3 := by rw [hR.nlen, hsp3]
    have hsl5 : (slWs Wo.ws Wo.cs Wo.sp q).length = 500 := hR.len.trans hlen5
    have hrl5 : (refWs Wo.ws Wo.cs Wo.sp q).length = 500 := (cpW_len _ _ _).trans hlen5
    refine WL.run 7 rfl ?_
    refine WL.s ?_
    refine W.draw prog_mixed (fun w => (arenaR p b (slWs Wo.ws Wo.cs Wo.sp q)).ok w ∧ (ownR 3 encI 1 o7 (Wo.roots.map fun a => ((slG Wo.ws Wo.cs Wo.sp q) a).getD 0)).ok w ∧ (ownR 56 encS 3 now8 (slNow Wo.ws Wo.cs Wo.sp q)).ok w ∧ (blkR b6 (.cells (#[.pointer (some ⟨q4, 0, none⟩), cv]) 42 (0, 0))).ok w ∧ (blkR b3 (.cells (#[.pointer (some ⟨p, 0, none⟩), .pointer (some ⟨t, 0, none⟩), .pointer (some ⟨p, 0, none⟩), .pointer (some ⟨t, 0, none⟩), sp, at_, sy, rt, cv]) 36 (0, 0))).ok w ∧ (tableR t c0 Wo.cs).ok w ∧ (ownR 56 encS 3 sp Wo.sp).ok w ∧ (ownR 3 encI 1 at_ Wo.al).ok w ∧ (ownR 3 encI 1 sy q).ok w ∧ (ownR 3 encI 1 rt Wo.roots).ok w ∧ (blkR b1 (.cells (#[cv, tv, fv, ov, .int .u8 Wo.z0, .int .u8 Wo.z1, .int .u8 Wo.z2]) 28 (0, 0))).ok w ∧ (viewR clsV 4 cv Wo.cs).ok w ∧ (viewR encTh 4 tv Wo.ths).ok w ∧ (viewR encR3 3 fv Wo.rfs).ok w ∧ (viewR encU8 1 ov Wo.ros).ok w ∧ True) hp ?_
    intro w hp
    refine WD.s ⟨hp.at 0 rfl, hp.at 1 rfl, hp.at 2 rfl, hp.at 3 rfl, hp.at 6 rfl, hp.at 7 rfl, hp.at 8 rfl, hp.at 9 rfl, hp.at 10 rfl, hp.at 11 rfl, hp.at 12 rfl, hp.old0 hC, hp.old0 hTh, hp.old0 hRf, hp.old0 hRo, trivial⟩ fun hS0 => ?_
    refine WD.v 0 rfl hS0 (fun w hS => (X.ldkA hS.2.2.2.1 tA42 tS42 (vs := [.pointer (some ⟨q4, 0, none⟩), cv]) rfl rfl)) ?_
    refine WD.v 1 rfl hS0 (fun w hS => (X.fa (r := 4) tF36_3 rfl rfl)) ?_
    refine WD.v 2 rfl hS0 (fun w hS => (X.ldk hS.2.2.2.2.1 tA33 rfl rfl)) ?_
    refine WD.v 4 rfl hS0 (fun w hS => (X.fa (r := 6) tF36_5 rfl rfl)) ?_
    refine WD.v 5 rfl hS0 (fun w hS => (X.ldk hS.2.2.2.2.1 tA34 rfl rfl)) ?_
    refine WD.v 6 rfl hS0 (fun w hS => (X.fa (r := 7) tF36_6 rfl rfl)) ?_
    refine WD.v 7 rfl hS0 (fun w hS => (X.ldk hS.2.2.2.2.1 tA34 rfl rfl)) ?_
    refine WD.one 3 (by kernel_rfl) ?_
    refine WO.call rfl isFn9 rfl rfl (list_c (own_view (hp.at 8 rfl)) (by first | omega | decide)) ?_
    intro v10 w hc hr
    have hp := hp.newN hc hr
    refine andS ⟨hp.at 1 rfl, hp.at 2 rfl, hp.at 3 rfl, hp.at 4 rfl, hp.at 7 rfl, hp.at 8 rfl, hp.at 9 rfl, hp.at 10 rfl, hp.at 11 rfl, hp.at 12 rfl, hp.at 13 rfl, hp.old0 hC, hp.old0 hTh, hp.old0 hRf, hp.old0 hRo, trivial⟩ fun hS0 => ?_
    refine WD.one 8 (by kernel_rfl) ?_
    have hp := hp.sel [5, 6, 0, 1, 2, 3, 4, 7, 8, 9, 10, 11, 12, 13] (by decide)
    refine WO.call rfl isFn8 rfl rfl (run16_c (Hp.give (Rs := [blkR q4 (.cells (#[wv5]) 59 (0, 0)), ownR 3 encI 1 wv5 Wo.ws]) (Rs' := [ownR 91 encS 3 v10 Wo.sp, arenaR p b (slWs Wo.ws Wo.cs Wo.sp q), ownR 3 encI 1 o7 (Wo.roots.map fun a => ((slG Wo.ws Wo.cs Wo.sp q) a).getD 0), ownR 56 encS 3 now8 (slNow Wo.ws Wo.cs Wo.sp q), blkR b6 (.cells (#[.pointer (some ⟨q4, 0, none⟩), cv]) 42 (0, 0)), blkR b3 (.cells (#[.pointer (some ⟨p, 0, none⟩), .pointer (some ⟨t, 0, none⟩), .pointer (some ⟨p, 0, none⟩), .pointer (some ⟨t, 0, none⟩), sp, at_, sy, rt, cv]) 36 (0, 0)), tableR t c0 Wo.cs, ownR 56 encS 3 sp Wo.sp, ownR 3 encI 1 at_ Wo.al, ownR 3 encI 1 sy q, ownR 3 encI 1 rt Wo.roots, blkR b1 (.cells (#[cv, tv, fv, ov, .int .u8 Wo.z0, .int .u8 Wo.z1, .int .u8 Wo.z2]) 28 (0, 0))]) hp) (hp.old0 hC) (Hp.oldFront (Rs := [blkR q4 (.cells (#[wv5]) 59 (0, 0)), ownR 3 encI 1 wv5 Wo.ws]) (Rs' := [ownR 91 encS 3 v10 Wo.sp, arenaR p b (slWs Wo.ws Wo.cs Wo.sp q), ownR 3 encI 1 o7 (Wo.roots.map fun a => ((slG Wo.ws Wo.cs Wo.sp q) a).getD 0), ownR 56 encS 3 now8 (slNow Wo.ws Wo.cs Wo.sp q), blkR b6 (.cells (#[.pointer (some ⟨q4, 0, none⟩), cv]) 42 (0, 0)), blkR b3 (.cells (#[.pointer (some ⟨p, 0, none⟩), .pointer (some ⟨t, 0, none⟩), .pointer (some ⟨p, 0, none⟩), .pointer (some ⟨t, 0, none⟩), sp, at_, sy, rt, cv]) 36 (0, 0)), tableR t c0 Wo.cs, ownR 56 encS 3 sp Wo.sp, ownR 3 encI 1 at_ Wo.al, ownR 3 encI 1 sy q, ownR 3 encI 1 rt Wo.roots, blkR b1 (.cells (#[cv, tv, fv, ov, .int .u8 Wo.z0, .int .u8 Wo.z1, .int .u8 Wo.z2]) 28 (0, 0))]) hp hC) (own_view (hp.at 2 rfl)) (fun k_ hk_ => Hp.frontDis (Rs := [blkR q4 (.cells (#[wv5]) 59 (0, 0)), ownR 3 encI 1 wv5 Wo.ws]) (Rs' := [ownR 91 encS 3 v10 Wo.sp, arenaR p b (slWs Wo.ws Wo.cs Wo.sp q), ownR 3 encI 1 o7 (Wo.roots.map fun a => ((slG Wo.ws Wo.cs Wo.sp q) a).getD 0), ownR 56 encS 3 now8 (slNow Wo.ws Wo.cs Wo.sp q), blkR b6 (.cells (#[.pointer (some ⟨q4, 0, none⟩), cv]) 42 (0, 0)), blkR b3 (.cells (#[.pointer (some ⟨p, 0, none⟩), .pointer (some ⟨t, 0, none⟩), .pointer (some ⟨p, 0, none⟩), .pointer (some ⟨t, 0, none⟩), sp, at_, sy, rt, cv]) 36 (0, 0)), tableR t c0 Wo.cs, ownR 56 encS 3 sp Wo.sp, ownR 3 encI 1 at_ Wo.al, ownR 3 encI 1 sy q, ownR 3 encI 1 rt Wo.roots, blkR b1 (.cells (#[cv, tv, fv, ov, .int .u8 Wo.z0, .int .u8 Wo.z1, .int .u8 Wo.z2]) 28 (0, 0))]) hp 0 rfl k_ hk_) (own_view (hp.at 11 rfl)) (fun k_ hk_ => Hp.frontDis (Rs := [blkR q4 (.cells (#[wv5]) 59 (0, 0)), ownR 3 encI 1 wv5 Wo.ws]) (Rs' := [ownR 91 encS 3 v10 Wo.sp, arenaR p b (slWs Wo.ws Wo.cs Wo.sp q), ownR 3 encI 1 o7 (Wo.roots.map fun a => ((slG Wo.ws Wo.cs Wo.sp q) a).getD 0), ownR 56 encS 3 now8 (slNow Wo.ws Wo.cs Wo.sp q), blkR b6 (.cells (#[.pointer (some ⟨q4, 0, none⟩), cv]) 42 (0, 0)), blkR b3 (.cells (#[.pointer (some ⟨p, 0, none⟩), .pointer (some ⟨t, 0, none⟩), .pointer (some ⟨p, 0, none⟩), .pointer (some ⟨t, 0, none⟩), sp, at_, sy, rt, cv]) 36 (0, 0)), tableR t c0 Wo.cs, ownR 56 encS 3 sp Wo.sp, ownR 3 encI 1 at_ Wo.al, ownR 3 encI 1 sy q, ownR 3 encI 1 rt Wo.roots, blkR b1 (.cells (#[cv, tv, fv, ov, .int .u8 Wo.z0, .int .u8 Wo.z1, .int .u8 Wo.z2]) 28 (0, 0))]) hp 9 rfl k_ hk_) (own_view (hp.at 12 rfl)) (fun k_ hk_ => Hp.frontDis (Rs := [blkR q4 (.cells (#[wv5]) 59 (0, 0)), ownR 3 encI 1 wv5 Wo.ws]) (Rs' := [ownR 91 encS 3 v10 Wo.sp, arenaR p b (slWs Wo.ws Wo.cs Wo.sp q), ownR 3 encI 1 o7 (Wo.roots.map fun a => ((slG Wo.ws Wo.cs Wo.sp q) a).getD 0), ownR 56 encS 3 now8 (slNow Wo.ws Wo.cs Wo.sp q), blkR b6 (.cells (#[.pointer (some ⟨q4, 0, none⟩), cv]) 42 (0, 0)), blkR b3 (.cells (#[.pointer (some ⟨p, 0, none⟩), .pointer (some ⟨t, 0, none⟩), .pointer (some ⟨p, 0, none⟩), .pointer (some ⟨t, 0, none⟩), sp, at_, sy, rt, cv]) 36 (0, 0)), tableR t c0 Wo.cs, ownR 56 encS 3 sp Wo.sp, ownR 3 encI 1 at_ Wo.al, ownR 3 encI 1 sy q, ownR 3 encI 1 rt Wo.roots, blkR b1 (.cells (#[cv, tv, fv, ov, .int .u8 Wo.z0, .int .u8 Wo.z1, .int .u8 Wo.z2]) 28 (0, 0))]) hp 10 rfl k_ hk_) hcs hr0.1 hR (by omega) (by omega) (by omega) (by omega)) ?_
    intro v w hc hr
    obtain ⟨o11, n12, rfl, hN⟩ := hr
    have hp := Hp.back (Rs := [blkR q4 (.cells (#[wv5]) 59 (0, 0)), ownR 3 encI 1 wv5 Wo.ws]) (Rs' := [ownR 91 encS 3 v10 Wo.sp, arenaR p b (slWs Wo.ws Wo.cs Wo.sp q), ownR 3 encI 1 o7 (Wo.roots.map fun a => ((slG Wo.ws Wo.cs Wo.sp q) a).getD 0), ownR 56 encS 3 now8 (slNow Wo.ws Wo.cs Wo.sp q), blkR b6 (.cells (#[.pointer (some ⟨q4, 0, none⟩), cv]) 42 (0, 0)), blkR b3 (.cells (#[.pointer (some ⟨p, 0, none⟩), .pointer (some ⟨t, 0, none⟩), .pointer (some ⟨p, 0, none⟩), .pointer (some ⟨t, 0, none⟩), sp, at_, sy, rt, cv]) 36 (0, 0)), tableR t c0 Wo.cs, ownR 56 encS 3 sp Wo.sp, ownR 3 encI 1 at_ Wo.al, ownR 3 encI 1 sy q, ownR 3 encI 1 rt Wo.roots, blkR b1 (.cells (#[cv, tv, fv, ov, .int .u8 Wo.z0, .int .u8 Wo.z1, .int .u8 Wo.z2]) 28 (0, 0))]) hp hN
    have hp : Hp w0 [] [blkR q4 (.cells (#[wv5]) 59 (0, 0)), ownR 3 encI 1 wv5 (refWs Wo.ws Wo.cs Wo.sp q), ownR 3 encI 1 o11 (Wo.roots.map fun a => ((slG Wo.ws Wo.cs Wo.sp q) a).getD 0), ownR 91 encS 3 n12 (slNow Wo.ws Wo.cs Wo.sp q), ownR 91 encS 3 v10 Wo.sp, arenaR p b (slWs Wo.ws Wo.cs Wo.sp q), ownR 3 encI 1 o7 (Wo.roots.map fun a => ((slG Wo.ws Wo.cs Wo.sp q) a).getD 0), ownR 56 encS 3 now8 (slNow Wo.ws Wo.cs Wo.sp q), blkR b6 (.cells (#[.pointer (some ⟨q4, 0, none⟩), cv]) 42 (0, 0)), blkR b3 (.cells (#[.pointer (some ⟨p, 0, none⟩), .pointer (some ⟨t, 0, none⟩), .pointer (some ⟨p, 0, none⟩), .pointer (some ⟨t, 0, none⟩), sp, at_, sy, rt, cv]) 36 (0, 0)), tableR t c0 Wo.cs, ownR 56 encS 3 sp Wo.sp, ownR 3 encI 1 at_ Wo.al, ownR 3 encI 1 sy q, ownR 3 encI 1 rt Wo.roots, blkR b1 (.cells (#[cv, tv, fv, ov, .int .u8 Wo.z0, .int .u8 Wo.z1, .int .u8 Wo.z2]) 28 (0, 0))] w := hp
    refine andS ⟨hp.at 5 rfl, hp.at 6 rfl, hp.at 7 rfl, hp.at 8 rfl, hp.at 9 rfl, hp.at 10 rfl, hp.at 11 rfl, hp.at 12 rfl, hp.at 13 rfl, hp.at 14 rfl, hp.at 15 rfl, hp.old0 hC, hp.old0 hTh, hp.old0 hRf, hp.old0 hRo, trivial⟩ fun hS0 => ?_
    refine WD.v 9 rfl hS0 (fun w hS => (X.mv rfl)) ?_
    refine WD.v 10 rfl hS0 (fun w hS => (X.ext rfl rfl)) ?_
    refine WD.v 11 rfl hS0 (fun w hS => (X.ext rfl rfl)) ?_
    refine WD.v 12 rfl hS0 (fun w hS => (X.ext rfl rfl)) ?_
    refine WD.v 13 rfl hS0 (fun w hS => (X.as rfl)) ?_
    refine WD.v 14 rfl hS0 (fun w hS => (X.as rfl)) ?_
    refine WD.v 15 rfl hS0 (fun w hS => (X.as rfl)) ?_
    refine WD.nil (by kernel_rfl) ?_
    refine X.thenN ?_
    refine W.seq ?_
    refine W.sr ?_
    refine WL.run 4 rfl ?_
    refine WL.g1 rfl rfl (decide_eq_false (by decide)) ?_
    refine WL.run 1 rfl ?_
    refine WL.g1 rfl rfl (decide_eq_false (by decide)) ?_
    refine WL.run 1 rfl ?_
    refine WL.v (X.pkF rfl (decide_eq_false (by decide)) rfl) ?_
    refine WL.run 1 rfl ?_
    refine WL.g1 rfl rfl (decide_eq_false (by decide)) ?_
    refine WL.run 1 rfl ?_
    refine WL.g1 rfl rfl (decide_eq_false (by decide)) ?_
    refine WL.run 1 rfl ?_
    refine WL.g1 rfl rfl (decide_eq_false (by decide)) ?_
    refine WL.call isFn10 rfl rfl (same_c (own_view (hp.at 6 rfl)) (own_view (hp.at 2 rfl))) ?_
    intro v w hc hr
    obtain rfl := hr
    have hp := hp.ext hc
    refine WL.g1 rfl rfl (decide_eq_false (by decide)) ?_
    refine WL.run 1 rfl ?_
    refine WL.v (X.pkF rfl (decide_eq_false (by decide)) rfl) ?_
    refine WL.run 1 rfl ?_
    have hc15 : sameB (Wo.roots.map fun a => ((slG Wo.ws Wo.cs Wo.sp q) a).getD 0) (Wo.roots.map fun a => ((slG Wo.ws Wo.cs Wo.sp q) a).getD 0) = true := same_yes rfl fun _ _ => rfl
    refine WL.g1 rfl rfl (congrArg not hc15) ?_
    refine WL.run 1 rfl ?_
    refine WL.g1 rfl rfl (congrArg not hc15) ?_
    refine WL.run 1 rfl ?_
    refine WL.g1 rfl rfl (congrArg not hc15) ?_
    refine WL.call isFn11 rfl rfl (sames_c (own_view (hp.at 7 rfl)) (own_view (hp.at 3 rfl))) ?_
    intro v w hc hr
    obtain rfl := hr
    have hp := hp.ext hc
    refine WL.g1 rfl rfl (congrArg not hc15) ?_
    refine WL.run 1 rfl ?_
    refine WL.v (X.pkF rfl (congrArg not hc15) rfl) ?_
    refine WL.fin ?_
    have hc16 : (slNow Wo.ws Wo.cs Wo.sp q) = (slNow Wo.ws Wo.cs Wo.sp q) := rfl
    refine W.cF rfl (congrArg not (decide_eq_true hc16)) ?_
    refine W.k ?_
    refine W.seq ?_
    refine W.sr ?_
    refine WL.run 1 rfl ?_
    refine WL.v (view_len tL33 (own_view (hp.at 7 rfl)) rfl) ?_
    refine WL.run 1 rfl ?_
    refine WL.fin ?_
    refine W.block ?_
    refine W.loop (X := Nat) (fun i => (slNow Wo.ws Wo.cs Wo.sp q).length - i) (fun i => [(3, .pointer (some ⟨b3, 0, none⟩)), (5, .pointer (some ⟨b6, 0, none⟩)), (7, now8), (76, .int .i64 ((slNow Wo.ws Wo.cs Wo.sp q).length : Int)), (77, .int .i64 (i : Int))]) (fun i w => Hp w0 [] [blkR q4 (.cells (#[wv5]) 59 (0, 0)), ownR 3 encI 1 wv5 (refWs Wo.ws Wo.cs Wo.sp q), ownR 3 encI 1 o11 (Wo.roots.map fun a => ((slG Wo.ws Wo.cs Wo.sp q) a).getD 0), ownR 91 encS 3 n12 (slNow Wo.ws Wo.cs Wo.sp q), ownR 91 encS 3 v10 Wo.sp, arenaR p b (slWs Wo.ws Wo.cs Wo.sp q), ownR 3 encI 1 o7 (Wo.roots.map fun a => ((slG Wo.ws Wo.cs Wo.sp q) a).getD 0), ownR 56 encS 3 now8 (slNow Wo.ws Wo.cs Wo.sp q), blkR b6 (.cells (#[.pointer (some ⟨q4, 0, none⟩), cv]) 42 (0, 0)), blkR b3 (.cells (#[.pointer (some ⟨p, 0, none⟩), .pointer (some ⟨t, 0, none⟩), .pointer (some ⟨p, 0, none⟩), .pointer (some ⟨t, 0, none⟩), sp, at_, sy, rt, cv]) 36 (0, 0)), tableR t c0 Wo.cs, ownR 56 encS 3 sp Wo.sp, ownR 3 encI 1 at_ Wo.al, ownR 3 encI 1 sy q, ownR 3 encI 1 rt Wo.roots, blkR b1 (.cells (#[cv, tv, fv, ov, .int .u8 Wo.z0, .int .u8 Wo.z1, .int .u8 Wo.z2]) 28 (0, 0))] w ∧ i ≤ (slNow Wo.ws Wo.cs Wo.sp q).length) 0 ⟨rfl, rfl, rfl, rfl, rfl, trivial⟩ ?_ ?_
    · exact ⟨hp, by omega⟩
    rintro i w ⟨hp, hi⟩
    refine W.sr ?_
    refine WL.run 1 rfl ?_
    refine WL.s ?_
    by_cases hc17 : (i : Int) < ((slNow Wo.ws Wo.cs Wo.sp q).length : Int)
    · refine W.cT rfl (decide_eq_true hc17) ?_
      refine W.k ?_
      refine W.seq ?_
      refine W.block ?_
      refine W.sr ?_
      refine WL.run 2 rfl ?_
      refine WL.s ?_
      have hil : i < (slNow Wo.ws Wo.cs Wo.sp q).length := by omega
      have hus := hWk.used hil
      have hspi := spR_t (hWk.spr _ hil)
      have hut : spUsed ((slNow Wo.ws Wo.cs Wo.sp q).getD i default) = ((slNow Wo.ws Wo.cs Wo.sp q).getD i default).top - ((slNow Wo.ws Wo.cs Wo.sp q).getD i default).from_ := by unfold spUsed; rw [if_pos (hWk.spr _ hil)]
      have hend := (hR.ends hg.inv).2 _ (mem_getD hil)
      refine W.draw prog_mixed (fun w => (blkR q4 (.cells (#[wv5]) 59 (0, 0))).ok w ∧ (ownR 3 encI 1 wv5 (refWs Wo.ws Wo.cs Wo.sp q)).ok w ∧ (ownR 3 encI 1 o11 (Wo.roots.map fun a => ((slG Wo.ws Wo.cs Wo.sp q) a).getD 0)).ok w ∧ (ownR 91 encS 3 n12 (slNow Wo.ws Wo.cs Wo.sp q)).ok w ∧ (ownR 91 encS 3 v10 Wo.sp).ok w ∧ (arenaR p b (slWs Wo.ws Wo.cs Wo.sp q)).ok w ∧ (ownR 3 encI 1 o7 (Wo.roots.map fun a => ((slG Wo.ws Wo.cs Wo.sp q) a).getD 0)).ok w ∧ (ownR 56 encS 3 now8 (slNow Wo.ws Wo.cs Wo.sp q)).ok w ∧ (blkR b6 (.cells (#[.pointer (some ⟨q4, 0, none⟩), cv]) 42 (0, 0))).ok w ∧ (blkR b3 (.cells (#[.pointer (some ⟨p, 0, none⟩), .pointer (some ⟨t, 0, none⟩), .pointer (some ⟨p, 0, none⟩), .pointer (some ⟨t, 0, none⟩), sp, at_, sy, rt, cv]) 36 (0, 0))).ok w ∧ (tableR t c0 Wo.cs).ok w ∧ (ownR 56 encS 3 sp Wo.sp).ok w ∧ (ownR 3 encI 1 at_ Wo.al).ok w ∧ (ownR 3 encI 1 sy q).ok w ∧ (ownR 3 encI 1 rt Wo.roots).ok w ∧ (blkR b1 (.cells (#[cv, tv, fv, ov, .int .u8 Wo.z0, .int .u8 Wo.z1, .int .u8 Wo.z2]) 28 (0, 0))).ok w ∧ (viewR clsV 4 cv Wo.cs).ok w ∧ (viewR encTh 4 tv Wo.ths).ok w ∧ (viewR encR3 3 fv Wo.rfs).ok w ∧ (viewR encU8 1 ov Wo.ros).ok w ∧ True) hp ?_
      intro w hp
      refine WD.s ⟨hp.at 0 rfl, hp.at 1 rfl, hp.at 2 rfl, hp.at 3 rfl, hp.at 4 rfl, hp.at 5 rfl, hp.at 6 rfl, hp.at 7 rfl, hp.at 8 rfl, hp.at 9 rfl, hp.at 10 rfl, hp.at 11 rfl, hp.at 12 rfl, hp.at 13 rfl, hp.at 14 rfl, hp.at 15 rfl, hp.old0 hC, hp.old0 hTh, hp.old0 hRf, hp.old0 hRo, trivial⟩ fun hS0 => ?_
      refine WD.v 0 rfl hS0 (fun w hS => (X.fa (r := 0) tF36_0 rfl rfl)) ?_
      refine WD.v 1 rfl hS0 (fun w hS => (X.ldk hS.2.2.2.2.2.2.2.2.2.1 tA29 rfl rfl)) ?_
      refine WD.v 2 rfl hS0 (fun w hS => (X.mv rfl)) ?_
      refine WD.v 3 rfl hS0 (fun w hS => (X.mv rfl)) ?_
      refine WD.v 4 rfl hS0 (fun w hS => (X.idxV (j := i) (r := offOf now8 + i * 3) tL33 tS56 (own_view hS.2.2.2.2.2.2.2.1) rfl rfl (by omega) (by omega) rfl)) ?_
      refine WD.v 5 rfl hS0 (fun w hS => (X.fa (r := offOf now8 + i * 3) tF56_0 rfl rfl)) ?_
      refine WD.v 6 rfl hS0 (fun w hS => (X.ld1 tA3 rfl (view_cell (j := i) (f := 0) (own_view hS.2.2.2.2.2.2.2.1) (get_some (by omega)) rfl (by omega)))) ?_
      refine WD.v 7 rfl hS0 (fun w hS => (X.mv rfl)) ?_
      refine WD.v 8 rfl hS0 (fun w hS => (X.mv rfl)) ?_
      refine WD.v 9 rfl hS0 (fun w hS => (X.idxV (j := i) (r := offOf now8 + i * 3) tL33 tS56 (own_view hS.2.2.2.2.2.2.2.1) rfl rfl (by omega) (by omega) rfl)) ?_
      refine WD.v 10 rfl hS0 (fun w hS => (X.ldA tA56 tS56 rfl (cs := [.int .i64 (((slNow Wo.ws Wo.cs Wo.sp q).getD i default).from_), .int .i64 (((slNow Wo.ws Wo.cs Wo.sp q).getD i default).top), .int .i64 (((slNow Wo.ws Wo.cs Wo.sp q).getD i default).end_)]) (view_cells (own_view hS.2.2.2.2.2.2.2.1) (get_some (by omega)) (by omega)))) ?_
      refine WD.one 11 (by kernel_rfl) ?_
      refine WO.call rfl isFn13 rfl rfl (spUsed_c (s := ((slNow Wo.ws Wo.cs Wo.sp q).getD i default))) ?_
      intro v w hc hr
      obtain rfl := hr
      have hp := hp.ext hc
      refine andS ⟨hp.at 0 rfl, hp.at 1 rfl, hp.at 2 rfl, hp.at 3 rfl, hp.at 4 rfl, hp.at 5 rfl, hp.at 6 rfl, hp.at 7 rfl, hp.at 8 rfl, hp.at 9 rfl, hp.at 10 rfl, hp.at 11 rfl, hp.at 12 rfl, hp.at 13 rfl, hp.at 14 rfl, hp.at 15 rfl, hp.old0 hC, hp.old0 hTh, hp.old0 hRf, hp.old0 hRo, trivial⟩ fun hS0 => ?_
      refine WD.one 12 (by kernel_rfl) ?_
      refine WO.call rfl isFn12 rfl rfl (words_c (a := ((slNow Wo.ws Wo.cs Wo.sp q).getD i default).from_) (k := spUsed ((slNow Wo.ws Wo.cs Wo.sp q).getD i default)) (hp.at 5 rfl)) ?_
      intro v w hc hr
      rcases hr with ⟨hw18, hw19, hw20, s22, rfl, hN⟩ | ⟨hw21, rfl⟩
      · have hp := hp.newN hc hN
        refine andS ⟨hp.at 1 rfl, hp.at 2 rfl, hp.at 3 rfl, hp.at 4 rfl, hp.at 5 rfl, hp.at 6 rfl, hp.at 7 rfl, hp.at 8 rfl, hp.at 9 rfl, hp.at 10 rfl, hp.at 11 rfl, hp.at 12 rfl, hp.at 13 rfl, hp.at 14 rfl, hp.at 15 rfl, hp.at 16 rfl, hp.old0 hC, hp.old0 hTh, hp.old0 hRf, hp.old0 hRo, trivial⟩ fun hS0 => ?_
        refine WD.v 13 rfl hS0 (fun w hS => (X.mv rfl)) ?_
        refine WD.v 14 rfl hS0 (fun w hS => (X.ext rfl rfl)) ?_
        refine WD.v 15 rfl hS0 (fun w hS => (X.ext rfl rfl)) ?_
        refine WD.v 16 rfl hS0 (fun w hS => (X.as rfl)) ?_
        refine WD.v 17 rfl hS0 (fun w hS => (X.as rfl)) ?_
        refine WD.nil (by kernel_rfl) ?_
        refine X.thenN ?_
        refine W.seq ?_
        refine W.draw prog_mixed (fun w => (ownR 3 encI 1 s22 (((slWs Wo.ws Wo.cs Wo.sp q).drop ((((slNow Wo.ws Wo.cs Wo.sp q).getD i default).from_).toNat)).take ((spUsed ((slNow Wo.ws Wo.cs Wo.sp q).getD i default)).toNat))).ok w ∧ (blkR q4 (.cells (#[wv5]) 59 (0, 0))).ok w ∧ (ownR 3 encI 1 wv5 (refWs Wo.ws Wo.cs Wo.sp q)).ok w ∧ (ownR 3 encI 1 o11 (Wo.roots.map fun a => ((slG Wo.ws Wo.cs Wo.sp q) a).getD 0)).ok w ∧ (ownR 91 encS 3 n12 (slNow Wo.ws Wo.cs Wo.sp q)).ok w ∧ (ownR 91 encS 3 v10 Wo.sp).ok w ∧ (arenaR p b (slWs Wo.ws Wo.cs Wo.sp q)).ok w ∧ (ownR 3 encI 1 o7 (Wo.roots.map fun a => ((slG Wo.ws Wo.cs Wo.sp q) a).getD 0)).ok w ∧ (ownR 56 encS 3 now8 (slNow Wo.ws Wo.cs Wo.sp q)).ok w ∧ (blkR b6 (.cells (#[.pointer (some ⟨q4, 0, none⟩), cv]) 42 (0, 0))).ok w ∧ (blkR b3 (.cells (#[.pointer (some ⟨p, 0, none⟩), .pointer (some ⟨t, 0, none⟩), .pointer (some ⟨p, 0, none⟩), .pointer (some ⟨t, 0, none⟩), sp, at_, sy, rt, cv]) 36 (0, 0))).ok w ∧ (tableR t c0 Wo.cs).ok w ∧ (ownR 56 encS 3 sp Wo.sp).ok w ∧ (ownR 3 encI 1 at_ Wo.al).ok w ∧ (ownR 3 encI 1 sy q).ok w ∧ (ownR 3 encI 1 rt Wo.roots).ok w ∧ (blkR b1 (.cells (#[cv, tv, fv, ov, .int .u8 Wo.z0, .int .u8 Wo.z1, .int .u8 Wo.z2]) 28 (0, 0))).ok w ∧ (viewR clsV 4 cv Wo.cs).ok w ∧ (viewR encTh 4 tv Wo.ths).ok w ∧ (viewR encR3 3 fv Wo.rfs).ok w ∧ (viewR encU8 1 ov Wo.ros).ok w ∧ True) hp ?_
        intro w hp
        refine WD.s ⟨hp.at 0 rfl, hp.at 1 rfl, hp.at 2 rfl, hp.at 3 rfl, hp.at 4 rfl, hp.at 5 rfl, hp.at 6 rfl, hp.at 7 rfl, hp.at 8 rfl, hp.at 9 rfl, hp.at 10 rfl, hp.at 11 rfl, hp.at 12 rfl, hp.at 13 rfl, hp.at 14 rfl, hp.at 15 rfl, hp.at 16 rfl, hp.old0 hC, hp.old0 hTh, hp.old0 hRf, hp.old0 hRo, trivial⟩ fun hS0 => ?_
        refine WD.v 0 rfl hS0 (fun w hS => (X.mv rfl)) ?_
        refine WD.v 1 rfl hS0 (fun w hS => (X.fa (r := 0) tF42_0 rfl rfl)) ?_
        refine WD.v 2 rfl hS0 (fun w hS => (X.ldk hS.2.2.2.2.2.2.2.2.2.1 tA40 rfl rfl)) ?_
        refine WD.v 3 rfl hS0 (fun w hS => (X.nilc rfl)) ?_
        refine WD.v 4 rfl hS0 (fun w hS => (X.fa (r := 0) tF59_0 rfl rfl)) ?_
        refine WD.v 5 rfl hS0 (fun w hS => (X.ldk hS.2.1 tA34 rfl rfl)) ?_
        refine WD.v 6 rfl hS0 (fun w hS => (X.mv rfl)) ?_
        refine WD.v 7 rfl hS0 (fun w hS => (X.mv rfl)) ?_
        refine WD.v 8 rfl hS0 (fun w hS => (X.idxV (j := i) (r := offOf now8 + i * 3) tL33 tS56 (own_view hS.2.2.2.2.2.2.2.2.1) rfl rfl (by omega) (by omega) rfl)) ?_
        refine WD.v 9 rfl hS0 (fun w hS => (X.fa (r := offOf now8 + i * 3) tF56_0 rfl rfl)) ?_
        refine WD.v 10 rfl hS0 (fun w hS => (X.ld1 tA3 rfl (view_cell (j := i) (f := 0) (own_view hS.2.2.2.2.2.2.2.2.1) (get_some (by omega)) rfl (by omega)))) ?_
        refine WD.v 11 rfl hS0 (fun w hS => (X.mv rfl)) ?_
        refine WD.v 12 rfl hS0 (fun w hS => (X.mv rfl)) ?_
        refine WD.v 13 rfl hS0 (fun w hS => (X.idxV (j := i) (r := offOf now8 + i * 3) tL33 tS56 (own_view hS.2.2.2.2.2.2.2.2.1) rfl rfl (by omega) (by omega) rfl)) ?_
        refine WD.v 14 rfl hS0 (fun w hS => (X.fa (r := offOf now8 + i * 3 + 1) tF56_1 rfl rfl)) ?_
        refine WD.v 15 rfl hS0 (fun w hS => (X.ld1 tA3 rfl (view_cell (j := i) (f := 1) (own_view hS.2.2.2.2.2.2.2.2.1) (get_some (by omega)) rfl (by omega)))) ?_
        refine WD.v 16 rfl hS0 (fun w hS => (X.slcV (lo := ((((slNow Wo.ws Wo.cs Wo.sp q).getD i default).from_).toNat)) (hi := ((((slNow Wo.ws Wo.cs Wo.sp q).getD i default).top).toNat)) tL34 tS3 (own_view hS.2.2.1) rfl rfl rfl (by omega) (by omega) (by omega) (by omega))) ?_
        refine WD.one 17 (by kernel_rfl) ?_
        refine WO.call rfl isFn10 rfl rfl (same_c (own_view (hp.at 0 rfl)) (view_sub (own_view (hp.at 2 rfl)) (by omega) (by omega))) ?_
        intro v w hc hr
        obtain rfl := hr
        have hp := hp.ext hc
        refine andS ⟨hp.at 0 rfl, hp.at 1 rfl, hp.at 2 rfl, hp.at 3 rfl, hp.at 4 rfl, hp.at 5 rfl, hp.at 6 rfl, hp.at 7 rfl, hp.at 8 rfl, hp.at 9 rfl, hp.at 10 rfl, hp.at 11 rfl, hp.at 12 rfl, hp.at 13 rfl, hp.at 14 rfl, hp.at 15 rfl, hp.at 16 rfl, hp.old0 hC, hp.old0 hTh, hp.old0 hRf, hp.old0 hRo, trivial⟩ fun hS0 => ?_
        refine WD.v 18 rfl hS0 (fun w hS => (X.not rfl)) ?_
        refine WD.nil (by kernel_rfl) ?_
        refine X.thenN ?_
        have hc23 : sameB (((slWs Wo.ws Wo.cs Wo.sp q).drop ((((slNow Wo.ws Wo.cs Wo.sp q).getD i default).from_).toNat)).take ((spUsed ((slNow Wo.ws Wo.cs Wo.sp q).getD i default)).toNat)) (((refWs Wo.ws Wo.cs Wo.sp q).drop ((((slNow Wo.ws Wo.cs Wo.sp q).getD i default).from_).toNat)).take (((((slNow Wo.ws Wo.cs Wo.sp q).getD i default).top).toNat) - ((((slNow Wo.ws Wo.cs Wo.sp q).getD i default).from_).toNat))) = true := by rw [hut]; exact slice_same hspi.1 hspi.2.1 (by omega) (by omega) (fun x h1 h2 => ref_same hcs hR hWk hil h1 h2)
        refine W.cF rfl (congrArg not hc23) ?_
        refine W.skip ?_
        refine X.inN ?_
        refine X.thenN ?_
        refine W.reg ?_
        refine WL.v (X.add rfl rfl (in64 (by omega))) ?_
        refine WL.run 1 rfl ?_
        refine WL.nil ?_
        refine X.again (i + 1) ⟨rfl, rfl, rfl, rfl, rfl, trivial⟩ ?_ ?_
        · exact ⟨(hp.sel [1, 2, 3, 4, 5, 6, 7, 8, 9, 10, 11, 12, 13, 14, 15, 16] (by decide)), by omega⟩
        · omega
      (try simp only [fillW_length, moveW_length, List.length_set] at hw21); first | contradiction | (exfalso; omega) | (exfalso; simp_all; done)
    refine W.cF rfl (decide_eq_false hc17) ?_
    refine W.exit ?_
    refine X.thenE ?_
    refine X.thenE ?_
    refine X.inH ?_
    refine X.thenN ?_
    refine W.sr ?_
    refine WL.run 1 rfl ?_
    refine WL.fin ?_
    refine W.ret ?_
    refine W.done hp (rs := [.tmp 2]) (vs := [.bool true]) (v := .bool true) rfl ⟨rfl, trivial⟩ rfl ?_
    exact rfl
  exact absurd hr0.1 he9
end Go.Proofs.YtmmmbkmjkpfleaaGreat
