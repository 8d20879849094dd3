/- Walks, printed by gen.py from the specs K5: what each function answers. No statement of the seat is proved here; conditions: each theorem's own. -/
import Derived.Test.YtmmmbkmjkpfleaaPureU
import Derived.Test.YtmmmbkmjkpfleaaWJ
namespace Go.Proofs.Ytmmmbkmjkpfleaa
open Go Go.RowKit

set_option maxHeartbeats 4000000 in
theorem SlideRefuses_c {w0 : World} {cv tv fv ov : Value} {Wo : Wd} {kd tt : Int} (hC : (viewR clsV 4 cv Wo.cs).ok w0) (hTh : (viewR encTh 4 tv Wo.ths).ok w0) (hRf : (viewR encR3 3 fv Wo.rfs).ok w0) (hRo : (viewR encU8 1 ov Wo.ros).ok w0) (hWb : Wo.Bd) (hkd : 0 ≤ kd ∧ kd ≤ 255) (hat : 0 ≤ tt ∧ tt ≤ 65535) :
    Calls Try.prog 3 #[.agg #[cv, tv, fv, ov, .int .u8 Wo.z0, .int .u8 Wo.z1, .int .u8 Wo.z2], .int .u8 kd, .int .u16 tt] w0 (Ret [] w0 (fun v _ => v = .bool true)) := by
  have hp : Hp w0 [] [] w0 := Hp.init w0
  refine enter (vs := [.agg #[cv, tv, fv, ov, .int .u8 Wo.z0, .int .u8 Wo.z1, .int .u8 Wo.z2], .int .u8 kd, .int .u16 tt]) Try.func3 rfl rfl rfl ?_
  refine gen_world hp ?_
  intro w hp
  refine W.sr ?_
  refine WL.box hp rfl (cs := #[cv, tv, fv, ov, .int .u8 Wo.z0, .int .u8 Wo.z1, .int .u8 Wo.z2]) rfl rfl ?_
  intro b1 w hp
  refine WL.run 1 rfl ?_
  refine WL.a ?_
  refine WL.v (X.ldkA (hp.at 0 rfl) tA28 tS28 (vs := [cv, tv, fv, ov, .int .u8 Wo.z0, .int .u8 Wo.z1, .int .u8 Wo.z2]) rfl rfl) ?_
  refine WL.call isFn8 rfl rfl (made16_c (cs := Wo.cs) (ths := Wo.ths) (rfs := Wo.rfs) (ros := Wo.ros) (hp.old0 hC) (hp.old0 hTh) (hp.old0 hRf) (hp.old0 hRo) hWb.th hWb.rf hWb.ro hWb.z0 hWb.z1 hWb.z2) ?_
  intro v w hc hr
  rcases hr with rfl | ⟨hok, p, b, t, c0, sp, at_, sy, rt, q, hst, rfl, hN⟩
  · have hp := hp.ext hc
    refine WL.run 3 rfl ?_
    refine WL.alloc hp tZ37 rfl ?_
    intro b2 w hp
    refine WL.store hp 0 rfl tS37 rfl rfl (vs := [.pointer none, .pointer none, .pointer none, .pointer none, .slice none 0 0, .slice none 0 0, .slice none 0 0, .slice none 0 0, .slice none 0 0]) rfl rfl rfl (new := #[.pointer none, .pointer none, .pointer none, .pointer none, .slice none 0 0, .slice none 0 0, .slice none 0 0, .slice none 0 0, .slice none 0 0]) rfl ?_
    intro w hp
    refine WL.run 1 rfl ?_
    refine WL.s ?_
    refine W.sr ?_
    refine WL.call isFn9 rfl rfl awake_c ?_
    intro v w hc hr
    obtain rfl := hr
    have hp := hp.ext hc
    refine WL.run 2 rfl ?_
    refine WL.g1 rfl rfl rfl ?_
    refine WL.run 1 rfl ?_
    refine WL.g1 rfl rfl rfl ?_
    refine WL.run 1 rfl ?_
    refine WL.v (X.pkF rfl rfl rfl) ?_
    refine WL.run 1 rfl ?_
    refine WL.g0 rfl rfl rfl rfl ?_
    refine WL.g0 rfl rfl rfl rfl ?_
    refine WL.g0 rfl rfl rfl rfl ?_
    refine WL.g0 rfl rfl rfl rfl ?_
    refine WL.v (X.pkT rfl rfl rfl) ?_
    refine WL.fin ?_
    refine W.cT rfl rfl ?_
    refine W.sr ?_
    refine WL.call isFn9 rfl rfl awake_c ?_
    intro v w hc hr
    obtain rfl := hr
    have hp := hp.ext hc
    refine WL.run 1 rfl ?_
    refine WL.fin ?_
    refine W.ret ?_
    refine X.thenR ?_
    refine W.done hp (rs := [.tmp 6]) (vs := [.bool true]) (v := .bool true) rfl ⟨rfl, trivial⟩ rfl ?_
    exact rfl
  have hp := hp.adds hN
  have hp : Hp w0 [] [arenaR p b Wo.ws, tableR t c0 Wo.cs, ownR 44 encS 3 sp Wo.sp, ownR 3 encI 1 at_ Wo.al, ownR 3 encI 1 sy q, ownR 3 encI 1 rt Wo.roots, blkR b1 (.cells (#[cv, tv, fv, ov, .int .u8 Wo.z0, .int .u8 Wo.z1, .int .u8 Wo.z2]) 28 (0, 0))] w := hp
  have hg : Wo.Good q := Wd.good hWb hok hst
  have hcs := hg.hcs
  have hql := hg.qlen
  have hrl := hg.rlen
  have hal := hg.allen
  have hlen5 := hg.inv.len
  have hsp3 := hg.inv.sp3
  refine WL.run 3 rfl ?_
  refine WL.alloc hp tZ37 rfl ?_
  intro b3 w hp
  refine WL.store hp 0 rfl tS37 rfl rfl (vs := [.pointer (some ⟨p, 0, none⟩), .pointer (some ⟨t, 0, none⟩), .pointer (some ⟨p, 0, none⟩), .pointer (some ⟨t, 0, none⟩), sp, at_, sy, rt, cv]) rfl (by first | (simp only [List.all_cons, List.all_nil, Bool.and_true, view_one (own_view (hp.at 3 rfl)), view_one (own_view (hp.at 4 rfl)), view_one (own_view (hp.at 5 rfl)), view_one (own_view (hp.at 6 rfl)), view_one (hp.old0 hC)]; done) | (simp only [List.all_cons, List.all_nil, Bool.and_true, one_int, one_bool, one_ptr, one_map, one_sl, view_one (own_view (hp.at 3 rfl)), view_one (own_view (hp.at 4 rfl)), view_one (own_view (hp.at 5 rfl)), view_one (own_view (hp.at 6 rfl)), view_one (hp.old0 hC)]; done) | simp [Value.oneCell', view_one (own_view (hp.at 3 rfl)), view_one (own_view (hp.at 4 rfl)), view_one (own_view (hp.at 5 rfl)), view_one (own_view (hp.at 6 rfl)), view_one (hp.old0 hC)]) rfl (new := #[.pointer (some ⟨p, 0, none⟩), .pointer (some ⟨t, 0, none⟩), .pointer (some ⟨p, 0, none⟩), .pointer (some ⟨t, 0, none⟩), sp, at_, sy, rt, cv]) rfl ?_
  intro w hp
  refine WL.run 1 rfl ?_
  refine WL.s ?_
  refine W.sr ?_
  refine WL.call isFn9 rfl rfl awake_c ?_
  intro v w hc hr
  obtain rfl := hr
  have hp := hp.ext hc
  refine WL.run 2 rfl ?_
  refine WL.g1 rfl rfl rfl ?_
  refine WL.run 1 rfl ?_
  refine WL.g1 rfl rfl rfl ?_
  refine WL.run 1 rfl ?_
  refine WL.v (X.pkF rfl rfl rfl) ?_
  refine WL.run 1 rfl ?_
  refine WL.g1 rfl rfl rfl ?_
  refine WL.run 1 rfl ?_
  refine WL.g1 rfl rfl rfl ?_
  refine WL.v (X.ldk (hp.at 0 rfl) tA35 rfl rfl) ?_
  refine WL.g1 rfl rfl rfl ?_
  refine WL.v (view_len tL35 (own_view (hp.at 5 rfl)) rfl) ?_
  refine WL.g1 rfl rfl rfl ?_
  refine WL.run 1 rfl ?_
  refine WL.v (X.pkF rfl rfl rfl) ?_
  refine WL.fin ?_
  by_cases hc4 : (q.length : Int) = 0
  · refine W.cT rfl (decide_eq_true hc4) ?_
    refine W.sr ?_
    refine WL.call isFn9 rfl rfl awake_c ?_
    intro v w hc hr
    obtain rfl := hr
    have hp := hp.ext hc
    refine WL.run 1 rfl ?_
    refine WL.fin ?_
    refine W.ret ?_
    refine X.thenR ?_
    refine W.done hp (rs := [.tmp 6]) (vs := [.bool true]) (v := .bool true) rfl ⟨rfl, trivial⟩ rfl ?_
    exact rfl
  refine W.cF rfl (decide_eq_false hc4) ?_
  refine W.k ?_
  refine W.seq ?_
  have hq0 : 0 < q.length := by omega
  have hkm := Int.emod_nonneg tt (show (q.length : Int) ≠ 0 by omega)
  have hkn := Int.emod_lt_of_pos tt (show (0 : Int) < (q.length : Int) by omega)
  have hkl : (tt % (q.length : Int)).toNat < q.length := by omega
  have hlk := hg.inv.lt499 hcs _ (hg.st.sub _ (mem_getD hkl))
  have hqm := hg.inv.mem hcs _ (hg.st.sub _ (mem_getD hkl))
  refine W.reg ?_
  refine WL.run 1 rfl ?_
  refine WL.v (X.conv (b := tt) tI29 tI3 rfl (wrap_in64 (in64 (by omega)))) ?_
  refine WL.run 1 rfl ?_
  refine WL.v (X.ldk (hp.at 0 rfl) tA35 rfl rfl) ?_
  refine WL.v (view_len tL35 (own_view (hp.at 5 rfl)) rfl) ?_
  refine WL.v (X.rem rfl rfl (by omega)) ?_
  refine WL.run 1 rfl ?_
  refine WL.fin ?_
  refine W.seqCut (X := Value × Value × Value) (fun x_ => match x_ with | ⟨v10, v11, v12⟩ => [(1, .int .u8 kd), (2, .int .u16 tt), (7, .pointer (some ⟨b3, 0, none⟩)), (9, .int .i64 (tt % (q.length : Int))), (10, v10), (11, v11), (12, v12), (13, .int .i64 12)]) (fun x_ w => match x_ with | ⟨v10, v11, v12⟩ => Hp w0 [] [ownR 44 encS 3 v10 Wo.sp, ownR 3 encI 1 v11 q, ownR 3 encI 1 v12 Wo.roots, blkR b3 (.cells (#[.pointer (some ⟨p, 0, none⟩), .pointer (some ⟨t, 0, none⟩), .pointer (some ⟨p, 0, none⟩), .pointer (some ⟨t, 0, none⟩), sp, at_, sy, rt, cv]) 37 (0, 0)), arenaR p b Wo.ws, tableR t c0 Wo.cs, ownR 44 encS 3 sp Wo.sp, ownR 3 encI 1 at_ Wo.al, ownR 3 encI 1 sy q, ownR 3 encI 1 rt Wo.roots, blkR b1 (.cells (#[cv, tv, fv, ov, .int .u8 Wo.z0, .int .u8 Wo.z1, .int .u8 Wo.z2]) 28 (0, 0))] w) ?_ ?_
  · refine W.draw prog_mixed (fun w => (blkR b3 (.cells (#[.pointer (some ⟨p, 0, none⟩), .pointer (some ⟨t, 0, none⟩), .pointer (some ⟨p, 0, none⟩), .pointer (some ⟨t, 0, none⟩), sp, at_, sy, rt, cv]) 37 (0, 0))).ok w ∧ (arenaR p b Wo.ws).ok w ∧ (tableR t c0 Wo.cs).ok w ∧ (ownR 44 encS 3 sp Wo.sp).ok w ∧ (ownR 3 encI 1 at_ Wo.al).ok w ∧ (ownR 3 encI 1 sy q).ok w ∧ (ownR 3 encI 1 rt Wo.roots).ok w ∧ (blkR b1 (.cells (#[cv, tv, fv, ov, .int .u8 Wo.z0, .int .u8 Wo.z1, .int .u8 Wo.z2]) 28 (0, 0))).ok w ∧ (viewR clsV 4 cv Wo.cs).ok w ∧ (viewR encTh 4 tv Wo.ths).ok w ∧ (viewR encR3 3 fv Wo.rfs).ok w ∧ (viewR encU8 1 ov Wo.ros).ok w ∧ True) hp ?_
    intro w hp
    refine WD.s ⟨hp.at 0 rfl, hp.at 1 rfl, hp.at 2 rfl, hp.at 3 rfl, hp.at 4 rfl, hp.at 5 rfl, hp.at 6 rfl, hp.at 7 rfl, hp.old0 hC, hp.old0 hTh, hp.old0 hRf, hp.old0 hRo, trivial⟩ fun hS0 => ?_
    refine WD.v 1 rfl hS0 (fun w hS => (X.fa (r := 4) tF37_3 rfl rfl)) ?_
    refine WD.v 2 rfl hS0 (fun w hS => (X.ldk hS.1 tA34 rfl rfl)) ?_
    refine WD.v 5 rfl hS0 (fun w hS => (X.fa (r := 6) tF37_5 rfl rfl)) ?_
    refine WD.v 6 rfl hS0 (fun w hS => (X.ldk hS.1 tA35 rfl rfl)) ?_
    refine WD.v 9 rfl hS0 (fun w hS => (X.fa (r := 7) tF37_6 rfl rfl)) ?_
    refine WD.v 10 rfl hS0 (fun w hS => (X.ldk hS.1 tA35 rfl rfl)) ?_
    refine WD.three 0 4 8 (by kernel_rfl) ?_ ?_ ?_
    · refine WO.bsl hp rfl (e := 44) (cs := #[]) rfl (fun _ => by kernel_rfl) rfl ?_
      intro b5 w hp
      refine andS ⟨hp.at 1 rfl, hp.at 2 rfl, hp.at 3 rfl, hp.at 4 rfl, hp.at 5 rfl, hp.at 6 rfl, hp.at 7 rfl, hp.at 8 rfl, hp.old0 hC, hp.old0 hTh, hp.old0 hRf, hp.old0 hRo, trivial⟩ fun hS0 => ?_
      refine WD.three 3 4 8 (by kernel_rfl) ?_ ?_ ?_
      · have hp := hp.ofEmpty 0 rfl encS 3 encS_len (by omega)
        refine WO.append hp 0 rfl rfl tL34 (zeroT_ex tZ44) tS44 tY44 rfl rfl (own_view (hp.at 4 rfl)) encS_one (by simp only [List.length_append, List.length_cons, List.length_nil]; omega) rfl ?_
        intro v6 w hp
        refine andS ⟨hp.at 1 rfl, hp.at 2 rfl, hp.at 3 rfl, hp.at 4 rfl, hp.at 5 rfl, hp.at 6 rfl, hp.at 7 rfl, hp.at 8 rfl, hp.old0 hC, hp.old0 hTh, hp.old0 hRf, hp.old0 hRo, trivial⟩ fun hS0 => ?_
        refine WD.two 4 8 (by kernel_rfl) ?_ ?_
        · refine WO.bsl hp rfl (e := 3) (cs := #[]) rfl (fun _ => by kernel_rfl) rfl ?_
          intro b7 w hp
          refine andS ⟨hp.at 2 rfl, hp.at 3 rfl, hp.at 4 rfl, hp.at 5 rfl, hp.at 6 rfl, hp.at 7 rfl, hp.at 8 rfl, hp.at 9 rfl, hp.old0 hC, hp.old0 hTh, hp.old0 hRf, hp.old0 hRo, trivial⟩ fun hS0 => ?_
          refine WD.two 7 8 (by kernel_rfl) ?_ ?_
          · have hp := hp.ofEmpty 0 rfl encI 1 encI_len (by omega)
            refine WO.append hp 0 rfl rfl tL35 (zeroT_ex tZ3) tS3 tY3 rfl rfl (own_view (hp.at 7 rfl)) encI_one (by simp only [List.length_append, List.length_cons, List.length_nil]; omega) rfl ?_
            intro v8 w hp
            refine andS ⟨hp.at 2 rfl, hp.at 3 rfl, hp.at 4 rfl, hp.at 5 rfl, hp.at 6 rfl, hp.at 7 rfl, hp.at 8 rfl, hp.at 9 rfl, hp.old0 hC, hp.old0 hTh, hp.old0 hRf, hp.old0 hRo, trivial⟩ fun hS0 => ?_
            refine WD.one 8 (by kernel_rfl) ?_
            refine WO.bsl hp rfl (e := 3) (cs := #[]) rfl (fun _ => by kernel_rfl) rfl ?_
            intro b9 w hp
            refine andS ⟨hp.at 3 rfl, hp.at 4 rfl, hp.at 5 rfl, hp.at 6 rfl, hp.at 7 rfl, hp.at 8 rfl, hp.at 9 rfl, hp.at 10 rfl, hp.old0 hC, hp.old0 hTh, hp.old0 hRf, hp.old0 hRo, trivial⟩ fun hS0 => ?_
            refine WD.one 11 (by kernel_rfl) ?_
            have hp := hp.ofEmpty 0 rfl encI 1 encI_len (by omega)
            refine WO.append hp 0 rfl rfl tL35 (zeroT_ex tZ3) tS3 tY3 rfl rfl (own_view (hp.at 9 rfl)) encI_one (by simp only [List.length_append, List.length_cons, List.length_nil]; omega) rfl ?_
            intro v10 w hp
            refine andS ⟨hp.at 3 rfl, hp.at 4 rfl, hp.at 5 rfl, hp.at 6 rfl, hp.at 7 rfl, hp.at 8 rfl, hp.at 9 rfl, hp.at 10 rfl, hp.old0 hC, hp.old0 hTh, hp.old0 hRf, hp.old0 hRo, trivial⟩ fun hS0 => ?_
            refine WD.v 12 rfl hS0 (fun w hS => (X.as rfl)) ?_
            refine WD.v 13 rfl hS0 (fun w hS => (X.as rfl)) ?_
            refine WD.v 14 rfl hS0 (fun w hS => (X.as rfl)) ?_
            refine WD.v 15 rfl hS0 (fun w hS => (X.as rfl)) ?_
            refine WD.nil (by kernel_rfl) ?_
            exact X.here (v6, v8, v10) ⟨rfl, rfl, rfl, rfl, rfl, rfl, rfl, rfl, trivial⟩ (by
              exact (hp.sel [2, 1, 0, 3, 4, 5, 6, 7, 8, 9, 10] (by decide)))
          refine WO.bsl hp rfl (e := 3) (cs := #[]) rfl (fun _ => by kernel_rfl) rfl ?_
          intro b11 w hp
          refine andS ⟨hp.at 3 rfl, hp.at 4 rfl, hp.at 5 rfl, hp.at 6 rfl, hp.at 7 rfl, hp.at 8 rfl, hp.at 9 rfl, hp.at 10 rfl, hp.old0 hC, hp.old0 hTh, hp.old0 hRf, hp.old0 hRo, trivial⟩ fun hS0 => ?_
          refine WD.one 7 (by kernel_rfl) ?_
          have hp := hp.ofEmpty 1 rfl encI 1 encI_len (by omega)
          refine WO.append hp 1 rfl rfl tL35 (zeroT_ex tZ3) tS3 tY3 rfl rfl (own_view (hp.at 8 rfl)) encI_one (by simp only [List.length_append, List.length_cons, List.length_nil]; omega) rfl ?_
          intro v12 w hp
          refine andS ⟨hp.at 3 rfl, hp.at 4 rfl, hp.at 5 rfl, hp.at 6 rfl, hp.at 7 rfl, hp.at 8 rfl, hp.at 9 rfl, hp.at 10 rfl, hp.old0 hC, hp.old0 hTh, hp.old0 hRf, hp.old0 hRo, trivial⟩ fun hS0 => ?_
          refine WD.one 11 (by kernel_rfl) ?_
          have hp := hp.ofEmpty 0 rfl encI 1 encI_len (by omega)
          refine WO.append hp 0 rfl rfl tL35 (zeroT_ex tZ3) tS3 tY3 rfl rfl (own_view (hp.at 9 rfl)) encI_one (by simp only [List.length_append, List.length_cons, List.length_nil]; omega) rfl ?_
          intro v13 w hp
          refine andS ⟨hp.at 3 rfl, hp.at 4 rfl, hp.at 5 rfl, hp.at 6 rfl, hp.at 7 rfl, hp.at 8 rfl, hp.at 9 rfl, hp.at 10 rfl, hp.old0 hC, hp.old0 hTh, hp.old0 hRf, hp.old0 hRo, trivial⟩ fun hS0 => ?_
          refine WD.v 12 rfl hS0 (fun w hS => (X.as rfl)) ?_
          refine WD.v 13 rfl hS0 (fun w hS => (X.as rfl)) ?_
          refine WD.v 14 rfl hS0 (fun w hS => (X.as rfl)) ?_
          refine WD.v 15 rfl hS0 (fun w hS => (X.as rfl)) ?_
          refine WD.nil (by kernel_rfl) ?_
          exact X.here (v6, v12, v13) ⟨rfl, rfl, rfl, rfl, rfl, rfl, rfl, rfl, trivial⟩ (by
            exact (hp.sel [2, 1, 0, 3, 4, 5, 6, 7, 8, 9, 10] (by decide)))
        refine WO.bsl hp rfl (e := 3) (cs := #[]) rfl (fun _ => by kernel_rfl) rfl ?_
        intro b14 w hp
        refine andS ⟨hp.at 2 rfl, hp.at 3 rfl, hp.at 4 rfl, hp.at 5 rfl, hp.at 6 rfl, hp.at 7 rfl, hp.at 8 rfl, hp.at 9 rfl, hp.old0 hC, hp.old0 hTh, hp.old0 hRf, hp.old0 hRo, trivial⟩ fun hS0 => ?_
        refine WD.one 4 (by kernel_rfl) ?_
        refine WO.bsl hp rfl (e := 3) (cs := #[]) rfl (fun _ => by kernel_rfl) rfl ?_
        intro b15 w hp
        refine andS ⟨hp.at 3 rfl, hp.at 4 rfl, hp.at 5 rfl, hp.at 6 rfl, hp.at 7 rfl, hp.at 8 rfl, hp.at 9 rfl, hp.at 10 rfl, hp.old0 hC, hp.old0 hTh, hp.old0 hRf, hp.old0 hRo, trivial⟩ fun hS0 => ?_
        refine WD.one 7 (by kernel_rfl) ?_
        have hp := hp.ofEmpty 0 rfl encI 1 encI_len (by omega)
        refine WO.append hp 0 rfl rfl tL35 (zeroT_ex tZ3) tS3 tY3 rfl rfl (own_view (hp.at 8 rfl)) encI_one (by simp only [List.length_append, List.length_cons, List.length_nil]; omega) rfl ?_
        intro v16 w hp
        refine andS ⟨hp.at 3 rfl, hp.at 4 rfl, hp.at 5 rfl, hp.at 6 rfl, hp.at 7 rfl, hp.at 8 rfl, hp.at 9 rfl, hp.at 10 rfl, hp.old0 hC, hp.old0 hTh, hp.old0 hRf, hp.old0 hRo, trivial⟩ fun hS0 => ?_
        refine WD.one 11 (by kernel_rfl) ?_
        have hp := hp.ofEmpty 1 rfl encI 1 encI_len (by omega)
        refine WO.append hp 1 rfl rfl tL35 (zeroT_ex tZ3) tS3 tY3 rfl rfl (own_view (hp.at 9 rfl)) encI_one (by simp only [List.length_append, List.length_cons, List.length_nil]; omega) rfl ?_
        intro v17 w hp
        refine andS ⟨hp.at 3 rfl, hp.at 4 rfl, hp.at 5 rfl, hp.at 6 rfl, hp.at 7 rfl, hp.at 8 rfl, hp.at 9 rfl, hp.at 10 rfl, hp.old0 hC, hp.old0 hTh, hp.old0 hRf, hp.old0 hRo, trivial⟩ fun hS0 => ?_
        refine WD.v 12 rfl hS0 (fun w hS => (X.as rfl)) ?_
        refine WD.v 13 rfl hS0 (fun w hS => (X.as rfl)) ?_
        refine WD.v 14 rfl hS0 (fun w hS => (X.as rfl)) ?_
        refine WD.v 15 rfl hS0 (fun w hS => (X.as rfl)) ?_
        refine WD.nil (by kernel_rfl) ?_
        exact X.here (v6, v16, v17) ⟨rfl, rfl, rfl, rfl, rfl, rfl, rfl, rfl, trivial⟩ (by
          exact (hp.sel [2, 0, 1, 3, 4, 5, 6, 7, 8, 9, 10] (by decide)))
      · refine WO.bsl hp rfl (e := 3) (cs := #[]) rfl (fun _ => by kernel_rfl) rfl ?_
        intro b18 w hp
        refine andS ⟨hp.at 2 rfl, hp.at 3 rfl, hp.at 4 rfl, hp.at 5 rfl, hp.at 6 rfl, hp.at 7 rfl, hp.at 8 rfl, hp.at 9 rfl, hp.old0 hC, hp.old0 hTh, hp.old0 hRf, hp.old0 hRo, trivial⟩ fun hS0 => ?_
        refine WD.two 3 8 (by kernel_rfl) ?_ ?_
        · have hp := hp.ofEmpty 1 rfl encS 3 encS_len (by omega)
          refine WO.append hp 1 rfl rfl tL34 (zeroT_ex tZ44) tS44 tY44 rfl rfl (own_view (hp.at 5 rfl)) encS_one (by simp only [List.length_append, List.length_cons, List.length_nil]; omega) rfl ?_
          intro v19 w hp
          refine andS ⟨hp.at 2 rfl, hp.at 3 rfl, hp.at 4 rfl, hp.at 5 rfl, hp.at 6 rfl, hp.at 7 rfl, hp.at 8 rfl, hp.at 9 rfl, hp.old0 hC, hp.old0 hTh, hp.old0 hRf, hp.old0 hRo, trivial⟩ fun hS0 => ?_
          refine WD.two 7 8 (by kernel_rfl) ?_ ?_
          · have hp := hp.ofEmpty 0 rfl encI 1 encI_len (by omega)
            refine WO.append hp 0 rfl rfl tL35 (zeroT_ex tZ3) tS3 tY3 rfl rfl (own_view (hp.at 7 rfl)) encI_one (by simp only [List.length_append, List.length_cons, List.length_nil]; omega) rfl ?_
            intro v20 w hp
            refine andS ⟨hp.at 2 rfl, hp.at 3 rfl, hp.at 4 rfl, hp.at 5 rfl, hp.at 6 rfl, hp.at 7 rfl, hp.at 8 rfl, hp.at 9 rfl, hp.old0 hC, hp.old0 hTh, hp.old0 hRf, hp.old0 hRo, trivial⟩ fun hS0 => ?_
            refine WD.one 8 (by kernel_rfl) ?_
            refine WO.bsl hp rfl (e := 3) (cs := #[]) rfl (fun _ => by kernel_rfl) rfl ?_
            intro b21 w hp
            refine andS ⟨hp.at 3 rfl, hp.at 4 rfl, hp.at 5 rfl, hp.at 6 rfl, hp.at 7 rfl, hp.at 8 rfl, hp.at 9 rfl, hp.at 10 rfl, hp.old0 hC, hp.old0 hTh, hp.old0 hRf, hp.old0 hRo, trivial⟩ fun hS0 => ?_
            refine WD.one 11 (by kernel_rfl) ?_
            have hp := hp.ofEmpty 0 rfl encI 1 encI_len (by omega)
            refine WO.append hp 0 rfl rfl tL35 (zeroT_ex tZ3) tS3 tY3 rfl rfl (own_view (hp.at 9 rfl)) encI_one (by simp only [List.length_append, List.length_cons, List.length_nil]; omega) rfl ?_
            intro v22 w hp
            refine andS ⟨hp.at 3 rfl, hp.at 4 rfl, hp.at 5 rfl, hp.at 6 rfl, hp.at 7 rfl, hp.at 8 rfl, hp.at 9 rfl, hp.at 10 rfl, hp.old0 hC, hp.old0 hTh, hp.old0 hRf, hp.old0 hRo, trivial⟩ fun hS0 => ?_
            refine WD.v 12 rfl hS0 (fun w hS => (X.as rfl)) ?_
            refine WD.v 13 rfl hS0 (fun w hS => (X.as rfl)) ?_
            refine WD.v 14 rfl hS0 (fun w hS => (X.as rfl)) ?_
            refine WD.v 15 rfl hS0 (fun w hS => (X.as rfl)) ?_
            refine WD.nil (by kernel_rfl) ?_
            exact X.here (v19, v20, v22) ⟨rfl, rfl, rfl, rfl, rfl, rfl, rfl, rfl, trivial⟩ (by
              exact (hp.sel [2, 1, 0, 3, 4, 5, 6, 7, 8, 9, 10] (by decide)))
          refine WO.bsl hp rfl (e := 3) (cs := #[]) rfl (fun _ => by kernel_rfl) rfl ?_
          intro b23 w hp
          refine andS ⟨hp.at 3 rfl, hp.at 4 rfl, hp.at 5 rfl, hp.at 6 rfl, hp.at 7 rfl, hp.at 8 rfl, hp.at 9 rfl, hp.at 10 rfl, hp.old0 hC, hp.old0 hTh, hp.old0 hRf, hp.old0 hRo, trivial⟩ fun hS0 => ?_
          refine WD.one 7 (by kernel_rfl) ?_
          have hp := hp.ofEmpty 1 rfl encI 1 encI_len (by omega)
          refine WO.append hp 1 rfl rfl tL35 (zeroT_ex tZ3) tS3 tY3 rfl rfl (own_view (hp.at 8 rfl)) encI_one (by simp only [List.length_append, List.length_cons, List.length_nil]; omega) rfl ?_
          intro v24 w hp
          refine andS ⟨hp.at 3 rfl, hp.at 4 rfl, hp.at 5 rfl, hp.at 6 rfl, hp.at 7 rfl, hp.at 8 rfl, hp.at 9 rfl, hp.at 10 rfl, hp.old0 hC, hp.old0 hTh, hp.old0 hRf, hp.old0 hRo, trivial⟩ fun hS0 => ?_
          refine WD.one 11 (by kernel_rfl) ?_
          have hp := hp.ofEmpty 0 rfl encI 1 encI_len (by omega)
          refine WO.append hp 0 rfl rfl tL35 (zeroT_ex tZ3) tS3 tY3 rfl rfl (own_view (hp.at 9 rfl)) encI_one (by simp only [List.length_append, List.length_cons, List.length_nil]; omega) rfl ?_
          intro v25 w hp
          refine andS ⟨hp.at 3 rfl, hp.at 4 rfl, hp.at 5 rfl, hp.at 6 rfl, hp.at 7 rfl, hp.at 8 rfl, hp.at 9 rfl, hp.at 10 rfl, hp.old0 hC, hp.old0 hTh, hp.old0 hRf, hp.old0 hRo, trivial⟩ fun hS0 => ?_
          refine WD.v 12 rfl hS0 (fun w hS => (X.as rfl)) ?_
          refine WD.v 13 rfl hS0 (fun w hS => (X.as rfl)) ?_
          refine WD.v 14 rfl hS0 (fun w hS => (X.as rfl)) ?_
          refine WD.v 15 rfl hS0 (fun w hS => (X.as rfl)) ?_
          refine WD.nil (by kernel_rfl) ?_
          exact X.here (v19, v24, v25) ⟨rfl, rfl, rfl, rfl, rfl, rfl, rfl, rfl, trivial⟩ (by
            exact (hp.sel [2, 1, 0, 3, 4, 5, 6, 7, 8, 9, 10] (by decide)))
        refine WO.bsl hp rfl (e := 3) (cs := #[]) rfl (fun _ => by kernel_rfl) rfl ?_
        intro b26 w hp
        refine andS ⟨hp.at 3 rfl, hp.at 4 rfl, hp.at 5 rfl, hp.at 6 rfl, hp.at 7 rfl, hp.at 8 rfl, hp.at 9 rfl, hp.at 10 rfl, hp.old0 hC, hp.old0 hTh, hp.old0 hRf, hp.old0 hRo, trivial⟩ fun hS0 => ?_
        refine WD.one 3 (by kernel_rfl) ?_
        have hp := hp.ofEmpty 2 rfl encS 3 encS_len (by omega)
        refine WO.append hp 2 rfl rfl tL34 (zeroT_ex tZ44) tS44 tY44 rfl rfl (own_view (hp.at 6 rfl)) encS_one (by simp only [List.length_append, List.length_cons, List.length_nil]; omega) rfl ?_
        intro v27 w hp
        refine andS ⟨hp.at 3 rfl, hp.at 4 rfl, hp.at 5 rfl, hp.at 6 rfl, hp.at 7 rfl, hp.at 8 rfl, hp.at 9 rfl, hp.at 10 rfl, hp.old0 hC, hp.old0 hTh, hp.old0 hRf, hp.old0 hRo, trivial⟩ fun hS0 => ?_
        refine WD.one 7 (by kernel_rfl) ?_
        have hp := hp.ofEmpty 1 rfl encI 1 encI_len (by omega)
        refine WO.append hp 1 rfl rfl tL35 (zeroT_ex tZ3) tS3 tY3 rfl rfl (own_view (hp.at 8 rfl)) encI_one (by simp only [List.length_append, List.length_cons, List.length_nil]; omega) rfl ?_
        intro v28 w hp
        refine andS ⟨hp.at 3 rfl, hp.at 4 rfl, hp.at 5 rfl, hp.at 6 rfl, hp.at 7 rfl, hp.at 8 rfl, hp.at 9 rfl, hp.at 10 rfl, hp.old0 hC, hp.old0 hTh, hp.old0 hRf, hp.old0 hRo, trivial⟩ fun hS0 => ?_
        refine WD.one 11 (by kernel_rfl) ?_
        have hp := hp.ofEmpty 0 rfl encI 1 encI_len (by omega)
        refine WO.append hp 0 rfl rfl tL35 (zeroT_ex tZ3) tS3 tY3 rfl rfl (own_view (hp.at 9 rfl)) encI_one (by simp only [List.length_append, List.length_cons, List.length_nil]; omega) rfl ?_
        intro v29 w hp
        refine andS ⟨hp.at 3 rfl, hp.at 4 rfl, hp.at 5 rfl, hp.at 6 rfl, hp.at 7 rfl, hp.at 8 rfl, hp.at 9 rfl, hp.at 10 rfl, hp.old0 hC, hp.old0 hTh, hp.old0 hRf, hp.old0 hRo, trivial⟩ fun hS0 => ?_
        refine WD.v 12 rfl hS0 (fun w hS => (X.as rfl)) ?_
        refine WD.v 13 rfl hS0 (fun w hS => (X.as rfl)) ?_
        refine WD.v 14 rfl hS0 (fun w hS => (X.as rfl)) ?_
        refine WD.v 15 rfl hS0 (fun w hS => (X.as rfl)) ?_
        refine WD.nil (by kernel_rfl) ?_
        exact X.here (v27, v28, v29) ⟨rfl, rfl, rfl, rfl, rfl, rfl, rfl, rfl, trivial⟩ (by
          exact (hp.sel [2, 1, 0, 3, 4, 5, 6, 7, 8, 9, 10] (by decide)))
      refine WO.bsl hp rfl (e := 3) (cs := #[]) rfl (fun _ => by kernel_rfl) rfl ?_
      intro b30 w hp
      refine andS ⟨hp.at 2 rfl, hp.at 3 rfl, hp.at 4 rfl, hp.at 5 rfl, hp.at 6 rfl, hp.at 7 rfl, hp.at 8 rfl, hp.at 9 rfl, hp.old0 hC, hp.old0 hTh, hp.old0 hRf, hp.old0 hRo, trivial⟩ fun hS0 => ?_
      refine WD.two 3 4 (by kernel_rfl) ?_ ?_
      · have hp := hp.ofEmpty 1 rfl encS 3 encS_len (by omega)
        refine WO.append hp 1 rfl rfl tL34 (zeroT_ex tZ44) tS44 tY44 rfl rfl (own_view (hp.at 5 rfl)) encS_one (by simp only [List.length_append, List.length_cons, List.length_nil]; omega) rfl ?_
        intro v31 w hp
        refine andS ⟨hp.at 2 rfl, hp.at 3 rfl, hp.at 4 rfl, hp.at 5 rfl, hp.at 6 rfl, hp.at 7 rfl, hp.at 8 rfl, hp.at 9 rfl, hp.old0 hC, hp.old0 hTh, hp.old0 hRf, hp.old0 hRo, trivial⟩ fun hS0 => ?_
        refine WD.one 4 (by kernel_rfl) ?_
        refine WO.bsl hp rfl (e := 3) (cs := #[]) rfl (fun _ => by kernel_rfl) rfl ?_
        intro b32 w hp
        refine andS ⟨hp.at 3 rfl, hp.at 4 rfl, hp.at 5 rfl, hp.at 6 rfl, hp.at 7 rfl, hp.at 8 rfl, hp.at 9 rfl, hp.at 10 rfl, hp.old0 hC, hp.old0 hTh, hp.old0 hRf, hp.old0 hRo, trivial⟩ fun hS0 => ?_
        refine WD.one 7 (by kernel_rfl) ?_
        have hp := hp.ofEmpty 0 rfl encI 1 encI_len (by omega)
        refine WO.append hp 0 rfl rfl tL35 (zeroT_ex tZ3) tS3 tY3 rfl rfl (own_view (hp.at 8 rfl)) encI_one (by simp only [List.length_append, List.length_cons, List.length_nil]; omega) rfl ?_
        intro v33 w hp
        refine andS ⟨hp.at 3 rfl, hp.at 4 rfl, hp.at 5 rfl, hp.at 6 rfl, hp.at 7 rfl, hp.at 8 rfl, hp.at 9 rfl, hp.at 10 rfl, hp.old0 hC, hp.old0 hTh, hp.old0 hRf, hp.old0 hRo, trivial⟩ fun hS0 => ?_
        refine WD.one 11 (by kernel_rfl) ?_
        have hp := hp.ofEmpty 1 rfl encI 1 encI_len (by omega)
        refine WO.append hp 1 rfl rfl tL35 (zeroT_ex tZ3) tS3 tY3 rfl rfl (own_view (hp.at 9 rfl)) encI_one (by simp only [List.length_append, List.length_cons, List.length_nil]; omega) rfl ?_
        intro v34 w hp
        refine andS ⟨hp.at 3 rfl, hp.at 4 rfl, hp.at 5 rfl, hp.at 6 rfl, hp.at 7 rfl, hp.at 8 rfl, hp.at 9 rfl, hp.at 10 rfl, hp.old0 hC, hp.old0 hTh, hp.old0 hRf, hp.old0 hRo, trivial⟩ fun hS0 => ?_
        refine WD.v 12 rfl hS0 (fun w hS => (X.as rfl)) ?_
        refine WD.v 13 rfl hS0 (fun w hS => (X.as rfl)) ?_
        refine WD.v 14 rfl hS0 (fun w hS => (X.as rfl)) ?_
        refine WD.v 15 rfl hS0 (fun w hS => (X.as rfl)) ?_
        refine WD.nil (by kernel_rfl) ?_
        exact X.here (v31, v33, v34) ⟨rfl, rfl, rfl, rfl, rfl, rfl, rfl, rfl, trivial⟩ (by
          exact (hp.sel [2, 0, 1, 3, 4, 5, 6, 7, 8, 9, 10] (by decide)))
      refine WO.bsl hp rfl (e := 3) (cs := #[]) rfl (fun _ => by kernel_rfl) rfl ?_
      intro b35 w hp
      refine andS ⟨hp.at 3 rfl, hp.at 4 rfl, hp.at 5 rfl, hp.at 6 rfl, hp.at 7 rfl, hp.at 8 rfl, hp.at 9 rfl, hp.at 10 rfl, hp.old0 hC, hp.old0 hTh, hp.old0 hRf, hp.old0 hRo, trivial⟩ fun hS0 => ?_
      refine WD.one 3 (by kernel_rfl) ?_
      have hp := hp.ofEmpty 2 rfl encS 3 encS_len (by omega)
      refine WO.append hp 2 rfl rfl tL34 (zeroT_ex tZ44) tS44 tY44 rfl rfl (own_view (hp.at 6 rfl)) encS_one (by simp only [List.length_append, List.length_cons, List.length_nil]; omega) rfl ?_
      intro v36 w hp
      refine andS ⟨hp.at 3 rfl, hp.at 4 rfl, hp.at 5 rfl, hp.at 6 rfl, hp.at 7 rfl, hp.at 8 rfl, hp.at 9 rfl, hp.at 10 rfl, hp.old0 hC, hp.old0 hTh, hp.old0 hRf, hp.old0 hRo, trivial⟩ fun hS0 => ?_
      refine WD.one 7 (by kernel_rfl) ?_
      have hp := hp.ofEmpty 0 rfl encI 1 encI_len (by omega)
      refine WO.append hp 0 rfl rfl tL35 (zeroT_ex tZ3) tS3 tY3 rfl rfl (own_view (hp.at 8 rfl)) encI_one (by simp only [List.length_append, List.length_cons, List.length_nil]; omega) rfl ?_
      intro v37 w hp
      refine andS ⟨hp.at 3 rfl, hp.at 4 rfl, hp.at 5 rfl, hp.at 6 rfl, hp.at 7 rfl, hp.at 8 rfl, hp.at 9 rfl, hp.at 10 rfl, hp.old0 hC, hp.old0 hTh, hp.old0 hRf, hp.old0 hRo, trivial⟩ fun hS0 => ?_
      refine WD.one 11 (by kernel_rfl) ?_
      have hp := hp.ofEmpty 1 rfl encI 1 encI_len (by omega)
      refine WO.append hp 1 rfl rfl tL35 (zeroT_ex tZ3) tS3 tY3 rfl rfl (own_view (hp.at 9 rfl)) encI_one (by simp only [List.length_append, List.length_cons, List.length_nil]; omega) rfl ?_
      intro v38 w hp
      refine andS ⟨hp.at 3 rfl, hp.at 4 rfl, hp.at 5 rfl, hp.at 6 rfl, hp.at 7 rfl, hp.at 8 rfl, hp.at 9 rfl, hp.at 10 rfl, hp.old0 hC, hp.old0 hTh, hp.old0 hRf, hp.old0 hRo, trivial⟩ fun hS0 => ?_
      refine WD.v 12 rfl hS0 (fun w hS => (X.as rfl)) ?_
      refine WD.v 13 rfl hS0 (fun w hS => (X.as rfl)) ?_
      refine WD.v 14 rfl hS0 (fun w hS => (X.as rfl)) ?_
      refine WD.v 15 rfl hS0 (fun w hS => (X.as rfl)) ?_
      refine WD.nil (by kernel_rfl) ?_
      exact X.here (v36, v37, v38) ⟨rfl, rfl, rfl, rfl, rfl, rfl, rfl, rfl, trivial⟩ (by
        exact (hp.sel [2, 0, 1, 3, 4, 5, 6, 7, 8, 9, 10] (by decide)))
    · refine WO.bsl hp rfl (e := 3) (cs := #[]) rfl (fun _ => by kernel_rfl) rfl ?_
      intro b39 w hp
      refine andS ⟨hp.at 1 rfl, hp.at 2 rfl, hp.at 3 rfl, hp.at 4 rfl, hp.at 5 rfl, hp.at 6 rfl, hp.at 7 rfl, hp.at 8 rfl, hp.old0 hC, hp.old0 hTh, hp.old0 hRf, hp.old0 hRo, trivial⟩ fun hS0 => ?_
      refine WD.two 0 8 (by kernel_rfl) ?_ ?_
      · refine WO.bsl hp rfl (e := 44) (cs := #[]) rfl (fun _ => by kernel_rfl) rfl ?_
        intro b40 w hp
        refine andS ⟨hp.at 2 rfl, hp.at 3 rfl, hp.at 4 rfl, hp.at 5 rfl, hp.at 6 rfl, hp.at 7 rfl, hp.at 8 rfl, hp.at 9 rfl, hp.old0 hC, hp.old0 hTh, hp.old0 hRf, hp.old0 hRo, trivial⟩ fun hS0 => ?_
        refine WD.two 3 8 (by kernel_rfl) ?_ ?_
        · have hp := hp.ofEmpty 0 rfl encS 3 encS_len (by omega)
          refine WO.append hp 0 rfl rfl tL34 (zeroT_ex tZ44) tS44 tY44 rfl rfl (own_view (hp.at 5 rfl)) encS_one (by simp only [List.length_append, List.length_cons, List.length_nil]; omega) rfl ?_
          intro v41 w hp
          refine andS ⟨hp.at 2 rfl, hp.at 3 rfl, hp.at 4 rfl, hp.at 5 rfl, hp.at 6 rfl, hp.at 7 rfl, hp.at 8 rfl, hp.at 9 rfl, hp.old0 hC, hp.old0 hTh, hp.old0 hRf, hp.old0 hRo, trivial⟩ fun hS0 => ?_
          refine WD.two 7 8 (by kernel_rfl) ?_ ?_
          · have hp := hp.ofEmpty 1 rfl encI 1 encI_len (by omega)
            refine WO.append hp 1 rfl rfl tL35 (zeroT_ex tZ3) tS3 tY3 rfl rfl (own_view (hp.at 7 rfl)) encI_one (by simp only [List.length_append, List.length_cons, List.length_nil]; omega) rfl ?_
            intro v42 w hp
            refine andS ⟨hp.at 2 rfl, hp.at 3 rfl, hp.at 4 rfl, hp.at 5 rfl, hp.at 6 rfl, hp.at 7 rfl, hp.at 8 rfl, hp.at 9 rfl, hp.old0 hC, hp.old0 hTh, hp.old0 hRf, hp.old0 hRo, trivial⟩ fun hS0 => ?_
            refine WD.one 8 (by kernel_rfl) ?_
            refine WO.bsl hp rfl (e := 3) (cs := #[]) rfl (fun _ => by kernel_rfl) rfl ?_
            intro b43 w hp
            refine andS ⟨hp.at 3 rfl, hp.at 4 rfl, hp.at 5 rfl, hp.at 6 rfl, hp.at 7 rfl, hp.at 8 rfl, hp.at 9 rfl, hp.at 10 rfl, hp.old0 hC, hp.old0 hTh, hp.old0 hRf, hp.old0 hRo, trivial⟩ fun hS0 => ?_
            refine WD.one 11 (by kernel_rfl) ?_
            have hp := hp.ofEmpty 0 rfl encI 1 encI_len (by omega)
            refine WO.append hp 0 rfl rfl tL35 (zeroT_ex tZ3) tS3 tY3 rfl rfl (own_view (hp.at 9 rfl)) encI_one (by simp only [List.length_append, List.length_cons, List.length_nil]; omega) rfl ?_
            intro v44 w hp
            refine andS ⟨hp.at 3 rfl, hp.at 4 rfl, hp.at 5 rfl, hp.at 6 rfl, hp.at 7 rfl, hp.at 8 rfl, hp.at 9 rfl, hp.at 10 rfl, hp.old0 hC, hp.old0 hTh, hp.old0 hRf, hp.old0 hRo, trivial⟩ fun hS0 => ?_
            refine WD.v 12 rfl hS0 (fun w hS => (X.as rfl)) ?_
            refine WD.v 13 rfl hS0 (fun w hS => (X.as rfl)) ?_
            refine WD.v 14 rfl hS0 (fun w hS => (X.as rfl)) ?_
            refine WD.v 15 rfl hS0 (fun w hS => (X.as rfl)) ?_
            refine WD.nil (by kernel_rfl) ?_
            exact X.here (v41, v42, v44) ⟨rfl, rfl, rfl, rfl, rfl, rfl, rfl, rfl, trivial⟩ (by
              exact (hp.sel [1, 2, 0, 3, 4, 5, 6, 7, 8, 9, 10] (by decide)))
          refine WO.bsl hp rfl (e := 3) (cs := #[]) rfl (fun _ => by kernel_rfl) rfl ?_
          intro b45 w hp
          refine andS ⟨hp.at 3 rfl, hp.at 4 rfl, hp.at 5 rfl, hp.at 6 rfl, hp.at 7 rfl, hp.at 8 rfl, hp.at 9 rfl, hp.at 10 rfl, hp.old0 hC, hp.old0 hTh, hp.old0 hRf, hp.old0 hRo, trivial⟩ fun hS0 => ?_
          refine WD.one 7 (by kernel_rfl) ?_
          have hp := hp.ofEmpty 2 rfl encI 1 encI_len (by omega)
          refine WO.append hp 2 rfl rfl tL35 (zeroT_ex tZ3) tS3 tY3 rfl rfl (own_view (hp.at 8 rfl)) encI_one (by simp only [List.length_append, List.length_cons, List.length_nil]; omega) rfl ?_
          intro v46 w hp
          refine andS ⟨hp.at 3 rfl, hp.at 4 rfl, hp.at 5 rfl, hp.at 6 rfl, hp.at 7 rfl, hp.at 8 rfl, hp.at 9 rfl, hp.at 10 rfl, hp.old0 hC, hp.old0 hTh, hp.old0 hRf, hp.old0 hRo, trivial⟩ fun hS0 => ?_
          refine WD.one 11 (by kernel_rfl) ?_
          have hp := hp.ofEmpty 0 rfl encI 1 encI_len (by omega)
          refine WO.append hp 0 rfl rfl tL35 (zeroT_ex tZ3) tS3 tY3 rfl rfl (own_view (hp.at 9 rfl)) encI_one (by simp only [List.length_append, List.length_cons, List.length_nil]; omega) rfl ?_
          intro v47 w hp
          refine andS ⟨hp.at 3 rfl, hp.at 4 rfl, hp.at 5 rfl, hp.at 6 rfl, hp.at 7 rfl, hp.at 8 rfl, hp.at 9 rfl, hp.at 10 rfl, hp.old0 hC, hp.old0 hTh, hp.old0 hRf, hp.old0 hRo, trivial⟩ fun hS0 => ?_
          refine WD.v 12 rfl hS0 (fun w hS => (X.as rfl)) ?_
          refine WD.v 13 rfl hS0 (fun w hS => (X.as rfl)) ?_
          refine WD.v 14 rfl hS0 (fun w hS => (X.as rfl)) ?_
          refine WD.v 15 rfl hS0 (fun w hS => (X.as rfl)) ?_
          refine WD.nil (by kernel_rfl) ?_
          exact X.here (v41, v46, v47) ⟨rfl, rfl, rfl, rfl, rfl, rfl, rfl, rfl, trivial⟩ (by
            exact (hp.sel [1, 2, 0, 3, 4, 5, 6, 7, 8, 9, 10] (by decide)))
        refine WO.bsl hp rfl (e := 3) (cs := #[]) rfl (fun _ => by kernel_rfl) rfl ?_
        intro b48 w hp
        refine andS ⟨hp.at 3 rfl, hp.at 4 rfl, hp.at 5 rfl, hp.at 6 rfl, hp.at 7 rfl, hp.at 8 rfl, hp.at 9 rfl, hp.at 10 rfl, hp.old0 hC, hp.old0 hTh, hp.old0 hRf, hp.old0 hRo, trivial⟩ fun hS0 => ?_
        refine WD.one 3 (by kernel_rfl) ?_
        have hp := hp.ofEmpty 1 rfl encS 3 encS_len (by omega)
        refine WO.append hp 1 rfl rfl tL34 (zeroT_ex tZ44) tS44 tY44 rfl rfl (own_view (hp.at 6 rfl)) encS_one (by simp only [List.length_append, List.length_cons, List.length_nil]; omega) rfl ?_
        intro v49 w hp
        refine andS ⟨hp.at 3 rfl, hp.at 4 rfl, hp.at 5 rfl, hp.at 6 rfl, hp.at 7 rfl, hp.at 8 rfl, hp.at 9 rfl, hp.at 10 rfl, hp.old0 hC, hp.old0 hTh, hp.old0 hRf, hp.old0 hRo, trivial⟩ fun hS0 => ?_
        refine WD.one 7 (by kernel_rfl) ?_
        have hp := hp.ofEmpty 2 rfl encI 1 encI_len (by omega)
        refine WO.append hp 2 rfl rfl tL35 (zeroT_ex tZ3) tS3 tY3 rfl rfl (own_view (hp.at 8 rfl)) encI_one (by simp only [List.length_append, List.length_cons, List.length_nil]; omega) rfl ?_
        intro v50 w hp
        refine andS ⟨hp.at 3 rfl, hp.at 4 rfl, hp.at 5 rfl, hp.at 6 rfl, hp.at 7 rfl, hp.at 8 rfl, hp.at 9 rfl, hp.at 10 rfl, hp.old0 hC, hp.old0 hTh, hp.old0 hRf, hp.old0 hRo, trivial⟩ fun hS0 => ?_
        refine WD.one 11 (by kernel_rfl) ?_
        have hp := hp.ofEmpty 0 rfl encI 1 encI_len (by omega)
        refine WO.append hp 0 rfl rfl tL35 (zeroT_ex tZ3) tS3 tY3 rfl rfl (own_view (hp.at 9 rfl)) encI_one (by simp only [List.length_append, List.length_cons, List.length_nil]; omega) rfl ?_
        intro v51 w hp
        refine andS ⟨hp.at 3 rfl, hp.at 4 rfl, hp.at 5 rfl, hp.at 6 rfl, hp.at 7 rfl, hp.at 8 rfl, hp.at 9 rfl, hp.at 10 rfl, hp.old0 hC, hp.old0 hTh, hp.old0 hRf, hp.old0 hRo, trivial⟩ fun hS0 => ?_
        refine WD.v 12 rfl hS0 (fun w hS => (X.as rfl)) ?_
        refine WD.v 13 rfl hS0 (fun w hS => (X.as rfl)) ?_
        refine WD.v 14 rfl hS0 (fun w hS => (X.as rfl)) ?_
        refine WD.v 15 rfl hS0 (fun w hS => (X.as rfl)) ?_
        refine WD.nil (by kernel_rfl) ?_
        exact X.here (v49, v50, v51) ⟨rfl, rfl, rfl, rfl, rfl, rfl, rfl, rfl, trivial⟩ (by
          exact (hp.sel [1, 2, 0, 3, 4, 5, 6, 7, 8, 9, 10] (by decide)))
      refine WO.bsl hp rfl (e := 3) (cs := #[]) rfl (fun _ => by kernel_rfl) rfl ?_
      intro b52 w hp
      refine andS ⟨hp.at 2 rfl, hp.at 3 rfl, hp.at 4 rfl, hp.at 5 rfl, hp.at 6 rfl, hp.at 7 rfl, hp.at 8 rfl, hp.at 9 rfl, hp.old0 hC, hp.old0 hTh, hp.old0 hRf, hp.old0 hRo, trivial⟩ fun hS0 => ?_
      refine WD.one 0 (by kernel_rfl) ?_
      refine WO.bsl hp rfl (e := 44) (cs := #[]) rfl (fun _ => by kernel_rfl) rfl ?_
      intro b53 w hp
      refine andS ⟨hp.at 3 rfl, hp.at 4 rfl, hp.at 5 rfl, hp.at 6 rfl, hp.at 7 rfl, hp.at 8 rfl, hp.at 9 rfl, hp.at 10 rfl, hp.old0 hC, hp.old0 hTh, hp.old0 hRf, hp.old0 hRo, trivial⟩ fun hS0 => ?_
      refine WD.one 3 (by kernel_rfl) ?_
      have hp := hp.ofEmpty 0 rfl encS 3 encS_len (by omega)
      refine WO.append hp 0 rfl rfl tL34 (zeroT_ex tZ44) tS44 tY44 rfl rfl (own_view (hp.at 6 rfl)) encS_one (by simp only [List.length_append, List.length_cons, List.length_nil]; omega) rfl ?_
      intro v54 w hp
      refine andS ⟨hp.at 3 rfl, hp.at 4 rfl, hp.at 5 rfl, hp.at 6 rfl, hp.at 7 rfl, hp.at 8 rfl, hp.at 9 rfl, hp.at 10 rfl, hp.old0 hC, hp.old0 hTh, hp.old0 hRf, hp.old0 hRo, trivial⟩ fun hS0 => ?_
      refine WD.one 7 (by kernel_rfl) ?_
      have hp := hp.ofEmpty 2 rfl encI 1 encI_len (by omega)
      refine WO.append hp 2 rfl rfl tL35 (zeroT_ex tZ3) tS3 tY3 rfl rfl (own_view (hp.at 8 rfl)) encI_one (by simp only [List.length_append, List.length_cons, List.length_nil]; omega) rfl ?_
      intro v55 w hp
      refine andS ⟨hp.at 3 rfl, hp.at 4 rfl, hp.at 5 rfl, hp.at 6 rfl, hp.at 7 rfl, hp.at 8 rfl, hp.at 9 rfl, hp.at 10 rfl, hp.old0 hC, hp.old0 hTh, hp.old0 hRf, hp.old0 hRo, trivial⟩ fun hS0 => ?_
      refine WD.one 11 (by kernel_rfl) ?_
      have hp := hp.ofEmpty 1 rfl encI 1 encI_len (by omega)
      refine WO.append hp 1 rfl rfl tL35 (zeroT_ex tZ3) tS3 tY3 rfl rfl (own_view (hp.at 9 rfl)) encI_one (by simp only [List.length_append, List.length_cons, List.length_nil]; omega) rfl ?_
      intro v56 w hp
      refine andS ⟨hp.at 3 rfl, hp.at 4 rfl, hp.at 5 rfl, hp.at 6 rfl, hp.at 7 rfl, hp.at 8 rfl, hp.at 9 rfl, hp.at 10 rfl, hp.old0 hC, hp.old0 hTh, hp.old0 hRf, hp.old0 hRo, trivial⟩ fun hS0 => ?_
      refine WD.v 12 rfl hS0 (fun w hS => (X.as rfl)) ?_
      refine WD.v 13 rfl hS0 (fun w hS => (X.as rfl)) ?_
      refine WD.v 14 rfl hS0 (fun w hS => (X.as rfl)) ?_
      refine WD.v 15 rfl hS0 (fun w hS => (X.as rfl)) ?_
      refine WD.nil (by kernel_rfl) ?_
      exact X.here (v54, v55, v56) ⟨rfl, rfl, rfl, rfl, rfl, rfl, rfl, rfl, trivial⟩ (by
        exact (hp.sel [0, 2, 1, 3, 4, 5, 6, 7, 8, 9, 10] (by decide)))
    refine WO.bsl hp rfl (e := 3) (cs := #[]) rfl (fun _ => by kernel_rfl) rfl ?_
    intro b57 w hp
    refine andS ⟨hp.at 1 rfl, hp.at 2 rfl, hp.at 3 rfl, hp.at 4 rfl, hp.at 5 rfl, hp.at 6 rfl, hp.at 7 rfl, hp.at 8 rfl, hp.old0 hC, hp.old0 hTh, hp.old0 hRf, hp.old0 hRo, trivial⟩ fun hS0 => ?_
    refine WD.two 0 4 (by kernel_rfl) ?_ ?_
    · refine WO.bsl hp rfl (e := 44) (cs := #[]) rfl (fun _ => by kernel_rfl) rfl ?_
      intro b58 w hp
      refine andS ⟨hp.at 2 rfl, hp.at 3 rfl, hp.at 4 rfl, hp.at 5 rfl, hp.at 6 rfl, hp.at 7 rfl, hp.at 8 rfl, hp.at 9 rfl, hp.old0 hC, hp.old0 hTh, hp.old0 hRf, hp.old0 hRo, trivial⟩ fun hS0 => ?_
      refine WD.two 3 4 (by kernel_rfl) ?_ ?_
      · have hp := hp.ofEmpty 0 rfl encS 3 encS_len (by omega)
        refine WO.append hp 0 rfl rfl tL34 (zeroT_ex tZ44) tS44 tY44 rfl rfl (own_view (hp.at 5 rfl)) encS_one (by simp only [List.length_append, List.length_cons, List.length_nil]; omega) rfl ?_
        intro v59 w hp
        refine andS ⟨hp.at 2 rfl, hp.at 3 rfl, hp.at 4 rfl, hp.at 5 rfl, hp.at 6 rfl, hp.at 7 rfl, hp.at 8 rfl, hp.at 9 rfl, hp.old0 hC, hp.old0 hTh, hp.old0 hRf, hp.old0 hRo, trivial⟩ fun hS0 => ?_
        refine WD.one 4 (by kernel_rfl) ?_
        refine WO.bsl hp rfl (e := 3) (cs := #[]) rfl (fun _ => by kernel_rfl) rfl ?_
        intro b60 w hp
        refine andS ⟨hp.at 3 rfl, hp.at 4 rfl, hp.at 5 rfl, hp.at 6 rfl, hp.at 7 rfl, hp.at 8 rfl, hp.at 9 rfl, hp.at 10 rfl, hp.old0 hC, hp.old0 hTh, hp.old0 hRf, hp.old0 hRo, trivial⟩ fun hS0 => ?_
        refine WD.one 7 (by kernel_rfl) ?_
        have hp := hp.ofEmpty 0 rfl encI 1 encI_len (by omega)
        refine WO.append hp 0 rfl rfl tL35 (zeroT_ex tZ3) tS3 tY3 rfl rfl (own_view (hp.at 8 rfl)) encI_one (by simp only [List.length_append, List.length_cons, List.length_nil]; omega) rfl ?_
        intro v61 w hp
        refine andS ⟨hp.at 3 rfl, hp.at 4 rfl, hp.at 5 rfl, hp.at 6 rfl, hp.at 7 rfl, hp.at 8 rfl, hp.at 9 rfl, hp.at 10 rfl, hp.old0 hC, hp.old0 hTh, hp.old0 hRf, hp.old0 hRo, trivial⟩ fun hS0 => ?_
        refine WD.one 11 (by kernel_rfl) ?_
        have hp := hp.ofEmpty 2 rfl encI 1 encI_len (by omega)
        refine WO.append hp 2 rfl rfl tL35 (zeroT_ex tZ3) tS3 tY3 rfl rfl (own_view (hp.at 9 rfl)) encI_one (by simp only [List.length_append, List.length_cons, List.length_nil]; omega) rfl ?_
        intro v62 w hp
        refine andS ⟨hp.at 3 rfl, hp.at 4 rfl, hp.at 5 rfl, hp.at 6 rfl, hp.at 7 rfl, hp.at 8 rfl, hp.at 9 rfl, hp.at 10 rfl, hp.old0 hC, hp.old0 hTh, hp.old0 hRf, hp.old0 hRo, trivial⟩ fun hS0 => ?_
        refine WD.v 12 rfl hS0 (fun w hS => (X.as rfl)) ?_
        refine WD.v 13 rfl hS0 (fun w hS => (X.as rfl)) ?_
        refine WD.v 14 rfl hS0 (fun w hS => (X.as rfl)) ?_
        refine WD.v 15 rfl hS0 (fun w hS => (X.as rfl)) ?_
        refine WD.nil (by kernel_rfl) ?_
        exact X.here (v59, v61, v62) ⟨rfl, rfl, rfl, rfl, rfl, rfl, rfl, rfl, trivial⟩ (by
          exact (hp.sel [1, 0, 2, 3, 4, 5, 6, 7, 8, 9, 10] (by decide)))
      refine WO.bsl hp rfl (e := 3) (cs := #[]) rfl (fun _ => by kernel_rfl) rfl ?_
      intro b63 w hp
      refine andS ⟨hp.at 3 rfl, hp.at 4 rfl, hp.at 5 rfl, hp.at 6 rfl, hp.at 7 rfl, hp.at 8 rfl, hp.at 9 rfl, hp.at 10 rfl, hp.old0 hC, hp.old0 hTh, hp.old0 hRf, hp.old0 hRo, trivial⟩ fun hS0 => ?_
      refine WD.one 3 (by kernel_rfl) ?_
      have hp := hp.ofEmpty 1 rfl encS 3 encS_len (by omega)
      refine WO.append hp 1 rfl rfl tL34 (zeroT_ex tZ44) tS44 tY44 rfl rfl (own_view (hp.at 6 rfl)) encS_one (by simp only [List.length_append, List.length_cons, List.length_nil]; omega) rfl ?_
      intro v64 w hp
      refine andS ⟨hp.at 3 rfl, hp.at 4 rfl, hp.at 5 rfl, hp.at 6 rfl, hp.at 7 rfl, hp.at 8 rfl, hp.at 9 rfl, hp.at 10 rfl, hp.old0 hC, hp.old0 hTh, hp.old0 hRf, hp.old0 hRo, trivial⟩ fun hS0 => ?_
      refine WD.one 7 (by kernel_rfl) ?_
      have hp := hp.ofEmpty 0 rfl encI 1 encI_len (by omega)
      refine WO.append hp 0 rfl rfl tL35 (zeroT_ex tZ3) tS3 tY3 rfl rfl (own_view (hp.at 8 rfl)) encI_one (by simp only [List.length_append, List.length_cons, List.length_nil]; omega) rfl ?_
      intro v65 w hp
      refine andS ⟨hp.at 3 rfl, hp.at 4 rfl, hp.at 5 rfl, hp.at 6 rfl, hp.at 7 rfl, hp.at 8 rfl, hp.at 9 rfl, hp.at 10 rfl, hp.old0 hC, hp.old0 hTh, hp.old0 hRf, hp.old0 hRo, trivial⟩ fun hS0 => ?_
      refine WD.one 11 (by kernel_rfl) ?_
      have hp := hp.ofEmpty 2 rfl encI 1 encI_len (by omega)
      refine WO.append hp 2 rfl rfl tL35 (zeroT_ex tZ3) tS3 tY3 rfl rfl (own_view (hp.at 9 rfl)) encI_one (by simp only [List.length_append, List.length_cons, List.length_nil]; omega) rfl ?_
      intro v66 w hp
      refine andS ⟨hp.at 3 rfl, hp.at 4 rfl, hp.at 5 rfl, hp.at 6 rfl, hp.at 7 rfl, hp.at 8 rfl, hp.at 9 rfl, hp.at 10 rfl, hp.old0 hC, hp.old0 hTh, hp.old0 hRf, hp.old0 hRo, trivial⟩ fun hS0 => ?_
      refine WD.v 12 rfl hS0 (fun w hS => (X.as rfl)) ?_
      refine WD.v 13 rfl hS0 (fun w hS => (X.as rfl)) ?_
      refine WD.v 14 rfl hS0 (fun w hS => (X.as rfl)) ?_
      refine WD.v 15 rfl hS0 (fun w hS => (X.as rfl)) ?_
      refine WD.nil (by kernel_rfl) ?_
      exact X.here (v64, v65, v66) ⟨rfl, rfl, rfl, rfl, rfl, rfl, rfl, rfl, trivial⟩ (by
        exact (hp.sel [1, 0, 2, 3, 4, 5, 6, 7, 8, 9, 10] (by decide)))
    refine WO.bsl hp rfl (e := 3) (cs := #[]) rfl (fun _ => by kernel_rfl) rfl ?_
    intro b67 w hp
    refine andS ⟨hp.at 2 rfl, hp.at 3 rfl, hp.at 4 rfl, hp.at 5 rfl, hp.at 6 rfl, hp.at 7 rfl, hp.at 8 rfl, hp.at 9 rfl, hp.old0 hC, hp.old0 hTh, hp.old0 hRf, hp.old0 hRo, trivial⟩ fun hS0 => ?_
    refine WD.one 0 (by kernel_rfl) ?_
    refine WO.bsl hp rfl (e := 44) (cs := #[]) rfl (fun _ => by kernel_rfl) rfl ?_
    intro b68 w hp
    refine andS ⟨hp.at 3 rfl, hp.at 4 rfl, hp.at 5 rfl, hp.at 6 rfl, hp.at 7 rfl, hp.at 8 rfl, hp.at 9 rfl, hp.at 10 rfl, hp.old0 hC, hp.old0 hTh, hp.old0 hRf, hp.old0 hRo, trivial⟩ fun hS0 => ?_
    refine WD.one 3 (by kernel_rfl) ?_
    have hp := hp.ofEmpty 0 rfl encS 3 encS_len (by omega)
    refine WO.append hp 0 rfl rfl tL34 (zeroT_ex tZ44) tS44 tY44 rfl rfl (own_view (hp.at 6 rfl)) encS_one (by simp only [List.length_append, List.length_cons, List.length_nil]; omega) rfl ?_
    intro v69 w hp
    refine andS ⟨hp.at 3 rfl, hp.at 4 rfl, hp.at 5 rfl, hp.at 6 rfl, hp.at 7 rfl, hp.at 8 rfl, hp.at 9 rfl, hp.at 10 rfl, hp.old0 hC, hp.old0 hTh, hp.old0 hRf, hp.old0 hRo, trivial⟩ fun hS0 => ?_
    refine WD.one 7 (by kernel_rfl) ?_
    have hp := hp.ofEmpty 1 rfl encI 1 encI_len (by omega)
    refine WO.append hp 1 rfl rfl tL35 (zeroT_ex tZ3) tS3 tY3 rfl rfl (own_view (hp.at 8 rfl)) encI_one (by simp only [List.length_append, List.length_cons, List.length_nil]; omega) rfl ?_
    intro v70 w hp
    refine andS ⟨hp.at 3 rfl, hp.at 4 rfl, hp.at 5 rfl, hp.at 6 rfl, hp.at 7 rfl, hp.at 8 rfl, hp.at 9 rfl, hp.at 10 rfl, hp.old0 hC, hp.old0 hTh, hp.old0 hRf, hp.old0 hRo, trivial⟩ fun hS0 => ?_
    refine WD.one 11 (by kernel_rfl) ?_
    have hp := hp.ofEmpty 2 rfl encI 1 encI_len (by omega)
    refine WO.append hp 2 rfl rfl tL35 (zeroT_ex tZ3) tS3 tY3 rfl rfl (own_view (hp.at 9 rfl)) encI_one (by simp only [List.length_append, List.length_cons, List.length_nil]; omega) rfl ?_
    intro v71 w hp
    refine andS ⟨hp.at 3 rfl, hp.at 4 rfl, hp.at 5 rfl, hp.at 6 rfl, hp.at 7 rfl, hp.at 8 rfl, hp.at 9 rfl, hp.at 10 rfl, hp.old0 hC, hp.old0 hTh, hp.old0 hRf, hp.old0 hRo, trivial⟩ fun hS0 => ?_
    refine WD.v 12 rfl hS0 (fun w hS => (X.as rfl)) ?_
    refine WD.v 13 rfl hS0 (fun w hS => (X.as rfl)) ?_
    refine WD.v 14 rfl hS0 (fun w hS => (X.as rfl)) ?_
    refine WD.v 15 rfl hS0 (fun w hS => (X.as rfl)) ?_
    refine WD.nil (by kernel_rfl) ?_
    exact X.here (v69, v70, v71) ⟨rfl, rfl, rfl, rfl, rfl, rfl, rfl, rfl, trivial⟩ (by
      exact hp)
  rintro ⟨v10, v11, v12⟩ w hp
  refine W.seqCut (X := List Int × List Spc × List Int × List Int × Int × Value × Value × Value) (fun x_ => match x_ with | ⟨ws2, sp2, st2, rt2, want, w10, w11, w12⟩ => [(7, .pointer (some ⟨b3, 0, none⟩)), (10, w10), (11, w11), (12, w12), (13, .int .i64 want)]) (fun x_ w => match x_ with | ⟨ws2, sp2, st2, rt2, want, w10, w11, w12⟩ => Hp w0 [] [arenaR p b ws2, ownR 44 encS 3 w10 sp2, ownR 3 encI 1 w11 st2, ownR 3 encI 1 w12 rt2, blkR b3 (.cells (#[.pointer (some ⟨p, 0, none⟩), .pointer (some ⟨t, 0, none⟩), .pointer (some ⟨p, 0, none⟩), .pointer (some ⟨t, 0, none⟩), sp, at_, sy, rt, cv]) 37 (0, 0)), tableR t c0 Wo.cs, ownR 44 encS 3 sp Wo.sp, ownR 3 encI 1 at_ Wo.al, ownR 3 encI 1 sy q, ownR 3 encI 1 rt Wo.roots, blkR b1 (.cells (#[cv, tv, fv, ov, .int .u8 Wo.z0, .int .u8 Wo.z1, .int .u8 Wo.z2]) 28 (0, 0))] w ∧ slideE ws2 Wo.cs sp2 st2 rt2 = want ∧ want ≠ 0 ∧ ws2.length = 500 ∧ sp2.length = 3 ∧ st2.length ≤ 61 ∧ rt2.length ≤ 21) ?_ ?_
  · refine W.sr ?_
    refine WL.run 1 rfl ?_
    refine WL.v (X.rem rfl rfl (by omega)) ?_
    refine WL.fin ?_
    refine W.block ?_
    refine W.sr ?_
    refine WL.run 2 rfl ?_
    refine WL.fin ?_
    by_cases hc72 : (kd % 6) = 0
    · refine W.cT rfl (decide_eq_true hc72) ?_
      refine W.sr ?_
      refine WL.run 3 rfl ?_
      refine WL.v (view_len tL35 (own_view (hp.at 1 rfl)) rfl) ?_
      refine WL.v (X.sub rfl rfl (in64 (by omega))) ?_
      refine WL.v (X.idxV (j := ((q.length : Int) - 1).toNat) (r := offOf v11 + (((q.length : Int) - 1).toNat) * 1) tL35 tS3 (own_view (hp.at 1 rfl)) rfl rfl (by omega) (by omega) rfl) ?_
      refine WL.v (X.ld1 tA3 rfl (view_cell (j := ((q.length : Int) - 1).toNat) (f := 0) (own_view (hp.at 1 rfl)) (get_some (by omega)) rfl (by omega))) ?_
      refine WL.bsl hp (e := 3) (cs := #[.int .i64 (q.getD (((q.length : Int) - 1).toNat) default)]) rfl (fun _ => by kernel_rfl) rfl ?_
      intro b73 w hp
      refine WL.append hp 2 rfl tL35 (zeroT_ex tZ3) tS3 tY3 rfl rfl (view_of_blk (l := [(q.getD (((q.length : Int) - 1).toNat) default)]) hp 0 rfl encI_len (by omega) rfl (by simp) (by simp)) encI_one (by simp only [List.length_append, List.length_cons, List.length_nil]; omega) rfl ?_
      intro v74 w hp
      refine WL.run 1 rfl ?_
      refine WL.b ?_
      refine WL.run 1 rfl ?_
      refine WL.nil ?_
      refine X.inN ?_
      exact X.here (Wo.ws, Wo.sp, q ++ [(q.getD (((q.length : Int) - 1).toNat) default)], Wo.roots, 1, v10, v74, v12) ⟨rfl, rfl, rfl, rfl, rfl, trivial⟩ (by
        exact ⟨(hp.sel [5, 1, 2, 3, 4, 6, 7, 8, 9, 10, 11] (by decide)), by rw [show ((q.length : Int) - 1).toNat = q.length - 1 from by omega]; exact ref_dup hg.st hq0, by decide, by (try simp only [List.length_set]); omega, by (try simp only [List.length_set]); omega, by (try simp only [List.length_append, List.length_cons, List.length_nil]); omega, by (try simp only [List.length_append, List.length_cons, List.length_nil]); omega⟩)
    refine W.cF rfl (decide_eq_false hc72) ?_
    refine W.sr ?_
    refine WL.run 2 rfl ?_
    refine WL.fin ?_
    by_cases hc75 : (kd % 6) = 1
    · refine W.cT rfl (decide_eq_true hc75) ?_
      refine W.reg ?_
      refine WL.run 1 rfl ?_
      refine WL.bsl hp (e := 3) (cs := #[.int .i64 499]) rfl (fun _ => by kernel_rfl) rfl ?_
      intro b76 w hp
      refine WL.append hp 2 rfl tL35 (zeroT_ex tZ3) tS3 tY3 rfl rfl (view_of_blk (l := [499]) hp 0 rfl encI_len (by omega) rfl (by simp) (by simp)) encI_one (by simp only [List.length_append, List.length_cons, List.length_nil]; omega) rfl ?_
      intro v77 w hp
      refine WL.run 1 rfl ?_
      refine WL.nil ?_
      refine X.inN ?_
      exact X.here (Wo.ws, Wo.sp, q ++ [499], Wo.roots, 12, v10, v77, v12) ⟨rfl, rfl, rfl, rfl, rfl, trivial⟩ (by
        exact ⟨(hp.sel [5, 1, 2, 3, 4, 6, 7, 8, 9, 10, 11] (by decide)), ref_499 hg.inv hcs hg.st, by decide, by (try simp only [List.length_set]); omega, by (try simp only [List.length_set]); omega, by (try simp only [List.length_append, List.length_cons, List.length_nil]); omega, by (try simp only [List.length_append, List.length_cons, List.length_nil]); omega⟩)
    refine W.cF rfl (decide_eq_false hc75) ?_
    refine W.sr ?_
    refine WL.run 2 rfl ?_
    refine WL.fin ?_
    by_cases hc78 : (kd % 6) = 2
    · refine W.cT rfl (decide_eq_true hc78) ?_
      refine W.reg ?_
      refine WL.run 3 rfl ?_
      refine WL.v (X.idxV (j := (tt % (q.length : Int)).toNat) (r := offOf v11 + ((tt % (q.length : Int)).toNat) * 1) tL35 tS3 (own_view (hp.at 1 rfl)) rfl rfl (by omega) (by omega) rfl) ?_
      refine WL.v (X.ld1 tA3 rfl (view_cell (j := (tt % (q.length : Int)).toNat) (f := 0) (own_view (hp.at 1 rfl)) (get_some (by omega)) rfl (by omega))) ?_
      refine WL.v (X.add rfl rfl (in64 (by omega))) ?_
      refine WL.bsl hp (e := 3) (cs := #[.int .i64 ((q.getD ((tt % (q.length : Int)).toNat) default) + 1)]) rfl (fun _ => by kernel_rfl) rfl ?_
      intro b79 w hp
      refine WL.append hp 3 rfl tL35 (zeroT_ex tZ3) tS3 tY3 rfl rfl (view_of_blk (l := [(q.getD ((tt % (q.length : Int)).toNat) default) + 1]) hp 0 rfl encI_len (by omega) rfl (by simp) (by simp)) encI_one (by simp only [List.length_append, List.length_cons, List.length_nil]; omega) rfl ?_
      intro v80 w hp
      refine WL.run 1 rfl ?_
      refine WL.nil ?_
      refine X.inN ?_
      exact X.here (Wo.ws, Wo.sp, q, Wo.roots ++ [(q.getD ((tt % (q.length : Int)).toNat) default) + 1], 12, v10, v11, v80) ⟨rfl, rfl, rfl, rfl, rfl, trivial⟩ (by
        exact ⟨(hp.sel [5, 1, 2, 3, 4, 6, 7, 8, 9, 10, 11] (by decide)), ref_root hg.inv hcs hg.st hkl, by decide, by (try simp only [List.length_set]); omega, by (try simp only [List.length_set]); omega, by (try simp only [List.length_append, List.length_cons, List.length_nil]); omega, by (try simp only [List.length_append, List.length_cons, List.length_nil]); omega⟩)
    refine W.cF rfl (decide_eq_false hc78) ?_
    refine W.sr ?_
    refine WL.run 2 rfl ?_
    refine WL.fin ?_
    by_cases hc81 : (kd % 6) = 3
    · refine W.cT rfl (decide_eq_true hc81) ?_
      refine W.draw prog_mixed (fun w => (ownR 44 encS 3 v10 Wo.sp).ok w ∧ (ownR 3 encI 1 v11 q).ok w ∧ (ownR 3 encI 1 v12 Wo.roots).ok w ∧ (blkR b3 (.cells (#[.pointer (some ⟨p, 0, none⟩), .pointer (some ⟨t, 0, none⟩), .pointer (some ⟨p, 0, none⟩), .pointer (some ⟨t, 0, none⟩), sp, at_, sy, rt, cv]) 37 (0, 0))).ok w ∧ (tableR t c0 Wo.cs).ok w ∧ (ownR 44 encS 3 sp Wo.sp).ok w ∧ (ownR 3 encI 1 at_ Wo.al).ok w ∧ (ownR 3 encI 1 sy q).ok w ∧ (ownR 3 encI 1 rt Wo.roots).ok w ∧ (blkR b1 (.cells (#[cv, tv, fv, ov, .int .u8 Wo.z0, .int .u8 Wo.z1, .int .u8 Wo.z2]) 28 (0, 0))).ok w ∧ (viewR clsV 4 cv Wo.cs).ok w ∧ (viewR encTh 4 tv Wo.ths).ok w ∧ (viewR encR3 3 fv Wo.rfs).ok w ∧ (viewR encU8 1 ov Wo.ros).ok w ∧ True) hp ?_
      intro w hp
      refine WD.s ⟨hp.at 0 rfl, hp.at 1 rfl, hp.at 2 rfl, hp.at 3 rfl, hp.at 5 rfl, hp.at 6 rfl, hp.at 7 rfl, hp.at 8 rfl, hp.at 9 rfl, hp.at 10 rfl, hp.old0 hC, hp.old0 hTh, hp.old0 hRf, hp.old0 hRo, trivial⟩ fun hS0 => ?_
      refine WD.v 0 rfl hS0 (fun w hS => (X.fa (r := 0) tF37_0 rfl rfl)) ?_
      refine WD.v 1 rfl hS0 (fun w hS => (X.ldk hS.2.2.2.1 tA30 rfl rfl)) ?_
      refine WD.v 2 rfl hS0 (fun w hS => (X.mv rfl)) ?_
      refine WD.v 3 rfl hS0 (fun w hS => (X.mv rfl)) ?_
      refine WD.v 4 rfl hS0 (fun w hS => (X.idxV (j := (tt % (q.length : Int)).toNat) (r := offOf v11 + ((tt % (q.length : Int)).toNat) * 1) tL35 tS3 (own_view hS.2.1) rfl rfl (by omega) (by omega) rfl)) ?_
      refine WD.v 5 rfl hS0 (fun w hS => (X.ld1 tA3 rfl (view_cell (j := (tt % (q.length : Int)).toNat) (f := 0) (own_view hS.2.1) (get_some (by omega)) rfl (by omega)))) ?_
      refine WD.v 6 rfl hS0 (fun w hS => (X.mv rfl)) ?_
      refine WD.v 7 rfl hS0 (fun w hS => (X.conv (b := tt) tI29 tI3 rfl (wrap_in64 (in64 (by omega))))) ?_
      refine WD.v 8 rfl hS0 (fun w hS => (X.sub rfl rfl (in64 (by omega)))) ?_
      refine WD.one 9 (by kernel_rfl) ?_
      refine WO.call rfl isFn10 rfl rfl (store_c (a := (q.getD ((tt % (q.length : Int)).toNat) default)) (x := (-1) - tt) (hp.at 4 rfl)) ?_
      intro v w hc hr
      rcases hr with ⟨hf82, hf83, rfl, hA⟩ | ⟨hf84, rfl, hA⟩
      · have hp := hp.arena 4 rfl hc hA
        refine andS ⟨hp.at 0 rfl, hp.at 1 rfl, hp.at 2 rfl, hp.at 3 rfl, hp.at 5 rfl, hp.at 6 rfl, hp.at 7 rfl, hp.at 8 rfl, hp.at 9 rfl, hp.at 10 rfl, hp.old0 hC, hp.old0 hTh, hp.old0 hRf, hp.old0 hRo, trivial⟩ fun hS0 => ?_
        refine WD.nil (by kernel_rfl) ?_
        refine X.inN ?_
        exact X.here (Wo.ws.set ((q.getD ((tt % (q.length : Int)).toNat) default).toNat) ((-1) - tt), Wo.sp, q, Wo.roots, 12, v10, v11, v12) ⟨rfl, rfl, rfl, rfl, rfl, trivial⟩ (by
          exact ⟨(hp.sel [4, 0, 1, 2, 3, 5, 6, 7, 8, 9, 10] (by decide)), ref_spoilt hg.inv hcs hg.st hkl (by omega), by decide, by (try simp only [List.length_set]); omega, by (try simp only [List.length_set]); omega, by (try simp only [List.length_append, List.length_cons, List.length_nil]); omega, by (try simp only [List.length_append, List.length_cons, List.length_nil]); omega⟩)
      (try simp only [fillW_length, moveW_length, List.length_set] at hf84); first | contradiction | (exfalso; omega) | (exfalso; simp_all; done)
    refine W.cF rfl (decide_eq_false hc81) ?_
    refine W.sr ?_
    refine WL.run 2 rfl ?_
    refine WL.fin ?_
    by_cases hc85 : (kd % 6) = 4
    · refine W.cT rfl (decide_eq_true hc85) ?_
      refine W.sr ?_
      refine WL.run 2 rfl ?_
      refine WL.v (X.idxV (j := 0) (r := offOf v10 + 0 * 3) tL34 tS44 (own_view (hp.at 0 rfl)) rfl rfl (by omega) (by omega) rfl) ?_
      refine WL.run 1 rfl ?_
      refine WL.stOwn hp 0 rfl (j := 0) (f := 0) (q := (Wo.sp.getD 0 default)) (q' := (⟨0, (Wo.sp.getD 0 default).top, (Wo.sp.getD 0 default).end_⟩ : Spc)) tS3 rfl rfl (vs := [.int .i64 0]) rfl rfl (get_some (by omega)) rfl (by simp only [List.length_cons, List.length_nil]; omega) rfl ?_
      intro w hp
      refine WL.v (X.idxV (j := 0) (r := offOf v10 + 0 * 3) tL34 tS44 (own_view (hp.at 0 rfl)) rfl rfl (by omega) (by simp only [List.length_set]; omega) rfl) ?_
      refine WL.run 1 rfl ?_
      refine WL.stOwn hp 0 rfl (j := 0) (f := 1) (q := ((Wo.sp.set 0 (⟨0, (Wo.sp.getD 0 default).top, (Wo.sp.getD 0 default).end_⟩ : Spc)).getD 0 default)) (q' := (⟨((Wo.sp.set 0 (⟨0, (Wo.sp.getD 0 default).top, (Wo.sp.getD 0 default).end_⟩ : Spc)).getD 0 default).from_, 0, ((Wo.sp.set 0 (⟨0, (Wo.sp.getD 0 default).top, (Wo.sp.getD 0 default).end_⟩ : Spc)).getD 0 default).end_⟩ : Spc)) tS3 rfl rfl (vs := [.int .i64 0]) rfl rfl (get_some (by simp only [List.length_set]; omega)) rfl (by simp only [List.length_cons, List.length_nil]; omega) rfl ?_
      intro w hp
      refine WL.b ?_
      refine WL.run 1 rfl ?_
      refine WL.nil ?_
      refine X.inN ?_
      exact X.here (Wo.ws, (Wo.sp.set 0 (⟨0, (Wo.sp.getD 0 default).top, (Wo.sp.getD 0 default).end_⟩ : Spc)).set 0 (⟨((Wo.sp.set 0 (⟨0, (Wo.sp.getD 0 default).top, (Wo.sp.getD 0 default).end_⟩ : Spc)).getD 0 default).from_, 0, ((Wo.sp.set 0 (⟨0, (Wo.sp.getD 0 default).top, (Wo.sp.getD 0 default).end_⟩ : Spc)).getD 0 default).end_⟩ : Spc), q, Wo.roots, 1, v10, v11, v12) ⟨rfl, rfl, rfl, rfl, rfl, trivial⟩ (by
        exact ⟨(hp.sel [4, 0, 1, 2, 3, 5, 6, 7, 8, 9, 10] (by decide)), ref_space (by simp only [List.length_set]; omega) (by rw [getD_set (by rw [List.length_set]; omega), if_pos rfl]; show ((Wo.sp.set 0 _).getD 0 default).from_ = 0; rw [getD_set (by omega), if_pos rfl]), by decide, by (try simp only [List.length_set]); omega, by (try simp only [List.length_set]); omega, by (try simp only [List.length_append, List.length_cons, List.length_nil]); omega, by (try simp only [List.length_append, List.length_cons, List.length_nil]); omega⟩)
    refine W.cF rfl (decide_eq_false hc85) ?_
    refine W.sr ?_
    refine WL.run 2 rfl ?_
    refine WL.fin ?_
    by_cases hc86 : (kd % 6) = 5
    · refine W.cT rfl (decide_eq_true hc86) ?_
      refine W.seq ?_
      refine W.draw prog_mixed (fun w => (ownR 44 encS 3 v10 Wo.sp).ok w ∧ (ownR 3 encI 1 v11 q).ok w ∧ (ownR 3 encI 1 v12 Wo.roots).ok w ∧ (blkR b3 (.cells (#[.pointer (some ⟨p, 0, none⟩), .pointer (some ⟨t, 0, none⟩), .pointer (some ⟨p, 0, none⟩), .pointer (some ⟨t, 0, none⟩), sp, at_, sy, rt, cv]) 37 (0, 0))).ok w ∧ (arenaR p b Wo.ws).ok w ∧ (tableR t c0 Wo.cs).ok w ∧ (ownR 44 encS 3 sp Wo.sp).ok w ∧ (ownR 3 encI 1 at_ Wo.al).ok w ∧ (ownR 3 encI 1 sy q).ok w ∧ (ownR 3 encI 1 rt Wo.roots).ok w ∧ (blkR b1 (.cells (#[cv, tv, fv, ov, .int .u8 Wo.z0, .int .u8 Wo.z1, .int .u8 Wo.z2]) 28 (0, 0))).ok w ∧ (viewR clsV 4 cv Wo.cs).ok w ∧ (viewR encTh 4 tv Wo.ths).ok w ∧ (viewR encR3 3 fv Wo.rfs).ok w ∧ (viewR encU8 1 ov Wo.ros).ok w ∧ True) hp ?_
      intro w hp
      refine WD.s ⟨hp.at 0 rfl, hp.at 1 rfl, hp.at 2 rfl, hp.at 3 rfl, hp.at 4 rfl, hp.at 5 rfl, hp.at 6 rfl, hp.at 7 rfl, hp.at 8 rfl, hp.at 9 rfl, hp.at 10 rfl, hp.old0 hC, hp.old0 hTh, hp.old0 hRf, hp.old0 hRo, trivial⟩ fun hS0 => ?_
      refine WD.v 0 rfl hS0 (fun w hS => (X.fa (r := 2) tF37_2 rfl rfl)) ?_
      refine WD.v 1 rfl hS0 (fun w hS => (X.ldkA hS.2.2.2.1 tA33 tS33 (vs := [.pointer (some ⟨p, 0, none⟩), .pointer (some ⟨t, 0, none⟩)]) rfl rfl)) ?_
      refine WD.v 2 rfl hS0 (fun w hS => (X.mv rfl)) ?_
      refine WD.v 3 rfl hS0 (fun w hS => (X.mv rfl)) ?_
      refine WD.v 4 rfl hS0 (fun w hS => (X.idxV (j := (tt % (q.length : Int)).toNat) (r := offOf v11 + ((tt % (q.length : Int)).toNat) * 1) tL35 tS3 (own_view hS.2.1) rfl rfl (by omega) (by omega) rfl)) ?_
      refine WD.v 5 rfl hS0 (fun w hS => (X.ld1 tA3 rfl (view_cell (j := (tt % (q.length : Int)).toNat) (f := 0) (own_view hS.2.1) (get_some (by omega)) rfl (by omega)))) ?_
      refine WD.one 6 (by kernel_rfl) ?_
      refine WO.call rfl isFn11 rfl rfl (shape_c (a := (q.getD ((tt % (q.length : Int)).toNat) default)) (hp.at 4 rfl) (hp.at 5 rfl)) ?_
      intro v w hc hr
      obtain rfl := hr
      have hp := hp.ext hc
      refine andS ⟨hp.at 0 rfl, hp.at 1 rfl, hp.at 2 rfl, hp.at 3 rfl, hp.at 4 rfl, hp.at 5 rfl, hp.at 6 rfl, hp.at 7 rfl, hp.at 8 rfl, hp.at 9 rfl, hp.at 10 rfl, hp.old0 hC, hp.old0 hTh, hp.old0 hRf, hp.old0 hRo, trivial⟩ fun hS0 => ?_
      refine WD.v 7 rfl hS0 (fun w hS => (X.mv rfl)) ?_
      refine WD.v 8 rfl hS0 (fun w hS => (X.ext rfl rfl)) ?_
      refine WD.v 9 rfl hS0 (fun w hS => (X.ext rfl rfl)) ?_
      refine WD.v 10 rfl hS0 (fun w hS => (X.ext rfl rfl)) ?_
      refine WD.v 11 rfl hS0 (fun w hS => (X.as rfl)) ?_
      refine WD.v 12 rfl hS0 (fun w hS => (X.as rfl)) ?_
      refine WD.v 13 rfl hS0 (fun w hS => (X.as rfl)) ?_
      refine WD.nil (by kernel_rfl) ?_
      refine X.thenN ?_
      refine W.seq ?_
      refine W.sr ?_
      refine WL.run 2 rfl ?_
      refine WL.fin ?_
      by_cases hc87 : ((objT Wo.ws Wo.cs (q.getD ((tt % (q.length : Int)).toNat) default)).refs) = 0
      · refine W.cT rfl (decide_eq_true hc87) ?_
        refine W.sr ?_
        refine WL.run 1 rfl ?_
        refine WL.fin ?_
        refine W.ret ?_
        refine X.thenR ?_
        refine X.inR ?_
        refine X.thenR ?_
        refine W.done hp (rs := [.tmp 6]) (vs := [.bool true]) (v := .bool true) rfl ⟨rfl, trivial⟩ rfl ?_
        exact rfl
      refine W.cF rfl (decide_eq_false hc87) ?_
      refine W.k ?_
      have hqb := objT_bd hcs hqm.1
      have hm5 := Int.emod_nonneg tt (show (objT Wo.ws Wo.cs (q.getD (tt % (q.length : Int)).toNat default)).refs ≠ 0 by omega)
      have hm6 := Int.emod_lt_of_pos tt (show 0 < (objT Wo.ws Wo.cs (q.getD (tt % (q.length : Int)).toNat default)).refs by omega)
      have hre : refE Wo.ws Wo.cs (q.getD (tt % (q.length : Int)).toNat default) (tt % (objT Wo.ws Wo.cs (q.getD (tt % (q.length : Int)).toNat default)).refs) = 0 := refE_ok hqm.1 hm5 hm6
      refine W.draw prog_mixed (fun w => (ownR 44 encS 3 v10 Wo.sp).ok w ∧ (ownR 3 encI 1 v11 q).ok w ∧ (ownR 3 encI 1 v12 Wo.roots).ok w ∧ (blkR b3 (.cells (#[.pointer (some ⟨p, 0, none⟩), .pointer (some ⟨t, 0, none⟩), .pointer (some ⟨p, 0, none⟩), .pointer (some ⟨t, 0, none⟩), sp, at_, sy, rt, cv]) 37 (0, 0))).ok w ∧ (tableR t c0 Wo.cs).ok w ∧ (ownR 44 encS 3 sp Wo.sp).ok w ∧ (ownR 3 encI 1 at_ Wo.al).ok w ∧ (ownR 3 encI 1 sy q).ok w ∧ (ownR 3 encI 1 rt Wo.roots).ok w ∧ (blkR b1 (.cells (#[cv, tv, fv, ov, .int .u8 Wo.z0, .int .u8 Wo.z1, .int .u8 Wo.z2]) 28 (0, 0))).ok w ∧ (viewR clsV 4 cv Wo.cs).ok w ∧ (viewR encTh 4 tv Wo.ths).ok w ∧ (viewR encR3 3 fv Wo.rfs).ok w ∧ (viewR encU8 1 ov Wo.ros).ok w ∧ True) hp ?_
      intro w hp
      refine WD.s ⟨hp.at 0 rfl, hp.at 1 rfl, hp.at 2 rfl, hp.at 3 rfl, hp.at 5 rfl, hp.at 6 rfl, hp.at 7 rfl, hp.at 8 rfl, hp.at 9 rfl, hp.at 10 rfl, hp.old0 hC, hp.old0 hTh, hp.old0 hRf, hp.old0 hRo, trivial⟩ fun hS0 => ?_
      refine WD.v 0 rfl hS0 (fun w hS => (X.fa (r := 2) tF37_2 rfl rfl)) ?_
      refine WD.v 1 rfl hS0 (fun w hS => (X.ldkA hS.2.2.2.1 tA33 tS33 (vs := [.pointer (some ⟨p, 0, none⟩), .pointer (some ⟨t, 0, none⟩)]) rfl rfl)) ?_
      refine WD.v 2 rfl hS0 (fun w hS => (X.mv rfl)) ?_
      refine WD.v 3 rfl hS0 (fun w hS => (X.mv rfl)) ?_
      refine WD.v 4 rfl hS0 (fun w hS => (X.idxV (j := (tt % (q.length : Int)).toNat) (r := offOf v11 + ((tt % (q.length : Int)).toNat) * 1) tL35 tS3 (own_view hS.2.1) rfl rfl (by omega) (by omega) rfl)) ?_
      refine WD.v 5 rfl hS0 (fun w hS => (X.ld1 tA3 rfl (view_cell (j := (tt % (q.length : Int)).toNat) (f := 0) (own_view hS.2.1) (get_some (by omega)) rfl (by omega)))) ?_
      refine WD.v 6 rfl hS0 (fun w hS => (X.mv rfl)) ?_
      refine WD.v 7 rfl hS0 (fun w hS => (X.conv (b := tt) tI29 tI3 rfl (wrap_in64 (in64 (by omega))))) ?_
      refine WD.v 8 rfl hS0 (fun w hS => (X.mv rfl)) ?_
      refine WD.v 9 rfl hS0 (fun w hS => (X.rem rfl rfl (by omega))) ?_
      refine WD.one 10 (by kernel_rfl) ?_
      refine WO.call rfl isFn12 rfl rfl (setref_c (a := (q.getD ((tt % (q.length : Int)).toNat) default)) (f := tt % ((objT Wo.ws Wo.cs (q.getD ((tt % (q.length : Int)).toNat) default)).refs)) (x := 499) (hp.at 4 rfl) (hp.at 5 rfl) (foot_dis hp (i := 5) (j := 4) rfl rfl (by decide))) ?_
      intro v w hc hr
      rcases hr with ⟨hr88, rfl, hA⟩ | ⟨hr88, rfl, hA⟩
      · have hp := hp.arena 4 rfl hc hA
        refine andS ⟨hp.at 0 rfl, hp.at 1 rfl, hp.at 2 rfl, hp.at 3 rfl, hp.at 5 rfl, hp.at 6 rfl, hp.at 7 rfl, hp.at 8 rfl, hp.at 9 rfl, hp.at 10 rfl, hp.old0 hC, hp.old0 hTh, hp.old0 hRf, hp.old0 hRo, trivial⟩ fun hS0 => ?_
        refine WD.nil (by kernel_rfl) ?_
        refine X.inN ?_
        exact X.here (Wo.ws.set ((q.getD ((tt % (q.length : Int)).toNat) default) + 2 + (tt % ((objT Wo.ws Wo.cs (q.getD ((tt % (q.length : Int)).toNat) default)).refs))).toNat 499, Wo.sp, q, Wo.roots, 12, v10, v11, v12) ⟨rfl, rfl, rfl, rfl, rfl, trivial⟩ (by
          exact ⟨(hp.sel [4, 0, 1, 2, 3, 5, 6, 7, 8, 9, 10] (by decide)), ref_lost hg.inv hcs hg.st hkl hm5 hm6, by decide, by (try simp only [List.length_set]); omega, by (try simp only [List.length_set]); omega, by (try simp only [List.length_append, List.length_cons, List.length_nil]); omega, by (try simp only [List.length_append, List.length_cons, List.length_nil]); omega⟩)
      (try simp only [fillW_length, moveW_length, List.length_set] at hr88); first | contradiction | (exfalso; omega) | (exfalso; simp_all; done)
    refine W.cF rfl (decide_eq_false hc86) ?_
    refine W.skip ?_
    refine X.inN ?_
    exact X.here (Wo.ws, Wo.sp, q, Wo.roots, 12, v10, v11, v12) ⟨rfl, rfl, rfl, rfl, rfl, trivial⟩ (by
      exfalso; omega)
  rintro ⟨ws2, sp2, st2, rt2, want, w10, w11, w12⟩ w ⟨hp, hsl, hwn, hl5, hl3, hl61, hl21⟩
  refine W.sr ?_
  refine WL.run 1 rfl ?_
  refine WL.v (X.ldk (hp.at 4 rfl) tA30 rfl rfl) ?_
  refine WL.call isFn13 rfl rfl (words_c (a := 0) (k := 500) (hp.at 0 rfl)) ?_
  intro v w hc hr
  rcases hr with ⟨hw89, hw90, hw91, s93, rfl, hN⟩ | ⟨hw92, rfl⟩
  · have hp := hp.newN hc hN
    refine WL.run 5 rfl ?_
    refine WL.a ?_
    refine WL.run 1 rfl ?_
    refine WL.v (X.ldk (hp.at 5 rfl) tA30 rfl rfl) ?_
    refine WL.run 1 rfl ?_
    refine WL.v (X.ldk (hp.at 5 rfl) tA31 rfl rfl) ?_
    refine WL.run 3 rfl ?_
    have hp := hp.sel [1, 0, 2, 3, 4, 5, 6, 7, 8, 9, 10, 11] (by decide)
    refine WL.call isFn14 rfl rfl (run_c (l := sp2) (st := st2) (rt := rt2) (hp.at 0 rfl) (hp.at 6 rfl) (foot_dis hp (i := 6) (j := 0) rfl rfl (by decide)) (own_view (hp.at 2 rfl)) (own_view (hp.at 3 rfl)) (own_view (hp.at 4 rfl)) (foot_dis hp (i := 2) (j := 0) rfl rfl (by decide)) (foot_dis hp (i := 3) (j := 0) rfl rfl (by decide)) (foot_dis hp (i := 4) (j := 0) rfl rfl (by decide)) (by first | omega | decide) (by first | omega | decide) (by first | omega | decide)) ?_
    intro v w hc hr
    rcases hr with ⟨he96, o94, now95, rfl, hN⟩ | ⟨he96, hrv, hA⟩
    · exact absurd (hsl.symm.trans he96) hwn
    rw [hsl] at hrv
    subst hrv
    have hp := hp.arena 0 rfl hc hA
    refine WL.run 7 rfl ?_
    refine WL.a ?_
    refine WL.run 1 rfl ?_
    refine WL.v (X.ldk (hp.at 5 rfl) tA30 rfl rfl) ?_
    refine WL.call isFn13 rfl rfl (words_c (a := 0) (k := 500) (hp.at 0 rfl)) ?_
    intro v w hc hr
    rcases hr with ⟨hw97, hw98, hw99, s101, rfl, hN⟩ | ⟨hw100, rfl⟩
    · have hp := hp.newN hc hN
      refine WL.run 5 rfl ?_
      refine WL.a ?_
      refine WL.run 4 rfl ?_
      have hc102 : want = want := rfl
      refine WL.g1 rfl rfl (decide_eq_true hc102) ?_
      refine WL.run 1 rfl ?_
      refine WL.g1 rfl rfl (decide_eq_true hc102) ?_
      refine WL.v (X.len tL35 rfl) ?_
      refine WL.g1 rfl rfl (decide_eq_true hc102) ?_
      refine WL.run 1 rfl ?_
      refine WL.g1 rfl rfl (decide_eq_true hc102) ?_
      refine WL.v (X.len tL34 rfl) ?_
      refine WL.g1 rfl rfl (decide_eq_true hc102) ?_
      refine WL.v (X.add rfl rfl (in64 (by omega))) ?_
      refine WL.g1 rfl rfl (decide_eq_true hc102) ?_
      refine WL.run 1 rfl ?_
      refine WL.v (X.pkT rfl (decide_eq_true hc102) rfl) ?_
      refine WL.run 1 rfl ?_
      have hc103 : ((0 : Int) + 0) = 0 := by decide
      refine WL.g1 rfl rfl (decide_eq_true hc103) ?_
      refine WL.run 1 rfl ?_
      refine WL.g1 rfl rfl (decide_eq_true hc103) ?_
      refine WL.run 1 rfl ?_
      refine WL.g1 rfl rfl (decide_eq_true hc103) ?_
      refine WL.call isFn15 rfl rfl (same_c (own_view (hp.at 2 rfl)) (own_view (hp.at 0 rfl))) ?_
      intro v w hc hr
      obtain rfl := hr
      have hp := hp.ext hc
      refine WL.v (X.pkT rfl (decide_eq_true hc103) rfl) ?_
      refine WL.run 1 rfl ?_
      refine WL.fin ?_
      refine W.ret ?_
      refine W.done hp (rs := [.tmp 6]) (vs := [.bool (sameB ((ws2.drop ((0 : Int).toNat)).take ((500 : Int).toNat)) ((ws2.drop ((0 : Int).toNat)).take ((500 : Int).toNat)))]) (v := .bool (sameB ((ws2.drop ((0 : Int).toNat)).take ((500 : Int).toNat)) ((ws2.drop ((0 : Int).toNat)).take ((500 : Int).toNat)))) rfl ⟨rfl, trivial⟩ rfl ?_
      exact congrArg Value.bool (same_yes rfl fun _ _ => rfl)
    (try simp only [fillW_length, moveW_length, List.length_set] at hw100); first | contradiction | (exfalso; omega) | (exfalso; simp_all; done)
  (try simp only [fillW_length, moveW_length, List.length_set] at hw92); first | contradiction | (exfalso; omega) | (exfalso; simp_all; done)
end Go.Proofs.Ytmmmbkmjkpfleaa
