/- Walks, printed by gen.py from the specs K2: what each function answers. No statement of the seat is proved here; conditions: each theorem's own. -/
import Derived.Test.YtmmmbkmjkpfleaaPureR
import Derived.Test.YtmmmbkmjkpfleaaWJ
namespace Go.Proofs.Ytmmmbkmjkpfleaa
open Go Go.RowKit

set_option maxHeartbeats 4000000 in
theorem SlideWords_c {w0 : World} {cv tv fv ov : Value} {Wo : Wd} (hC : (viewR clsV 4 cv Wo.cs).ok w0) (hTh : (viewR encTh 4 tv Wo.ths).ok w0) (hRf : (viewR encR3 3 fv Wo.rfs).ok w0) (hRo : (viewR encU8 1 ov Wo.ros).ok w0) (hWb : Wo.Bd)  :
    Calls Try.prog 7 #[.agg #[cv, tv, fv, ov, .int .u8 Wo.z0, .int .u8 Wo.z1, .int .u8 Wo.z2]] w0 (Ret [] w0 (fun v _ => v = .bool true)) := by
  have hp : Hp w0 [] [] w0 := Hp.init w0
  refine enter (vs := [.agg #[cv, tv, fv, ov, .int .u8 Wo.z0, .int .u8 Wo.z1, .int .u8 Wo.z2]]) Try.func7 rfl rfl rfl ?_
  refine gen_world hp ?_
  intro w hp
  refine W.sr ?_
  refine WL.box hp rfl (cs := #[cv, tv, fv, ov, .int .u8 Wo.z0, .int .u8 Wo.z1, .int .u8 Wo.z2]) rfl rfl ?_
  intro b1 w hp
  refine WL.run 1 rfl ?_
  refine WL.a ?_
  refine WL.v (X.ldkA (hp.at 0 rfl) tA28 tS28 (vs := [cv, tv, fv, ov, .int .u8 Wo.z0, .int .u8 Wo.z1, .int .u8 Wo.z2]) rfl rfl) ?_
  refine WL.call isFn8 rfl rfl (made16_c (cs := Wo.cs) (ths := Wo.ths) (rfs := Wo.rfs) (ros := Wo.ros) (hp.old0 hC) (hp.old0 hTh) (hp.old0 hRf) (hp.old0 hRo) hWb.th hWb.rf hWb.ro hWb.z0 hWb.z1 hWb.z2) ?_
  intro v w hc hr
  rcases hr with rfl | ⟨hok, p, b, t, c0, sp, at_, sy, rt, q, hst, rfl, hN⟩
  · have hp := hp.ext hc
    refine WL.run 3 rfl ?_
    refine WL.alloc hp tZ37 rfl ?_
    intro b2 w hp
    refine WL.store hp 0 rfl tS37 rfl rfl (vs := [.pointer none, .pointer none, .pointer none, .pointer none, .slice none 0 0, .slice none 0 0, .slice none 0 0, .slice none 0 0, .slice none 0 0]) rfl rfl rfl (new := #[.pointer none, .pointer none, .pointer none, .pointer none, .slice none 0 0, .slice none 0 0, .slice none 0 0, .slice none 0 0, .slice none 0 0]) rfl ?_
    intro w hp
    refine WL.run 1 rfl ?_
    refine WL.s ?_
    refine W.sr ?_
    refine WL.call isFn9 rfl rfl awake_c ?_
    intro v w hc hr
    obtain rfl := hr
    have hp := hp.ext hc
    refine WL.run 2 rfl ?_
    refine WL.g1 rfl rfl rfl ?_
    refine WL.run 1 rfl ?_
    refine WL.g1 rfl rfl rfl ?_
    refine WL.run 1 rfl ?_
    refine WL.v (X.pkF rfl rfl rfl) ?_
    refine WL.fin ?_
    refine W.cT rfl rfl ?_
    refine W.sr ?_
    refine WL.call isFn9 rfl rfl awake_c ?_
    intro v w hc hr
    obtain rfl := hr
    have hp := hp.ext hc
    refine WL.run 1 rfl ?_
    refine WL.fin ?_
    refine W.ret ?_
    refine X.thenR ?_
    refine W.done hp (rs := [.tmp 2]) (vs := [.bool true]) (v := .bool true) rfl ⟨rfl, trivial⟩ rfl ?_
    exact rfl
  have hp := hp.adds hN
  have hp : Hp w0 [] [arenaR p b Wo.ws, tableR t c0 Wo.cs, ownR 44 encS 3 sp Wo.sp, ownR 3 encI 1 at_ Wo.al, ownR 3 encI 1 sy q, ownR 3 encI 1 rt Wo.roots, blkR b1 (.cells (#[cv, tv, fv, ov, .int .u8 Wo.z0, .int .u8 Wo.z1, .int .u8 Wo.z2]) 28 (0, 0))] w := hp
  have hg : Wo.Good q := Wd.good hWb hok hst
  have hcs := hg.hcs
  have hql := hg.qlen
  have hrl := hg.rlen
  have hal := hg.allen
  have hlen5 := hg.inv.len
  have hsp3 := hg.inv.sp3
  refine WL.run 3 rfl ?_
  refine WL.alloc hp tZ37 rfl ?_
  intro b3 w hp
  refine WL.store hp 0 rfl tS37 rfl rfl (vs := [.pointer (some ⟨p, 0, none⟩), .pointer (some ⟨t, 0, none⟩), .pointer (some ⟨p, 0, none⟩), .pointer (some ⟨t, 0, none⟩), sp, at_, sy, rt, cv]) rfl (by first | (simp only [List.all_cons, List.all_nil, Bool.and_true, view_one (own_view (hp.at 3 rfl)), view_one (own_view (hp.at 4 rfl)), view_one (own_view (hp.at 5 rfl)), view_one (own_view (hp.at 6 rfl)), view_one (hp.old0 hC)]; done) | (simp only [List.all_cons, List.all_nil, Bool.and_true, one_int, one_bool, one_ptr, one_map, one_sl, view_one (own_view (hp.at 3 rfl)), view_one (own_view (hp.at 4 rfl)), view_one (own_view (hp.at 5 rfl)), view_one (own_view (hp.at 6 rfl)), view_one (hp.old0 hC)]; done) | simp [Value.oneCell', view_one (own_view (hp.at 3 rfl)), view_one (own_view (hp.at 4 rfl)), view_one (own_view (hp.at 5 rfl)), view_one (own_view (hp.at 6 rfl)), view_one (hp.old0 hC)]) rfl (new := #[.pointer (some ⟨p, 0, none⟩), .pointer (some ⟨t, 0, none⟩), .pointer (some ⟨p, 0, none⟩), .pointer (some ⟨t, 0, none⟩), sp, at_, sy, rt, cv]) rfl ?_
  intro w hp
  refine WL.run 1 rfl ?_
  refine WL.s ?_
  refine W.sr ?_
  refine WL.call isFn9 rfl rfl awake_c ?_
  intro v w hc hr
  obtain rfl := hr
  have hp := hp.ext hc
  refine WL.run 2 rfl ?_
  refine WL.g1 rfl rfl rfl ?_
  refine WL.run 1 rfl ?_
  refine WL.g1 rfl rfl rfl ?_
  refine WL.run 1 rfl ?_
  refine WL.v (X.pkF rfl rfl rfl) ?_
  refine WL.fin ?_
  refine W.cF rfl rfl ?_
  refine W.ks ?_
  refine WL.run 1 rfl ?_
  refine WL.s ?_
  refine W.seq ?_
  have hp := hp.addNil 3 encI 1 encI_len (by omega)
  refine W.reg ?_
  refine WL.run 1 rfl ?_
  refine WL.v (X.ldk (hp.at 1 rfl) tA35 rfl rfl) ?_
  refine WL.v (view_len tL35 (own_view (hp.at 6 rfl)) rfl) ?_
  refine WL.run 1 rfl ?_
  refine WL.fin ?_
  refine W.block ?_
  refine W.loop (X := Nat × Value) (fun x_ => match x_ with | ⟨i, v⟩ => q.length - i) (fun x_ => match x_ with | ⟨i, v⟩ => [(3, .pointer (some ⟨b3, 0, none⟩)), (5, v), (36, .int .i64 (q.length : Int)), (37, .int .i64 (i : Int))]) (fun x_ w => match x_ with | ⟨i, v⟩ => Hp w0 [] [ownR 3 encI 1 v ((q.take i).map fun a => (atT Wo.ws Wo.cs a).words), blkR b3 (.cells (#[.pointer (some ⟨p, 0, none⟩), .pointer (some ⟨t, 0, none⟩), .pointer (some ⟨p, 0, none⟩), .pointer (some ⟨t, 0, none⟩), sp, at_, sy, rt, cv]) 37 (0, 0)), arenaR p b Wo.ws, tableR t c0 Wo.cs, ownR 44 encS 3 sp Wo.sp, ownR 3 encI 1 at_ Wo.al, ownR 3 encI 1 sy q, ownR 3 encI 1 rt Wo.roots, blkR b1 (.cells (#[cv, tv, fv, ov, .int .u8 Wo.z0, .int .u8 Wo.z1, .int .u8 Wo.z2]) 28 (0, 0))] w ∧ i ≤ q.length) (0, .slice none 0 0) ⟨rfl, rfl, rfl, rfl, trivial⟩ ?_ ?_
  · exact ⟨hp, by omega⟩
  rintro ⟨i, v⟩ w ⟨hp, hi⟩
  refine W.sr ?_
  refine WL.run 1 rfl ?_
  refine WL.s ?_
  by_cases hc4 : (i : Int) < (q.length : Int)
  · refine W.cT rfl (decide_eq_true hc4) ?_
    refine W.k ?_
    refine W.seq ?_
    refine W.block ?_
    refine W.sr ?_
    refine WL.run 2 rfl ?_
    refine WL.s ?_
    have hlt : i < q.length := by omega
    refine W.draw prog_mixed (fun w => (ownR 3 encI 1 v ((q.take i).map fun a => (atT Wo.ws Wo.cs a).words)).ok w ∧ (blkR b3 (.cells (#[.pointer (some ⟨p, 0, none⟩), .pointer (some ⟨t, 0, none⟩), .pointer (some ⟨p, 0, none⟩), .pointer (some ⟨t, 0, none⟩), sp, at_, sy, rt, cv]) 37 (0, 0))).ok w ∧ (arenaR p b Wo.ws).ok w ∧ (tableR t c0 Wo.cs).ok w ∧ (ownR 44 encS 3 sp Wo.sp).ok w ∧ (ownR 3 encI 1 at_ Wo.al).ok w ∧ (ownR 3 encI 1 sy q).ok w ∧ (ownR 3 encI 1 rt Wo.roots).ok w ∧ (blkR b1 (.cells (#[cv, tv, fv, ov, .int .u8 Wo.z0, .int .u8 Wo.z1, .int .u8 Wo.z2]) 28 (0, 0))).ok w ∧ (viewR clsV 4 cv Wo.cs).ok w ∧ (viewR encTh 4 tv Wo.ths).ok w ∧ (viewR encR3 3 fv Wo.rfs).ok w ∧ (viewR encU8 1 ov Wo.ros).ok w ∧ True) hp ?_
    intro w hp
    refine WD.s ⟨hp.at 0 rfl, hp.at 1 rfl, hp.at 2 rfl, hp.at 3 rfl, hp.at 4 rfl, hp.at 5 rfl, hp.at 6 rfl, hp.at 7 rfl, hp.at 8 rfl, hp.old0 hC, hp.old0 hTh, hp.old0 hRf, hp.old0 hRo, trivial⟩ fun hS0 => ?_
    refine WD.v 0 rfl hS0 (fun w hS => (X.fa (r := 2) tF37_2 rfl rfl)) ?_
    refine WD.v 1 rfl hS0 (fun w hS => (X.ldkA hS.2.1 tA33 tS33 (vs := [.pointer (some ⟨p, 0, none⟩), .pointer (some ⟨t, 0, none⟩)]) rfl rfl)) ?_
    refine WD.v 2 rfl hS0 (fun w hS => (X.fa (r := 6) tF37_5 rfl rfl)) ?_
    refine WD.v 3 rfl hS0 (fun w hS => (X.ldk hS.2.1 tA35 rfl rfl)) ?_
    refine WD.v 4 rfl hS0 (fun w hS => (X.mv rfl)) ?_
    refine WD.v 5 rfl hS0 (fun w hS => (X.idxV (j := i) (r := offOf sy + i * 1) tL35 tS3 (own_view hS.2.2.2.2.2.2.1) rfl rfl (by omega) (by omega) rfl)) ?_
    refine WD.v 6 rfl hS0 (fun w hS => (X.ld1 tA3 rfl (view_cell (j := i) (f := 0) (own_view hS.2.2.2.2.2.2.1) (get_some (by omega)) rfl (by omega)))) ?_
    refine WD.one 7 (by kernel_rfl) ?_
    refine WO.call rfl isFn21 rfl rfl (size_c (a := (q.getD i default)) (hp.at 2 rfl) (hp.at 3 rfl)) ?_
    intro v w hc hr
    obtain rfl := hr
    have hp := hp.ext hc
    refine andS ⟨hp.at 0 rfl, hp.at 1 rfl, hp.at 2 rfl, hp.at 3 rfl, hp.at 4 rfl, hp.at 5 rfl, hp.at 6 rfl, hp.at 7 rfl, hp.at 8 rfl, hp.old0 hC, hp.old0 hTh, hp.old0 hRf, hp.old0 hRo, trivial⟩ fun hS0 => ?_
    refine WD.v 8 rfl hS0 (fun w hS => (X.mv rfl)) ?_
    refine WD.v 9 rfl hS0 (fun w hS => (X.ext rfl rfl)) ?_
    refine WD.v 10 rfl hS0 (fun w hS => (X.ext rfl rfl)) ?_
    refine WD.v 11 rfl hS0 (fun w hS => (X.ext rfl rfl)) ?_
    refine WD.v 12 rfl hS0 (fun w hS => (X.as rfl)) ?_
    refine WD.v 13 rfl hS0 (fun w hS => (X.as rfl)) ?_
    refine WD.v 14 rfl hS0 (fun w hS => (X.as rfl)) ?_
    refine WD.nil (by kernel_rfl) ?_
    refine X.thenN ?_
    refine W.reg ?_
    refine WL.run 2 rfl ?_
    refine WL.bsl hp (e := 3) (cs := #[.int .i64 ((atT Wo.ws Wo.cs (q.getD i default)).words)]) rfl (fun _ => by kernel_rfl) rfl ?_
    intro b5 w hp
    refine WL.append hp 1 rfl tL35 (zeroT_ex tZ3) tS3 tY3 rfl rfl (view_of_blk (l := [(atT Wo.ws Wo.cs (q.getD i default)).words]) hp 0 rfl encI_len (by omega) rfl (by simp) (by simp)) encI_one (by simp only [List.length_append, List.length_cons, List.length_nil, List.length_map, List.length_take]; omega) rfl ?_
    intro v6 w hp
    refine WL.run 1 rfl ?_
    refine WL.nil ?_
    refine X.inN ?_
    refine X.thenN ?_
    refine W.reg ?_
    refine WL.v (X.add rfl rfl (in64 (by omega))) ?_
    refine WL.run 1 rfl ?_
    refine WL.nil ?_
    refine X.again (i + 1, v6) ⟨rfl, rfl, rfl, rfl, trivial⟩ ?_ ?_
    · exact ⟨by rw [take_getD hlt, List.map_append, List.map_singleton]; exact (hp.sel [1, 2, 3, 4, 5, 6, 7, 8, 9] (by decide)), by omega⟩
    · dsimp only; omega
  refine W.cF rfl (decide_eq_false hc4) ?_
  refine W.exit ?_
  refine X.thenE ?_
  refine X.thenE ?_
  refine X.inH ?_
  refine X.thenN ?_
  refine W.seq ?_
  have hti : q.take i = q := List.take_of_length_le (by omega)
  rw [hti] at hp
  have hr0 := hg.run0 (rt := []) (fun x hx => absurd hx (List.not_mem_nil))
  refine W.reg ?_
  refine WL.run 1 rfl ?_
  refine WL.v (X.ldk (hp.at 1 rfl) tA30 rfl rfl) ?_
  refine WL.run 1 rfl ?_
  refine WL.v (X.ldk (hp.at 1 rfl) tA31 rfl rfl) ?_
  refine WL.run 1 rfl ?_
  refine WL.v (X.ldk (hp.at 1 rfl) tA34 rfl rfl) ?_
  refine WL.run 1 rfl ?_
  refine WL.v (X.ldk (hp.at 1 rfl) tA35 rfl rfl) ?_
  have hp := hp.sel [2, 0, 1, 3, 4, 5, 6, 7, 8] (by decide)
  refine WL.call isFn14 rfl rfl (run_c (l := Wo.sp) (st := q) (rt := []) (hp.at 0 rfl) (hp.at 3 rfl) (foot_dis hp (i := 3) (j := 0) rfl rfl (by decide)) (own_view (hp.at 4 rfl)) (own_view (hp.at 6 rfl)) (view_none encI_len (by omega)) (foot_dis hp (i := 4) (j := 0) rfl rfl (by decide)) (foot_dis hp (i := 6) (j := 0) rfl rfl (by decide)) (by simp [viewR, footV]) (by first | omega | decide) (by first | omega | decide) (by first | omega | decide)) ?_
  intro v w hc hr
  rcases hr with ⟨he9, o7, now8, rfl, hN⟩ | ⟨he9, rfl, hA⟩
  · have hp := Hp.back (Rs := [arenaR p b Wo.ws]) (Rs' := [ownR 3 encI 1 v (q.map fun a => (atT Wo.ws Wo.cs a).words), blkR b3 (.cells (#[.pointer (some ⟨p, 0, none⟩), .pointer (some ⟨t, 0, none⟩), .pointer (some ⟨p, 0, none⟩), .pointer (some ⟨t, 0, none⟩), sp, at_, sy, rt, cv]) 37 (0, 0)), tableR t c0 Wo.cs, ownR 44 encS 3 sp Wo.sp, ownR 3 encI 1 at_ Wo.al, ownR 3 encI 1 sy q, ownR 3 encI 1 rt Wo.roots, blkR b1 (.cells (#[cv, tv, fv, ov, .int .u8 Wo.z0, .int .u8 Wo.z1, .int .u8 Wo.z2]) 28 (0, 0))]) hp hN
    have hp : Hp w0 [] [arenaR p b (slWs Wo.ws Wo.cs Wo.sp q), ownR 3 encI 1 o7 (([]).map fun a => ((slG Wo.ws Wo.cs Wo.sp q) a).getD 0), ownR 44 encS 3 now8 (slNow Wo.ws Wo.cs Wo.sp q), ownR 3 encI 1 v (q.map fun a => (atT Wo.ws Wo.cs a).words), blkR b3 (.cells (#[.pointer (some ⟨p, 0, none⟩), .pointer (some ⟨t, 0, none⟩), .pointer (some ⟨p, 0, none⟩), .pointer (some ⟨t, 0, none⟩), sp, at_, sy, rt, cv]) 37 (0, 0)), tableR t c0 Wo.cs, ownR 44 encS 3 sp Wo.sp, ownR 3 encI 1 at_ Wo.al, ownR 3 encI 1 sy q, ownR 3 encI 1 rt Wo.roots, blkR b1 (.cells (#[cv, tv, fv, ov, .int .u8 Wo.z0, .int .u8 Wo.z1, .int .u8 Wo.z2]) 28 (0, 0))] w := hp
    have hR := hr0.2
    obtain ⟨gt, hWk⟩ := hR.walks hcs
    have hnl : (slNow Wo.ws Wo.cs Wo.sp q).length = 3 := by rw [hR.nlen, hsp3]
    refine WL.run 7 rfl ?_
    refine WL.s ?_
    refine W.sr ?_
    refine WL.run 2 rfl ?_
    refine WL.fin ?_
    refine W.cF rfl (decide_eq_false (by decide)) ?_
    refine W.ks ?_
    refine WL.run 1 rfl ?_
    refine WL.a ?_
    refine WL.run 1 rfl ?_
    refine WL.s ?_
    refine W.seq ?_
    have hp := hp.addNil 3 encI 1 encI_len (by omega)
    refine W.reg ?_
    refine WL.run 1 rfl ?_
    refine WL.v (view_len tL34 (own_view (hp.at 3 rfl)) rfl) ?_
    refine WL.run 1 rfl ?_
    refine WL.fin ?_
    refine W.block ?_
    refine W.loop (X := Nat × Value × Int) (fun x_ => match x_ with | ⟨i, v2, s⟩ => (slNow Wo.ws Wo.cs Wo.sp q).length - i) (fun x_ => match x_ with | ⟨i, v2, s⟩ => [(3, .pointer (some ⟨b3, 0, none⟩)), (5, v), (11, now8), (13, v2), (14, .int .i64 s), (73, .int .i64 ((slNow Wo.ws Wo.cs Wo.sp q).length : Int)), (74, .int .i64 (i : Int))]) (fun x_ w => match x_ with | ⟨i, v2, s⟩ => Hp w0 [] [ownR 3 encI 1 v2 ((catF gt i).map fun a => (atT (slWs Wo.ws Wo.cs Wo.sp q) Wo.cs a).words), arenaR p b (slWs Wo.ws Wo.cs Wo.sp q), ownR 3 encI 1 o7 (([]).map fun a => ((slG Wo.ws Wo.cs Wo.sp q) a).getD 0), ownR 44 encS 3 now8 (slNow Wo.ws Wo.cs Wo.sp q), ownR 3 encI 1 v (q.map fun a => (atT Wo.ws Wo.cs a).words), blkR b3 (.cells (#[.pointer (some ⟨p, 0, none⟩), .pointer (some ⟨t, 0, none⟩), .pointer (some ⟨p, 0, none⟩), .pointer (some ⟨t, 0, none⟩), sp, at_, sy, rt, cv]) 37 (0, 0)), tableR t c0 Wo.cs, ownR 44 encS 3 sp Wo.sp, ownR 3 encI 1 at_ Wo.al, ownR 3 encI 1 sy q, ownR 3 encI 1 rt Wo.roots, blkR b1 (.cells (#[cv, tv, fv, ov, .int .u8 Wo.z0, .int .u8 Wo.z1, .int .u8 Wo.z2]) 28 (0, 0))] w ∧ i ≤ (slNow Wo.ws Wo.cs Wo.sp q).length ∧ s = 0) (0, .slice none 0 0, 0) ⟨rfl, rfl, rfl, rfl, rfl, rfl, rfl, trivial⟩ ?_ ?_
    · exact ⟨hp, by omega, rfl⟩
    rintro ⟨i, v2, s⟩ w ⟨hp, hi, hs0⟩
    refine W.sr ?_
    refine WL.run 1 rfl ?_
    refine WL.s ?_
    by_cases hc11 : (i : Int) < ((slNow Wo.ws Wo.cs Wo.sp q).length : Int)
    · refine W.cT rfl (decide_eq_true hc11) ?_
      refine W.k ?_
      refine W.seq ?_
      refine W.block ?_
      refine W.sr ?_
      refine WL.run 2 rfl ?_
      refine WL.s ?_
      have hil : i < (slNow Wo.ws Wo.cs Wo.sp q).length := by omega
      have hus := hWk.used hil
      have hwk := hWk.walk i hil
      have hw1 : (walk (slWs Wo.ws Wo.cs Wo.sp q) Wo.cs ((slNow Wo.ws Wo.cs Wo.sp q).getD i default).from_ ((slNow Wo.ws Wo.cs Wo.sp q).getD i default).top).1 = 0 := by rw [hwk]
      have hcl := hWk.len hil
      have htl := hR.tlen
      refine W.draw prog_mixed (fun w => (ownR 3 encI 1 v2 ((catF gt i).map fun a => (atT (slWs Wo.ws Wo.cs Wo.sp q) Wo.cs a).words)).ok w ∧ (arenaR p b (slWs Wo.ws Wo.cs Wo.sp q)).ok w ∧ (ownR 3 encI 1 o7 (([]).map fun a => ((slG Wo.ws Wo.cs Wo.sp q) a).getD 0)).ok w ∧ (ownR 44 encS 3 now8 (slNow Wo.ws Wo.cs Wo.sp q)).ok w ∧ (ownR 3 encI 1 v (q.map fun a => (atT Wo.ws Wo.cs a).words)).ok w ∧ (blkR b3 (.cells (#[.pointer (some ⟨p, 0, none⟩), .pointer (some ⟨t, 0, none⟩), .pointer (some ⟨p, 0, none⟩), .pointer (some ⟨t, 0, none⟩), sp, at_, sy, rt, cv]) 37 (0, 0))).ok w ∧ (tableR t c0 Wo.cs).ok w ∧ (ownR 44 encS 3 sp Wo.sp).ok w ∧ (ownR 3 encI 1 at_ Wo.al).ok w ∧ (ownR 3 encI 1 sy q).ok w ∧ (ownR 3 encI 1 rt Wo.roots).ok w ∧ (blkR b1 (.cells (#[cv, tv, fv, ov, .int .u8 Wo.z0, .int .u8 Wo.z1, .int .u8 Wo.z2]) 28 (0, 0))).ok w ∧ (viewR clsV 4 cv Wo.cs).ok w ∧ (viewR encTh 4 tv Wo.ths).ok w ∧ (viewR encR3 3 fv Wo.rfs).ok w ∧ (viewR encU8 1 ov Wo.ros).ok w ∧ True) hp ?_
      intro w hp
      refine WD.s ⟨hp.at 0 rfl, hp.at 1 rfl, hp.at 2 rfl, hp.at 3 rfl, hp.at 4 rfl, hp.at 5 rfl, hp.at 6 rfl, hp.at 7 rfl, hp.at 8 rfl, hp.at 9 rfl, hp.at 10 rfl, hp.at 11 rfl, hp.old0 hC, hp.old0 hTh, hp.old0 hRf, hp.old0 hRo, trivial⟩ fun hS0 => ?_
      refine WD.v 0 rfl hS0 (fun w hS => (X.fa (r := 2) tF37_2 rfl rfl)) ?_
      refine WD.v 1 rfl hS0 (fun w hS => (X.ldkA hS.2.2.2.2.2.1 tA33 tS33 (vs := [.pointer (some ⟨p, 0, none⟩), .pointer (some ⟨t, 0, none⟩)]) rfl rfl)) ?_
      refine WD.v 2 rfl hS0 (fun w hS => (X.mv rfl)) ?_
      refine WD.v 3 rfl hS0 (fun w hS => (X.mv rfl)) ?_
      refine WD.v 4 rfl hS0 (fun w hS => (X.idxV (j := i) (r := offOf now8 + i * 3) tL34 tS44 (own_view hS.2.2.2.1) rfl rfl (by omega) (by omega) rfl)) ?_
      refine WD.v 5 rfl hS0 (fun w hS => (X.fa (r := offOf now8 + i * 3) tF44_0 rfl rfl)) ?_
      refine WD.v 6 rfl hS0 (fun w hS => (X.ld1 tA3 rfl (view_cell (j := i) (f := 0) (own_view hS.2.2.2.1) (get_some (by omega)) rfl (by omega)))) ?_
      refine WD.v 7 rfl hS0 (fun w hS => (X.mv rfl)) ?_
      refine WD.v 8 rfl hS0 (fun w hS => (X.mv rfl)) ?_
      refine WD.v 9 rfl hS0 (fun w hS => (X.idxV (j := i) (r := offOf now8 + i * 3) tL34 tS44 (own_view hS.2.2.2.1) rfl rfl (by omega) (by omega) rfl)) ?_
      refine WD.v 10 rfl hS0 (fun w hS => (X.fa (r := offOf now8 + i * 3 + 1) tF44_1 rfl rfl)) ?_
      refine WD.v 11 rfl hS0 (fun w hS => (X.ld1 tA3 rfl (view_cell (j := i) (f := 1) (own_view hS.2.2.2.1) (get_some (by omega)) rfl (by omega)))) ?_
      refine WD.one 12 (by kernel_rfl) ?_
      refine WO.call rfl isFn18 rfl rfl (walk_c (fr := ((slNow Wo.ws Wo.cs Wo.sp q).getD i default).from_) (to := ((slNow Wo.ws Wo.cs Wo.sp q).getD i default).top) (hp.at 1 rfl) (hp.at 6 rfl) (by omega) (by omega)) ?_
      intro v w hc hr
      rcases hr with ⟨hw12, s13, rfl, hN⟩ | ⟨hw12, rfl⟩
      · have hp := hp.newN hc hN
        refine andS ⟨hp.at 1 rfl, hp.at 2 rfl, hp.at 3 rfl, hp.at 4 rfl, hp.at 5 rfl, hp.at 6 rfl, hp.at 7 rfl, hp.at 8 rfl, hp.at 9 rfl, hp.at 10 rfl, hp.at 11 rfl, hp.at 12 rfl, hp.old0 hC, hp.old0 hTh, hp.old0 hRf, hp.old0 hRo, trivial⟩ fun hS0 => ?_
        refine WD.v 13 rfl hS0 (fun w hS => (X.mv rfl)) ?_
        refine WD.v 14 rfl hS0 (fun w hS => (X.ext rfl rfl)) ?_
        refine WD.v 15 rfl hS0 (fun w hS => (X.ext rfl rfl)) ?_
        refine WD.v 16 rfl hS0 (fun w hS => (X.as rfl)) ?_
        refine WD.v 17 rfl hS0 (fun w hS => (X.as rfl)) ?_
        refine WD.nil (by kernel_rfl) ?_
        refine X.thenN ?_
        refine W.seq ?_
        have hw2 : (walk (slWs Wo.ws Wo.cs Wo.sp q) Wo.cs (((slNow Wo.ws Wo.cs Wo.sp q).getD i default).from_) (((slNow Wo.ws Wo.cs Wo.sp q).getD i default).top)).2 = gt i := by rw [hwk]
        rw [hw2] at hp
        refine W.reg ?_
        refine WL.run 3 rfl ?_
        refine WL.v (X.idxV (j := i) (r := offOf now8 + i * 3) tL34 tS44 (own_view (hp.at 4 rfl)) rfl rfl (by omega) (by omega) rfl) ?_
        refine WL.v (X.ldA tA44 tS44 rfl (cs := [.int .i64 (((slNow Wo.ws Wo.cs Wo.sp q).getD i default).from_), .int .i64 (((slNow Wo.ws Wo.cs Wo.sp q).getD i default).top), .int .i64 (((slNow Wo.ws Wo.cs Wo.sp q).getD i default).end_)]) (view_cells (own_view (hp.at 4 rfl)) (get_some (by omega)) (by omega))) ?_
        refine WL.call isFn20 rfl rfl (spUsed_c (s := ((slNow Wo.ws Wo.cs Wo.sp q).getD i default))) ?_
        intro v w hc hr
        obtain rfl := hr
        have hp := hp.ext hc
        refine WL.v (X.add rfl rfl (in64 (by omega))) ?_
        refine WL.run 1 rfl ?_
        refine WL.a ?_
        refine WL.run 1 rfl ?_
        refine WL.v (view_len tL35 (own_view (hp.at 0 rfl)) rfl) ?_
        refine WL.run 1 rfl ?_
        refine WL.fin ?_
        refine W.block ?_
        refine W.loop (X := Nat × Value × Int) (fun x_ => match x_ with | ⟨k, v3, s2⟩ => (gt i).length - k) (fun x_ => match x_ with | ⟨k, v3, s2⟩ => [(3, .pointer (some ⟨b3, 0, none⟩)), (5, v), (11, now8), (16, s13), (73, .int .i64 ((slNow Wo.ws Wo.cs Wo.sp q).length : Int)), (74, .int .i64 (i : Int)), (13, v3), (14, .int .i64 s2), (101, .int .i64 ((gt i).length : Int)), (102, .int .i64 (k : Int))]) (fun x_ w => match x_ with | ⟨k, v3, s2⟩ => Hp w0 [] [ownR 3 encI 1 v3 ((catF gt i ++ (gt i).take k).map fun a => (atT (slWs Wo.ws Wo.cs Wo.sp q) Wo.cs a).words), ownR 3 encI 1 s13 ((gt i)), arenaR p b (slWs Wo.ws Wo.cs Wo.sp q), ownR 3 encI 1 o7 (([]).map fun a => ((slG Wo.ws Wo.cs Wo.sp q) a).getD 0), ownR 44 encS 3 now8 (slNow Wo.ws Wo.cs Wo.sp q), ownR 3 encI 1 v (q.map fun a => (atT Wo.ws Wo.cs a).words), blkR b3 (.cells (#[.pointer (some ⟨p, 0, none⟩), .pointer (some ⟨t, 0, none⟩), .pointer (some ⟨p, 0, none⟩), .pointer (some ⟨t, 0, none⟩), sp, at_, sy, rt, cv]) 37 (0, 0)), tableR t c0 Wo.cs, ownR 44 encS 3 sp Wo.sp, ownR 3 encI 1 at_ Wo.al, ownR 3 encI 1 sy q, ownR 3 encI 1 rt Wo.roots, blkR b1 (.cells (#[cv, tv, fv, ov, .int .u8 Wo.z0, .int .u8 Wo.z1, .int .u8 Wo.z2]) 28 (0, 0))] w ∧ k ≤ (gt i).length ∧ s2 = spUsed ((slNow Wo.ws Wo.cs Wo.sp q).getD i default) - (((gt i).take k).map (wordsAt (slWs Wo.ws Wo.cs Wo.sp q) Wo.cs)).sum) (0, v2, s + (spUsed ((slNow Wo.ws Wo.cs Wo.sp q).getD i default))) ⟨rfl, rfl, rfl, rfl, rfl, rfl, rfl, rfl, rfl, rfl, trivial⟩ ?_ ?_
        · exact ⟨by rw [List.take_zero, List.append_nil]; exact (hp.sel [1, 0, 2, 3, 4, 5, 6, 7, 8, 9, 10, 11, 12] (by decide)), by omega, by simp; omega⟩
        rintro ⟨k, v3, s2⟩ w ⟨hp, hk, hs2⟩
        refine W.sr ?_
        refine WL.run 1 rfl ?_
        refine WL.s ?_
        by_cases hc14 : (k : Int) < ((gt i).length : Int)
        · refine W.cT rfl (decide_eq_true hc14) ?_
          refine W.k ?_
          refine W.seq ?_
          refine W.block ?_
          refine W.sr ?_
          refine WL.run 2 rfl ?_
          refine WL.s ?_
          have hkl : k < (gt i).length := by omega
          have hon := hWk.one hcs hil hkl
          have hpk := hWk.part hcs hil k
          have hpk2 := hWk.part hcs hil (k + 1)
          have hgl := view_len_le (own_view (hp.at 1 rfl))
          refine W.draw prog_mixed (fun w => (ownR 3 encI 1 v3 ((catF gt i ++ (gt i).take k).map fun a => (atT (slWs Wo.ws Wo.cs Wo.sp q) Wo.cs a).words)).ok w ∧ (ownR 3 encI 1 s13 ((gt i))).ok w ∧ (arenaR p b (slWs Wo.ws Wo.cs Wo.sp q)).ok w ∧ (ownR 3 encI 1 o7 (([]).map fun a => ((slG Wo.ws Wo.cs Wo.sp q) a).getD 0)).ok w ∧ (ownR 44 encS 3 now8 (slNow Wo.ws Wo.cs Wo.sp q)).ok w ∧ (ownR 3 encI 1 v (q.map fun a => (atT Wo.ws Wo.cs a).words)).ok w ∧ (blkR b3 (.cells (#[.pointer (some ⟨p, 0, none⟩), .pointer (some ⟨t, 0, none⟩), .pointer (some ⟨p, 0, none⟩), .pointer (some ⟨t, 0, none⟩), sp, at_, sy, rt, cv]) 37 (0, 0))).ok w ∧ (tableR t c0 Wo.cs).ok w ∧ (ownR 44 encS 3 sp Wo.sp).ok w ∧ (ownR 3 encI 1 at_ Wo.al).ok w ∧ (ownR 3 encI 1 sy q).ok w ∧ (ownR 3 encI 1 rt Wo.roots).ok w ∧ (blkR b1 (.cells (#[cv, tv, fv, ov, .int .u8 Wo.z0, .int .u8 Wo.z1, .int .u8 Wo.z2]) 28 (0, 0))).ok w ∧ (viewR clsV 4 cv Wo.cs).ok w ∧ (viewR encTh 4 tv Wo.ths).ok w ∧ (viewR encR3 3 fv Wo.rfs).ok w ∧ (viewR encU8 1 ov Wo.ros).ok w ∧ True) hp ?_
          intro w hp
          refine WD.s ⟨hp.at 0 rfl, hp.at 1 rfl, hp.at 2 rfl, hp.at 3 rfl, hp.at 4 rfl, hp.at 5 rfl, hp.at 6 rfl, hp.at 7 rfl, hp.at 8 rfl, hp.at 9 rfl, hp.at 10 rfl, hp.at 11 rfl, hp.at 12 rfl, hp.old0 hC, hp.old0 hTh, hp.old0 hRf, hp.old0 hRo, trivial⟩ fun hS0 => ?_
          refine WD.v 0 rfl hS0 (fun w hS => (X.fa (r := 2) tF37_2 rfl rfl)) ?_
          refine WD.v 1 rfl hS0 (fun w hS => (X.ldkA hS.2.2.2.2.2.2.1 tA33 tS33 (vs := [.pointer (some ⟨p, 0, none⟩), .pointer (some ⟨t, 0, none⟩)]) rfl rfl)) ?_
          refine WD.v 2 rfl hS0 (fun w hS => (X.mv rfl)) ?_
          refine WD.v 3 rfl hS0 (fun w hS => (X.mv rfl)) ?_
          refine WD.v 4 rfl hS0 (fun w hS => (X.idxV (j := k) (r := offOf s13 + k * 1) tL35 tS3 (own_view hS.2.1) rfl rfl (by omega) (by omega) rfl)) ?_
          refine WD.v 5 rfl hS0 (fun w hS => (X.ld1 tA3 rfl (view_cell (j := k) (f := 0) (own_view hS.2.1) (get_some (by omega)) rfl (by omega)))) ?_
          refine WD.one 6 (by kernel_rfl) ?_
          refine WO.call rfl isFn21 rfl rfl (size_c (a := ((gt i).getD k default)) (hp.at 2 rfl) (hp.at 7 rfl)) ?_
          intro v w hc hr
          obtain rfl := hr
          have hp := hp.ext hc
          refine andS ⟨hp.at 0 rfl, hp.at 1 rfl, hp.at 2 rfl, hp.at 3 rfl, hp.at 4 rfl, hp.at 5 rfl, hp.at 6 rfl, hp.at 7 rfl, hp.at 8 rfl, hp.at 9 rfl, hp.at 10 rfl, hp.at 11 rfl, hp.at 12 rfl, hp.old0 hC, hp.old0 hTh, hp.old0 hRf, hp.old0 hRo, trivial⟩ fun hS0 => ?_
          refine WD.v 7 rfl hS0 (fun w hS => (X.mv rfl)) ?_
          refine WD.v 8 rfl hS0 (fun w hS => (X.ext rfl rfl)) ?_
          refine WD.v 9 rfl hS0 (fun w hS => (X.ext rfl rfl)) ?_
          refine WD.v 10 rfl hS0 (fun w hS => (X.ext rfl rfl)) ?_
          refine WD.v 11 rfl hS0 (fun w hS => (X.as rfl)) ?_
          refine WD.v 12 rfl hS0 (fun w hS => (X.as rfl)) ?_
          refine WD.v 13 rfl hS0 (fun w hS => (X.as rfl)) ?_
          refine WD.nil (by kernel_rfl) ?_
          refine X.thenN ?_
          refine W.seq ?_
          refine W.sr ?_
          refine WL.run 2 rfl ?_
          refine WL.fin ?_
          have hc15 : ((atT (slWs Wo.ws Wo.cs Wo.sp q) Wo.cs ((gt i).getD k default)).hd.cls) ≠ 0 := hon.1
          refine W.cF rfl (congrArg not (decide_eq_true hc15)) ?_
          refine W.ks ?_
          refine WL.run 2 rfl ?_
          refine WL.bsl hp (e := 3) (cs := #[.int .i64 ((atT (slWs Wo.ws Wo.cs Wo.sp q) Wo.cs ((gt i).getD k default)).words)]) rfl (fun _ => by kernel_rfl) rfl ?_
          intro b16 w hp
          refine WL.append hp 1 rfl tL35 (zeroT_ex tZ3) tS3 tY3 rfl rfl (view_of_blk (l := [(atT (slWs Wo.ws Wo.cs Wo.sp q) Wo.cs ((gt i).getD k default)).words]) hp 0 rfl encI_len (by omega) rfl (by simp) (by simp)) encI_one (by simp only [List.length_append, List.length_cons, List.length_nil, List.length_map, List.length_take]; omega) rfl ?_
          intro v17 w hp
          refine WL.run 1 rfl ?_
          refine WL.b ?_
          refine WL.run 2 rfl ?_
          refine WL.v (X.sub rfl rfl (in64 (by omega))) ?_
          refine WL.run 1 rfl ?_
          refine WL.nil ?_
          refine X.inN ?_
          refine X.thenN ?_
          refine W.reg ?_
          refine WL.v (X.add rfl rfl (in64 (by omega))) ?_
          refine WL.run 1 rfl ?_
          refine WL.nil ?_
          refine X.again (k + 1, v17, s2 - ((atT (slWs Wo.ws Wo.cs Wo.sp q) Wo.cs ((gt i).getD k default)).words)) ⟨rfl, rfl, rfl, rfl, rfl, rfl, rfl, rfl, rfl, rfl, trivial⟩ ?_ ?_
          · exact ⟨by rw [take_getD hkl, ← List.append_assoc, List.map_append, List.map_singleton]; exact (hp.sel [1, 2, 3, 4, 5, 6, 7, 8, 9, 10, 11, 12, 13] (by decide)), by omega, by omega⟩
          · dsimp only; omega
        refine W.cF rfl (decide_eq_false hc14) ?_
        refine W.exit ?_
        refine X.thenE ?_
        refine X.thenE ?_
        refine X.inH ?_
        refine X.inN ?_
        refine X.thenN ?_
        refine W.reg ?_
        refine WL.v (X.add rfl rfl (in64 (by omega))) ?_
        refine WL.run 1 rfl ?_
        refine WL.nil ?_
        refine X.again (i + 1, v3, s2) ⟨rfl, rfl, rfl, rfl, rfl, rfl, rfl, trivial⟩ ?_ ?_
        · have hke : (gt i).take k = gt i := List.take_of_length_le (by omega)
          rw [hke] at hp hs2
          exact ⟨(hp.sel [0, 2, 3, 4, 5, 6, 7, 8, 9, 10, 11, 12] (by decide)), by omega, by omega⟩
        · dsimp only; omega
      (try simp only [fillW_length, moveW_length, List.length_set] at hw12); first | contradiction | (exfalso; omega) | (exfalso; simp_all; done)
    refine W.cF rfl (decide_eq_false hc11) ?_
    refine W.exit ?_
    refine X.thenE ?_
    refine X.thenE ?_
    refine X.inH ?_
    refine X.thenN ?_
    refine W.sr ?_
    refine WL.run 3 rfl ?_
    have hc18 : s = 0 := hs0
    refine WL.g1 rfl rfl (decide_eq_true hc18) ?_
    refine WL.run 1 rfl ?_
    refine WL.g1 rfl rfl (decide_eq_true hc18) ?_
    refine WL.run 1 rfl ?_
    refine WL.g1 rfl rfl (decide_eq_true hc18) ?_
    refine WL.call isFn15 rfl rfl (same_c (own_view (hp.at 4 rfl)) (own_view (hp.at 0 rfl))) ?_
    intro v w hc hr
    obtain rfl := hr
    have hp := hp.ext hc
    refine WL.v (X.pkT rfl (decide_eq_true hc18) rfl) ?_
    refine WL.run 1 rfl ?_
    refine WL.fin ?_
    refine W.ret ?_
    refine W.done hp (rs := [.tmp 2]) (vs := [.bool (sameB (q.map fun a => (atT Wo.ws Wo.cs a).words) ((catF gt i).map fun a => (atT (slWs Wo.ws Wo.cs Wo.sp q) Wo.cs a).words))]) (v := .bool (sameB (q.map fun a => (atT Wo.ws Wo.cs a).words) ((catF gt i).map fun a => (atT (slWs Wo.ws Wo.cs Wo.sp q) Wo.cs a).words))) rfl ⟨rfl, trivial⟩ rfl ?_
    have hsz := hR.sizes hcs
    rw [← hWk.cat] at hsz
    have hie : i = (slNow Wo.ws Wo.cs Wo.sp q).length := by omega
    rw [hie]
    exact congrArg Value.bool hsz
  exact absurd hr0.1 he9
end Go.Proofs.Ytmmmbkmjkpfleaa
