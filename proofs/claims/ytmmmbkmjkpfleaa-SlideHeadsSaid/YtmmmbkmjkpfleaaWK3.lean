/- Walks, printed by gen.py from the specs K3: what each function answers. No statement of the seat is proved here; conditions: each theorem's own. -/
import Derived.Test.YtmmmbkmjkpfleaaPureS
import Derived.Test.YtmmmbkmjkpfleaaResI
import Derived.Test.YtmmmbkmjkpfleaaWJ
namespace Go.Proofs.Ytmmmbkmjkpfleaa
open Go Go.RowKit

set_option maxHeartbeats 4000000 in
theorem SlideHeads_c {w0 : World} {cv tv fv ov : Value} {Wo : Wd} (hC : (viewR clsV 4 cv Wo.cs).ok w0) (hTh : (viewR encTh 4 tv Wo.ths).ok w0) (hRf : (viewR encR3 3 fv Wo.rfs).ok w0) (hRo : (viewR encU8 1 ov Wo.ros).ok w0) (hWb : Wo.Bd)  :
    Calls Try.prog 4 #[.agg #[cv, tv, fv, ov, .int .u8 Wo.z0, .int .u8 Wo.z1, .int .u8 Wo.z2]] w0 (Ret [] w0 (fun v _ => v = .bool true)) := by
  have hp : Hp w0 [] [] w0 := Hp.init w0
  refine enter (vs := [.agg #[cv, tv, fv, ov, .int .u8 Wo.z0, .int .u8 Wo.z1, .int .u8 Wo.z2]]) Try.func4 rfl rfl rfl ?_
  refine gen_world hp ?_
  intro w hp
  refine W.sr ?_
  refine WL.box hp rfl (cs := #[cv, tv, fv, ov, .int .u8 Wo.z0, .int .u8 Wo.z1, .int .u8 Wo.z2]) rfl rfl ?_
  intro b1 w hp
  refine WL.run 1 rfl ?_
  refine WL.a ?_
  refine WL.v (X.ldkA (hp.at 0 rfl) tA28 tS28 (vs := [cv, tv, fv, ov, .int .u8 Wo.z0, .int .u8 Wo.z1, .int .u8 Wo.z2]) rfl rfl) ?_
  refine WL.call isFn8 rfl rfl (made16_c (cs := Wo.cs) (ths := Wo.ths) (rfs := Wo.rfs) (ros := Wo.ros) (hp.old0 hC) (hp.old0 hTh) (hp.old0 hRf) (hp.old0 hRo) hWb.th hWb.rf hWb.ro hWb.z0 hWb.z1 hWb.z2) ?_
  intro v w hc hr
  rcases hr with rfl | ⟨hok, p, b, t, c0, sp, at_, sy, rt, q, hst, rfl, hN⟩
  · have hp := hp.ext hc
    refine WL.run 3 rfl ?_
    refine WL.alloc hp tZ37 rfl ?_
    intro b2 w hp
    refine WL.store hp 0 rfl tS37 rfl rfl (vs := [.pointer none, .pointer none, .pointer none, .pointer none, .slice none 0 0, .slice none 0 0, .slice none 0 0, .slice none 0 0, .slice none 0 0]) rfl rfl rfl (new := #[.pointer none, .pointer none, .pointer none, .pointer none, .slice none 0 0, .slice none 0 0, .slice none 0 0, .slice none 0 0, .slice none 0 0]) rfl ?_
    intro w hp
    refine WL.run 1 rfl ?_
    refine WL.s ?_
    refine W.sr ?_
    refine WL.call isFn9 rfl rfl awake_c ?_
    intro v w hc hr
    obtain rfl := hr
    have hp := hp.ext hc
    refine WL.run 2 rfl ?_
    refine WL.g1 rfl rfl rfl ?_
    refine WL.run 1 rfl ?_
    refine WL.g1 rfl rfl rfl ?_
    refine WL.run 1 rfl ?_
    refine WL.v (X.pkF rfl rfl rfl) ?_
    refine WL.fin ?_
    refine W.cT rfl rfl ?_
    refine W.sr ?_
    refine WL.call isFn9 rfl rfl awake_c ?_
    intro v w hc hr
    obtain rfl := hr
    have hp := hp.ext hc
    refine WL.run 1 rfl ?_
    refine WL.fin ?_
    refine W.ret ?_
    refine X.thenR ?_
    refine W.done hp (rs := [.tmp 2]) (vs := [.bool true]) (v := .bool true) rfl ⟨rfl, trivial⟩ rfl ?_
    exact rfl
  have hp := hp.adds hN
  have hp : Hp w0 [] [arenaR p b Wo.ws, tableR t c0 Wo.cs, ownR 44 encS 3 sp Wo.sp, ownR 3 encI 1 at_ Wo.al, ownR 3 encI 1 sy q, ownR 3 encI 1 rt Wo.roots, blkR b1 (.cells (#[cv, tv, fv, ov, .int .u8 Wo.z0, .int .u8 Wo.z1, .int .u8 Wo.z2]) 28 (0, 0))] w := hp
  have hg : Wo.Good q := Wd.good hWb hok hst
  have hcs := hg.hcs
  have hql := hg.qlen
  have hrl := hg.rlen
  have hal := hg.allen
  have hlen5 := hg.inv.len
  have hsp3 := hg.inv.sp3
  refine WL.run 3 rfl ?_
  refine WL.alloc hp tZ37 rfl ?_
  intro b3 w hp
  refine WL.store hp 0 rfl tS37 rfl rfl (vs := [.pointer (some ⟨p, 0, none⟩), .pointer (some ⟨t, 0, none⟩), .pointer (some ⟨p, 0, none⟩), .pointer (some ⟨t, 0, none⟩), sp, at_, sy, rt, cv]) rfl (by first | (simp only [List.all_cons, List.all_nil, Bool.and_true, view_one (own_view (hp.at 3 rfl)), view_one (own_view (hp.at 4 rfl)), view_one (own_view (hp.at 5 rfl)), view_one (own_view (hp.at 6 rfl)), view_one (hp.old0 hC)]; done) | (simp only [List.all_cons, List.all_nil, Bool.and_true, one_int, one_bool, one_ptr, one_map, one_sl, view_one (own_view (hp.at 3 rfl)), view_one (own_view (hp.at 4 rfl)), view_one (own_view (hp.at 5 rfl)), view_one (own_view (hp.at 6 rfl)), view_one (hp.old0 hC)]; done) | simp [Value.oneCell', view_one (own_view (hp.at 3 rfl)), view_one (own_view (hp.at 4 rfl)), view_one (own_view (hp.at 5 rfl)), view_one (own_view (hp.at 6 rfl)), view_one (hp.old0 hC)]) rfl (new := #[.pointer (some ⟨p, 0, none⟩), .pointer (some ⟨t, 0, none⟩), .pointer (some ⟨p, 0, none⟩), .pointer (some ⟨t, 0, none⟩), sp, at_, sy, rt, cv]) rfl ?_
  intro w hp
  refine WL.run 1 rfl ?_
  refine WL.s ?_
  refine W.sr ?_
  refine WL.call isFn9 rfl rfl awake_c ?_
  intro v w hc hr
  obtain rfl := hr
  have hp := hp.ext hc
  refine WL.run 2 rfl ?_
  refine WL.g1 rfl rfl rfl ?_
  refine WL.run 1 rfl ?_
  refine WL.g1 rfl rfl rfl ?_
  refine WL.run 1 rfl ?_
  refine WL.v (X.pkF rfl rfl rfl) ?_
  refine WL.fin ?_
  refine W.cF rfl rfl ?_
  refine W.ks ?_
  refine WL.run 1 rfl ?_
  refine WL.s ?_
  refine W.seq ?_
  have hp := hp.addNil 60 encH 6 encH_len (by omega)
  refine W.reg ?_
  refine WL.run 1 rfl ?_
  refine WL.v (X.ldk (hp.at 1 rfl) tA35 rfl rfl) ?_
  refine WL.v (view_len tL35 (own_view (hp.at 6 rfl)) rfl) ?_
  refine WL.run 1 rfl ?_
  refine WL.fin ?_
  refine W.block ?_
  refine W.loop (X := Nat × Value) (fun x_ => match x_ with | ⟨i, v⟩ => q.length - i) (fun x_ => match x_ with | ⟨i, v⟩ => [(3, .pointer (some ⟨b3, 0, none⟩)), (5, v), (33, .int .i64 (q.length : Int)), (34, .int .i64 (i : Int))]) (fun x_ w => match x_ with | ⟨i, v⟩ => Hp w0 [] [ownR 60 encH 6 v (headsL Wo.ws Wo.cs (q.take i)), arenaR p b (fwdW Wo.ws Wo.cs q i), blkR b3 (.cells (#[.pointer (some ⟨p, 0, none⟩), .pointer (some ⟨t, 0, none⟩), .pointer (some ⟨p, 0, none⟩), .pointer (some ⟨t, 0, none⟩), sp, at_, sy, rt, cv]) 37 (0, 0)), tableR t c0 Wo.cs, ownR 44 encS 3 sp Wo.sp, ownR 3 encI 1 at_ Wo.al, ownR 3 encI 1 sy q, ownR 3 encI 1 rt Wo.roots, blkR b1 (.cells (#[cv, tv, fv, ov, .int .u8 Wo.z0, .int .u8 Wo.z1, .int .u8 Wo.z2]) 28 (0, 0))] w ∧ i ≤ q.length ∧ FwdInv Wo.ws Wo.cs Wo.sp Wo.al q i) (0, .slice none 0 0) ⟨rfl, rfl, rfl, rfl, trivial⟩ ?_ ?_
  · exact ⟨(hp.sel [0, 2, 1, 3, 4, 5, 6, 7, 8] (by decide)), by omega, FwdInv.start hcs hg.inv hg.st.sub⟩
  rintro ⟨i, v⟩ w ⟨hp, hi, hfi⟩
  refine W.sr ?_
  refine WL.run 1 rfl ?_
  refine WL.s ?_
  by_cases hc4 : (i : Int) < (q.length : Int)
  · refine W.cT rfl (decide_eq_true hc4) ?_
    refine W.k ?_
    refine W.seq ?_
    refine W.block ?_
    refine W.seq ?_
    have hlt : i < q.length := by omega
    have hfn := hfi.next hcs hg.st.sub hg.st.nd hlt hql
    have hhd := fwd_clr hfi hlt
    refine W.reg ?_
    refine WL.run 2 rfl ?_
    refine WL.fin ?_
    refine W.seqCut (X := Nat) (fun bh => [(3, .pointer (some ⟨b3, 0, none⟩)), (5, v), (6, .int .i64 (i : Int)), (33, .int .i64 (q.length : Int)), (34, .int .i64 (i : Int)), (7, .pointer (some ⟨bh, 0, none⟩))]) (fun bh w => Hp w0 [] [blkR bh (.cells (#[.int .i64 ((objT (fwdW Wo.ws Wo.cs q i) Wo.cs (q.getD i default)).hd.cls), .int .i64 ((objT (fwdW Wo.ws Wo.cs q i) Wo.cs (q.getD i default)).hd.age), .int .i64 ((objT (fwdW Wo.ws Wo.cs q i) Wo.cs (q.getD i default)).hd.fwd), .bool ((objT (fwdW Wo.ws Wo.cs q i) Wo.cs (q.getD i default)).hd.mark), .bool ((objT (fwdW Wo.ws Wo.cs q i) Wo.cs (q.getD i default)).hd.final), .bool ((objT (fwdW Wo.ws Wo.cs q i) Wo.cs (q.getD i default)).hd.done)]) 56 (0, 0)), ownR 60 encH 6 v (headsL Wo.ws Wo.cs (q.take i)), arenaR p b (fwdW Wo.ws Wo.cs q i), blkR b3 (.cells (#[.pointer (some ⟨p, 0, none⟩), .pointer (some ⟨t, 0, none⟩), .pointer (some ⟨p, 0, none⟩), .pointer (some ⟨t, 0, none⟩), sp, at_, sy, rt, cv]) 37 (0, 0)), tableR t c0 Wo.cs, ownR 44 encS 3 sp Wo.sp, ownR 3 encI 1 at_ Wo.al, ownR 3 encI 1 sy q, ownR 3 encI 1 rt Wo.roots, blkR b1 (.cells (#[cv, tv, fv, ov, .int .u8 Wo.z0, .int .u8 Wo.z1, .int .u8 Wo.z2]) 28 (0, 0))] w) ?_ ?_
    · refine W.draw prog_mixed (fun w => (ownR 60 encH 6 v (headsL Wo.ws Wo.cs (q.take i))).ok w ∧ (arenaR p b (fwdW Wo.ws Wo.cs q i)).ok w ∧ (blkR b3 (.cells (#[.pointer (some ⟨p, 0, none⟩), .pointer (some ⟨t, 0, none⟩), .pointer (some ⟨p, 0, none⟩), .pointer (some ⟨t, 0, none⟩), sp, at_, sy, rt, cv]) 37 (0, 0))).ok w ∧ (tableR t c0 Wo.cs).ok w ∧ (ownR 44 encS 3 sp Wo.sp).ok w ∧ (ownR 3 encI 1 at_ Wo.al).ok w ∧ (ownR 3 encI 1 sy q).ok w ∧ (ownR 3 encI 1 rt Wo.roots).ok w ∧ (blkR b1 (.cells (#[cv, tv, fv, ov, .int .u8 Wo.z0, .int .u8 Wo.z1, .int .u8 Wo.z2]) 28 (0, 0))).ok w ∧ (viewR clsV 4 cv Wo.cs).ok w ∧ (viewR encTh 4 tv Wo.ths).ok w ∧ (viewR encR3 3 fv Wo.rfs).ok w ∧ (viewR encU8 1 ov Wo.ros).ok w ∧ True) hp ?_
      intro w hp
      refine WD.s ⟨hp.at 0 rfl, hp.at 1 rfl, hp.at 2 rfl, hp.at 3 rfl, hp.at 4 rfl, hp.at 5 rfl, hp.at 6 rfl, hp.at 7 rfl, hp.at 8 rfl, hp.old0 hC, hp.old0 hTh, hp.old0 hRf, hp.old0 hRo, trivial⟩ fun hS0 => ?_
      refine WD.v 0 rfl hS0 (fun w hS => (X.fa (r := 2) tF37_2 rfl rfl)) ?_
      refine WD.v 1 rfl hS0 (fun w hS => (X.ldkA hS.2.2.1 tA33 tS33 (vs := [.pointer (some ⟨p, 0, none⟩), .pointer (some ⟨t, 0, none⟩)]) rfl rfl)) ?_
      refine WD.v 2 rfl hS0 (fun w hS => (X.fa (r := 6) tF37_5 rfl rfl)) ?_
      refine WD.v 3 rfl hS0 (fun w hS => (X.ldk hS.2.2.1 tA35 rfl rfl)) ?_
      refine WD.v 4 rfl hS0 (fun w hS => (X.mv rfl)) ?_
      refine WD.v 5 rfl hS0 (fun w hS => (X.idxV (j := i) (r := offOf sy + i * 1) tL35 tS3 (own_view hS.2.2.2.2.2.2.1) rfl rfl (by omega) (by omega) rfl)) ?_
      refine WD.v 6 rfl hS0 (fun w hS => (X.ld1 tA3 rfl (view_cell (j := i) (f := 0) (own_view hS.2.2.2.2.2.2.1) (get_some (by omega)) rfl (by omega)))) ?_
      refine WD.two 7 11 (by kernel_rfl) ?_ ?_
      · refine WO.call rfl isFn16 rfl rfl (head_c (a := (q.getD i default)) (hp.at 1 rfl) (hp.at 3 rfl)) ?_
        intro v w hc hr
        obtain rfl := hr
        have hp := hp.ext hc
        refine andS ⟨hp.at 0 rfl, hp.at 1 rfl, hp.at 2 rfl, hp.at 3 rfl, hp.at 4 rfl, hp.at 5 rfl, hp.at 6 rfl, hp.at 7 rfl, hp.at 8 rfl, hp.old0 hC, hp.old0 hTh, hp.old0 hRf, hp.old0 hRo, trivial⟩ fun hS0 => ?_
        refine WD.v 8 rfl hS0 (fun w hS => (X.mv rfl)) ?_
        refine WD.v 9 rfl hS0 (fun w hS => (X.ext rfl rfl)) ?_
        refine WD.v 10 rfl hS0 (fun w hS => (X.ext rfl rfl)) ?_
        refine WD.one 11 (by kernel_rfl) ?_
        refine WO.alloc hp rfl tZ56 rfl ?_
        intro b5 w hp
        refine andS ⟨hp.at 1 rfl, hp.at 2 rfl, hp.at 3 rfl, hp.at 4 rfl, hp.at 5 rfl, hp.at 6 rfl, hp.at 7 rfl, hp.at 8 rfl, hp.at 9 rfl, hp.old0 hC, hp.old0 hTh, hp.old0 hRf, hp.old0 hRo, trivial⟩ fun hS0 => ?_
        refine WD.one 12 (by kernel_rfl) ?_
        refine WO.store hp 0 rfl rfl tS56 rfl rfl (vs := [.int .i64 ((objT (fwdW Wo.ws Wo.cs q i) Wo.cs (q.getD i default)).hd.cls), .int .i64 ((objT (fwdW Wo.ws Wo.cs q i) Wo.cs (q.getD i default)).hd.age), .int .i64 ((objT (fwdW Wo.ws Wo.cs q i) Wo.cs (q.getD i default)).hd.fwd), .bool ((objT (fwdW Wo.ws Wo.cs q i) Wo.cs (q.getD i default)).hd.mark), .bool ((objT (fwdW Wo.ws Wo.cs q i) Wo.cs (q.getD i default)).hd.final), .bool ((objT (fwdW Wo.ws Wo.cs q i) Wo.cs (q.getD i default)).hd.done)]) rfl rfl rfl (new := #[.int .i64 ((objT (fwdW Wo.ws Wo.cs q i) Wo.cs (q.getD i default)).hd.cls), .int .i64 ((objT (fwdW Wo.ws Wo.cs q i) Wo.cs (q.getD i default)).hd.age), .int .i64 ((objT (fwdW Wo.ws Wo.cs q i) Wo.cs (q.getD i default)).hd.fwd), .bool ((objT (fwdW Wo.ws Wo.cs q i) Wo.cs (q.getD i default)).hd.mark), .bool ((objT (fwdW Wo.ws Wo.cs q i) Wo.cs (q.getD i default)).hd.final), .bool ((objT (fwdW Wo.ws Wo.cs q i) Wo.cs (q.getD i default)).hd.done)]) rfl ?_
        intro w hp
        refine andS ⟨hp.at 1 rfl, hp.at 2 rfl, hp.at 3 rfl, hp.at 4 rfl, hp.at 5 rfl, hp.at 6 rfl, hp.at 7 rfl, hp.at 8 rfl, hp.at 9 rfl, hp.old0 hC, hp.old0 hTh, hp.old0 hRf, hp.old0 hRo, trivial⟩ fun hS0 => ?_
        refine WD.v 13 rfl hS0 (fun w hS => (X.as rfl)) ?_
        refine WD.nil (by kernel_rfl) ?_
        exact X.here b5 ⟨rfl, rfl, rfl, rfl, rfl, rfl, trivial⟩ (by
          exact hp)
      refine WO.alloc hp rfl tZ56 rfl ?_
      intro b6 w hp
      refine andS ⟨hp.at 1 rfl, hp.at 2 rfl, hp.at 3 rfl, hp.at 4 rfl, hp.at 5 rfl, hp.at 6 rfl, hp.at 7 rfl, hp.at 8 rfl, hp.at 9 rfl, hp.old0 hC, hp.old0 hTh, hp.old0 hRf, hp.old0 hRo, trivial⟩ fun hS0 => ?_
      refine WD.one 7 (by kernel_rfl) ?_
      refine WO.call rfl isFn16 rfl rfl (head_c (a := (q.getD i default)) (hp.at 2 rfl) (hp.at 4 rfl)) ?_
      intro v w hc hr
      obtain rfl := hr
      have hp := hp.ext hc
      refine andS ⟨hp.at 1 rfl, hp.at 2 rfl, hp.at 3 rfl, hp.at 4 rfl, hp.at 5 rfl, hp.at 6 rfl, hp.at 7 rfl, hp.at 8 rfl, hp.at 9 rfl, hp.old0 hC, hp.old0 hTh, hp.old0 hRf, hp.old0 hRo, trivial⟩ fun hS0 => ?_
      refine WD.v 8 rfl hS0 (fun w hS => (X.mv rfl)) ?_
      refine WD.v 9 rfl hS0 (fun w hS => (X.ext rfl rfl)) ?_
      refine WD.v 10 rfl hS0 (fun w hS => (X.ext rfl rfl)) ?_
      refine WD.one 12 (by kernel_rfl) ?_
      refine WO.store hp 0 rfl rfl tS56 rfl rfl (vs := [.int .i64 ((objT (fwdW Wo.ws Wo.cs q i) Wo.cs (q.getD i default)).hd.cls), .int .i64 ((objT (fwdW Wo.ws Wo.cs q i) Wo.cs (q.getD i default)).hd.age), .int .i64 ((objT (fwdW Wo.ws Wo.cs q i) Wo.cs (q.getD i default)).hd.fwd), .bool ((objT (fwdW Wo.ws Wo.cs q i) Wo.cs (q.getD i default)).hd.mark), .bool ((objT (fwdW Wo.ws Wo.cs q i) Wo.cs (q.getD i default)).hd.final), .bool ((objT (fwdW Wo.ws Wo.cs q i) Wo.cs (q.getD i default)).hd.done)]) rfl rfl rfl (new := #[.int .i64 ((objT (fwdW Wo.ws Wo.cs q i) Wo.cs (q.getD i default)).hd.cls), .int .i64 ((objT (fwdW Wo.ws Wo.cs q i) Wo.cs (q.getD i default)).hd.age), .int .i64 ((objT (fwdW Wo.ws Wo.cs q i) Wo.cs (q.getD i default)).hd.fwd), .bool ((objT (fwdW Wo.ws Wo.cs q i) Wo.cs (q.getD i default)).hd.mark), .bool ((objT (fwdW Wo.ws Wo.cs q i) Wo.cs (q.getD i default)).hd.final), .bool ((objT (fwdW Wo.ws Wo.cs q i) Wo.cs (q.getD i default)).hd.done)]) rfl ?_
      intro w hp
      refine andS ⟨hp.at 1 rfl, hp.at 2 rfl, hp.at 3 rfl, hp.at 4 rfl, hp.at 5 rfl, hp.at 6 rfl, hp.at 7 rfl, hp.at 8 rfl, hp.at 9 rfl, hp.old0 hC, hp.old0 hTh, hp.old0 hRf, hp.old0 hRo, trivial⟩ fun hS0 => ?_
      refine WD.v 13 rfl hS0 (fun w hS => (X.as rfl)) ?_
      refine WD.nil (by kernel_rfl) ?_
      exact X.here b6 ⟨rfl, rfl, rfl, rfl, rfl, rfl, trivial⟩ (by
        exact hp)
    rintro bh w hp
    refine W.sr ?_
    refine WL.run 2 rfl ?_
    refine WL.store hp 0 rfl tS3 rfl rfl (vs := [.int .i64 (i : Int)]) rfl rfl rfl (new := #[.int .i64 ((objT (fwdW Wo.ws Wo.cs q i) Wo.cs (q.getD i default)).hd.cls), .int .i64 ((objT (fwdW Wo.ws Wo.cs q i) Wo.cs (q.getD i default)).hd.age), .int .i64 (i : Int), .bool ((objT (fwdW Wo.ws Wo.cs q i) Wo.cs (q.getD i default)).hd.mark), .bool ((objT (fwdW Wo.ws Wo.cs q i) Wo.cs (q.getD i default)).hd.final), .bool ((objT (fwdW Wo.ws Wo.cs q i) Wo.cs (q.getD i default)).hd.done)]) rfl ?_
    intro w hp
    refine WL.s ?_
    refine W.seq ?_
    have hsE := hfn.1
    refine W.draw prog_mixed (fun w => (blkR bh (.cells (#[.int .i64 ((objT (fwdW Wo.ws Wo.cs q i) Wo.cs (q.getD i default)).hd.cls), .int .i64 ((objT (fwdW Wo.ws Wo.cs q i) Wo.cs (q.getD i default)).hd.age), .int .i64 (i : Int), .bool ((objT (fwdW Wo.ws Wo.cs q i) Wo.cs (q.getD i default)).hd.mark), .bool ((objT (fwdW Wo.ws Wo.cs q i) Wo.cs (q.getD i default)).hd.final), .bool ((objT (fwdW Wo.ws Wo.cs q i) Wo.cs (q.getD i default)).hd.done)]) 56 (0, 0))).ok w ∧ (ownR 60 encH 6 v (headsL Wo.ws Wo.cs (q.take i))).ok w ∧ (blkR b3 (.cells (#[.pointer (some ⟨p, 0, none⟩), .pointer (some ⟨t, 0, none⟩), .pointer (some ⟨p, 0, none⟩), .pointer (some ⟨t, 0, none⟩), sp, at_, sy, rt, cv]) 37 (0, 0))).ok w ∧ (tableR t c0 Wo.cs).ok w ∧ (ownR 44 encS 3 sp Wo.sp).ok w ∧ (ownR 3 encI 1 at_ Wo.al).ok w ∧ (ownR 3 encI 1 sy q).ok w ∧ (ownR 3 encI 1 rt Wo.roots).ok w ∧ (blkR b1 (.cells (#[cv, tv, fv, ov, .int .u8 Wo.z0, .int .u8 Wo.z1, .int .u8 Wo.z2]) 28 (0, 0))).ok w ∧ (viewR clsV 4 cv Wo.cs).ok w ∧ (viewR encTh 4 tv Wo.ths).ok w ∧ (viewR encR3 3 fv Wo.rfs).ok w ∧ (viewR encU8 1 ov Wo.ros).ok w ∧ True) hp ?_
    intro w hp
    refine WD.s ⟨hp.at 0 rfl, hp.at 1 rfl, hp.at 3 rfl, hp.at 4 rfl, hp.at 5 rfl, hp.at 6 rfl, hp.at 7 rfl, hp.at 8 rfl, hp.at 9 rfl, hp.old0 hC, hp.old0 hTh, hp.old0 hRf, hp.old0 hRo, trivial⟩ fun hS0 => ?_
    refine WD.v 0 rfl hS0 (fun w hS => (X.fa (r := 2) tF37_2 rfl rfl)) ?_
    refine WD.v 1 rfl hS0 (fun w hS => (X.ldkA hS.2.2.1 tA33 tS33 (vs := [.pointer (some ⟨p, 0, none⟩), .pointer (some ⟨t, 0, none⟩)]) rfl rfl)) ?_
    refine WD.v 2 rfl hS0 (fun w hS => (X.fa (r := 6) tF37_5 rfl rfl)) ?_
    refine WD.v 3 rfl hS0 (fun w hS => (X.ldk hS.2.2.1 tA35 rfl rfl)) ?_
    refine WD.v 4 rfl hS0 (fun w hS => (X.mv rfl)) ?_
    refine WD.v 5 rfl hS0 (fun w hS => (X.idxV (j := i) (r := offOf sy + i * 1) tL35 tS3 (own_view hS.2.2.2.2.2.2.1) rfl rfl (by omega) (by omega) rfl)) ?_
    refine WD.v 6 rfl hS0 (fun w hS => (X.ld1 tA3 rfl (view_cell (j := i) (f := 0) (own_view hS.2.2.2.2.2.2.1) (get_some (by omega)) rfl (by omega)))) ?_
    refine WD.v 7 rfl hS0 (fun w hS => (X.ldkA hS.1 tA56 tS56 (vs := [.int .i64 ((objT (fwdW Wo.ws Wo.cs q i) Wo.cs (q.getD i default)).hd.cls), .int .i64 ((objT (fwdW Wo.ws Wo.cs q i) Wo.cs (q.getD i default)).hd.age), .int .i64 (i : Int), .bool ((objT (fwdW Wo.ws Wo.cs q i) Wo.cs (q.getD i default)).hd.mark), .bool ((objT (fwdW Wo.ws Wo.cs q i) Wo.cs (q.getD i default)).hd.final), .bool ((objT (fwdW Wo.ws Wo.cs q i) Wo.cs (q.getD i default)).hd.done)]) rfl rfl)) ?_
    refine WD.one 8 (by kernel_rfl) ?_
    refine WO.call rfl isFn17 rfl rfl (sethead_c (a := (q.getD i default)) (h := (⟨(objT (fwdW Wo.ws Wo.cs q i) Wo.cs (q.getD i default)).hd.cls, (objT (fwdW Wo.ws Wo.cs q i) Wo.cs (q.getD i default)).hd.age, (i : Int), (objT (fwdW Wo.ws Wo.cs q i) Wo.cs (q.getD i default)).hd.mark, (objT (fwdW Wo.ws Wo.cs q i) Wo.cs (q.getD i default)).hd.final, (objT (fwdW Wo.ws Wo.cs q i) Wo.cs (q.getD i default)).hd.done⟩ : Hd)) (hp.at 2 rfl) (hp.at 4 rfl) (foot_dis hp (i := 4) (j := 2) rfl rfl (by decide))) ?_
    intro v w hc hr
    rcases hr with ⟨hr7, rfl, hA⟩ | ⟨hr7, rfl, hA⟩
    · have hp := hp.arena 2 rfl hc hA
      refine andS ⟨hp.at 0 rfl, hp.at 1 rfl, hp.at 3 rfl, hp.at 4 rfl, hp.at 5 rfl, hp.at 6 rfl, hp.at 7 rfl, hp.at 8 rfl, hp.at 9 rfl, hp.old0 hC, hp.old0 hTh, hp.old0 hRf, hp.old0 hRo, trivial⟩ fun hS0 => ?_
      refine WD.v 9 rfl hS0 (fun w hS => (X.neq rfl rfl)) ?_
      refine WD.nil (by kernel_rfl) ?_
      refine X.thenN ?_
      refine W.cF rfl (decide_eq_false (by decide)) ?_
      refine W.ks ?_
      refine WL.run 1 rfl ?_
      refine WL.store hp 0 rfl tS4 rfl rfl (vs := [.bool false]) rfl rfl rfl (new := #[.int .i64 ((objT (fwdW Wo.ws Wo.cs q i) Wo.cs (q.getD i default)).hd.cls), .int .i64 ((objT (fwdW Wo.ws Wo.cs q i) Wo.cs (q.getD i default)).hd.age), .int .i64 (i : Int), .bool false, .bool ((objT (fwdW Wo.ws Wo.cs q i) Wo.cs (q.getD i default)).hd.final), .bool ((objT (fwdW Wo.ws Wo.cs q i) Wo.cs (q.getD i default)).hd.done)]) rfl ?_
      intro w hp
      refine WL.run 1 rfl ?_
      refine WL.store hp 0 rfl tS3 rfl rfl (vs := [.int .i64 0]) rfl rfl rfl (new := #[.int .i64 ((objT (fwdW Wo.ws Wo.cs q i) Wo.cs (q.getD i default)).hd.cls), .int .i64 ((objT (fwdW Wo.ws Wo.cs q i) Wo.cs (q.getD i default)).hd.age), .int .i64 0, .bool false, .bool ((objT (fwdW Wo.ws Wo.cs q i) Wo.cs (q.getD i default)).hd.final), .bool ((objT (fwdW Wo.ws Wo.cs q i) Wo.cs (q.getD i default)).hd.done)]) rfl ?_
      intro w hp
      refine WL.b ?_
      refine WL.run 1 rfl ?_
      refine WL.v (X.ldkA (hp.at 0 rfl) tA56 tS56 (vs := [.int .i64 ((objT (fwdW Wo.ws Wo.cs q i) Wo.cs (q.getD i default)).hd.cls), .int .i64 ((objT (fwdW Wo.ws Wo.cs q i) Wo.cs (q.getD i default)).hd.age), .int .i64 0, .bool false, .bool ((objT (fwdW Wo.ws Wo.cs q i) Wo.cs (q.getD i default)).hd.final), .bool ((objT (fwdW Wo.ws Wo.cs q i) Wo.cs (q.getD i default)).hd.done)]) rfl rfl) ?_
      refine WL.bsl hp (e := 60) (cs := #[.int .i64 ((objT (fwdW Wo.ws Wo.cs q i) Wo.cs (q.getD i default)).hd.cls), .int .i64 ((objT (fwdW Wo.ws Wo.cs q i) Wo.cs (q.getD i default)).hd.age), .int .i64 0, .bool false, .bool ((objT (fwdW Wo.ws Wo.cs q i) Wo.cs (q.getD i default)).hd.final), .bool ((objT (fwdW Wo.ws Wo.cs q i) Wo.cs (q.getD i default)).hd.done)]) rfl (fun _ => by kernel_rfl) rfl ?_
      intro b9 w hp
      refine WL.append hp 2 rfl tL54 (zeroT_ex tZ60) tS60 tY60 rfl rfl (view_of_blk (l := [(⟨(objT (fwdW Wo.ws Wo.cs q i) Wo.cs (q.getD i default)).hd.cls, (objT (fwdW Wo.ws Wo.cs q i) Wo.cs (q.getD i default)).hd.age, 0, false, (objT (fwdW Wo.ws Wo.cs q i) Wo.cs (q.getD i default)).hd.final, (objT (fwdW Wo.ws Wo.cs q i) Wo.cs (q.getD i default)).hd.done⟩ : Hd)]) hp 0 rfl encH_len (by omega) rfl (by simp) (by simp)) encH_one (by simp only [List.length_append, List.length_cons, List.length_nil, headsL, List.length_map, List.length_take]; omega) rfl ?_
      intro v10 w hp
      refine WL.run 1 rfl ?_
      refine WL.nil ?_
      refine X.inN ?_
      refine X.thenN ?_
      refine W.reg ?_
      refine WL.v (X.add rfl rfl (in64 (by omega))) ?_
      refine WL.run 1 rfl ?_
      refine WL.nil ?_
      refine X.again (i + 1, v10) ⟨rfl, rfl, rfl, rfl, trivial⟩ ?_ ?_
      · exact ⟨by rw [headsL_step hlt, ← hhd]; exact (hp.sel [2, 3, 4, 5, 6, 7, 8, 9, 10] (by decide)), by omega, hfn.2⟩
      · dsimp only; omega
    (try simp only [fillW_length, moveW_length, List.length_set] at hr7); first | contradiction | (exfalso; omega) | (exfalso; simp_all; done)
  refine W.cF rfl (decide_eq_false hc4) ?_
  refine W.exit ?_
  refine X.thenE ?_
  refine X.thenE ?_
  refine X.inH ?_
  refine X.thenN ?_
  refine W.seq ?_
  have hti : q.take i = q := List.take_of_length_le (by omega)
  have hie : i = q.length := by omega
  rw [hti, hie] at hp
  rw [hie] at hfi
  have hs2 := hfi.stays hcs hg.inv hg.st
  have hr0 := run_of hcs hfi.inv hs2 hg.root
  refine W.reg ?_
  refine WL.run 1 rfl ?_
  refine WL.v (X.ldk (hp.at 2 rfl) tA30 rfl rfl) ?_
  refine WL.run 1 rfl ?_
  refine WL.v (X.ldk (hp.at 2 rfl) tA31 rfl rfl) ?_
  refine WL.run 1 rfl ?_
  refine WL.v (X.ldk (hp.at 2 rfl) tA34 rfl rfl) ?_
  refine WL.run 1 rfl ?_
  refine WL.v (X.ldk (hp.at 2 rfl) tA35 rfl rfl) ?_
  refine WL.run 1 rfl ?_
  refine WL.v (X.ldk (hp.at 2 rfl) tA35 rfl rfl) ?_
  have hp := hp.sel [1, 0, 2, 3, 4, 5, 6, 7, 8] (by decide)
  refine WL.call isFn14 rfl rfl (run_c (l := Wo.sp) (st := q) (rt := Wo.roots) (hp.at 0 rfl) (hp.at 3 rfl) (foot_dis hp (i := 3) (j := 0) rfl rfl (by decide)) (own_view (hp.at 4 rfl)) (own_view (hp.at 6 rfl)) (own_view (hp.at 7 rfl)) (foot_dis hp (i := 4) (j := 0) rfl rfl (by decide)) (foot_dis hp (i := 6) (j := 0) rfl rfl (by decide)) (foot_dis hp (i := 7) (j := 0) rfl rfl (by decide)) (by first | omega | decide) (by first | omega | decide) (by first | omega | decide)) ?_
  intro v w hc hr
  rcases hr with ⟨he13, o11, now12, rfl, hN⟩ | ⟨he13, rfl, hA⟩
  · have hp := Hp.back (Rs := [arenaR p b (fwdW Wo.ws Wo.cs q q.length)]) (Rs' := [ownR 60 encH 6 v (headsL Wo.ws Wo.cs q), blkR b3 (.cells (#[.pointer (some ⟨p, 0, none⟩), .pointer (some ⟨t, 0, none⟩), .pointer (some ⟨p, 0, none⟩), .pointer (some ⟨t, 0, none⟩), sp, at_, sy, rt, cv]) 37 (0, 0)), tableR t c0 Wo.cs, ownR 44 encS 3 sp Wo.sp, ownR 3 encI 1 at_ Wo.al, ownR 3 encI 1 sy q, ownR 3 encI 1 rt Wo.roots, blkR b1 (.cells (#[cv, tv, fv, ov, .int .u8 Wo.z0, .int .u8 Wo.z1, .int .u8 Wo.z2]) 28 (0, 0))]) hp hN
    have hp : Hp w0 [] [arenaR p b (slWs (fwdW Wo.ws Wo.cs q q.length) Wo.cs Wo.sp q), ownR 3 encI 1 o11 (Wo.roots.map fun a => ((slG (fwdW Wo.ws Wo.cs q q.length) Wo.cs Wo.sp q) a).getD 0), ownR 44 encS 3 now12 (slNow (fwdW Wo.ws Wo.cs q q.length) Wo.cs Wo.sp q), ownR 60 encH 6 v (headsL Wo.ws Wo.cs q), blkR b3 (.cells (#[.pointer (some ⟨p, 0, none⟩), .pointer (some ⟨t, 0, none⟩), .pointer (some ⟨p, 0, none⟩), .pointer (some ⟨t, 0, none⟩), sp, at_, sy, rt, cv]) 37 (0, 0)), tableR t c0 Wo.cs, ownR 44 encS 3 sp Wo.sp, ownR 3 encI 1 at_ Wo.al, ownR 3 encI 1 sy q, ownR 3 encI 1 rt Wo.roots, blkR b1 (.cells (#[cv, tv, fv, ov, .int .u8 Wo.z0, .int .u8 Wo.z1, .int .u8 Wo.z2]) 28 (0, 0))] w := hp
    have hR := hr0.2
    obtain ⟨gt, hWk⟩ := hR.walks hcs
    have hnl : (slNow (fwdW Wo.ws Wo.cs q q.length) Wo.cs Wo.sp q).length = 3 := by rw [hR.nlen, hsp3]
    have htl := hR.tlen
    have hhl : (headsL Wo.ws Wo.cs q).length = q.length := List.length_map _
    refine WL.run 7 rfl ?_
    refine WL.s ?_
    refine W.sr ?_
    refine WL.run 2 rfl ?_
    refine WL.fin ?_
    refine W.cF rfl (decide_eq_false (by decide)) ?_
    refine W.ks ?_
    refine WL.run 1 rfl ?_
    refine WL.s ?_
    refine W.sr ?_
    refine WL.run 1 rfl ?_
    refine WL.v (view_len tL34 (own_view (hp.at 2 rfl)) rfl) ?_
    refine WL.run 1 rfl ?_
    refine WL.fin ?_
    refine W.block ?_
    refine W.loop (X := Nat × Int) (fun x_ => match x_ with | ⟨i, n⟩ => (slNow (fwdW Wo.ws Wo.cs q q.length) Wo.cs Wo.sp q).length - i) (fun x_ => match x_ with | ⟨i, n⟩ => [(3, .pointer (some ⟨b3, 0, none⟩)), (5, v), (10, now12), (12, .int .i64 n), (85, .int .i64 ((slNow (fwdW Wo.ws Wo.cs q q.length) Wo.cs Wo.sp q).length : Int)), (86, .int .i64 (i : Int))]) (fun x_ w => match x_ with | ⟨i, n⟩ => Hp w0 [] [arenaR p b (slWs (fwdW Wo.ws Wo.cs q q.length) Wo.cs Wo.sp q), ownR 3 encI 1 o11 (Wo.roots.map fun a => ((slG (fwdW Wo.ws Wo.cs q q.length) Wo.cs Wo.sp q) a).getD 0), ownR 44 encS 3 now12 (slNow (fwdW Wo.ws Wo.cs q q.length) Wo.cs Wo.sp q), ownR 60 encH 6 v (headsL Wo.ws Wo.cs q), blkR b3 (.cells (#[.pointer (some ⟨p, 0, none⟩), .pointer (some ⟨t, 0, none⟩), .pointer (some ⟨p, 0, none⟩), .pointer (some ⟨t, 0, none⟩), sp, at_, sy, rt, cv]) 37 (0, 0)), tableR t c0 Wo.cs, ownR 44 encS 3 sp Wo.sp, ownR 3 encI 1 at_ Wo.al, ownR 3 encI 1 sy q, ownR 3 encI 1 rt Wo.roots, blkR b1 (.cells (#[cv, tv, fv, ov, .int .u8 Wo.z0, .int .u8 Wo.z1, .int .u8 Wo.z2]) 28 (0, 0))] w ∧ i ≤ (slNow (fwdW Wo.ws Wo.cs q q.length) Wo.cs Wo.sp q).length ∧ n = ((catF gt i).length : Int)) (0, 0) ⟨rfl, rfl, rfl, rfl, rfl, rfl, trivial⟩ ?_ ?_
    · exact ⟨hp, by omega, rfl⟩
    rintro ⟨i, n⟩ w ⟨hp, hi, hn⟩
    refine W.sr ?_
    refine WL.run 1 rfl ?_
    refine WL.s ?_
    by_cases hc15 : (i : Int) < ((slNow (fwdW Wo.ws Wo.cs q q.length) Wo.cs Wo.sp q).length : Int)
    · refine W.cT rfl (decide_eq_true hc15) ?_
      refine W.k ?_
      refine W.seq ?_
      refine W.block ?_
      refine W.sr ?_
      refine WL.run 2 rfl ?_
      refine WL.s ?_
      have hil : i < (slNow (fwdW Wo.ws Wo.cs q q.length) Wo.cs Wo.sp q).length := by omega
      have hus := hWk.used hil
      have hwk := hWk.walk i hil
      have hw1 : (walk (slWs (fwdW Wo.ws Wo.cs q q.length) Wo.cs Wo.sp q) Wo.cs ((slNow (fwdW Wo.ws Wo.cs q q.length) Wo.cs Wo.sp q).getD i default).from_ ((slNow (fwdW Wo.ws Wo.cs q q.length) Wo.cs Wo.sp q).getD i default).top).1 = 0 := by rw [hwk]
      have hcl := hWk.len hil
      refine W.draw prog_mixed (fun w => (arenaR p b (slWs (fwdW Wo.ws Wo.cs q q.length) Wo.cs Wo.sp q)).ok w ∧ (ownR 3 encI 1 o11 (Wo.roots.map fun a => ((slG (fwdW Wo.ws Wo.cs q q.length) Wo.cs Wo.sp q) a).getD 0)).ok w ∧ (ownR 44 encS 3 now12 (slNow (fwdW Wo.ws Wo.cs q q.length) Wo.cs Wo.sp q)).ok w ∧ (ownR 60 encH 6 v (headsL Wo.ws Wo.cs q)).ok w ∧ (blkR b3 (.cells (#[.pointer (some ⟨p, 0, none⟩), .pointer (some ⟨t, 0, none⟩), .pointer (some ⟨p, 0, none⟩), .pointer (some ⟨t, 0, none⟩), sp, at_, sy, rt, cv]) 37 (0, 0))).ok w ∧ (tableR t c0 Wo.cs).ok w ∧ (ownR 44 encS 3 sp Wo.sp).ok w ∧ (ownR 3 encI 1 at_ Wo.al).ok w ∧ (ownR 3 encI 1 sy q).ok w ∧ (ownR 3 encI 1 rt Wo.roots).ok w ∧ (blkR b1 (.cells (#[cv, tv, fv, ov, .int .u8 Wo.z0, .int .u8 Wo.z1, .int .u8 Wo.z2]) 28 (0, 0))).ok w ∧ (viewR clsV 4 cv Wo.cs).ok w ∧ (viewR encTh 4 tv Wo.ths).ok w ∧ (viewR encR3 3 fv Wo.rfs).ok w ∧ (viewR encU8 1 ov Wo.ros).ok w ∧ True) hp ?_
      intro w hp
      refine WD.s ⟨hp.at 0 rfl, hp.at 1 rfl, hp.at 2 rfl, hp.at 3 rfl, hp.at 4 rfl, hp.at 5 rfl, hp.at 6 rfl, hp.at 7 rfl, hp.at 8 rfl, hp.at 9 rfl, hp.at 10 rfl, hp.old0 hC, hp.old0 hTh, hp.old0 hRf, hp.old0 hRo, trivial⟩ fun hS0 => ?_
      refine WD.v 0 rfl hS0 (fun w hS => (X.fa (r := 2) tF37_2 rfl rfl)) ?_
      refine WD.v 1 rfl hS0 (fun w hS => (X.ldkA hS.2.2.2.2.1 tA33 tS33 (vs := [.pointer (some ⟨p, 0, none⟩), .pointer (some ⟨t, 0, none⟩)]) rfl rfl)) ?_
      refine WD.v 2 rfl hS0 (fun w hS => (X.mv rfl)) ?_
      refine WD.v 3 rfl hS0 (fun w hS => (X.mv rfl)) ?_
      refine WD.v 4 rfl hS0 (fun w hS => (X.idxV (j := i) (r := offOf now12 + i * 3) tL34 tS44 (own_view hS.2.2.1) rfl rfl (by omega) (by omega) rfl)) ?_
      refine WD.v 5 rfl hS0 (fun w hS => (X.fa (r := offOf now12 + i * 3) tF44_0 rfl rfl)) ?_
      refine WD.v 6 rfl hS0 (fun w hS => (X.ld1 tA3 rfl (view_cell (j := i) (f := 0) (own_view hS.2.2.1) (get_some (by omega)) rfl (by omega)))) ?_
      refine WD.v 7 rfl hS0 (fun w hS => (X.mv rfl)) ?_
      refine WD.v 8 rfl hS0 (fun w hS => (X.mv rfl)) ?_
      refine WD.v 9 rfl hS0 (fun w hS => (X.idxV (j := i) (r := offOf now12 + i * 3) tL34 tS44 (own_view hS.2.2.1) rfl rfl (by omega) (by omega) rfl)) ?_
      refine WD.v 10 rfl hS0 (fun w hS => (X.fa (r := offOf now12 + i * 3 + 1) tF44_1 rfl rfl)) ?_
      refine WD.v 11 rfl hS0 (fun w hS => (X.ld1 tA3 rfl (view_cell (j := i) (f := 1) (own_view hS.2.2.1) (get_some (by omega)) rfl (by omega)))) ?_
      refine WD.one 12 (by kernel_rfl) ?_
      refine WO.call rfl isFn18 rfl rfl (walk_c (fr := ((slNow (fwdW Wo.ws Wo.cs q q.length) Wo.cs Wo.sp q).getD i default).from_) (to := ((slNow (fwdW Wo.ws Wo.cs q q.length) Wo.cs Wo.sp q).getD i default).top) (hp.at 0 rfl) (hp.at 5 rfl) (by omega) (by omega)) ?_
      intro v w hc hr
      rcases hr with ⟨hw16, s17, rfl, hN⟩ | ⟨hw16, rfl⟩
      · have hp := hp.newN hc hN
        refine andS ⟨hp.at 1 rfl, hp.at 2 rfl, hp.at 3 rfl, hp.at 4 rfl, hp.at 5 rfl, hp.at 6 rfl, hp.at 7 rfl, hp.at 8 rfl, hp.at 9 rfl, hp.at 10 rfl, hp.at 11 rfl, hp.old0 hC, hp.old0 hTh, hp.old0 hRf, hp.old0 hRo, trivial⟩ fun hS0 => ?_
        refine WD.v 13 rfl hS0 (fun w hS => (X.mv rfl)) ?_
        refine WD.v 14 rfl hS0 (fun w hS => (X.ext rfl rfl)) ?_
        refine WD.v 15 rfl hS0 (fun w hS => (X.ext rfl rfl)) ?_
        refine WD.v 16 rfl hS0 (fun w hS => (X.as rfl)) ?_
        refine WD.v 17 rfl hS0 (fun w hS => (X.as rfl)) ?_
        refine WD.nil (by kernel_rfl) ?_
        refine X.thenN ?_
        refine W.seq ?_
        have hw2 : (walk (slWs (fwdW Wo.ws Wo.cs q q.length) Wo.cs Wo.sp q) Wo.cs (((slNow (fwdW Wo.ws Wo.cs q q.length) Wo.cs Wo.sp q).getD i default).from_) (((slNow (fwdW Wo.ws Wo.cs q q.length) Wo.cs Wo.sp q).getD i default).top)).2 = gt i := by rw [hwk]
        rw [hw2] at hp
        refine W.reg ?_
        refine WL.run 1 rfl ?_
        refine WL.v (view_len tL35 (own_view (hp.at 0 rfl)) rfl) ?_
        refine WL.run 1 rfl ?_
        refine WL.fin ?_
        refine W.block ?_
        refine W.loop (X := Nat × Int) (fun x_ => match x_ with | ⟨k, n2⟩ => (gt i).length - k) (fun x_ => match x_ with | ⟨k, n2⟩ => [(3, .pointer (some ⟨b3, 0, none⟩)), (5, v), (10, now12), (14, s17), (85, .int .i64 ((slNow (fwdW Wo.ws Wo.cs q q.length) Wo.cs Wo.sp q).length : Int)), (86, .int .i64 (i : Int)), (12, .int .i64 n2), (106, .int .i64 ((gt i).length : Int)), (107, .int .i64 (k : Int))]) (fun x_ w => match x_ with | ⟨k, n2⟩ => Hp w0 [] [ownR 3 encI 1 s17 ((gt i)), arenaR p b (slWs (fwdW Wo.ws Wo.cs q q.length) Wo.cs Wo.sp q), ownR 3 encI 1 o11 (Wo.roots.map fun a => ((slG (fwdW Wo.ws Wo.cs q q.length) Wo.cs Wo.sp q) a).getD 0), ownR 44 encS 3 now12 (slNow (fwdW Wo.ws Wo.cs q q.length) Wo.cs Wo.sp q), ownR 60 encH 6 v (headsL Wo.ws Wo.cs q), blkR b3 (.cells (#[.pointer (some ⟨p, 0, none⟩), .pointer (some ⟨t, 0, none⟩), .pointer (some ⟨p, 0, none⟩), .pointer (some ⟨t, 0, none⟩), sp, at_, sy, rt, cv]) 37 (0, 0)), tableR t c0 Wo.cs, ownR 44 encS 3 sp Wo.sp, ownR 3 encI 1 at_ Wo.al, ownR 3 encI 1 sy q, ownR 3 encI 1 rt Wo.roots, blkR b1 (.cells (#[cv, tv, fv, ov, .int .u8 Wo.z0, .int .u8 Wo.z1, .int .u8 Wo.z2]) 28 (0, 0))] w ∧ k ≤ (gt i).length ∧ n2 = ((catF gt i).length + k : Nat)) (0, n) ⟨rfl, rfl, rfl, rfl, rfl, rfl, rfl, rfl, rfl, trivial⟩ ?_ ?_
        · exact ⟨hp, by omega, by omega⟩
        rintro ⟨k, n2⟩ w ⟨hp, hk, hn2⟩
        refine W.sr ?_
        refine WL.run 1 rfl ?_
        refine WL.s ?_
        by_cases hc18 : (k : Int) < ((gt i).length : Int)
        · refine W.cT rfl (decide_eq_true hc18) ?_
          refine W.k ?_
          refine W.seq ?_
          refine W.block ?_
          refine W.seq ?_
          have hkl : k < (gt i).length := by omega
          have hhs := heads_same hfi hR hWk hil hkl
          have hn2t : n2.toNat = (catF gt i).length + k := by omega
          rw [← hn2t] at hhs
          refine W.reg ?_
          refine WL.run 2 rfl ?_
          refine WL.fin ?_
          refine W.seqCut (X := Nat) (fun bh2 => [(3, .pointer (some ⟨b3, 0, none⟩)), (5, v), (10, now12), (12, .int .i64 n2), (14, s17), (85, .int .i64 ((slNow (fwdW Wo.ws Wo.cs q q.length) Wo.cs Wo.sp q).length : Int)), (86, .int .i64 (i : Int)), (106, .int .i64 ((gt i).length : Int)), (107, .int .i64 (k : Int)), (17, .pointer (some ⟨bh2, 0, none⟩))]) (fun bh2 w => Hp w0 [] [blkR bh2 (.cells (#[.int .i64 ((objT (slWs (fwdW Wo.ws Wo.cs q q.length) Wo.cs Wo.sp q) Wo.cs ((gt i).getD k default)).hd.cls), .int .i64 ((objT (slWs (fwdW Wo.ws Wo.cs q q.length) Wo.cs Wo.sp q) Wo.cs ((gt i).getD k default)).hd.age), .int .i64 ((objT (slWs (fwdW Wo.ws Wo.cs q q.length) Wo.cs Wo.sp q) Wo.cs ((gt i).getD k default)).hd.fwd), .bool ((objT (slWs (fwdW Wo.ws Wo.cs q q.length) Wo.cs Wo.sp q) Wo.cs ((gt i).getD k default)).hd.mark), .bool ((objT (slWs (fwdW Wo.ws Wo.cs q q.length) Wo.cs Wo.sp q) Wo.cs ((gt i).getD k default)).hd.final), .bool ((objT (slWs (fwdW Wo.ws Wo.cs q q.length) Wo.cs Wo.sp q) Wo.cs ((gt i).getD k default)).hd.done)]) 56 (0, 0)), ownR 3 encI 1 s17 ((gt i)), arenaR p b (slWs (fwdW Wo.ws Wo.cs q q.length) Wo.cs Wo.sp q), ownR 3 encI 1 o11 (Wo.roots.map fun a => ((slG (fwdW Wo.ws Wo.cs q q.length) Wo.cs Wo.sp q) a).getD 0), ownR 44 encS 3 now12 (slNow (fwdW Wo.ws Wo.cs q q.length) Wo.cs Wo.sp q), ownR 60 encH 6 v (headsL Wo.ws Wo.cs q), blkR b3 (.cells (#[.pointer (some ⟨p, 0, none⟩), .pointer (some ⟨t, 0, none⟩), .pointer (some ⟨p, 0, none⟩), .pointer (some ⟨t, 0, none⟩), sp, at_, sy, rt, cv]) 37 (0, 0)), tableR t c0 Wo.cs, ownR 44 encS 3 sp Wo.sp, ownR 3 encI 1 at_ Wo.al, ownR 3 encI 1 sy q, ownR 3 encI 1 rt Wo.roots, blkR b1 (.cells (#[cv, tv, fv, ov, .int .u8 Wo.z0, .int .u8 Wo.z1, .int .u8 Wo.z2]) 28 (0, 0))] w) ?_ ?_
          · refine W.draw prog_mixed (fun w => (ownR 3 encI 1 s17 ((gt i))).ok w ∧ (arenaR p b (slWs (fwdW Wo.ws Wo.cs q q.length) Wo.cs Wo.sp q)).ok w ∧ (ownR 3 encI 1 o11 (Wo.roots.map fun a => ((slG (fwdW Wo.ws Wo.cs q q.length) Wo.cs Wo.sp q) a).getD 0)).ok w ∧ (ownR 44 encS 3 now12 (slNow (fwdW Wo.ws Wo.cs q q.length) Wo.cs Wo.sp q)).ok w ∧ (ownR 60 encH 6 v (headsL Wo.ws Wo.cs q)).ok w ∧ (blkR b3 (.cells (#[.pointer (some ⟨p, 0, none⟩), .pointer (some ⟨t, 0, none⟩), .pointer (some ⟨p, 0, none⟩), .pointer (some ⟨t, 0, none⟩), sp, at_, sy, rt, cv]) 37 (0, 0))).ok w ∧ (tableR t c0 Wo.cs).ok w ∧ (ownR 44 encS 3 sp Wo.sp).ok w ∧ (ownR 3 encI 1 at_ Wo.al).ok w ∧ (ownR 3 encI 1 sy q).ok w ∧ (ownR 3 encI 1 rt Wo.roots).ok w ∧ (blkR b1 (.cells (#[cv, tv, fv, ov, .int .u8 Wo.z0, .int .u8 Wo.z1, .int .u8 Wo.z2]) 28 (0, 0))).ok w ∧ (viewR clsV 4 cv Wo.cs).ok w ∧ (viewR encTh 4 tv Wo.ths).ok w ∧ (viewR encR3 3 fv Wo.rfs).ok w ∧ (viewR encU8 1 ov Wo.ros).ok w ∧ True) hp ?_
            intro w hp
            refine WD.s ⟨hp.at 0 rfl, hp.at 1 rfl, hp.at 2 rfl, hp.at 3 rfl, hp.at 4 rfl, hp.at 5 rfl, hp.at 6 rfl, hp.at 7 rfl, hp.at 8 rfl, hp.at 9 rfl, hp.at 10 rfl, hp.at 11 rfl, hp.old0 hC, hp.old0 hTh, hp.old0 hRf, hp.old0 hRo, trivial⟩ fun hS0 => ?_
            refine WD.v 0 rfl hS0 (fun w hS => (X.fa (r := 2) tF37_2 rfl rfl)) ?_
            refine WD.v 1 rfl hS0 (fun w hS => (X.ldkA hS.2.2.2.2.2.1 tA33 tS33 (vs := [.pointer (some ⟨p, 0, none⟩), .pointer (some ⟨t, 0, none⟩)]) rfl rfl)) ?_
            refine WD.v 2 rfl hS0 (fun w hS => (X.mv rfl)) ?_
            refine WD.v 3 rfl hS0 (fun w hS => (X.mv rfl)) ?_
            refine WD.v 4 rfl hS0 (fun w hS => (X.idxV (j := k) (r := offOf s17 + k * 1) tL35 tS3 (own_view hS.1) rfl rfl (by omega) (by omega) rfl)) ?_
            refine WD.v 5 rfl hS0 (fun w hS => (X.ld1 tA3 rfl (view_cell (j := k) (f := 0) (own_view hS.1) (get_some (by omega)) rfl (by omega)))) ?_
            refine WD.two 6 10 (by kernel_rfl) ?_ ?_
            · refine WO.call rfl isFn16 rfl rfl (head_c (a := ((gt i).getD k default)) (hp.at 1 rfl) (hp.at 6 rfl)) ?_
              intro v w hc hr
              obtain rfl := hr
              have hp := hp.ext hc
              refine andS ⟨hp.at 0 rfl, hp.at 1 rfl, hp.at 2 rfl, hp.at 3 rfl, hp.at 4 rfl, hp.at 5 rfl, hp.at 6 rfl, hp.at 7 rfl, hp.at 8 rfl, hp.at 9 rfl, hp.at 10 rfl, hp.at 11 rfl, hp.old0 hC, hp.old0 hTh, hp.old0 hRf, hp.old0 hRo, trivial⟩ fun hS0 => ?_
              refine WD.v 7 rfl hS0 (fun w hS => (X.mv rfl)) ?_
              refine WD.v 8 rfl hS0 (fun w hS => (X.ext rfl rfl)) ?_
              refine WD.v 9 rfl hS0 (fun w hS => (X.ext rfl rfl)) ?_
              refine WD.one 10 (by kernel_rfl) ?_
              refine WO.alloc hp rfl tZ56 rfl ?_
              intro b19 w hp
              refine andS ⟨hp.at 1 rfl, hp.at 2 rfl, hp.at 3 rfl, hp.at 4 rfl, hp.at 5 rfl, hp.at 6 rfl, hp.at 7 rfl, hp.at 8 rfl, hp.at 9 rfl, hp.at 10 rfl, hp.at 11 rfl, hp.at 12 rfl, hp.old0 hC, hp.old0 hTh, hp.old0 hRf, hp.old0 hRo, trivial⟩ fun hS0 => ?_
              refine WD.one 11 (by kernel_rfl) ?_
              refine WO.store hp 0 rfl rfl tS56 rfl rfl (vs := [.int .i64 ((objT (slWs (fwdW Wo.ws Wo.cs q q.length) Wo.cs Wo.sp q) Wo.cs ((gt i).getD k default)).hd.cls), .int .i64 ((objT (slWs (fwdW Wo.ws Wo.cs q q.length) Wo.cs Wo.sp q) Wo.cs ((gt i).getD k default)).hd.age), .int .i64 ((objT (slWs (fwdW Wo.ws Wo.cs q q.length) Wo.cs Wo.sp q) Wo.cs ((gt i).getD k default)).hd.fwd), .bool ((objT (slWs (fwdW Wo.ws Wo.cs q q.length) Wo.cs Wo.sp q) Wo.cs ((gt i).getD k default)).hd.mark), .bool ((objT (slWs (fwdW Wo.ws Wo.cs q q.length) Wo.cs Wo.sp q) Wo.cs ((gt i).getD k default)).hd.final), .bool ((objT (slWs (fwdW Wo.ws Wo.cs q q.length) Wo.cs Wo.sp q) Wo.cs ((gt i).getD k default)).hd.done)]) rfl rfl rfl (new := #[.int .i64 ((objT (slWs (fwdW Wo.ws Wo.cs q q.length) Wo.cs Wo.sp q) Wo.cs ((gt i).getD k default)).hd.cls), .int .i64 ((objT (slWs (fwdW Wo.ws Wo.cs q q.length) Wo.cs Wo.sp q) Wo.cs ((gt i).getD k default)).hd.age), .int .i64 ((objT (slWs (fwdW Wo.ws Wo.cs q q.length) Wo.cs Wo.sp q) Wo.cs ((gt i).getD k default)).hd.fwd), .bool ((objT (slWs (fwdW Wo.ws Wo.cs q q.length) Wo.cs Wo.sp q) Wo.cs ((gt i).getD k default)).hd.mark), .bool ((objT (slWs (fwdW Wo.ws Wo.cs q q.length) Wo.cs Wo.sp q) Wo.cs ((gt i).getD k default)).hd.final), .bool ((objT (slWs (fwdW Wo.ws Wo.cs q q.length) Wo.cs Wo.sp q) Wo.cs ((gt i).getD k default)).hd.done)]) rfl ?_
              intro w hp
              refine andS ⟨hp.at 1 rfl, hp.at 2 rfl, hp.at 3 rfl, hp.at 4 rfl, hp.at 5 rfl, hp.at 6 rfl, hp.at 7 rfl, hp.at 8 rfl, hp.at 9 rfl, hp.at 10 rfl, hp.at 11 rfl, hp.at 12 rfl, hp.old0 hC, hp.old0 hTh, hp.old0 hRf, hp.old0 hRo, trivial⟩ fun hS0 => ?_
              refine WD.v 12 rfl hS0 (fun w hS => (X.as rfl)) ?_
              refine WD.nil (by kernel_rfl) ?_
              exact X.here b19 ⟨rfl, rfl, rfl, rfl, rfl, rfl, rfl, rfl, rfl, rfl, trivial⟩ (by
                exact hp)
            refine WO.alloc hp rfl tZ56 rfl ?_
            intro b20 w hp
            refine andS ⟨hp.at 1 rfl, hp.at 2 rfl, hp.at 3 rfl, hp.at 4 rfl, hp.at 5 rfl, hp.at 6 rfl, hp.at 7 rfl, hp.at 8 rfl, hp.at 9 rfl, hp.at 10 rfl, hp.at 11 rfl, hp.at 12 rfl, hp.old0 hC, hp.old0 hTh, hp.old0 hRf, hp.old0 hRo, trivial⟩ fun hS0 => ?_
            refine WD.one 6 (by kernel_rfl) ?_
            refine WO.call rfl isFn16 rfl rfl (head_c (a := ((gt i).getD k default)) (hp.at 2 rfl) (hp.at 7 rfl)) ?_
            intro v w hc hr
            obtain rfl := hr
            have hp := hp.ext hc
            refine andS ⟨hp.at 1 rfl, hp.at 2 rfl, hp.at 3 rfl, hp.at 4 rfl, hp.at 5 rfl, hp.at 6 rfl, hp.at 7 rfl, hp.at 8 rfl, hp.at 9 rfl, hp.at 10 rfl, hp.at 11 rfl, hp.at 12 rfl, hp.old0 hC, hp.old0 hTh, hp.old0 hRf, hp.old0 hRo, trivial⟩ fun hS0 => ?_
            refine WD.v 7 rfl hS0 (fun w hS => (X.mv rfl)) ?_
            refine WD.v 8 rfl hS0 (fun w hS => (X.ext rfl rfl)) ?_
            refine WD.v 9 rfl hS0 (fun w hS => (X.ext rfl rfl)) ?_
            refine WD.one 11 (by kernel_rfl) ?_
            refine WO.store hp 0 rfl rfl tS56 rfl rfl (vs := [.int .i64 ((objT (slWs (fwdW Wo.ws Wo.cs q q.length) Wo.cs Wo.sp q) Wo.cs ((gt i).getD k default)).hd.cls), .int .i64 ((objT (slWs (fwdW Wo.ws Wo.cs q q.length) Wo.cs Wo.sp q) Wo.cs ((gt i).getD k default)).hd.age), .int .i64 ((objT (slWs (fwdW Wo.ws Wo.cs q q.length) Wo.cs Wo.sp q) Wo.cs ((gt i).getD k default)).hd.fwd), .bool ((objT (slWs (fwdW Wo.ws Wo.cs q q.length) Wo.cs Wo.sp q) Wo.cs ((gt i).getD k default)).hd.mark), .bool ((objT (slWs (fwdW Wo.ws Wo.cs q q.length) Wo.cs Wo.sp q) Wo.cs ((gt i).getD k default)).hd.final), .bool ((objT (slWs (fwdW Wo.ws Wo.cs q q.length) Wo.cs Wo.sp q) Wo.cs ((gt i).getD k default)).hd.done)]) rfl rfl rfl (new := #[.int .i64 ((objT (slWs (fwdW Wo.ws Wo.cs q q.length) Wo.cs Wo.sp q) Wo.cs ((gt i).getD k default)).hd.cls), .int .i64 ((objT (slWs (fwdW Wo.ws Wo.cs q q.length) Wo.cs Wo.sp q) Wo.cs ((gt i).getD k default)).hd.age), .int .i64 ((objT (slWs (fwdW Wo.ws Wo.cs q q.length) Wo.cs Wo.sp q) Wo.cs ((gt i).getD k default)).hd.fwd), .bool ((objT (slWs (fwdW Wo.ws Wo.cs q q.length) Wo.cs Wo.sp q) Wo.cs ((gt i).getD k default)).hd.mark), .bool ((objT (slWs (fwdW Wo.ws Wo.cs q q.length) Wo.cs Wo.sp q) Wo.cs ((gt i).getD k default)).hd.final), .bool ((objT (slWs (fwdW Wo.ws Wo.cs q q.length) Wo.cs Wo.sp q) Wo.cs ((gt i).getD k default)).hd.done)]) rfl ?_
            intro w hp
            refine andS ⟨hp.at 1 rfl, hp.at 2 rfl, hp.at 3 rfl, hp.at 4 rfl, hp.at 5 rfl, hp.at 6 rfl, hp.at 7 rfl, hp.at 8 rfl, hp.at 9 rfl, hp.at 10 rfl, hp.at 11 rfl, hp.at 12 rfl, hp.old0 hC, hp.old0 hTh, hp.old0 hRf, hp.old0 hRo, trivial⟩ fun hS0 => ?_
            refine WD.v 12 rfl hS0 (fun w hS => (X.as rfl)) ?_
            refine WD.nil (by kernel_rfl) ?_
            exact X.here b20 ⟨rfl, rfl, rfl, rfl, rfl, rfl, rfl, rfl, rfl, rfl, trivial⟩ (by
              exact hp)
          rintro bh2 w hp
          refine W.seq ?_
          refine W.seq ?_
          refine W.draw prog_mixed (fun w => (blkR bh2 (.cells (#[.int .i64 ((objT (slWs (fwdW Wo.ws Wo.cs q q.length) Wo.cs Wo.sp q) Wo.cs ((gt i).getD k default)).hd.cls), .int .i64 ((objT (slWs (fwdW Wo.ws Wo.cs q q.length) Wo.cs Wo.sp q) Wo.cs ((gt i).getD k default)).hd.age), .int .i64 ((objT (slWs (fwdW Wo.ws Wo.cs q q.length) Wo.cs Wo.sp q) Wo.cs ((gt i).getD k default)).hd.fwd), .bool ((objT (slWs (fwdW Wo.ws Wo.cs q q.length) Wo.cs Wo.sp q) Wo.cs ((gt i).getD k default)).hd.mark), .bool ((objT (slWs (fwdW Wo.ws Wo.cs q q.length) Wo.cs Wo.sp q) Wo.cs ((gt i).getD k default)).hd.final), .bool ((objT (slWs (fwdW Wo.ws Wo.cs q q.length) Wo.cs Wo.sp q) Wo.cs ((gt i).getD k default)).hd.done)]) 56 (0, 0))).ok w ∧ (ownR 3 encI 1 s17 ((gt i))).ok w ∧ (arenaR p b (slWs (fwdW Wo.ws Wo.cs q q.length) Wo.cs Wo.sp q)).ok w ∧ (ownR 3 encI 1 o11 (Wo.roots.map fun a => ((slG (fwdW Wo.ws Wo.cs q q.length) Wo.cs Wo.sp q) a).getD 0)).ok w ∧ (ownR 44 encS 3 now12 (slNow (fwdW Wo.ws Wo.cs q q.length) Wo.cs Wo.sp q)).ok w ∧ (ownR 60 encH 6 v (headsL Wo.ws Wo.cs q)).ok w ∧ (blkR b3 (.cells (#[.pointer (some ⟨p, 0, none⟩), .pointer (some ⟨t, 0, none⟩), .pointer (some ⟨p, 0, none⟩), .pointer (some ⟨t, 0, none⟩), sp, at_, sy, rt, cv]) 37 (0, 0))).ok w ∧ (tableR t c0 Wo.cs).ok w ∧ (ownR 44 encS 3 sp Wo.sp).ok w ∧ (ownR 3 encI 1 at_ Wo.al).ok w ∧ (ownR 3 encI 1 sy q).ok w ∧ (ownR 3 encI 1 rt Wo.roots).ok w ∧ (blkR b1 (.cells (#[cv, tv, fv, ov, .int .u8 Wo.z0, .int .u8 Wo.z1, .int .u8 Wo.z2]) 28 (0, 0))).ok w ∧ (viewR clsV 4 cv Wo.cs).ok w ∧ (viewR encTh 4 tv Wo.ths).ok w ∧ (viewR encR3 3 fv Wo.rfs).ok w ∧ (viewR encU8 1 ov Wo.ros).ok w ∧ True) hp ?_
          intro w hp
          refine WD.s ⟨hp.at 0 rfl, hp.at 1 rfl, hp.at 2 rfl, hp.at 3 rfl, hp.at 4 rfl, hp.at 5 rfl, hp.at 6 rfl, hp.at 7 rfl, hp.at 8 rfl, hp.at 9 rfl, hp.at 10 rfl, hp.at 11 rfl, hp.at 12 rfl, hp.old0 hC, hp.old0 hTh, hp.old0 hRf, hp.old0 hRo, trivial⟩ fun hS0 => ?_
          refine WD.v 0 rfl hS0 (fun w hS => (X.mv rfl)) ?_
          refine WD.v 1 rfl hS0 (fun w hS => (X.mv rfl)) ?_
          refine WD.v 2 rfl hS0 (fun w hS => (view_len tL54 (own_view hS.2.2.2.2.2.1) rfl)) ?_
          refine WD.v 3 rfl hS0 (fun w hS => (X.geq rfl rfl)) ?_
          refine WD.v 4 rfl hS0 (fun w hS => (X.mv rfl)) ?_
          have hc21 : ¬ (((headsL Wo.ws Wo.cs q).length : Int) ≤ n2) := by omega
          refine WD.gv 5 rfl rfl rfl rfl (decide_eq_false hc21) hS0 (fun w hS => (X.ldkA hS.1 tA56 tS56 (vs := [.int .i64 ((objT (slWs (fwdW Wo.ws Wo.cs q q.length) Wo.cs Wo.sp q) Wo.cs ((gt i).getD k default)).hd.cls), .int .i64 ((objT (slWs (fwdW Wo.ws Wo.cs q q.length) Wo.cs Wo.sp q) Wo.cs ((gt i).getD k default)).hd.age), .int .i64 ((objT (slWs (fwdW Wo.ws Wo.cs q q.length) Wo.cs Wo.sp q) Wo.cs ((gt i).getD k default)).hd.fwd), .bool ((objT (slWs (fwdW Wo.ws Wo.cs q q.length) Wo.cs Wo.sp q) Wo.cs ((gt i).getD k default)).hd.mark), .bool ((objT (slWs (fwdW Wo.ws Wo.cs q q.length) Wo.cs Wo.sp q) Wo.cs ((gt i).getD k default)).hd.final), .bool ((objT (slWs (fwdW Wo.ws Wo.cs q q.length) Wo.cs Wo.sp q) Wo.cs ((gt i).getD k default)).hd.done)]) rfl rfl)) ?_
          refine WD.gv 6 rfl rfl rfl rfl (decide_eq_false hc21) hS0 (fun w hS => (X.mv rfl)) ?_
          refine WD.gv 7 rfl rfl rfl rfl (decide_eq_false hc21) hS0 (fun w hS => (X.mv rfl)) ?_
          refine WD.gv 8 rfl rfl rfl rfl (decide_eq_false hc21) hS0 (fun w hS => (X.idxV (j := n2.toNat) (r := offOf v + n2.toNat * 6) tL54 tS60 (own_view hS.2.2.2.2.2.1) rfl rfl (by omega) (by omega) rfl)) ?_
          refine WD.gv 9 rfl rfl rfl rfl (decide_eq_false hc21) hS0 (fun w hS => (X.ldA tA60 tS60 rfl (cs := [.int .i64 (((headsL Wo.ws Wo.cs q).getD n2.toNat default).cls), .int .i64 (((headsL Wo.ws Wo.cs q).getD n2.toNat default).age), .int .i64 (((headsL Wo.ws Wo.cs q).getD n2.toNat default).fwd), .bool (((headsL Wo.ws Wo.cs q).getD n2.toNat default).mark), .bool (((headsL Wo.ws Wo.cs q).getD n2.toNat default).final), .bool (((headsL Wo.ws Wo.cs q).getD n2.toNat default).done)]) (view_cells (own_view hS.2.2.2.2.2.1) (get_some (by omega)) (by omega)))) ?_
          refine WD.gv 10 rfl rfl rfl rfl (decide_eq_false hc21) hS0 (fun w hS => (X.neA (ks := [.i .i64, .i .i64, .i .i64, .b, .b, .b]) (by kernel_rfl) rfl rfl rfl rfl (encH_eq ((objT (slWs (fwdW Wo.ws Wo.cs q q.length) Wo.cs Wo.sp q) Wo.cs ((gt i).getD k default)).hd) ((headsL Wo.ws Wo.cs q).getD n2.toNat default)))) ?_
          refine WD.v 11 rfl hS0 (fun w hS => (X.pkF rfl (decide_eq_false hc21) rfl)) ?_
          refine WD.nil (by kernel_rfl) ?_
          refine X.thenN ?_
          have hc22 : ((objT (slWs (fwdW Wo.ws Wo.cs q q.length) Wo.cs Wo.sp q) Wo.cs ((gt i).getD k default)).hd) = ((headsL Wo.ws Wo.cs q).getD n2.toNat default) := hhs.2
          refine W.cF rfl (congrArg not (decide_eq_true hc22)) ?_
          refine W.kr ?_
          refine WL.run 1 rfl ?_
          refine WL.v (X.add rfl rfl (in64 (by omega))) ?_
          refine WL.run 1 rfl ?_
          refine WL.nil ?_
          refine X.inN ?_
          refine X.thenN ?_
          refine W.reg ?_
          refine WL.v (X.add rfl rfl (in64 (by omega))) ?_
          refine WL.run 1 rfl ?_
          refine WL.nil ?_
          refine X.again (k + 1, n2 + 1) ⟨rfl, rfl, rfl, rfl, rfl, rfl, rfl, rfl, rfl, trivial⟩ ?_ ?_
          · exact ⟨(hp.sel [1, 2, 3, 4, 5, 6, 7, 8, 9, 10, 11, 12] (by decide)), by omega, by omega⟩
          · dsimp only; omega
        refine W.cF rfl (decide_eq_false hc18) ?_
        refine W.exit ?_
        refine X.thenE ?_
        refine X.thenE ?_
        refine X.inH ?_
        refine X.inN ?_
        refine X.thenN ?_
        refine W.reg ?_
        refine WL.v (X.add rfl rfl (in64 (by omega))) ?_
        refine WL.run 1 rfl ?_
        refine WL.nil ?_
        refine X.again (i + 1, n2) ⟨rfl, rfl, rfl, rfl, rfl, rfl, trivial⟩ ?_ ?_
        · exact ⟨(hp.sel [1, 2, 3, 4, 5, 6, 7, 8, 9, 10, 11] (by decide)), by omega, by rw [catF, List.length_append]; omega⟩
        · dsimp only; omega
      (try simp only [fillW_length, moveW_length, List.length_set] at hw16); first | contradiction | (exfalso; omega) | (exfalso; simp_all; done)
    refine W.cF rfl (decide_eq_false hc15) ?_
    refine W.exit ?_
    refine X.thenE ?_
    refine X.thenE ?_
    refine X.inH ?_
    refine X.thenN ?_
    refine W.sr ?_
    refine WL.run 2 rfl ?_
    refine WL.v (view_len tL54 (own_view (hp.at 3 rfl)) rfl) ?_
    refine WL.run 2 rfl ?_
    refine WL.fin ?_
    refine W.ret ?_
    refine W.done hp (rs := [.tmp 2]) (vs := [.bool (decide (n = ((headsL Wo.ws Wo.cs q).length : Int)))]) (v := .bool (decide (n = ((headsL Wo.ws Wo.cs q).length : Int)))) rfl ⟨rfl, trivial⟩ rfl ?_
    have hie2 : i = (slNow (fwdW Wo.ws Wo.cs q q.length) Wo.cs Wo.sp q).length := by omega
    have hct := congrArg List.length hWk.cat
    rw [hie2] at hn
    exact bool_val (by simp; omega)
  exact absurd hr0.1 he13
end Go.Proofs.Ytmmmbkmjkpfleaa
