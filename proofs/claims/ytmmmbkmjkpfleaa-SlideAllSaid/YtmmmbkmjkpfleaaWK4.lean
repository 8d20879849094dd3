/- Walks, printed by gen.py from the specs K4: what each function answers. No statement of the seat is proved here; conditions: each theorem's own. -/
import Derived.Test.YtmmmbkmjkpfleaaPureT
import Derived.Test.YtmmmbkmjkpfleaaWJ
namespace Go.Proofs.Ytmmmbkmjkpfleaa
open Go Go.RowKit

set_option maxHeartbeats 4000000 in
theorem SlideAll_c {w0 : World} {cv tv fv ov : Value} {Wo : Wd} (hC : (viewR clsV 4 cv Wo.cs).ok w0) (hTh : (viewR encTh 4 tv Wo.ths).ok w0) (hRf : (viewR encR3 3 fv Wo.rfs).ok w0) (hRo : (viewR encU8 1 ov Wo.ros).ok w0) (hWb : Wo.Bd)  (hWs : Wo.Sz) :
    Calls Try.prog 6 #[.agg #[cv, tv, fv, ov, .int .u8 Wo.z0, .int .u8 Wo.z1, .int .u8 Wo.z2]] w0 (Ret [] w0 (fun v _ => v = .bool true)) := by
  have hp : Hp w0 [] [] w0 := Hp.init w0
  refine enter (vs := [.agg #[cv, tv, fv, ov, .int .u8 Wo.z0, .int .u8 Wo.z1, .int .u8 Wo.z2]]) Try.func6 rfl rfl rfl ?_
  refine gen_world hp ?_
  intro w hp
  refine W.sr ?_
  refine WL.box hp rfl (cs := #[cv, tv, fv, ov, .int .u8 Wo.z0, .int .u8 Wo.z1, .int .u8 Wo.z2]) rfl rfl ?_
  intro b1 w hp
  refine WL.run 1 rfl ?_
  refine WL.s ?_
  refine W.sr ?_
  refine WL.run 1 rfl ?_
  refine WL.v (X.ldk (hp.at 0 rfl) tA23 rfl rfl) ?_
  refine WL.v (view_len tL23 (hp.old0 hTh) rfl) ?_
  refine WL.run 1 rfl ?_
  refine WL.fin ?_
  refine W.block ?_
  refine W.loop (X := Nat) (fun i => Wo.ths.length - i) (fun i => [(1, .pointer (some ⟨b1, 0, none⟩)), (17, .int .i64 (Wo.ths.length : Int)), (18, .int .i64 (i : Int))]) (fun i w => Hp w0 [] [blkR b1 (.cells (#[cv, tv, fv, ov, .int .u8 Wo.z0, .int .u8 Wo.z1, .int .u8 Wo.z2]) 28 (0, 0))] w ∧ i ≤ Wo.ths.length ∧ ∀ j : Nat, j < i → (j : Int) < 60 → (0 : Int) < (Wo.cs.length : Int) → ¬ (Wo.ths.getD j default).c % ((Wo.cs.length : Int) + 1) = 0) 0 ⟨rfl, rfl, rfl, trivial⟩ ?_ ?_
  · exact ⟨hp, by omega, fun j hj => by omega⟩
  rintro i w ⟨hp, hi, hno⟩
  refine W.sr ?_
  refine WL.run 1 rfl ?_
  refine WL.s ?_
  by_cases hc2 : (i : Int) < (Wo.ths.length : Int)
  · refine W.cT rfl (decide_eq_true hc2) ?_
    refine W.k ?_
    refine W.seq ?_
    refine W.block ?_
    refine W.sr ?_
    refine WL.run 2 rfl ?_
    refine WL.s ?_
    have hlt0 : i < Wo.ths.length := by omega
    have hthb := hWb.th _ (mem_getD hlt0)
    have hcll := hWs.cs
    have hthl := view_len_le hTh
    refine W.draw prog_mixed (fun w => (blkR b1 (.cells (#[cv, tv, fv, ov, .int .u8 Wo.z0, .int .u8 Wo.z1, .int .u8 Wo.z2]) 28 (0, 0))).ok w ∧ (viewR clsV 4 cv Wo.cs).ok w ∧ (viewR encTh 4 tv Wo.ths).ok w ∧ (viewR encR3 3 fv Wo.rfs).ok w ∧ (viewR encU8 1 ov Wo.ros).ok w ∧ True) hp ?_
    intro w hp
    refine WD.s ⟨hp.at 0 rfl, hp.old0 hC, hp.old0 hTh, hp.old0 hRf, hp.old0 hRo, trivial⟩ fun hS0 => ?_
    refine WD.v 0 rfl hS0 (fun w hS => (X.mv rfl)) ?_
    refine WD.v 1 rfl hS0 (fun w hS => (X.lss rfl rfl)) ?_
    refine WD.v 2 rfl hS0 (fun w hS => (X.mv rfl)) ?_
    by_cases hc3 : (i : Int) < 60
    · refine WD.gv 3 rfl rfl rfl rfl (decide_eq_true hc3) hS0 (fun w hS => (X.fa (r := 0) tF28_0 rfl rfl)) ?_
      refine WD.gv 4 rfl rfl rfl rfl (decide_eq_true hc3) hS0 (fun w hS => (X.ldk hS.1 tA22 rfl rfl)) ?_
      refine WD.gv 5 rfl rfl rfl rfl (decide_eq_true hc3) hS0 (fun w hS => (view_len tL22 hS.2.1 rfl)) ?_
      refine WD.gv 6 rfl rfl rfl rfl (decide_eq_true hc3) hS0 (fun w hS => (X.gtr rfl rfl)) ?_
      refine WD.v 7 rfl hS0 (fun w hS => (X.pkT rfl (decide_eq_true hc3) rfl)) ?_
      refine WD.v 8 rfl hS0 (fun w hS => (X.mv rfl)) ?_
      by_cases hc4 : 0 < (Wo.cs.length : Int)
      · refine WD.gv 9 rfl rfl rfl rfl (decide_eq_true hc4) hS0 (fun w hS => (X.fa (r := 1) tF28_1 rfl rfl)) ?_
        refine WD.gv 10 rfl rfl rfl rfl (decide_eq_true hc4) hS0 (fun w hS => (X.ldk hS.1 tA23 rfl rfl)) ?_
        refine WD.gv 11 rfl rfl rfl rfl (decide_eq_true hc4) hS0 (fun w hS => (X.mv rfl)) ?_
        refine WD.gv 12 rfl rfl rfl rfl (decide_eq_true hc4) hS0 (fun w hS => (X.idxV (j := i) (r := offOf tv + i * 4) tL23 tS63 hS.2.2.1 rfl rfl (by omega) (by omega) rfl)) ?_
        refine WD.gv 13 rfl rfl rfl rfl (decide_eq_true hc4) hS0 (fun w hS => (X.fa (r := offOf tv + i * 4) tF63_0 rfl rfl)) ?_
        refine WD.gv 14 rfl rfl rfl rfl (decide_eq_true hc4) hS0 (fun w hS => (X.ld1 tA5 rfl (view_cell (j := i) (f := 0) hS.2.2.1 (get_some (by omega)) rfl (by omega)))) ?_
        refine WD.gv 15 rfl rfl rfl rfl (decide_eq_true hc4) hS0 (fun w hS => (X.conv (b := (Wo.ths.getD i default).c) tI5 tI3 rfl (wrap_in64 (in64 (by omega))))) ?_
        refine WD.gv 16 rfl rfl rfl rfl (decide_eq_true hc4) hS0 (fun w hS => (X.fa (r := 0) tF28_0 rfl rfl)) ?_
        refine WD.gv 17 rfl rfl rfl rfl (decide_eq_true hc4) hS0 (fun w hS => (X.ldk hS.1 tA22 rfl rfl)) ?_
        refine WD.gv 18 rfl rfl rfl rfl (decide_eq_true hc4) hS0 (fun w hS => (view_len tL22 hS.2.1 rfl)) ?_
        refine WD.gv 19 rfl rfl rfl rfl (decide_eq_true hc4) hS0 (fun w hS => (X.add rfl rfl (in64 (by omega)))) ?_
        refine WD.gv 20 rfl rfl rfl rfl (decide_eq_true hc4) hS0 (fun w hS => (X.rem rfl rfl (by omega))) ?_
        refine WD.gv 21 rfl rfl rfl rfl (decide_eq_true hc4) hS0 (fun w hS => (X.eql rfl rfl)) ?_
        refine WD.v 22 rfl hS0 (fun w hS => (X.pkT rfl (decide_eq_true hc4) rfl)) ?_
        refine WD.nil (by kernel_rfl) ?_
        refine X.thenN ?_
        by_cases hc5 : (((Wo.ths.getD i default).c) % ((Wo.cs.length : Int) + 1)) = 0
        · refine W.cT rfl (decide_eq_true hc5) ?_
          refine W.sr ?_
          refine WL.call isFn9 rfl rfl awake_c ?_
          intro v w hc hr
          obtain rfl := hr
          have hp := hp.ext hc
          refine WL.run 1 rfl ?_
          refine WL.fin ?_
          refine W.ret ?_
          refine X.inR ?_
          refine X.thenR ?_
          refine X.thenR ?_
          refine X.inR ?_
          refine X.thenR ?_
          refine W.done hp (rs := [.tmp 2]) (vs := [.bool true]) (v := .bool true) rfl ⟨rfl, trivial⟩ rfl ?_
          exact rfl
        refine W.cF rfl (decide_eq_false hc5) ?_
        refine W.skip ?_
        refine X.inN ?_
        refine X.thenN ?_
        refine W.reg ?_
        refine WL.v (X.add rfl rfl (in64 (by omega))) ?_
        refine WL.run 1 rfl ?_
        refine WL.nil ?_
        refine X.again (i + 1) ⟨rfl, rfl, rfl, trivial⟩ ?_ ?_
        · exact ⟨hp, by omega, fun j hj h60 hcl => by
            by_cases hji : j = i
            · subst hji; first | assumption | (exfalso; omega)
            · exact hno j (by omega) h60 hcl⟩
        · omega
      refine WD.g0 9 rfl (by kernel_rfl) rfl rfl rfl (decide_eq_false hc4) rfl (fun _ _ _ h => h) hS0 ?_
      refine WD.g0 10 rfl (by kernel_rfl) rfl rfl rfl (decide_eq_false hc4) rfl (fun _ _ _ h => h) hS0 ?_
      refine WD.g0 11 rfl (by kernel_rfl) rfl rfl rfl (decide_eq_false hc4) rfl (fun _ _ _ h => h) hS0 ?_
      refine WD.g0 12 rfl (by kernel_rfl) rfl rfl rfl (decide_eq_false hc4) rfl (fun _ _ _ h => h) hS0 ?_
      refine WD.g0 13 rfl (by kernel_rfl) rfl rfl rfl (decide_eq_false hc4) rfl (fun _ _ _ h => h) hS0 ?_
      refine WD.g0 14 rfl (by kernel_rfl) rfl rfl rfl (decide_eq_false hc4) rfl (fun _ _ _ h => h) hS0 ?_
      refine WD.g0 15 rfl (by kernel_rfl) rfl rfl rfl (decide_eq_false hc4) rfl (fun _ _ _ h => h) hS0 ?_
      refine WD.g0 16 rfl (by kernel_rfl) rfl rfl rfl (decide_eq_false hc4) rfl (fun _ _ _ h => h) hS0 ?_
      refine WD.g0 17 rfl (by kernel_rfl) rfl rfl rfl (decide_eq_false hc4) rfl (fun _ _ _ h => h) hS0 ?_
      refine WD.g0 18 rfl (by kernel_rfl) rfl rfl rfl (decide_eq_false hc4) rfl (fun _ _ _ h => h) hS0 ?_
      refine WD.g0 19 rfl (by kernel_rfl) rfl rfl rfl (decide_eq_false hc4) rfl (fun _ _ _ h => h) hS0 ?_
      refine WD.g0 20 rfl (by kernel_rfl) rfl rfl rfl (decide_eq_false hc4) rfl (fun _ _ _ h => h) hS0 ?_
      refine WD.g0 21 rfl (by kernel_rfl) rfl rfl rfl (decide_eq_false hc4) rfl (fun _ _ _ h => h) hS0 ?_
      refine WD.v 22 rfl hS0 (fun w hS => (X.pkF rfl (decide_eq_false hc4) rfl)) ?_
      refine WD.nil (by kernel_rfl) ?_
      refine X.thenN ?_
      refine W.cF rfl rfl ?_
      refine W.skip ?_
      refine X.inN ?_
      refine X.thenN ?_
      refine W.reg ?_
      refine WL.v (X.add rfl rfl (in64 (by omega))) ?_
      refine WL.run 1 rfl ?_
      refine WL.nil ?_
      refine X.again (i + 1) ⟨rfl, rfl, rfl, trivial⟩ ?_ ?_
      · exact ⟨hp, by omega, fun j hj h60 hcl => by
          by_cases hji : j = i
          · subst hji; first | assumption | (exfalso; omega)
          · exact hno j (by omega) h60 hcl⟩
      · omega
    refine WD.g0 3 rfl (by kernel_rfl) rfl rfl rfl (decide_eq_false hc3) rfl (fun _ _ _ h => h) hS0 ?_
    refine WD.g0 4 rfl (by kernel_rfl) rfl rfl rfl (decide_eq_false hc3) rfl (fun _ _ _ h => h) hS0 ?_
    refine WD.g0 5 rfl (by kernel_rfl) rfl rfl rfl (decide_eq_false hc3) rfl (fun _ _ _ h => h) hS0 ?_
    refine WD.g0 6 rfl (by kernel_rfl) rfl rfl rfl (decide_eq_false hc3) rfl (fun _ _ _ h => h) hS0 ?_
    refine WD.v 7 rfl hS0 (fun w hS => (X.pkF rfl (decide_eq_false hc3) rfl)) ?_
    refine WD.v 8 rfl hS0 (fun w hS => (X.mv rfl)) ?_
    refine WD.g0 9 rfl (by kernel_rfl) rfl rfl rfl rfl rfl (fun _ _ _ h => h) hS0 ?_
    refine WD.g0 10 rfl (by kernel_rfl) rfl rfl rfl rfl rfl (fun _ _ _ h => h) hS0 ?_
    refine WD.g0 11 rfl (by kernel_rfl) rfl rfl rfl rfl rfl (fun _ _ _ h => h) hS0 ?_
    refine WD.g0 12 rfl (by kernel_rfl) rfl rfl rfl rfl rfl (fun _ _ _ h => h) hS0 ?_
    refine WD.g0 13 rfl (by kernel_rfl) rfl rfl rfl rfl rfl (fun _ _ _ h => h) hS0 ?_
    refine WD.g0 14 rfl (by kernel_rfl) rfl rfl rfl rfl rfl (fun _ _ _ h => h) hS0 ?_
    refine WD.g0 15 rfl (by kernel_rfl) rfl rfl rfl rfl rfl (fun _ _ _ h => h) hS0 ?_
    refine WD.g0 16 rfl (by kernel_rfl) rfl rfl rfl rfl rfl (fun _ _ _ h => h) hS0 ?_
    refine WD.g0 17 rfl (by kernel_rfl) rfl rfl rfl rfl rfl (fun _ _ _ h => h) hS0 ?_
    refine WD.g0 18 rfl (by kernel_rfl) rfl rfl rfl rfl rfl (fun _ _ _ h => h) hS0 ?_
    refine WD.g0 19 rfl (by kernel_rfl) rfl rfl rfl rfl rfl (fun _ _ _ h => h) hS0 ?_
    refine WD.g0 20 rfl (by kernel_rfl) rfl rfl rfl rfl rfl (fun _ _ _ h => h) hS0 ?_
    refine WD.g0 21 rfl (by kernel_rfl) rfl rfl rfl rfl rfl (fun _ _ _ h => h) hS0 ?_
    refine WD.v 22 rfl hS0 (fun w hS => (X.pkF rfl rfl rfl)) ?_
    refine WD.nil (by kernel_rfl) ?_
    refine X.thenN ?_
    refine W.cF rfl rfl ?_
    refine W.skip ?_
    refine X.inN ?_
    refine X.thenN ?_
    refine W.reg ?_
    refine WL.v (X.add rfl rfl (in64 (by omega))) ?_
    refine WL.run 1 rfl ?_
    refine WL.nil ?_
    refine X.again (i + 1) ⟨rfl, rfl, rfl, trivial⟩ ?_ ?_
    · exact ⟨hp, by omega, fun j hj h60 hcl => by
        by_cases hji : j = i
        · subst hji; first | assumption | (exfalso; omega)
        · exact hno j (by omega) h60 hcl⟩
    · omega
  refine W.cF rfl (decide_eq_false hc2) ?_
  refine W.exit ?_
  refine X.thenE ?_
  refine X.thenE ?_
  refine X.inH ?_
  refine X.thenN ?_
  refine W.sr ?_
  refine WL.v (X.ldkA (hp.at 0 rfl) tA28 tS28 (vs := [cv, tv, fv, ov, .int .u8 Wo.z0, .int .u8 Wo.z1, .int .u8 Wo.z2]) rfl rfl) ?_
  refine WL.call isFn8 rfl rfl (made16_c (cs := Wo.cs) (ths := Wo.ths) (rfs := Wo.rfs) (ros := Wo.ros) (hp.old0 hC) (hp.old0 hTh) (hp.old0 hRf) (hp.old0 hRo) hWb.th hWb.rf hWb.ro hWb.z0 hWb.z1 hWb.z2) ?_
  intro v w hc hr
  rcases hr with rfl | ⟨hok, p, b, t, c0, sp, at_, sy, rt, q, hst, rfl, hN⟩
  · have hp := hp.ext hc
    refine WL.run 3 rfl ?_
    refine WL.alloc hp tZ37 rfl ?_
    intro b6 w hp
    refine WL.store hp 0 rfl tS37 rfl rfl (vs := [.pointer none, .pointer none, .pointer none, .pointer none, .slice none 0 0, .slice none 0 0, .slice none 0 0, .slice none 0 0, .slice none 0 0]) rfl rfl rfl (new := #[.pointer none, .pointer none, .pointer none, .pointer none, .slice none 0 0, .slice none 0 0, .slice none 0 0, .slice none 0 0, .slice none 0 0]) rfl ?_
    intro w hp
    refine WL.run 1 rfl ?_
    refine WL.s ?_
    refine W.sr ?_
    refine WL.call isFn9 rfl rfl awake_c ?_
    intro v w hc hr
    obtain rfl := hr
    have hp := hp.ext hc
    refine WL.run 2 rfl ?_
    refine WL.g1 rfl rfl rfl ?_
    refine WL.run 1 rfl ?_
    refine WL.g1 rfl rfl rfl ?_
    refine WL.run 1 rfl ?_
    refine WL.v (X.pkF rfl rfl rfl) ?_
    refine WL.fin ?_
    refine W.cT rfl rfl ?_
    refine W.sr ?_
    refine WL.call isFn9 rfl rfl awake_c ?_
    intro v w hc hr
    obtain rfl := hr
    have hp := hp.ext hc
    refine WL.run 1 rfl ?_
    refine WL.fin ?_
    refine W.ret ?_
    refine X.thenR ?_
    refine W.done hp (rs := [.tmp 2]) (vs := [.bool true]) (v := .bool true) rfl ⟨rfl, trivial⟩ rfl ?_
    exact rfl
  have hp := hp.adds hN
  have hp : Hp w0 [] [arenaR p b Wo.ws, tableR t c0 Wo.cs, ownR 44 encS 3 sp Wo.sp, ownR 3 encI 1 at_ Wo.al, ownR 3 encI 1 sy q, ownR 3 encI 1 rt Wo.roots, blkR b1 (.cells (#[cv, tv, fv, ov, .int .u8 Wo.z0, .int .u8 Wo.z1, .int .u8 Wo.z2]) 28 (0, 0))] w := hp
  have hg : Wo.Good q := Wd.good hWb hok hst
  have hcs := hg.hcs
  have hql := hg.qlen
  have hrl := hg.rlen
  have hal := hg.allen
  have hlen5 := hg.inv.len
  have hsp3 := hg.inv.sp3
  refine WL.run 3 rfl ?_
  refine WL.alloc hp tZ37 rfl ?_
  intro b7 w hp
  refine WL.store hp 0 rfl tS37 rfl rfl (vs := [.pointer (some ⟨p, 0, none⟩), .pointer (some ⟨t, 0, none⟩), .pointer (some ⟨p, 0, none⟩), .pointer (some ⟨t, 0, none⟩), sp, at_, sy, rt, cv]) rfl (by first | (simp only [List.all_cons, List.all_nil, Bool.and_true, view_one (own_view (hp.at 3 rfl)), view_one (own_view (hp.at 4 rfl)), view_one (own_view (hp.at 5 rfl)), view_one (own_view (hp.at 6 rfl)), view_one (hp.old0 hC)]; done) | (simp only [List.all_cons, List.all_nil, Bool.and_true, one_int, one_bool, one_ptr, one_map, one_sl, view_one (own_view (hp.at 3 rfl)), view_one (own_view (hp.at 4 rfl)), view_one (own_view (hp.at 5 rfl)), view_one (own_view (hp.at 6 rfl)), view_one (hp.old0 hC)]; done) | simp [Value.oneCell', view_one (own_view (hp.at 3 rfl)), view_one (own_view (hp.at 4 rfl)), view_one (own_view (hp.at 5 rfl)), view_one (own_view (hp.at 6 rfl)), view_one (hp.old0 hC)]) rfl (new := #[.pointer (some ⟨p, 0, none⟩), .pointer (some ⟨t, 0, none⟩), .pointer (some ⟨p, 0, none⟩), .pointer (some ⟨t, 0, none⟩), sp, at_, sy, rt, cv]) rfl ?_
  intro w hp
  refine WL.run 1 rfl ?_
  refine WL.s ?_
  refine W.sr ?_
  refine WL.call isFn9 rfl rfl awake_c ?_
  intro v w hc hr
  obtain rfl := hr
  have hp := hp.ext hc
  refine WL.run 2 rfl ?_
  refine WL.g1 rfl rfl rfl ?_
  refine WL.run 1 rfl ?_
  refine WL.g1 rfl rfl rfl ?_
  refine WL.run 1 rfl ?_
  refine WL.v (X.pkF rfl rfl rfl) ?_
  refine WL.fin ?_
  refine W.cF rfl rfl ?_
  refine W.ks ?_
  refine WL.run 1 rfl ?_
  refine WL.v (X.ldk (hp.at 0 rfl) tA35 rfl rfl) ?_
  refine WL.call isFn19 rfl rfl (sorted_c (own_view (hp.at 4 rfl)) (by omega)) ?_
  intro v11 w hc hr
  obtain ⟨q8, hs9, hs10, hN⟩ := hr
  have hp := hp.newN hc hN
  refine WL.run 1 rfl ?_
  refine WL.s ?_
  have hqs := hg.inv.all hg.clo hcs hs10 hs9
  have hr0 := run_of (rt := []) hcs hg.inv hqs (fun x hx => absurd hx (List.not_mem_nil))
  have hql2 : q8.length ≤ 60 := by have := hs9.length_eq; omega
  have hths : Wo.ths.length ≤ 60 := hok.ths
  have hcne : 0 < Wo.cs.length := List.length_pos_iff.2 hok.ne
  have hnog : ∀ x ∈ Wo.ths, ¬ x.c % (Wo.cs.length + 1) = 0 := all_of_get fun j hj => hno j (by omega) (by omega) (by omega)
  have hful := Wd.full hg hnog
  have hpq := hs9
  refine W.reg ?_
  refine WL.run 1 rfl ?_
  refine WL.v (X.ldk (hp.at 1 rfl) tA30 rfl rfl) ?_
  refine WL.run 1 rfl ?_
  refine WL.v (X.ldk (hp.at 1 rfl) tA31 rfl rfl) ?_
  refine WL.run 1 rfl ?_
  refine WL.v (X.ldk (hp.at 1 rfl) tA34 rfl rfl) ?_
  refine WL.run 1 rfl ?_
  have hp := hp.sel [2, 0, 1, 3, 4, 5, 6, 7, 8] (by decide)
  refine WL.call isFn14 rfl rfl (run_c (l := Wo.sp) (st := q8) (rt := []) (hp.at 0 rfl) (hp.at 3 rfl) (foot_dis hp (i := 3) (j := 0) rfl rfl (by decide)) (own_view (hp.at 4 rfl)) (own_view (hp.at 1 rfl)) (view_none encI_len (by omega)) (foot_dis hp (i := 4) (j := 0) rfl rfl (by decide)) (foot_dis hp (i := 1) (j := 0) rfl rfl (by decide)) (by simp [viewR, footV]) (by first | omega | decide) (by first | omega | decide) (by first | omega | decide)) ?_
  intro v w hc hr
  rcases hr with ⟨he14, o12, now13, rfl, hN⟩ | ⟨he14, rfl, hA⟩
  · have hp := Hp.back (Rs := [arenaR p b Wo.ws]) (Rs' := [ownR 3 encI 1 v11 q8, blkR b7 (.cells (#[.pointer (some ⟨p, 0, none⟩), .pointer (some ⟨t, 0, none⟩), .pointer (some ⟨p, 0, none⟩), .pointer (some ⟨t, 0, none⟩), sp, at_, sy, rt, cv]) 37 (0, 0)), tableR t c0 Wo.cs, ownR 44 encS 3 sp Wo.sp, ownR 3 encI 1 at_ Wo.al, ownR 3 encI 1 sy q, ownR 3 encI 1 rt Wo.roots, blkR b1 (.cells (#[cv, tv, fv, ov, .int .u8 Wo.z0, .int .u8 Wo.z1, .int .u8 Wo.z2]) 28 (0, 0))]) hp hN
    have hp : Hp w0 [] [arenaR p b (slWs Wo.ws Wo.cs Wo.sp q8), ownR 3 encI 1 o12 (([]).map fun a => ((slG Wo.ws Wo.cs Wo.sp q8) a).getD 0), ownR 44 encS 3 now13 (slNow Wo.ws Wo.cs Wo.sp q8), ownR 3 encI 1 v11 q8, blkR b7 (.cells (#[.pointer (some ⟨p, 0, none⟩), .pointer (some ⟨t, 0, none⟩), .pointer (some ⟨p, 0, none⟩), .pointer (some ⟨t, 0, none⟩), sp, at_, sy, rt, cv]) 37 (0, 0)), tableR t c0 Wo.cs, ownR 44 encS 3 sp Wo.sp, ownR 3 encI 1 at_ Wo.al, ownR 3 encI 1 sy q, ownR 3 encI 1 rt Wo.roots, blkR b1 (.cells (#[cv, tv, fv, ov, .int .u8 Wo.z0, .int .u8 Wo.z1, .int .u8 Wo.z2]) 28 (0, 0))] w := hp
    have hR := hr0.2
    obtain ⟨gt, hWk⟩ := hR.walks hcs
    have hnl : (slNow Wo.ws Wo.cs Wo.sp q8).length = 3 := by rw [hR.nlen, hsp3]
    have hen := hR.ends hg.inv
    have hr2 := run_none hcs hWk hen.1 hen.2
    have hfg := first_ge hcs hg.inv hpq hful hR hWk
    have hals := all_sum hcs hpq hful hR hWk
    refine WL.run 7 rfl ?_
    refine WL.a ?_
    refine WL.run 1 rfl ?_
    refine WL.v (X.ldk (hp.at 4 rfl) tA30 rfl rfl) ?_
    refine WL.run 1 rfl ?_
    refine WL.v (X.ldk (hp.at 4 rfl) tA31 rfl rfl) ?_
    refine WL.run 1 rfl ?_
    refine WL.bsl hp (e := 3) (cs := #[.int .i64 0]) rfl (fun _ => by kernel_rfl) rfl ?_
    intro b15 w hp
    have hp := hp.sel [1, 0, 2, 3, 4, 5, 6, 7, 8, 9, 10, 11] (by decide)
    refine WL.call isFn14 rfl rfl (run_c (l := slNow Wo.ws Wo.cs Wo.sp q8) (st := []) (rt := [0]) (hp.at 0 rfl) (hp.at 6 rfl) (foot_dis hp (i := 6) (j := 0) rfl rfl (by decide)) (own_view (hp.at 3 rfl)) (view_none encI_len (by omega)) (view_of_blk (l := [0]) hp 1 rfl encI_len (by omega) rfl (by simp) (by simp)) (foot_dis hp (i := 3) (j := 0) rfl rfl (by decide)) (by simp [viewR, footV]) (foot_dis hp (i := 1) (j := 0) rfl rfl (by decide)) (by first | omega | decide) (by first | omega | decide) (by first | omega | decide)) ?_
    intro v w hc hr
    rcases hr with ⟨he18, o16, now17, rfl, hN⟩ | ⟨he18, rfl, hA⟩
    · have hp := Hp.back (Rs := [arenaR p b (slWs Wo.ws Wo.cs Wo.sp q8)]) (Rs' := [blkR b15 (.cells (#[.int .i64 0]) 3 (0, 0)), ownR 3 encI 1 o12 (([]).map fun a => ((slG Wo.ws Wo.cs Wo.sp q8) a).getD 0), ownR 44 encS 3 now13 (slNow Wo.ws Wo.cs Wo.sp q8), ownR 3 encI 1 v11 q8, blkR b7 (.cells (#[.pointer (some ⟨p, 0, none⟩), .pointer (some ⟨t, 0, none⟩), .pointer (some ⟨p, 0, none⟩), .pointer (some ⟨t, 0, none⟩), sp, at_, sy, rt, cv]) 37 (0, 0)), tableR t c0 Wo.cs, ownR 44 encS 3 sp Wo.sp, ownR 3 encI 1 at_ Wo.al, ownR 3 encI 1 sy q, ownR 3 encI 1 rt Wo.roots, blkR b1 (.cells (#[cv, tv, fv, ov, .int .u8 Wo.z0, .int .u8 Wo.z1, .int .u8 Wo.z2]) 28 (0, 0))]) hp hN
      have hp : Hp w0 [] [arenaR p b (slWs (slWs Wo.ws Wo.cs Wo.sp q8) Wo.cs (slNow Wo.ws Wo.cs Wo.sp q8) ([])), ownR 3 encI 1 o16 (([0]).map fun a => ((slG (slWs Wo.ws Wo.cs Wo.sp q8) Wo.cs (slNow Wo.ws Wo.cs Wo.sp q8) ([])) a).getD 0), ownR 44 encS 3 now17 (slNow (slWs Wo.ws Wo.cs Wo.sp q8) Wo.cs (slNow Wo.ws Wo.cs Wo.sp q8) ([])), blkR b15 (.cells (#[.int .i64 0]) 3 (0, 0)), ownR 3 encI 1 o12 (([]).map fun a => ((slG Wo.ws Wo.cs Wo.sp q8) a).getD 0), ownR 44 encS 3 now13 (slNow Wo.ws Wo.cs Wo.sp q8), ownR 3 encI 1 v11 q8, blkR b7 (.cells (#[.pointer (some ⟨p, 0, none⟩), .pointer (some ⟨t, 0, none⟩), .pointer (some ⟨p, 0, none⟩), .pointer (some ⟨t, 0, none⟩), sp, at_, sy, rt, cv]) 37 (0, 0)), tableR t c0 Wo.cs, ownR 44 encS 3 sp Wo.sp, ownR 3 encI 1 at_ Wo.al, ownR 3 encI 1 sy q, ownR 3 encI 1 rt Wo.roots, blkR b1 (.cells (#[cv, tv, fv, ov, .int .u8 Wo.z0, .int .u8 Wo.z1, .int .u8 Wo.z2]) 28 (0, 0))] w := hp
      skip
      refine WL.run 7 rfl ?_
      refine WL.s ?_
      refine W.seq ?_
      have hn2l : (slNow (slWs Wo.ws Wo.cs Wo.sp q8) Wo.cs (slNow Wo.ws Wo.cs Wo.sp q8) ([])).length = 3 := by rw [hr2.2, List.length_map]; exact hnl
      refine W.reg ?_
      refine WL.run 3 rfl ?_
      refine WL.g1 rfl rfl (decide_eq_false (by decide)) ?_
      refine WL.run 1 rfl ?_
      refine WL.g1 rfl rfl (decide_eq_false (by decide)) ?_
      refine WL.run 1 rfl ?_
      refine WL.v (X.pkF rfl (decide_eq_false (by decide)) rfl) ?_
      refine WL.run 1 rfl ?_
      refine WL.g1 rfl rfl (decide_eq_false (by decide)) ?_
      refine WL.run 1 rfl ?_
      refine WL.g1 rfl rfl (decide_eq_false (by decide)) ?_
      refine WL.v (view_len tL34 (own_view (hp.at 5 rfl)) rfl) ?_
      refine WL.g1 rfl rfl (decide_eq_false (by decide)) ?_
      refine WL.run 1 rfl ?_
      refine WL.v (X.pkF rfl (decide_eq_false (by decide)) rfl) ?_
      refine WL.run 1 rfl ?_
      have hc21 : ¬ (((slNow Wo.ws Wo.cs Wo.sp q8).length : Int) ≠ 3) := by omega
      refine WL.g1 rfl rfl (decide_eq_false hc21) ?_
      refine WL.run 1 rfl ?_
      refine WL.g1 rfl rfl (decide_eq_false hc21) ?_
      refine WL.v (view_len tL34 (own_view (hp.at 2 rfl)) rfl) ?_
      refine WL.g1 rfl rfl (decide_eq_false hc21) ?_
      refine WL.run 1 rfl ?_
      refine WL.v (X.pkF rfl (decide_eq_false hc21) rfl) ?_
      refine WL.fin ?_
      have hc22 : ¬ (((slNow (slWs Wo.ws Wo.cs Wo.sp q8) Wo.cs (slNow Wo.ws Wo.cs Wo.sp q8) ([])).length : Int) ≠ 3) := by omega
      refine W.cF rfl (decide_eq_false hc22) ?_
      refine W.ks ?_
      refine WL.run 1 rfl ?_
      refine WL.s ?_
      refine W.sr ?_
      refine WL.run 1 rfl ?_
      refine WL.v (view_len tL34 (own_view (hp.at 5 rfl)) rfl) ?_
      refine WL.run 1 rfl ?_
      refine WL.fin ?_
      refine W.block ?_
      refine W.loop (X := Nat × Int) (fun x_ => match x_ with | ⟨i, s⟩ => (slNow Wo.ws Wo.cs Wo.sp q8).length - i) (fun x_ => match x_ with | ⟨i, s⟩ => [(4, .pointer (some ⟨b7, 0, none⟩)), (8, now13), (11, now17), (13, .int .i64 s), (101, .int .i64 ((slNow Wo.ws Wo.cs Wo.sp q8).length : Int)), (102, .int .i64 (i : Int))]) (fun x_ w => match x_ with | ⟨i, s⟩ => Hp w0 [] [arenaR p b (slWs (slWs Wo.ws Wo.cs Wo.sp q8) Wo.cs (slNow Wo.ws Wo.cs Wo.sp q8) ([])), ownR 3 encI 1 o16 (([0]).map fun a => ((slG (slWs Wo.ws Wo.cs Wo.sp q8) Wo.cs (slNow Wo.ws Wo.cs Wo.sp q8) ([])) a).getD 0), ownR 44 encS 3 now17 (slNow (slWs Wo.ws Wo.cs Wo.sp q8) Wo.cs (slNow Wo.ws Wo.cs Wo.sp q8) ([])), blkR b15 (.cells (#[.int .i64 0]) 3 (0, 0)), ownR 3 encI 1 o12 (([]).map fun a => ((slG Wo.ws Wo.cs Wo.sp q8) a).getD 0), ownR 44 encS 3 now13 (slNow Wo.ws Wo.cs Wo.sp q8), ownR 3 encI 1 v11 q8, blkR b7 (.cells (#[.pointer (some ⟨p, 0, none⟩), .pointer (some ⟨t, 0, none⟩), .pointer (some ⟨p, 0, none⟩), .pointer (some ⟨t, 0, none⟩), sp, at_, sy, rt, cv]) 37 (0, 0)), tableR t c0 Wo.cs, ownR 44 encS 3 sp Wo.sp, ownR 3 encI 1 at_ Wo.al, ownR 3 encI 1 sy q, ownR 3 encI 1 rt Wo.roots, blkR b1 (.cells (#[cv, tv, fv, ov, .int .u8 Wo.z0, .int .u8 Wo.z1, .int .u8 Wo.z2]) 28 (0, 0))] w ∧ i ≤ (slNow Wo.ws Wo.cs Wo.sp q8).length ∧ s = usedL ((slNow Wo.ws Wo.cs Wo.sp q8).take i) - usedL (Wo.sp.take i)) (0, 0) ⟨rfl, rfl, rfl, rfl, rfl, rfl, trivial⟩ ?_ ?_
      · exact ⟨hp, by omega, by simp [usedL]⟩
      rintro ⟨i, s⟩ w ⟨hp, hi, hs⟩
      refine W.sr ?_
      refine WL.run 1 rfl ?_
      refine WL.s ?_
      by_cases hc23 : (i : Int) < ((slNow Wo.ws Wo.cs Wo.sp q8).length : Int)
      · refine W.cT rfl (decide_eq_true hc23) ?_
        refine W.k ?_
        refine W.seq ?_
        refine W.block ?_
        refine W.sr ?_
        refine WL.run 2 rfl ?_
        refine WL.s ?_
        have hil : i < (slNow Wo.ws Wo.cs Wo.sp q8).length := by omega
        have hus := hWk.used hil
        have hil3 : i < Wo.sp.length := by omega
        have hspr : ∀ j : Nat, j < Wo.sp.length → spR (Wo.sp.getD j default) = true := fun j hj => rise_all hg.inv.rise _ (mem_getD hj)
        have hb1 := usedL_bd hWk.spr (i := i) (by omega)
        have hb2 := usedL_bd hspr (i := i) (by omega)
        have hb3 := usedL_bd hspr (i := i + 1) (by omega)
        rw [usedL_take hspr hil3] at hb3
        have huo : 0 ≤ spUsed (Wo.sp.getD i default) := by
          have h9 := spR_t (hspr i hil3)
          unfold spUsed; rw [if_pos (hspr i hil3)]; omega
        have hm0 : spUsed ((slNow (slWs Wo.ws Wo.cs Wo.sp q8) Wo.cs (slNow Wo.ws Wo.cs Wo.sp q8) ([])).getD i default) = 0 := by rw [hr2.2, getD_map' _ hil]; exact used_empty _
        refine W.draw prog_mixed (fun w => (arenaR p b (slWs (slWs Wo.ws Wo.cs Wo.sp q8) Wo.cs (slNow Wo.ws Wo.cs Wo.sp q8) ([]))).ok w ∧ (ownR 3 encI 1 o16 (([0]).map fun a => ((slG (slWs Wo.ws Wo.cs Wo.sp q8) Wo.cs (slNow Wo.ws Wo.cs Wo.sp q8) ([])) a).getD 0)).ok w ∧ (ownR 44 encS 3 now17 (slNow (slWs Wo.ws Wo.cs Wo.sp q8) Wo.cs (slNow Wo.ws Wo.cs Wo.sp q8) ([]))).ok w ∧ (blkR b15 (.cells (#[.int .i64 0]) 3 (0, 0))).ok w ∧ (ownR 3 encI 1 o12 (([]).map fun a => ((slG Wo.ws Wo.cs Wo.sp q8) a).getD 0)).ok w ∧ (ownR 44 encS 3 now13 (slNow Wo.ws Wo.cs Wo.sp q8)).ok w ∧ (ownR 3 encI 1 v11 q8).ok w ∧ (blkR b7 (.cells (#[.pointer (some ⟨p, 0, none⟩), .pointer (some ⟨t, 0, none⟩), .pointer (some ⟨p, 0, none⟩), .pointer (some ⟨t, 0, none⟩), sp, at_, sy, rt, cv]) 37 (0, 0))).ok w ∧ (tableR t c0 Wo.cs).ok w ∧ (ownR 44 encS 3 sp Wo.sp).ok w ∧ (ownR 3 encI 1 at_ Wo.al).ok w ∧ (ownR 3 encI 1 sy q).ok w ∧ (ownR 3 encI 1 rt Wo.roots).ok w ∧ (blkR b1 (.cells (#[cv, tv, fv, ov, .int .u8 Wo.z0, .int .u8 Wo.z1, .int .u8 Wo.z2]) 28 (0, 0))).ok w ∧ (viewR clsV 4 cv Wo.cs).ok w ∧ (viewR encTh 4 tv Wo.ths).ok w ∧ (viewR encR3 3 fv Wo.rfs).ok w ∧ (viewR encU8 1 ov Wo.ros).ok w ∧ True) hp ?_
        intro w hp
        refine WD.s ⟨hp.at 0 rfl, hp.at 1 rfl, hp.at 2 rfl, hp.at 3 rfl, hp.at 4 rfl, hp.at 5 rfl, hp.at 6 rfl, hp.at 7 rfl, hp.at 8 rfl, hp.at 9 rfl, hp.at 10 rfl, hp.at 11 rfl, hp.at 12 rfl, hp.at 13 rfl, hp.old0 hC, hp.old0 hTh, hp.old0 hRf, hp.old0 hRo, trivial⟩ fun hS0 => ?_
        refine WD.v 0 rfl hS0 (fun w hS => (X.mv rfl)) ?_
        refine WD.v 1 rfl hS0 (fun w hS => (X.mv rfl)) ?_
        refine WD.v 2 rfl hS0 (fun w hS => (X.mv rfl)) ?_
        refine WD.v 3 rfl hS0 (fun w hS => (X.idxV (j := i) (r := offOf now13 + i * 3) tL34 tS44 (own_view hS.2.2.2.2.2.1) rfl rfl (by omega) (by omega) rfl)) ?_
        refine WD.v 4 rfl hS0 (fun w hS => (X.ldA tA44 tS44 rfl (cs := [.int .i64 (((slNow Wo.ws Wo.cs Wo.sp q8).getD i default).from_), .int .i64 (((slNow Wo.ws Wo.cs Wo.sp q8).getD i default).top), .int .i64 (((slNow Wo.ws Wo.cs Wo.sp q8).getD i default).end_)]) (view_cells (own_view hS.2.2.2.2.2.1) (get_some (by omega)) (by omega)))) ?_
        refine WD.v 6 rfl hS0 (fun w hS => (X.fa (r := 4) tF37_3 rfl rfl)) ?_
        refine WD.v 7 rfl hS0 (fun w hS => (X.ldk hS.2.2.2.2.2.2.2.1 tA34 rfl rfl)) ?_
        refine WD.v 8 rfl hS0 (fun w hS => (X.mv rfl)) ?_
        refine WD.v 9 rfl hS0 (fun w hS => (X.idxV (j := i) (r := offOf sp + i * 3) tL34 tS44 (own_view hS.2.2.2.2.2.2.2.2.2.1) rfl rfl (by omega) (by omega) rfl)) ?_
        refine WD.v 10 rfl hS0 (fun w hS => (X.ldA tA44 tS44 rfl (cs := [.int .i64 ((Wo.sp.getD i default).from_), .int .i64 ((Wo.sp.getD i default).top), .int .i64 ((Wo.sp.getD i default).end_)]) (view_cells (own_view hS.2.2.2.2.2.2.2.2.2.1) (get_some (by omega)) (by omega)))) ?_
        refine WD.one 5 (by kernel_rfl) ?_
        refine WO.call rfl isFn20 rfl rfl (spUsed_c (s := ((slNow Wo.ws Wo.cs Wo.sp q8).getD i default))) ?_
        intro v w hc hr
        obtain rfl := hr
        have hp := hp.ext hc
        refine andS ⟨hp.at 0 rfl, hp.at 1 rfl, hp.at 2 rfl, hp.at 3 rfl, hp.at 4 rfl, hp.at 5 rfl, hp.at 6 rfl, hp.at 7 rfl, hp.at 8 rfl, hp.at 9 rfl, hp.at 10 rfl, hp.at 11 rfl, hp.at 12 rfl, hp.at 13 rfl, hp.old0 hC, hp.old0 hTh, hp.old0 hRf, hp.old0 hRo, trivial⟩ fun hS0 => ?_
        refine WD.one 11 (by kernel_rfl) ?_
        refine WO.call rfl isFn20 rfl rfl (spUsed_c (s := (Wo.sp.getD i default))) ?_
        intro v w hc hr
        obtain rfl := hr
        have hp := hp.ext hc
        refine andS ⟨hp.at 0 rfl, hp.at 1 rfl, hp.at 2 rfl, hp.at 3 rfl, hp.at 4 rfl, hp.at 5 rfl, hp.at 6 rfl, hp.at 7 rfl, hp.at 8 rfl, hp.at 9 rfl, hp.at 10 rfl, hp.at 11 rfl, hp.at 12 rfl, hp.at 13 rfl, hp.old0 hC, hp.old0 hTh, hp.old0 hRf, hp.old0 hRo, trivial⟩ fun hS0 => ?_
        refine WD.v 12 rfl hS0 (fun w hS => (X.sub rfl rfl (in64 (by omega)))) ?_
        refine WD.v 13 rfl hS0 (fun w hS => (X.add rfl rfl (in64 (by omega)))) ?_
        refine WD.v 14 rfl hS0 (fun w hS => (X.as rfl)) ?_
        refine WD.nil (by kernel_rfl) ?_
        refine X.thenN ?_
        refine W.seq ?_
        refine W.draw prog_mixed (fun w => (arenaR p b (slWs (slWs Wo.ws Wo.cs Wo.sp q8) Wo.cs (slNow Wo.ws Wo.cs Wo.sp q8) ([]))).ok w ∧ (ownR 3 encI 1 o16 (([0]).map fun a => ((slG (slWs Wo.ws Wo.cs Wo.sp q8) Wo.cs (slNow Wo.ws Wo.cs Wo.sp q8) ([])) a).getD 0)).ok w ∧ (ownR 44 encS 3 now17 (slNow (slWs Wo.ws Wo.cs Wo.sp q8) Wo.cs (slNow Wo.ws Wo.cs Wo.sp q8) ([]))).ok w ∧ (blkR b15 (.cells (#[.int .i64 0]) 3 (0, 0))).ok w ∧ (ownR 3 encI 1 o12 (([]).map fun a => ((slG Wo.ws Wo.cs Wo.sp q8) a).getD 0)).ok w ∧ (ownR 44 encS 3 now13 (slNow Wo.ws Wo.cs Wo.sp q8)).ok w ∧ (ownR 3 encI 1 v11 q8).ok w ∧ (blkR b7 (.cells (#[.pointer (some ⟨p, 0, none⟩), .pointer (some ⟨t, 0, none⟩), .pointer (some ⟨p, 0, none⟩), .pointer (some ⟨t, 0, none⟩), sp, at_, sy, rt, cv]) 37 (0, 0))).ok w ∧ (tableR t c0 Wo.cs).ok w ∧ (ownR 44 encS 3 sp Wo.sp).ok w ∧ (ownR 3 encI 1 at_ Wo.al).ok w ∧ (ownR 3 encI 1 sy q).ok w ∧ (ownR 3 encI 1 rt Wo.roots).ok w ∧ (blkR b1 (.cells (#[cv, tv, fv, ov, .int .u8 Wo.z0, .int .u8 Wo.z1, .int .u8 Wo.z2]) 28 (0, 0))).ok w ∧ (viewR clsV 4 cv Wo.cs).ok w ∧ (viewR encTh 4 tv Wo.ths).ok w ∧ (viewR encR3 3 fv Wo.rfs).ok w ∧ (viewR encU8 1 ov Wo.ros).ok w ∧ True) hp ?_
        intro w hp
        refine WD.s ⟨hp.at 0 rfl, hp.at 1 rfl, hp.at 2 rfl, hp.at 3 rfl, hp.at 4 rfl, hp.at 5 rfl, hp.at 6 rfl, hp.at 7 rfl, hp.at 8 rfl, hp.at 9 rfl, hp.at 10 rfl, hp.at 11 rfl, hp.at 12 rfl, hp.at 13 rfl, hp.old0 hC, hp.old0 hTh, hp.old0 hRf, hp.old0 hRo, trivial⟩ fun hS0 => ?_
        refine WD.v 0 rfl hS0 (fun w hS => (X.mv rfl)) ?_
        refine WD.v 1 rfl hS0 (fun w hS => (X.mv rfl)) ?_
        refine WD.v 2 rfl hS0 (fun w hS => (X.idxV (j := i) (r := offOf now17 + i * 3) tL34 tS44 (own_view hS.2.2.1) rfl rfl (by omega) (by omega) rfl)) ?_
        refine WD.v 3 rfl hS0 (fun w hS => (X.ldA tA44 tS44 rfl (cs := [.int .i64 (((slNow (slWs Wo.ws Wo.cs Wo.sp q8) Wo.cs (slNow Wo.ws Wo.cs Wo.sp q8) ([])).getD i default).from_), .int .i64 (((slNow (slWs Wo.ws Wo.cs Wo.sp q8) Wo.cs (slNow Wo.ws Wo.cs Wo.sp q8) ([])).getD i default).top), .int .i64 (((slNow (slWs Wo.ws Wo.cs Wo.sp q8) Wo.cs (slNow Wo.ws Wo.cs Wo.sp q8) ([])).getD i default).end_)]) (view_cells (own_view hS.2.2.1) (get_some (by omega)) (by omega)))) ?_
        refine WD.one 4 (by kernel_rfl) ?_
        refine WO.call rfl isFn20 rfl rfl (spUsed_c (s := ((slNow (slWs Wo.ws Wo.cs Wo.sp q8) Wo.cs (slNow Wo.ws Wo.cs Wo.sp q8) ([])).getD i default))) ?_
        intro v w hc hr
        obtain rfl := hr
        have hp := hp.ext hc
        refine andS ⟨hp.at 0 rfl, hp.at 1 rfl, hp.at 2 rfl, hp.at 3 rfl, hp.at 4 rfl, hp.at 5 rfl, hp.at 6 rfl, hp.at 7 rfl, hp.at 8 rfl, hp.at 9 rfl, hp.at 10 rfl, hp.at 11 rfl, hp.at 12 rfl, hp.at 13 rfl, hp.old0 hC, hp.old0 hTh, hp.old0 hRf, hp.old0 hRo, trivial⟩ fun hS0 => ?_
        refine WD.v 5 rfl hS0 (fun w hS => (X.neq rfl rfl)) ?_
        refine WD.v 6 rfl hS0 (fun w hS => (X.mv rfl)) ?_
        have hc24 : ¬ ((spUsed ((slNow (slWs Wo.ws Wo.cs Wo.sp q8) Wo.cs (slNow Wo.ws Wo.cs Wo.sp q8) ([])).getD i default)) ≠ 0) := not_not_intro hm0
        refine WD.gv 7 rfl rfl rfl rfl (decide_eq_false hc24) hS0 (fun w hS => (X.mv rfl)) ?_
        refine WD.gv 8 rfl rfl rfl rfl (decide_eq_false hc24) hS0 (fun w hS => (X.idxV (j := 0) (r := offOf now13 + 0 * 3) tL34 tS44 (own_view hS.2.2.2.2.2.1) rfl rfl (by omega) (by omega) rfl)) ?_
        refine WD.gv 9 rfl rfl rfl rfl (decide_eq_false hc24) hS0 (fun w hS => (X.ldA tA44 tS44 rfl (cs := [.int .i64 (((slNow Wo.ws Wo.cs Wo.sp q8).getD 0 default).from_), .int .i64 (((slNow Wo.ws Wo.cs Wo.sp q8).getD 0 default).top), .int .i64 (((slNow Wo.ws Wo.cs Wo.sp q8).getD 0 default).end_)]) (view_cells (own_view hS.2.2.2.2.2.1) (get_some (by omega)) (by omega)))) ?_
        refine WD.gv 11 rfl rfl rfl rfl (decide_eq_false hc24) hS0 (fun w hS => (X.fa (r := 4) tF37_3 rfl rfl)) ?_
        refine WD.gv 12 rfl rfl rfl rfl (decide_eq_false hc24) hS0 (fun w hS => (X.ldk hS.2.2.2.2.2.2.2.1 tA34 rfl rfl)) ?_
        refine WD.gv 13 rfl rfl rfl rfl (decide_eq_false hc24) hS0 (fun w hS => (X.idxV (j := 0) (r := offOf sp + 0 * 3) tL34 tS44 (own_view hS.2.2.2.2.2.2.2.2.2.1) rfl rfl (by omega) (by omega) rfl)) ?_
        refine WD.gv 14 rfl rfl rfl rfl (decide_eq_false hc24) hS0 (fun w hS => (X.ldA tA44 tS44 rfl (cs := [.int .i64 ((Wo.sp.getD 0 default).from_), .int .i64 ((Wo.sp.getD 0 default).top), .int .i64 ((Wo.sp.getD 0 default).end_)]) (view_cells (own_view hS.2.2.2.2.2.2.2.2.2.1) (get_some (by omega)) (by omega)))) ?_
        refine WD.one 10 (by kernel_rfl) ?_
        refine WO.callG rfl rfl rfl (decide_eq_false hc24) isFn20 rfl rfl (spUsed_c (s := ((slNow Wo.ws Wo.cs Wo.sp q8).getD 0 default))) ?_
        intro v w hc hr
        obtain rfl := hr
        have hp := hp.ext hc
        refine andS ⟨hp.at 0 rfl, hp.at 1 rfl, hp.at 2 rfl, hp.at 3 rfl, hp.at 4 rfl, hp.at 5 rfl, hp.at 6 rfl, hp.at 7 rfl, hp.at 8 rfl, hp.at 9 rfl, hp.at 10 rfl, hp.at 11 rfl, hp.at 12 rfl, hp.at 13 rfl, hp.old0 hC, hp.old0 hTh, hp.old0 hRf, hp.old0 hRo, trivial⟩ fun hS0 => ?_
        refine WD.one 15 (by kernel_rfl) ?_
        refine WO.callG rfl rfl rfl (decide_eq_false hc24) isFn20 rfl rfl (spUsed_c (s := (Wo.sp.getD 0 default))) ?_
        intro v w hc hr
        obtain rfl := hr
        have hp := hp.ext hc
        refine andS ⟨hp.at 0 rfl, hp.at 1 rfl, hp.at 2 rfl, hp.at 3 rfl, hp.at 4 rfl, hp.at 5 rfl, hp.at 6 rfl, hp.at 7 rfl, hp.at 8 rfl, hp.at 9 rfl, hp.at 10 rfl, hp.at 11 rfl, hp.at 12 rfl, hp.at 13 rfl, hp.old0 hC, hp.old0 hTh, hp.old0 hRf, hp.old0 hRo, trivial⟩ fun hS0 => ?_
        refine WD.gv 16 rfl rfl rfl rfl (decide_eq_false hc24) hS0 (fun w hS => (X.lss rfl rfl)) ?_
        refine WD.v 17 rfl hS0 (fun w hS => (X.pkF rfl (decide_eq_false hc24) rfl)) ?_
        refine WD.nil (by kernel_rfl) ?_
        refine X.thenN ?_
        have hc25 : ¬ ((spUsed ((slNow Wo.ws Wo.cs Wo.sp q8).getD 0 default)) < (spUsed (Wo.sp.getD 0 default))) := Int.not_lt.2 hfg
        refine W.cF rfl (decide_eq_false hc25) ?_
        refine W.skip ?_
        refine X.inN ?_
        refine X.thenN ?_
        refine W.reg ?_
        refine WL.v (X.add rfl rfl (in64 (by omega))) ?_
        refine WL.run 1 rfl ?_
        refine WL.nil ?_
        refine X.again (i + 1, s + ((spUsed ((slNow Wo.ws Wo.cs Wo.sp q8).getD i default)) - (spUsed (Wo.sp.getD i default)))) ⟨rfl, rfl, rfl, rfl, rfl, rfl, trivial⟩ ?_ ?_
        · exact ⟨hp, by omega, by rw [usedL_take hWk.spr hil, usedL_take hspr hil3]; omega⟩
        · dsimp only; omega
      refine W.cF rfl (decide_eq_false hc23) ?_
      refine W.exit ?_
      refine X.thenE ?_
      refine X.thenE ?_
      refine X.inH ?_
      refine X.thenN ?_
      refine W.sr ?_
      refine WL.run 3 rfl ?_
      refine WL.fin ?_
      refine W.ret ?_
      refine W.done hp (rs := [.tmp 2]) (vs := [.bool (decide (s = 0))]) (v := .bool (decide (s = 0))) rfl ⟨rfl, trivial⟩ rfl ?_
      have hie : i = 3 := by omega
      rw [hie, List.take_of_length_le (by omega), List.take_of_length_le (by omega)] at hs
      exact bool_val (by simp; omega)
    exact absurd hr2.1 he18
  exact absurd hr0.1 he14
end Go.Proofs.Ytmmmbkmjkpfleaa
