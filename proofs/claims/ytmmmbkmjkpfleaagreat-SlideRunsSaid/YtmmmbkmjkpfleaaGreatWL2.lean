/- Walks, printed by gen.py from the specs L2: what each function answers. No statement of the seat is proved here; conditions: each theorem's own. -/
import Derived.Test.YtmmmbkmjkpfleaaGreatResJ
import Derived.Test.YtmmmbkmjkpfleaaGreatWL
namespace Go.Proofs.YtmmmbkmjkpfleaaGreat
open Go Go.RowKit

set_option maxHeartbeats 4000000 in
theorem run16_c {w0 : World} {q : Nat} {wv cv s y z : Value} {ws : List Int} {cs : List Cls} {l : List Spc} {st rt : List Int} {FL : List Nat} (hp00 : Hp w0 FL [blkR q (.cells (#[wv]) 59 (0, 0)), ownR 3 encI 1 wv ws] w0) (hC : (viewR clsV 4 cv cs).ok w0) (hCD : ∀ k ∈ (viewR clsV 4 cv cs).foot, k ∉ FL) (hV : (viewR encS 3 s l).ok w0) (hVD : ∀ k ∈ (viewR encS 3 s l).foot, k ∉ FL) (hY : (viewR encI 1 y st).ok w0) (hYD : ∀ k ∈ (viewR encI 1 y st).foot, k ∉ FL) (hZ : (viewR encI 1 z rt).ok w0) (hZD : ∀ k ∈ (viewR encI 1 z rt).foot, k ∉ FL) (hcs : ∀ x ∈ cs, clsR x = true) (hE : slideE ws cs l st rt = 0) (hR : SlideRes ws cs l st) (hl3 : l.length ≤ 1000) (hst : st.length ≤ 100000) (hrt : rt.length ≤ 100000) (hwl : ws.length ≤ 4096) :
    Calls Tryz.prog 8 #[.agg #[.pointer (some ⟨q, 0, none⟩), cv], s, y, z] w0 (Ret FL w0 (fun v w => ∃ o n, v = .tuple #[o, n, .int .i64 0] ∧ Hp w0 FL [blkR q (.cells #[wv] 59 (0, 0)), ownR 3 encI 1 wv (refWs ws cs l st), ownR 3 encI 1 o (rt.map fun a => ((slG ws cs l st) a).getD 0), ownR 91 encS 3 n (slNow ws cs l st)] w)) := by
  have hp : Hp w0 FL [blkR q (.cells (#[wv]) 59 (0, 0)), ownR 3 encI 1 wv ws] w0 := hp00
  obtain ⟨hargs, al0, hw0, hm0, hlo, hro⟩ := slideE_zero hE
  have hrise : rise l = true := hargs.2.2.1
  have hpl0 := (plan_ok hcs hrise hw0 hargs.1 hargs.2.1 hm0).1
  have htl := hR.tlen
  have hok6 := hR.ok hcs
  have hnl := lost_none hlo
  have hrs := roots_some hro
  have hlast := hargs.2.2.2
  refine enter (vs := [.agg #[.pointer (some ⟨q, 0, none⟩), cv], s, y, z]) Tryz.func8 rfl rfl rfl ?_
  refine gen_world hp ?_
  intro w hp
  refine W.sr ?_
  refine WL.box hp rfl (cs := #[.pointer (some ⟨q, 0, none⟩), cv]) rfl rfl ?_
  intro b1 w hp
  refine WL.run 3 rfl ?_
  refine WL.s ?_
  refine W.seq ?_
  refine W.draw prog_mixed (fun w => (blkR b1 (.cells (#[.pointer (some ⟨q, 0, none⟩), cv]) 42 (0, 0))).ok w ∧ (blkR q (.cells (#[wv]) 59 (0, 0))).ok w ∧ (ownR 3 encI 1 wv ws).ok w ∧ (viewR clsV 4 cv cs).ok w ∧ (viewR encS 3 s l).ok w ∧ (viewR encI 1 y st).ok w ∧ (viewR encI 1 z rt).ok w ∧ True) hp ?_
  intro w hp
  refine WD.s ⟨hp.at 0 rfl, hp.at 1 rfl, hp.at 2 rfl, (hp.old hC hCD), (hp.old hV hVD), (hp.old hY hYD), (hp.old hZ hZD), trivial⟩ fun hS0 => ?_
  refine WD.v 0 rfl hS0 (fun w hS => (X.mv rfl)) ?_
  refine WD.one 1 (by kernel_rfl) ?_
  refine WO.call rfl isFn38 rfl rfl (rise16_c (hp.old hV hVD)) ?_
  intro v w hc hr
  obtain rfl := hr
  have hp := hp.ext hc
  refine andS ⟨hp.at 0 rfl, hp.at 1 rfl, hp.at 2 rfl, (hp.old hC hCD), (hp.old hV hVD), (hp.old hY hYD), (hp.old hZ hZD), trivial⟩ fun hS0 => ?_
  refine WD.v 2 rfl hS0 (fun w hS => (X.not rfl)) ?_
  refine WD.v 3 rfl hS0 (fun w hS => (X.mv rfl)) ?_
  by_cases hc2 : rise l = true
  · refine WD.gv 4 rfl rfl rfl rfl (congrArg not hc2) hS0 (fun w hS => (X.mv rfl)) ?_
    refine WD.gv 5 rfl rfl rfl rfl (congrArg not hc2) hS0 (fun w hS => (view_len tL47 hS.2.2.2.2.1 rfl)) ?_
    refine WD.gv 6 rfl rfl rfl rfl (congrArg not hc2) hS0 (fun w hS => (X.gtr rfl rfl)) ?_
    refine WD.gv 7 rfl rfl rfl rfl (congrArg not hc2) hS0 (fun w hS => (X.mv rfl)) ?_
    by_cases hc3 : 0 < (l.length : Int)
    · refine WD.gv 8 rfl rfl rfl rfl (decide_eq_true hc3) hS0 (fun w hS => (X.mv rfl)) ?_
      refine WD.gv 9 rfl rfl rfl rfl (decide_eq_true hc3) hS0 (fun w hS => (X.mv rfl)) ?_
      refine WD.gv 10 rfl rfl rfl rfl (decide_eq_true hc3) hS0 (fun w hS => (view_len tL47 hS.2.2.2.2.1 rfl)) ?_
      refine WD.gv 11 rfl rfl rfl rfl (decide_eq_true hc3) hS0 (fun w hS => (X.sub rfl rfl (in64 (by omega)))) ?_
      refine WD.gv 12 rfl rfl rfl rfl (decide_eq_true hc3) hS0 (fun w hS => (X.idxV (j := ((l.length : Int) - 1).toNat) (r := offOf s + (((l.length : Int) - 1).toNat) * 3) tL47 tS91 hS.2.2.2.2.1 rfl rfl (by omega) (by omega) rfl)) ?_
      refine WD.gv 13 rfl rfl rfl rfl (decide_eq_true hc3) hS0 (fun w hS => (X.fa (r := offOf s + (((l.length : Int) - 1).toNat) * 3 + 2) tF91_2 rfl rfl)) ?_
      refine WD.gv 14 rfl rfl rfl rfl (decide_eq_true hc3) hS0 (fun w hS => (X.ld1 tA3 rfl (view_cell (j := ((l.length : Int) - 1).toNat) (f := 2) hS.2.2.2.2.1 (get_some (by omega)) rfl (by omega)))) ?_
      refine WD.gv 15 rfl rfl rfl rfl (decide_eq_true hc3) hS0 (fun w hS => (X.fa (r := 0) tF42_0 rfl rfl)) ?_
      refine WD.gv 16 rfl rfl rfl rfl (decide_eq_true hc3) hS0 (fun w hS => (X.ldk hS.1 tA40 rfl rfl)) ?_
      refine WD.gv 17 rfl rfl rfl rfl (decide_eq_true hc3) hS0 (fun w hS => (X.nilc rfl)) ?_
      refine WD.gv 18 rfl rfl rfl rfl (decide_eq_true hc3) hS0 (fun w hS => (X.fa (r := 0) tF59_0 rfl rfl)) ?_
      refine WD.gv 19 rfl rfl rfl rfl (decide_eq_true hc3) hS0 (fun w hS => (X.ldk hS.2.1 tA34 rfl rfl)) ?_
      refine WD.gv 20 rfl rfl rfl rfl (decide_eq_true hc3) hS0 (fun w hS => (view_len tL34 (own_view hS.2.2.1) rfl)) ?_
      refine WD.gv 21 rfl rfl rfl rfl (decide_eq_true hc3) hS0 (fun w hS => (X.gtr rfl rfl)) ?_
      refine WD.gv 22 rfl rfl rfl rfl (congrArg not hc2) hS0 (fun w hS => (X.pkT rfl (decide_eq_true hc3) rfl)) ?_
      refine WD.v 23 rfl hS0 (fun w hS => (X.pkF rfl (congrArg not hc2) rfl)) ?_
      refine WD.nil (by kernel_rfl) ?_
      refine X.thenN ?_
      have hc4 : ¬ ((ws.length : Int) < ((l.getD (((l.length : Int) - 1).toNat) default).end_)) := by have h9 := last_ok hlast; first | exact h9 (by omega) | (have := h9 (by omega); omega)
      refine W.cF rfl (decide_eq_false hc4) ?_
      refine W.k ?_
      refine W.seq ?_
      refine W.sr ?_
      refine WL.run 1 rfl ?_
      refine WL.v (view_len tL34 (hp.old hY hYD) rfl) ?_
      refine WL.run 1 rfl ?_
      refine WL.fin ?_
      refine W.block ?_
      refine W.loop (X := Nat) (fun i => st.length - i) (fun i => [(1, s), (2, y), (3, z), (4, .pointer (some ⟨b1, 0, none⟩)), (65, .int .i64 (st.length : Int)), (66, .int .i64 (i : Int))]) (fun i w => Hp w0 FL [blkR b1 (.cells (#[.pointer (some ⟨q, 0, none⟩), cv]) 42 (0, 0)), blkR q (.cells (#[wv]) 59 (0, 0)), ownR 3 encI 1 wv ws] w ∧ i ≤ st.length) 0 ⟨rfl, rfl, rfl, rfl, rfl, rfl, trivial⟩ ?_ ?_
      · exact ⟨hp, by omega⟩
      rintro i w ⟨hp, hi⟩
      refine W.sr ?_
      refine WL.run 1 rfl ?_
      refine WL.s ?_
      by_cases hc5 : (i : Int) < (st.length : Int)
      · refine W.cT rfl (decide_eq_true hc5) ?_
        refine W.k ?_
        refine W.seq ?_
        refine W.block ?_
        refine W.sr ?_
        refine WL.run 2 rfl ?_
        refine WL.s ?_
        have hlt : i < st.length := by omega
        have hasc1 : 0 < i → ¬ st.getD i default ≤ st.getD ((i : Int) - 1).toNat default := fun h0 => by
          rw [show ((i : Int) - 1).toNat = i - 1 from by omega]
          have a := hR.asc (i - 1) i (by omega) hlt
          have b := (hR.was (i - 1) (by omega)).2
          omega
        refine W.draw prog_mixed (fun w => (blkR b1 (.cells (#[.pointer (some ⟨q, 0, none⟩), cv]) 42 (0, 0))).ok w ∧ (blkR q (.cells (#[wv]) 59 (0, 0))).ok w ∧ (ownR 3 encI 1 wv ws).ok w ∧ (viewR clsV 4 cv cs).ok w ∧ (viewR encS 3 s l).ok w ∧ (viewR encI 1 y st).ok w ∧ (viewR encI 1 z rt).ok w ∧ True) hp ?_
        intro w hp
        refine WD.s ⟨hp.at 0 rfl, hp.at 1 rfl, hp.at 2 rfl, (hp.old hC hCD), (hp.old hV hVD), (hp.old hY hYD), (hp.old hZ hZD), trivial⟩ fun hS0 => ?_
        refine WD.v 0 rfl hS0 (fun w hS => (X.mv rfl)) ?_
        refine WD.v 1 rfl hS0 (fun w hS => (X.gtr rfl rfl)) ?_
        refine WD.v 2 rfl hS0 (fun w hS => (X.mv rfl)) ?_
        by_cases hc6 : 0 < (i : Int)
        · refine WD.gv 3 rfl rfl rfl rfl (decide_eq_true hc6) hS0 (fun w hS => (X.mv rfl)) ?_
          refine WD.gv 4 rfl rfl rfl rfl (decide_eq_true hc6) hS0 (fun w hS => (X.mv rfl)) ?_
          refine WD.gv 5 rfl rfl rfl rfl (decide_eq_true hc6) hS0 (fun w hS => (X.idxV (j := i) (r := offOf y + i * 1) tL34 tS3 hS.2.2.2.2.2.1 rfl rfl (by omega) (by omega) rfl)) ?_
          refine WD.gv 6 rfl rfl rfl rfl (decide_eq_true hc6) hS0 (fun w hS => (X.ld1 tA3 rfl (view_cell (j := i) (f := 0) hS.2.2.2.2.2.1 (get_some (by omega)) rfl (by omega)))) ?_
          refine WD.gv 7 rfl rfl rfl rfl (decide_eq_true hc6) hS0 (fun w hS => (X.mv rfl)) ?_
          refine WD.gv 8 rfl rfl rfl rfl (decide_eq_true hc6) hS0 (fun w hS => (X.mv rfl)) ?_
          refine WD.gv 9 rfl rfl rfl rfl (decide_eq_true hc6) hS0 (fun w hS => (X.sub rfl rfl (in64 (by omega)))) ?_
          refine WD.gv 10 rfl rfl rfl rfl (decide_eq_true hc6) hS0 (fun w hS => (X.idxV (j := ((i : Int) - 1).toNat) (r := offOf y + (((i : Int) - 1).toNat) * 1) tL34 tS3 hS.2.2.2.2.2.1 rfl rfl (by omega) (by omega) rfl)) ?_
          refine WD.gv 11 rfl rfl rfl rfl (decide_eq_true hc6) hS0 (fun w hS => (X.ld1 tA3 rfl (view_cell (j := ((i : Int) - 1).toNat) (f := 0) hS.2.2.2.2.2.1 (get_some (by omega)) rfl (by omega)))) ?_
          refine WD.gv 12 rfl rfl rfl rfl (decide_eq_true hc6) hS0 (fun w hS => (X.leq rfl rfl)) ?_
          refine WD.v 13 rfl hS0 (fun w hS => (X.pkT rfl (decide_eq_true hc6) rfl)) ?_
          refine WD.nil (by kernel_rfl) ?_
          refine X.thenN ?_
          have hc7 : ¬ ((st.getD i default) ≤ (st.getD (((i : Int) - 1).toNat) default)) := hasc1 (by omega)
          refine W.cF rfl (decide_eq_false hc7) ?_
          refine W.skip ?_
          refine X.inN ?_
          refine X.thenN ?_
          refine W.reg ?_
          refine WL.v (X.add rfl rfl (in64 (by omega))) ?_
          refine WL.run 1 rfl ?_
          refine WL.nil ?_
          refine X.again (i + 1) ⟨rfl, rfl, rfl, rfl, rfl, rfl, trivial⟩ ?_ ?_
          · exact ⟨hp, by omega⟩
          · omega
        refine WD.g0 3 rfl (by kernel_rfl) rfl rfl rfl (decide_eq_false hc6) rfl (fun _ _ _ h => h) hS0 ?_
        refine WD.g0 4 rfl (by kernel_rfl) rfl rfl rfl (decide_eq_false hc6) rfl (fun _ _ _ h => h) hS0 ?_
        refine WD.g0 5 rfl (by kernel_rfl) rfl rfl rfl (decide_eq_false hc6) rfl (fun _ _ _ h => h) hS0 ?_
        refine WD.g0 6 rfl (by kernel_rfl) rfl rfl rfl (decide_eq_false hc6) rfl (fun _ _ _ h => h) hS0 ?_
        refine WD.g0 7 rfl (by kernel_rfl) rfl rfl rfl (decide_eq_false hc6) rfl (fun _ _ _ h => h) hS0 ?_
        refine WD.g0 8 rfl (by kernel_rfl) rfl rfl rfl (decide_eq_false hc6) rfl (fun _ _ _ h => h) hS0 ?_
        refine WD.g0 9 rfl (by kernel_rfl) rfl rfl rfl (decide_eq_false hc6) rfl (fun _ _ _ h => h) hS0 ?_
        refine WD.g0 10 rfl (by kernel_rfl) rfl rfl rfl (decide_eq_false hc6) rfl (fun _ _ _ h => h) hS0 ?_
        refine WD.g0 11 rfl (by kernel_rfl) rfl rfl rfl (decide_eq_false hc6) rfl (fun _ _ _ h => h) hS0 ?_
        refine WD.g0 12 rfl (by kernel_rfl) rfl rfl rfl (decide_eq_false hc6) rfl (fun _ _ _ h => h) hS0 ?_
        refine WD.v 13 rfl hS0 (fun w hS => (X.pkF rfl (decide_eq_false hc6) rfl)) ?_
        refine WD.nil (by kernel_rfl) ?_
        refine X.thenN ?_
        refine W.cF rfl rfl ?_
        refine W.skip ?_
        refine X.inN ?_
        refine X.thenN ?_
        refine W.reg ?_
        refine WL.v (X.add rfl rfl (in64 (by omega))) ?_
        refine WL.run 1 rfl ?_
        refine WL.nil ?_
        refine X.again (i + 1) ⟨rfl, rfl, rfl, rfl, rfl, rfl, trivial⟩ ?_ ?_
        · exact ⟨hp, by omega⟩
        · omega
      refine W.cF rfl (decide_eq_false hc5) ?_
      refine W.exit ?_
      refine X.thenE ?_
      refine X.thenE ?_
      refine X.inH ?_
      refine X.thenN ?_
      refine W.sr ?_
      refine WL.run 2 rfl ?_
      refine WL.s ?_
      refine W.seq ?_
      have hp := hp.addNil 3 encI 1 encI_len (by omega)
      refine W.reg ?_
      refine WL.run 1 rfl ?_
      refine WL.v (view_len tL47 (hp.old hV hVD) rfl) ?_
      refine WL.run 1 rfl ?_
      refine WL.fin ?_
      refine W.block ?_
      refine W.loop (X := Nat × Value × List Int) (fun x_ => match x_ with | ⟨i, v, acc⟩ => l.length - i) (fun x_ => match x_ with | ⟨i, v, acc⟩ => [(1, s), (2, y), (3, z), (4, .pointer (some ⟨b1, 0, none⟩)), (12, v), (13, .slice none 0 0), (85, .int .i64 (l.length : Int)), (86, .int .i64 (i : Int))]) (fun x_ w => match x_ with | ⟨i, v, acc⟩ => Hp w0 FL [ownR 3 encI 1 v acc, blkR b1 (.cells (#[.pointer (some ⟨q, 0, none⟩), cv]) 42 (0, 0)), blkR q (.cells (#[wv]) 59 (0, 0)), ownR 3 encI 1 wv ws] w ∧ i ≤ l.length ∧ walksF ws cs [] l = walksF ws cs acc (l.drop i) ∧ acc.length ≤ 4096 * i) (0, .slice none 0 0, []) ⟨rfl, rfl, rfl, rfl, rfl, rfl, rfl, rfl, trivial⟩ ?_ ?_
      · exact ⟨hp, by omega, rfl, by simp⟩
      rintro ⟨i, v, acc⟩ w ⟨hp, hi, hwk, hal⟩
      refine W.sr ?_
      refine WL.run 1 rfl ?_
      refine WL.s ?_
      by_cases hc8 : (i : Int) < (l.length : Int)
      · refine W.cT rfl (decide_eq_true hc8) ?_
        refine W.k ?_
        refine W.seq ?_
        refine W.block ?_
        refine W.sr ?_
        refine WL.run 2 rfl ?_
        refine WL.s ?_
        have hlt : i < l.length := by omega
        have hsp6 := spR_t (rise_all hrise _ (mem_getD hlt))
        have hwz : (walk ws cs (l.getD i default).from_ (l.getD i default).top).1 = 0 := walksF_mem l [] _ hw0 _ (mem_getD hlt)
        have hwl6 := walk_len (ws := ws) hcs (show (l.getD i default).from_ ≤ (l.getD i default).top by omega)
        refine W.draw prog_mixed (fun w => (ownR 3 encI 1 v acc).ok w ∧ (blkR b1 (.cells (#[.pointer (some ⟨q, 0, none⟩), cv]) 42 (0, 0))).ok w ∧ (blkR q (.cells (#[wv]) 59 (0, 0))).ok w ∧ (ownR 3 encI 1 wv ws).ok w ∧ (viewR clsV 4 cv cs).ok w ∧ (viewR encS 3 s l).ok w ∧ (viewR encI 1 y st).ok w ∧ (viewR encI 1 z rt).ok w ∧ True) hp ?_
        intro w hp
        refine WD.s ⟨hp.at 0 rfl, hp.at 1 rfl, hp.at 2 rfl, hp.at 3 rfl, (hp.old hC hCD), (hp.old hV hVD), (hp.old hY hYD), (hp.old hZ hZD), trivial⟩ fun hS0 => ?_
        refine WD.v 0 rfl hS0 (fun w hS => (X.ldkA hS.2.1 tA42 tS42 (vs := [.pointer (some ⟨q, 0, none⟩), cv]) rfl rfl)) ?_
        refine WD.v 1 rfl hS0 (fun w hS => (X.mv rfl)) ?_
        refine WD.v 2 rfl hS0 (fun w hS => (X.mv rfl)) ?_
        refine WD.v 3 rfl hS0 (fun w hS => (X.idxV (j := i) (r := offOf s + i * 3) tL47 tS91 hS.2.2.2.2.2.1 rfl rfl (by omega) (by omega) rfl)) ?_
        refine WD.v 4 rfl hS0 (fun w hS => (X.fa (r := offOf s + i * 3) tF91_0 rfl rfl)) ?_
        refine WD.v 5 rfl hS0 (fun w hS => (X.ld1 tA3 rfl (view_cell (j := i) (f := 0) hS.2.2.2.2.2.1 (get_some (by omega)) rfl (by omega)))) ?_
        refine WD.v 6 rfl hS0 (fun w hS => (X.mv rfl)) ?_
        refine WD.v 7 rfl hS0 (fun w hS => (X.mv rfl)) ?_
        refine WD.v 8 rfl hS0 (fun w hS => (X.idxV (j := i) (r := offOf s + i * 3) tL47 tS91 hS.2.2.2.2.2.1 rfl rfl (by omega) (by omega) rfl)) ?_
        refine WD.v 9 rfl hS0 (fun w hS => (X.fa (r := offOf s + i * 3 + 1) tF91_1 rfl rfl)) ?_
        refine WD.v 10 rfl hS0 (fun w hS => (X.ld1 tA3 rfl (view_cell (j := i) (f := 1) hS.2.2.2.2.2.1 (get_some (by omega)) rfl (by omega)))) ?_
        refine WD.one 11 (by kernel_rfl) ?_
        refine WO.call rfl isFn39 rfl rfl (walk6_c (fr := (l.getD i default).from_) (to := (l.getD i default).top) (hp.at 2 rfl) (own_view (hp.at 3 rfl)) (hp.old hC hCD) hcs (by omega) (by omega)) ?_
        intro v w hc hr
        rcases hr with ⟨hw9, s10, rfl, hN⟩ | ⟨hw9, rfl⟩
        · have hp := hp.newN hc hN
          refine andS ⟨hp.at 1 rfl, hp.at 2 rfl, hp.at 3 rfl, hp.at 4 rfl, (hp.old hC hCD), (hp.old hV hVD), (hp.old hY hYD), (hp.old hZ hZD), trivial⟩ fun hS0 => ?_
          refine WD.v 12 rfl hS0 (fun w hS => (X.mv rfl)) ?_
          refine WD.v 13 rfl hS0 (fun w hS => (X.ext rfl rfl)) ?_
          refine WD.v 14 rfl hS0 (fun w hS => (X.ext rfl rfl)) ?_
          refine WD.v 15 rfl hS0 (fun w hS => (X.as rfl)) ?_
          refine WD.v 16 rfl hS0 (fun w hS => (X.as rfl)) ?_
          refine WD.nil (by kernel_rfl) ?_
          refine X.thenN ?_
          refine W.seq ?_
          refine W.sr ?_
          refine WL.run 2 rfl ?_
          refine WL.fin ?_
          refine W.cF rfl (decide_eq_false (by decide)) ?_
          refine W.kr ?_
          refine WL.run 2 rfl ?_
          refine WL.append hp 1 rfl tL34 (zeroT_ex tZ3) tS3 tY3 rfl rfl (own_view (hp.at 0 rfl)) encI_one (by omega) rfl ?_
          intro v12 w hp
          refine WL.run 1 rfl ?_
          refine WL.nil ?_
          refine X.inN ?_
          refine X.thenN ?_
          refine W.reg ?_
          refine WL.v (X.add rfl rfl (in64 (by omega))) ?_
          refine WL.run 1 rfl ?_
          refine WL.nil ?_
          refine X.again (i + 1, v12, acc ++ (walk ws cs ((l.getD i default).from_) ((l.getD i default).top)).2) ⟨rfl, rfl, rfl, rfl, rfl, rfl, rfl, rfl, trivial⟩ ?_ ?_
          · exact ⟨(hp.sel [1, 2, 3, 4] (by decide)), by omega, by rw [hwk, walksF_step hlt (not_not_intro hwz)], by rw [List.length_append]; omega⟩
          · dsimp only; omega
        (try simp only [fillW_length, moveW_length, List.length_set] at hw9); first | contradiction | (exfalso; omega) | (exfalso; simp_all; done)
      refine W.cF rfl (decide_eq_false hc8) ?_
      refine W.exit ?_
      refine X.thenE ?_
      refine X.thenE ?_
      refine X.inH ?_
      refine X.thenN ?_
      refine W.seq ?_
      refine W.seq ?_
      have hp := hp.addNil 3 encI 1 encI_len (by omega)
      have haf : walksF ws cs [] l = some acc := by rw [hwk, List.drop_eq_nil_of_le (by omega)]; rfl
      have hae : al0 = acc := by rw [hw0] at haf; exact Option.some.inj haf
      have hmm : ∀ x ∈ st, x ∈ acc := by rw [← hae]; exact hm0
      refine W.reg ?_
      refine WL.run 1 rfl ?_
      refine WL.v (view_len tL34 (hp.old hY hYD) rfl) ?_
      refine WL.run 1 rfl ?_
      refine WL.fin ?_
      refine W.block ?_
      refine W.loop (X := Nat × Value) (fun x_ => match x_ with | ⟨i, z2⟩ => st.length - i) (fun x_ => match x_ with | ⟨i, z2⟩ => [(1, s), (2, y), (3, z), (4, .pointer (some ⟨b1, 0, none⟩)), (12, v), (13, z2), (111, .int .i64 (st.length : Int)), (112, .int .i64 (i : Int))]) (fun x_ w => match x_ with | ⟨i, z2⟩ => Hp w0 FL [ownR 3 encI 1 z2 ((st.take i).map fun a => (atT ws cs a).words), ownR 3 encI 1 v acc, blkR b1 (.cells (#[.pointer (some ⟨q, 0, none⟩), cv]) 42 (0, 0)), blkR q (.cells (#[wv]) 59 (0, 0)), ownR 3 encI 1 wv ws] w ∧ i ≤ st.length) (0, .slice none 0 0) ⟨rfl, rfl, rfl, rfl, rfl, rfl, rfl, rfl, trivial⟩ ?_ ?_
      · exact ⟨hp, by omega⟩
      rintro ⟨i, z2⟩ w ⟨hp, hi⟩
      refine W.sr ?_
      refine WL.run 1 rfl ?_
      refine WL.s ?_
      by_cases hc13 : (i : Int) < (st.length : Int)
      · refine W.cT rfl (decide_eq_true hc13) ?_
        refine W.k ?_
        refine W.seq ?_
        refine W.block ?_
        refine W.sr ?_
        refine WL.run 2 rfl ?_
        refine WL.s ?_
        refine W.seq ?_
        have hlt : i < st.length := by omega
        refine W.reg ?_
        refine WL.run 3 rfl ?_
        refine WL.v (X.idxV (j := i) (r := offOf y + i * 1) tL34 tS3 (hp.old hY hYD) rfl rfl (by omega) (by omega) rfl) ?_
        refine WL.v (X.ld1 tA3 rfl (view_cell (j := i) (f := 0) (hp.old hY hYD) (get_some (by omega)) rfl (by omega))) ?_
        refine WL.call isFn40 rfl rfl (place16_c (x := (st.getD i default)) (own_view (hp.at 1 rfl))) ?_
        intro v w hc hr
        obtain rfl := hr
        have hp := hp.ext hc
        refine WL.run 1 rfl ?_
        refine WL.fin ?_
        have hc14 : ¬ ((placeF acc (st.getD i default)) < 0) := (fun h_ => placeF_neg.1 h_ (hmm _ (mem_getD hlt)))
        refine W.cF rfl (decide_eq_false hc14) ?_
        refine W.k ?_
        refine W.seq ?_
        refine W.draw prog_mixed (fun w => (ownR 3 encI 1 z2 ((st.take i).map fun a => (atT ws cs a).words)).ok w ∧ (ownR 3 encI 1 v acc).ok w ∧ (blkR b1 (.cells (#[.pointer (some ⟨q, 0, none⟩), cv]) 42 (0, 0))).ok w ∧ (blkR q (.cells (#[wv]) 59 (0, 0))).ok w ∧ (ownR 3 encI 1 wv ws).ok w ∧ (viewR clsV 4 cv cs).ok w ∧ (viewR encS 3 s l).ok w ∧ (viewR encI 1 y st).ok w ∧ (viewR encI 1 z rt).ok w ∧ True) hp ?_
        intro w hp
        refine WD.s ⟨hp.at 0 rfl, hp.at 1 rfl, hp.at 2 rfl, hp.at 3 rfl, hp.at 4 rfl, (hp.old hC hCD), (hp.old hV hVD), (hp.old hY hYD), (hp.old hZ hZD), trivial⟩ fun hS0 => ?_
        refine WD.v 0 rfl hS0 (fun w hS => (X.ldkA hS.2.2.1 tA42 tS42 (vs := [.pointer (some ⟨q, 0, none⟩), cv]) rfl rfl)) ?_
        refine WD.v 1 rfl hS0 (fun w hS => (X.mv rfl)) ?_
        refine WD.v 2 rfl hS0 (fun w hS => (X.mv rfl)) ?_
        refine WD.v 3 rfl hS0 (fun w hS => (X.idxV (j := i) (r := offOf y + i * 1) tL34 tS3 hS.2.2.2.2.2.2.2.1 rfl rfl (by omega) (by omega) rfl)) ?_
        refine WD.v 4 rfl hS0 (fun w hS => (X.ld1 tA3 rfl (view_cell (j := i) (f := 0) hS.2.2.2.2.2.2.2.1 (get_some (by omega)) rfl (by omega)))) ?_
        refine WD.one 5 (by kernel_rfl) ?_
        refine WO.call rfl isFn41 rfl rfl (size6_c (a := (st.getD i default)) (hp.at 3 rfl) (own_view (hp.at 4 rfl)) (hp.old hC hCD) hcs) ?_
        intro v w hc hr
        obtain rfl := hr
        have hp := hp.ext hc
        refine andS ⟨hp.at 0 rfl, hp.at 1 rfl, hp.at 2 rfl, hp.at 3 rfl, hp.at 4 rfl, (hp.old hC hCD), (hp.old hV hVD), (hp.old hY hYD), (hp.old hZ hZD), trivial⟩ fun hS0 => ?_
        refine WD.v 6 rfl hS0 (fun w hS => (X.mv rfl)) ?_
        refine WD.v 7 rfl hS0 (fun w hS => (X.ext rfl rfl)) ?_
        refine WD.v 8 rfl hS0 (fun w hS => (X.ext rfl rfl)) ?_
        refine WD.v 9 rfl hS0 (fun w hS => (X.ext rfl rfl)) ?_
        refine WD.v 10 rfl hS0 (fun w hS => (X.as rfl)) ?_
        refine WD.v 11 rfl hS0 (fun w hS => (X.as rfl)) ?_
        refine WD.v 12 rfl hS0 (fun w hS => (X.as rfl)) ?_
        refine WD.nil (by kernel_rfl) ?_
        refine X.thenN ?_
        refine W.reg ?_
        refine WL.run 2 rfl ?_
        refine WL.bsl hp (e := 3) (cs := #[.int .i64 ((atT ws cs (st.getD i default)).words)]) rfl (fun _ => by kernel_rfl) rfl ?_
        intro b15 w hp
        refine WL.append hp 1 rfl tL34 (zeroT_ex tZ3) tS3 tY3 rfl rfl (view_of_blk (l := [(atT ws cs (st.getD i default)).words]) hp 0 rfl encI_len (by omega) rfl (by simp) (by simp)) encI_one (by simp only [List.length_append, List.length_cons, List.length_nil, List.length_map, List.length_take]; omega) rfl ?_
        intro v16 w hp
        refine WL.run 1 rfl ?_
        refine WL.nil ?_
        refine X.inN ?_
        refine X.thenN ?_
        refine W.reg ?_
        refine WL.v (X.add rfl rfl (in64 (by omega))) ?_
        refine WL.run 1 rfl ?_
        refine WL.nil ?_
        refine X.again (i + 1, v16) ⟨rfl, rfl, rfl, rfl, rfl, rfl, rfl, rfl, trivial⟩ ?_ ?_
        · exact ⟨by rw [take_getD hlt, List.map_append, List.map_singleton]; exact (hp.sel [1, 2, 3, 4, 5] (by decide)), by omega⟩
        · dsimp only; omega
      refine W.cF rfl (decide_eq_false hc13) ?_
      refine W.exit ?_
      refine X.thenE ?_
      refine X.thenE ?_
      refine X.inH ?_
      refine X.thenN ?_
      refine W.seq ?_
      have hti : st.take i = st := List.take_of_length_le (by omega)
      rw [hti] at hp
      have hsl6 : (st.map fun a => (atT ws cs a).words).length = st.length := List.length_map _
      refine W.reg ?_
      refine WL.run 2 rfl ?_
      refine WL.call isFn42 rfl rfl (plan16_c (hp.old hV hVD) (own_view (hp.at 0 rfl)) (by omega) (by (try simp only [List.length_map]); omega)) ?_
      intro v w hc hr
      rcases hr with ⟨hq17, o18, q19, rfl, hN⟩ | ⟨hq17, rfl⟩
      · have hp := hp.adds hN
        refine WL.run 7 rfl ?_
        refine WL.s ?_
        have hp : Hp w0 FL [ownR 3 encI 1 o18 (slTo ws cs l st), ownR 91 encS 3 q19 (slNow ws cs l st), ownR 3 encI 1 z2 (st.map fun a => (atT ws cs a).words), ownR 3 encI 1 v acc, blkR b1 (.cells (#[.pointer (some ⟨q, 0, none⟩), cv]) 42 (0, 0)), blkR q (.cells (#[wv]) 59 (0, 0)), ownR 3 encI 1 wv ws] w := hp
        refine W.reg ?_
        refine WL.bsl hp (e := 3) (cs := #[]) rfl (fun _ => by kernel_rfl) rfl ?_
        intro b20 w hp
        refine WL.run 1 rfl ?_
        refine WL.v (X.ldk (hp.at 5 rfl) tA40 rfl rfl) ?_
        refine WL.run 2 rfl ?_
        refine WL.v (X.ldk (hp.at 6 rfl) tA34 rfl rfl) ?_
        have hp := hp.ofEmpty 0 rfl encI 1 encI_len (by omega)
        refine WL.append hp 0 rfl tL34 (zeroT_ex tZ3) tS3 tY3 rfl rfl (own_view (hp.at 7 rfl)) encI_one (by simp only [List.length_append, List.length_cons, List.length_nil]; omega) rfl ?_
        intro v21 w hp
        refine WL.run 1 rfl ?_
        refine WL.a ?_
        refine WL.run 1 rfl ?_
        refine WL.v (view_len tL34 (hp.old hZ hZD) rfl) ?_
        refine WL.mks (m := rt.length) hp tL34 tS3 tZ3 tY3 rfl rfl (by omega) (by omega) rfl ?_
        intro b22 w hp
        refine WL.run 1 rfl ?_
        refine WL.s ?_
        refine W.seq ?_
        have hp := hp.ofRep 0 rfl (by omega)
        refine W.reg ?_
        refine WL.run 1 rfl ?_
        refine WL.v (view_len tL34 (hp.old hZ hZD) rfl) ?_
        refine WL.run 1 rfl ?_
        refine WL.fin ?_
        refine W.block ?_
        refine W.loop (X := Nat) (fun i => rt.length - i) (fun i => [(1, s), (2, y), (3, z), (4, .pointer (some ⟨b1, 0, none⟩)), (13, z2), (21, o18), (22, q19), (24, v21), (25, .slice (some ⟨b22, 0, none⟩) rt.length rt.length), (155, .int .i64 (rt.length : Int)), (156, .int .i64 (i : Int))]) (fun i w => Hp w0 FL [ownR 3 encI 1 (.slice (some ⟨b22, 0, none⟩) rt.length rt.length) (((rt.take i).map fun a => ((slG ws cs l st) a).getD 0) ++ List.replicate (rt.length - i) 0), ownR 3 encI 1 v21 ws, ownR 3 encI 1 o18 (slTo ws cs l st), ownR 91 encS 3 q19 (slNow ws cs l st), ownR 3 encI 1 z2 (st.map fun a => (atT ws cs a).words), ownR 3 encI 1 v acc, blkR b1 (.cells (#[.pointer (some ⟨q, 0, none⟩), cv]) 42 (0, 0)), blkR q (.cells (#[wv]) 59 (0, 0)), ownR 3 encI 1 wv ws] w ∧ i ≤ rt.length) 0 ⟨rfl, rfl, rfl, rfl, rfl, rfl, rfl, rfl, rfl, rfl, rfl, trivial⟩ ?_ ?_
        · exact ⟨hp, by omega⟩
        rintro i w ⟨hp, hi⟩
        refine W.sr ?_
        refine WL.run 1 rfl ?_
        refine WL.s ?_
        by_cases hc23 : (i : Int) < (rt.length : Int)
        · refine W.cT rfl (decide_eq_true hc23) ?_
          refine W.k ?_
          refine W.seq ?_
          refine W.block ?_
          refine W.seq ?_
          have hlt : i < rt.length := by omega
          have hgo := hR.goes (rt.getD i default)
          have hgs : (goesF st (slTo ws cs l st) (rt.getD i default)).isSome = true := by rw [hgo]; exact hrs _ (mem_getD hlt)
          refine W.reg ?_
          refine WL.run 2 rfl ?_
          refine WL.a ?_
          refine WL.run 4 rfl ?_
          refine WL.v (X.idxV (j := i) (r := offOf z + i * 1) tL34 tS3 (hp.old hZ hZD) rfl rfl (by omega) (by omega) rfl) ?_
          refine WL.v (X.ld1 tA3 rfl (view_cell (j := i) (f := 0) (hp.old hZ hZD) (get_some (by omega)) rfl (by omega))) ?_
          refine WL.call isFn43 rfl rfl (goes16_c (x := (rt.getD i default)) (hp.old hY hYD) (own_view (hp.at 2 rfl)) htl) ?_
          intro v w hc hr
          obtain rfl := hr
          have hp := hp.ext hc
          refine WL.run 5 rfl ?_
          refine WL.s ?_
          refine W.sr ?_
          refine WL.run 2 rfl ?_
          refine WL.fin ?_
          have hc24 : (goesF st (slTo ws cs l st) (rt.getD i default)).isSome = true := hgs
          refine W.cF rfl (congrArg not hc24) ?_
          refine W.kr ?_
          refine WL.run 3 rfl ?_
          refine WL.v (X.idxV (j := i) (r := offOf (.slice (some ⟨b22, 0, none⟩) rt.length rt.length) + i * 1) tL34 tS3 (own_view (hp.at 0 rfl)) rfl rfl (by omega) (by rw [List.length_append, List.length_map, List.length_take, List.length_replicate]; omega) rfl) ?_
          refine WL.stOwn hp 0 rfl (j := i) (f := 0) (q := ((((rt.take i).map fun a => ((slG ws cs l st) a).getD 0) ++ List.replicate (rt.length - i) 0).getD i default)) (q' := (goesF st (slTo ws cs l st) (rt.getD i default)).getD 0) tS3 rfl rfl (vs := [.int .i64 ((goesF st (slTo ws cs l st) (rt.getD i default)).getD 0)]) rfl rfl (get_some (by rw [List.length_append, List.length_map, List.length_take, List.length_replicate]; omega)) rfl (by simp only [List.length_cons, List.length_nil]; omega) rfl ?_
          intro w hp
          refine WL.nil ?_
          refine X.inN ?_
          refine X.thenN ?_
          refine W.reg ?_
          refine WL.v (X.add rfl rfl (in64 (by omega))) ?_
          refine WL.run 1 rfl ?_
          refine WL.nil ?_
          refine X.again (i + 1) ⟨rfl, rfl, rfl, rfl, rfl, rfl, rfl, rfl, rfl, rfl, rfl, trivial⟩ ?_ ?_
          · exact ⟨by rw [← out_step hlt, ← hgo]; exact hp, by omega⟩
          · omega
        refine W.cF rfl (decide_eq_false hc23) ?_
        refine W.exit ?_
        refine X.thenE ?_
        refine X.thenE ?_
        refine X.inH ?_
        refine X.thenN ?_
        refine W.seq ?_
        refine W.seq ?_
        have hti2 : rt.take i = rt := List.take_of_length_le (by omega)
        have hrp : rt.length - i = 0 := by omega
        rw [hti2, hrp, List.replicate_zero, List.append_nil] at hp
        refine W.reg ?_
        refine WL.run 1 rfl ?_
        refine WL.v (view_len tL34 (hp.old hY hYD) rfl) ?_
        refine WL.run 1 rfl ?_
        refine WL.fin ?_
        refine W.block ?_
        refine W.loop (X := Nat) (fun i => st.length - i) (fun i => [(1, s), (2, y), (3, z), (4, .pointer (some ⟨b1, 0, none⟩)), (13, z2), (21, o18), (22, q19), (24, v21), (25, .slice (some ⟨b22, 0, none⟩) rt.length rt.length), (177, .int .i64 (st.length : Int)), (178, .int .i64 (i : Int))]) (fun i w => Hp w0 FL [ownR 3 encI 1 v21 (adW ws cs (slG ws cs l st) st i), ownR 3 encI 1 (.slice (some ⟨b22, 0, none⟩) rt.length rt.length) (rt.map fun a => ((slG ws cs l st) a).getD 0), ownR 3 encI 1 o18 (slTo ws cs l st), ownR 91 encS 3 q19 (slNow ws cs l st), ownR 3 encI 1 z2 (st.map fun a => (atT ws cs a).words), ownR 3 encI 1 v acc, blkR b1 (.cells (#[.pointer (some ⟨q, 0, none⟩), cv]) 42 (0, 0)), blkR q (.cells (#[wv]) 59 (0, 0)), ownR 3 encI 1 wv ws] w ∧ i ≤ st.length) 0 ⟨rfl, rfl, rfl, rfl, rfl, rfl, rfl, rfl, rfl, rfl, rfl, trivial⟩ ?_ ?_
        · exact ⟨(hp.sel [1, 0, 2, 3, 4, 5, 6, 7, 8] (by decide)), by omega⟩
        rintro i w ⟨hp, hi⟩
        refine W.sr ?_
        refine WL.run 1 rfl ?_
        refine WL.s ?_
        by_cases hc25 : (i : Int) < (st.length : Int)
        · refine W.cT rfl (decide_eq_true hc25) ?_
          refine W.k ?_
          refine W.seq ?_
          refine W.block ?_
          refine W.seq ?_
          have hlt : i < st.length := by omega
          have hoi := hok6 i hlt
          have hbi := objT_bd hcs hoi.1
          have hwi := wordsAt_bd hcs hoi.1
          have hadl := adW_len (ws := ws) (cs := cs) (st := st) (slG ws cs l st) i
          refine W.reg ?_
          refine WL.run 2 rfl ?_
          refine WL.s ?_
          refine W.draw prog_mixed (fun w => (ownR 3 encI 1 v21 (adW ws cs (slG ws cs l st) st i)).ok w ∧ (ownR 3 encI 1 (.slice (some ⟨b22, 0, none⟩) rt.length rt.length) (rt.map fun a => ((slG ws cs l st) a).getD 0)).ok w ∧ (ownR 3 encI 1 o18 (slTo ws cs l st)).ok w ∧ (ownR 91 encS 3 q19 (slNow ws cs l st)).ok w ∧ (ownR 3 encI 1 z2 (st.map fun a => (atT ws cs a).words)).ok w ∧ (ownR 3 encI 1 v acc).ok w ∧ (blkR b1 (.cells (#[.pointer (some ⟨q, 0, none⟩), cv]) 42 (0, 0))).ok w ∧ (blkR q (.cells (#[wv]) 59 (0, 0))).ok w ∧ (ownR 3 encI 1 wv ws).ok w ∧ (viewR clsV 4 cv cs).ok w ∧ (viewR encS 3 s l).ok w ∧ (viewR encI 1 y st).ok w ∧ (viewR encI 1 z rt).ok w ∧ True) hp ?_
          intro w hp
          refine WD.s ⟨hp.at 0 rfl, hp.at 1 rfl, hp.at 2 rfl, hp.at 3 rfl, hp.at 4 rfl, hp.at 5 rfl, hp.at 6 rfl, hp.at 7 rfl, hp.at 8 rfl, (hp.old hC hCD), (hp.old hV hVD), (hp.old hY hYD), (hp.old hZ hZD), trivial⟩ fun hS0 => ?_
          refine WD.v 0 rfl hS0 (fun w hS => (X.ldkA hS.2.2.2.2.2.2.1 tA42 tS42 (vs := [.pointer (some ⟨q, 0, none⟩), cv]) rfl rfl)) ?_
          refine WD.v 1 rfl hS0 (fun w hS => (X.mv rfl)) ?_
          refine WD.v 2 rfl hS0 (fun w hS => (X.mv rfl)) ?_
          refine WD.v 3 rfl hS0 (fun w hS => (X.idxV (j := i) (r := offOf y + i * 1) tL34 tS3 hS.2.2.2.2.2.2.2.2.2.2.2.1 rfl rfl (by omega) (by omega) rfl)) ?_
          refine WD.v 4 rfl hS0 (fun w hS => (X.ld1 tA3 rfl (view_cell (j := i) (f := 0) hS.2.2.2.2.2.2.2.2.2.2.2.1 (get_some (by omega)) rfl (by omega)))) ?_
          refine WD.one 5 (by kernel_rfl) ?_
          refine WO.call rfl isFn44 rfl rfl (shape6_c (a := (st.getD i default)) (hp.at 7 rfl) (own_view (hp.at 8 rfl)) (hp.old hC hCD) hcs) ?_
          intro v w hc hr
          obtain rfl := hr
          have hp := hp.ext hc
          refine andS ⟨hp.at 0 rfl, hp.at 1 rfl, hp.at 2 rfl, hp.at 3 rfl, hp.at 4 rfl, hp.at 5 rfl, hp.at 6 rfl, hp.at 7 rfl, hp.at 8 rfl, (hp.old hC hCD), (hp.old hV hVD), (hp.old hY hYD), (hp.old hZ hZD), trivial⟩ fun hS0 => ?_
          refine WD.v 6 rfl hS0 (fun w hS => (X.mv rfl)) ?_
          refine WD.v 7 rfl hS0 (fun w hS => (X.ext rfl rfl)) ?_
          refine WD.v 8 rfl hS0 (fun w hS => (X.ext rfl rfl)) ?_
          refine WD.v 9 rfl hS0 (fun w hS => (X.ext rfl rfl)) ?_
          refine WD.v 10 rfl hS0 (fun w hS => (X.as rfl)) ?_
          refine WD.v 11 rfl hS0 (fun w hS => (X.as rfl)) ?_
          refine WD.v 12 rfl hS0 (fun w hS => (X.as rfl)) ?_
          refine WD.nil (by kernel_rfl) ?_
          refine X.thenN ?_
          refine W.seq ?_
          refine W.sr ?_
          refine WL.run 1 rfl ?_
          refine WL.fin ?_
          refine W.block ?_
          refine W.loop (X := Nat) (fun k => (objT ws cs (st.getD i default)).refs.toNat - k) (fun k => [(1, s), (2, y), (3, z), (4, .pointer (some ⟨b1, 0, none⟩)), (13, z2), (21, o18), (22, q19), (24, v21), (25, .slice (some ⟨b22, 0, none⟩) rt.length rt.length), (29, .int .i64 (i : Int)), (30, .int .i64 ((objT ws cs (st.getD i default)).refs)), (177, .int .i64 (st.length : Int)), (178, .int .i64 (i : Int)), (33, .int .i64 (k : Int))]) (fun k w => Hp w0 FL [ownR 3 encI 1 v21 (adjF (adW ws cs (slG ws cs l st) st i) (slG ws cs l st) (st.getD i default) k), ownR 3 encI 1 (.slice (some ⟨b22, 0, none⟩) rt.length rt.length) (rt.map fun a => ((slG ws cs l st) a).getD 0), ownR 3 encI 1 o18 (slTo ws cs l st), ownR 91 encS 3 q19 (slNow ws cs l st), ownR 3 encI 1 z2 (st.map fun a => (atT ws cs a).words), ownR 3 encI 1 v acc, blkR b1 (.cells (#[.pointer (some ⟨q, 0, none⟩), cv]) 42 (0, 0)), blkR q (.cells (#[wv]) 59 (0, 0)), ownR 3 encI 1 wv ws] w ∧ k ≤ (objT ws cs (st.getD i default)).refs.toNat) 0 ⟨rfl, rfl, rfl, rfl, rfl, rfl, rfl, rfl, rfl, rfl, rfl, rfl, rfl, rfl, trivial⟩ ?_ ?_
          · exact ⟨hp, by omega⟩
          rintro k w ⟨hp, hk⟩
          refine W.seq ?_
          refine W.sr ?_
          refine WL.run 3 rfl ?_
          refine WL.fin ?_
          by_cases hc26 : (k : Int) < ((objT ws cs (st.getD i default)).refs)
          · refine W.cT rfl (decide_eq_true hc26) ?_
            refine W.k ?_
            refine W.seq ?_
            refine W.block ?_
            refine W.seq ?_
            have hjl6 := adjF_len (adW ws cs (slG ws cs l st) st i) (slG ws cs l st) (st.getD i default) k
            have hkl : k < (objT ws cs (st.getD i default)).refs.toNat := by omega
            have hgw : gi (adjF (adW ws cs (slG ws cs l st) st i) (slG ws cs l st) (st.getD i default) k) ((st.getD i default) + 2 + (k : Int)) = gi ws ((st.getD i default) + 2 + (k : Int)) := by rw [adjF_gi _ _ _ hbi.1 _ _ (by omega) (by omega), adW_out hok6 i (by omega) _ (by omega) (fun p hp => by have := hoi.2.2.2 p hp; omega)]
            have hgo := hR.goes (gi (adjF (adW ws cs (slG ws cs l st) st i) (slG ws cs l st) (st.getD i default) k) ((st.getD i default) + 2 + (k : Int)))
            have hgs : (goesF st (slTo ws cs l st) (gi (adjF (adW ws cs (slG ws cs l st) st i) (slG ws cs l st) (st.getD i default) k) ((st.getD i default) + 2 + (k : Int)))).isSome = true := by rw [hgo, hgw]; exact hnl _ (mem_getD hlt) k (by omega)
            refine W.reg ?_
            refine WL.run 5 rfl ?_
            refine WL.v (X.idxV (j := i) (r := offOf y + i * 1) tL34 tS3 (hp.old hY hYD) rfl rfl (by omega) (by omega) rfl) ?_
            refine WL.v (X.ld1 tA3 rfl (view_cell (j := i) (f := 0) (hp.old hY hYD) (get_some (by omega)) rfl (by omega))) ?_
            refine WL.v (X.add rfl rfl (in64 (by omega))) ?_
            refine WL.run 1 rfl ?_
            refine WL.v (X.add rfl rfl (in64 (by omega))) ?_
            refine WL.v (X.idxV (j := (((st.getD i default) + 2) + (k : Int)).toNat) (r := offOf v21 + ((((st.getD i default) + 2) + (k : Int)).toNat) * 1) tL34 tS3 (own_view (hp.at 0 rfl)) rfl rfl (by omega) (by omega) rfl) ?_
            refine WL.v (X.ld1 tA3 rfl (view_gi (a := ((st.getD i default) + 2) + (k : Int)) (own_view (hp.at 0 rfl)) (by omega))) ?_
            refine WL.call isFn43 rfl rfl (goes16_c (x := gi (adjF (adW ws cs (slG ws cs l st) st i) (slG ws cs l st) (st.getD i default) k) (((st.getD i default) + 2) + (k : Int))) (hp.old hY hYD) (own_view (hp.at 2 rfl)) htl) ?_
            intro v w hc hr
            obtain rfl := hr
            have hp := hp.ext hc
            refine WL.run 5 rfl ?_
            refine WL.s ?_
            refine W.sr ?_
            refine WL.run 2 rfl ?_
            refine WL.fin ?_
            have hc27 : (goesF st (slTo ws cs l st) (gi (adjF (adW ws cs (slG ws cs l st) st i) (slG ws cs l st) (st.getD i default) k) (((st.getD i default) + 2) + (k : Int)))).isSome = true := hgs
            refine W.cF rfl (congrArg not hc27) ?_
            refine W.kr ?_
            refine WL.run 3 rfl ?_
            refine WL.v (X.idxV (j := i) (r := offOf y + i * 1) tL34 tS3 (hp.old hY hYD) rfl rfl (by omega) (by omega) rfl) ?_
            refine WL.v (X.ld1 tA3 rfl (view_cell (j := i) (f := 0) (hp.old hY hYD) (get_some (by omega)) rfl (by omega))) ?_
            refine WL.v (X.add rfl rfl (in64 (by omega))) ?_
            refine WL.run 1 rfl ?_
            refine WL.v (X.add rfl rfl (in64 (by omega))) ?_
            refine WL.run 1 rfl ?_
            refine WL.v (X.idxV (j := (((st.getD i default) + 2) + (k : Int)).toNat) (r := offOf v21 + ((((st.getD i default) + 2) + (k : Int)).toNat) * 1) tL34 tS3 (own_view (hp.at 0 rfl)) rfl rfl (by omega) (by omega) rfl) ?_
            refine WL.stOwn hp 0 rfl (j := (((st.getD i default) + 2) + (k : Int)).toNat) (f := 0) (q := ((adjF (adW ws cs (slG ws cs l st) st i) (slG ws cs l st) (st.getD i default) k).getD ((((st.getD i default) + 2) + (k : Int)).toNat) default)) (q' := (goesF st (slTo ws cs l st) (gi (adjF (adW ws cs (slG ws cs l st) st i) (slG ws cs l st) (st.getD i default) k) (((st.getD i default) + 2) + (k : Int)))).getD 0) tS3 rfl rfl (vs := [.int .i64 ((goesF st (slTo ws cs l st) (gi (adjF (adW ws cs (slG ws cs l st) st i) (slG ws cs l st) (st.getD i default) k) (((st.getD i default) + 2) + (k : Int)))).getD 0)]) rfl rfl (get_some (by omega)) rfl (by simp only [List.length_cons, List.length_nil]; omega) rfl ?_
            intro w hp
            refine WL.nil ?_
            refine X.inN ?_
            refine X.thenN ?_
            refine W.reg ?_
            refine WL.run 1 rfl ?_
            refine WL.v (X.add rfl rfl (in64 (by omega))) ?_
            refine WL.run 1 rfl ?_
            refine WL.nil ?_
            refine X.again (k + 1) ⟨rfl, rfl, rfl, rfl, rfl, rfl, rfl, rfl, rfl, rfl, rfl, rfl, rfl, rfl, trivial⟩ ?_ ?_
            · exact ⟨by rw [hgo] at hp; exact hp, by omega⟩
            · omega
          refine W.cF rfl (decide_eq_false hc26) ?_
          refine W.exit ?_
          refine X.thenE ?_
          refine X.thenE ?_
          refine X.inH ?_
          refine X.thenN ?_
          refine W.seqCut (X := Nat) (fun bh => [(1, s), (2, y), (3, z), (4, .pointer (some ⟨b1, 0, none⟩)), (13, z2), (21, o18), (22, q19), (24, v21), (25, .slice (some ⟨b22, 0, none⟩) rt.length rt.length), (29, .int .i64 (i : Int)), (177, .int .i64 (st.length : Int)), (178, .int .i64 (i : Int)), (36, .pointer (some ⟨bh, 0, none⟩))]) (fun bh w => Hp w0 FL [blkR bh (.cells (#[.int .i64 ((objT ws cs (st.getD i default)).hd.cls), .int .i64 ((objT ws cs (st.getD i default)).hd.age), .int .i64 ((objT ws cs (st.getD i default)).hd.fwd), .bool ((objT ws cs (st.getD i default)).hd.mark), .bool ((objT ws cs (st.getD i default)).hd.final), .bool ((objT ws cs (st.getD i default)).hd.done)]) 103 (0, 0)), ownR 3 encI 1 v21 (adjF (adW ws cs (slG ws cs l st) st i) (slG ws cs l st) (st.getD i default) (objT ws cs (st.getD i default)).refs.toNat), ownR 3 encI 1 (.slice (some ⟨b22, 0, none⟩) rt.length rt.length) (rt.map fun a => ((slG ws cs l st) a).getD 0), ownR 3 encI 1 o18 (slTo ws cs l st), ownR 91 encS 3 q19 (slNow ws cs l st), ownR 3 encI 1 z2 (st.map fun a => (atT ws cs a).words), ownR 3 encI 1 v acc, blkR b1 (.cells (#[.pointer (some ⟨q, 0, none⟩), cv]) 42 (0, 0)), blkR q (.cells (#[wv]) 59 (0, 0)), ownR 3 encI 1 wv ws] w ∧ hdR (clrHd (objT ws cs (st.getD i default)).hd) = true) ?_ ?_
          · have hke : k = (objT ws cs (st.getD i default)).refs.toNat := by omega
            rw [hke] at hp
            have hRw := clrHd_R (objT_head hoi.1).1
            refine W.draw prog_mixed (fun w => (ownR 3 encI 1 v21 (adjF (adW ws cs (slG ws cs l st) st i) (slG ws cs l st) (st.getD i default) (objT ws cs (st.getD i default)).refs.toNat)).ok w ∧ (ownR 3 encI 1 (.slice (some ⟨b22, 0, none⟩) rt.length rt.length) (rt.map fun a => ((slG ws cs l st) a).getD 0)).ok w ∧ (ownR 3 encI 1 o18 (slTo ws cs l st)).ok w ∧ (ownR 91 encS 3 q19 (slNow ws cs l st)).ok w ∧ (ownR 3 encI 1 z2 (st.map fun a => (atT ws cs a).words)).ok w ∧ (ownR 3 encI 1 v acc).ok w ∧ (blkR b1 (.cells (#[.pointer (some ⟨q, 0, none⟩), cv]) 42 (0, 0))).ok w ∧ (blkR q (.cells (#[wv]) 59 (0, 0))).ok w ∧ (ownR 3 encI 1 wv ws).ok w ∧ (viewR clsV 4 cv cs).ok w ∧ (viewR encS 3 s l).ok w ∧ (viewR encI 1 y st).ok w ∧ (viewR encI 1 z rt).ok w ∧ True) hp ?_
            intro w hp
            refine WD.s ⟨hp.at 0 rfl, hp.at 1 rfl, hp.at 2 rfl, hp.at 3 rfl, hp.at 4 rfl, hp.at 5 rfl, hp.at 6 rfl, hp.at 7 rfl, hp.at 8 rfl, (hp.old hC hCD), (hp.old hV hVD), (hp.old hY hYD), (hp.old hZ hZD), trivial⟩ fun hS0 => ?_
            refine WD.v 0 rfl hS0 (fun w hS => (X.ldkA hS.2.2.2.2.2.2.1 tA42 tS42 (vs := [.pointer (some ⟨q, 0, none⟩), cv]) rfl rfl)) ?_
            refine WD.v 1 rfl hS0 (fun w hS => (X.mv rfl)) ?_
            refine WD.v 2 rfl hS0 (fun w hS => (X.mv rfl)) ?_
            refine WD.v 3 rfl hS0 (fun w hS => (X.idxV (j := i) (r := offOf y + i * 1) tL34 tS3 hS.2.2.2.2.2.2.2.2.2.2.2.1 rfl rfl (by omega) (by omega) rfl)) ?_
            refine WD.v 4 rfl hS0 (fun w hS => (X.ld1 tA3 rfl (view_cell (j := i) (f := 0) hS.2.2.2.2.2.2.2.2.2.2.2.1 (get_some (by omega)) rfl (by omega)))) ?_
            refine WD.two 5 9 (by kernel_rfl) ?_ ?_
            · refine WO.call rfl isFn45 rfl rfl (head6_c (a := (st.getD i default)) (hp.at 7 rfl) (own_view (hp.at 8 rfl)) (hp.old hC hCD) hcs) ?_
              intro v w hc hr
              obtain rfl := hr
              have hp := hp.ext hc
              refine andS ⟨hp.at 0 rfl, hp.at 1 rfl, hp.at 2 rfl, hp.at 3 rfl, hp.at 4 rfl, hp.at 5 rfl, hp.at 6 rfl, hp.at 7 rfl, hp.at 8 rfl, (hp.old hC hCD), (hp.old hV hVD), (hp.old hY hYD), (hp.old hZ hZD), trivial⟩ fun hS0 => ?_
              refine WD.v 6 rfl hS0 (fun w hS => (X.mv rfl)) ?_
              refine WD.v 7 rfl hS0 (fun w hS => (X.ext rfl rfl)) ?_
              refine WD.v 8 rfl hS0 (fun w hS => (X.ext rfl rfl)) ?_
              refine WD.one 9 (by kernel_rfl) ?_
              refine WO.alloc hp rfl tZ103 rfl ?_
              intro b28 w hp
              refine andS ⟨hp.at 1 rfl, hp.at 2 rfl, hp.at 3 rfl, hp.at 4 rfl, hp.at 5 rfl, hp.at 6 rfl, hp.at 7 rfl, hp.at 8 rfl, hp.at 9 rfl, (hp.old hC hCD), (hp.old hV hVD), (hp.old hY hYD), (hp.old hZ hZD), trivial⟩ fun hS0 => ?_
              refine WD.one 10 (by kernel_rfl) ?_
              refine WO.store hp 0 rfl rfl tS103 rfl rfl (vs := [.int .i64 ((objT ws cs (st.getD i default)).hd.cls), .int .i64 ((objT ws cs (st.getD i default)).hd.age), .int .i64 ((objT ws cs (st.getD i default)).hd.fwd), .bool ((objT ws cs (st.getD i default)).hd.mark), .bool ((objT ws cs (st.getD i default)).hd.final), .bool ((objT ws cs (st.getD i default)).hd.done)]) rfl rfl rfl (new := #[.int .i64 ((objT ws cs (st.getD i default)).hd.cls), .int .i64 ((objT ws cs (st.getD i default)).hd.age), .int .i64 ((objT ws cs (st.getD i default)).hd.fwd), .bool ((objT ws cs (st.getD i default)).hd.mark), .bool ((objT ws cs (st.getD i default)).hd.final), .bool ((objT ws cs (st.getD i default)).hd.done)]) rfl ?_
              intro w hp
              refine andS ⟨hp.at 1 rfl, hp.at 2 rfl, hp.at 3 rfl, hp.at 4 rfl, hp.at 5 rfl, hp.at 6 rfl, hp.at 7 rfl, hp.at 8 rfl, hp.at 9 rfl, (hp.old hC hCD), (hp.old hV hVD), (hp.old hY hYD), (hp.old hZ hZD), trivial⟩ fun hS0 => ?_
              refine WD.v 11 rfl hS0 (fun w hS => (X.as rfl)) ?_
              refine WD.nil (by kernel_rfl) ?_
              exact X.here b28 ⟨rfl, rfl, rfl, rfl, rfl, rfl, rfl, rfl, rfl, rfl, rfl, rfl, rfl, trivial⟩ (by
                exact ⟨hp, hRw⟩)
            refine WO.alloc hp rfl tZ103 rfl ?_
            intro b29 w hp
            refine andS ⟨hp.at 1 rfl, hp.at 2 rfl, hp.at 3 rfl, hp.at 4 rfl, hp.at 5 rfl, hp.at 6 rfl, hp.at 7 rfl, hp.at 8 rfl, hp.at 9 rfl, (hp.old hC hCD), (hp.old hV hVD), (hp.old hY hYD), (hp.old hZ hZD), trivial⟩ fun hS0 => ?_
            refine WD.one 5 (by kernel_rfl) ?_
            refine WO.call rfl isFn45 rfl rfl (head6_c (a := (st.getD i default)) (hp.at 8 rfl) (own_view (hp.at 9 rfl)) (hp.old hC hCD) hcs) ?_
            intro v w hc hr
            obtain rfl := hr
            have hp := hp.ext hc
            refine andS ⟨hp.at 1 rfl, hp.at 2 rfl, hp.at 3 rfl, hp.at 4 rfl, hp.at 5 rfl, hp.at 6 rfl, hp.at 7 rfl, hp.at 8 rfl, hp.at 9 rfl, (hp.old hC hCD), (hp.old hV hVD), (hp.old hY hYD), (hp.old hZ hZD), trivial⟩ fun hS0 => ?_
            refine WD.v 6 rfl hS0 (fun w hS => (X.mv rfl)) ?_
            refine WD.v 7 rfl hS0 (fun w hS => (X.ext rfl rfl)) ?_
            refine WD.v 8 rfl hS0 (fun w hS => (X.ext rfl rfl)) ?_
            refine WD.one 10 (by kernel_rfl) ?_
            refine WO.store hp 0 rfl rfl tS103 rfl rfl (vs := [.int .i64 ((objT ws cs (st.getD i default)).hd.cls), .int .i64 ((objT ws cs (st.getD i default)).hd.age), .int .i64 ((objT ws cs (st.getD i default)).hd.fwd), .bool ((objT ws cs (st.getD i default)).hd.mark), .bool ((objT ws cs (st.getD i default)).hd.final), .bool ((objT ws cs (st.getD i default)).hd.done)]) rfl rfl rfl (new := #[.int .i64 ((objT ws cs (st.getD i default)).hd.cls), .int .i64 ((objT ws cs (st.getD i default)).hd.age), .int .i64 ((objT ws cs (st.getD i default)).hd.fwd), .bool ((objT ws cs (st.getD i default)).hd.mark), .bool ((objT ws cs (st.getD i default)).hd.final), .bool ((objT ws cs (st.getD i default)).hd.done)]) rfl ?_
            intro w hp
            refine andS ⟨hp.at 1 rfl, hp.at 2 rfl, hp.at 3 rfl, hp.at 4 rfl, hp.at 5 rfl, hp.at 6 rfl, hp.at 7 rfl, hp.at 8 rfl, hp.at 9 rfl, (hp.old hC hCD), (hp.old hV hVD), (hp.old hY hYD), (hp.old hZ hZD), trivial⟩ fun hS0 => ?_
            refine WD.v 11 rfl hS0 (fun w hS => (X.as rfl)) ?_
            refine WD.nil (by kernel_rfl) ?_
            exact X.here b29 ⟨rfl, rfl, rfl, rfl, rfl, rfl, rfl, rfl, rfl, rfl, rfl, rfl, rfl, trivial⟩ (by
              exact ⟨hp, hRw⟩)
          rintro bh w ⟨hp, hRw⟩
          refine W.sr ?_
          refine WL.run 1 rfl ?_
          refine WL.store hp 0 rfl tS4 rfl rfl (vs := [.bool false]) rfl rfl rfl (new := #[.int .i64 ((objT ws cs (st.getD i default)).hd.cls), .int .i64 ((objT ws cs (st.getD i default)).hd.age), .int .i64 ((objT ws cs (st.getD i default)).hd.fwd), .bool false, .bool ((objT ws cs (st.getD i default)).hd.final), .bool ((objT ws cs (st.getD i default)).hd.done)]) rfl ?_
          intro w hp
          refine WL.a ?_
          refine WL.run 1 rfl ?_
          refine WL.store hp 0 rfl tS3 rfl rfl (vs := [.int .i64 0]) rfl rfl rfl (new := #[.int .i64 ((objT ws cs (st.getD i default)).hd.cls), .int .i64 ((objT ws cs (st.getD i default)).hd.age), .int .i64 0, .bool false, .bool ((objT ws cs (st.getD i default)).hd.final), .bool ((objT ws cs (st.getD i default)).hd.done)]) rfl ?_
          intro w hp
          refine WL.fin ?_
          refine W.draw prog_mixed (fun w => (blkR bh (.cells (#[.int .i64 ((objT ws cs (st.getD i default)).hd.cls), .int .i64 ((objT ws cs (st.getD i default)).hd.age), .int .i64 0, .bool false, .bool ((objT ws cs (st.getD i default)).hd.final), .bool ((objT ws cs (st.getD i default)).hd.done)]) 103 (0, 0))).ok w ∧ (ownR 3 encI 1 (.slice (some ⟨b22, 0, none⟩) rt.length rt.length) (rt.map fun a => ((slG ws cs l st) a).getD 0)).ok w ∧ (ownR 3 encI 1 o18 (slTo ws cs l st)).ok w ∧ (ownR 91 encS 3 q19 (slNow ws cs l st)).ok w ∧ (ownR 3 encI 1 z2 (st.map fun a => (atT ws cs a).words)).ok w ∧ (ownR 3 encI 1 v acc).ok w ∧ (blkR b1 (.cells (#[.pointer (some ⟨q, 0, none⟩), cv]) 42 (0, 0))).ok w ∧ (blkR q (.cells (#[wv]) 59 (0, 0))).ok w ∧ (ownR 3 encI 1 wv ws).ok w ∧ (viewR clsV 4 cv cs).ok w ∧ (viewR encS 3 s l).ok w ∧ (viewR encI 1 y st).ok w ∧ (viewR encI 1 z rt).ok w ∧ True) hp ?_
          intro w hp
          refine WD.s ⟨hp.at 0 rfl, hp.at 2 rfl, hp.at 3 rfl, hp.at 4 rfl, hp.at 5 rfl, hp.at 6 rfl, hp.at 7 rfl, hp.at 8 rfl, hp.at 9 rfl, (hp.old hC hCD), (hp.old hV hVD), (hp.old hY hYD), (hp.old hZ hZD), trivial⟩ fun hS0 => ?_
          refine WD.v 0 rfl hS0 (fun w hS => (X.mv rfl)) ?_
          refine WD.v 1 rfl hS0 (fun w hS => (X.mv rfl)) ?_
          refine WD.v 2 rfl hS0 (fun w hS => (X.mv rfl)) ?_
          refine WD.v 3 rfl hS0 (fun w hS => (X.idxV (j := i) (r := offOf y + i * 1) tL34 tS3 hS.2.2.2.2.2.2.2.2.2.2.2.1 rfl rfl (by omega) (by omega) rfl)) ?_
          refine WD.v 4 rfl hS0 (fun w hS => (X.ld1 tA3 rfl (view_cell (j := i) (f := 0) hS.2.2.2.2.2.2.2.2.2.2.2.1 (get_some (by omega)) rfl (by omega)))) ?_
          refine WD.v 5 rfl hS0 (fun w hS => (X.ldkA hS.1 tA103 tS103 (vs := [.int .i64 ((objT ws cs (st.getD i default)).hd.cls), .int .i64 ((objT ws cs (st.getD i default)).hd.age), .int .i64 0, .bool false, .bool ((objT ws cs (st.getD i default)).hd.final), .bool ((objT ws cs (st.getD i default)).hd.done)]) rfl rfl)) ?_
          refine WD.one 6 (by kernel_rfl) ?_
          refine WO.call rfl isFn46 rfl rfl (word4_c (h := (⟨(objT ws cs (st.getD i default)).hd.cls, (objT ws cs (st.getD i default)).hd.age, 0, false, (objT ws cs (st.getD i default)).hd.final, (objT ws cs (st.getD i default)).hd.done⟩ : Hd)) hRw) ?_
          intro v w hc hr
          obtain rfl := hr
          have hp := hp.ext hc
          refine andS ⟨hp.at 0 rfl, hp.at 2 rfl, hp.at 3 rfl, hp.at 4 rfl, hp.at 5 rfl, hp.at 6 rfl, hp.at 7 rfl, hp.at 8 rfl, hp.at 9 rfl, (hp.old hC hCD), (hp.old hV hVD), (hp.old hY hYD), (hp.old hZ hZD), trivial⟩ fun hS0 => ?_
          refine WD.one 7 (by kernel_rfl) ?_
          refine WO.val rfl rfl rfl (X.idxV (j := (st.getD i default).toNat) (r := offOf v21 + ((st.getD i default).toNat) * 1) tL34 tS3 (own_view (hp.at 1 rfl)) rfl rfl (by omega) (by rw [adjF_len]; omega) rfl) hS0 ?_
          refine WD.one 8 (by kernel_rfl) ?_
          refine WO.stOwn hp 1 rfl rfl (j := (st.getD i default).toNat) (f := 0) (q := ((adjF (adW ws cs (slG ws cs l st) st i) (slG ws cs l st) (st.getD i default) (objT ws cs (st.getD i default)).refs.toNat).getD ((st.getD i default).toNat) default)) (q' := hdW (⟨(objT ws cs (st.getD i default)).hd.cls, (objT ws cs (st.getD i default)).hd.age, 0, false, (objT ws cs (st.getD i default)).hd.final, (objT ws cs (st.getD i default)).hd.done⟩ : Hd)) tS3 rfl rfl (vs := [.int .i64 (hdW (⟨(objT ws cs (st.getD i default)).hd.cls, (objT ws cs (st.getD i default)).hd.age, 0, false, (objT ws cs (st.getD i default)).hd.final, (objT ws cs (st.getD i default)).hd.done⟩ : Hd))]) rfl rfl (get_some (by rw [adjF_len]; omega)) rfl (by simp only [List.length_cons, List.length_nil]; omega) rfl ?_
          intro w hp
          refine andS ⟨hp.at 0 rfl, hp.at 2 rfl, hp.at 3 rfl, hp.at 4 rfl, hp.at 5 rfl, hp.at 6 rfl, hp.at 7 rfl, hp.at 8 rfl, hp.at 9 rfl, (hp.old hC hCD), (hp.old hV hVD), (hp.old hY hYD), (hp.old hZ hZD), trivial⟩ fun hS0 => ?_
          refine WD.nil (by kernel_rfl) ?_
          refine X.inN ?_
          refine X.thenN ?_
          refine W.reg ?_
          refine WL.v (X.add rfl rfl (in64 (by omega))) ?_
          refine WL.run 1 rfl ?_
          refine WL.nil ?_
          refine X.again (i + 1) ⟨rfl, rfl, rfl, rfl, rfl, rfl, rfl, rfl, rfl, rfl, rfl, trivial⟩ ?_ ?_
          · exact ⟨(hp.sel [1, 2, 3, 4, 5, 6, 7, 8, 9] (by decide)), by omega⟩
          · omega
        refine W.cF rfl (decide_eq_false hc25) ?_
        refine W.exit ?_
        refine X.thenE ?_
        refine X.thenE ?_
        refine X.inH ?_
        refine X.thenN ?_
        refine W.seq ?_
        refine W.seq ?_
        have hie : i = st.length := by omega
        rw [hie] at hp
        refine W.reg ?_
        refine WL.run 1 rfl ?_
        refine WL.v (view_len tL34 (hp.old hY hYD) rfl) ?_
        refine WL.run 1 rfl ?_
        refine WL.fin ?_
        refine W.block ?_
        refine W.loop (X := Nat) (fun i => st.length - i) (fun i => [(1, s), (2, y), (3, z), (4, .pointer (some ⟨b1, 0, none⟩)), (13, z2), (21, o18), (22, q19), (24, v21), (25, .slice (some ⟨b22, 0, none⟩) rt.length rt.length), (245, .int .i64 (st.length : Int)), (246, .int .i64 (i : Int))]) (fun i w => Hp w0 FL [ownR 3 encI 1 wv (cpW ws cs (adW ws cs (slG ws cs l st) st st.length) st (slTo ws cs l st) i), ownR 3 encI 1 v21 (adW ws cs (slG ws cs l st) st st.length), ownR 3 encI 1 (.slice (some ⟨b22, 0, none⟩) rt.length rt.length) (rt.map fun a => ((slG ws cs l st) a).getD 0), ownR 3 encI 1 o18 (slTo ws cs l st), ownR 91 encS 3 q19 (slNow ws cs l st), ownR 3 encI 1 z2 (st.map fun a => (atT ws cs a).words), ownR 3 encI 1 v acc, blkR b1 (.cells (#[.pointer (some ⟨q, 0, none⟩), cv]) 42 (0, 0)), blkR q (.cells (#[wv]) 59 (0, 0))] w ∧ i ≤ st.length) 0 ⟨rfl, rfl, rfl, rfl, rfl, rfl, rfl, rfl, rfl, rfl, rfl, trivial⟩ ?_ ?_
        · exact ⟨(hp.sel [8, 0, 1, 2, 3, 4, 5, 6, 7] (by decide)), by omega⟩
        rintro i w ⟨hp, hi⟩
        refine W.sr ?_
        refine WL.run 1 rfl ?_
        refine WL.s ?_
        by_cases hc30 : (i : Int) < (st.length : Int)
        · refine W.cT rfl (decide_eq_true hc30) ?_
          refine W.k ?_
          refine W.seq ?_
          refine W.block ?_
          refine W.sr ?_
          refine WL.run 2 rfl ?_
          refine WL.s ?_
          have hlt : i < st.length := by omega
          have hoi := hok6 i hlt
          have hwi := (hR.was i hlt).2
          have hbn := hR.bound hcs i hlt
          have hle6 := hR.le i hlt
          have htl2 := hR.tlen
          have hcl6 := cpW_len (ws := ws) (cs := cs) (st := st) (adW ws cs (slG ws cs l st) st st.length) (slTo ws cs l st) i
          have hal6 := adW_len (ws := ws) (cs := cs) (st := st) (slG ws cs l st) st.length
          have hszi : (st.map fun a => (atT ws cs a).words).getD i default = wordsAt ws cs (st.getD i default) := getD_map' _ hlt
          refine W.reg ?_
          refine WL.run 1 rfl ?_
          refine WL.fin ?_
          refine W.block ?_
          refine W.loop (X := Nat) (fun k => (wordsAt ws cs (st.getD i default)).toNat - k) (fun k => [(1, s), (2, y), (3, z), (4, .pointer (some ⟨b1, 0, none⟩)), (13, z2), (21, o18), (22, q19), (24, v21), (25, .slice (some ⟨b22, 0, none⟩) rt.length rt.length), (38, .int .i64 (i : Int)), (245, .int .i64 (st.length : Int)), (246, .int .i64 (i : Int)), (39, .int .i64 (k : Int))]) (fun k w => Hp w0 FL [ownR 3 encI 1 wv (cpF (cpW ws cs (adW ws cs (slG ws cs l st) st st.length) st (slTo ws cs l st) i) (adW ws cs (slG ws cs l st) st st.length) ((slTo ws cs l st).getD i default) (st.getD i default) k), ownR 3 encI 1 v21 (adW ws cs (slG ws cs l st) st st.length), ownR 3 encI 1 (.slice (some ⟨b22, 0, none⟩) rt.length rt.length) (rt.map fun a => ((slG ws cs l st) a).getD 0), ownR 3 encI 1 o18 (slTo ws cs l st), ownR 91 encS 3 q19 (slNow ws cs l st), ownR 3 encI 1 z2 (st.map fun a => (atT ws cs a).words), ownR 3 encI 1 v acc, blkR b1 (.cells (#[.pointer (some ⟨q, 0, none⟩), cv]) 42 (0, 0)), blkR q (.cells (#[wv]) 59 (0, 0))] w ∧ k ≤ (wordsAt ws cs (st.getD i default)).toNat) 0 ⟨rfl, rfl, rfl, rfl, rfl, rfl, rfl, rfl, rfl, rfl, rfl, rfl, rfl, trivial⟩ ?_ ?_
          · exact ⟨hp, by omega⟩
          rintro k w ⟨hp, hk⟩
          refine W.seq ?_
          refine W.sr ?_
          refine WL.run 3 rfl ?_
          refine WL.v (X.idxV (j := i) (r := offOf z2 + i * 1) tL34 tS3 (own_view (hp.at 5 rfl)) rfl rfl (by omega) (by omega) rfl) ?_
          refine WL.v (X.ld1 tA3 rfl (view_cell (j := i) (f := 0) (own_view (hp.at 5 rfl)) (get_some (by omega)) rfl (by omega))) ?_
          refine WL.run 1 rfl ?_
          refine WL.fin ?_
          by_cases hc31 : (k : Int) < ((st.map fun a => (atT ws cs a).words).getD i default)
          · refine W.cT rfl (decide_eq_true hc31) ?_
            refine W.k ?_
            refine W.seq ?_
            refine W.block ?_
            have hcpl6 := cpF_len (cpW ws cs (adW ws cs (slG ws cs l st) st st.length) st (slTo ws cs l st) i) (adW ws cs (slG ws cs l st) st st.length) ((slTo ws cs l st).getD i default) (st.getD i default) k
            refine W.draw prog_mixed (fun w => (ownR 3 encI 1 v21 (adW ws cs (slG ws cs l st) st st.length)).ok w ∧ (ownR 3 encI 1 (.slice (some ⟨b22, 0, none⟩) rt.length rt.length) (rt.map fun a => ((slG ws cs l st) a).getD 0)).ok w ∧ (ownR 3 encI 1 o18 (slTo ws cs l st)).ok w ∧ (ownR 91 encS 3 q19 (slNow ws cs l st)).ok w ∧ (ownR 3 encI 1 z2 (st.map fun a => (atT ws cs a).words)).ok w ∧ (ownR 3 encI 1 v acc).ok w ∧ (blkR b1 (.cells (#[.pointer (some ⟨q, 0, none⟩), cv]) 42 (0, 0))).ok w ∧ (blkR q (.cells (#[wv]) 59 (0, 0))).ok w ∧ (viewR clsV 4 cv cs).ok w ∧ (viewR encS 3 s l).ok w ∧ (viewR encI 1 y st).ok w ∧ (viewR encI 1 z rt).ok w ∧ True) hp ?_
            intro w hp
            refine WD.s ⟨hp.at 1 rfl, hp.at 2 rfl, hp.at 3 rfl, hp.at 4 rfl, hp.at 5 rfl, hp.at 6 rfl, hp.at 7 rfl, hp.at 8 rfl, (hp.old hC hCD), (hp.old hV hVD), (hp.old hY hYD), (hp.old hZ hZD), trivial⟩ fun hS0 => ?_
            refine WD.v 0 rfl hS0 (fun w hS => (X.fa (r := 0) tF42_0 rfl rfl)) ?_
            refine WD.v 1 rfl hS0 (fun w hS => (X.ldk hS.2.2.2.2.2.2.1 tA40 rfl rfl)) ?_
            refine WD.v 2 rfl hS0 (fun w hS => (X.nilc rfl)) ?_
            refine WD.v 3 rfl hS0 (fun w hS => (X.fa (r := 0) tF59_0 rfl rfl)) ?_
            refine WD.v 4 rfl hS0 (fun w hS => (X.ldk hS.2.2.2.2.2.2.2.1 tA34 rfl rfl)) ?_
            refine WD.v 5 rfl hS0 (fun w hS => (X.mv rfl)) ?_
            refine WD.v 6 rfl hS0 (fun w hS => (X.mv rfl)) ?_
            refine WD.v 7 rfl hS0 (fun w hS => (X.idxV (j := i) (r := offOf o18 + i * 1) tL34 tS3 (own_view hS.2.2.1) rfl rfl (by omega) (by omega) rfl)) ?_
            refine WD.v 8 rfl hS0 (fun w hS => (X.ld1 tA3 rfl (view_cell (j := i) (f := 0) (own_view hS.2.2.1) (get_some (by omega)) rfl (by omega)))) ?_
            refine WD.v 9 rfl hS0 (fun w hS => (X.mv rfl)) ?_
            refine WD.v 10 rfl hS0 (fun w hS => (X.add rfl rfl (in64 (by omega)))) ?_
            refine WD.v 11 rfl hS0 (fun w hS => (X.mv rfl)) ?_
            refine WD.v 12 rfl hS0 (fun w hS => (X.mv rfl)) ?_
            refine WD.v 13 rfl hS0 (fun w hS => (X.mv rfl)) ?_
            refine WD.v 14 rfl hS0 (fun w hS => (X.idxV (j := i) (r := offOf y + i * 1) tL34 tS3 hS.2.2.2.2.2.2.2.2.2.2.1 rfl rfl (by omega) (by omega) rfl)) ?_
            refine WD.v 15 rfl hS0 (fun w hS => (X.ld1 tA3 rfl (view_cell (j := i) (f := 0) hS.2.2.2.2.2.2.2.2.2.2.1 (get_some (by omega)) rfl (by omega)))) ?_
            refine WD.v 16 rfl hS0 (fun w hS => (X.mv rfl)) ?_
            refine WD.v 17 rfl hS0 (fun w hS => (X.add rfl rfl (in64 (by omega)))) ?_
            refine WD.v 18 rfl hS0 (fun w hS => (X.idxV (j := ((st.getD i default) + (k : Int)).toNat) (r := offOf v21 + (((st.getD i default) + (k : Int)).toNat) * 1) tL34 tS3 (own_view hS.1) rfl rfl (by omega) (by omega) rfl)) ?_
            refine WD.v 19 rfl hS0 (fun w hS => (X.ld1 tA3 rfl (view_gi (a := (st.getD i default) + (k : Int)) (own_view hS.1) (by omega)))) ?_
            refine WD.one 20 (by kernel_rfl) ?_
            refine WO.val rfl rfl rfl (X.idxV (j := (((slTo ws cs l st).getD i default) + (k : Int)).toNat) (r := offOf wv + ((((slTo ws cs l st).getD i default) + (k : Int)).toNat) * 1) tL34 tS3 (own_view (hp.at 0 rfl)) rfl rfl (by omega) (by omega) rfl) hS0 ?_
            refine WD.one 21 (by kernel_rfl) ?_
            refine WO.stOwn hp 0 rfl rfl (j := (((slTo ws cs l st).getD i default) + (k : Int)).toNat) (f := 0) (q := ((cpF (cpW ws cs (adW ws cs (slG ws cs l st) st st.length) st (slTo ws cs l st) i) (adW ws cs (slG ws cs l st) st st.length) ((slTo ws cs l st).getD i default) (st.getD i default) k).getD ((((slTo ws cs l st).getD i default) + (k : Int)).toNat) default)) (q' := gi (adW ws cs (slG ws cs l st) st st.length) ((st.getD i default) + (k : Int))) tS3 rfl rfl (vs := [.int .i64 (gi (adW ws cs (slG ws cs l st) st st.length) ((st.getD i default) + (k : Int)))]) rfl rfl (get_some (by omega)) rfl (by simp only [List.length_cons, List.length_nil]; omega) rfl ?_
            intro w hp
            refine andS ⟨hp.at 1 rfl, hp.at 2 rfl, hp.at 3 rfl, hp.at 4 rfl, hp.at 5 rfl, hp.at 6 rfl, hp.at 7 rfl, hp.at 8 rfl, (hp.old hC hCD), (hp.old hV hVD), (hp.old hY hYD), (hp.old hZ hZD), trivial⟩ fun hS0 => ?_
            refine WD.nil (by kernel_rfl) ?_
            refine X.inN ?_
            refine X.thenN ?_
            refine W.reg ?_
            refine WL.run 1 rfl ?_
            refine WL.v (X.add rfl rfl (in64 (by omega))) ?_
            refine WL.run 1 rfl ?_
            refine WL.nil ?_
            refine X.again (k + 1) ⟨rfl, rfl, rfl, rfl, rfl, rfl, rfl, rfl, rfl, rfl, rfl, rfl, rfl, trivial⟩ ?_ ?_
            · exact ⟨hp, by omega⟩
            · omega
          refine W.cF rfl (decide_eq_false hc31) ?_
          refine W.exit ?_
          refine X.thenE ?_
          refine X.thenE ?_
          refine X.inH ?_
          refine X.inN ?_
          refine X.thenN ?_
          have hke : k = (wordsAt ws cs (st.getD i default)).toNat := by omega
          refine W.reg ?_
          refine WL.v (X.add rfl rfl (in64 (by omega))) ?_
          refine WL.run 1 rfl ?_
          refine WL.nil ?_
          refine X.again (i + 1) ⟨rfl, rfl, rfl, rfl, rfl, rfl, rfl, rfl, rfl, rfl, rfl, trivial⟩ ?_ ?_
          · exact ⟨by rw [hke] at hp; exact hp, by omega⟩
          · omega
        refine W.cF rfl (decide_eq_false hc30) ?_
        refine W.exit ?_
        refine X.thenE ?_
        refine X.thenE ?_
        refine X.inH ?_
        refine X.thenN ?_
        refine W.sr ?_
        refine WL.run 5 rfl ?_
        refine WL.fin ?_
        refine W.ret ?_
        refine W.done hp (rs := [.tmp 8, .tmp 9, .tmp 10]) (vs := [.slice (some ⟨b22, 0, none⟩) rt.length rt.length, q19, .int .i64 0]) (v := .tuple #[.slice (some ⟨b22, 0, none⟩) rt.length rt.length, q19, .int .i64 0]) rfl ⟨rfl, rfl, rfl, trivial⟩ rfl ?_
        have hie2 : i = st.length := by omega
        rw [hie2] at hp
        exact ⟨_, _, rfl, (hp.sel [8, 0, 2, 4] (by decide))⟩
      exact absurd hpl0 hq17
    refine WD.g0 8 rfl (by kernel_rfl) rfl rfl rfl (decide_eq_false hc3) rfl (fun _ _ _ h => h) hS0 ?_
    refine WD.g0 9 rfl (by kernel_rfl) rfl rfl rfl (decide_eq_false hc3) rfl (fun _ _ _ h => h) hS0 ?_
    refine WD.g0 10 rfl (by kernel_rfl) rfl rfl rfl (decide_eq_false hc3) rfl (fun _ _ _ h => h) hS0 ?_
    refine WD.g0 11 rfl (by kernel_rfl) rfl rfl rfl (decide_eq_false hc3) rfl (fun _ _ _ h => h) hS0 ?_
    refine WD.g0 12 rfl (by kernel_rfl) rfl rfl rfl (decide_eq_false hc3) rfl (fun _ _ _ h => h) hS0 ?_
    refine WD.g0 13 rfl (by kernel_rfl) rfl rfl rfl (decide_eq_false hc3) rfl (fun _ _ _ h => h) hS0 ?_
    refine WD.g0 14 rfl (by kernel_rfl) rfl rfl rfl (decide_eq_false hc3) rfl (fun _ _ _ h => h) hS0 ?_
    refine WD.g0 15 rfl (by kernel_rfl) rfl rfl rfl (decide_eq_false hc3) rfl (fun _ _ _ h => h) hS0 ?_
    refine WD.g0 16 rfl (by kernel_rfl) rfl rfl rfl (decide_eq_false hc3) rfl (fun _ _ _ h => h) hS0 ?_
    refine WD.g0 17 rfl (by kernel_rfl) rfl rfl rfl (decide_eq_false hc3) rfl (fun _ _ _ h => h) hS0 ?_
    refine WD.g0 18 rfl (by kernel_rfl) rfl rfl rfl (decide_eq_false hc3) rfl (fun _ _ _ h => h) hS0 ?_
    refine WD.g0 19 rfl (by kernel_rfl) rfl rfl rfl (decide_eq_false hc3) rfl (fun _ _ _ h => h) hS0 ?_
    refine WD.g0 20 rfl (by kernel_rfl) rfl rfl rfl (decide_eq_false hc3) rfl (fun _ _ _ h => h) hS0 ?_
    refine WD.g0 21 rfl (by kernel_rfl) rfl rfl rfl (decide_eq_false hc3) rfl (fun _ _ _ h => h) hS0 ?_
    refine WD.gv 22 rfl rfl rfl rfl (congrArg not hc2) hS0 (fun w hS => (X.pkF rfl (decide_eq_false hc3) rfl)) ?_
    refine WD.v 23 rfl hS0 (fun w hS => (X.pkF rfl (congrArg not hc2) rfl)) ?_
    refine WD.nil (by kernel_rfl) ?_
    refine X.thenN ?_
    refine W.cF rfl rfl ?_
    refine W.k ?_
    refine W.seq ?_
    refine W.sr ?_
    refine WL.run 1 rfl ?_
    refine WL.v (view_len tL34 (hp.old hY hYD) rfl) ?_
    refine WL.run 1 rfl ?_
    refine WL.fin ?_
    refine W.block ?_
    refine W.loop (X := Nat) (fun i => st.length - i) (fun i => [(1, s), (2, y), (3, z), (4, .pointer (some ⟨b1, 0, none⟩)), (65, .int .i64 (st.length : Int)), (66, .int .i64 (i : Int))]) (fun i w => Hp w0 FL [blkR b1 (.cells (#[.pointer (some ⟨q, 0, none⟩), cv]) 42 (0, 0)), blkR q (.cells (#[wv]) 59 (0, 0)), ownR 3 encI 1 wv ws] w ∧ i ≤ st.length) 0 ⟨rfl, rfl, rfl, rfl, rfl, rfl, trivial⟩ ?_ ?_
    · exact ⟨hp, by omega⟩
    rintro i w ⟨hp, hi⟩
    refine W.sr ?_
    refine WL.run 1 rfl ?_
    refine WL.s ?_
    by_cases hc32 : (i : Int) < (st.length : Int)
    · refine W.cT rfl (decide_eq_true hc32) ?_
      refine W.k ?_
      refine W.seq ?_
      refine W.block ?_
      refine W.sr ?_
      refine WL.run 2 rfl ?_
      refine WL.s ?_
      have hlt : i < st.length := by omega
      have hasc1 : 0 < i → ¬ st.getD i default ≤ st.getD ((i : Int) - 1).toNat default := fun h0 => by
        rw [show ((i : Int) - 1).toNat = i - 1 from by omega]
        have a := hR.asc (i - 1) i (by omega) hlt
        have b := (hR.was (i - 1) (by omega)).2
        omega
      refine W.draw prog_mixed (fun w => (blkR b1 (.cells (#[.pointer (some ⟨q, 0, none⟩), cv]) 42 (0, 0))).ok w ∧ (blkR q (.cells (#[wv]) 59 (0, 0))).ok w ∧ (ownR 3 encI 1 wv ws).ok w ∧ (viewR clsV 4 cv cs).ok w ∧ (viewR encS 3 s l).ok w ∧ (viewR encI 1 y st).ok w ∧ (viewR encI 1 z rt).ok w ∧ True) hp ?_
      intro w hp
      refine WD.s ⟨hp.at 0 rfl, hp.at 1 rfl, hp.at 2 rfl, (hp.old hC hCD), (hp.old hV hVD), (hp.old hY hYD), (hp.old hZ hZD), trivial⟩ fun hS0 => ?_
      refine WD.v 0 rfl hS0 (fun w hS => (X.mv rfl)) ?_
      refine WD.v 1 rfl hS0 (fun w hS => (X.gtr rfl rfl)) ?_
      refine WD.v 2 rfl hS0 (fun w hS => (X.mv rfl)) ?_
      by_cases hc33 : 0 < (i : Int)
      · refine WD.gv 3 rfl rfl rfl rfl (decide_eq_true hc33) hS0 (fun w hS => (X.mv rfl)) ?_
        refine WD.gv 4 rfl rfl rfl rfl (decide_eq_true hc33) hS0 (fun w hS => (X.mv rfl)) ?_
        refine WD.gv 5 rfl rfl rfl rfl (decide_eq_true hc33) hS0 (fun w hS => (X.idxV (j := i) (r := offOf y + i * 1) tL34 tS3 hS.2.2.2.2.2.1 rfl rfl (by omega) (by omega) rfl)) ?_
        refine WD.gv 6 rfl rfl rfl rfl (decide_eq_true hc33) hS0 (fun w hS => (X.ld1 tA3 rfl (view_cell (j := i) (f := 0) hS.2.2.2.2.2.1 (get_some (by omega)) rfl (by omega)))) ?_
        refine WD.gv 7 rfl rfl rfl rfl (decide_eq_true hc33) hS0 (fun w hS => (X.mv rfl)) ?_
        refine WD.gv 8 rfl rfl rfl rfl (decide_eq_true hc33) hS0 (fun w hS => (X.mv rfl)) ?_
        refine WD.gv 9 rfl rfl rfl rfl (decide_eq_true hc33) hS0 (fun w hS => (X.sub rfl rfl (in64 (by omega)))) ?_
        refine WD.gv 10 rfl rfl rfl rfl (decide_eq_true hc33) hS0 (fun w hS => (X.idxV (j := ((i : Int) - 1).toNat) (r := offOf y + (((i : Int) - 1).toNat) * 1) tL34 tS3 hS.2.2.2.2.2.1 rfl rfl (by omega) (by omega) rfl)) ?_
        refine WD.gv 11 rfl rfl rfl rfl (decide_eq_true hc33) hS0 (fun w hS => (X.ld1 tA3 rfl (view_cell (j := ((i : Int) - 1).toNat) (f := 0) hS.2.2.2.2.2.1 (get_some (by omega)) rfl (by omega)))) ?_
        refine WD.gv 12 rfl rfl rfl rfl (decide_eq_true hc33) hS0 (fun w hS => (X.leq rfl rfl)) ?_
        refine WD.v 13 rfl hS0 (fun w hS => (X.pkT rfl (decide_eq_true hc33) rfl)) ?_
        refine WD.nil (by kernel_rfl) ?_
        refine X.thenN ?_
        have hc34 : ¬ ((st.getD i default) ≤ (st.getD (((i : Int) - 1).toNat) default)) := hasc1 (by omega)
        refine W.cF rfl (decide_eq_false hc34) ?_
        refine W.skip ?_
        refine X.inN ?_
        refine X.thenN ?_
        refine W.reg ?_
        refine WL.v (X.add rfl rfl (in64 (by omega))) ?_
        refine WL.run 1 rfl ?_
        refine WL.nil ?_
        refine X.again (i + 1) ⟨rfl, rfl, rfl, rfl, rfl, rfl, trivial⟩ ?_ ?_
        · exact ⟨hp, by omega⟩
        · omega
      refine WD.g0 3 rfl (by kernel_rfl) rfl rfl rfl (decide_eq_false hc33) rfl (fun _ _ _ h => h) hS0 ?_
      refine WD.g0 4 rfl (by kernel_rfl) rfl rfl rfl (decide_eq_false hc33) rfl (fun _ _ _ h => h) hS0 ?_
      refine WD.g0 5 rfl (by kernel_rfl) rfl rfl rfl (decide_eq_false hc33) rfl (fun _ _ _ h => h) hS0 ?_
      refine WD.g0 6 rfl (by kernel_rfl) rfl rfl rfl (decide_eq_false hc33) rfl (fun _ _ _ h => h) hS0 ?_
      refine WD.g0 7 rfl (by kernel_rfl) rfl rfl rfl (decide_eq_false hc33) rfl (fun _ _ _ h => h) hS0 ?_
      refine WD.g0 8 rfl (by kernel_rfl) rfl rfl rfl (decide_eq_false hc33) rfl (fun _ _ _ h => h) hS0 ?_
      refine WD.g0 9 rfl (by kernel_rfl) rfl rfl rfl (decide_eq_false hc33) rfl (fun _ _ _ h => h) hS0 ?_
      refine WD.g0 10 rfl (by kernel_rfl) rfl rfl rfl (decide_eq_false hc33) rfl (fun _ _ _ h => h) hS0 ?_
      refine WD.g0 11 rfl (by kernel_rfl) rfl rfl rfl (decide_eq_false hc33) rfl (fun _ _ _ h => h) hS0 ?_
      refine WD.g0 12 rfl (by kernel_rfl) rfl rfl rfl (decide_eq_false hc33) rfl (fun _ _ _ h => h) hS0 ?_
      refine WD.v 13 rfl hS0 (fun w hS => (X.pkF rfl (decide_eq_false hc33) rfl)) ?_
      refine WD.nil (by kernel_rfl) ?_
      refine X.thenN ?_
      refine W.cF rfl rfl ?_
      refine W.skip ?_
      refine X.inN ?_
      refine X.thenN ?_
      refine W.reg ?_
      refine WL.v (X.add rfl rfl (in64 (by omega))) ?_
      refine WL.run 1 rfl ?_
      refine WL.nil ?_
      refine X.again (i + 1) ⟨rfl, rfl, rfl, rfl, rfl, rfl, trivial⟩ ?_ ?_
      · exact ⟨hp, by omega⟩
      · omega
    refine W.cF rfl (decide_eq_false hc32) ?_
    refine W.exit ?_
    refine X.thenE ?_
    refine X.thenE ?_
    refine X.inH ?_
    refine X.thenN ?_
    refine W.sr ?_
    refine WL.run 2 rfl ?_
    refine WL.s ?_
    refine W.seq ?_
    have hp := hp.addNil 3 encI 1 encI_len (by omega)
    refine W.reg ?_
    refine WL.run 1 rfl ?_
    refine WL.v (view_len tL47 (hp.old hV hVD) rfl) ?_
    refine WL.run 1 rfl ?_
    refine WL.fin ?_
    refine W.block ?_
    refine W.loop (X := Nat × Value × List Int) (fun x_ => match x_ with | ⟨i, v, acc⟩ => l.length - i) (fun x_ => match x_ with | ⟨i, v, acc⟩ => [(1, s), (2, y), (3, z), (4, .pointer (some ⟨b1, 0, none⟩)), (12, v), (13, .slice none 0 0), (85, .int .i64 (l.length : Int)), (86, .int .i64 (i : Int))]) (fun x_ w => match x_ with | ⟨i, v, acc⟩ => Hp w0 FL [ownR 3 encI 1 v acc, blkR b1 (.cells (#[.pointer (some ⟨q, 0, none⟩), cv]) 42 (0, 0)), blkR q (.cells (#[wv]) 59 (0, 0)), ownR 3 encI 1 wv ws] w ∧ i ≤ l.length ∧ walksF ws cs [] l = walksF ws cs acc (l.drop i) ∧ acc.length ≤ 4096 * i) (0, .slice none 0 0, []) ⟨rfl, rfl, rfl, rfl, rfl, rfl, rfl, rfl, trivial⟩ ?_ ?_
    · exact ⟨hp, by omega, rfl, by simp⟩
    rintro ⟨i, v, acc⟩ w ⟨hp, hi, hwk, hal⟩
    refine W.sr ?_
    refine WL.run 1 rfl ?_
    refine WL.s ?_
    by_cases hc35 : (i : Int) < (l.length : Int)
    · refine W.cT rfl (decide_eq_true hc35) ?_
      refine W.k ?_
      refine W.seq ?_
      refine W.block ?_
      refine W.sr ?_
      refine WL.run 2 rfl ?_
      refine WL.s ?_
      have hlt : i < l.length := by omega
      have hsp6 := spR_t (rise_all hrise _ (mem_getD hlt))
      have hwz : (walk ws cs (l.getD i default).from_ (l.getD i default).top).1 = 0 := walksF_mem l [] _ hw0 _ (mem_getD hlt)
      have hwl6 := walk_len (ws := ws) hcs (show (l.getD i default).from_ ≤ (l.getD i default).top by omega)
      refine W.draw prog_mixed (fun w => (ownR 3 encI 1 v acc).ok w ∧ (blkR b1 (.cells (#[.pointer (some ⟨q, 0, none⟩), cv]) 42 (0, 0))).ok w ∧ (blkR q (.cells (#[wv]) 59 (0, 0))).ok w ∧ (ownR 3 encI 1 wv ws).ok w ∧ (viewR clsV 4 cv cs).ok w ∧ (viewR encS 3 s l).ok w ∧ (viewR encI 1 y st).ok w ∧ (viewR encI 1 z rt).ok w ∧ True) hp ?_
      intro w hp
      refine WD.s ⟨hp.at 0 rfl, hp.at 1 rfl, hp.at 2 rfl, hp.at 3 rfl, (hp.old hC hCD), (hp.old hV hVD), (hp.old hY hYD), (hp.old hZ hZD), trivial⟩ fun hS0 => ?_
      refine WD.v 0 rfl hS0 (fun w hS => (X.ldkA hS.2.1 tA42 tS42 (vs := [.pointer (some ⟨q, 0, none⟩), cv]) rfl rfl)) ?_
      refine WD.v 1 rfl hS0 (fun w hS => (X.mv rfl)) ?_
      refine WD.v 2 rfl hS0 (fun w hS => (X.mv rfl)) ?_
      refine WD.v 3 rfl hS0 (fun w hS => (X.idxV (j := i) (r := offOf s + i * 3) tL47 tS91 hS.2.2.2.2.2.1 rfl rfl (by omega) (by omega) rfl)) ?_
      refine WD.v 4 rfl hS0 (fun w hS => (X.fa (r := offOf s + i * 3) tF91_0 rfl rfl)) ?_
      refine WD.v 5 rfl hS0 (fun w hS => (X.ld1 tA3 rfl (view_cell (j := i) (f := 0) hS.2.2.2.2.2.1 (get_some (by omega)) rfl (by omega)))) ?_
      refine WD.v 6 rfl hS0 (fun w hS => (X.mv rfl)) ?_
      refine WD.v 7 rfl hS0 (fun w hS => (X.mv rfl)) ?_
      refine WD.v 8 rfl hS0 (fun w hS => (X.idxV (j := i) (r := offOf s + i * 3) tL47 tS91 hS.2.2.2.2.2.1 rfl rfl (by omega) (by omega) rfl)) ?_
      refine WD.v 9 rfl hS0 (fun w hS => (X.fa (r := offOf s + i * 3 + 1) tF91_1 rfl rfl)) ?_
      refine WD.v 10 rfl hS0 (fun w hS => (X.ld1 tA3 rfl (view_cell (j := i) (f := 1) hS.2.2.2.2.2.1 (get_some (by omega)) rfl (by omega)))) ?_
      refine WD.one 11 (by kernel_rfl) ?_
      refine WO.call rfl isFn39 rfl rfl (walk6_c (fr := (l.getD i default).from_) (to := (l.getD i default).top) (hp.at 2 rfl) (own_view (hp.at 3 rfl)) (hp.old hC hCD) hcs (by omega) (by omega)) ?_
      intro v w hc hr
      rcases hr with ⟨hw36, s37, rfl, hN⟩ | ⟨hw36, rfl⟩
      · have hp := hp.newN hc hN
        refine andS ⟨hp.at 1 rfl, hp.at 2 rfl, hp.at 3 rfl, hp.at 4 rfl, (hp.old hC hCD), (hp.old hV hVD), (hp.old hY hYD), (hp.old hZ hZD), trivial⟩ fun hS0 => ?_
        refine WD.v 12 rfl hS0 (fun w hS => (X.mv rfl)) ?_
        refine WD.v 13 rfl hS0 (fun w hS => (X.ext rfl rfl)) ?_
        refine WD.v 14 rfl hS0 (fun w hS => (X.ext rfl rfl)) ?_
        refine WD.v 15 rfl hS0 (fun w hS => (X.as rfl)) ?_
        refine WD.v 16 rfl hS0 (fun w hS => (X.as rfl)) ?_
        refine WD.nil (by kernel_rfl) ?_
        refine X.thenN ?_
        refine W.seq ?_
        refine W.sr ?_
        refine WL.run 2 rfl ?_
        refine WL.fin ?_
        refine W.cF rfl (decide_eq_false (by decide)) ?_
        refine W.kr ?_
        refine WL.run 2 rfl ?_
        refine WL.append hp 1 rfl tL34 (zeroT_ex tZ3) tS3 tY3 rfl rfl (own_view (hp.at 0 rfl)) encI_one (by omega) rfl ?_
        intro v39 w hp
        refine WL.run 1 rfl ?_
        refine WL.nil ?_
        refine X.inN ?_
        refine X.thenN ?_
        refine W.reg ?_
        refine WL.v (X.add rfl rfl (in64 (by omega))) ?_
        refine WL.run 1 rfl ?_
        refine WL.nil ?_
        refine X.again (i + 1, v39, acc ++ (walk ws cs ((l.getD i default).from_) ((l.getD i default).top)).2) ⟨rfl, rfl, rfl, rfl, rfl, rfl, rfl, rfl, trivial⟩ ?_ ?_
        · exact ⟨(hp.sel [1, 2, 3, 4] (by decide)), by omega, by rw [hwk, walksF_step hlt (not_not_intro hwz)], by rw [List.length_append]; omega⟩
        · dsimp only; omega
      (try simp only [fillW_length, moveW_length, List.length_set] at hw36); first | contradiction | (exfalso; omega) | (exfalso; simp_all; done)
    refine W.cF rfl (decide_eq_false hc35) ?_
    refine W.exit ?_
    refine X.thenE ?_
    refine X.thenE ?_
    refine X.inH ?_
    refine X.thenN ?_
    refine W.seq ?_
    refine W.seq ?_
    have hp := hp.addNil 3 encI 1 encI_len (by omega)
    have haf : walksF ws cs [] l = some acc := by rw [hwk, List.drop_eq_nil_of_le (by omega)]; rfl
    have hae : al0 = acc := by rw [hw0] at haf; exact Option.some.inj haf
    have hmm : ∀ x ∈ st, x ∈ acc := by rw [← hae]; exact hm0
    refine W.reg ?_
    refine WL.run 1 rfl ?_
    refine WL.v (view_len tL34 (hp.old hY hYD) rfl) ?_
    refine WL.run 1 rfl ?_
    refine WL.fin ?_
    refine W.block ?_
    refine W.loop (X := Nat × Value) (fun x_ => match x_ with | ⟨i, z2⟩ => st.length - i) (fun x_ => match x_ with | ⟨i, z2⟩ => [(1, s), (2, y), (3, z), (4, .pointer (some ⟨b1, 0, none⟩)), (12, v), (13, z2), (111, .int .i64 (st.length : Int)), (112, .int .i64 (i : Int))]) (fun x_ w => match x_ with | ⟨i, z2⟩ => Hp w0 FL [ownR 3 encI 1 z2 ((st.take i).map fun a => (atT ws cs a).words), ownR 3 encI 1 v acc, blkR b1 (.cells (#[.pointer (some ⟨q, 0, none⟩), cv]) 42 (0, 0)), blkR q (.cells (#[wv]) 59 (0, 0)), ownR 3 encI 1 wv ws] w ∧ i ≤ st.length) (0, .slice none 0 0) ⟨rfl, rfl, rfl, rfl, rfl, rfl, rfl, rfl, trivial⟩ ?_ ?_
    · exact ⟨hp, by omega⟩
    rintro ⟨i, z2⟩ w ⟨hp, hi⟩
    refine W.sr ?_
    refine WL.run 1 rfl ?_
    refine WL.s ?_
    by_cases hc40 : (i : Int) < (st.length : Int)
    · refine W.cT rfl (decide_eq_true hc40) ?_
      refine W.k ?_
      refine W.seq ?_
      refine W.block ?_
      refine W.sr ?_
      refine WL.run 2 rfl ?_
      refine WL.s ?_
      refine W.seq ?_
      have hlt : i < st.length := by omega
      refine W.reg ?_
      refine WL.run 3 rfl ?_
      refine WL.v (X.idxV (j := i) (r := offOf y + i * 1) tL34 tS3 (hp.old hY hYD) rfl rfl (by omega) (by omega) rfl) ?_
      refine WL.v (X.ld1 tA3 rfl (view_cell (j := i) (f := 0) (hp.old hY hYD) (get_some (by omega)) rfl (by omega))) ?_
      refine WL.call isFn40 rfl rfl (place16_c (x := (st.getD i default)) (own_view (hp.at 1 rfl))) ?_
      intro v w hc hr
      obtain rfl := hr
      have hp := hp.ext hc
      refine WL.run 1 rfl ?_
      refine WL.fin ?_
      have hc41 : ¬ ((placeF acc (st.getD i default)) < 0) := (fun h_ => placeF_neg.1 h_ (hmm _ (mem_getD hlt)))
      refine W.cF rfl (decide_eq_false hc41) ?_
      refine W.k ?_
      refine W.seq ?_
      refine W.draw prog_mixed (fun w => (ownR 3 encI 1 z2 ((st.take i).map fun a => (atT ws cs a).words)).ok w ∧ (ownR 3 encI 1 v acc).ok w ∧ (blkR b1 (.cells (#[.pointer (some ⟨q, 0, none⟩), cv]) 42 (0, 0))).ok w ∧ (blkR q (.cells (#[wv]) 59 (0, 0))).ok w ∧ (ownR 3 encI 1 wv ws).ok w ∧ (viewR clsV 4 cv cs).ok w ∧ (viewR encS 3 s l).ok w ∧ (viewR encI 1 y st).ok w ∧ (viewR encI 1 z rt).ok w ∧ True) hp ?_
      intro w hp
      refine WD.s ⟨hp.at 0 rfl, hp.at 1 rfl, hp.at 2 rfl, hp.at 3 rfl, hp.at 4 rfl, (hp.old hC hCD), (hp.old hV hVD), (hp.old hY hYD), (hp.old hZ hZD), trivial⟩ fun hS0 => ?_
      refine WD.v 0 rfl hS0 (fun w hS => (X.ldkA hS.2.2.1 tA42 tS42 (vs := [.pointer (some ⟨q, 0, none⟩), cv]) rfl rfl)) ?_
      refine WD.v 1 rfl hS0 (fun w hS => (X.mv rfl)) ?_
      refine WD.v 2 rfl hS0 (fun w hS => (X.mv rfl)) ?_
      refine WD.v 3 rfl hS0 (fun w hS => (X.idxV (j := i) (r := offOf y + i * 1) tL34 tS3 hS.2.2.2.2.2.2.2.1 rfl rfl (by omega) (by omega) rfl)) ?_
      refine WD.v 4 rfl hS0 (fun w hS => (X.ld1 tA3 rfl (view_cell (j := i) (f := 0) hS.2.2.2.2.2.2.2.1 (get_some (by omega)) rfl (by omega)))) ?_
      refine WD.one 5 (by kernel_rfl) ?_
      refine WO.call rfl isFn41 rfl rfl (size6_c (a := (st.getD i default)) (hp.at 3 rfl) (own_view (hp.at 4 rfl)) (hp.old hC hCD) hcs) ?_
      intro v w hc hr
      obtain rfl := hr
      have hp := hp.ext hc
      refine andS ⟨hp.at 0 rfl, hp.at 1 rfl, hp.at 2 rfl, hp.at 3 rfl, hp.at 4 rfl, (hp.old hC hCD), (hp.old hV hVD), (hp.old hY hYD), (hp.old hZ hZD), trivial⟩ fun hS0 => ?_
      refine WD.v 6 rfl hS0 (fun w hS => (X.mv rfl)) ?_
      refine WD.v 7 rfl hS0 (fun w hS => (X.ext rfl rfl)) ?_
      refine WD.v 8 rfl hS0 (fun w hS => (X.ext rfl rfl)) ?_
      refine WD.v 9 rfl hS0 (fun w hS => (X.ext rfl rfl)) ?_
      refine WD.v 10 rfl hS0 (fun w hS => (X.as rfl)) ?_
      refine WD.v 11 rfl hS0 (fun w hS => (X.as rfl)) ?_
      refine WD.v 12 rfl hS0 (fun w hS => (X.as rfl)) ?_
      refine WD.nil (by kernel_rfl) ?_
      refine X.thenN ?_
      refine W.reg ?_
      refine WL.run 2 rfl ?_
      refine WL.bsl hp (e := 3) (cs := #[.int .i64 ((atT ws cs (st.getD i default)).words)]) rfl (fun _ => by kernel_rfl) rfl ?_
      intro b42 w hp
      refine WL.append hp 1 rfl tL34 (zeroT_ex tZ3) tS3 tY3 rfl rfl (view_of_blk (l := [(atT ws cs (st.getD i default)).words]) hp 0 rfl encI_len (by omega) rfl (by simp) (by simp)) encI_one (by simp only [List.length_append, List.length_cons, List.length_nil, List.length_map, List.length_take]; omega) rfl ?_
      intro v43 w hp
      refine WL.run 1 rfl ?_
      refine WL.nil ?_
      refine X.inN ?_
      refine X.thenN ?_
      refine W.reg ?_
      refine WL.v (X.add rfl rfl (in64 (by omega))) ?_
      refine WL.run 1 rfl ?_
      refine WL.nil ?_
      refine X.again (i + 1, v43) ⟨rfl, rfl, rfl, rfl, rfl, rfl, rfl, rfl, trivial⟩ ?_ ?_
      · exact ⟨by rw [take_getD hlt, List.map_append, List.map_singleton]; exact (hp.sel [1, 2, 3, 4, 5] (by decide)), by omega⟩
      · dsimp only; omega
    refine W.cF rfl (decide_eq_false hc40) ?_
    refine W.exit ?_
    refine X.thenE ?_
    refine X.thenE ?_
    refine X.inH ?_
    refine X.thenN ?_
    refine W.seq ?_
    have hti : st.take i = st := List.take_of_length_le (by omega)
    rw [hti] at hp
    have hsl6 : (st.map fun a => (atT ws cs a).words).length = st.length := List.length_map _
    refine W.reg ?_
    refine WL.run 2 rfl ?_
    refine WL.call isFn42 rfl rfl (plan16_c (hp.old hV hVD) (own_view (hp.at 0 rfl)) (by omega) (by (try simp only [List.length_map]); omega)) ?_
    intro v w hc hr
    rcases hr with ⟨hq44, o45, q46, rfl, hN⟩ | ⟨hq44, rfl⟩
    · have hp := hp.adds hN
      refine WL.run 7 rfl ?_
      refine WL.s ?_
      have hp : Hp w0 FL [ownR 3 encI 1 o45 (slTo ws cs l st), ownR 91 encS 3 q46 (slNow ws cs l st), ownR 3 encI 1 z2 (st.map fun a => (atT ws cs a).words), ownR 3 encI 1 v acc, blkR b1 (.cells (#[.pointer (some ⟨q, 0, none⟩), cv]) 42 (0, 0)), blkR q (.cells (#[wv]) 59 (0, 0)), ownR 3 encI 1 wv ws] w := hp
      refine W.reg ?_
      refine WL.bsl hp (e := 3) (cs := #[]) rfl (fun _ => by kernel_rfl) rfl ?_
      intro b47 w hp
      refine WL.run 1 rfl ?_
      refine WL.v (X.ldk (hp.at 5 rfl) tA40 rfl rfl) ?_
      refine WL.run 2 rfl ?_
      refine WL.v (X.ldk (hp.at 6 rfl) tA34 rfl rfl) ?_
      have hp := hp.ofEmpty 0 rfl encI 1 encI_len (by omega)
      refine WL.append hp 0 rfl tL34 (zeroT_ex tZ3) tS3 tY3 rfl rfl (own_view (hp.at 7 rfl)) encI_one (by simp only [List.length_append, List.length_cons, List.length_nil]; omega) rfl ?_
      intro v48 w hp
      refine WL.run 1 rfl ?_
      refine WL.a ?_
      refine WL.run 1 rfl ?_
      refine WL.v (view_len tL34 (hp.old hZ hZD) rfl) ?_
      refine WL.mks (m := rt.length) hp tL34 tS3 tZ3 tY3 rfl rfl (by omega) (by omega) rfl ?_
      intro b49 w hp
      refine WL.run 1 rfl ?_
      refine WL.s ?_
      refine W.seq ?_
      have hp := hp.ofRep 0 rfl (by omega)
      refine W.reg ?_
      refine WL.run 1 rfl ?_
      refine WL.v (view_len tL34 (hp.old hZ hZD) rfl) ?_
      refine WL.run 1 rfl ?_
      refine WL.fin ?_
      refine W.block ?_
      refine W.loop (X := Nat) (fun i => rt.length - i) (fun i => [(1, s), (2, y), (3, z), (4, .pointer (some ⟨b1, 0, none⟩)), (13, z2), (21, o45), (22, q46), (24, v48), (25, .slice (some ⟨b49, 0, none⟩) rt.length rt.length), (155, .int .i64 (rt.length : Int)), (156, .int .i64 (i : Int))]) (fun i w => Hp w0 FL [ownR 3 encI 1 (.slice (some ⟨b49, 0, none⟩) rt.length rt.length) (((rt.take i).map fun a => ((slG ws cs l st) a).getD 0) ++ List.replicate (rt.length - i) 0), ownR 3 encI 1 v48 ws, ownR 3 encI 1 o45 (slTo ws cs l st), ownR 91 encS 3 q46 (slNow ws cs l st), ownR 3 encI 1 z2 (st.map fun a => (atT ws cs a).words), ownR 3 encI 1 v acc, blkR b1 (.cells (#[.pointer (some ⟨q, 0, none⟩), cv]) 42 (0, 0)), blkR q (.cells (#[wv]) 59 (0, 0)), ownR 3 encI 1 wv ws] w ∧ i ≤ rt.length) 0 ⟨rfl, rfl, rfl, rfl, rfl, rfl, rfl, rfl, rfl, rfl, rfl, trivial⟩ ?_ ?_
      · exact ⟨hp, by omega⟩
      rintro i w ⟨hp, hi⟩
      refine W.sr ?_
      refine WL.run 1 rfl ?_
      refine WL.s ?_
      by_cases hc50 : (i : Int) < (rt.length : Int)
      · refine W.cT rfl (decide_eq_true hc50) ?_
        refine W.k ?_
        refine W.seq ?_
        refine W.block ?_
        refine W.seq ?_
        have hlt : i < rt.length := by omega
        have hgo := hR.goes (rt.getD i default)
        have hgs : (goesF st (slTo ws cs l st) (rt.getD i default)).isSome = true := by rw [hgo]; exact hrs _ (mem_getD hlt)
        refine W.reg ?_
        refine WL.run 2 rfl ?_
        refine WL.a ?_
        refine WL.run 4 rfl ?_
        refine WL.v (X.idxV (j := i) (r := offOf z + i * 1) tL34 tS3 (hp.old hZ hZD) rfl rfl (by omega) (by omega) rfl) ?_
        refine WL.v (X.ld1 tA3 rfl (view_cell (j := i) (f := 0) (hp.old hZ hZD) (get_some (by omega)) rfl (by omega))) ?_
        refine WL.call isFn43 rfl rfl (goes16_c (x := (rt.getD i default)) (hp.old hY hYD) (own_view (hp.at 2 rfl)) htl) ?_
        intro v w hc hr
        obtain rfl := hr
        have hp := hp.ext hc
        refine WL.run 5 rfl ?_
        refine WL.s ?_
        refine W.sr ?_
        refine WL.run 2 rfl ?_
        refine WL.fin ?_
        have hc51 : (goesF st (slTo ws cs l st) (rt.getD i default)).isSome = true := hgs
        refine W.cF rfl (congrArg not hc51) ?_
        refine W.kr ?_
        refine WL.run 3 rfl ?_
        refine WL.v (X.idxV (j := i) (r := offOf (.slice (some ⟨b49, 0, none⟩) rt.length rt.length) + i * 1) tL34 tS3 (own_view (hp.at 0 rfl)) rfl rfl (by omega) (by rw [List.length_append, List.length_map, List.length_take, List.length_replicate]; omega) rfl) ?_
        refine WL.stOwn hp 0 rfl (j := i) (f := 0) (q := ((((rt.take i).map fun a => ((slG ws cs l st) a).getD 0) ++ List.replicate (rt.length - i) 0).getD i default)) (q' := (goesF st (slTo ws cs l st) (rt.getD i default)).getD 0) tS3 rfl rfl (vs := [.int .i64 ((goesF st (slTo ws cs l st) (rt.getD i default)).getD 0)]) rfl rfl (get_some (by rw [List.length_append, List.length_map, List.length_take, List.length_replicate]; omega)) rfl (by simp only [List.length_cons, List.length_nil]; omega) rfl ?_
        intro w hp
        refine WL.nil ?_
        refine X.inN ?_
        refine X.thenN ?_
        refine W.reg ?_
        refine WL.v (X.add rfl rfl (in64 (by omega))) ?_
        refine WL.run 1 rfl ?_
        refine WL.nil ?_
        refine X.again (i + 1) ⟨rfl, rfl, rfl, rfl, rfl, rfl, rfl, rfl, rfl, rfl, rfl, trivial⟩ ?_ ?_
        · exact ⟨by rw [← out_step hlt, ← hgo]; exact hp, by omega⟩
        · omega
      refine W.cF rfl (decide_eq_false hc50) ?_
      refine W.exit ?_
      refine X.thenE ?_
      refine X.thenE ?_
      refine X.inH ?_
      refine X.thenN ?_
      refine W.seq ?_
      refine W.seq ?_
      have hti2 : rt.take i = rt := List.take_of_length_le (by omega)
      have hrp : rt.length - i = 0 := by omega
      rw [hti2, hrp, List.replicate_zero, List.append_nil] at hp
      refine W.reg ?_
      refine WL.run 1 rfl ?_
      refine WL.v (view_len tL34 (hp.old hY hYD) rfl) ?_
      refine WL.run 1 rfl ?_
      refine WL.fin ?_
      refine W.block ?_
      refine W.loop (X := Nat) (fun i => st.length - i) (fun i => [(1, s), (2, y), (3, z), (4, .pointer (some ⟨b1, 0, none⟩)), (13, z2), (21, o45), (22, q46), (24, v48), (25, .slice (some ⟨b49, 0, none⟩) rt.length rt.length), (177, .int .i64 (st.length : Int)), (178, .int .i64 (i : Int))]) (fun i w => Hp w0 FL [ownR 3 encI 1 v48 (adW ws cs (slG ws cs l st) st i), ownR 3 encI 1 (.slice (some ⟨b49, 0, none⟩) rt.length rt.length) (rt.map fun a => ((slG ws cs l st) a).getD 0), ownR 3 encI 1 o45 (slTo ws cs l st), ownR 91 encS 3 q46 (slNow ws cs l st), ownR 3 encI 1 z2 (st.map fun a => (atT ws cs a).words), ownR 3 encI 1 v acc, blkR b1 (.cells (#[.pointer (some ⟨q, 0, none⟩), cv]) 42 (0, 0)), blkR q (.cells (#[wv]) 59 (0, 0)), ownR 3 encI 1 wv ws] w ∧ i ≤ st.length) 0 ⟨rfl, rfl, rfl, rfl, rfl, rfl, rfl, rfl, rfl, rfl, rfl, trivial⟩ ?_ ?_
      · exact ⟨(hp.sel [1, 0, 2, 3, 4, 5, 6, 7, 8] (by decide)), by omega⟩
      rintro i w ⟨hp, hi⟩
      refine W.sr ?_
      refine WL.run 1 rfl ?_
      refine WL.s ?_
      by_cases hc52 : (i : Int) < (st.length : Int)
      · refine W.cT rfl (decide_eq_true hc52) ?_
        refine W.k ?_
        refine W.seq ?_
        refine W.block ?_
        refine W.seq ?_
        have hlt : i < st.length := by omega
        have hoi := hok6 i hlt
        have hbi := objT_bd hcs hoi.1
        have hwi := wordsAt_bd hcs hoi.1
        have hadl := adW_len (ws := ws) (cs := cs) (st := st) (slG ws cs l st) i
        refine W.reg ?_
        refine WL.run 2 rfl ?_
        refine WL.s ?_
        refine W.draw prog_mixed (fun w => (ownR 3 encI 1 v48 (adW ws cs (slG ws cs l st) st i)).ok w ∧ (ownR 3 encI 1 (.slice (some ⟨b49, 0, none⟩) rt.length rt.length) (rt.map fun a => ((slG ws cs l st) a).getD 0)).ok w ∧ (ownR 3 encI 1 o45 (slTo ws cs l st)).ok w ∧ (ownR 91 encS 3 q46 (slNow ws cs l st)).ok w ∧ (ownR 3 encI 1 z2 (st.map fun a => (atT ws cs a).words)).ok w ∧ (ownR 3 encI 1 v acc).ok w ∧ (blkR b1 (.cells (#[.pointer (some ⟨q, 0, none⟩), cv]) 42 (0, 0))).ok w ∧ (blkR q (.cells (#[wv]) 59 (0, 0))).ok w ∧ (ownR 3 encI 1 wv ws).ok w ∧ (viewR clsV 4 cv cs).ok w ∧ (viewR encS 3 s l).ok w ∧ (viewR encI 1 y st).ok w ∧ (viewR encI 1 z rt).ok w ∧ True) hp ?_
        intro w hp
        refine WD.s ⟨hp.at 0 rfl, hp.at 1 rfl, hp.at 2 rfl, hp.at 3 rfl, hp.at 4 rfl, hp.at 5 rfl, hp.at 6 rfl, hp.at 7 rfl, hp.at 8 rfl, (hp.old hC hCD), (hp.old hV hVD), (hp.old hY hYD), (hp.old hZ hZD), trivial⟩ fun hS0 => ?_
        refine WD.v 0 rfl hS0 (fun w hS => (X.ldkA hS.2.2.2.2.2.2.1 tA42 tS42 (vs := [.pointer (some ⟨q, 0, none⟩), cv]) rfl rfl)) ?_
        refine WD.v 1 rfl hS0 (fun w hS => (X.mv rfl)) ?_
        refine WD.v 2 rfl hS0 (fun w hS => (X.mv rfl)) ?_
        refine WD.v 3 rfl hS0 (fun w hS => (X.idxV (j := i) (r := offOf y + i * 1) tL34 tS3 hS.2.2.2.2.2.2.2.2.2.2.2.1 rfl rfl (by omega) (by omega) rfl)) ?_
        refine WD.v 4 rfl hS0 (fun w hS => (X.ld1 tA3 rfl (view_cell (j := i) (f := 0) hS.2.2.2.2.2.2.2.2.2.2.2.1 (get_some (by omega)) rfl (by omega)))) ?_
        refine WD.one 5 (by kernel_rfl) ?_
        refine WO.call rfl isFn44 rfl rfl (shape6_c (a := (st.getD i default)) (hp.at 7 rfl) (own_view (hp.at 8 rfl)) (hp.old hC hCD) hcs) ?_
        intro v w hc hr
        obtain rfl := hr
        have hp := hp.ext hc
        refine andS ⟨hp.at 0 rfl, hp.at 1 rfl, hp.at 2 rfl, hp.at 3 rfl, hp.at 4 rfl, hp.at 5 rfl, hp.at 6 rfl, hp.at 7 rfl, hp.at 8 rfl, (hp.old hC hCD), (hp.old hV hVD), (hp.old hY hYD), (hp.old hZ hZD), trivial⟩ fun hS0 => ?_
        refine WD.v 6 rfl hS0 (fun w hS => (X.mv rfl)) ?_
        refine WD.v 7 rfl hS0 (fun w hS => (X.ext rfl rfl)) ?_
        refine WD.v 8 rfl hS0 (fun w hS => (X.ext rfl rfl)) ?_
        refine WD.v 9 rfl hS0 (fun w hS => (X.ext rfl rfl)) ?_
        refine WD.v 10 rfl hS0 (fun w hS => (X.as rfl)) ?_
        refine WD.v 11 rfl hS0 (fun w hS => (X.as rfl)) ?_
        refine WD.v 12 rfl hS0 (fun w hS => (X.as rfl)) ?_
        refine WD.nil (by kernel_rfl) ?_
        refine X.thenN ?_
        refine W.seq ?_
        refine W.sr ?_
        refine WL.run 1 rfl ?_
        refine WL.fin ?_
        refine W.block ?_
        refine W.loop (X := Nat) (fun k => (objT ws cs (st.getD i default)).refs.toNat - k) (fun k => [(1, s), (2, y), (3, z), (4, .pointer (some ⟨b1, 0, none⟩)), (13, z2), (21, o45), (22, q46), (24, v48), (25, .slice (some ⟨b49, 0, none⟩) rt.length rt.length), (29, .int .i64 (i : Int)), (30, .int .i64 ((objT ws cs (st.getD i default)).refs)), (177, .int .i64 (st.length : Int)), (178, .int .i64 (i : Int)), (33, .int .i64 (k : Int))]) (fun k w => Hp w0 FL [ownR 3 encI 1 v48 (adjF (adW ws cs (slG ws cs l st) st i) (slG ws cs l st) (st.getD i default) k), ownR 3 encI 1 (.slice (some ⟨b49, 0, none⟩) rt.length rt.length) (rt.map fun a => ((slG ws cs l st) a).getD 0), ownR 3 encI 1 o45 (slTo ws cs l st), ownR 91 encS 3 q46 (slNow ws cs l st), ownR 3 encI 1 z2 (st.map fun a => (atT ws cs a).words), ownR 3 encI 1 v acc, blkR b1 (.cells (#[.pointer (some ⟨q, 0, none⟩), cv]) 42 (0, 0)), blkR q (.cells (#[wv]) 59 (0, 0)), ownR 3 encI 1 wv ws] w ∧ k ≤ (objT ws cs (st.getD i default)).refs.toNat) 0 ⟨rfl, rfl, rfl, rfl, rfl, rfl, rfl, rfl, rfl, rfl, rfl, rfl, rfl, rfl, trivial⟩ ?_ ?_
        · exact ⟨hp, by omega⟩
        rintro k w ⟨hp, hk⟩
        refine W.seq ?_
        refine W.sr ?_
        refine WL.run 3 rfl ?_
        refine WL.fin ?_
        by_cases hc53 : (k : Int) < ((objT ws cs (st.getD i default)).refs)
        · refine W.cT rfl (decide_eq_true hc53) ?_
          refine W.k ?_
          refine W.seq ?_
          refine W.block ?_
          refine W.seq ?_
          have hjl6 := adjF_len (adW ws cs (slG ws cs l st) st i) (slG ws cs l st) (st.getD i default) k
          have hkl : k < (objT ws cs (st.getD i default)).refs.toNat := by omega
          have hgw : gi (adjF (adW ws cs (slG ws cs l st) st i) (slG ws cs l st) (st.getD i default) k) ((st.getD i default) + 2 + (k : Int)) = gi ws ((st.getD i default) + 2 + (k : Int)) := by rw [adjF_gi _ _ _ hbi.1 _ _ (by omega) (by omega), adW_out hok6 i (by omega) _ (by omega) (fun p hp => by have := hoi.2.2.2 p hp; omega)]
          have hgo := hR.goes (gi (adjF (adW ws cs (slG ws cs l st) st i) (slG ws cs l st) (st.getD i default) k) ((st.getD i default) + 2 + (k : Int)))
          have hgs : (goesF st (slTo ws cs l st) (gi (adjF (adW ws cs (slG ws cs l st) st i) (slG ws cs l st) (st.getD i default) k) ((st.getD i default) + 2 + (k : Int)))).isSome = true := by rw [hgo, hgw]; exact hnl _ (mem_getD hlt) k (by omega)
          refine W.reg ?_
          refine WL.run 5 rfl ?_
          refine WL.v (X.idxV (j := i) (r := offOf y + i * 1) tL34 tS3 (hp.old hY hYD) rfl rfl (by omega) (by omega) rfl) ?_
          refine WL.v (X.ld1 tA3 rfl (view_cell (j := i) (f := 0) (hp.old hY hYD) (get_some (by omega)) rfl (by omega))) ?_
          refine WL.v (X.add rfl rfl (in64 (by omega))) ?_
          refine WL.run 1 rfl ?_
          refine WL.v (X.add rfl rfl (in64 (by omega))) ?_
          refine WL.v (X.idxV (j := (((st.getD i default) + 2) + (k : Int)).toNat) (r := offOf v48 + ((((st.getD i default) + 2) + (k : Int)).toNat) * 1) tL34 tS3 (own_view (hp.at 0 rfl)) rfl rfl (by omega) (by omega) rfl) ?_
          refine WL.v (X.ld1 tA3 rfl (view_gi (a := ((st.getD i default) + 2) + (k : Int)) (own_view (hp.at 0 rfl)) (by omega))) ?_
          refine WL.call isFn43 rfl rfl (goes16_c (x := gi (adjF (adW ws cs (slG ws cs l st) st i) (slG ws cs l st) (st.getD i default) k) (((st.getD i default) + 2) + (k : Int))) (hp.old hY hYD) (own_view (hp.at 2 rfl)) htl) ?_
          intro v w hc hr
          obtain rfl := hr
          have hp := hp.ext hc
          refine WL.run 5 rfl ?_
          refine WL.s ?_
          refine W.sr ?_
          refine WL.run 2 rfl ?_
          refine WL.fin ?_
          have hc54 : (goesF st (slTo ws cs l st) (gi (adjF (adW ws cs (slG ws cs l st) st i) (slG ws cs l st) (st.getD i default) k) (((st.getD i default) + 2) + (k : Int)))).isSome = true := hgs
          refine W.cF rfl (congrArg not hc54) ?_
          refine W.kr ?_
          refine WL.run 3 rfl ?_
          refine WL.v (X.idxV (j := i) (r := offOf y + i * 1) tL34 tS3 (hp.old hY hYD) rfl rfl (by omega) (by omega) rfl) ?_
          refine WL.v (X.ld1 tA3 rfl (view_cell (j := i) (f := 0) (hp.old hY hYD) (get_some (by omega)) rfl (by omega))) ?_
          refine WL.v (X.add rfl rfl (in64 (by omega))) ?_
          refine WL.run 1 rfl ?_
          refine WL.v (X.add rfl rfl (in64 (by omega))) ?_
          refine WL.run 1 rfl ?_
          refine WL.v (X.idxV (j := (((st.getD i default) + 2) + (k : Int)).toNat) (r := offOf v48 + ((((st.getD i default) + 2) + (k : Int)).toNat) * 1) tL34 tS3 (own_view (hp.at 0 rfl)) rfl rfl (by omega) (by omega) rfl) ?_
          refine WL.stOwn hp 0 rfl (j := (((st.getD i default) + 2) + (k : Int)).toNat) (f := 0) (q := ((adjF (adW ws cs (slG ws cs l st) st i) (slG ws cs l st) (st.getD i default) k).getD ((((st.getD i default) + 2) + (k : Int)).toNat) default)) (q' := (goesF st (slTo ws cs l st) (gi (adjF (adW ws cs (slG ws cs l st) st i) (slG ws cs l st) (st.getD i default) k) (((st.getD i default) + 2) + (k : Int)))).getD 0) tS3 rfl rfl (vs := [.int .i64 ((goesF st (slTo ws cs l st) (gi (adjF (adW ws cs (slG ws cs l st) st i) (slG ws cs l st) (st.getD i default) k) (((st.getD i default) + 2) + (k : Int)))).getD 0)]) rfl rfl (get_some (by omega)) rfl (by simp only [List.length_cons, List.length_nil]; omega) rfl ?_
          intro w hp
          refine WL.nil ?_
          refine X.inN ?_
          refine X.thenN ?_
          refine W.reg ?_
          refine WL.run 1 rfl ?_
          refine WL.v (X.add rfl rfl (in64 (by omega))) ?_
          refine WL.run 1 rfl ?_
          refine WL.nil ?_
          refine X.again (k + 1) ⟨rfl, rfl, rfl, rfl, rfl, rfl, rfl, rfl, rfl, rfl, rfl, rfl, rfl, rfl, trivial⟩ ?_ ?_
          · exact ⟨by rw [hgo] at hp; exact hp, by omega⟩
          · omega
        refine W.cF rfl (decide_eq_false hc53) ?_
        refine W.exit ?_
        refine X.thenE ?_
        refine X.thenE ?_
        refine X.inH ?_
        refine X.thenN ?_
        refine W.seqCut (X := Nat) (fun bh => [(1, s), (2, y), (3, z), (4, .pointer (some ⟨b1, 0, none⟩)), (13, z2), (21, o45), (22, q46), (24, v48), (25, .slice (some ⟨b49, 0, none⟩) rt.length rt.length), (29, .int .i64 (i : Int)), (177, .int .i64 (st.length : Int)), (178, .int .i64 (i : Int)), (36, .pointer (some ⟨bh, 0, none⟩))]) (fun bh w => Hp w0 FL [blkR bh (.cells (#[.int .i64 ((objT ws cs (st.getD i default)).hd.cls), .int .i64 ((objT ws cs (st.getD i default)).hd.age), .int .i64 ((objT ws cs (st.getD i default)).hd.fwd), .bool ((objT ws cs (st.getD i default)).hd.mark), .bool ((objT ws cs (st.getD i default)).hd.final), .bool ((objT ws cs (st.getD i default)).hd.done)]) 103 (0, 0)), ownR 3 encI 1 v48 (adjF (adW ws cs (slG ws cs l st) st i) (slG ws cs l st) (st.getD i default) (objT ws cs (st.getD i default)).refs.toNat), ownR 3 encI 1 (.slice (some ⟨b49, 0, none⟩) rt.length rt.length) (rt.map fun a => ((slG ws cs l st) a).getD 0), ownR 3 encI 1 o45 (slTo ws cs l st), ownR 91 encS 3 q46 (slNow ws cs l st), ownR 3 encI 1 z2 (st.map fun a => (atT ws cs a).words), ownR 3 encI 1 v acc, blkR b1 (.cells (#[.pointer (some ⟨q, 0, none⟩), cv]) 42 (0, 0)), blkR q (.cells (#[wv]) 59 (0, 0)), ownR 3 encI 1 wv ws] w ∧ hdR (clrHd (objT ws cs (st.getD i default)).hd) = true) ?_ ?_
        · have hke : k = (objT ws cs (st.getD i default)).refs.toNat := by omega
          rw [hke] at hp
          have hRw := clrHd_R (objT_head hoi.1).1
          refine W.draw prog_mixed (fun w => (ownR 3 encI 1 v48 (adjF (adW ws cs (slG ws cs l st) st i) (slG ws cs l st) (st.getD i default) (objT ws cs (st.getD i default)).refs.toNat)).ok w ∧ (ownR 3 encI 1 (.slice (some ⟨b49, 0, none⟩) rt.length rt.length) (rt.map fun a => ((slG ws cs l st) a).getD 0)).ok w ∧ (ownR 3 encI 1 o45 (slTo ws cs l st)).ok w ∧ (ownR 91 encS 3 q46 (slNow ws cs l st)).ok w ∧ (ownR 3 encI 1 z2 (st.map fun a => (atT ws cs a).words)).ok w ∧ (ownR 3 encI 1 v acc).ok w ∧ (blkR b1 (.cells (#[.pointer (some ⟨q, 0, none⟩), cv]) 42 (0, 0))).ok w ∧ (blkR q (.cells (#[wv]) 59 (0, 0))).ok w ∧ (ownR 3 encI 1 wv ws).ok w ∧ (viewR clsV 4 cv cs).ok w ∧ (viewR encS 3 s l).ok w ∧ (viewR encI 1 y st).ok w ∧ (viewR encI 1 z rt).ok w ∧ True) hp ?_
          intro w hp
          refine WD.s ⟨hp.at 0 rfl, hp.at 1 rfl, hp.at 2 rfl, hp.at 3 rfl, hp.at 4 rfl, hp.at 5 rfl, hp.at 6 rfl, hp.at 7 rfl, hp.at 8 rfl, (hp.old hC hCD), (hp.old hV hVD), (hp.old hY hYD), (hp.old hZ hZD), trivial⟩ fun hS0 => ?_
          refine WD.v 0 rfl hS0 (fun w hS => (X.ldkA hS.2.2.2.2.2.2.1 tA42 tS42 (vs := [.pointer (some ⟨q, 0, none⟩), cv]) rfl rfl)) ?_
          refine WD.v 1 rfl hS0 (fun w hS => (X.mv rfl)) ?_
          refine WD.v 2 rfl hS0 (fun w hS => (X.mv rfl)) ?_
          refine WD.v 3 rfl hS0 (fun w hS => (X.idxV (j := i) (r := offOf y + i * 1) tL34 tS3 hS.2.2.2.2.2.2.2.2.2.2.2.1 rfl rfl (by omega) (by omega) rfl)) ?_
          refine WD.v 4 rfl hS0 (fun w hS => (X.ld1 tA3 rfl (view_cell (j := i) (f := 0) hS.2.2.2.2.2.2.2.2.2.2.2.1 (get_some (by omega)) rfl (by omega)))) ?_
          refine WD.two 5 9 (by kernel_rfl) ?_ ?_
          · refine WO.call rfl isFn45 rfl rfl (head6_c (a := (st.getD i default)) (hp.at 7 rfl) (own_view (hp.at 8 rfl)) (hp.old hC hCD) hcs) ?_
            intro v w hc hr
            obtain rfl := hr
            have hp := hp.ext hc
            refine andS ⟨hp.at 0 rfl, hp.at 1 rfl, hp.at 2 rfl, hp.at 3 rfl, hp.at 4 rfl, hp.at 5 rfl, hp.at 6 rfl, hp.at 7 rfl, hp.at 8 rfl, (hp.old hC hCD), (hp.old hV hVD), (hp.old hY hYD), (hp.old hZ hZD), trivial⟩ fun hS0 => ?_
            refine WD.v 6 rfl hS0 (fun w hS => (X.mv rfl)) ?_
            refine WD.v 7 rfl hS0 (fun w hS => (X.ext rfl rfl)) ?_
            refine WD.v 8 rfl hS0 (fun w hS => (X.ext rfl rfl)) ?_
            refine WD.one 9 (by kernel_rfl) ?_
            refine WO.alloc hp rfl tZ103 rfl ?_
            intro b55 w hp
            refine andS ⟨hp.at 1 rfl, hp.at 2 rfl, hp.at 3 rfl, hp.at 4 rfl, hp.at 5 rfl, hp.at 6 rfl, hp.at 7 rfl, hp.at 8 rfl, hp.at 9 rfl, (hp.old hC hCD), (hp.old hV hVD), (hp.old hY hYD), (hp.old hZ hZD), trivial⟩ fun hS0 => ?_
            refine WD.one 10 (by kernel_rfl) ?_
            refine WO.store hp 0 rfl rfl tS103 rfl rfl (vs := [.int .i64 ((objT ws cs (st.getD i default)).hd.cls), .int .i64 ((objT ws cs (st.getD i default)).hd.age), .int .i64 ((objT ws cs (st.getD i default)).hd.fwd), .bool ((objT ws cs (st.getD i default)).hd.mark), .bool ((objT ws cs (st.getD i default)).hd.final), .bool ((objT ws cs (st.getD i default)).hd.done)]) rfl rfl rfl (new := #[.int .i64 ((objT ws cs (st.getD i default)).hd.cls), .int .i64 ((objT ws cs (st.getD i default)).hd.age), .int .i64 ((objT ws cs (st.getD i default)).hd.fwd), .bool ((objT ws cs (st.getD i default)).hd.mark), .bool ((objT ws cs (st.getD i default)).hd.final), .bool ((objT ws cs (st.getD i default)).hd.done)]) rfl ?_
            intro w hp
            refine andS ⟨hp.at 1 rfl, hp.at 2 rfl, hp.at 3 rfl, hp.at 4 rfl, hp.at 5 rfl, hp.at 6 rfl, hp.at 7 rfl, hp.at 8 rfl, hp.at 9 rfl, (hp.old hC hCD), (hp.old hV hVD), (hp.old hY hYD), (hp.old hZ hZD), trivial⟩ fun hS0 => ?_
            refine WD.v 11 rfl hS0 (fun w hS => (X.as rfl)) ?_
            refine WD.nil (by kernel_rfl) ?_
            exact X.here b55 ⟨rfl, rfl, rfl, rfl, rfl, rfl, rfl, rfl, rfl, rfl, rfl, rfl, rfl, trivial⟩ (by
              exact ⟨hp, hRw⟩)
          refine WO.alloc hp rfl tZ103 rfl ?_
          intro b56 w hp
          refine andS ⟨hp.at 1 rfl, hp.at 2 rfl, hp.at 3 rfl, hp.at 4 rfl, hp.at 5 rfl, hp.at 6 rfl, hp.at 7 rfl, hp.at 8 rfl, hp.at 9 rfl, (hp.old hC hCD), (hp.old hV hVD), (hp.old hY hYD), (hp.old hZ hZD), trivial⟩ fun hS0 => ?_
          refine WD.one 5 (by kernel_rfl) ?_
          refine WO.call rfl isFn45 rfl rfl (head6_c (a := (st.getD i default)) (hp.at 8 rfl) (own_view (hp.at 9 rfl)) (hp.old hC hCD) hcs) ?_
          intro v w hc hr
          obtain rfl := hr
          have hp := hp.ext hc
          refine andS ⟨hp.at 1 rfl, hp.at 2 rfl, hp.at 3 rfl, hp.at 4 rfl, hp.at 5 rfl, hp.at 6 rfl, hp.at 7 rfl, hp.at 8 rfl, hp.at 9 rfl, (hp.old hC hCD), (hp.old hV hVD), (hp.old hY hYD), (hp.old hZ hZD), trivial⟩ fun hS0 => ?_
          refine WD.v 6 rfl hS0 (fun w hS => (X.mv rfl)) ?_
          refine WD.v 7 rfl hS0 (fun w hS => (X.ext rfl rfl)) ?_
          refine WD.v 8 rfl hS0 (fun w hS => (X.ext rfl rfl)) ?_
          refine WD.one 10 (by kernel_rfl) ?_
          refine WO.store hp 0 rfl rfl tS103 rfl rfl (vs := [.int .i64 ((objT ws cs (st.getD i default)).hd.cls), .int .i64 ((objT ws cs (st.getD i default)).hd.age), .int .i64 ((objT ws cs (st.getD i default)).hd.fwd), .bool ((objT ws cs (st.getD i default)).hd.mark), .bool ((objT ws cs (st.getD i default)).hd.final), .bool ((objT ws cs (st.getD i default)).hd.done)]) rfl rfl rfl (new := #[.int .i64 ((objT ws cs (st.getD i default)).hd.cls), .int .i64 ((objT ws cs (st.getD i default)).hd.age), .int .i64 ((objT ws cs (st.getD i default)).hd.fwd), .bool ((objT ws cs (st.getD i default)).hd.mark), .bool ((objT ws cs (st.getD i default)).hd.final), .bool ((objT ws cs (st.getD i default)).hd.done)]) rfl ?_
          intro w hp
          refine andS ⟨hp.at 1 rfl, hp.at 2 rfl, hp.at 3 rfl, hp.at 4 rfl, hp.at 5 rfl, hp.at 6 rfl, hp.at 7 rfl, hp.at 8 rfl, hp.at 9 rfl, (hp.old hC hCD), (hp.old hV hVD), (hp.old hY hYD), (hp.old hZ hZD), trivial⟩ fun hS0 => ?_
          refine WD.v 11 rfl hS0 (fun w hS => (X.as rfl)) ?_
          refine WD.nil (by kernel_rfl) ?_
          exact X.here b56 ⟨rfl, rfl, rfl, rfl, rfl, rfl, rfl, rfl, rfl, rfl, rfl, rfl, rfl, trivial⟩ (by
            exact ⟨hp, hRw⟩)
        rintro bh w ⟨hp, hRw⟩
        refine W.sr ?_
        refine WL.run 1 rfl ?_
        refine WL.store hp 0 rfl tS4 rfl rfl (vs := [.bool false]) rfl rfl rfl (new := #[.int .i64 ((objT ws cs (st.getD i default)).hd.cls), .int .i64 ((objT ws cs (st.getD i default)).hd.age), .int .i64 ((objT ws cs (st.getD i default)).hd.fwd), .bool false, .bool ((objT ws cs (st.getD i default)).hd.final), .bool ((objT ws cs (st.getD i default)).hd.done)]) rfl ?_
        intro w hp
        refine WL.a ?_
        refine WL.run 1 rfl ?_
        refine WL.store hp 0 rfl tS3 rfl rfl (vs := [.int .i64 0]) rfl rfl rfl (new := #[.int .i64 ((objT ws cs (st.getD i default)).hd.cls), .int .i64 ((objT ws cs (st.getD i default)).hd.age), .int .i64 0, .bool false, .bool ((objT ws cs (st.getD i default)).hd.final), .bool ((objT ws cs (st.getD i default)).hd.done)]) rfl ?_
        intro w hp
        refine WL.fin ?_
        refine W.draw prog_mixed (fun w => (blkR bh (.cells (#[.int .i64 ((objT ws cs (st.getD i default)).hd.cls), .int .i64 ((objT ws cs (st.getD i default)).hd.age), .int .i64 0, .bool false, .bool ((objT ws cs (st.getD i default)).hd.final), .bool ((objT ws cs (st.getD i default)).hd.done)]) 103 (0, 0))).ok w ∧ (ownR 3 encI 1 (.slice (some ⟨b49, 0, none⟩) rt.length rt.length) (rt.map fun a => ((slG ws cs l st) a).getD 0)).ok w ∧ (ownR 3 encI 1 o45 (slTo ws cs l st)).ok w ∧ (ownR 91 encS 3 q46 (slNow ws cs l st)).ok w ∧ (ownR 3 encI 1 z2 (st.map fun a => (atT ws cs a).words)).ok w ∧ (ownR 3 encI 1 v acc).ok w ∧ (blkR b1 (.cells (#[.pointer (some ⟨q, 0, none⟩), cv]) 42 (0, 0))).ok w ∧ (blkR q (.cells (#[wv]) 59 (0, 0))).ok w ∧ (ownR 3 encI 1 wv ws).ok w ∧ (viewR clsV 4 cv cs).ok w ∧ (viewR encS 3 s l).ok w ∧ (viewR encI 1 y st).ok w ∧ (viewR encI 1 z rt).ok w ∧ True) hp ?_
        intro w hp
        refine WD.s ⟨hp.at 0 rfl, hp.at 2 rfl, hp.at 3 rfl, hp.at 4 rfl, hp.at 5 rfl, hp.at 6 rfl, hp.at 7 rfl, hp.at 8 rfl, hp.at 9 rfl, (hp.old hC hCD), (hp.old hV hVD), (hp.old hY hYD), (hp.old hZ hZD), trivial⟩ fun hS0 => ?_
        refine WD.v 0 rfl hS0 (fun w hS => (X.mv rfl)) ?_
        refine WD.v 1 rfl hS0 (fun w hS => (X.mv rfl)) ?_
        refine WD.v 2 rfl hS0 (fun w hS => (X.mv rfl)) ?_
        refine WD.v 3 rfl hS0 (fun w hS => (X.idxV (j := i) (r := offOf y + i * 1) tL34 tS3 hS.2.2.2.2.2.2.2.2.2.2.2.1 rfl rfl (by omega) (by omega) rfl)) ?_
        refine WD.v 4 rfl hS0 (fun w hS => (X.ld1 tA3 rfl (view_cell (j := i) (f := 0) hS.2.2.2.2.2.2.2.2.2.2.2.1 (get_some (by omega)) rfl (by omega)))) ?_
        refine WD.v 5 rfl hS0 (fun w hS => (X.ldkA hS.1 tA103 tS103 (vs := [.int .i64 ((objT ws cs (st.getD i default)).hd.cls), .int .i64 ((objT ws cs (st.getD i default)).hd.age), .int .i64 0, .bool false, .bool ((objT ws cs (st.getD i default)).hd.final), .bool ((objT ws cs (st.getD i default)).hd.done)]) rfl rfl)) ?_
        refine WD.one 6 (by kernel_rfl) ?_
        refine WO.call rfl isFn46 rfl rfl (word4_c (h := (⟨(objT ws cs (st.getD i default)).hd.cls, (objT ws cs (st.getD i default)).hd.age, 0, false, (objT ws cs (st.getD i default)).hd.final, (objT ws cs (st.getD i default)).hd.done⟩ : Hd)) hRw) ?_
        intro v w hc hr
        obtain rfl := hr
        have hp := hp.ext hc
        refine andS ⟨hp.at 0 rfl, hp.at 2 rfl, hp.at 3 rfl, hp.at 4 rfl, hp.at 5 rfl, hp.at 6 rfl, hp.at 7 rfl, hp.at 8 rfl, hp.at 9 rfl, (hp.old hC hCD), (hp.old hV hVD), (hp.old hY hYD), (hp.old hZ hZD), trivial⟩ fun hS0 => ?_
        refine WD.one 7 (by kernel_rfl) ?_
        refine WO.val rfl rfl rfl (X.idxV (j := (st.getD i default).toNat) (r := offOf v48 + ((st.getD i default).toNat) * 1) tL34 tS3 (own_view (hp.at 1 rfl)) rfl rfl (by omega) (by rw [adjF_len]; omega) rfl) hS0 ?_
        refine WD.one 8 (by kernel_rfl) ?_
        refine WO.stOwn hp 1 rfl rfl (j := (st.getD i default).toNat) (f := 0) (q := ((adjF (adW ws cs (slG ws cs l st) st i) (slG ws cs l st) (st.getD i default) (objT ws cs (st.getD i default)).refs.toNat).getD ((st.getD i default).toNat) default)) (q' := hdW (⟨(objT ws cs (st.getD i default)).hd.cls, (objT ws cs (st.getD i default)).hd.age, 0, false, (objT ws cs (st.getD i default)).hd.final, (objT ws cs (st.getD i default)).hd.done⟩ : Hd)) tS3 rfl rfl (vs := [.int .i64 (hdW (⟨(objT ws cs (st.getD i default)).hd.cls, (objT ws cs (st.getD i default)).hd.age, 0, false, (objT ws cs (st.getD i default)).hd.final, (objT ws cs (st.getD i default)).hd.done⟩ : Hd))]) rfl rfl (get_some (by rw [adjF_len]; omega)) rfl (by simp only [List.length_cons, List.length_nil]; omega) rfl ?_
        intro w hp
        refine andS ⟨hp.at 0 rfl, hp.at 2 rfl, hp.at 3 rfl, hp.at 4 rfl, hp.at 5 rfl, hp.at 6 rfl, hp.at 7 rfl, hp.at 8 rfl, hp.at 9 rfl, (hp.old hC hCD), (hp.old hV hVD), (hp.old hY hYD), (hp.old hZ hZD), trivial⟩ fun hS0 => ?_
        refine WD.nil (by kernel_rfl) ?_
        refine X.inN ?_
        refine X.thenN ?_
        refine W.reg ?_
        refine WL.v (X.add rfl rfl (in64 (by omega))) ?_
        refine WL.run 1 rfl ?_
        refine WL.nil ?_
        refine X.again (i + 1) ⟨rfl, rfl, rfl, rfl, rfl, rfl, rfl, rfl, rfl, rfl, rfl, trivial⟩ ?_ ?_
        · exact ⟨(hp.sel [1, 2, 3, 4, 5, 6, 7, 8, 9] (by decide)), by omega⟩
        · omega
      refine W.cF rfl (decide_eq_false hc52) ?_
      refine W.exit ?_
      refine X.thenE ?_
      refine X.thenE ?_
      refine X.inH ?_
      refine X.thenN ?_
      refine W.seq ?_
      refine W.seq ?_
      have hie : i = st.length := by omega
      rw [hie] at hp
      refine W.reg ?_
      refine WL.run 1 rfl ?_
      refine WL.v (view_len tL34 (hp.old hY hYD) rfl) ?_
      refine WL.run 1 rfl ?_
      refine WL.fin ?_
      refine W.block ?_
      refine W.loop (X := Nat) (fun i => st.length - i) (fun i => [(1, s), (2, y), (3, z), (4, .pointer (some ⟨b1, 0, none⟩)), (13, z2), (21, o45), (22, q46), (24, v48), (25, .slice (some ⟨b49, 0, none⟩) rt.length rt.length), (245, .int .i64 (st.length : Int)), (246, .int .i64 (i : Int))]) (fun i w => Hp w0 FL [ownR 3 encI 1 wv (cpW ws cs (adW ws cs (slG ws cs l st) st st.length) st (slTo ws cs l st) i), ownR 3 encI 1 v48 (adW ws cs (slG ws cs l st) st st.length), ownR 3 encI 1 (.slice (some ⟨b49, 0, none⟩) rt.length rt.length) (rt.map fun a => ((slG ws cs l st) a).getD 0), ownR 3 encI 1 o45 (slTo ws cs l st), ownR 91 encS 3 q46 (slNow ws cs l st), ownR 3 encI 1 z2 (st.map fun a => (atT ws cs a).words), ownR 3 encI 1 v acc, blkR b1 (.cells (#[.pointer (some ⟨q, 0, none⟩), cv]) 42 (0, 0)), blkR q (.cells (#[wv]) 59 (0, 0))] w ∧ i ≤ st.length) 0 ⟨rfl, rfl, rfl, rfl, rfl, rfl, rfl, rfl, rfl, rfl, rfl, trivial⟩ ?_ ?_
      · exact ⟨(hp.sel [8, 0, 1, 2, 3, 4, 5, 6, 7] (by decide)), by omega⟩
      rintro i w ⟨hp, hi⟩
      refine W.sr ?_
      refine WL.run 1 rfl ?_
      refine WL.s ?_
      by_cases hc57 : (i : Int) < (st.length : Int)
      · refine W.cT rfl (decide_eq_true hc57) ?_
        refine W.k ?_
        refine W.seq ?_
        refine W.block ?_
        refine W.sr ?_
        refine WL.run 2 rfl ?_
        refine WL.s ?_
        have hlt : i < st.length := by omega
        have hoi := hok6 i hlt
        have hwi := (hR.was i hlt).2
        have hbn := hR.bound hcs i hlt
        have hle6 := hR.le i hlt
        have htl2 := hR.tlen
        have hcl6 := cpW_len (ws := ws) (cs := cs) (st := st) (adW ws cs (slG ws cs l st) st st.length) (slTo ws cs l st) i
        have hal6 := adW_len (ws := ws) (cs := cs) (st := st) (slG ws cs l st) st.length
        have hszi : (st.map fun a => (atT ws cs a).words).getD i default = wordsAt ws cs (st.getD i default) := getD_map' _ hlt
        refine W.reg ?_
        refine WL.run 1 rfl ?_
        refine WL.fin ?_
        refine W.block ?_
        refine W.loop (X := Nat) (fun k => (wordsAt ws cs (st.getD i default)).toNat - k) (fun k => [(1, s), (2, y), (3, z), (4, .pointer (some ⟨b1, 0, none⟩)), (13, z2), (21, o45), (22, q46), (24, v48), (25, .slice (some ⟨b49, 0, none⟩) rt.length rt.length), (38, .int .i64 (i : Int)), (245, .int .i64 (st.length : Int)), (246, .int .i64 (i : Int)), (39, .int .i64 (k : Int))]) (fun k w => Hp w0 FL [ownR 3 encI 1 wv (cpF (cpW ws cs (adW ws cs (slG ws cs l st) st st.length) st (slTo ws cs l st) i) (adW ws cs (slG ws cs l st) st st.length) ((slTo ws cs l st).getD i default) (st.getD i default) k), ownR 3 encI 1 v48 (adW ws cs (slG ws cs l st) st st.length), ownR 3 encI 1 (.slice (some ⟨b49, 0, none⟩) rt.length rt.length) (rt.map fun a => ((slG ws cs l st) a).getD 0), ownR 3 encI 1 o45 (slTo ws cs l st), ownR 91 encS 3 q46 (slNow ws cs l st), ownR 3 encI 1 z2 (st.map fun a => (atT ws cs a).words), ownR 3 encI 1 v acc, blkR b1 (.cells (#[.pointer (some ⟨q, 0, none⟩), cv]) 42 (0, 0)), blkR q (.cells (#[wv]) 59 (0, 0))] w ∧ k ≤ (wordsAt ws cs (st.getD i default)).toNat) 0 ⟨rfl, rfl, rfl, rfl, rfl, rfl, rfl, rfl, rfl, rfl, rfl, rfl, rfl, trivial⟩ ?_ ?_
        · exact ⟨hp, by omega⟩
        rintro k w ⟨hp, hk⟩
        refine W.seq ?_
        refine W.sr ?_
        refine WL.run 3 rfl ?_
        refine WL.v (X.idxV (j := i) (r := offOf z2 + i * 1) tL34 tS3 (own_view (hp.at 5 rfl)) rfl rfl (by omega) (by omega) rfl) ?_
        refine WL.v (X.ld1 tA3 rfl (view_cell (j := i) (f := 0) (own_view (hp.at 5 rfl)) (get_some (by omega)) rfl (by omega))) ?_
        refine WL.run 1 rfl ?_
        refine WL.fin ?_
        by_cases hc58 : (k : Int) < ((st.map fun a => (atT ws cs a).words).getD i default)
        · refine W.cT rfl (decide_eq_true hc58) ?_
          refine W.k ?_
          refine W.seq ?_
          refine W.block ?_
          have hcpl6 := cpF_len (cpW ws cs (adW ws cs (slG ws cs l st) st st.length) st (slTo ws cs l st) i) (adW ws cs (slG ws cs l st) st st.length) ((slTo ws cs l st).getD i default) (st.getD i default) k
          refine W.draw prog_mixed (fun w => (ownR 3 encI 1 v48 (adW ws cs (slG ws cs l st) st st.length)).ok w ∧ (ownR 3 encI 1 (.slice (some ⟨b49, 0, none⟩) rt.length rt.length) (rt.map fun a => ((slG ws cs l st) a).getD 0)).ok w ∧ (ownR 3 encI 1 o45 (slTo ws cs l st)).ok w ∧ (ownR 91 encS 3 q46 (slNow ws cs l st)).ok w ∧ (ownR 3 encI 1 z2 (st.map fun a => (atT ws cs a).words)).ok w ∧ (ownR 3 encI 1 v acc).ok w ∧ (blkR b1 (.cells (#[.pointer (some ⟨q, 0, none⟩), cv]) 42 (0, 0))).ok w ∧ (blkR q (.cells (#[wv]) 59 (0, 0))).ok w ∧ (viewR clsV 4 cv cs).ok w ∧ (viewR encS 3 s l).ok w ∧ (viewR encI 1 y st).ok w ∧ (viewR encI 1 z rt).ok w ∧ True) hp ?_
          intro w hp
          refine WD.s ⟨hp.at 1 rfl, hp.at 2 rfl, hp.at 3 rfl, hp.at 4 rfl, hp.at 5 rfl, hp.at 6 rfl, hp.at 7 rfl, hp.at 8 rfl, (hp.old hC hCD), (hp.old hV hVD), (hp.old hY hYD), (hp.old hZ hZD), trivial⟩ fun hS0 => ?_
          refine WD.v 0 rfl hS0 (fun w hS => (X.fa (r := 0) tF42_0 rfl rfl)) ?_
          refine WD.v 1 rfl hS0 (fun w hS => (X.ldk hS.2.2.2.2.2.2.1 tA40 rfl rfl)) ?_
          refine WD.v 2 rfl hS0 (fun w hS => (X.nilc rfl)) ?_
          refine WD.v 3 rfl hS0 (fun w hS => (X.fa (r := 0) tF59_0 rfl rfl)) ?_
          refine WD.v 4 rfl hS0 (fun w hS => (X.ldk hS.2.2.2.2.2.2.2.1 tA34 rfl rfl)) ?_
          refine WD.v 5 rfl hS0 (fun w hS => (X.mv rfl)) ?_
          refine WD.v 6 rfl hS0 (fun w hS => (X.mv rfl)) ?_
          refine WD.v 7 rfl hS0 (fun w hS => (X.idxV (j := i) (r := offOf o45 + i * 1) tL34 tS3 (own_view hS.2.2.1) rfl rfl (by omega) (by omega) rfl)) ?_
          refine WD.v 8 rfl hS0 (fun w hS => (X.ld1 tA3 rfl (view_cell (j := i) (f := 0) (own_view hS.2.2.1) (get_some (by omega)) rfl (by omega)))) ?_
          refine WD.v 9 rfl hS0 (fun w hS => (X.mv rfl)) ?_
          refine WD.v 10 rfl hS0 (fun w hS => (X.add rfl rfl (in64 (by omega)))) ?_
          refine WD.v 11 rfl hS0 (fun w hS => (X.mv rfl)) ?_
          refine WD.v 12 rfl hS0 (fun w hS => (X.mv rfl)) ?_
          refine WD.v 13 rfl hS0 (fun w hS => (X.mv rfl)) ?_
          refine WD.v 14 rfl hS0 (fun w hS => (X.idxV (j := i) (r := offOf y + i * 1) tL34 tS3 hS.2.2.2.2.2.2.2.2.2.2.1 rfl rfl (by omega) (by omega) rfl)) ?_
          refine WD.v 15 rfl hS0 (fun w hS => (X.ld1 tA3 rfl (view_cell (j := i) (f := 0) hS.2.2.2.2.2.2.2.2.2.2.1 (get_some (by omega)) rfl (by omega)))) ?_
          refine WD.v 16 rfl hS0 (fun w hS => (X.mv rfl)) ?_
          refine WD.v 17 rfl hS0 (fun w hS => (X.add rfl rfl (in64 (by omega)))) ?_
          refine WD.v 18 rfl hS0 (fun w hS => (X.idxV (j := ((st.getD i default) + (k : Int)).toNat) (r := offOf v48 + (((st.getD i default) + (k : Int)).toNat) * 1) tL34 tS3 (own_view hS.1) rfl rfl (by omega) (by omega) rfl)) ?_
          refine WD.v 19 rfl hS0 (fun w hS => (X.ld1 tA3 rfl (view_gi (a := (st.getD i default) + (k : Int)) (own_view hS.1) (by omega)))) ?_
          refine WD.one 20 (by kernel_rfl) ?_
          refine WO.val rfl rfl rfl (X.idxV (j := (((slTo ws cs l st).getD i default) + (k : Int)).toNat) (r := offOf wv + ((((slTo ws cs l st).getD i default) + (k : Int)).toNat) * 1) tL34 tS3 (own_view (hp.at 0 rfl)) rfl rfl (by omega) (by omega) rfl) hS0 ?_
          refine WD.one 21 (by kernel_rfl) ?_
          refine WO.stOwn hp 0 rfl rfl (j := (((slTo ws cs l st).getD i default) + (k : Int)).toNat) (f := 0) (q := ((cpF (cpW ws cs (adW ws cs (slG ws cs l st) st st.length) st (slTo ws cs l st) i) (adW ws cs (slG ws cs l st) st st.length) ((slTo ws cs l st).getD i default) (st.getD i default) k).getD ((((slTo ws cs l st).getD i default) + (k : Int)).toNat) default)) (q' := gi (adW ws cs (slG ws cs l st) st st.length) ((st.getD i default) + (k : Int))) tS3 rfl rfl (vs := [.int .i64 (gi (adW ws cs (slG ws cs l st) st st.length) ((st.getD i default) + (k : Int)))]) rfl rfl (get_some (by omega)) rfl (by simp only [List.length_cons, List.length_nil]; omega) rfl ?_
          intro w hp
          refine andS ⟨hp.at 1 rfl, hp.at 2 rfl, hp.at 3 rfl, hp.at 4 rfl, hp.at 5 rfl, hp.at 6 rfl, hp.at 7 rfl, hp.at 8 rfl, (hp.old hC hCD), (hp.old hV hVD), (hp.old hY hYD), (hp.old hZ hZD), trivial⟩ fun hS0 => ?_
          refine WD.nil (by kernel_rfl) ?_
          refine X.inN ?_
          refine X.thenN ?_
          refine W.reg ?_
          refine WL.run 1 rfl ?_
          refine WL.v (X.add rfl rfl (in64 (by omega))) ?_
          refine WL.run 1 rfl ?_
          refine WL.nil ?_
          refine X.again (k + 1) ⟨rfl, rfl, rfl, rfl, rfl, rfl, rfl, rfl, rfl, rfl, rfl, rfl, rfl, trivial⟩ ?_ ?_
          · exact ⟨hp, by omega⟩
          · omega
        refine W.cF rfl (decide_eq_false hc58) ?_
        refine W.exit ?_
        refine X.thenE ?_
        refine X.thenE ?_
        refine X.inH ?_
        refine X.inN ?_
        refine X.thenN ?_
        have hke : k = (wordsAt ws cs (st.getD i default)).toNat := by omega
        refine W.reg ?_
        refine WL.v (X.add rfl rfl (in64 (by omega))) ?_
        refine WL.run 1 rfl ?_
        refine WL.nil ?_
        refine X.again (i + 1) ⟨rfl, rfl, rfl, rfl, rfl, rfl, rfl, rfl, rfl, rfl, rfl, trivial⟩ ?_ ?_
        · exact ⟨by rw [hke] at hp; exact hp, by omega⟩
        · omega
      refine W.cF rfl (decide_eq_false hc57) ?_
      refine W.exit ?_
      refine X.thenE ?_
      refine X.thenE ?_
      refine X.inH ?_
      refine X.thenN ?_
      refine W.sr ?_
      refine WL.run 5 rfl ?_
      refine WL.fin ?_
      refine W.ret ?_
      refine W.done hp (rs := [.tmp 8, .tmp 9, .tmp 10]) (vs := [.slice (some ⟨b49, 0, none⟩) rt.length rt.length, q46, .int .i64 0]) (v := .tuple #[.slice (some ⟨b49, 0, none⟩) rt.length rt.length, q46, .int .i64 0]) rfl ⟨rfl, rfl, rfl, trivial⟩ rfl ?_
      have hie2 : i = st.length := by omega
      rw [hie2] at hp
      exact ⟨_, _, rfl, (hp.sel [8, 0, 2, 4] (by decide))⟩
    exact absurd hpl0 hq44
  refine WD.g0 4 rfl (by kernel_rfl) rfl rfl rfl (congrArg not (Bool.eq_false_iff.2 hc2)) rfl (fun _ _ _ h => h) hS0 ?_
  refine WD.g0 5 rfl (by kernel_rfl) rfl rfl rfl (congrArg not (Bool.eq_false_iff.2 hc2)) rfl (fun _ _ _ h => h) hS0 ?_
  refine WD.g0 6 rfl (by kernel_rfl) rfl rfl rfl (congrArg not (Bool.eq_false_iff.2 hc2)) rfl (fun _ _ _ h => h) hS0 ?_
  refine WD.g0 7 rfl (by kernel_rfl) rfl rfl rfl (congrArg not (Bool.eq_false_iff.2 hc2)) rfl (fun _ _ _ h => h) hS0 ?_
  refine WD.gu 8 rfl (by kernel_rfl) rfl rfl rfl rfl (fun _ _ _ h => h) hS0 ?_
  refine WD.gu 9 rfl (by kernel_rfl) rfl rfl rfl rfl (fun _ _ _ h => h) hS0 ?_
  refine WD.gu 10 rfl (by kernel_rfl) rfl rfl rfl rfl (fun _ _ _ h => h) hS0 ?_
  refine WD.gu 11 rfl (by kernel_rfl) rfl rfl rfl rfl (fun _ _ _ h => h) hS0 ?_
  refine WD.gu 12 rfl (by kernel_rfl) rfl rfl rfl rfl (fun _ _ _ h => h) hS0 ?_
  refine WD.gu 13 rfl (by kernel_rfl) rfl rfl rfl rfl (fun _ _ _ h => h) hS0 ?_
  refine WD.gu 14 rfl (by kernel_rfl) rfl rfl rfl rfl (fun _ _ _ h => h) hS0 ?_
  refine WD.gu 15 rfl (by kernel_rfl) rfl rfl rfl rfl (fun _ _ _ h => h) hS0 ?_
  refine WD.gu 16 rfl (by kernel_rfl) rfl rfl rfl rfl (fun _ _ _ h => h) hS0 ?_
  refine WD.gu 17 rfl (by kernel_rfl) rfl rfl rfl rfl (fun _ _ _ h => h) hS0 ?_
  refine WD.gu 18 rfl (by kernel_rfl) rfl rfl rfl rfl (fun _ _ _ h => h) hS0 ?_
  refine WD.gu 19 rfl (by kernel_rfl) rfl rfl rfl rfl (fun _ _ _ h => h) hS0 ?_
  refine WD.gu 20 rfl (by kernel_rfl) rfl rfl rfl rfl (fun _ _ _ h => h) hS0 ?_
  refine WD.gu 21 rfl (by kernel_rfl) rfl rfl rfl rfl (fun _ _ _ h => h) hS0 ?_
  refine WD.g0 22 rfl (by kernel_rfl) rfl rfl rfl (congrArg not (Bool.eq_false_iff.2 hc2)) rfl (fun _ _ _ h => h) hS0 ?_
  refine WD.v 23 rfl hS0 (fun w hS => (X.pkT rfl (congrArg not (Bool.eq_false_iff.2 hc2)) rfl)) ?_
  refine WD.nil (by kernel_rfl) ?_
  refine X.thenN ?_
  refine W.cT rfl rfl ?_
  refine W.sr ?_
  refine WL.run 3 rfl ?_
  refine WL.fin ?_
  refine W.ret ?_
  refine X.thenR ?_
  refine W.done hp (rs := [.tmp 8, .tmp 9, .tmp 10]) (vs := [.slice none 0 0, .slice none 0 0, .int .i64 1]) (v := .tuple #[.slice none 0 0, .slice none 0 0, .int .i64 1]) rfl ⟨rfl, rfl, rfl, trivial⟩ rfl ?_
  exfalso; first | contradiction | omega
end Go.Proofs.YtmmmbkmjkpfleaaGreat
