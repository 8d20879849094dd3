/- Walks, printed by gen.py from the specs E: what each function answers. No statement of the seat is proved here; conditions: each theorem's own. -/
import Derived.Test.YtmmmbkmjkpfleaaGreatPureH
import Derived.Test.YtmmmbkmjkpfleaaGreatWD
namespace Go.Proofs.YtmmmbkmjkpfleaaGreat
open Go Go.RowKit

theorem run_c {w0 : World} {p b t c : Nat} {ws : List Int} {cs : List Cls} {s y z : Value} {l : List Spc} {st rt : List Int} (hA : (arenaR p b ws).ok w0) (hT : (tableR t c cs).ok w0) (hD : ∀ k ∈ [t, c], k ∉ [p, b]) (hV : (viewR encS 3 s l).ok w0) (hY : (viewR encI 1 y st).ok w0) (hZ : (viewR encI 1 z rt).ok w0) (hVD : ∀ k ∈ (viewR encS 3 s l).foot, k ∉ [p, b]) (hYD : ∀ k ∈ (viewR encI 1 y st).foot, k ∉ [p, b]) (hZD : ∀ k ∈ (viewR encI 1 z rt).foot, k ∉ [p, b]) (hl : l.length * 32 ≤ 140737488355328) (hs : st.length * 32 ≤ 140737488355328) (hz : rt.length * 32 ≤ 140737488355328) :
    Calls Tryz.prog 7 #[.pointer (some ⟨p, 0, none⟩), .pointer (some ⟨t, 0, none⟩), s, y, z] w0 (Ret [p, b] w0 (fun v w => (slideE ws cs l st rt = 0 ∧ ∃ o q, v = .tuple #[o, q, .int .i64 0] ∧ Hp w0 [p, b] [arenaR p b (movesW ws cs (slG ws cs l st) (wordsAt ws cs) st), ownR 3 encI 1 o (rt.map fun a => ((slG ws cs l st) a).getD 0), ownR 56 encS 3 q (planR l (st.map fun a => (atT ws cs a).words)).2.2] w) ∨ (slideE ws cs l st rt ≠ 0 ∧ v = .tuple #[.slice none 0 0, .slice none 0 0, .int .i64 (slideE ws cs l st rt)] ∧ (arenaR p b ws).ok w))) := by
  have hp : Hp w0 [p, b] [arenaR p b ws] w0 := Hp.one hA (arena_nd hA)
  have hle1 := view_len_le hY
  have hle2 := view_len_le hZ
  refine enter (vs := [.pointer (some ⟨p, 0, none⟩), .pointer (some ⟨t, 0, none⟩), s, y, z]) Tryz.func7 rfl rfl rfl ?_
  refine gen_world hp ?_
  intro w hp
  refine W.sr ?_
  refine WL.box hp rfl (cs := #[.pointer (some ⟨p, 0, none⟩)]) rfl rfl ?_
  intro b1 w hp
  refine WL.run 3 rfl ?_
  refine WL.a ?_
  refine WL.run 1 rfl ?_
  refine WL.call isFn25 rfl rfl (issorted_c (hp.old hY hYD)) ?_
  intro v w hc hr
  obtain rfl := hr
  have hp := hp.ext hc
  refine WL.run 1 rfl ?_
  by_cases hsort : sortedB st = true
  · refine WL.g1 rfl rfl hsort ?_
    refine WL.run 1 rfl ?_
    refine WL.g1 rfl rfl hsort ?_
    refine WL.call isFn27 rfl rfl (cloneI_c (hp.old hY hYD) hs) ?_
    intro v3 w hc hr
    have hp := hp.newN hc hr
    refine WL.g1 rfl rfl hsort ?_
    refine WL.call isFn26 rfl rfl (compact_c (hp.at 0 rfl)) ?_
    intro v w hc hr
    obtain ⟨A4, n5, c6, rfl, hq7⟩ := hr
    have hp := hp.lose hc
    refine WL.g1 rfl rfl hsort ?_
    refine WL.v (X.len tL34 rfl) ?_
    refine WL.g1 rfl rfl hsort ?_
    refine WL.run 1 rfl ?_
    refine WL.g1 rfl rfl hsort ?_
    refine WL.v (view_len tL34 (hp.old hY hYD) rfl) ?_
    refine WL.g1 rfl rfl hsort ?_
    refine WL.run 1 rfl ?_
    refine WL.v (X.pkT rfl hsort rfl) ?_
    refine WL.run 1 rfl ?_
    refine WL.s ?_
    refine W.seq ?_
    have hcn := hq7
    refine W.reg ?_
    refine WL.run 1 rfl ?_
    refine WL.call isFn28 rfl rfl (rise_c (hp.old hV hVD)) ?_
    intro v w hc hr
    obtain rfl := hr
    have hp := hp.ext hc
    refine WL.run 2 rfl ?_
    by_cases hrise : rise l = true
    · refine WL.g1 rfl rfl (congrArg not hrise) ?_
      refine WL.run 1 rfl ?_
      refine WL.g1 rfl rfl (congrArg not hrise) ?_
      refine WL.run 1 rfl ?_
      refine WL.v (X.pkF rfl (congrArg not hrise) rfl) ?_
      refine WL.run 1 rfl ?_
      by_cases hc9 : (n5 : Int) = (st.length : Int)
      · refine WL.g1 rfl rfl (congrArg not (decide_eq_true hc9)) ?_
        refine WL.run 1 rfl ?_
        refine WL.g1 rfl rfl (congrArg not (decide_eq_true hc9)) ?_
        refine WL.v (X.mkf rfl rfl) ?_
        refine WL.g1 rfl rfl (congrArg not (decide_eq_true hc9)) ?_
        refine WL.call isFn29 rfl rfl (confS_c (pr := fun s => decide ((ws.length : Int) < s.end_)) (hp.old hV hVD) isFn30 (fun x w hx hc => run1_c (s := x) (hc.ext (hp.at 1 rfl)) (hc.ext (hp.at 0 rfl)))) ?_
        intro v w hc hr
        obtain rfl := hr
        have hp := hp.ext hc
        refine WL.v (X.pkF rfl (congrArg not (decide_eq_true hc9)) rfl) ?_
        refine WL.fin ?_
        by_cases hlast : l.any (fun s => decide ((ws.length : Int) < s.end_)) = true
        · refine W.cT rfl hlast ?_
          refine W.sr ?_
          refine WL.run 3 rfl ?_
          refine WL.fin ?_
          refine W.ret ?_
          refine X.thenR ?_
          refine W.done hp (rs := [.tmp 10, .tmp 11, .tmp 12]) (vs := [.slice none 0 0, .slice none 0 0, .int .i64 1]) (v := .tuple #[.slice none 0 0, .slice none 0 0, .int .i64 1]) rfl ⟨rfl, rfl, rfl, trivial⟩ rfl ?_
          have hE : slideE ws cs l st rt = 1 := slideE_arg (fun q => by first | exact absurd q.1 ‹_› | exact absurd q.2.2.1 ‹_› | exact q.2.2.2 ‹_› | (have hz9 := hcn.2 q.2.1; omega))
          exact .inr ⟨by rw [hE]; decide, by rw [hE], hp.at 1 rfl⟩
        refine W.cF rfl (Bool.eq_false_iff.2 hlast) ?_
        refine W.k ?_
        refine W.seq ?_
        have hnadj : noAdjB st = true := hq7.1 (by omega)
        have hall := rise_all hrise
        refine W.draw prog_mixed (fun w => (blkR b1 (.cells (#[.pointer (some ⟨p, 0, none⟩)]) 29 (0, 0))).ok w ∧ (arenaR p b ws).ok w ∧ (tableR t c cs).ok w ∧ (viewR encS 3 s l).ok w ∧ (viewR encI 1 y st).ok w ∧ (viewR encI 1 z rt).ok w ∧ True) hp ?_
        intro w hp
        refine WD.s ⟨hp.at 0 rfl, hp.at 1 rfl, (hp.old hT hD), (hp.old hV hVD), (hp.old hY hYD), (hp.old hZ hZD), trivial⟩ fun hS0 => ?_
        refine WD.v 0 rfl hS0 (fun w hS => (X.ldk hS.1 tA29 rfl rfl)) ?_
        refine WD.v 1 rfl hS0 (fun w hS => (X.ldk hS.1 tA29 rfl rfl)) ?_
        refine WD.v 2 rfl hS0 (fun w hS => (X.mv rfl)) ?_
        refine WD.v 4 rfl hS0 (fun w hS => (X.mv rfl)) ?_
        refine WD.two 3 7 (by kernel_rfl) ?_ ?_
        · refine WO.call rfl isFn18 rfl rfl on_c ?_
          intro v w hc hr
          obtain rfl := hr
          have hp := hp.ext hc
          refine andS ⟨hp.at 0 rfl, hp.at 1 rfl, (hp.old hT hD), (hp.old hV hVD), (hp.old hY hYD), (hp.old hZ hZD), trivial⟩ fun hS0 => ?_
          refine WD.v 5 rfl hS0 (fun w hS => (X.bld (v := .agg #[.pointer (some ⟨p, 0, none⟩), .pointer (some ⟨p, 0, none⟩), .pointer (some ⟨t, 0, none⟩), y, .slice none 0 0, .map none]) rfl (by (obtain ⟨_, _, _, hv_⟩ := view_form hS.2.2.2.2.1; subst hv_); kernel_rfl))) ?_
          refine WD.two 6 7 (by kernel_rfl) ?_ ?_
          · refine WO.box hp rfl rfl (cs := #[.pointer (some ⟨p, 0, none⟩), .pointer (some ⟨p, 0, none⟩), .pointer (some ⟨t, 0, none⟩), y, .slice none 0 0, .map none]) rfl rfl ?_
            intro b11 w hp
            refine andS ⟨hp.at 1 rfl, hp.at 2 rfl, (hp.old hT hD), (hp.old hV hVD), (hp.old hY hYD), (hp.old hZ hZD), trivial⟩ fun hS0 => ?_
            refine WD.one 7 (by kernel_rfl) ?_
            refine WO.alloc hp rfl tZ82 rfl ?_
            intro b12 w hp
            refine andS ⟨hp.at 2 rfl, hp.at 3 rfl, (hp.old hT hD), (hp.old hV hVD), (hp.old hY hYD), (hp.old hZ hZD), trivial⟩ fun hS0 => ?_
            refine WD.one 8 (by kernel_rfl) ?_
            refine WO.store hp 0 rfl rfl tS82 rfl rfl (vs := [.pointer (some ⟨b11, 0, none⟩)]) rfl rfl rfl (new := #[.pointer (some ⟨b11, 0, none⟩)]) rfl ?_
            intro w hp
            refine andS ⟨hp.at 2 rfl, hp.at 3 rfl, (hp.old hT hD), (hp.old hV hVD), (hp.old hY hYD), (hp.old hZ hZD), trivial⟩ fun hS0 => ?_
            refine WD.nil (by kernel_rfl) ?_
            refine X.thenN ?_
            refine W.sr ?_
            refine WL.v (X.ldk (hp.at 0 rfl) tA82 rfl rfl) ?_
            refine WL.run 1 rfl ?_
            have hp := hp.sel [1, 0, 2, 3] (by decide)
            refine WL.call isFn32 rfl rfl (rplan_c (hp.at 3 rfl) (hp.old hT hD) (hp.at 0 rfl) (hp.old hV hVD) (hp.old hY hYD) hall hl hs (foot_dis hp (i := 3) (j := 0) rfl rfl (by decide)) (hp.oldDis 0 rfl hT hD) (hp.oldDis 0 rfl hV hVD) (hp.oldDis 0 rfl hY hYD)) ?_
            intro v w hc hr
            rcases hr with ⟨hq17, rfl⟩ | ⟨al13, hq17, hq18, hq19, rfl⟩ | ⟨al13, hq17, hq18, hq19, q14, z15, m16, rfl, hN⟩
            · have hp := hp.lose hc
              refine WL.run 5 rfl ?_
              refine WL.s ?_
              refine W.sr ?_
              refine WL.run 2 rfl ?_
              refine WL.fin ?_
              refine W.cT rfl (decide_eq_true (by decide)) ?_
              refine W.sr ?_
              refine WL.run 4 rfl ?_
              refine WL.fin ?_
              refine W.ret ?_
              refine X.thenR ?_
              refine W.done hp (rs := [.tmp 10, .tmp 11, .tmp 12]) (vs := [.slice none 0 0, .slice none 0 0, .int .i64 12]) (v := .tuple #[.slice none 0 0, .slice none 0 0, .int .i64 12]) rfl ⟨rfl, rfl, rfl, trivial⟩ rfl ?_
              have hE : slideE ws cs l st rt = 12 := slideE_plan ⟨hsort, hnadj, hrise, hlast⟩ ‹_ ∨ _›
              exact .inr ⟨by rw [hE]; decide, by rw [hE], hp.at 2 rfl⟩
            · exact absurd (plan_ok (table_all hT) hrise hq17 hsort hnadj hq18).1 hq19
            have hp := Hp.back (Rs := [blkR b11 (.cells (#[.pointer (some ⟨p, 0, none⟩), .pointer (some ⟨p, 0, none⟩), .pointer (some ⟨t, 0, none⟩), y, .slice none 0 0, .map none]) 85 (0, 0))]) (Rs' := [blkR b12 (.cells (#[.pointer (some ⟨b11, 0, none⟩)]) 82 (0, 0)), blkR b1 (.cells (#[.pointer (some ⟨p, 0, none⟩)]) 29 (0, 0)), arenaR p b ws]) hp hN
            have hsG := show toG (st.zip (planR l (st.map fun a => (atT ws cs a).words)).2.1) = (slG ws cs l st) from rfl
            refine WL.run 5 rfl ?_
            refine WL.s ?_
            refine W.sr ?_
            refine WL.run 2 rfl ?_
            refine WL.fin ?_
            refine W.cF rfl (decide_eq_false (by decide)) ?_
            refine W.k ?_
            refine W.seq ?_
            refine W.seq ?_
            have hobj : ∀ x ∈ st, objE ws cs x = 0 := fun x hx => ((stay_chain (table_all hT) hrise hq17 hsort hnadj hq18).2 x hx).1
            have hp := hp.mapCongr 3 rfl (G' := (slG ws cs l st)) (fun _ => rfl)
            refine W.reg ?_
            refine WL.run 1 rfl ?_
            refine WL.v (X.ldk (hp.at 4 rfl) tA82 rfl rfl) ?_
            refine WL.v (X.mkf rfl rfl) ?_
            refine WL.call isFn33 rfl rfl (confI_c (pr := fun a => lostF ws cs (slG ws cs l st) a) (hp.old hY hYD) isFn34 (fun x w hx hc => lost_c (a := x) (hc.ext (hp.at 6 rfl)) (hc.ext (hp.old hT hD)) (hc.ext (hp.at 2 rfl)) (hc.ext (hp.at 3 rfl)) (hobj x hx))) ?_
            intro v w hc hr
            obtain rfl := hr
            have hp := hp.ext hc
            refine WL.run 1 rfl ?_
            by_cases hc22 : st.any (fun a => lostF ws cs (slG ws cs l st) a) = true
            · refine WL.g0 rfl rfl hc22 rfl ?_
              refine WL.g0 rfl rfl hc22 rfl ?_
              refine WL.g0 rfl rfl hc22 rfl ?_
              refine WL.v (X.pkT rfl hc22 rfl) ?_
              refine WL.fin ?_
              refine W.cT rfl rfl ?_
              refine W.sr ?_
              refine WL.run 3 rfl ?_
              refine WL.fin ?_
              refine W.ret ?_
              refine X.thenR ?_
              refine W.done hp (rs := [.tmp 10, .tmp 11, .tmp 12]) (vs := [.slice none 0 0, .slice none 0 0, .int .i64 12]) (v := .tuple #[.slice none 0 0, .slice none 0 0, .int .i64 12]) rfl ⟨rfl, rfl, rfl, trivial⟩ rfl ?_
              have hE : slideE ws cs l st rt = 12 := slideE_lost ⟨hsort, hnadj, hrise, hlast⟩ hq17 hq18 (by first | exact .inl ‹_› | exact .inr ‹_›)
              exact .inr ⟨by rw [hE]; decide, by rw [hE], hp.at 6 rfl⟩
            refine WL.g1 rfl rfl (Bool.eq_false_iff.2 hc22) ?_
            refine WL.run 1 rfl ?_
            refine WL.g1 rfl rfl (Bool.eq_false_iff.2 hc22) ?_
            refine WL.v (X.mkf rfl rfl) ?_
            refine WL.g1 rfl rfl (Bool.eq_false_iff.2 hc22) ?_
            refine WL.call isFn33 rfl rfl (confI_c (pr := fun a => !((slG ws cs l st) a).isSome) (hp.old hZ hZD) isFn35 (fun x w hx hc => run2_c (a := x) (hc.ext (hp.at 2 rfl)) (hc.ext (hp.at 3 rfl)) (hc.ext (hp.at 4 rfl)))) ?_
            intro v w hc hr
            obtain rfl := hr
            have hp := hp.ext hc
            refine WL.v (X.pkF rfl (Bool.eq_false_iff.2 hc22) rfl) ?_
            refine WL.fin ?_
            by_cases hc23 : rt.any (fun a => !((slG ws cs l st) a).isSome) = true
            · refine W.cT rfl hc23 ?_
              refine W.sr ?_
              refine WL.run 3 rfl ?_
              refine WL.fin ?_
              refine W.ret ?_
              refine X.thenR ?_
              refine W.done hp (rs := [.tmp 10, .tmp 11, .tmp 12]) (vs := [.slice none 0 0, .slice none 0 0, .int .i64 12]) (v := .tuple #[.slice none 0 0, .slice none 0 0, .int .i64 12]) rfl ⟨rfl, rfl, rfl, trivial⟩ rfl ?_
              have hE : slideE ws cs l st rt = 12 := slideE_lost ⟨hsort, hnadj, hrise, hlast⟩ hq17 hq18 (by first | exact .inl ‹_› | exact .inr ‹_›)
              exact .inr ⟨by rw [hE]; decide, by rw [hE], hp.at 6 rfl⟩
            refine W.cF rfl (Bool.eq_false_iff.2 hc23) ?_
            refine W.k ?_
            refine W.seq ?_
            refine W.seq ?_
            have hok : SlideOk ws cs st (slG ws cs l st) := slide_ok (table_all hT) hrise hq17 hsort hnadj hq18
            have hE := slideE_ok (rt := rt) ⟨hsort, hnadj, hrise, hlast⟩ hq17 hq18 (by assumption) (by assumption)
            refine W.reg ?_
            refine WL.run 1 rfl ?_
            refine WL.v (view_len tL34 (hp.old hY hYD) rfl) ?_
            refine WL.run 1 rfl ?_
            refine WL.fin ?_
            refine W.block ?_
            refine W.loop (X := Nat) (fun i => st.length - i) (fun i => [(4, z), (14, .pointer (some ⟨b12, 0, none⟩)), (15, q14), (70, y), (71, .int .i64 (st.length : Int)), (72, .int .i64 (i : Int))]) (fun i w => Hp w0 [p, b] [arenaR p b (movesW ws cs (slG ws cs l st) (wordsAt ws cs) (st.take i)), ownR 56 encS 3 q14 ((planR l (st.map fun a => (atT ws cs a).words)).2.2), ownR 3 encI 1 z15 (st.map fun a => (atT ws cs a).words), blkR b11 (.cells (#[.pointer (some ⟨p, 0, none⟩), .pointer (some ⟨p, 0, none⟩), .pointer (some ⟨t, 0, none⟩), y, z15, .map (some m16)]) 85 (0, 0)), mapR encN m16 (slG ws cs l st), blkR b12 (.cells (#[.pointer (some ⟨b11, 0, none⟩)]) 82 (0, 0))] w ∧ i ≤ st.length) 0 ⟨rfl, rfl, rfl, rfl, rfl, rfl, trivial⟩ ?_ ?_
            · exact ⟨(hp.sel [6, 0, 1, 2, 3, 4] (by decide)), by omega⟩
            rintro i w ⟨hp, hi⟩
            refine W.sr ?_
            refine WL.run 1 rfl ?_
            refine WL.s ?_
            by_cases hc24 : (i : Int) < (st.length : Int)
            · refine W.cT rfl (decide_eq_true hc24) ?_
              refine W.k ?_
              refine W.seq ?_
              refine W.block ?_
              refine W.seq ?_
              have hlt0 : i < st.length := by omega
              refine W.reg ?_
              refine WL.run 1 rfl ?_
              refine WL.v (X.idxV (j := i) (r := offOf y + i * 1) tL34 tS3 (hp.old hY hYD) rfl rfl (by omega) (by omega) rfl) ?_
              refine WL.v (X.ld1 tA3 rfl (view_cell (j := i) (f := 0) (hp.old hY hYD) (get_some (by omega)) rfl (by omega))) ?_
              refine WL.run 2 rfl ?_
              refine WL.fin ?_
              have hlt : i < st.length := by omega
              have hlll : (st.map fun a => (atT ws cs a).words).length = st.length := List.length_map _
              have hnw : (st.map fun a => (atT ws cs a).words).getD i default = wordsAt ws cs (st.getD i default) := getD_map' _ hlt
              have hmb := hok i hlt
              have hmo : objE (movesW ws cs (slG ws cs l st) (wordsAt ws cs) (st.take i)) cs (st.getD i default) = 0 := by unfold objE; rw [moves_obj hok hlt]; exact hmb.1
              have hsl2 := hmb.2.1
              obtain ⟨tt, htt1, htt2, htt3⟩ := hmb.2.2.1
              have hml := movesW_len (ws := ws) (cs := cs) (G := (slG ws cs l st)) (n := (wordsAt ws cs)) (st.take i)
              have hmn : 0 ≤ (st.map fun a => (atT ws cs a).words).getD i default ∧ st.getD i default + (st.map fun a => (atT ws cs a).words).getD i default ≤ (movesW ws cs (slG ws cs l st) (wordsAt ws cs) (st.take i)).length := by rw [hnw]; omega
              have hmt : 0 ≤ ((slG ws cs l st) (st.getD i default)).getD 0 ∧ ((slG ws cs l st) (st.getD i default)).getD 0 + (st.map fun a => (atT ws cs a).words).getD i default ≤ (movesW ws cs (slG ws cs l st) (wordsAt ws cs) (st.take i)).length := by rw [hnw, htt1]; simp only [Option.getD_some]; omega
              refine W.draw prog_mixed (fun w => (ownR 56 encS 3 q14 ((planR l (st.map fun a => (atT ws cs a).words)).2.2)).ok w ∧ (ownR 3 encI 1 z15 (st.map fun a => (atT ws cs a).words)).ok w ∧ (blkR b11 (.cells (#[.pointer (some ⟨p, 0, none⟩), .pointer (some ⟨p, 0, none⟩), .pointer (some ⟨t, 0, none⟩), y, z15, .map (some m16)]) 85 (0, 0))).ok w ∧ (mapR encN m16 (slG ws cs l st)).ok w ∧ (blkR b12 (.cells (#[.pointer (some ⟨b11, 0, none⟩)]) 82 (0, 0))).ok w ∧ (tableR t c cs).ok w ∧ (viewR encS 3 s l).ok w ∧ (viewR encI 1 y st).ok w ∧ (viewR encI 1 z rt).ok w ∧ True) hp ?_
              intro w hp
              refine WD.s ⟨hp.at 1 rfl, hp.at 2 rfl, hp.at 3 rfl, hp.at 4 rfl, hp.at 5 rfl, (hp.old hT hD), (hp.old hV hVD), (hp.old hY hYD), (hp.old hZ hZD), trivial⟩ fun hS0 => ?_
              refine WD.v 0 rfl hS0 (fun w hS => (X.ldk hS.2.2.2.2.1 tA82 rfl rfl)) ?_
              refine WD.v 1 rfl hS0 (fun w hS => (X.mv rfl)) ?_
              refine WD.v 2 rfl hS0 (fun w hS => (X.ldk hS.2.2.2.2.1 tA82 rfl rfl)) ?_
              refine WD.v 3 rfl hS0 (fun w hS => (X.nilc rfl)) ?_
              refine WD.v 4 rfl hS0 (fun w hS => (X.fa (r := 4) tF85_3 rfl rfl)) ?_
              refine WD.v 5 rfl hS0 (fun w hS => (X.ldk hS.2.2.1 tA34 rfl rfl)) ?_
              refine WD.v 6 rfl hS0 (fun w hS => (X.mv rfl)) ?_
              refine WD.v 7 rfl hS0 (fun w hS => (X.idxV (j := i) (r := offOf z15 + i * 1) tL34 tS3 (own_view hS.2.1) rfl rfl (by omega) (by omega) rfl)) ?_
              refine WD.v 8 rfl hS0 (fun w hS => (X.ld1 tA3 rfl (view_cell (j := i) (f := 0) (own_view hS.2.1) (get_some (by omega)) rfl (by omega)))) ?_
              refine WD.one 9 (by kernel_rfl) ?_
              refine WO.call rfl isFn37 rfl rfl (rmove_c (a := (st.getD i default)) (n := ((st.map fun a => (atT ws cs a).words).getD i default)) (hp.at 0 rfl) (hp.old hT hD) hD (hp.at 3 rfl) (hp.at 4 rfl) (foot_dis hp (i := 3) (j := 0) rfl rfl (by decide) _ (by simp [blkR])) (foot_dis hp (i := 4) (j := 0) rfl rfl (by decide) _ (by simp [mapR])) hmo hmn hmt) ?_
              intro v w hc hr
              obtain ⟨rfl, hA⟩ := hr
              have hp := hp.arena 0 rfl hc hA
              refine andS ⟨hp.at 1 rfl, hp.at 2 rfl, hp.at 3 rfl, hp.at 4 rfl, hp.at 5 rfl, (hp.old hT hD), (hp.old hV hVD), (hp.old hY hYD), (hp.old hZ hZD), trivial⟩ fun hS0 => ?_
              refine WD.nil (by kernel_rfl) ?_
              refine X.inN ?_
              refine X.thenN ?_
              refine W.reg ?_
              refine WL.v (X.add rfl rfl (in64 (by omega))) ?_
              refine WL.run 1 rfl ?_
              refine WL.nil ?_
              refine X.again (i + 1) ⟨rfl, rfl, rfl, rfl, rfl, rfl, trivial⟩ ?_ ?_
              · exact ⟨by rw [movesW_step hlt, ← hnw]; exact hp, by omega⟩
              · omega
            refine W.cF rfl (decide_eq_false hc24) ?_
            refine W.exit ?_
            refine X.thenE ?_
            refine X.thenE ?_
            refine X.inH ?_
            refine X.thenN ?_
            refine W.seq ?_
            have hti : st.take i = st := List.take_of_length_le (by omega)
            rw [hti] at hp
            have hp := hp.addNil 3 encI 1 encI_len (by omega)
            refine W.reg ?_
            refine WL.run 1 rfl ?_
            refine WL.s ?_
            refine W.sr ?_
            refine WL.run 1 rfl ?_
            refine WL.v (view_len tL34 (hp.old hZ hZD) rfl) ?_
            refine WL.run 1 rfl ?_
            refine WL.fin ?_
            refine W.block ?_
            refine W.loop (X := Nat × Value) (fun x_ => match x_ with | ⟨j, o⟩ => rt.length - j) (fun x_ => match x_ with | ⟨j, o⟩ => [(14, .pointer (some ⟨b12, 0, none⟩)), (15, q14), (19, o), (88, z), (89, .int .i64 (rt.length : Int)), (90, .int .i64 (j : Int))]) (fun x_ w => match x_ with | ⟨j, o⟩ => Hp w0 [p, b] [ownR 3 encI 1 o ((rt.take j).map fun a => ((slG ws cs l st) a).getD 0), arenaR p b (movesW ws cs (slG ws cs l st) (wordsAt ws cs) st), ownR 56 encS 3 q14 ((planR l (st.map fun a => (atT ws cs a).words)).2.2), ownR 3 encI 1 z15 (st.map fun a => (atT ws cs a).words), blkR b11 (.cells (#[.pointer (some ⟨p, 0, none⟩), .pointer (some ⟨p, 0, none⟩), .pointer (some ⟨t, 0, none⟩), y, z15, .map (some m16)]) 85 (0, 0)), mapR encN m16 (slG ws cs l st), blkR b12 (.cells (#[.pointer (some ⟨b11, 0, none⟩)]) 82 (0, 0))] w ∧ j ≤ rt.length) (0, .slice none 0 0) ⟨rfl, rfl, rfl, rfl, rfl, rfl, trivial⟩ ?_ ?_
            · exact ⟨hp, by omega⟩
            rintro ⟨j, o⟩ w ⟨hp, hj⟩
            refine W.sr ?_
            refine WL.run 1 rfl ?_
            refine WL.s ?_
            by_cases hc25 : (j : Int) < (rt.length : Int)
            · refine W.cT rfl (decide_eq_true hc25) ?_
              refine W.k ?_
              refine W.seq ?_
              refine W.block ?_
              refine W.seq ?_
              have hjl : j < rt.length := by omega
              refine W.reg ?_
              refine WL.v (X.idxV (j := j) (r := offOf z + j * 1) tL34 tS3 (hp.old hZ hZD) rfl rfl (by omega) (by omega) rfl) ?_
              refine WL.v (X.ld1 tA3 rfl (view_cell (j := j) (f := 0) (hp.old hZ hZD) (get_some (by omega)) rfl (by omega))) ?_
              refine WL.run 1 rfl ?_
              refine WL.b ?_
              refine WL.run 1 rfl ?_
              refine WL.v (X.ldk (hp.at 6 rfl) tA82 rfl rfl) ?_
              refine WL.run 2 rfl ?_
              refine WL.v (X.ldk (hp.at 4 rfl) tA83 rfl rfl) ?_
              refine WL.run 1 rfl ?_
              refine WL.v (X.lkE tM83 (tV3 _) (hp.at 5 rfl) rfl rfl (encN_lk _)) ?_
              refine WL.bsl hp (e := 3) (cs := #[.int .i64 (((slG ws cs l st) (rt.getD j default)).getD 0)]) rfl (fun _ => by kernel_rfl) rfl ?_
              intro b26 w hp
              refine WL.append hp 1 rfl tL34 (zeroT_ex tZ3) tS3 tY3 rfl rfl (view_of_blk (l := [((slG ws cs l st) (rt.getD j default)).getD 0]) hp 0 rfl encI_len (by omega) rfl (by simp) (by simp)) encI_one (by simp only [List.length_append, List.length_cons, List.length_nil, List.length_map, List.length_take]; omega) rfl ?_
              intro v27 w hp
              refine WL.run 1 rfl ?_
              refine WL.nil ?_
              refine X.inN ?_
              refine X.thenN ?_
              refine W.reg ?_
              refine WL.v (X.add rfl rfl (in64 (by omega))) ?_
              refine WL.run 1 rfl ?_
              refine WL.nil ?_
              refine X.again (j + 1, v27) ⟨rfl, rfl, rfl, rfl, rfl, rfl, trivial⟩ ?_ ?_
              · exact ⟨by rw [take_getD hjl, List.map_append, List.map_singleton]; exact (hp.sel [1, 2, 3, 4, 5, 6, 7] (by decide)), by omega⟩
              · dsimp only; omega
            refine W.cF rfl (decide_eq_false hc25) ?_
            refine W.exit ?_
            refine X.thenE ?_
            refine X.thenE ?_
            refine X.inH ?_
            refine X.thenN ?_
            refine W.sr ?_
            refine WL.run 5 rfl ?_
            refine WL.fin ?_
            refine W.ret ?_
            refine W.done hp (rs := [.tmp 10, .tmp 11, .tmp 12]) (vs := [o, q14, .int .i64 0]) (v := .tuple #[o, q14, .int .i64 0]) rfl ⟨rfl, rfl, rfl, trivial⟩ rfl ?_
            have htj : rt.take j = rt := List.take_of_length_le (by omega)
            rw [htj] at hp
            exact .inl ⟨hE, o, q14, rfl, (hp.sel [1, 0, 2] (by decide))⟩
          refine WO.alloc hp rfl tZ82 rfl ?_
          intro b28 w hp
          refine andS ⟨hp.at 1 rfl, hp.at 2 rfl, (hp.old hT hD), (hp.old hV hVD), (hp.old hY hYD), (hp.old hZ hZD), trivial⟩ fun hS0 => ?_
          refine WD.one 6 (by kernel_rfl) ?_
          refine WO.box hp rfl rfl (cs := #[.pointer (some ⟨p, 0, none⟩), .pointer (some ⟨p, 0, none⟩), .pointer (some ⟨t, 0, none⟩), y, .slice none 0 0, .map none]) rfl rfl ?_
          intro b29 w hp
          refine andS ⟨hp.at 2 rfl, hp.at 3 rfl, (hp.old hT hD), (hp.old hV hVD), (hp.old hY hYD), (hp.old hZ hZD), trivial⟩ fun hS0 => ?_
          refine WD.one 8 (by kernel_rfl) ?_
          refine WO.store hp 1 rfl rfl tS82 rfl rfl (vs := [.pointer (some ⟨b29, 0, none⟩)]) rfl rfl rfl (new := #[.pointer (some ⟨b29, 0, none⟩)]) rfl ?_
          intro w hp
          refine andS ⟨hp.at 2 rfl, hp.at 3 rfl, (hp.old hT hD), (hp.old hV hVD), (hp.old hY hYD), (hp.old hZ hZD), trivial⟩ fun hS0 => ?_
          refine WD.nil (by kernel_rfl) ?_
          refine X.thenN ?_
          refine W.sr ?_
          refine WL.v (X.ldk (hp.at 1 rfl) tA82 rfl rfl) ?_
          refine WL.run 1 rfl ?_
          refine WL.call isFn32 rfl rfl (rplan_c (hp.at 3 rfl) (hp.old hT hD) (hp.at 0 rfl) (hp.old hV hVD) (hp.old hY hYD) hall hl hs (foot_dis hp (i := 3) (j := 0) rfl rfl (by decide)) (hp.oldDis 0 rfl hT hD) (hp.oldDis 0 rfl hV hVD) (hp.oldDis 0 rfl hY hYD)) ?_
          intro v w hc hr
          rcases hr with ⟨hq34, rfl⟩ | ⟨al30, hq34, hq35, hq36, rfl⟩ | ⟨al30, hq34, hq35, hq36, q31, z32, m33, rfl, hN⟩
          · have hp := hp.lose hc
            refine WL.run 5 rfl ?_
            refine WL.s ?_
            refine W.sr ?_
            refine WL.run 2 rfl ?_
            refine WL.fin ?_
            refine W.cT rfl (decide_eq_true (by decide)) ?_
            refine W.sr ?_
            refine WL.run 4 rfl ?_
            refine WL.fin ?_
            refine W.ret ?_
            refine X.thenR ?_
            refine W.done hp (rs := [.tmp 10, .tmp 11, .tmp 12]) (vs := [.slice none 0 0, .slice none 0 0, .int .i64 12]) (v := .tuple #[.slice none 0 0, .slice none 0 0, .int .i64 12]) rfl ⟨rfl, rfl, rfl, trivial⟩ rfl ?_
            have hE : slideE ws cs l st rt = 12 := slideE_plan ⟨hsort, hnadj, hrise, hlast⟩ ‹_ ∨ _›
            exact .inr ⟨by rw [hE]; decide, by rw [hE], hp.at 2 rfl⟩
          · exact absurd (plan_ok (table_all hT) hrise hq34 hsort hnadj hq35).1 hq36
          have hp := Hp.back (Rs := [blkR b29 (.cells (#[.pointer (some ⟨p, 0, none⟩), .pointer (some ⟨p, 0, none⟩), .pointer (some ⟨t, 0, none⟩), y, .slice none 0 0, .map none]) 85 (0, 0))]) (Rs' := [blkR b28 (.cells (#[.pointer (some ⟨b29, 0, none⟩)]) 82 (0, 0)), blkR b1 (.cells (#[.pointer (some ⟨p, 0, none⟩)]) 29 (0, 0)), arenaR p b ws]) hp hN
          have hsG := show toG (st.zip (planR l (st.map fun a => (atT ws cs a).words)).2.1) = (slG ws cs l st) from rfl
          refine WL.run 5 rfl ?_
          refine WL.s ?_
          refine W.sr ?_
          refine WL.run 2 rfl ?_
          refine WL.fin ?_
          refine W.cF rfl (decide_eq_false (by decide)) ?_
          refine W.k ?_
          refine W.seq ?_
          refine W.seq ?_
          have hobj : ∀ x ∈ st, objE ws cs x = 0 := fun x hx => ((stay_chain (table_all hT) hrise hq34 hsort hnadj hq35).2 x hx).1
          have hp := hp.mapCongr 3 rfl (G' := (slG ws cs l st)) (fun _ => rfl)
          refine W.reg ?_
          refine WL.run 1 rfl ?_
          refine WL.v (X.ldk (hp.at 4 rfl) tA82 rfl rfl) ?_
          refine WL.v (X.mkf rfl rfl) ?_
          refine WL.call isFn33 rfl rfl (confI_c (pr := fun a => lostF ws cs (slG ws cs l st) a) (hp.old hY hYD) isFn34 (fun x w hx hc => lost_c (a := x) (hc.ext (hp.at 6 rfl)) (hc.ext (hp.old hT hD)) (hc.ext (hp.at 2 rfl)) (hc.ext (hp.at 3 rfl)) (hobj x hx))) ?_
          intro v w hc hr
          obtain rfl := hr
          have hp := hp.ext hc
          refine WL.run 1 rfl ?_
          by_cases hc39 : st.any (fun a => lostF ws cs (slG ws cs l st) a) = true
          · refine WL.g0 rfl rfl hc39 rfl ?_
            refine WL.g0 rfl rfl hc39 rfl ?_
            refine WL.g0 rfl rfl hc39 rfl ?_
            refine WL.v (X.pkT rfl hc39 rfl) ?_
            refine WL.fin ?_
            refine W.cT rfl rfl ?_
            refine W.sr ?_
            refine WL.run 3 rfl ?_
            refine WL.fin ?_
            refine W.ret ?_
            refine X.thenR ?_
            refine W.done hp (rs := [.tmp 10, .tmp 11, .tmp 12]) (vs := [.slice none 0 0, .slice none 0 0, .int .i64 12]) (v := .tuple #[.slice none 0 0, .slice none 0 0, .int .i64 12]) rfl ⟨rfl, rfl, rfl, trivial⟩ rfl ?_
            have hE : slideE ws cs l st rt = 12 := slideE_lost ⟨hsort, hnadj, hrise, hlast⟩ hq34 hq35 (by first | exact .inl ‹_› | exact .inr ‹_›)
            exact .inr ⟨by rw [hE]; decide, by rw [hE], hp.at 6 rfl⟩
          refine WL.g1 rfl rfl (Bool.eq_false_iff.2 hc39) ?_
          refine WL.run 1 rfl ?_
          refine WL.g1 rfl rfl (Bool.eq_false_iff.2 hc39) ?_
          refine WL.v (X.mkf rfl rfl) ?_
          refine WL.g1 rfl rfl (Bool.eq_false_iff.2 hc39) ?_
          refine WL.call isFn33 rfl rfl (confI_c (pr := fun a => !((slG ws cs l st) a).isSome) (hp.old hZ hZD) isFn35 (fun x w hx hc => run2_c (a := x) (hc.ext (hp.at 2 rfl)) (hc.ext (hp.at 3 rfl)) (hc.ext (hp.at 4 rfl)))) ?_
          intro v w hc hr
          obtain rfl := hr
          have hp := hp.ext hc
          refine WL.v (X.pkF rfl (Bool.eq_false_iff.2 hc39) rfl) ?_
          refine WL.fin ?_
          by_cases hc40 : rt.any (fun a => !((slG ws cs l st) a).isSome) = true
          · refine W.cT rfl hc40 ?_
            refine W.sr ?_
            refine WL.run 3 rfl ?_
            refine WL.fin ?_
            refine W.ret ?_
            refine X.thenR ?_
            refine W.done hp (rs := [.tmp 10, .tmp 11, .tmp 12]) (vs := [.slice none 0 0, .slice none 0 0, .int .i64 12]) (v := .tuple #[.slice none 0 0, .slice none 0 0, .int .i64 12]) rfl ⟨rfl, rfl, rfl, trivial⟩ rfl ?_
            have hE : slideE ws cs l st rt = 12 := slideE_lost ⟨hsort, hnadj, hrise, hlast⟩ hq34 hq35 (by first | exact .inl ‹_› | exact .inr ‹_›)
            exact .inr ⟨by rw [hE]; decide, by rw [hE], hp.at 6 rfl⟩
          refine W.cF rfl (Bool.eq_false_iff.2 hc40) ?_
          refine W.k ?_
          refine W.seq ?_
          refine W.seq ?_
          have hok : SlideOk ws cs st (slG ws cs l st) := slide_ok (table_all hT) hrise hq34 hsort hnadj hq35
          have hE := slideE_ok (rt := rt) ⟨hsort, hnadj, hrise, hlast⟩ hq34 hq35 (by assumption) (by assumption)
          refine W.reg ?_
          refine WL.run 1 rfl ?_
          refine WL.v (view_len tL34 (hp.old hY hYD) rfl) ?_
          refine WL.run 1 rfl ?_
          refine WL.fin ?_
          refine W.block ?_
          refine W.loop (X := Nat) (fun i => st.length - i) (fun i => [(4, z), (14, .pointer (some ⟨b28, 0, none⟩)), (15, q31), (70, y), (71, .int .i64 (st.length : Int)), (72, .int .i64 (i : Int))]) (fun i w => Hp w0 [p, b] [arenaR p b (movesW ws cs (slG ws cs l st) (wordsAt ws cs) (st.take i)), ownR 56 encS 3 q31 ((planR l (st.map fun a => (atT ws cs a).words)).2.2), ownR 3 encI 1 z32 (st.map fun a => (atT ws cs a).words), blkR b29 (.cells (#[.pointer (some ⟨p, 0, none⟩), .pointer (some ⟨p, 0, none⟩), .pointer (some ⟨t, 0, none⟩), y, z32, .map (some m33)]) 85 (0, 0)), mapR encN m33 (slG ws cs l st), blkR b28 (.cells (#[.pointer (some ⟨b29, 0, none⟩)]) 82 (0, 0))] w ∧ i ≤ st.length) 0 ⟨rfl, rfl, rfl, rfl, rfl, rfl, trivial⟩ ?_ ?_
          · exact ⟨(hp.sel [6, 0, 1, 2, 3, 4] (by decide)), by omega⟩
          rintro i w ⟨hp, hi⟩
          refine W.sr ?_
          refine WL.run 1 rfl ?_
          refine WL.s ?_
          by_cases hc41 : (i : Int) < (st.length : Int)
          · refine W.cT rfl (decide_eq_true hc41) ?_
            refine W.k ?_
            refine W.seq ?_
            refine W.block ?_
            refine W.seq ?_
            have hlt0 : i < st.length := by omega
            refine W.reg ?_
            refine WL.run 1 rfl ?_
            refine WL.v (X.idxV (j := i) (r := offOf y + i * 1) tL34 tS3 (hp.old hY hYD) rfl rfl (by omega) (by omega) rfl) ?_
            refine WL.v (X.ld1 tA3 rfl (view_cell (j := i) (f := 0) (hp.old hY hYD) (get_some (by omega)) rfl (by omega))) ?_
            refine WL.run 2 rfl ?_
            refine WL.fin ?_
            have hlt : i < st.length := by omega
            have hlll : (st.map fun a => (atT ws cs a).words).length = st.length := List.length_map _
            have hnw : (st.map fun a => (atT ws cs a).words).getD i default = wordsAt ws cs (st.getD i default) := getD_map' _ hlt
            have hmb := hok i hlt
            have hmo : objE (movesW ws cs (slG ws cs l st) (wordsAt ws cs) (st.take i)) cs (st.getD i default) = 0 := by unfold objE; rw [moves_obj hok hlt]; exact hmb.1
            have hsl2 := hmb.2.1
            obtain ⟨tt, htt1, htt2, htt3⟩ := hmb.2.2.1
            have hml := movesW_len (ws := ws) (cs := cs) (G := (slG ws cs l st)) (n := (wordsAt ws cs)) (st.take i)
            have hmn : 0 ≤ (st.map fun a => (atT ws cs a).words).getD i default ∧ st.getD i default + (st.map fun a => (atT ws cs a).words).getD i default ≤ (movesW ws cs (slG ws cs l st) (wordsAt ws cs) (st.take i)).length := by rw [hnw]; omega
            have hmt : 0 ≤ ((slG ws cs l st) (st.getD i default)).getD 0 ∧ ((slG ws cs l st) (st.getD i default)).getD 0 + (st.map fun a => (atT ws cs a).words).getD i default ≤ (movesW ws cs (slG ws cs l st) (wordsAt ws cs) (st.take i)).length := by rw [hnw, htt1]; simp only [Option.getD_some]; omega
            refine W.draw prog_mixed (fun w => (ownR 56 encS 3 q31 ((planR l (st.map fun a => (atT ws cs a).words)).2.2)).ok w ∧ (ownR 3 encI 1 z32 (st.map fun a => (atT ws cs a).words)).ok w ∧ (blkR b29 (.cells (#[.pointer (some ⟨p, 0, none⟩), .pointer (some ⟨p, 0, none⟩), .pointer (some ⟨t, 0, none⟩), y, z32, .map (some m33)]) 85 (0, 0))).ok w ∧ (mapR encN m33 (slG ws cs l st)).ok w ∧ (blkR b28 (.cells (#[.pointer (some ⟨b29, 0, none⟩)]) 82 (0, 0))).ok w ∧ (tableR t c cs).ok w ∧ (viewR encS 3 s l).ok w ∧ (viewR encI 1 y st).ok w ∧ (viewR encI 1 z rt).ok w ∧ True) hp ?_
            intro w hp
            refine WD.s ⟨hp.at 1 rfl, hp.at 2 rfl, hp.at 3 rfl, hp.at 4 rfl, hp.at 5 rfl, (hp.old hT hD), (hp.old hV hVD), (hp.old hY hYD), (hp.old hZ hZD), trivial⟩ fun hS0 => ?_
            refine WD.v 0 rfl hS0 (fun w hS => (X.ldk hS.2.2.2.2.1 tA82 rfl rfl)) ?_
            refine WD.v 1 rfl hS0 (fun w hS => (X.mv rfl)) ?_
            refine WD.v 2 rfl hS0 (fun w hS => (X.ldk hS.2.2.2.2.1 tA82 rfl rfl)) ?_
            refine WD.v 3 rfl hS0 (fun w hS => (X.nilc rfl)) ?_
            refine WD.v 4 rfl hS0 (fun w hS => (X.fa (r := 4) tF85_3 rfl rfl)) ?_
            refine WD.v 5 rfl hS0 (fun w hS => (X.ldk hS.2.2.1 tA34 rfl rfl)) ?_
            refine WD.v 6 rfl hS0 (fun w hS => (X.mv rfl)) ?_
            refine WD.v 7 rfl hS0 (fun w hS => (X.idxV (j := i) (r := offOf z32 + i * 1) tL34 tS3 (own_view hS.2.1) rfl rfl (by omega) (by omega) rfl)) ?_
            refine WD.v 8 rfl hS0 (fun w hS => (X.ld1 tA3 rfl (view_cell (j := i) (f := 0) (own_view hS.2.1) (get_some (by omega)) rfl (by omega)))) ?_
            refine WD.one 9 (by kernel_rfl) ?_
            refine WO.call rfl isFn37 rfl rfl (rmove_c (a := (st.getD i default)) (n := ((st.map fun a => (atT ws cs a).words).getD i default)) (hp.at 0 rfl) (hp.old hT hD) hD (hp.at 3 rfl) (hp.at 4 rfl) (foot_dis hp (i := 3) (j := 0) rfl rfl (by decide) _ (by simp [blkR])) (foot_dis hp (i := 4) (j := 0) rfl rfl (by decide) _ (by simp [mapR])) hmo hmn hmt) ?_
            intro v w hc hr
            obtain ⟨rfl, hA⟩ := hr
            have hp := hp.arena 0 rfl hc hA
            refine andS ⟨hp.at 1 rfl, hp.at 2 rfl, hp.at 3 rfl, hp.at 4 rfl, hp.at 5 rfl, (hp.old hT hD), (hp.old hV hVD), (hp.old hY hYD), (hp.old hZ hZD), trivial⟩ fun hS0 => ?_
            refine WD.nil (by kernel_rfl) ?_
            refine X.inN ?_
            refine X.thenN ?_
            refine W.reg ?_
            refine WL.v (X.add rfl rfl (in64 (by omega))) ?_
            refine WL.run 1 rfl ?_
            refine WL.nil ?_
            refine X.again (i + 1) ⟨rfl, rfl, rfl, rfl, rfl, rfl, trivial⟩ ?_ ?_
            · exact ⟨by rw [movesW_step hlt, ← hnw]; exact hp, by omega⟩
            · omega
          refine W.cF rfl (decide_eq_false hc41) ?_
          refine W.exit ?_
          refine X.thenE ?_
          refine X.thenE ?_
          refine X.inH ?_
          refine X.thenN ?_
          refine W.seq ?_
          have hti : st.take i = st := List.take_of_length_le (by omega)
          rw [hti] at hp
          have hp := hp.addNil 3 encI 1 encI_len (by omega)
          refine W.reg ?_
          refine WL.run 1 rfl ?_
          refine WL.s ?_
          refine W.sr ?_
          refine WL.run 1 rfl ?_
          refine WL.v (view_len tL34 (hp.old hZ hZD) rfl) ?_
          refine WL.run 1 rfl ?_
          refine WL.fin ?_
          refine W.block ?_
          refine W.loop (X := Nat × Value) (fun x_ => match x_ with | ⟨j, o⟩ => rt.length - j) (fun x_ => match x_ with | ⟨j, o⟩ => [(14, .pointer (some ⟨b28, 0, none⟩)), (15, q31), (19, o), (88, z), (89, .int .i64 (rt.length : Int)), (90, .int .i64 (j : Int))]) (fun x_ w => match x_ with | ⟨j, o⟩ => Hp w0 [p, b] [ownR 3 encI 1 o ((rt.take j).map fun a => ((slG ws cs l st) a).getD 0), arenaR p b (movesW ws cs (slG ws cs l st) (wordsAt ws cs) st), ownR 56 encS 3 q31 ((planR l (st.map fun a => (atT ws cs a).words)).2.2), ownR 3 encI 1 z32 (st.map fun a => (atT ws cs a).words), blkR b29 (.cells (#[.pointer (some ⟨p, 0, none⟩), .pointer (some ⟨p, 0, none⟩), .pointer (some ⟨t, 0, none⟩), y, z32, .map (some m33)]) 85 (0, 0)), mapR encN m33 (slG ws cs l st), blkR b28 (.cells (#[.pointer (some ⟨b29, 0, none⟩)]) 82 (0, 0))] w ∧ j ≤ rt.length) (0, .slice none 0 0) ⟨rfl, rfl, rfl, rfl, rfl, rfl, trivial⟩ ?_ ?_
          · exact ⟨hp, by omega⟩
          rintro ⟨j, o⟩ w ⟨hp, hj⟩
          refine W.sr ?_
          refine WL.run 1 rfl ?_
          refine WL.s ?_
          by_cases hc42 : (j : Int) < (rt.length : Int)
          · refine W.cT rfl (decide_eq_true hc42) ?_
            refine W.k ?_
            refine W.seq ?_
            refine W.block ?_
            refine W.seq ?_
            have hjl : j < rt.length := by omega
            refine W.reg ?_
            refine WL.v (X.idxV (j := j) (r := offOf z + j * 1) tL34 tS3 (hp.old hZ hZD) rfl rfl (by omega) (by omega) rfl) ?_
            refine WL.v (X.ld1 tA3 rfl (view_cell (j := j) (f := 0) (hp.old hZ hZD) (get_some (by omega)) rfl (by omega))) ?_
            refine WL.run 1 rfl ?_
            refine WL.b ?_
            refine WL.run 1 rfl ?_
            refine WL.v (X.ldk (hp.at 6 rfl) tA82 rfl rfl) ?_
            refine WL.run 2 rfl ?_
            refine WL.v (X.ldk (hp.at 4 rfl) tA83 rfl rfl) ?_
            refine WL.run 1 rfl ?_
            refine WL.v (X.lkE tM83 (tV3 _) (hp.at 5 rfl) rfl rfl (encN_lk _)) ?_
            refine WL.bsl hp (e := 3) (cs := #[.int .i64 (((slG ws cs l st) (rt.getD j default)).getD 0)]) rfl (fun _ => by kernel_rfl) rfl ?_
            intro b43 w hp
            refine WL.append hp 1 rfl tL34 (zeroT_ex tZ3) tS3 tY3 rfl rfl (view_of_blk (l := [((slG ws cs l st) (rt.getD j default)).getD 0]) hp 0 rfl encI_len (by omega) rfl (by simp) (by simp)) encI_one (by simp only [List.length_append, List.length_cons, List.length_nil, List.length_map, List.length_take]; omega) rfl ?_
            intro v44 w hp
            refine WL.run 1 rfl ?_
            refine WL.nil ?_
            refine X.inN ?_
            refine X.thenN ?_
            refine W.reg ?_
            refine WL.v (X.add rfl rfl (in64 (by omega))) ?_
            refine WL.run 1 rfl ?_
            refine WL.nil ?_
            refine X.again (j + 1, v44) ⟨rfl, rfl, rfl, rfl, rfl, rfl, trivial⟩ ?_ ?_
            · exact ⟨by rw [take_getD hjl, List.map_append, List.map_singleton]; exact (hp.sel [1, 2, 3, 4, 5, 6, 7] (by decide)), by omega⟩
            · dsimp only; omega
          refine W.cF rfl (decide_eq_false hc42) ?_
          refine W.exit ?_
          refine X.thenE ?_
          refine X.thenE ?_
          refine X.inH ?_
          refine X.thenN ?_
          refine W.sr ?_
          refine WL.run 5 rfl ?_
          refine WL.fin ?_
          refine W.ret ?_
          refine W.done hp (rs := [.tmp 10, .tmp 11, .tmp 12]) (vs := [o, q31, .int .i64 0]) (v := .tuple #[o, q31, .int .i64 0]) rfl ⟨rfl, rfl, rfl, trivial⟩ rfl ?_
          have htj : rt.take j = rt := List.take_of_length_le (by omega)
          rw [htj] at hp
          exact .inl ⟨hE, o, q31, rfl, (hp.sel [1, 0, 2] (by decide))⟩
        refine WO.alloc hp rfl tZ82 rfl ?_
        intro b45 w hp
        refine andS ⟨hp.at 1 rfl, hp.at 2 rfl, (hp.old hT hD), (hp.old hV hVD), (hp.old hY hYD), (hp.old hZ hZD), trivial⟩ fun hS0 => ?_
        refine WD.one 3 (by kernel_rfl) ?_
        refine WO.call rfl isFn18 rfl rfl on_c ?_
        intro v w hc hr
        obtain rfl := hr
        have hp := hp.ext hc
        refine andS ⟨hp.at 1 rfl, hp.at 2 rfl, (hp.old hT hD), (hp.old hV hVD), (hp.old hY hYD), (hp.old hZ hZD), trivial⟩ fun hS0 => ?_
        refine WD.v 5 rfl hS0 (fun w hS => (X.bld (v := .agg #[.pointer (some ⟨p, 0, none⟩), .pointer (some ⟨p, 0, none⟩), .pointer (some ⟨t, 0, none⟩), y, .slice none 0 0, .map none]) rfl (by (obtain ⟨_, _, _, hv_⟩ := view_form hS.2.2.2.2.1; subst hv_); kernel_rfl))) ?_
        refine WD.one 6 (by kernel_rfl) ?_
        refine WO.box hp rfl rfl (cs := #[.pointer (some ⟨p, 0, none⟩), .pointer (some ⟨p, 0, none⟩), .pointer (some ⟨t, 0, none⟩), y, .slice none 0 0, .map none]) rfl rfl ?_
        intro b46 w hp
        refine andS ⟨hp.at 2 rfl, hp.at 3 rfl, (hp.old hT hD), (hp.old hV hVD), (hp.old hY hYD), (hp.old hZ hZD), trivial⟩ fun hS0 => ?_
        refine WD.one 8 (by kernel_rfl) ?_
        refine WO.store hp 1 rfl rfl tS82 rfl rfl (vs := [.pointer (some ⟨b46, 0, none⟩)]) rfl rfl rfl (new := #[.pointer (some ⟨b46, 0, none⟩)]) rfl ?_
        intro w hp
        refine andS ⟨hp.at 2 rfl, hp.at 3 rfl, (hp.old hT hD), (hp.old hV hVD), (hp.old hY hYD), (hp.old hZ hZD), trivial⟩ fun hS0 => ?_
        refine WD.nil (by kernel_rfl) ?_
        refine X.thenN ?_
        refine W.sr ?_
        refine WL.v (X.ldk (hp.at 1 rfl) tA82 rfl rfl) ?_
        refine WL.run 1 rfl ?_
        refine WL.call isFn32 rfl rfl (rplan_c (hp.at 3 rfl) (hp.old hT hD) (hp.at 0 rfl) (hp.old hV hVD) (hp.old hY hYD) hall hl hs (foot_dis hp (i := 3) (j := 0) rfl rfl (by decide)) (hp.oldDis 0 rfl hT hD) (hp.oldDis 0 rfl hV hVD) (hp.oldDis 0 rfl hY hYD)) ?_
        intro v w hc hr
        rcases hr with ⟨hq51, rfl⟩ | ⟨al47, hq51, hq52, hq53, rfl⟩ | ⟨al47, hq51, hq52, hq53, q48, z49, m50, rfl, hN⟩
        · have hp := hp.lose hc
          refine WL.run 5 rfl ?_
          refine WL.s ?_
          refine W.sr ?_
          refine WL.run 2 rfl ?_
          refine WL.fin ?_
          refine W.cT rfl (decide_eq_true (by decide)) ?_
          refine W.sr ?_
          refine WL.run 4 rfl ?_
          refine WL.fin ?_
          refine W.ret ?_
          refine X.thenR ?_
          refine W.done hp (rs := [.tmp 10, .tmp 11, .tmp 12]) (vs := [.slice none 0 0, .slice none 0 0, .int .i64 12]) (v := .tuple #[.slice none 0 0, .slice none 0 0, .int .i64 12]) rfl ⟨rfl, rfl, rfl, trivial⟩ rfl ?_
          have hE : slideE ws cs l st rt = 12 := slideE_plan ⟨hsort, hnadj, hrise, hlast⟩ ‹_ ∨ _›
          exact .inr ⟨by rw [hE]; decide, by rw [hE], hp.at 2 rfl⟩
        · exact absurd (plan_ok (table_all hT) hrise hq51 hsort hnadj hq52).1 hq53
        have hp := Hp.back (Rs := [blkR b46 (.cells (#[.pointer (some ⟨p, 0, none⟩), .pointer (some ⟨p, 0, none⟩), .pointer (some ⟨t, 0, none⟩), y, .slice none 0 0, .map none]) 85 (0, 0))]) (Rs' := [blkR b45 (.cells (#[.pointer (some ⟨b46, 0, none⟩)]) 82 (0, 0)), blkR b1 (.cells (#[.pointer (some ⟨p, 0, none⟩)]) 29 (0, 0)), arenaR p b ws]) hp hN
        have hsG := show toG (st.zip (planR l (st.map fun a => (atT ws cs a).words)).2.1) = (slG ws cs l st) from rfl
        refine WL.run 5 rfl ?_
        refine WL.s ?_
        refine W.sr ?_
        refine WL.run 2 rfl ?_
        refine WL.fin ?_
        refine W.cF rfl (decide_eq_false (by decide)) ?_
        refine W.k ?_
        refine W.seq ?_
        refine W.seq ?_
        have hobj : ∀ x ∈ st, objE ws cs x = 0 := fun x hx => ((stay_chain (table_all hT) hrise hq51 hsort hnadj hq52).2 x hx).1
        have hp := hp.mapCongr 3 rfl (G' := (slG ws cs l st)) (fun _ => rfl)
        refine W.reg ?_
        refine WL.run 1 rfl ?_
        refine WL.v (X.ldk (hp.at 4 rfl) tA82 rfl rfl) ?_
        refine WL.v (X.mkf rfl rfl) ?_
        refine WL.call isFn33 rfl rfl (confI_c (pr := fun a => lostF ws cs (slG ws cs l st) a) (hp.old hY hYD) isFn34 (fun x w hx hc => lost_c (a := x) (hc.ext (hp.at 6 rfl)) (hc.ext (hp.old hT hD)) (hc.ext (hp.at 2 rfl)) (hc.ext (hp.at 3 rfl)) (hobj x hx))) ?_
        intro v w hc hr
        obtain rfl := hr
        have hp := hp.ext hc
        refine WL.run 1 rfl ?_
        by_cases hc56 : st.any (fun a => lostF ws cs (slG ws cs l st) a) = true
        · refine WL.g0 rfl rfl hc56 rfl ?_
          refine WL.g0 rfl rfl hc56 rfl ?_
          refine WL.g0 rfl rfl hc56 rfl ?_
          refine WL.v (X.pkT rfl hc56 rfl) ?_
          refine WL.fin ?_
          refine W.cT rfl rfl ?_
          refine W.sr ?_
          refine WL.run 3 rfl ?_
          refine WL.fin ?_
          refine W.ret ?_
          refine X.thenR ?_
          refine W.done hp (rs := [.tmp 10, .tmp 11, .tmp 12]) (vs := [.slice none 0 0, .slice none 0 0, .int .i64 12]) (v := .tuple #[.slice none 0 0, .slice none 0 0, .int .i64 12]) rfl ⟨rfl, rfl, rfl, trivial⟩ rfl ?_
          have hE : slideE ws cs l st rt = 12 := slideE_lost ⟨hsort, hnadj, hrise, hlast⟩ hq51 hq52 (by first | exact .inl ‹_› | exact .inr ‹_›)
          exact .inr ⟨by rw [hE]; decide, by rw [hE], hp.at 6 rfl⟩
        refine WL.g1 rfl rfl (Bool.eq_false_iff.2 hc56) ?_
        refine WL.run 1 rfl ?_
        refine WL.g1 rfl rfl (Bool.eq_false_iff.2 hc56) ?_
        refine WL.v (X.mkf rfl rfl) ?_
        refine WL.g1 rfl rfl (Bool.eq_false_iff.2 hc56) ?_
        refine WL.call isFn33 rfl rfl (confI_c (pr := fun a => !((slG ws cs l st) a).isSome) (hp.old hZ hZD) isFn35 (fun x w hx hc => run2_c (a := x) (hc.ext (hp.at 2 rfl)) (hc.ext (hp.at 3 rfl)) (hc.ext (hp.at 4 rfl)))) ?_
        intro v w hc hr
        obtain rfl := hr
        have hp := hp.ext hc
        refine WL.v (X.pkF rfl (Bool.eq_false_iff.2 hc56) rfl) ?_
        refine WL.fin ?_
        by_cases hc57 : rt.any (fun a => !((slG ws cs l st) a).isSome) = true
        · refine W.cT rfl hc57 ?_
          refine W.sr ?_
          refine WL.run 3 rfl ?_
          refine WL.fin ?_
          refine W.ret ?_
          refine X.thenR ?_
          refine W.done hp (rs := [.tmp 10, .tmp 11, .tmp 12]) (vs := [.slice none 0 0, .slice none 0 0, .int .i64 12]) (v := .tuple #[.slice none 0 0, .slice none 0 0, .int .i64 12]) rfl ⟨rfl, rfl, rfl, trivial⟩ rfl ?_
          have hE : slideE ws cs l st rt = 12 := slideE_lost ⟨hsort, hnadj, hrise, hlast⟩ hq51 hq52 (by first | exact .inl ‹_› | exact .inr ‹_›)
          exact .inr ⟨by rw [hE]; decide, by rw [hE], hp.at 6 rfl⟩
        refine W.cF rfl (Bool.eq_false_iff.2 hc57) ?_
        refine W.k ?_
        refine W.seq ?_
        refine W.seq ?_
        have hok : SlideOk ws cs st (slG ws cs l st) := slide_ok (table_all hT) hrise hq51 hsort hnadj hq52
        have hE := slideE_ok (rt := rt) ⟨hsort, hnadj, hrise, hlast⟩ hq51 hq52 (by assumption) (by assumption)
        refine W.reg ?_
        refine WL.run 1 rfl ?_
        refine WL.v (view_len tL34 (hp.old hY hYD) rfl) ?_
        refine WL.run 1 rfl ?_
        refine WL.fin ?_
        refine W.block ?_
        refine W.loop (X := Nat) (fun i => st.length - i) (fun i => [(4, z), (14, .pointer (some ⟨b45, 0, none⟩)), (15, q48), (70, y), (71, .int .i64 (st.length : Int)), (72, .int .i64 (i : Int))]) (fun i w => Hp w0 [p, b] [arenaR p b (movesW ws cs (slG ws cs l st) (wordsAt ws cs) (st.take i)), ownR 56 encS 3 q48 ((planR l (st.map fun a => (atT ws cs a).words)).2.2), ownR 3 encI 1 z49 (st.map fun a => (atT ws cs a).words), blkR b46 (.cells (#[.pointer (some ⟨p, 0, none⟩), .pointer (some ⟨p, 0, none⟩), .pointer (some ⟨t, 0, none⟩), y, z49, .map (some m50)]) 85 (0, 0)), mapR encN m50 (slG ws cs l st), blkR b45 (.cells (#[.pointer (some ⟨b46, 0, none⟩)]) 82 (0, 0))] w ∧ i ≤ st.length) 0 ⟨rfl, rfl, rfl, rfl, rfl, rfl, trivial⟩ ?_ ?_
        · exact ⟨(hp.sel [6, 0, 1, 2, 3, 4] (by decide)), by omega⟩
        rintro i w ⟨hp, hi⟩
        refine W.sr ?_
        refine WL.run 1 rfl ?_
        refine WL.s ?_
        by_cases hc58 : (i : Int) < (st.length : Int)
        · refine W.cT rfl (decide_eq_true hc58) ?_
          refine W.k ?_
          refine W.seq ?_
          refine W.block ?_
          refine W.seq ?_
          have hlt0 : i < st.length := by omega
          refine W.reg ?_
          refine WL.run 1 rfl ?_
          refine WL.v (X.idxV (j := i) (r := offOf y + i * 1) tL34 tS3 (hp.old hY hYD) rfl rfl (by omega) (by omega) rfl) ?_
          refine WL.v (X.ld1 tA3 rfl (view_cell (j := i) (f := 0) (hp.old hY hYD) (get_some (by omega)) rfl (by omega))) ?_
          refine WL.run 2 rfl ?_
          refine WL.fin ?_
          have hlt : i < st.length := by omega
          have hlll : (st.map fun a => (atT ws cs a).words).length = st.length := List.length_map _
          have hnw : (st.map fun a => (atT ws cs a).words).getD i default = wordsAt ws cs (st.getD i default) := getD_map' _ hlt
          have hmb := hok i hlt
          have hmo : objE (movesW ws cs (slG ws cs l st) (wordsAt ws cs) (st.take i)) cs (st.getD i default) = 0 := by unfold objE; rw [moves_obj hok hlt]; exact hmb.1
          have hsl2 := hmb.2.1
          obtain ⟨tt, htt1, htt2, htt3⟩ := hmb.2.2.1
          have hml := movesW_len (ws := ws) (cs := cs) (G := (slG ws cs l st)) (n := (wordsAt ws cs)) (st.take i)
          have hmn : 0 ≤ (st.map fun a => (atT ws cs a).words).getD i default ∧ st.getD i default + (st.map fun a => (atT ws cs a).words).getD i default ≤ (movesW ws cs (slG ws cs l st) (wordsAt ws cs) (st.take i)).length := by rw [hnw]; omega
          have hmt : 0 ≤ ((slG ws cs l st) (st.getD i default)).getD 0 ∧ ((slG ws cs l st) (st.getD i default)).getD 0 + (st.map fun a => (atT ws cs a).words).getD i default ≤ (movesW ws cs (slG ws cs l st) (wordsAt ws cs) (st.take i)).length := by rw [hnw, htt1]; simp only [Option.getD_some]; omega
          refine W.draw prog_mixed (fun w => (ownR 56 encS 3 q48 ((planR l (st.map fun a => (atT ws cs a).words)).2.2)).ok w ∧ (ownR 3 encI 1 z49 (st.map fun a => (atT ws cs a).words)).ok w ∧ (blkR b46 (.cells (#[.pointer (some ⟨p, 0, none⟩), .pointer (some ⟨p, 0, none⟩), .pointer (some ⟨t, 0, none⟩), y, z49, .map (some m50)]) 85 (0, 0))).ok w ∧ (mapR encN m50 (slG ws cs l st)).ok w ∧ (blkR b45 (.cells (#[.pointer (some ⟨b46, 0, none⟩)]) 82 (0, 0))).ok w ∧ (tableR t c cs).ok w ∧ (viewR encS 3 s l).ok w ∧ (viewR encI 1 y st).ok w ∧ (viewR encI 1 z rt).ok w ∧ True) hp ?_
          intro w hp
          refine WD.s ⟨hp.at 1 rfl, hp.at 2 rfl, hp.at 3 rfl, hp.at 4 rfl, hp.at 5 rfl, (hp.old hT hD), (hp.old hV hVD), (hp.old hY hYD), (hp.old hZ hZD), trivial⟩ fun hS0 => ?_
          refine WD.v 0 rfl hS0 (fun w hS => (X.ldk hS.2.2.2.2.1 tA82 rfl rfl)) ?_
          refine WD.v 1 rfl hS0 (fun w hS => (X.mv rfl)) ?_
          refine WD.v 2 rfl hS0 (fun w hS => (X.ldk hS.2.2.2.2.1 tA82 rfl rfl)) ?_
          refine WD.v 3 rfl hS0 (fun w hS => (X.nilc rfl)) ?_
          refine WD.v 4 rfl hS0 (fun w hS => (X.fa (r := 4) tF85_3 rfl rfl)) ?_
          refine WD.v 5 rfl hS0 (fun w hS => (X.ldk hS.2.2.1 tA34 rfl rfl)) ?_
          refine WD.v 6 rfl hS0 (fun w hS => (X.mv rfl)) ?_
          refine WD.v 7 rfl hS0 (fun w hS => (X.idxV (j := i) (r := offOf z49 + i * 1) tL34 tS3 (own_view hS.2.1) rfl rfl (by omega) (by omega) rfl)) ?_
          refine WD.v 8 rfl hS0 (fun w hS => (X.ld1 tA3 rfl (view_cell (j := i) (f := 0) (own_view hS.2.1) (get_some (by omega)) rfl (by omega)))) ?_
          refine WD.one 9 (by kernel_rfl) ?_
          refine WO.call rfl isFn37 rfl rfl (rmove_c (a := (st.getD i default)) (n := ((st.map fun a => (atT ws cs a).words).getD i default)) (hp.at 0 rfl) (hp.old hT hD) hD (hp.at 3 rfl) (hp.at 4 rfl) (foot_dis hp (i := 3) (j := 0) rfl rfl (by decide) _ (by simp [blkR])) (foot_dis hp (i := 4) (j := 0) rfl rfl (by decide) _ (by simp [mapR])) hmo hmn hmt) ?_
          intro v w hc hr
          obtain ⟨rfl, hA⟩ := hr
          have hp := hp.arena 0 rfl hc hA
          refine andS ⟨hp.at 1 rfl, hp.at 2 rfl, hp.at 3 rfl, hp.at 4 rfl, hp.at 5 rfl, (hp.old hT hD), (hp.old hV hVD), (hp.old hY hYD), (hp.old hZ hZD), trivial⟩ fun hS0 => ?_
          refine WD.nil (by kernel_rfl) ?_
          refine X.inN ?_
          refine X.thenN ?_
          refine W.reg ?_
          refine WL.v (X.add rfl rfl (in64 (by omega))) ?_
          refine WL.run 1 rfl ?_
          refine WL.nil ?_
          refine X.again (i + 1) ⟨rfl, rfl, rfl, rfl, rfl, rfl, trivial⟩ ?_ ?_
          · exact ⟨by rw [movesW_step hlt, ← hnw]; exact hp, by omega⟩
          · omega
        refine W.cF rfl (decide_eq_false hc58) ?_
        refine W.exit ?_
        refine X.thenE ?_
        refine X.thenE ?_
        refine X.inH ?_
        refine X.thenN ?_
        refine W.seq ?_
        have hti : st.take i = st := List.take_of_length_le (by omega)
        rw [hti] at hp
        have hp := hp.addNil 3 encI 1 encI_len (by omega)
        refine W.reg ?_
        refine WL.run 1 rfl ?_
        refine WL.s ?_
        refine W.sr ?_
        refine WL.run 1 rfl ?_
        refine WL.v (view_len tL34 (hp.old hZ hZD) rfl) ?_
        refine WL.run 1 rfl ?_
        refine WL.fin ?_
        refine W.block ?_
        refine W.loop (X := Nat × Value) (fun x_ => match x_ with | ⟨j, o⟩ => rt.length - j) (fun x_ => match x_ with | ⟨j, o⟩ => [(14, .pointer (some ⟨b45, 0, none⟩)), (15, q48), (19, o), (88, z), (89, .int .i64 (rt.length : Int)), (90, .int .i64 (j : Int))]) (fun x_ w => match x_ with | ⟨j, o⟩ => Hp w0 [p, b] [ownR 3 encI 1 o ((rt.take j).map fun a => ((slG ws cs l st) a).getD 0), arenaR p b (movesW ws cs (slG ws cs l st) (wordsAt ws cs) st), ownR 56 encS 3 q48 ((planR l (st.map fun a => (atT ws cs a).words)).2.2), ownR 3 encI 1 z49 (st.map fun a => (atT ws cs a).words), blkR b46 (.cells (#[.pointer (some ⟨p, 0, none⟩), .pointer (some ⟨p, 0, none⟩), .pointer (some ⟨t, 0, none⟩), y, z49, .map (some m50)]) 85 (0, 0)), mapR encN m50 (slG ws cs l st), blkR b45 (.cells (#[.pointer (some ⟨b46, 0, none⟩)]) 82 (0, 0))] w ∧ j ≤ rt.length) (0, .slice none 0 0) ⟨rfl, rfl, rfl, rfl, rfl, rfl, trivial⟩ ?_ ?_
        · exact ⟨hp, by omega⟩
        rintro ⟨j, o⟩ w ⟨hp, hj⟩
        refine W.sr ?_
        refine WL.run 1 rfl ?_
        refine WL.s ?_
        by_cases hc59 : (j : Int) < (rt.length : Int)
        · refine W.cT rfl (decide_eq_true hc59) ?_
          refine W.k ?_
          refine W.seq ?_
          refine W.block ?_
          refine W.seq ?_
          have hjl : j < rt.length := by omega
          refine W.reg ?_
          refine WL.v (X.idxV (j := j) (r := offOf z + j * 1) tL34 tS3 (hp.old hZ hZD) rfl rfl (by omega) (by omega) rfl) ?_
          refine WL.v (X.ld1 tA3 rfl (view_cell (j := j) (f := 0) (hp.old hZ hZD) (get_some (by omega)) rfl (by omega))) ?_
          refine WL.run 1 rfl ?_
          refine WL.b ?_
          refine WL.run 1 rfl ?_
          refine WL.v (X.ldk (hp.at 6 rfl) tA82 rfl rfl) ?_
          refine WL.run 2 rfl ?_
          refine WL.v (X.ldk (hp.at 4 rfl) tA83 rfl rfl) ?_
          refine WL.run 1 rfl ?_
          refine WL.v (X.lkE tM83 (tV3 _) (hp.at 5 rfl) rfl rfl (encN_lk _)) ?_
          refine WL.bsl hp (e := 3) (cs := #[.int .i64 (((slG ws cs l st) (rt.getD j default)).getD 0)]) rfl (fun _ => by kernel_rfl) rfl ?_
          intro b60 w hp
          refine WL.append hp 1 rfl tL34 (zeroT_ex tZ3) tS3 tY3 rfl rfl (view_of_blk (l := [((slG ws cs l st) (rt.getD j default)).getD 0]) hp 0 rfl encI_len (by omega) rfl (by simp) (by simp)) encI_one (by simp only [List.length_append, List.length_cons, List.length_nil, List.length_map, List.length_take]; omega) rfl ?_
          intro v61 w hp
          refine WL.run 1 rfl ?_
          refine WL.nil ?_
          refine X.inN ?_
          refine X.thenN ?_
          refine W.reg ?_
          refine WL.v (X.add rfl rfl (in64 (by omega))) ?_
          refine WL.run 1 rfl ?_
          refine WL.nil ?_
          refine X.again (j + 1, v61) ⟨rfl, rfl, rfl, rfl, rfl, rfl, trivial⟩ ?_ ?_
          · exact ⟨by rw [take_getD hjl, List.map_append, List.map_singleton]; exact (hp.sel [1, 2, 3, 4, 5, 6, 7] (by decide)), by omega⟩
          · dsimp only; omega
        refine W.cF rfl (decide_eq_false hc59) ?_
        refine W.exit ?_
        refine X.thenE ?_
        refine X.thenE ?_
        refine X.inH ?_
        refine X.thenN ?_
        refine W.sr ?_
        refine WL.run 5 rfl ?_
        refine WL.fin ?_
        refine W.ret ?_
        refine W.done hp (rs := [.tmp 10, .tmp 11, .tmp 12]) (vs := [o, q48, .int .i64 0]) (v := .tuple #[o, q48, .int .i64 0]) rfl ⟨rfl, rfl, rfl, trivial⟩ rfl ?_
        have htj : rt.take j = rt := List.take_of_length_le (by omega)
        rw [htj] at hp
        exact .inl ⟨hE, o, q48, rfl, (hp.sel [1, 0, 2] (by decide))⟩
      refine WL.g0 rfl rfl (congrArg not (decide_eq_false hc9)) rfl ?_
      refine WL.g0 rfl rfl (congrArg not (decide_eq_false hc9)) rfl ?_
      refine WL.g0 rfl rfl (congrArg not (decide_eq_false hc9)) rfl ?_
      refine WL.v (X.pkT rfl (congrArg not (decide_eq_false hc9)) rfl) ?_
      refine WL.fin ?_
      refine W.cT rfl rfl ?_
      refine W.sr ?_
      refine WL.run 3 rfl ?_
      refine WL.fin ?_
      refine W.ret ?_
      refine X.thenR ?_
      refine W.done hp (rs := [.tmp 10, .tmp 11, .tmp 12]) (vs := [.slice none 0 0, .slice none 0 0, .int .i64 1]) (v := .tuple #[.slice none 0 0, .slice none 0 0, .int .i64 1]) rfl ⟨rfl, rfl, rfl, trivial⟩ rfl ?_
      have hE : slideE ws cs l st rt = 1 := slideE_arg (fun q => by first | exact absurd q.1 ‹_› | exact absurd q.2.2.1 ‹_› | exact q.2.2.2 ‹_› | (have hz9 := hcn.2 q.2.1; omega))
      exact .inr ⟨by rw [hE]; decide, by rw [hE], hp.at 1 rfl⟩
    refine WL.g0 rfl rfl (congrArg not (Bool.eq_false_iff.2 hrise)) rfl ?_
    refine WL.g0 rfl rfl (congrArg not (Bool.eq_false_iff.2 hrise)) rfl ?_
    refine WL.v (X.pkT rfl (congrArg not (Bool.eq_false_iff.2 hrise)) rfl) ?_
    refine WL.run 1 rfl ?_
    refine WL.g0 rfl rfl rfl rfl ?_
    refine WL.g0 rfl rfl rfl rfl ?_
    refine WL.g0 rfl rfl rfl rfl ?_
    refine WL.v (X.pkT rfl rfl rfl) ?_
    refine WL.fin ?_
    refine W.cT rfl rfl ?_
    refine W.sr ?_
    refine WL.run 3 rfl ?_
    refine WL.fin ?_
    refine W.ret ?_
    refine X.thenR ?_
    refine W.done hp (rs := [.tmp 10, .tmp 11, .tmp 12]) (vs := [.slice none 0 0, .slice none 0 0, .int .i64 1]) (v := .tuple #[.slice none 0 0, .slice none 0 0, .int .i64 1]) rfl ⟨rfl, rfl, rfl, trivial⟩ rfl ?_
    have hE : slideE ws cs l st rt = 1 := slideE_arg (fun q => by first | exact absurd q.1 ‹_› | exact absurd q.2.2.1 ‹_› | exact q.2.2.2 ‹_› | (have hz9 := hcn.2 q.2.1; omega))
    exact .inr ⟨by rw [hE]; decide, by rw [hE], hp.at 1 rfl⟩
  refine WL.g0 rfl rfl (Bool.eq_false_iff.2 hsort) rfl ?_
  refine WL.g0 rfl rfl (Bool.eq_false_iff.2 hsort) rfl ?_
  refine WL.g0 rfl rfl (Bool.eq_false_iff.2 hsort) rfl ?_
  refine WL.g0 rfl rfl (Bool.eq_false_iff.2 hsort) rfl ?_
  refine WL.g0 rfl rfl (Bool.eq_false_iff.2 hsort) rfl ?_
  refine WL.g0 rfl rfl (Bool.eq_false_iff.2 hsort) rfl ?_
  refine WL.g0 rfl rfl (Bool.eq_false_iff.2 hsort) rfl ?_
  refine WL.v (X.pkF rfl (Bool.eq_false_iff.2 hsort) rfl) ?_
  refine WL.run 1 rfl ?_
  refine WL.s ?_
  refine W.sr ?_
  refine WL.run 1 rfl ?_
  refine WL.call isFn28 rfl rfl (rise_c (hp.old hV hVD)) ?_
  intro v w hc hr
  obtain rfl := hr
  have hp := hp.ext hc
  refine WL.run 2 rfl ?_
  by_cases hrise : rise l = true
  · refine WL.g1 rfl rfl (congrArg not hrise) ?_
    refine WL.run 1 rfl ?_
    refine WL.g1 rfl rfl (congrArg not hrise) ?_
    refine WL.run 1 rfl ?_
    refine WL.v (X.pkF rfl (congrArg not hrise) rfl) ?_
    refine WL.run 1 rfl ?_
    refine WL.g0 rfl rfl rfl rfl ?_
    refine WL.g0 rfl rfl rfl rfl ?_
    refine WL.g0 rfl rfl rfl rfl ?_
    refine WL.v (X.pkT rfl rfl rfl) ?_
    refine WL.fin ?_
    refine W.cT rfl rfl ?_
    refine W.sr ?_
    refine WL.run 3 rfl ?_
    refine WL.fin ?_
    refine W.ret ?_
    refine X.thenR ?_
    refine W.done hp (rs := [.tmp 10, .tmp 11, .tmp 12]) (vs := [.slice none 0 0, .slice none 0 0, .int .i64 1]) (v := .tuple #[.slice none 0 0, .slice none 0 0, .int .i64 1]) rfl ⟨rfl, rfl, rfl, trivial⟩ rfl ?_
    have hE : slideE ws cs l st rt = 1 := slideE_arg (fun q => by first | exact absurd q.1 ‹_› | exact absurd q.2.2.1 ‹_› | exact q.2.2.2 ‹_› | (have hz9 := hcn.2 q.2.1; omega))
    exact .inr ⟨by rw [hE]; decide, by rw [hE], hp.at 1 rfl⟩
  refine WL.g0 rfl rfl (congrArg not (Bool.eq_false_iff.2 hrise)) rfl ?_
  refine WL.g0 rfl rfl (congrArg not (Bool.eq_false_iff.2 hrise)) rfl ?_
  refine WL.v (X.pkT rfl (congrArg not (Bool.eq_false_iff.2 hrise)) rfl) ?_
  refine WL.run 1 rfl ?_
  refine WL.g0 rfl rfl rfl rfl ?_
  refine WL.g0 rfl rfl rfl rfl ?_
  refine WL.g0 rfl rfl rfl rfl ?_
  refine WL.v (X.pkT rfl rfl rfl) ?_
  refine WL.fin ?_
  refine W.cT rfl rfl ?_
  refine W.sr ?_
  refine WL.run 3 rfl ?_
  refine WL.fin ?_
  refine W.ret ?_
  refine X.thenR ?_
  refine W.done hp (rs := [.tmp 10, .tmp 11, .tmp 12]) (vs := [.slice none 0 0, .slice none 0 0, .int .i64 1]) (v := .tuple #[.slice none 0 0, .slice none 0 0, .int .i64 1]) rfl ⟨rfl, rfl, rfl, trivial⟩ rfl ?_
  have hE : slideE ws cs l st rt = 1 := slideE_arg (fun q => by first | exact absurd q.1 ‹_› | exact absurd q.2.2.1 ‹_› | exact q.2.2.2 ‹_› | (have hz9 := hcn.2 q.2.1; omega))
  exact .inr ⟨by rw [hE]; decide, by rw [hE], hp.at 1 rfl⟩
end Go.Proofs.YtmmmbkmjkpfleaaGreat
