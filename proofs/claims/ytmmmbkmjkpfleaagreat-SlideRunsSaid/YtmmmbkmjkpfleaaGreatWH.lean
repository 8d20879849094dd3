/- Walks, printed by gen.py from the specs H: what each function answers. No statement of the seat is proved here; conditions: each theorem's own. -/
import Derived.Test.YtmmmbkmjkpfleaaGreatPureI
import Derived.Test.YtmmmbkmjkpfleaaGreatWG
namespace Go.Proofs.YtmmmbkmjkpfleaaGreat
open Go Go.RowKit

theorem awake_c {w0 : World}  :
    Calls Tryz.prog 5 #[] w0 (Ret [] w0 (fun v _ => v = .bool true)) := by
  have hp : Hp w0 [] [] w0 := Hp.init w0
  refine enter (vs := []) Tryz.func5 rfl rfl rfl ?_
  refine gen_world hp ?_
  intro w hp
  refine W.sr ?_
  refine WL.run 1 rfl ?_
  refine WL.s ?_
  have hpl : (planR ([(⟨1, 1, 8⟩ : Spc), (⟨8, 9, 20⟩ : Spc)]) ([5, 5])) = (0, [(1 : Int), 8], [(⟨1, 6, 8⟩ : Spc), (⟨8, 13, 20⟩ : Spc)]) := by decide
  refine W.reg ?_
  refine WL.v (X.bld (v := .agg #[.int .i64 1, .int .i64 1, .int .i64 8]) rfl (by kernel_rfl)) ?_
  refine WL.v (X.bld (v := .agg #[.int .i64 8, .int .i64 9, .int .i64 20]) rfl (by kernel_rfl)) ?_
  refine WL.bsl hp (e := 56) (cs := #[.int .i64 1, .int .i64 1, .int .i64 8, .int .i64 8, .int .i64 9, .int .i64 20]) rfl (fun _ => by kernel_rfl) rfl ?_
  intro b1 w hp
  refine WL.bsl hp (e := 3) (cs := #[.int .i64 5, .int .i64 5]) rfl (fun _ => by kernel_rfl) rfl ?_
  intro b2 w hp
  refine WL.call isFn24 rfl rfl (plan_c (view_of_blk (l := [(⟨1, 1, 8⟩ : Spc), (⟨8, 9, 20⟩ : Spc)]) hp 1 rfl encS_len (by omega) rfl (by simp) (by simp)) (view_of_blk (l := [5, 5]) hp 0 rfl encI_len (by omega) rfl (by simp) (by simp)) (by first | ((try simp only [List.length_map]); omega) | decide) (by first | ((try simp only [List.length_map]); omega) | decide)) ?_
  intro v w hc hr
  rcases hr with ⟨hq3, o4, q5, rfl, hN⟩ | ⟨hq3, rfl⟩
  · have hp := hp.adds hN
    refine WL.run 7 rfl ?_
    refine WL.s ?_
    rw [hpl] at hp
    dsimp only at hp
    refine W.reg ?_
    refine WL.run 3 rfl ?_
    refine WL.g1 rfl rfl (decide_eq_true (by decide)) ?_
    refine WL.run 1 rfl ?_
    refine WL.g1 rfl rfl (decide_eq_true (by decide)) ?_
    refine WL.v (view_len tL34 (own_view (hp.at 0 rfl)) rfl) ?_
    refine WL.g1 rfl rfl (decide_eq_true (by decide)) ?_
    refine WL.run 1 rfl ?_
    refine WL.v (X.pkT rfl (decide_eq_true (by decide)) rfl) ?_
    refine WL.run 1 rfl ?_
    by_cases hc7 : (([(1 : Int), 8]).length : Int) = 2
    · refine WL.g1 rfl rfl (decide_eq_true hc7) ?_
      refine WL.run 1 rfl ?_
      refine WL.g1 rfl rfl (decide_eq_true hc7) ?_
      refine WL.v (X.idxV (j := 0) (r := offOf o4 + 0 * 1) tL34 tS3 (own_view (hp.at 0 rfl)) rfl rfl (by omega) (by decide) rfl) ?_
      refine WL.g1 rfl rfl (decide_eq_true hc7) ?_
      refine WL.v (X.ld1 tA3 rfl (view_cell (j := 0) (f := 0) (own_view (hp.at 0 rfl)) (get_some (by decide)) rfl (by omega))) ?_
      refine WL.g1 rfl rfl (decide_eq_true hc7) ?_
      refine WL.run 1 rfl ?_
      refine WL.v (X.pkT rfl (decide_eq_true hc7) rfl) ?_
      refine WL.run 1 rfl ?_
      by_cases hc8 : (([(1 : Int), 8]).getD 0 default) = 1
      · refine WL.g1 rfl rfl (decide_eq_true hc8) ?_
        refine WL.run 1 rfl ?_
        refine WL.g1 rfl rfl (decide_eq_true hc8) ?_
        refine WL.v (X.idxV (j := 1) (r := offOf o4 + 1 * 1) tL34 tS3 (own_view (hp.at 0 rfl)) rfl rfl (by omega) (by decide) rfl) ?_
        refine WL.g1 rfl rfl (decide_eq_true hc8) ?_
        refine WL.v (X.ld1 tA3 rfl (view_cell (j := 1) (f := 0) (own_view (hp.at 0 rfl)) (get_some (by decide)) rfl (by omega))) ?_
        refine WL.g1 rfl rfl (decide_eq_true hc8) ?_
        refine WL.run 1 rfl ?_
        refine WL.v (X.pkT rfl (decide_eq_true hc8) rfl) ?_
        refine WL.run 1 rfl ?_
        by_cases hc9 : (([(1 : Int), 8]).getD 1 default) = 8
        · refine WL.g1 rfl rfl (decide_eq_true hc9) ?_
          refine WL.run 1 rfl ?_
          refine WL.g1 rfl rfl (decide_eq_true hc9) ?_
          refine WL.v (view_len tL33 (own_view (hp.at 1 rfl)) rfl) ?_
          refine WL.g1 rfl rfl (decide_eq_true hc9) ?_
          refine WL.run 1 rfl ?_
          refine WL.v (X.pkT rfl (decide_eq_true hc9) rfl) ?_
          refine WL.run 1 rfl ?_
          by_cases hc10 : (([(⟨1, 6, 8⟩ : Spc), (⟨8, 13, 20⟩ : Spc)]).length : Int) = 2
          · refine WL.g1 rfl rfl (decide_eq_true hc10) ?_
            refine WL.run 1 rfl ?_
            refine WL.g1 rfl rfl (decide_eq_true hc10) ?_
            refine WL.v (X.idxV (j := 1) (r := offOf q5 + 1 * 3) tL33 tS56 (own_view (hp.at 1 rfl)) rfl rfl (by omega) (by decide) rfl) ?_
            refine WL.g1 rfl rfl (decide_eq_true hc10) ?_
            refine WL.run 1 rfl ?_
            refine WL.g1 rfl rfl (decide_eq_true hc10) ?_
            refine WL.v (X.ld1 tA3 rfl (view_cell (j := 1) (f := 1) (own_view (hp.at 1 rfl)) (get_some (by decide)) rfl (by omega))) ?_
            refine WL.g1 rfl rfl (decide_eq_true hc10) ?_
            refine WL.run 1 rfl ?_
            refine WL.v (X.pkT rfl (decide_eq_true hc10) rfl) ?_
            refine WL.run 1 rfl ?_
            refine WL.fin ?_
            refine W.ret ?_
            refine W.done hp (rs := [.tmp 0]) (vs := [.bool (decide (((([(⟨1, 6, 8⟩ : Spc), (⟨8, 13, 20⟩ : Spc)]).getD 1 default).top) = 13))]) (v := .bool (decide (((([(⟨1, 6, 8⟩ : Spc), (⟨8, 13, 20⟩ : Spc)]).getD 1 default).top) = 13))) rfl ⟨rfl, trivial⟩ rfl ?_
            first | exact rfl | exact absurd rfl (‹¬ _ = _›) | exact absurd (by decide) (‹¬ _ = _›)
          refine WL.g0 rfl rfl (decide_eq_false hc10) rfl ?_
          refine WL.g0 rfl rfl (decide_eq_false hc10) rfl ?_
          refine WL.g0 rfl rfl (decide_eq_false hc10) rfl ?_
          refine WL.g0 rfl rfl (decide_eq_false hc10) rfl ?_
          refine WL.g0 rfl rfl (decide_eq_false hc10) rfl ?_
          refine WL.v (X.pkF rfl (decide_eq_false hc10) rfl) ?_
          refine WL.run 1 rfl ?_
          refine WL.fin ?_
          refine W.ret ?_
          refine W.done hp (rs := [.tmp 0]) (vs := [.bool false]) (v := .bool false) rfl ⟨rfl, trivial⟩ rfl ?_
          first | exact rfl | exact absurd rfl (‹¬ _ = _›) | exact absurd (by decide) (‹¬ _ = _›)
        refine WL.g0 rfl rfl (decide_eq_false hc9) rfl ?_
        refine WL.g0 rfl rfl (decide_eq_false hc9) rfl ?_
        refine WL.g0 rfl rfl (decide_eq_false hc9) rfl ?_
        refine WL.v (X.pkF rfl (decide_eq_false hc9) rfl) ?_
        refine WL.run 1 rfl ?_
        refine WL.g0 rfl rfl rfl rfl ?_
        refine WL.g0 rfl rfl rfl rfl ?_
        refine WL.g0 rfl rfl rfl rfl ?_
        refine WL.g0 rfl rfl rfl rfl ?_
        refine WL.g0 rfl rfl rfl rfl ?_
        refine WL.v (X.pkF rfl rfl rfl) ?_
        refine WL.run 1 rfl ?_
        refine WL.fin ?_
        refine W.ret ?_
        refine W.done hp (rs := [.tmp 0]) (vs := [.bool false]) (v := .bool false) rfl ⟨rfl, trivial⟩ rfl ?_
        first | exact rfl | exact absurd rfl (‹¬ _ = _›) | exact absurd (by decide) (‹¬ _ = _›)
      refine WL.g0 rfl rfl (decide_eq_false hc8) rfl ?_
      refine WL.g0 rfl rfl (decide_eq_false hc8) rfl ?_
      refine WL.g0 rfl rfl (decide_eq_false hc8) rfl ?_
      refine WL.g0 rfl rfl (decide_eq_false hc8) rfl ?_
      refine WL.v (X.pkF rfl (decide_eq_false hc8) rfl) ?_
      refine WL.run 1 rfl ?_
      refine WL.g0 rfl rfl rfl rfl ?_
      refine WL.g0 rfl rfl rfl rfl ?_
      refine WL.g0 rfl rfl rfl rfl ?_
      refine WL.v (X.pkF rfl rfl rfl) ?_
      refine WL.run 1 rfl ?_
      refine WL.g0 rfl rfl rfl rfl ?_
      refine WL.g0 rfl rfl rfl rfl ?_
      refine WL.g0 rfl rfl rfl rfl ?_
      refine WL.g0 rfl rfl rfl rfl ?_
      refine WL.g0 rfl rfl rfl rfl ?_
      refine WL.v (X.pkF rfl rfl rfl) ?_
      refine WL.run 1 rfl ?_
      refine WL.fin ?_
      refine W.ret ?_
      refine W.done hp (rs := [.tmp 0]) (vs := [.bool false]) (v := .bool false) rfl ⟨rfl, trivial⟩ rfl ?_
      first | exact rfl | exact absurd rfl (‹¬ _ = _›) | exact absurd (by decide) (‹¬ _ = _›)
    refine WL.g0 rfl rfl (decide_eq_false hc7) rfl ?_
    refine WL.g0 rfl rfl (decide_eq_false hc7) rfl ?_
    refine WL.g0 rfl rfl (decide_eq_false hc7) rfl ?_
    refine WL.g0 rfl rfl (decide_eq_false hc7) rfl ?_
    refine WL.v (X.pkF rfl (decide_eq_false hc7) rfl) ?_
    refine WL.run 1 rfl ?_
    refine WL.g0 rfl rfl rfl rfl ?_
    refine WL.g0 rfl rfl rfl rfl ?_
    refine WL.g0 rfl rfl rfl rfl ?_
    refine WL.g0 rfl rfl rfl rfl ?_
    refine WL.v (X.pkF rfl rfl rfl) ?_
    refine WL.run 1 rfl ?_
    refine WL.g0 rfl rfl rfl rfl ?_
    refine WL.g0 rfl rfl rfl rfl ?_
    refine WL.g0 rfl rfl rfl rfl ?_
    refine WL.v (X.pkF rfl rfl rfl) ?_
    refine WL.run 1 rfl ?_
    refine WL.g0 rfl rfl rfl rfl ?_
    refine WL.g0 rfl rfl rfl rfl ?_
    refine WL.g0 rfl rfl rfl rfl ?_
    refine WL.g0 rfl rfl rfl rfl ?_
    refine WL.g0 rfl rfl rfl rfl ?_
    refine WL.v (X.pkF rfl rfl rfl) ?_
    refine WL.run 1 rfl ?_
    refine WL.fin ?_
    refine W.ret ?_
    refine W.done hp (rs := [.tmp 0]) (vs := [.bool false]) (v := .bool false) rfl ⟨rfl, trivial⟩ rfl ?_
    first | exact rfl | exact absurd rfl (‹¬ _ = _›) | exact absurd (by decide) (‹¬ _ = _›)
  (try simp only [fillW_length, moveW_length, List.length_set] at hq3); first | contradiction | (exfalso; omega) | (exfalso; simp_all; done)

theorem lstore_c {w0 : World} {p b t x : Nat} {sp at_ sy rt cv : Value} {ws : List Int} {cs : List Cls} (hA : (arenaR p b ws).ok w0) (hX : (blkR x (.cells (#[.pointer (some ⟨p, 0, none⟩), .pointer (some ⟨t, 0, none⟩), .pointer (some ⟨p, 0, none⟩), .pointer (some ⟨t, 0, none⟩), sp, at_, sy, rt, cv]) 36 (0, 0))).ok w0)  (hC : (viewR clsV 4 cv cs).ok w0) (hlen : ws.length = 500) :
    Calls Tryz.prog 6 #[.pointer (some ⟨x, 0, none⟩)] w0 (Ret [] w0 (fun v w => ∃ q wv, v = .agg #[.pointer (some ⟨q, 0, none⟩), cv] ∧ Hp w0 [] [blkR q (.cells #[wv] 59 (0, 0)), ownR 3 encI 1 wv ws] w)) := by
  have hp : Hp w0 [] [] w0 := Hp.init w0
  refine enter (vs := [.pointer (some ⟨x, 0, none⟩)]) Tryz.func6 rfl rfl rfl ?_
  refine gen_world hp ?_
  intro w hp
  refine W.sr ?_
  refine WL.alloc hp tZ42 rfl ?_
  intro b1 w hp
  refine WL.a ?_
  refine WL.run 3 rfl ?_
  refine WL.v (X.ldk (hp.old0 hX) tA29 rfl rfl) ?_
  refine WL.call isFn12 rfl rfl (words_c (a := 0) (k := 500) (hp.old0 hA)) ?_
  intro v w hc hr
  rcases hr with ⟨hw2, hw3, hw4, s6, rfl, hN⟩ | ⟨hw5, rfl⟩
  · have hp := hp.newN hc hN
    refine WL.run 5 rfl ?_
    refine WL.a ?_
    refine WL.run 1 rfl ?_
    refine WL.v (X.bld (v := .agg #[s6]) rfl (by (obtain ⟨_, _, _, hv_⟩ := view_form (own_view (hp.at 0 rfl)); subst hv_); kernel_rfl)) ?_
    refine WL.box hp rfl (cs := #[s6]) rfl rfl ?_
    intro b7 w hp
    refine WL.run 3 rfl ?_
    refine WL.v (X.ldk (hp.old0 hX) tA22 rfl rfl) ?_
    refine WL.v (X.bld (v := .agg #[.pointer (some ⟨b7, 0, none⟩), cv]) rfl (by (obtain ⟨_, _, _, hv_⟩ := view_form (hp.old0 hC); subst hv_); kernel_rfl)) ?_
    refine WL.store hp 2 rfl tS42 rfl rfl (vs := [.pointer (some ⟨b7, 0, none⟩), cv]) rfl (by first | (simp only [List.all_cons, List.all_nil, Bool.and_true, view_one (hp.old0 hC)]; done) | (simp only [List.all_cons, List.all_nil, Bool.and_true, one_int, one_bool, one_ptr, one_map, one_sl, view_one (hp.old0 hC)]; done) | simp [Value.oneCell', view_one (hp.old0 hC)]) rfl (new := #[.pointer (some ⟨b7, 0, none⟩), cv]) rfl ?_
    intro w hp
    refine WL.fin ?_
    refine W.ret ?_
    refine W.done hp (rs := [.cell 2 42]) (vs := [.agg #[.pointer (some ⟨b7, 0, none⟩), cv]]) (v := .agg #[.pointer (some ⟨b7, 0, none⟩), cv]) rfl ⟨⟨_, rfl, run_loadVarB hp 2 rfl tA42 tS42 (vs := [.pointer (some ⟨b7, 0, none⟩), cv]) rfl⟩, trivial⟩ rfl ?_
    have hws : (ws.drop (0 : Int).toNat).take (500 : Int).toNat = ws := by rw [show (0 : Int).toNat = 0 from rfl, List.drop_zero, List.take_of_length_le (by omega)]
    rw [hws] at hp
    exact ⟨_, _, rfl, (hp.sel [0, 1] (by decide))⟩
  (try simp only [fillW_length, moveW_length, List.length_set] at hw5); first | contradiction | (exfalso; omega) | (exfalso; simp_all; done)
end Go.Proofs.YtmmmbkmjkpfleaaGreat
