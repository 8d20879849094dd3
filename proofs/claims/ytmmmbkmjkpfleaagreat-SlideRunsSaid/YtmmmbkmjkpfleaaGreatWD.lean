/- Walks, printed by gen.py from the specs D: what each function answers. No statement of the seat is proved here; conditions: each theorem's own. -/
import Derived.Test.YtmmmbkmjkpfleaaGreatPureD
import Derived.Test.YtmmmbkmjkpfleaaGreatResD
import Derived.Test.YtmmmbkmjkpfleaaGreatTypesM
import Derived.Test.YtmmmbkmjkpfleaaGreatWC
namespace Go.Proofs.YtmmmbkmjkpfleaaGreat
open Go Go.RowKit

theorem rise_c {w0 : World} {s : Value} {l : List Spc} (hV : (viewR encS 3 s l).ok w0)  :
    Calls Tryz.prog 28 #[s] w0 (Ret [] w0 (fun v _ => v = .bool (rise l))) := by
  have hp : Hp w0 [] [] w0 := Hp.init w0
  have hle := view_len_le hV
  refine enter (vs := [s]) Tryz.func28 rfl rfl rfl ?_
  refine gen_world hp ?_
  intro w hp
  refine W.sr ?_
  refine WL.run 1 rfl ?_
  refine WL.a ?_
  refine WL.run 1 rfl ?_
  refine WL.s ?_
  refine W.sr ?_
  refine WL.run 1 rfl ?_
  refine WL.v (view_len tL33 (hp.old0 hV) rfl) ?_
  refine WL.run 1 rfl ?_
  refine WL.fin ?_
  refine W.block ?_
  refine W.loop (X := Nat × Int) (fun x_ => match x_ with | ⟨i, e⟩ => l.length - i) (fun x_ => match x_ with | ⟨i, e⟩ => [(3, .int .i64 e), (6, s), (7, .int .i64 (l.length : Int)), (8, .int .i64 (i : Int))]) (fun x_ w => match x_ with | ⟨i, e⟩ => Hp w0 [] [] w ∧ i ≤ l.length ∧ rise l = riseF e (l.drop i)) (0, 1) ⟨rfl, rfl, rfl, rfl, trivial⟩ ?_ ?_
  · exact ⟨hp, by omega, rfl⟩
  rintro ⟨i, e⟩ w ⟨hp, hi, hr⟩
  refine W.sr ?_
  refine WL.run 1 rfl ?_
  refine WL.s ?_
  by_cases hc1 : (i : Int) < (l.length : Int)
  · refine W.cT rfl (decide_eq_true hc1) ?_
    refine W.k ?_
    refine W.seq ?_
    refine W.block ?_
    refine W.seq ?_
    have hlt : i < l.length := by omega
    refine W.reg ?_
    refine WL.v (X.idxV (j := i) (r := offOf s + i * 3) tL33 tS56 (hp.old0 hV) rfl rfl (by omega) (by omega) rfl) ?_
    refine WL.v (X.ldA tA56 tS56 rfl (cs := [.int .i64 ((l.getD i default).from_), .int .i64 ((l.getD i default).top), .int .i64 ((l.getD i default).end_)]) (view_cells (hp.old0 hV) (get_some (by omega)) (by omega))) ?_
    refine WL.alloc hp tZ56 rfl ?_
    intro b2 w hp
    refine WL.store hp 0 rfl tS56 rfl rfl (vs := [.int .i64 ((l.getD i default).from_), .int .i64 ((l.getD i default).top), .int .i64 ((l.getD i default).end_)]) rfl rfl rfl (new := #[.int .i64 ((l.getD i default).from_), .int .i64 ((l.getD i default).top), .int .i64 ((l.getD i default).end_)]) rfl ?_
    intro w hp
    refine WL.s ?_
    refine W.sr ?_
    refine WL.v (X.ldkA (hp.at 0 rfl) tA56 tS56 (vs := [.int .i64 ((l.getD i default).from_), .int .i64 ((l.getD i default).top), .int .i64 ((l.getD i default).end_)]) rfl rfl) ?_
    refine WL.call isFn48 rfl rfl (spRight_c (s := (l.getD i default))) ?_
    intro v w hc hr
    obtain rfl := hr
    have hp := hp.ext hc
    refine WL.run 2 rfl ?_
    by_cases hc3 : spR (l.getD i default) = true
    · have hc3_ := spR_t hc3
      refine WL.g1 rfl rfl (congrArg not hc3) ?_
      refine WL.run 1 rfl ?_
      refine WL.g1 rfl rfl (congrArg not hc3) ?_
      refine WL.v (X.ldk (hp.at 0 rfl) tA3 rfl rfl) ?_
      refine WL.g1 rfl rfl (congrArg not hc3) ?_
      refine WL.run 1 rfl ?_
      refine WL.g1 rfl rfl (congrArg not hc3) ?_
      refine WL.run 1 rfl ?_
      refine WL.v (X.pkF rfl (congrArg not hc3) rfl) ?_
      refine WL.fin ?_
      by_cases hc4 : ((l.getD i default).from_) < e
      · refine W.cT rfl (decide_eq_true hc4) ?_
        refine W.sr ?_
        refine WL.run 1 rfl ?_
        refine WL.fin ?_
        refine W.ret ?_
        refine X.thenR ?_
        refine X.inR ?_
        refine X.thenR ?_
        refine X.thenR ?_
        refine X.inR ?_
        refine X.thenR ?_
        refine W.done hp (rs := [.tmp 2]) (vs := [.bool false]) (v := .bool false) rfl ⟨rfl, trivial⟩ rfl ?_
        first | (rw [hr, riseF_no hlt (fun q => by first | exact absurd q.1 ‹_› | exact q.2 ‹_›)]) | (rw [hr, List.drop_eq_nil_of_le (by omega)]; rfl)
      refine W.cF rfl (decide_eq_false hc4) ?_
      refine W.kr ?_
      refine WL.run 1 rfl ?_
      refine WL.v (X.ldk (hp.at 0 rfl) tA3 rfl rfl) ?_
      refine WL.run 1 rfl ?_
      refine WL.nil ?_
      refine X.inN ?_
      refine X.thenN ?_
      refine W.reg ?_
      refine WL.v (X.add rfl rfl (in64 (by omega))) ?_
      refine WL.run 1 rfl ?_
      refine WL.nil ?_
      refine X.again (i + 1, (l.getD i default).end_) ⟨rfl, rfl, rfl, rfl, trivial⟩ ?_ ?_
      · exact ⟨(hp.sel [] (by decide)), by omega, by rw [hr, riseF_step hlt (by assumption) (by assumption)]⟩
      · dsimp only; omega
    have hc3_ := spR_f hc3
    refine WL.g0 rfl rfl (congrArg not (Bool.eq_false_iff.2 hc3)) rfl ?_
    refine WL.g0 rfl rfl (congrArg not (Bool.eq_false_iff.2 hc3)) rfl ?_
    refine WL.g0 rfl rfl (congrArg not (Bool.eq_false_iff.2 hc3)) rfl ?_
    refine WL.g0 rfl rfl (congrArg not (Bool.eq_false_iff.2 hc3)) rfl ?_
    refine WL.v (X.pkT rfl (congrArg not (Bool.eq_false_iff.2 hc3)) rfl) ?_
    refine WL.fin ?_
    refine W.cT rfl rfl ?_
    refine W.sr ?_
    refine WL.run 1 rfl ?_
    refine WL.fin ?_
    refine W.ret ?_
    refine X.thenR ?_
    refine X.inR ?_
    refine X.thenR ?_
    refine X.thenR ?_
    refine X.inR ?_
    refine X.thenR ?_
    refine W.done hp (rs := [.tmp 2]) (vs := [.bool false]) (v := .bool false) rfl ⟨rfl, trivial⟩ rfl ?_
    first | (rw [hr, riseF_no hlt (fun q => by first | exact absurd q.1 ‹_› | exact q.2 ‹_›)]) | (rw [hr, List.drop_eq_nil_of_le (by omega)]; rfl)
  refine W.cF rfl (decide_eq_false hc1) ?_
  refine W.exit ?_
  refine X.thenE ?_
  refine X.thenE ?_
  refine X.inH ?_
  refine X.thenN ?_
  refine W.sr ?_
  refine WL.run 1 rfl ?_
  refine WL.fin ?_
  refine W.ret ?_
  refine W.done hp (rs := [.tmp 2]) (vs := [.bool true]) (v := .bool true) rfl ⟨rfl, trivial⟩ rfl ?_
  first | (rw [hr, riseF_no hlt (fun q => by first | exact absurd q.1 ‹_› | exact q.2 ‹_›)]) | (rw [hr, List.drop_eq_nil_of_le (by omega)]; rfl)

theorem plan1_c {w0 : World} {n : Int} :
    Calls Tryz.prog 66 #[.int .i64 n] w0 (Ret [] w0 (fun v _ => v = .bool (decide (n < 1)))) := by
  have hp : Hp w0 [] [] w0 := Hp.init w0
  refine enter (vs := [.int .i64 n]) Tryz.func66 rfl rfl rfl ?_
  refine gen_world hp ?_
  intro w hp
  refine W.sr ?_
  refine WL.run 1 rfl ?_
  refine WL.a ?_
  refine WL.run 3 rfl ?_
  refine WL.fin ?_
  refine W.ret ?_
  refine W.done hp (rs := [.tmp 2]) (vs := [.bool (decide (n < 1))]) (v := .bool (decide (n < 1))) rfl ⟨rfl, trivial⟩ rfl ?_
  exact rfl

theorem plan_c {w0 : World} {s z : Value} {l : List Spc} {sz : List Int} (hV : (viewR encS 3 s l).ok w0) (hZ : (viewR encI 1 z sz).ok w0) (hl : l.length * 32 ≤ 140737488355328) (hs : sz.length * 32 ≤ 140737488355328) :
    Calls Tryz.prog 24 #[s, z] w0 (Ret [] w0 (fun v w => ((planR l sz).1 = 0 ∧ ∃ o q, v = .tuple #[o, q, .int .i64 0] ∧ Hp w0 [] [ownR 3 encI 1 o (planR l sz).2.1, ownR 56 encS 3 q (planR l sz).2.2] w) ∨ ((planR l sz).1 ≠ 0 ∧ v = .tuple #[.slice none 0 0, .slice none 0 0, .int .i64 (planR l sz).1]))) := by
  have hp : Hp w0 [] [] w0 := Hp.init w0
  refine enter (vs := [s, z]) Tryz.func24 rfl rfl rfl ?_
  refine gen_world hp ?_
  intro w hp
  refine W.sr ?_
  refine WL.run 3 rfl ?_
  refine WL.fin ?_
  refine W.scopeS ?_
  refine W.seq ?_
  refine W.sr ?_
  refine WL.run 1 rfl ?_
  refine WL.call isFn28 rfl rfl (rise_c (hp.old0 hV)) ?_
  intro v w hc hr
  obtain rfl := hr
  have hp := hp.ext hc
  refine WL.run 2 rfl ?_
  by_cases hrise : rise l = true
  · refine WL.g1 rfl rfl (congrArg not hrise) ?_
    refine WL.run 1 rfl ?_
    refine WL.g1 rfl rfl (congrArg not hrise) ?_
    refine WL.call isFn33 rfl rfl (confI_c (pr := fun n => decide (n < 1)) (hp.old0 hZ) isFn66 (fun x w hx hc => plan1_c (n := x))) ?_
    intro v w hc hr
    obtain rfl := hr
    have hp := hp.ext hc
    refine WL.v (X.pkF rfl (congrArg not hrise) rfl) ?_
    refine WL.fin ?_
    by_cases hany : sz.any (fun n => decide (n < 1)) = true
    · refine W.cT rfl hany ?_
      refine W.sr ?_
      refine WL.run 3 rfl ?_
      refine WL.fin ?_
      refine W.ret ?_
      refine X.thenR ?_
      refine X.ngR ?_
      refine W.done hp (rs := [.tmp 4, .tmp 5, .tmp 6]) (vs := [.slice none 0 0, .slice none 0 0, .int .i64 1]) (v := .tuple #[.slice none 0 0, .slice none 0 0, .int .i64 1]) rfl ⟨rfl, rfl, rfl, trivial⟩ rfl ?_
      first | (have hb := planR_bad (.inl ‹¬ rise l = true› : ¬ rise l = true ∨ sz.any (fun n => decide (n < 1)) = true); exact .inr ⟨by rw [hb]; decide, by rw [hb]⟩) | (have hb := planR_bad (l := l) (.inr ‹sz.any (fun n => decide (n < 1)) = true›); exact .inr ⟨by rw [hb]; decide, by rw [hb]⟩)
    refine W.cF rfl (Bool.eq_false_iff.2 hany) ?_
    refine W.ks ?_
    refine WL.run 1 rfl ?_
    refine WL.s ?_
    refine W.seq ?_
    have hp := hp.addNil 56 encS 3 encS_len (by omega)
    refine W.reg ?_
    refine WL.run 1 rfl ?_
    refine WL.v (view_len tL33 (hp.old0 hV) rfl) ?_
    refine WL.run 1 rfl ?_
    refine WL.fin ?_
    refine W.block ?_
    refine W.loop (X := Nat × Value) (fun x_ => match x_ with | ⟨i, v⟩ => l.length - i) (fun x_ => match x_ with | ⟨i, v⟩ => [(1, z), (7, v), (24, s), (25, .int .i64 (l.length : Int)), (26, .int .i64 (i : Int))]) (fun x_ w => match x_ with | ⟨i, v⟩ => Hp w0 [] [ownR 56 encS 3 v ((l.take i).map spEmpty)] w ∧ i ≤ l.length) (0, .slice none 0 0) ⟨rfl, rfl, rfl, rfl, rfl, trivial⟩ ?_ ?_
    · exact ⟨hp, by omega⟩
    rintro ⟨i, v⟩ w ⟨hp, hi⟩
    refine W.sr ?_
    refine WL.run 1 rfl ?_
    refine WL.s ?_
    by_cases hc3 : (i : Int) < (l.length : Int)
    · refine W.cT rfl (decide_eq_true hc3) ?_
      refine W.k ?_
      refine W.seq ?_
      refine W.block ?_
      refine W.seq ?_
      have hlt : i < l.length := by omega
      refine W.reg ?_
      refine WL.v (X.idxV (j := i) (r := offOf s + i * 3) tL33 tS56 (hp.old0 hV) rfl rfl (by omega) (by omega) rfl) ?_
      refine WL.v (X.ldA tA56 tS56 rfl (cs := [.int .i64 ((l.getD i default).from_), .int .i64 ((l.getD i default).top), .int .i64 ((l.getD i default).end_)]) (view_cells (hp.old0 hV) (get_some (by omega)) (by omega))) ?_
      refine WL.alloc hp tZ56 rfl ?_
      intro b4 w hp
      refine WL.store hp 0 rfl tS56 rfl rfl (vs := [.int .i64 ((l.getD i default).from_), .int .i64 ((l.getD i default).top), .int .i64 ((l.getD i default).end_)]) rfl rfl rfl (new := #[.int .i64 ((l.getD i default).from_), .int .i64 ((l.getD i default).top), .int .i64 ((l.getD i default).end_)]) rfl ?_
      intro w hp
      refine WL.b ?_
      refine WL.run 1 rfl ?_
      refine WL.v (X.ldkA (hp.at 0 rfl) tA56 tS56 (vs := [.int .i64 ((l.getD i default).from_), .int .i64 ((l.getD i default).top), .int .i64 ((l.getD i default).end_)]) rfl rfl) ?_
      refine WL.call isFn67 rfl rfl (spEmpty_c (s := (l.getD i default))) ?_
      intro v w hc hr
      obtain rfl := hr
      have hp := hp.ext hc
      refine WL.bsl hp (e := 56) (cs := #[.int .i64 ((spEmpty (l.getD i default)).from_), .int .i64 ((spEmpty (l.getD i default)).top), .int .i64 ((spEmpty (l.getD i default)).end_)]) rfl (fun _ => by kernel_rfl) rfl ?_
      intro b5 w hp
      refine WL.append hp 2 rfl tL33 (zeroT_ex tZ56) tS56 tY56 rfl rfl (view_of_blk (l := [(spEmpty (l.getD i default))]) hp 0 rfl encS_len (by omega) rfl (by simp) (by simp)) encS_one (by simp only [List.length_append, List.length_cons, List.length_nil, List.length_map, List.length_take]; omega) rfl ?_
      intro v6 w hp
      refine WL.run 1 rfl ?_
      refine WL.nil ?_
      refine X.inN ?_
      refine X.thenN ?_
      refine W.reg ?_
      refine WL.v (X.add rfl rfl (in64 (by omega))) ?_
      refine WL.run 1 rfl ?_
      refine WL.nil ?_
      refine X.again (i + 1, v6) ⟨rfl, rfl, rfl, rfl, rfl, trivial⟩ ?_ ?_
      · exact ⟨by rw [take_getD hlt, List.map_append, List.map_singleton]; exact (hp.sel [2] (by decide)), by omega⟩
      · dsimp only; omega
    refine W.cF rfl (decide_eq_false hc3) ?_
    refine W.exit ?_
    refine X.thenE ?_
    refine X.thenE ?_
    refine X.inH ?_
    refine X.thenN ?_
    refine W.seq ?_
    have hp : Hp w0 [] [ownR 56 encS 3 v (l.map spEmpty)] w := by
      rw [show l.map spEmpty = (l.take i).map spEmpty from by rw [List.take_of_length_le (by omega)]]; exact hp
    have hp := hp.addNil 3 encI 1 encI_len (by omega)
    refine W.reg ?_
    refine WL.run 1 rfl ?_
    refine WL.a ?_
    refine WL.run 1 rfl ?_
    refine WL.s ?_
    refine W.label ?_
    refine X.thenN ?_
    refine W.seq ?_
    refine W.sr ?_
    refine WL.run 1 rfl ?_
    refine WL.v (view_len tL34 (hp.old0 hZ) rfl) ?_
    refine WL.run 1 rfl ?_
    refine WL.fin ?_
    refine W.block ?_
    refine W.loop (X := Nat × Nat × List Spc × List Int × Value × Value) (fun x_ => match x_ with | ⟨i, k0, now, out, v, o⟩ => sz.length - i) (fun x_ => match x_ with | ⟨i, k0, now, out, v, o⟩ => [(7, v), (10, o), (11, .int .i64 (k0 : Int)), (36, z), (37, .int .i64 (sz.length : Int)), (38, .int .i64 (i : Int))]) (fun x_ w => match x_ with | ⟨i, k0, now, out, v, o⟩ => Hp w0 [] [ownR 3 encI 1 o out, ownR 56 encS 3 v now] w ∧ i ≤ sz.length ∧ planF (l.map spEmpty) 0 sz [] = planF now k0 (sz.drop i) out ∧ now.length = l.length ∧ out.length = i ∧ (∀ x ∈ now, spR x = true) ∧ k0 ≤ now.length) (0, 0, l.map spEmpty, [], v, .slice none 0 0) ⟨rfl, rfl, rfl, rfl, rfl, rfl, trivial⟩ ?_ ?_
    · exact ⟨hp, by omega, rfl, by simp, rfl, map_empty_R hrise, by omega⟩
    rintro ⟨i, k0, now, out, v, o⟩ w ⟨hp, hi, hpl, hnl, hol, hall, hkl⟩
    refine W.sr ?_
    refine WL.run 1 rfl ?_
    refine WL.s ?_
    by_cases hc7 : (i : Int) < (sz.length : Int)
    · refine W.cT rfl (decide_eq_true hc7) ?_
      refine W.k ?_
      refine W.seq ?_
      refine W.block ?_
      refine W.seq ?_
      have hlt : i < sz.length := by omega
      have hn1 := any_lt1 hany hlt
      refine W.reg ?_
      refine WL.v (X.idxV (j := i) (r := offOf z + i * 1) tL34 tS3 (hp.old0 hZ) rfl rfl (by omega) (by omega) rfl) ?_
      refine WL.v (X.ld1 tA3 rfl (view_cell (j := i) (f := 0) (hp.old0 hZ) (get_some (by omega)) rfl (by omega))) ?_
      refine WL.run 1 rfl ?_
      refine WL.c ?_
      refine W.loop (X := Nat) (fun k => now.length - k) (fun k => [(7, v), (10, o), (11, .int .i64 (k : Int)), (13, .int .i64 (sz.getD i default)), (36, z), (37, .int .i64 (sz.length : Int)), (38, .int .i64 (i : Int))]) (fun k w => Hp w0 [] [ownR 3 encI 1 o out, ownR 56 encS 3 v now] w ∧ k0 + fitL (sz.getD i default) (now.drop k0) = k + fitL (sz.getD i default) (now.drop k) ∧ k ≤ now.length) k0 ⟨rfl, rfl, rfl, rfl, rfl, rfl, rfl, trivial⟩ ?_ ?_
      · exact ⟨hp, rfl, by omega⟩
      rintro k w ⟨hp, hst, hkl2⟩
      refine W.seq ?_
      refine W.sr ?_
      refine WL.run 2 rfl ?_
      refine WL.v (view_len tL33 (own_view (hp.at 1 rfl)) rfl) ?_
      refine WL.run 1 rfl ?_
      refine WL.fin ?_
      by_cases hc8 : (k : Int) < (now.length : Int)
      · refine W.cT rfl (decide_eq_true hc8) ?_
        refine W.k ?_
        refine W.seq ?_
        refine W.block ?_
        refine W.seq ?_
        have hkn : k < now.length := by omega
        have hsp := hall _ (mem_getD hkn)
        refine W.reg ?_
        refine WL.run 2 rfl ?_
        refine WL.v (X.idxV (j := k) (r := offOf v + k * 3) tL33 tS56 (own_view (hp.at 1 rfl)) rfl rfl (by omega) (by omega) rfl) ?_
        refine WL.v (X.ldA tA56 tS56 rfl (cs := [.int .i64 ((now.getD k default).from_), .int .i64 ((now.getD k default).top), .int .i64 ((now.getD k default).end_)]) (view_cells (own_view (hp.at 1 rfl)) (get_some (by omega)) (by omega))) ?_
        refine WL.run 1 rfl ?_
        refine WL.call isFn68 rfl rfl (take_c (s := (now.getD k default)) (n := (sz.getD i default))) ?_
        intro v w hc hr
        rcases hr with ⟨ht9, ht10, ht11, rfl⟩ | ⟨ht12, rfl⟩ | ⟨ht9, ht10, ht11, rfl⟩
        · have hp := hp.ext hc
          refine WL.run 4 rfl ?_
          refine WL.alloc hp tZ56 rfl ?_
          intro b13 w hp
          refine WL.run 1 rfl ?_
          refine WL.store hp 0 rfl tS56 rfl rfl (vs := [.int .i64 ((now.getD k default).from_), .int .i64 (((now.getD k default).top) + (sz.getD i default)), .int .i64 ((now.getD k default).end_)]) rfl rfl rfl (new := #[.int .i64 ((now.getD k default).from_), .int .i64 (((now.getD k default).top) + (sz.getD i default)), .int .i64 ((now.getD k default).end_)]) rfl ?_
          intro w hp
          refine WL.run 1 rfl ?_
          refine WL.a ?_
          refine WL.run 2 rfl ?_
          refine WL.fin ?_
          refine W.cT rfl (decide_eq_true (by decide)) ?_
          refine W.seq ?_
          have hfit := ‹(sz.getD i default) ≤ (now.getD k default).end_ - (now.getD k default).top›
          refine W.reg ?_
          refine WL.run 2 rfl ?_
          refine WL.bsl hp (e := 3) (cs := #[.int .i64 ((now.getD k default).top)]) rfl (fun _ => by kernel_rfl) rfl ?_
          intro b15 w hp
          refine WL.append hp 2 rfl tL34 (zeroT_ex tZ3) tS3 tY3 rfl rfl (view_of_blk (l := [(now.getD k default).top]) hp 0 rfl encI_len (by omega) rfl (by simp) (by simp)) encI_one (by simp only [List.length_append, List.length_cons, List.length_nil]; omega) rfl ?_
          intro v16 w hp
          refine WL.run 1 rfl ?_
          refine WL.a ?_
          refine WL.run 2 rfl ?_
          refine WL.v (X.ldkA (hp.at 1 rfl) tA56 tS56 (vs := [.int .i64 ((now.getD k default).from_), .int .i64 (((now.getD k default).top) + (sz.getD i default)), .int .i64 ((now.getD k default).end_)]) rfl rfl) ?_
          refine WL.v (X.idxV (j := k) (r := offOf v + k * 3) tL33 tS56 (own_view (hp.at 3 rfl)) rfl rfl (by omega) (by omega) rfl) ?_
          refine WL.stOwn hp 3 rfl (j := k) (f := 0) (q := (now.getD k default)) (q' := (⟨(now.getD k default).from_, ((now.getD k default).top) + (sz.getD i default), (now.getD k default).end_⟩ : Spc)) tS56 rfl rfl (vs := [.int .i64 ((now.getD k default).from_), .int .i64 (((now.getD k default).top) + (sz.getD i default)), .int .i64 ((now.getD k default).end_)]) rfl rfl (get_some (by omega)) rfl (by simp only [List.length_cons, List.length_nil]; omega) rfl ?_
          intro w hp
          refine WL.fin ?_
          refine W.exit ?_
          refine X.inM rfl ?_
          refine X.thenE ?_
          refine X.thenE ?_
          refine X.inM rfl ?_
          refine X.thenE ?_
          refine X.inH ?_
          refine X.thenN ?_
          refine W.reg ?_
          refine WL.v (X.add rfl rfl (in64 (by omega))) ?_
          refine WL.run 1 rfl ?_
          refine WL.nil ?_
          refine X.again (i + 1, k, now.set k ⟨(now.getD k default).from_, (now.getD k default).top + (sz.getD i default), (now.getD k default).end_⟩, out ++ [(now.getD k default).top], v, v16) ⟨rfl, rfl, rfl, rfl, rfl, rfl, trivial⟩ ?_ ?_
          · exact ⟨(hp.sel [2, 3] (by decide)), by omega, by rw [hpl, drop_getD hlt, planF_step (hst.trans (fitL_here hkn hfit)) hkn], by rw [List.length_set]; exact hnl, by simp [hol], set_spR hall (take_R hsp hn1 hfit), by rw [List.length_set]; omega⟩
          · dsimp only; omega
        · (try simp only [fillW_length, moveW_length, List.length_set] at ht12); first | contradiction | (exfalso; omega) | (exfalso; simp_all; done)
        have hp := hp.ext hc
        refine WL.run 4 rfl ?_
        refine WL.alloc hp tZ56 rfl ?_
        intro b17 w hp
        refine WL.run 1 rfl ?_
        refine WL.store hp 0 rfl tS56 rfl rfl (vs := [.int .i64 0, .int .i64 0, .int .i64 0]) rfl rfl rfl (new := #[.int .i64 0, .int .i64 0, .int .i64 0]) rfl ?_
        intro w hp
        refine WL.run 1 rfl ?_
        refine WL.a ?_
        refine WL.run 2 rfl ?_
        refine WL.fin ?_
        refine W.cF rfl (decide_eq_false (by decide)) ?_
        refine W.skip ?_
        refine X.inN ?_
        refine X.thenN ?_
        refine W.reg ?_
        refine WL.run 1 rfl ?_
        refine WL.v (X.add rfl rfl (in64 (by omega))) ?_
        refine WL.run 1 rfl ?_
        refine WL.nil ?_
        refine X.again (k + 1) ⟨rfl, rfl, rfl, rfl, rfl, rfl, rfl, trivial⟩ ?_ ?_
        · exact ⟨(hp.sel [1, 2] (by decide)), by rw [hst, fitL_next hkn (by assumption)], by omega⟩
        · omega
      refine W.cF rfl (decide_eq_false hc8) ?_
      refine W.exit ?_
      refine X.thenE ?_
      refine X.thenE ?_
      refine X.inH ?_
      refine X.thenN ?_
      refine W.sr ?_
      refine WL.run 3 rfl ?_
      refine WL.fin ?_
      refine W.ret ?_
      refine X.inR ?_
      refine X.thenR ?_
      refine X.thenR ?_
      refine X.inR ?_
      refine X.thenR ?_
      refine X.ngR ?_
      refine W.done hp (rs := [.tmp 4, .tmp 5, .tmp 6]) (vs := [.slice none 0 0, .slice none 0 0, .int .i64 3]) (v := .tuple #[.slice none 0 0, .slice none 0 0, .int .i64 3]) rfl ⟨rfl, rfl, rfl, trivial⟩ rfl ?_
      have hb := planR_full hrise hany (by rw [hpl, drop_getD hlt, planF_none (hst.trans (fitL_end (by omega))) (by omega)])
      exact .inr ⟨by rw [hb]; decide, by rw [hb]⟩
    refine W.cF rfl (decide_eq_false hc7) ?_
    refine W.exit ?_
    refine X.thenE ?_
    refine X.thenE ?_
    refine X.inH ?_
    refine X.thenN ?_
    refine W.sr ?_
    refine WL.run 5 rfl ?_
    refine WL.fin ?_
    refine W.ret ?_
    refine X.ngR ?_
    refine W.done hp (rs := [.tmp 4, .tmp 5, .tmp 6]) (vs := [o, v, .int .i64 0]) (v := .tuple #[o, v, .int .i64 0]) rfl ⟨rfl, rfl, rfl, trivial⟩ rfl ?_
    have hb := planR_ok hrise hany (o := out) (s := now) (by rw [hpl, List.drop_eq_nil_of_le (by omega)]; rfl)
    exact .inl ⟨by rw [hb], o, v, rfl, by rw [hb]; exact hp⟩
  refine WL.g0 rfl rfl (congrArg not (Bool.eq_false_iff.2 hrise)) rfl ?_
  refine WL.g0 rfl rfl (congrArg not (Bool.eq_false_iff.2 hrise)) rfl ?_
  refine WL.v (X.pkT rfl (congrArg not (Bool.eq_false_iff.2 hrise)) rfl) ?_
  refine WL.fin ?_
  refine W.cT rfl rfl ?_
  refine W.sr ?_
  refine WL.run 3 rfl ?_
  refine WL.fin ?_
  refine W.ret ?_
  refine X.thenR ?_
  refine X.ngR ?_
  refine W.done hp (rs := [.tmp 4, .tmp 5, .tmp 6]) (vs := [.slice none 0 0, .slice none 0 0, .int .i64 1]) (v := .tuple #[.slice none 0 0, .slice none 0 0, .int .i64 1]) rfl ⟨rfl, rfl, rfl, trivial⟩ rfl ?_
  first | (have hb := planR_bad (.inl ‹¬ rise l = true› : ¬ rise l = true ∨ sz.any (fun n => decide (n < 1)) = true); exact .inr ⟨by rw [hb]; decide, by rw [hb]⟩) | (have hb := planR_bad (l := l) (.inr ‹sz.any (fun n => decide (n < 1)) = true›); exact .inr ⟨by rw [hb]; decide, by rw [hb]⟩)

theorem rwalk_c {w0 : World} {p b t c : Nat} {ws : List Int} {cs : List Cls} {r : Nat} {sv zv mv : Value} {s : Value} {l : List Spc} (hA : (arenaR p b ws).ok w0) (hT : (tableR t c cs).ok w0) (hR : (blkR r (.cells (#[.pointer (some ⟨p, 0, none⟩), .pointer (some ⟨p, 0, none⟩), .pointer (some ⟨t, 0, none⟩), sv, zv, mv]) 85 (0, 0))).ok w0)  (hV : (viewR encS 3 s l).ok w0) (hall : ∀ x ∈ l, spR x = true) :
    Calls Tryz.prog 71 #[.pointer (some ⟨r, 0, none⟩), s] w0 (Ret [] w0 (fun v w => (walksF ws cs [] l = none ∧ v = .tuple #[.map none, .int .i64 12]) ∨ ∃ al m, walksF ws cs [] l = some al ∧ v = .tuple #[.map (some m), .int .i64 0] ∧ New w0 w (mapR encB m (memF al)))) := by
  have hp : Hp w0 [] [] w0 := Hp.init w0
  have hle := view_len_le hV
  refine enter (vs := [.pointer (some ⟨r, 0, none⟩), s]) Tryz.func71 rfl rfl rfl ?_
  refine gen_world hp ?_
  intro w hp
  refine W.sr ?_
  refine WL.run 2 rfl ?_
  refine WL.a ?_
  refine WL.mkmap (α := Bool) encB hp rfl ?_
  intro m1 w hp
  refine WL.run 1 rfl ?_
  refine WL.s ?_
  refine W.seq ?_
  have hp := hp.mapCongr 0 rfl (G' := memF []) (fun k => by simp [memF])
  refine W.reg ?_
  refine WL.run 1 rfl ?_
  refine WL.v (view_len tL33 (hp.old0 hV) rfl) ?_
  refine WL.run 1 rfl ?_
  refine WL.fin ?_
  refine W.block ?_
  refine W.loop (X := Nat × List Int) (fun x_ => match x_ with | ⟨i, al⟩ => l.length - i) (fun x_ => match x_ with | ⟨i, al⟩ => [(0, .pointer (some ⟨r, 0, none⟩)), (6, .map (some m1)), (14, s), (15, .int .i64 (l.length : Int)), (16, .int .i64 (i : Int))]) (fun x_ w => match x_ with | ⟨i, al⟩ => Hp w0 [] [mapR encB m1 (memF al)] w ∧ i ≤ l.length ∧ walksF ws cs [] l = walksF ws cs al (l.drop i)) (0, []) ⟨rfl, rfl, rfl, rfl, rfl, trivial⟩ ?_ ?_
  · exact ⟨hp, by omega, rfl⟩
  rintro ⟨i, al⟩ w ⟨hp, hi, hw⟩
  refine W.sr ?_
  refine WL.run 1 rfl ?_
  refine WL.s ?_
  by_cases hc2 : (i : Int) < (l.length : Int)
  · refine W.cT rfl (decide_eq_true hc2) ?_
    refine W.k ?_
    refine W.seq ?_
    refine W.block ?_
    refine W.seq ?_
    have hlt : i < l.length := by omega
    have hspx := spR_t (hall _ (mem_getD hlt))
    refine W.reg ?_
    refine WL.v (X.idxV (j := i) (r := offOf s + i * 3) tL33 tS56 (hp.old0 hV) rfl rfl (by omega) (by omega) rfl) ?_
    refine WL.v (X.ldA tA56 tS56 rfl (cs := [.int .i64 ((l.getD i default).from_), .int .i64 ((l.getD i default).top), .int .i64 ((l.getD i default).end_)]) (view_cells (hp.old0 hV) (get_some (by omega)) (by omega))) ?_
    refine WL.alloc hp tZ56 rfl ?_
    intro b3 w hp
    refine WL.store hp 0 rfl tS56 rfl rfl (vs := [.int .i64 ((l.getD i default).from_), .int .i64 ((l.getD i default).top), .int .i64 ((l.getD i default).end_)]) rfl rfl rfl (new := #[.int .i64 ((l.getD i default).from_), .int .i64 ((l.getD i default).top), .int .i64 ((l.getD i default).end_)]) rfl ?_
    intro w hp
    refine WL.s ?_
    refine W.draw prog_mixed (fun w => (blkR b3 (.cells (#[.int .i64 ((l.getD i default).from_), .int .i64 ((l.getD i default).top), .int .i64 ((l.getD i default).end_)]) 56 (0, 0))).ok w ∧ (mapR encB m1 (memF al)).ok w ∧ (arenaR p b ws).ok w ∧ (tableR t c cs).ok w ∧ (viewR encS 3 s l).ok w ∧ (blkR r (.cells (#[.pointer (some ⟨p, 0, none⟩), .pointer (some ⟨p, 0, none⟩), .pointer (some ⟨t, 0, none⟩), sv, zv, mv]) 85 (0, 0))).ok w ∧ True) hp ?_
    intro w hp
    refine WD.s ⟨hp.at 0 rfl, hp.at 1 rfl, hp.old0 hA, hp.old0 hT, hp.old0 hV, hp.old0 hR, trivial⟩ fun hS0 => ?_
    refine WD.v 0 rfl hS0 (fun w hS => (X.mv rfl)) ?_
    refine WD.v 1 rfl hS0 (fun w hS => (X.nilc rfl)) ?_
    refine WD.v 2 rfl hS0 (fun w hS => (X.fa (r := 1) tF85_1 rfl rfl)) ?_
    refine WD.v 3 rfl hS0 (fun w hS => (X.ldkA hS.2.2.2.2.2.1 tA32 tS32 (vs := [.pointer (some ⟨p, 0, none⟩), .pointer (some ⟨t, 0, none⟩)]) rfl rfl)) ?_
    refine WD.v 4 rfl hS0 (fun w hS => (X.fa (r := 0) tF56_0 rfl rfl)) ?_
    refine WD.v 5 rfl hS0 (fun w hS => (X.ldk hS.1 tA3 rfl rfl)) ?_
    refine WD.v 6 rfl hS0 (fun w hS => (X.fa (r := 1) tF56_1 rfl rfl)) ?_
    refine WD.v 7 rfl hS0 (fun w hS => (X.ldk hS.1 tA3 rfl rfl)) ?_
    refine WD.one 8 (by kernel_rfl) ?_
    refine WO.call rfl isFn92 rfl rfl (walk_c (fr := (l.getD i default).from_) (to := (l.getD i default).top) (hp.old0 hA) (hp.old0 hT) (by omega) (by omega)) ?_
    intro v w hc hr
    rcases hr with ⟨hw4, s5, rfl, hN⟩ | ⟨hw4, rfl⟩
    · have hp := hp.newN hc hN
      refine andS ⟨hp.at 1 rfl, hp.at 2 rfl, hp.old0 hA, hp.old0 hT, hp.old0 hV, hp.old0 hR, trivial⟩ fun hS0 => ?_
      refine WD.v 9 rfl hS0 (fun w hS => (X.mv rfl)) ?_
      refine WD.v 10 rfl hS0 (fun w hS => (X.ext rfl rfl)) ?_
      refine WD.v 11 rfl hS0 (fun w hS => (X.ext rfl rfl)) ?_
      refine WD.v 12 rfl hS0 (fun w hS => (X.as rfl)) ?_
      refine WD.v 13 rfl hS0 (fun w hS => (X.as rfl)) ?_
      refine WD.nil (by kernel_rfl) ?_
      refine X.thenN ?_
      refine W.seq ?_
      refine W.sr ?_
      refine WL.run 2 rfl ?_
      refine WL.fin ?_
      refine W.cF rfl (decide_eq_false (by decide)) ?_
      refine W.ks ?_
      refine WL.run 1 rfl ?_
      refine WL.v (view_len tL34 (own_view (hp.at 0 rfl)) rfl) ?_
      refine WL.run 1 rfl ?_
      refine WL.fin ?_
      refine W.block ?_
      refine W.loop (X := Nat) (fun j => (walk ws cs (l.getD i default).from_ (l.getD i default).top).2.length - j) (fun j => [(0, .pointer (some ⟨r, 0, none⟩)), (6, .map (some m1)), (14, s), (15, .int .i64 (l.length : Int)), (16, .int .i64 (i : Int)), (34, s5), (35, .int .i64 (((walk ws cs ((l.getD i default).from_) ((l.getD i default).top)).2).length : Int)), (36, .int .i64 (j : Int))]) (fun j w => Hp w0 [] [ownR 3 encI 1 s5 ((walk ws cs ((l.getD i default).from_) ((l.getD i default).top)).2), mapR encB m1 (memF (al ++ (walk ws cs (l.getD i default).from_ (l.getD i default).top).2.take j))] w ∧ j ≤ (walk ws cs (l.getD i default).from_ (l.getD i default).top).2.length) 0 ⟨rfl, rfl, rfl, rfl, rfl, rfl, rfl, rfl, trivial⟩ ?_ ?_
      · exact ⟨((hp.sel [0, 2] (by decide))).mapCongr 1 rfl (fun k => by rw [List.take_zero, List.append_nil]), by omega⟩
      rintro j w ⟨hp, hj⟩
      refine W.sr ?_
      refine WL.run 1 rfl ?_
      refine WL.s ?_
      by_cases hc7 : (j : Int) < (((walk ws cs ((l.getD i default).from_) ((l.getD i default).top)).2).length : Int)
      · refine W.cT rfl (decide_eq_true hc7) ?_
        refine W.k ?_
        refine W.seq ?_
        refine W.block ?_
        refine W.seq ?_
        have hjl : j < (walk ws cs (l.getD i default).from_ (l.getD i default).top).2.length := by omega
        have hwl := view_len_le (own_view (hp.at 0 rfl))
        refine W.reg ?_
        refine WL.v (X.idxV (j := j) (r := offOf s5 + j * 1) tL34 tS3 (own_view (hp.at 0 rfl)) rfl rfl (by omega) (by omega) rfl) ?_
        refine WL.v (X.ld1 tA3 rfl (view_cell (j := j) (f := 0) (own_view (hp.at 0 rfl)) (get_some (by omega)) rfl (by omega))) ?_
        refine WL.run 1 rfl ?_
        refine WL.b ?_
        refine WL.run 2 rfl ?_
        refine WL.mupd hp 1 rfl tM142 rfl rfl rfl rfl ?_
        intro w hp
        refine WL.nil ?_
        refine X.inN ?_
        refine X.thenN ?_
        refine W.reg ?_
        refine WL.v (X.add rfl rfl (in64 (by omega))) ?_
        refine WL.run 1 rfl ?_
        refine WL.nil ?_
        refine X.again (j + 1) ⟨rfl, rfl, rfl, rfl, rfl, rfl, rfl, rfl, trivial⟩ ?_ ?_
        · exact ⟨(hp).mapCongr 1 rfl (fun k => by rw [memF_snoc, List.append_assoc, ← take_getD hjl]), by omega⟩
        · omega
      refine W.cF rfl (decide_eq_false hc7) ?_
      refine W.exit ?_
      refine X.thenE ?_
      refine X.thenE ?_
      refine X.inH ?_
      refine X.inN ?_
      refine X.thenN ?_
      have hp := hp.mapCongr 1 rfl (G' := memF (al ++ (walk ws cs (l.getD i default).from_ (l.getD i default).top).2)) (fun k => by rw [List.take_of_length_le (by omega)])
      refine W.reg ?_
      refine WL.v (X.add rfl rfl (in64 (by omega))) ?_
      refine WL.run 1 rfl ?_
      refine WL.nil ?_
      refine X.again (i + 1, al ++ (walk ws cs (l.getD i default).from_ (l.getD i default).top).2) ⟨rfl, rfl, rfl, rfl, rfl, trivial⟩ ?_ ?_
      · exact ⟨(hp.sel [1] (by decide)), by omega, by rw [hw, walksF_step hlt (not_not_intro (by assumption))]⟩
      · dsimp only; omega
    have hp := hp.ext hc
    refine andS ⟨hp.at 0 rfl, hp.at 1 rfl, hp.old0 hA, hp.old0 hT, hp.old0 hV, hp.old0 hR, trivial⟩ fun hS0 => ?_
    refine WD.v 9 rfl hS0 (fun w hS => (X.mv rfl)) ?_
    refine WD.v 10 rfl hS0 (fun w hS => (X.ext rfl rfl)) ?_
    refine WD.v 11 rfl hS0 (fun w hS => (X.ext rfl rfl)) ?_
    refine WD.v 12 rfl hS0 (fun w hS => (X.as rfl)) ?_
    refine WD.v 13 rfl hS0 (fun w hS => (X.as rfl)) ?_
    refine WD.nil (by kernel_rfl) ?_
    refine X.thenN ?_
    refine W.seq ?_
    refine W.sr ?_
    refine WL.run 2 rfl ?_
    refine WL.fin ?_
    refine W.cT rfl (decide_eq_true hw4) ?_
    refine W.sr ?_
    refine WL.run 2 rfl ?_
    refine WL.fin ?_
    refine W.ret ?_
    refine X.thenR ?_
    refine X.inR ?_
    refine X.thenR ?_
    refine X.thenR ?_
    refine X.inR ?_
    refine X.thenR ?_
    refine W.done hp (rs := [.tmp 4, .tmp 5]) (vs := [.map none, .int .i64 12]) (v := .tuple #[.map none, .int .i64 12]) rfl ⟨rfl, rfl, trivial⟩ rfl ?_
    exact .inl ⟨by rw [hw, walksF_no hlt (by assumption)], rfl⟩
  refine W.cF rfl (decide_eq_false hc2) ?_
  refine W.exit ?_
  refine X.thenE ?_
  refine X.thenE ?_
  refine X.inH ?_
  refine X.thenN ?_
  refine W.sr ?_
  refine WL.run 3 rfl ?_
  refine WL.fin ?_
  refine W.ret ?_
  refine W.done hp (rs := [.tmp 4, .tmp 5]) (vs := [.map (some m1), .int .i64 0]) (v := .tuple #[.map (some m1), .int .i64 0]) rfl ⟨rfl, rfl, trivial⟩ rfl ?_
  exact .inr ⟨al, _, by rw [hw, List.drop_eq_nil_of_le (by omega)]; rfl, rfl, hp.newAt 0 rfl⟩

theorem goes_c {w0 : World} {r m : Nat} {c0 c1 c2 c3 c4 : Value} {G : Int → Option Int} {a : Int} (hR : (blkR r (.cells (#[c0, c1, c2, c3, c4, .map (some m)]) 85 (0, 0))).ok w0)  (hM : (mapR encN m G).ok w0)  :
    Calls Tryz.prog 36 #[.pointer (some ⟨r, 0, none⟩), .int .i64 a] w0 (Ret [] w0 (fun v _ => v = .bool (G a).isSome)) := by
  have hp : Hp w0 [] [] w0 := Hp.init w0
  refine enter (vs := [.pointer (some ⟨r, 0, none⟩), .int .i64 a]) Tryz.func36 rfl rfl rfl ?_
  refine gen_world hp ?_
  intro w hp
  refine W.sr ?_
  refine WL.run 1 rfl ?_
  refine WL.a ?_
  refine WL.run 3 rfl ?_
  refine WL.v (X.ldk (hp.old0 hR) tA83 rfl rfl) ?_
  refine WL.run 1 rfl ?_
  refine WL.v (X.lkOk tM83 (tV3 _) (hp.old0 hM) rfl rfl) ?_
  refine WL.run 5 rfl ?_
  refine WL.a ?_
  refine WL.run 2 rfl ?_
  refine WL.fin ?_
  refine W.ret ?_
  refine W.done hp (rs := [.tmp 4]) (vs := [.bool ((G a).isSome)]) (v := .bool ((G a).isSome)) rfl ⟨rfl, trivial⟩ rfl ?_
  exact rfl

theorem run2_c {w0 : World} {r m : Nat} {c0 c1 c2 c3 c4 : Value} {G : Int → Option Int} {x T : Nat} {a : Int} (hR : (blkR r (.cells (#[c0, c1, c2, c3, c4, .map (some m)]) 85 (0, 0))).ok w0)  (hM : (mapR encN m G).ok w0) (hX : (blkR x (.cells (#[.pointer (some ⟨r, 0, none⟩)]) T (0, 0))).ok w0) :
    Calls Tryz.prog 35 #[.int .i64 a, .pointer (some ⟨x, 0, none⟩)] w0 (Ret [] w0 (fun v _ => v = .bool (!(G a).isSome))) := by
  have hp : Hp w0 [] [] w0 := Hp.init w0
  refine enter (vs := [.int .i64 a, .pointer (some ⟨x, 0, none⟩)]) Tryz.func35 rfl rfl rfl ?_
  refine gen_world hp ?_
  intro w hp
  refine W.sr ?_
  refine WL.run 1 rfl ?_
  refine WL.a ?_
  refine WL.v (X.ldk (hp.old0 hX) tA82 rfl rfl) ?_
  refine WL.run 1 rfl ?_
  refine WL.call isFn36 rfl rfl (goes_c (a := a) (hp.old0 hR) (hp.old0 hM)) ?_
  intro v w hc hr
  obtain rfl := hr
  have hp := hp.ext hc
  refine WL.run 2 rfl ?_
  refine WL.fin ?_
  refine W.ret ?_
  refine W.done hp (rs := [.tmp 3]) (vs := [.bool (!((G a).isSome))]) (v := .bool (!((G a).isSome))) rfl ⟨rfl, trivial⟩ rfl ?_
  exact rfl

theorem run1_c {w0 : World} {p b x T : Nat} {ws : List Int} {s : Spc} (hA : (arenaR p b ws).ok w0) (hX : (blkR x (.cells (#[.pointer (some ⟨p, 0, none⟩)]) T (0, 0))).ok w0) :
    Calls Tryz.prog 30 #[.agg #[.int .i64 s.from_, .int .i64 s.top, .int .i64 s.end_], .pointer (some ⟨x, 0, none⟩)] w0 (Ret [] w0 (fun v _ => v = .bool (decide ((ws.length : Int) < s.end_)))) := by
  have hp : Hp w0 [] [] w0 := Hp.init w0
  refine enter (vs := [.agg #[.int .i64 s.from_, .int .i64 s.top, .int .i64 s.end_], .pointer (some ⟨x, 0, none⟩)]) Tryz.func30 rfl rfl rfl ?_
  refine gen_world hp ?_
  intro w hp
  refine W.sr ?_
  refine WL.box hp rfl (cs := #[.int .i64 s.from_, .int .i64 s.top, .int .i64 s.end_]) rfl rfl ?_
  intro b1 w hp
  refine WL.run 1 rfl ?_
  refine WL.s ?_
  refine W.draw prog_mixed (fun w => (blkR b1 (.cells (#[.int .i64 s.from_, .int .i64 s.top, .int .i64 s.end_]) 56 (0, 0))).ok w ∧ (arenaR p b ws).ok w ∧ (blkR x (.cells (#[.pointer (some ⟨p, 0, none⟩)]) T (0, 0))).ok w ∧ True) hp ?_
  intro w hp
  refine WD.s ⟨hp.at 0 rfl, hp.old0 hA, hp.old0 hX, trivial⟩ fun hS0 => ?_
  refine WD.v 0 rfl hS0 (fun w hS => (X.fa (r := 2) tF56_2 rfl rfl)) ?_
  refine WD.v 1 rfl hS0 (fun w hS => (X.ldk hS.1 tA3 rfl rfl)) ?_
  refine WD.v 2 rfl hS0 (fun w hS => (X.ldk hS.2.2.1 tA29 rfl rfl)) ?_
  refine WD.one 3 (by kernel_rfl) ?_
  refine WO.call rfl isFn31 rfl rfl (len_c (hp.old0 hA)) ?_
  intro v w hc hr
  obtain rfl := hr
  have hp := hp.ext hc
  refine andS ⟨hp.at 0 rfl, hp.old0 hA, hp.old0 hX, trivial⟩ fun hS0 => ?_
  refine WD.v 4 rfl hS0 (fun w hS => (X.gtr rfl rfl)) ?_
  refine WD.v 5 rfl hS0 (fun w hS => (X.as rfl)) ?_
  refine WD.nil (by kernel_rfl) ?_
  refine X.thenN ?_
  refine W.ret ?_
  refine W.done hp (rs := [.tmp 3]) (vs := [.bool (decide ((ws.length : Int) < s.end_))]) (v := .bool (decide ((ws.length : Int) < s.end_))) rfl ⟨rfl, trivial⟩ rfl ?_
  exact rfl

theorem lost_c {w0 : World} {p b t c : Nat} {ws : List Int} {cs : List Cls} {r m : Nat} {sv zv : Value} {G : Int → Option Int} {a : Int} (hA : (arenaR p b ws).ok w0) (hT : (tableR t c cs).ok w0) (hR : (blkR r (.cells (#[.pointer (some ⟨p, 0, none⟩), .pointer (some ⟨p, 0, none⟩), .pointer (some ⟨t, 0, none⟩), sv, zv, .map (some m)]) 85 (0, 0))).ok w0)  (hM : (mapR encN m G).ok w0) (ho : objE ws cs a = 0) :
    Calls Tryz.prog 34 #[.pointer (some ⟨r, 0, none⟩), .int .i64 a] w0 (Ret [] w0 (fun v _ => v = .bool (lostF ws cs G a))) := by
  have hp : Hp w0 [] [] w0 := Hp.init w0
  have hbd := objT_bd (table_all hT) ho
  refine enter (vs := [.pointer (some ⟨r, 0, none⟩), .int .i64 a]) Tryz.func34 rfl rfl rfl ?_
  refine gen_world hp ?_
  intro w hp
  refine W.sr ?_
  refine WL.run 1 rfl ?_
  refine WL.a ?_
  refine WL.run 3 rfl ?_
  refine WL.v (X.ldkA (hp.old0 hR) tA32 tS32 (vs := [.pointer (some ⟨p, 0, none⟩), .pointer (some ⟨t, 0, none⟩)]) rfl rfl) ?_
  refine WL.run 1 rfl ?_
  refine WL.call isFn20 rfl rfl (shape_c (a := a) (hp.old0 hA) (hp.old0 hT)) ?_
  intro v w hc hr
  obtain rfl := hr
  have hp := hp.ext hc
  refine WL.run 7 rfl ?_
  refine WL.s ?_
  refine W.sr ?_
  refine WL.run 2 rfl ?_
  refine WL.fin ?_
  refine W.block ?_
  refine W.loop (X := Nat) (fun i => (objT ws cs a).refs.toNat - i) (fun i => [(0, .pointer (some ⟨r, 0, none⟩)), (1, .int .i64 a), (21, .int .i64 ((objT ws cs a).refs)), (22, .int .i64 (i : Int))]) (fun i w => Hp w0 [] [] w ∧ i ≤ (objT ws cs a).refs.toNat ∧ ∀ q < i, (G (gi ws (a + 2 + q))).isSome = true) 0 ⟨rfl, rfl, rfl, rfl, trivial⟩ ?_ ?_
  · exact ⟨hp, by omega, by omega⟩
  rintro i w ⟨hp, hi, hl⟩
  refine W.sr ?_
  refine WL.run 1 rfl ?_
  refine WL.s ?_
  by_cases hc1 : (i : Int) < ((objT ws cs a).refs)
  · refine W.cT rfl (decide_eq_true hc1) ?_
    refine W.k ?_
    refine W.seq ?_
    refine W.block ?_
    refine W.sr ?_
    refine WL.run 2 rfl ?_
    refine WL.s ?_
    have hre : refE ws cs a (i : Int) = 0 := refE_ok ho (by omega) (by omega)
    refine W.reg ?_
    refine WL.run 3 rfl ?_
    refine WL.v (X.ldkA (hp.old0 hR) tA32 tS32 (vs := [.pointer (some ⟨p, 0, none⟩), .pointer (some ⟨t, 0, none⟩)]) rfl rfl) ?_
    refine WL.run 2 rfl ?_
    refine WL.call isFn74 rfl rfl (ref_c (a := a) (f := (i : Int)) (hp.old0 hA) (hp.old0 hT)) ?_
    intro v w hc hr
    rcases hr with ⟨hr2, rfl⟩ | ⟨hr2, rfl⟩
    · have hp := hp.ext hc
      refine WL.run 5 rfl ?_
      refine WL.a ?_
      refine WL.run 2 rfl ?_
      refine WL.call isFn36 rfl rfl (goes_c (a := gi ws (a + 2 + (i : Int))) (hp.old0 hR) (hp.old0 hM)) ?_
      intro v w hc hr
      obtain rfl := hr
      have hp := hp.ext hc
      refine WL.run 1 rfl ?_
      refine WL.fin ?_
      by_cases hc3 : (G (gi ws (a + 2 + (i : Int)))).isSome = true
      · refine W.cF rfl (congrArg not hc3) ?_
        refine W.skip ?_
        refine X.inN ?_
        refine X.thenN ?_
        refine W.reg ?_
        refine WL.v (X.add rfl rfl (in64 (by omega))) ?_
        refine WL.run 1 rfl ?_
        refine WL.nil ?_
        refine X.again (i + 1) ⟨rfl, rfl, rfl, rfl, trivial⟩ ?_ ?_
        · exact ⟨hp, by omega, lost_step hl (by assumption)⟩
        · omega
      refine W.cT rfl (congrArg not (Bool.eq_false_iff.2 hc3)) ?_
      refine W.sr ?_
      refine WL.run 1 rfl ?_
      refine WL.fin ?_
      refine W.ret ?_
      refine X.inR ?_
      refine X.thenR ?_
      refine X.thenR ?_
      refine X.inR ?_
      refine X.thenR ?_
      refine W.done hp (rs := [.tmp 4]) (vs := [.bool true]) (v := .bool true) rfl ⟨rfl, trivial⟩ rfl ?_
      rw [lostF_yes (i := i) (by omega) (by assumption)]
    (try simp only [fillW_length, moveW_length, List.length_set] at hr2); first | contradiction | (exfalso; omega) | (exfalso; simp_all; done)
  refine W.cF rfl (decide_eq_false hc1) ?_
  refine W.exit ?_
  refine X.thenE ?_
  refine X.thenE ?_
  refine X.inH ?_
  refine X.thenN ?_
  refine W.sr ?_
  refine WL.run 1 rfl ?_
  refine WL.fin ?_
  refine W.ret ?_
  refine W.done hp (rs := [.tmp 4]) (vs := [.bool false]) (v := .bool false) rfl ⟨rfl, trivial⟩ rfl ?_
  rw [lostF_no (fun q hq => hl q (by omega))]

theorem rplan_c {w0 : World} {p b t c : Nat} {ws : List Int} {cs : List Cls} {r : Nat} {s sv : Value} {l : List Spc} {st : List Int} (hA : (arenaR p b ws).ok w0) (hT : (tableR t c cs).ok w0) (hR : (blkR r (.cells (#[.pointer (some ⟨p, 0, none⟩), .pointer (some ⟨p, 0, none⟩), .pointer (some ⟨t, 0, none⟩), sv, .slice none 0 0, .map none]) 85 (0, 0))).ok w0)  (hV : (viewR encS 3 s l).ok w0) (hS : (viewR encI 1 sv st).ok w0) (hall : ∀ x ∈ l, spR x = true) (hl : l.length * 32 ≤ 140737488355328) (hs : st.length * 32 ≤ 140737488355328) (hAD : ∀ k ∈ (arenaR p b ws).foot, k ∉ [r]) (hTD : ∀ k ∈ (tableR t c cs).foot, k ∉ [r]) (hVD : ∀ k ∈ (viewR encS 3 s l).foot, k ∉ [r]) (hSD : ∀ k ∈ (viewR encI 1 sv st).foot, k ∉ [r])  :
    Calls Tryz.prog 32 #[.pointer (some ⟨r, 0, none⟩), s] w0 (Ret [r] w0 (fun v w => ((walksF ws cs [] l = none ∨ ∃ al, walksF ws cs [] l = some al ∧ ¬ ∀ x ∈ st, x ∈ al) ∧ v = .tuple #[.slice none 0 0, .int .i64 12]) ∨ (∃ al, walksF ws cs [] l = some al ∧ (∀ x ∈ st, x ∈ al) ∧ (planR l (st.map fun a => (atT ws cs a).words)).1 ≠ 0 ∧ v = .tuple #[.slice none 0 0, .int .i64 (planR l (st.map fun a => (atT ws cs a).words)).1]) ∨ ∃ al, walksF ws cs [] l = some al ∧ (∀ x ∈ st, x ∈ al) ∧ (planR l (st.map fun a => (atT ws cs a).words)).1 = 0 ∧ ∃ q z m, v = .tuple #[q, .int .i64 0] ∧ Hp w0 [r] [ownR 56 encS 3 q (planR l (st.map fun a => (atT ws cs a).words)).2.2, ownR 3 encI 1 z (st.map fun a => (atT ws cs a).words), blkR r (.cells #[.pointer (some ⟨p, 0, none⟩), .pointer (some ⟨p, 0, none⟩), .pointer (some ⟨t, 0, none⟩), sv, z, .map (some m)] 85 (0, 0)), mapR encN m (toG (st.zip (planR l (st.map fun a => (atT ws cs a).words)).2.1))] w)) := by
  have hp : Hp w0 [r] [blkR r (.cells (#[.pointer (some ⟨p, 0, none⟩), .pointer (some ⟨p, 0, none⟩), .pointer (some ⟨t, 0, none⟩), sv, .slice none 0 0, .map none]) 85 (0, 0))] w0 := Hp.one hR (by simp [blkR])
  have hsl := view_len_le hS
  refine enter (vs := [.pointer (some ⟨r, 0, none⟩), s]) Tryz.func32 rfl rfl rfl ?_
  refine gen_world hp ?_
  intro w hp
  refine W.sr ?_
  refine WL.run 2 rfl ?_
  refine WL.a ?_
  refine WL.run 2 rfl ?_
  refine WL.call isFn71 rfl rfl (rwalk_c (hp.old hA hAD) (hp.old hT hTD) (hp.at 0 rfl) (hp.old hV hVD) hall) ?_
  intro v w hc hr
  rcases hr with ⟨hq1, rfl⟩ | ⟨al2, m3, hq1, rfl, hN⟩
  · have hp := hp.ext hc
    refine WL.run 5 rfl ?_
    refine WL.s ?_
    refine W.sr ?_
    refine WL.run 2 rfl ?_
    refine WL.fin ?_
    refine W.cT rfl (decide_eq_true (by decide)) ?_
    refine W.sr ?_
    refine WL.run 3 rfl ?_
    refine WL.fin ?_
    refine W.ret ?_
    refine X.thenR ?_
    refine W.done hp (rs := [.tmp 4, .tmp 5]) (vs := [.slice none 0 0, .int .i64 12]) (v := .tuple #[.slice none 0 0, .int .i64 12]) rfl ⟨rfl, rfl, trivial⟩ rfl ?_
    exact .inl ⟨.inl (by assumption), rfl⟩
  have hp := hp.newN hc hN
  refine WL.run 5 rfl ?_
  refine WL.s ?_
  refine W.sr ?_
  refine WL.run 2 rfl ?_
  refine WL.fin ?_
  refine W.cF rfl (decide_eq_false (by decide)) ?_
  refine W.k ?_
  refine W.seq ?_
  refine W.seq ?_
  have hp := hp.addNil 3 encI 1 encI_len (by omega)
  refine W.reg ?_
  refine WL.run 3 rfl ?_
  refine WL.v (X.ldk (hp.at 2 rfl) tA34 rfl rfl) ?_
  refine WL.v (view_len tL34 (hp.old hS hSD) rfl) ?_
  refine WL.run 1 rfl ?_
  refine WL.fin ?_
  refine W.block ?_
  refine W.loop (X := Nat × Value) (fun x_ => match x_ with | ⟨i, z⟩ => st.length - i) (fun x_ => match x_ with | ⟨i, z⟩ => [(0, .pointer (some ⟨r, 0, none⟩)), (1, s), (6, .map (some m3)), (29, sv), (30, .int .i64 (st.length : Int)), (31, .int .i64 (i : Int))]) (fun x_ w => match x_ with | ⟨i, z⟩ => Hp w0 [r] [ownR 3 encI 1 z ((st.take i).map fun a => (atT ws cs a).words), blkR r (.cells (#[.pointer (some ⟨p, 0, none⟩), .pointer (some ⟨p, 0, none⟩), .pointer (some ⟨t, 0, none⟩), sv, z, .map none]) 85 (0, 0)), mapR encB m3 (memF al2)] w ∧ i ≤ st.length ∧ ∀ q : Nat, q < i → st.getD q default ∈ al2) (0, .slice none 0 0) ⟨rfl, rfl, rfl, rfl, rfl, rfl, trivial⟩ ?_ ?_
  · exact ⟨(hp.sel [0, 2, 1] (by decide)), by omega, by omega⟩
  rintro ⟨i, z⟩ w ⟨hp, hi, hall2⟩
  refine W.sr ?_
  refine WL.run 1 rfl ?_
  refine WL.s ?_
  by_cases hc6 : (i : Int) < (st.length : Int)
  · refine W.cT rfl (decide_eq_true hc6) ?_
    refine W.k ?_
    refine W.seq ?_
    refine W.block ?_
    refine W.seq ?_
    have hlt : i < st.length := by omega
    have hsl := view_len_le hS
    refine W.reg ?_
    refine WL.v (X.idxV (j := i) (r := offOf sv + i * 1) tL34 tS3 (hp.old hS hSD) rfl rfl (by omega) (by omega) rfl) ?_
    refine WL.v (X.ld1 tA3 rfl (view_cell (j := i) (f := 0) (hp.old hS hSD) (get_some (by omega)) rfl (by omega))) ?_
    refine WL.run 1 rfl ?_
    refine WL.s ?_
    refine W.sr ?_
    refine WL.run 2 rfl ?_
    refine WL.v (X.lkE tM142 (tV4 _) (hp.at 2 rfl) rfl rfl (memF_lk _ _)) ?_
    refine WL.run 1 rfl ?_
    refine WL.fin ?_
    by_cases hc7 : (st.getD i default) ∈ al2
    · refine W.cF rfl (congrArg not (decide_eq_true hc7)) ?_
      refine W.ks ?_
      refine WL.run 3 rfl ?_
      refine WL.v (X.ldkA (hp.at 1 rfl) tA32 tS32 (vs := [.pointer (some ⟨p, 0, none⟩), .pointer (some ⟨t, 0, none⟩)]) rfl rfl) ?_
      refine WL.run 1 rfl ?_
      refine WL.call isFn72 rfl rfl (size_c (a := (st.getD i default)) (hp.old hA hAD) (hp.old hT hTD)) ?_
      intro v w hc hr
      obtain rfl := hr
      have hp := hp.ext hc
      refine WL.run 7 rfl ?_
      refine WL.b ?_
      refine WL.run 4 rfl ?_
      refine WL.v (X.ldk (hp.at 1 rfl) tA34 rfl rfl) ?_
      refine WL.run 1 rfl ?_
      refine WL.bsl hp (e := 3) (cs := #[.int .i64 ((atT ws cs (st.getD i default)).words)]) rfl (fun _ => by kernel_rfl) rfl ?_
      intro b8 w hp
      refine WL.append hp 1 rfl tL34 (zeroT_ex tZ3) tS3 tY3 rfl rfl (view_of_blk (l := [(atT ws cs (st.getD i default)).words]) hp 0 rfl encI_len (by omega) rfl (by simp) (by simp)) encI_one (by simp only [List.length_append, List.length_cons, List.length_nil, List.length_map, List.length_take]; omega) rfl ?_
      intro v9 w hp
      refine WL.run 2 rfl ?_
      refine WL.store hp 2 rfl tS34 rfl rfl (vs := [v9]) (view_cells1 (own_view (hp.at 1 rfl))) (by first | (simp only [List.all_cons, List.all_nil, Bool.and_true, view_one (own_view (hp.at 1 rfl))]; done) | (simp only [List.all_cons, List.all_nil, Bool.and_true, one_int, one_bool, one_ptr, one_map, one_sl, view_one (own_view (hp.at 1 rfl))]; done) | simp [Value.oneCell', view_one (own_view (hp.at 1 rfl))]) rfl (new := #[.pointer (some ⟨p, 0, none⟩), .pointer (some ⟨p, 0, none⟩), .pointer (some ⟨t, 0, none⟩), sv, v9, .map none]) rfl ?_
      intro w hp
      refine WL.nil ?_
      refine X.inN ?_
      refine X.thenN ?_
      refine W.reg ?_
      refine WL.v (X.add rfl rfl (in64 (by omega))) ?_
      refine WL.run 1 rfl ?_
      refine WL.nil ?_
      refine X.again (i + 1, v9) ⟨rfl, rfl, rfl, rfl, rfl, rfl, trivial⟩ ?_ ?_
      · exact ⟨by rw [take_getD hlt, List.map_append, List.map_singleton]; exact (hp.sel [1, 2, 3] (by decide)), by omega, mem_step hall2 (by assumption)⟩
      · dsimp only; omega
    refine W.cT rfl (congrArg not (decide_eq_false hc7)) ?_
    refine W.sr ?_
    refine WL.run 2 rfl ?_
    refine WL.fin ?_
    refine W.ret ?_
    refine X.thenR ?_
    refine X.inR ?_
    refine X.thenR ?_
    refine X.thenR ?_
    refine X.inR ?_
    refine X.thenR ?_
    refine W.done hp (rs := [.tmp 4, .tmp 5]) (vs := [.slice none 0 0, .int .i64 12]) (v := .tuple #[.slice none 0 0, .int .i64 12]) rfl ⟨rfl, rfl, trivial⟩ rfl ?_
    exact .inl ⟨.inr ⟨_, by assumption, fun q => ‹¬ _ ∈ _› (q _ (mem_getD hlt))⟩, rfl⟩
  refine W.cF rfl (decide_eq_false hc6) ?_
  refine W.exit ?_
  refine X.thenE ?_
  refine X.thenE ?_
  refine X.inH ?_
  refine X.thenN ?_
  refine W.seq ?_
  have hti : st.take i = st := List.take_of_length_le (by omega)
  have hall3 : ∀ x ∈ st, x ∈ al2 := mem_all (fun q hq => hall2 q (by omega))
  rw [hti] at hp
  refine W.reg ?_
  refine WL.run 4 rfl ?_
  refine WL.v (X.ldk (hp.at 1 rfl) tA34 rfl rfl) ?_
  refine WL.call isFn24 rfl rfl (plan_c (hp.old hV hVD) (own_view (hp.at 0 rfl)) (by first | ((try simp only [List.length_map]); omega) | decide) (by first | ((try simp only [List.length_map]); omega) | decide)) ?_
  intro v w hc hr
  rcases hr with ⟨hq10, o11, q12, rfl, hN⟩ | ⟨hq10, rfl⟩
  · have hp := hp.adds hN
    refine WL.run 7 rfl ?_
    refine WL.s ?_
    refine W.sr ?_
    refine WL.run 2 rfl ?_
    refine WL.fin ?_
    refine W.cF rfl (decide_eq_false (by decide)) ?_
    refine W.ks ?_
    refine WL.run 1 rfl ?_
    refine WL.mkmap (α := Int) encN hp rfl ?_
    intro m14 w hp
    refine WL.mins hp 0 rfl tM83 rfl rfl rfl rfl ?_
    intro w hp
    refine WL.run 3 rfl ?_
    refine WL.store hp 4 rfl tS83 rfl rfl (vs := [.map (some m14)]) rfl rfl rfl (new := #[.pointer (some ⟨p, 0, none⟩), .pointer (some ⟨p, 0, none⟩), .pointer (some ⟨t, 0, none⟩), sv, z, .map (some m14)]) rfl ?_
    intro w hp
    refine WL.s ?_
    refine W.seq ?_
    have hpl0 : (planR l (st.map fun a => (atT ws cs a).words)).1 = 0 := by assumption
    have hpll := planR_len hpl0
    simp only [List.length_map] at hpll
    have hp := hp.mapCongr 0 rfl (G' := toG ((st.zip (planR l (st.map fun a => (atT ws cs a).words)).2.1).take 0)) (fun _ => rfl)
    refine W.reg ?_
    refine WL.run 3 rfl ?_
    refine WL.v (X.ldk (hp.at 4 rfl) tA34 rfl rfl) ?_
    refine WL.v (view_len tL34 (hp.old hS hSD) rfl) ?_
    refine WL.run 1 rfl ?_
    refine WL.fin ?_
    refine W.block ?_
    refine W.loop (X := Nat) (fun i => st.length - i) (fun i => [(0, .pointer (some ⟨r, 0, none⟩)), (13, o11), (14, q12), (81, sv), (82, .int .i64 (st.length : Int)), (83, .int .i64 (i : Int))]) (fun i w => Hp w0 [r] [ownR 3 encI 1 o11 ((planR l (st.map fun a => (atT ws cs a).words)).2.1), ownR 56 encS 3 q12 ((planR l (st.map fun a => (atT ws cs a).words)).2.2), ownR 3 encI 1 z (st.map fun a => (atT ws cs a).words), blkR r (.cells (#[.pointer (some ⟨p, 0, none⟩), .pointer (some ⟨p, 0, none⟩), .pointer (some ⟨t, 0, none⟩), sv, z, .map (some m14)]) 85 (0, 0)), mapR encN m14 (toG ((st.zip (planR l (st.map fun a => (atT ws cs a).words)).2.1).take i))] w ∧ i ≤ st.length) 0 ⟨rfl, rfl, rfl, rfl, rfl, rfl, trivial⟩ ?_ ?_
    · exact ⟨(hp.sel [1, 2, 3, 4, 0] (by decide)), by omega⟩
    rintro i w ⟨hp, hi⟩
    refine W.sr ?_
    refine WL.run 1 rfl ?_
    refine WL.s ?_
    by_cases hc15 : (i : Int) < (st.length : Int)
    · refine W.cT rfl (decide_eq_true hc15) ?_
      refine W.k ?_
      refine W.seq ?_
      refine W.block ?_
      refine W.seq ?_
      have hlt : i < st.length := by omega
      refine W.reg ?_
      refine WL.run 1 rfl ?_
      refine WL.v (X.idxV (j := i) (r := offOf sv + i * 1) tL34 tS3 (hp.old hS hSD) rfl rfl (by omega) (by omega) rfl) ?_
      refine WL.v (X.ld1 tA3 rfl (view_cell (j := i) (f := 0) (hp.old hS hSD) (get_some (by omega)) rfl (by omega))) ?_
      refine WL.run 2 rfl ?_
      refine WL.fin ?_
      refine W.draw prog_mixed (fun w => (ownR 3 encI 1 o11 ((planR l (st.map fun a => (atT ws cs a).words)).2.1)).ok w ∧ (ownR 56 encS 3 q12 ((planR l (st.map fun a => (atT ws cs a).words)).2.2)).ok w ∧ (ownR 3 encI 1 z (st.map fun a => (atT ws cs a).words)).ok w ∧ (blkR r (.cells (#[.pointer (some ⟨p, 0, none⟩), .pointer (some ⟨p, 0, none⟩), .pointer (some ⟨t, 0, none⟩), sv, z, .map (some m14)]) 85 (0, 0))).ok w ∧ (arenaR p b ws).ok w ∧ (tableR t c cs).ok w ∧ (viewR encS 3 s l).ok w ∧ (viewR encI 1 sv st).ok w ∧ True) hp ?_
      intro w hp
      refine WD.s ⟨hp.at 0 rfl, hp.at 1 rfl, hp.at 2 rfl, hp.at 3 rfl, (hp.old hA hAD), (hp.old hT hTD), (hp.old hV hVD), (hp.old hS hSD), trivial⟩ fun hS0 => ?_
      refine WD.v 0 rfl hS0 (fun w hS => (X.mv rfl)) ?_
      refine WD.v 1 rfl hS0 (fun w hS => (X.nilc rfl)) ?_
      refine WD.v 2 rfl hS0 (fun w hS => (X.fa (r := 5) tF85_4 rfl rfl)) ?_
      refine WD.v 3 rfl hS0 (fun w hS => (X.ldk hS.2.2.2.1 tA83 rfl rfl)) ?_
      refine WD.v 4 rfl hS0 (fun w hS => (X.mv rfl)) ?_
      refine WD.v 5 rfl hS0 (fun w hS => (X.mv rfl)) ?_
      refine WD.v 6 rfl hS0 (fun w hS => (X.mv rfl)) ?_
      refine WD.v 7 rfl hS0 (fun w hS => (X.idxV (j := i) (r := offOf o11 + i * 1) tL34 tS3 (own_view hS.1) rfl rfl (by omega) (by omega) rfl)) ?_
      refine WD.v 8 rfl hS0 (fun w hS => (X.ld1 tA3 rfl (view_cell (j := i) (f := 0) (own_view hS.1) (get_some (by omega)) rfl (by omega)))) ?_
      refine WD.one 9 (by kernel_rfl) ?_
      refine WO.mupd hp 4 rfl rfl tM83 rfl rfl rfl rfl ?_
      intro w hp
      refine andS ⟨hp.at 0 rfl, hp.at 1 rfl, hp.at 2 rfl, hp.at 3 rfl, (hp.old hA hAD), (hp.old hT hTD), (hp.old hV hVD), (hp.old hS hSD), trivial⟩ fun hS0 => ?_
      refine WD.nil (by kernel_rfl) ?_
      refine X.inN ?_
      refine X.thenN ?_
      have hp := hp.mapCongr 4 rfl (G' := toG ((st.zip (planR l (st.map fun a => (atT ws cs a).words)).2.1).take (i + 1))) (toG_step hlt (by omega))
      refine W.reg ?_
      refine WL.v (X.add rfl rfl (in64 (by omega))) ?_
      refine WL.run 1 rfl ?_
      refine WL.nil ?_
      refine X.again (i + 1) ⟨rfl, rfl, rfl, rfl, rfl, rfl, trivial⟩ ?_ ?_
      · exact ⟨hp, by omega⟩
      · omega
    refine W.cF rfl (decide_eq_false hc15) ?_
    refine W.exit ?_
    refine X.thenE ?_
    refine X.thenE ?_
    refine X.inH ?_
    refine X.thenN ?_
    refine W.sr ?_
    refine WL.run 3 rfl ?_
    refine WL.fin ?_
    refine W.ret ?_
    refine W.done hp (rs := [.tmp 4, .tmp 5]) (vs := [q12, .int .i64 0]) (v := .tuple #[q12, .int .i64 0]) rfl ⟨rfl, rfl, trivial⟩ rfl ?_
    have hz : (st.zip (planR l (st.map fun a => (atT ws cs a).words)).2.1).take i = st.zip (planR l (st.map fun a => (atT ws cs a).words)).2.1 := List.take_of_length_le (by rw [List.length_zip]; omega)
    rw [hz] at hp
    exact .inr (.inr ⟨_, by assumption, hall3, hpl0, _, z, m14, rfl, (hp.sel [1, 2, 3, 4] (by decide))⟩)
  have hp := hp.ext hc
  refine WL.run 7 rfl ?_
  refine WL.s ?_
  refine W.sr ?_
  refine WL.run 2 rfl ?_
  refine WL.fin ?_
  refine W.cT rfl (decide_eq_true hq10) ?_
  refine W.sr ?_
  refine WL.run 3 rfl ?_
  refine WL.fin ?_
  refine W.ret ?_
  refine X.thenR ?_
  refine W.done hp (rs := [.tmp 4, .tmp 5]) (vs := [.slice none 0 0, .int .i64 ((planR l (st.map fun a => (atT ws cs a).words)).1)]) (v := .tuple #[.slice none 0 0, .int .i64 ((planR l (st.map fun a => (atT ws cs a).words)).1)]) rfl ⟨rfl, rfl, trivial⟩ rfl ?_
  exact .inr (.inl ⟨_, by assumption, hall3, by assumption, rfl⟩)

theorem rmove_c {w0 : World} {p b t c : Nat} {ws : List Int} {cs : List Cls} {r m : Nat} {sv zv : Value} {G : Int → Option Int} {a n : Int} (hA : (arenaR p b ws).ok w0) (hT : (tableR t c cs).ok w0) (hD : ∀ k ∈ [t, c], k ∉ [p, b]) (hR : (blkR r (.cells (#[.pointer (some ⟨p, 0, none⟩), .pointer (some ⟨p, 0, none⟩), .pointer (some ⟨t, 0, none⟩), sv, zv, .map (some m)]) 85 (0, 0))).ok w0)  (hM : (mapR encN m G).ok w0) (hRD : r ∉ [p, b]) (hMD : m ∉ [p, b]) (ho : objE ws cs a = 0) (hn : 0 ≤ n ∧ a + n ≤ ws.length) (hto : 0 ≤ (G a).getD 0 ∧ (G a).getD 0 + n ≤ ws.length) :
    Calls Tryz.prog 37 #[.pointer (some ⟨r, 0, none⟩), .int .i64 a, .int .i64 n] w0 (Ret [p, b] w0 (fun v w => v = .tuple #[] ∧ (arenaR p b (slMove ws cs G a n)).ok w)) := by
  have hp : Hp w0 [p, b] [arenaR p b ws] w0 := Hp.one hA (arena_nd hA)
  have hbd := objT_bd (table_all hT) ho
  have hsma := arena_small hA
  refine enter (vs := [.pointer (some ⟨r, 0, none⟩), .int .i64 a, .int .i64 n]) Tryz.func37 rfl rfl rfl ?_
  refine gen_world hp ?_
  intro w hp
  refine W.sr ?_
  refine WL.run 3 rfl ?_
  refine WL.v (X.ldkA (hp.old hR (by simpa [blkR] using hRD)) tA32 tS32 (vs := [.pointer (some ⟨p, 0, none⟩), .pointer (some ⟨t, 0, none⟩)]) rfl rfl) ?_
  refine WL.run 1 rfl ?_
  refine WL.call isFn20 rfl rfl (shape_c (a := a) (hp.at 0 rfl) (hp.old hT hD)) ?_
  intro v w hc hr
  obtain rfl := hr
  have hp := hp.ext hc
  refine WL.run 7 rfl ?_
  refine WL.s ?_
  refine W.sr ?_
  refine WL.run 2 rfl ?_
  refine WL.fin ?_
  refine W.block ?_
  refine W.loop (X := Nat) (fun i => (objT ws cs a).refs.toNat - i) (fun i => [(0, .pointer (some ⟨r, 0, none⟩)), (1, .int .i64 a), (2, .int .i64 n), (24, .int .i64 ((objT ws cs a).refs)), (25, .int .i64 (i : Int))]) (fun i w => Hp w0 [p, b] [arenaR p b (adjF ws G a i)] w ∧ i ≤ (objT ws cs a).refs.toNat) 0 ⟨rfl, rfl, rfl, rfl, rfl, trivial⟩ ?_ ?_
  · exact ⟨hp, by omega⟩
  rintro i w ⟨hp, hi⟩
  refine W.sr ?_
  refine WL.run 1 rfl ?_
  refine WL.s ?_
  by_cases hc1 : (i : Int) < ((objT ws cs a).refs)
  · refine W.cT rfl (decide_eq_true hc1) ?_
    refine W.k ?_
    refine W.seq ?_
    refine W.block ?_
    refine W.sr ?_
    refine WL.run 2 rfl ?_
    refine WL.s ?_
    have hee : objE (adjF ws G a i) cs a = 0 := by rw [adjF_objE hbd.1]; exact ho
    have htt : objT (adjF ws G a i) cs a = objT ws cs a := adjF_objT hbd.1 i
    have hre : refE (adjF ws G a i) cs a (i : Int) = 0 := refE_ok hee (by omega) (by rw [htt]; omega)
    refine W.reg ?_
    refine WL.run 3 rfl ?_
    refine WL.v (X.ldkA (hp.old hR (by simpa [blkR] using hRD)) tA32 tS32 (vs := [.pointer (some ⟨p, 0, none⟩), .pointer (some ⟨t, 0, none⟩)]) rfl rfl) ?_
    refine WL.run 2 rfl ?_
    refine WL.call isFn74 rfl rfl (ref_c (a := a) (f := (i : Int)) (hp.at 0 rfl) (hp.old hT hD)) ?_
    intro v w hc hr
    rcases hr with ⟨hr2, rfl⟩ | ⟨hr2, rfl⟩
    · have hp := hp.ext hc
      refine WL.run 5 rfl ?_
      refine WL.fin ?_
      refine W.draw prog_mixed (fun w => (tableR t c cs).ok w ∧ (blkR r (.cells (#[.pointer (some ⟨p, 0, none⟩), .pointer (some ⟨p, 0, none⟩), .pointer (some ⟨t, 0, none⟩), sv, zv, .map (some m)]) 85 (0, 0))).ok w ∧ (mapR encN m G).ok w ∧ True) hp ?_
      intro w hp
      refine WD.s ⟨(hp.old hT hD), (hp.old hR (by simpa [blkR] using hRD)), (hp.old hM (by simpa [mapR] using hMD)), trivial⟩ fun hS0 => ?_
      refine WD.v 0 rfl hS0 (fun w hS => (X.mv rfl)) ?_
      refine WD.v 1 rfl hS0 (fun w hS => (X.nilc rfl)) ?_
      refine WD.v 2 rfl hS0 (fun w hS => (X.fa (r := 1) tF85_1 rfl rfl)) ?_
      refine WD.v 3 rfl hS0 (fun w hS => (X.ldkA hS.2.1 tA32 tS32 (vs := [.pointer (some ⟨p, 0, none⟩), .pointer (some ⟨t, 0, none⟩)]) rfl rfl)) ?_
      refine WD.v 4 rfl hS0 (fun w hS => (X.mv rfl)) ?_
      refine WD.v 5 rfl hS0 (fun w hS => (X.mv rfl)) ?_
      refine WD.v 6 rfl hS0 (fun w hS => (X.mv rfl)) ?_
      refine WD.v 7 rfl hS0 (fun w hS => (X.nilc rfl)) ?_
      refine WD.v 8 rfl hS0 (fun w hS => (X.fa (r := 5) tF85_4 rfl rfl)) ?_
      refine WD.v 9 rfl hS0 (fun w hS => (X.ldk hS.2.1 tA83 rfl rfl)) ?_
      refine WD.v 10 rfl hS0 (fun w hS => (X.mv rfl)) ?_
      refine WD.v 11 rfl hS0 (fun w hS => (X.lkE tM83 (tV3 _) hS.2.2.1 rfl rfl (encN_lk _))) ?_
      refine WD.one 12 (by kernel_rfl) ?_
      refine WO.call rfl isFn21 rfl rfl (setref_c (a := a) (f := (i : Int)) (x := (G (gi (adjF ws G a i) (a + 2 + (i : Int)))).getD 0) (hp.at 0 rfl) (hp.old hT hD) hD) ?_
      intro v w hc hr
      rcases hr with ⟨hr3, rfl, hA⟩ | ⟨hr3, rfl, hA⟩
      · have hp := hp.arena 0 rfl hc hA
        refine andS ⟨(hp.old hT hD), (hp.old hR (by simpa [blkR] using hRD)), (hp.old hM (by simpa [mapR] using hMD)), trivial⟩ fun hS0 => ?_
        refine WD.nil (by kernel_rfl) ?_
        refine X.inN ?_
        refine X.thenN ?_
        refine W.reg ?_
        refine WL.v (X.add rfl rfl (in64 (by omega))) ?_
        refine WL.run 1 rfl ?_
        refine WL.nil ?_
        refine X.again (i + 1) ⟨rfl, rfl, rfl, rfl, rfl, trivial⟩ ?_ ?_
        · exact ⟨hp, by omega⟩
        · omega
      (try simp only [fillW_length, moveW_length, List.length_set] at hr3); first | contradiction | (exfalso; omega) | (exfalso; simp_all; done)
    (try simp only [fillW_length, moveW_length, List.length_set] at hr2); first | contradiction | (exfalso; omega) | (exfalso; simp_all; done)
  refine W.cF rfl (decide_eq_false hc1) ?_
  refine W.exit ?_
  refine X.thenE ?_
  refine X.thenE ?_
  refine X.inH ?_
  refine X.thenN ?_
  refine W.seq ?_
  have hii : i = (objT ws cs a).refs.toNat := by omega
  subst hii
  have hee : objE (adjF ws G a (objT ws cs a).refs.toNat) cs a = 0 := by rw [adjF_objE hbd.1]; exact ho
  have htt : objT (adjF ws G a (objT ws cs a).refs.toNat) cs a = objT ws cs a := adjF_objT hbd.1 _
  have hsh := setHeadE_ok hee
  have hal := adjF_len ws G a (objT ws cs a).refs.toNat
  refine W.reg ?_
  refine WL.run 3 rfl ?_
  refine WL.v (X.ldkA (hp.old hR (by simpa [blkR] using hRD)) tA32 tS32 (vs := [.pointer (some ⟨p, 0, none⟩), .pointer (some ⟨t, 0, none⟩)]) rfl rfl) ?_
  refine WL.run 1 rfl ?_
  refine WL.call isFn58 rfl rfl (head_c (a := a) (hp.at 0 rfl) (hp.old hT hD)) ?_
  intro v w hc hr
  obtain rfl := hr
  have hp := hp.ext hc
  refine WL.run 3 rfl ?_
  refine WL.alloc hp tZ123 rfl ?_
  intro b4 w hp
  refine WL.store hp 0 rfl tS123 rfl rfl (vs := [.int .i64 ((objT (adjF ws G a (objT ws cs a).refs.toNat) cs a).hd.cls), .int .i64 ((objT (adjF ws G a (objT ws cs a).refs.toNat) cs a).hd.age), .int .i64 ((objT (adjF ws G a (objT ws cs a).refs.toNat) cs a).hd.fwd), .bool ((objT (adjF ws G a (objT ws cs a).refs.toNat) cs a).hd.mark), .bool ((objT (adjF ws G a (objT ws cs a).refs.toNat) cs a).hd.final), .bool ((objT (adjF ws G a (objT ws cs a).refs.toNat) cs a).hd.done)]) rfl rfl rfl (new := #[.int .i64 ((objT (adjF ws G a (objT ws cs a).refs.toNat) cs a).hd.cls), .int .i64 ((objT (adjF ws G a (objT ws cs a).refs.toNat) cs a).hd.age), .int .i64 ((objT (adjF ws G a (objT ws cs a).refs.toNat) cs a).hd.fwd), .bool ((objT (adjF ws G a (objT ws cs a).refs.toNat) cs a).hd.mark), .bool ((objT (adjF ws G a (objT ws cs a).refs.toNat) cs a).hd.final), .bool ((objT (adjF ws G a (objT ws cs a).refs.toNat) cs a).hd.done)]) rfl ?_
  intro w hp
  refine WL.run 1 rfl ?_
  refine WL.a ?_
  refine WL.run 1 rfl ?_
  refine WL.store hp 0 rfl tS4 rfl rfl (vs := [.bool false]) rfl rfl rfl (new := #[.int .i64 ((objT (adjF ws G a (objT ws cs a).refs.toNat) cs a).hd.cls), .int .i64 ((objT (adjF ws G a (objT ws cs a).refs.toNat) cs a).hd.age), .int .i64 ((objT (adjF ws G a (objT ws cs a).refs.toNat) cs a).hd.fwd), .bool false, .bool ((objT (adjF ws G a (objT ws cs a).refs.toNat) cs a).hd.final), .bool ((objT (adjF ws G a (objT ws cs a).refs.toNat) cs a).hd.done)]) rfl ?_
  intro w hp
  refine WL.run 1 rfl ?_
  refine WL.store hp 0 rfl tS3 rfl rfl (vs := [.int .i64 0]) rfl rfl rfl (new := #[.int .i64 ((objT (adjF ws G a (objT ws cs a).refs.toNat) cs a).hd.cls), .int .i64 ((objT (adjF ws G a (objT ws cs a).refs.toNat) cs a).hd.age), .int .i64 0, .bool false, .bool ((objT (adjF ws G a (objT ws cs a).refs.toNat) cs a).hd.final), .bool ((objT (adjF ws G a (objT ws cs a).refs.toNat) cs a).hd.done)]) rfl ?_
  intro w hp
  refine WL.s ?_
  refine W.draw prog_mixed (fun w => (blkR b4 (.cells (#[.int .i64 ((objT (adjF ws G a (objT ws cs a).refs.toNat) cs a).hd.cls), .int .i64 ((objT (adjF ws G a (objT ws cs a).refs.toNat) cs a).hd.age), .int .i64 0, .bool false, .bool ((objT (adjF ws G a (objT ws cs a).refs.toNat) cs a).hd.final), .bool ((objT (adjF ws G a (objT ws cs a).refs.toNat) cs a).hd.done)]) 123 (0, 0))).ok w ∧ (tableR t c cs).ok w ∧ (blkR r (.cells (#[.pointer (some ⟨p, 0, none⟩), .pointer (some ⟨p, 0, none⟩), .pointer (some ⟨t, 0, none⟩), sv, zv, .map (some m)]) 85 (0, 0))).ok w ∧ (mapR encN m G).ok w ∧ True) hp ?_
  intro w hp
  refine WD.s ⟨hp.at 0 rfl, (hp.old hT hD), (hp.old hR (by simpa [blkR] using hRD)), (hp.old hM (by simpa [mapR] using hMD)), trivial⟩ fun hS0 => ?_
  refine WD.v 0 rfl hS0 (fun w hS => (X.mv rfl)) ?_
  refine WD.v 1 rfl hS0 (fun w hS => (X.nilc rfl)) ?_
  refine WD.v 2 rfl hS0 (fun w hS => (X.fa (r := 1) tF85_1 rfl rfl)) ?_
  refine WD.v 3 rfl hS0 (fun w hS => (X.ldkA hS.2.2.1 tA32 tS32 (vs := [.pointer (some ⟨p, 0, none⟩), .pointer (some ⟨t, 0, none⟩)]) rfl rfl)) ?_
  refine WD.v 4 rfl hS0 (fun w hS => (X.mv rfl)) ?_
  refine WD.v 5 rfl hS0 (fun w hS => (X.ldkA hS.1 tA123 tS123 (vs := [.int .i64 ((objT (adjF ws G a (objT ws cs a).refs.toNat) cs a).hd.cls), .int .i64 ((objT (adjF ws G a (objT ws cs a).refs.toNat) cs a).hd.age), .int .i64 0, .bool false, .bool ((objT (adjF ws G a (objT ws cs a).refs.toNat) cs a).hd.final), .bool ((objT (adjF ws G a (objT ws cs a).refs.toNat) cs a).hd.done)]) rfl rfl)) ?_
  refine WD.one 6 (by kernel_rfl) ?_
  refine WO.call rfl isFn59 rfl rfl (sethead_c (a := a) (h := (⟨(objT (adjF ws G a (objT ws cs a).refs.toNat) cs a).hd.cls, (objT (adjF ws G a (objT ws cs a).refs.toNat) cs a).hd.age, 0, false, (objT (adjF ws G a (objT ws cs a).refs.toNat) cs a).hd.final, (objT (adjF ws G a (objT ws cs a).refs.toNat) cs a).hd.done⟩ : Hd)) (hp.at 1 rfl) (hp.old hT hD) hD) ?_
  intro v w hc hr
  rcases hr with ⟨hr5, rfl, hA⟩ | ⟨hr5, rfl, hA⟩
  · have hp := hp.arena 1 rfl hc hA
    refine andS ⟨hp.at 0 rfl, (hp.old hT hD), (hp.old hR (by simpa [blkR] using hRD)), (hp.old hM (by simpa [mapR] using hMD)), trivial⟩ fun hS0 => ?_
    refine WD.nil (by kernel_rfl) ?_
    refine X.thenN ?_
    refine W.draw prog_mixed (fun w => (blkR b4 (.cells (#[.int .i64 ((objT (adjF ws G a (objT ws cs a).refs.toNat) cs a).hd.cls), .int .i64 ((objT (adjF ws G a (objT ws cs a).refs.toNat) cs a).hd.age), .int .i64 0, .bool false, .bool ((objT (adjF ws G a (objT ws cs a).refs.toNat) cs a).hd.final), .bool ((objT (adjF ws G a (objT ws cs a).refs.toNat) cs a).hd.done)]) 123 (0, 0))).ok w ∧ (tableR t c cs).ok w ∧ (blkR r (.cells (#[.pointer (some ⟨p, 0, none⟩), .pointer (some ⟨p, 0, none⟩), .pointer (some ⟨t, 0, none⟩), sv, zv, .map (some m)]) 85 (0, 0))).ok w ∧ (mapR encN m G).ok w ∧ True) hp ?_
    intro w hp
    refine WD.s ⟨hp.at 0 rfl, (hp.old hT hD), (hp.old hR (by simpa [blkR] using hRD)), (hp.old hM (by simpa [mapR] using hMD)), trivial⟩ fun hS0 => ?_
    refine WD.v 0 rfl hS0 (fun w hS => (X.mv rfl)) ?_
    refine WD.v 1 rfl hS0 (fun w hS => (X.nilc rfl)) ?_
    refine WD.v 2 rfl hS0 (fun w hS => (X.fa (r := 0) tF85_0 rfl rfl)) ?_
    refine WD.v 3 rfl hS0 (fun w hS => (X.ldk hS.2.2.1 tA29 rfl rfl)) ?_
    refine WD.v 4 rfl hS0 (fun w hS => (X.mv rfl)) ?_
    refine WD.v 5 rfl hS0 (fun w hS => (X.nilc rfl)) ?_
    refine WD.v 6 rfl hS0 (fun w hS => (X.fa (r := 5) tF85_4 rfl rfl)) ?_
    refine WD.v 7 rfl hS0 (fun w hS => (X.ldk hS.2.2.1 tA83 rfl rfl)) ?_
    refine WD.v 8 rfl hS0 (fun w hS => (X.mv rfl)) ?_
    refine WD.v 9 rfl hS0 (fun w hS => (X.lkE tM83 (tV3 _) hS.2.2.2.1 rfl rfl (encN_lk _))) ?_
    refine WD.v 10 rfl hS0 (fun w hS => (X.mv rfl)) ?_
    refine WD.v 11 rfl hS0 (fun w hS => (X.mv rfl)) ?_
    refine WD.one 12 (by kernel_rfl) ?_
    refine WO.call rfl isFn75 rfl rfl (move_c (to := (G a).getD 0) (a := a) (k := n) (hp.at 1 rfl)) ?_
    intro v w hc hr
    rcases hr with ⟨hf6, hf7, hf8, hf9, hf10, rfl, hA⟩ | ⟨hf11, rfl, hA⟩
    · have hp := hp.arena 1 rfl hc hA
      refine andS ⟨hp.at 0 rfl, (hp.old hT hD), (hp.old hR (by simpa [blkR] using hRD)), (hp.old hM (by simpa [mapR] using hMD)), trivial⟩ fun hS0 => ?_
      refine WD.nil (by kernel_rfl) ?_
      refine W.doneN hp (rs := []) (vs := []) (v := .tuple #[]) rfl trivial rfl ?_
      have hA2 := hp.at 1 rfl
      rw [htt] at hA2
      exact ⟨rfl, hA2⟩
    (try simp only [fillW_length, moveW_length, List.length_set] at hf11); first | contradiction | (exfalso; omega) | (exfalso; simp_all; done)
  (try simp only [fillW_length, moveW_length, List.length_set] at hr5); first | contradiction | (exfalso; omega) | (exfalso; simp_all; done)

theorem nan_c {w0 : World} {x : Int} :
    Calls Tryz.prog 91 #[.int .i64 x] w0 (Ret [] w0 (fun v _ => v = .bool false)) := by
  have hp : Hp w0 [] [] w0 := Hp.init w0
  refine enter (vs := [.int .i64 x]) Tryz.func91 rfl rfl rfl ?_
  refine gen_world hp ?_
  intro w hp
  refine W.sr ?_
  refine WL.run 1 rfl ?_
  refine WL.a ?_
  refine WL.run 4 rfl ?_
  refine WL.fin ?_
  refine W.ret ?_
  refine W.done hp (rs := [.tmp 2]) (vs := [.bool (decide (x ≠ x))]) (v := .bool (decide (x ≠ x))) rfl ⟨rfl, trivial⟩ rfl ?_
  exact bool_val (by simp)

theorem less_c {w0 : World} {x y : Int} :
    Calls Tryz.prog 69 #[.int .i64 x, .int .i64 y] w0 (Ret [] w0 (fun v _ => v = .bool (decide (x < y)))) := by
  have hp : Hp w0 [] [] w0 := Hp.init w0
  refine enter (vs := [.int .i64 x, .int .i64 y]) Tryz.func69 rfl rfl rfl ?_
  refine gen_world hp ?_
  intro w hp
  refine W.sr ?_
  refine WL.run 1 rfl ?_
  refine WL.a ?_
  refine WL.run 1 rfl ?_
  refine WL.call isFn91 rfl rfl (nan_c (x := x)) ?_
  intro v w hc hr
  obtain rfl := hr
  have hp := hp.ext hc
  refine WL.run 1 rfl ?_
  refine WL.g0 rfl rfl rfl rfl ?_
  refine WL.g0 rfl rfl rfl rfl ?_
  refine WL.g0 rfl rfl rfl rfl ?_
  refine WL.v (X.pkF rfl rfl rfl) ?_
  refine WL.run 1 rfl ?_
  refine WL.g1 rfl rfl rfl ?_
  refine WL.run 1 rfl ?_
  refine WL.g1 rfl rfl rfl ?_
  refine WL.run 1 rfl ?_
  refine WL.g1 rfl rfl rfl ?_
  refine WL.run 1 rfl ?_
  refine WL.v (X.pkF rfl rfl rfl) ?_
  refine WL.run 1 rfl ?_
  refine WL.fin ?_
  refine W.ret ?_
  refine W.done hp (rs := [.tmp 4]) (vs := [.bool (decide (x < y))]) (v := .bool (decide (x < y))) rfl ⟨rfl, trivial⟩ rfl ?_
  exact rfl

theorem issorted_c {w0 : World} {s : Value} {l : List Int} (hV : (viewR encI 1 s l).ok w0) :
    Calls Tryz.prog 25 #[s] w0 (Ret [] w0 (fun v _ => v = .bool (sortedB l))) := by
  have hp : Hp w0 [] [] w0 := Hp.init w0
  have hle := view_len_le hV
  refine enter (vs := [s]) Tryz.func25 rfl rfl rfl ?_
  refine gen_world hp ?_
  intro w hp
  refine W.sr ?_
  refine WL.run 1 rfl ?_
  refine WL.s ?_
  refine W.sr ?_
  refine WL.run 1 rfl ?_
  refine WL.v (view_len tL34 (hp.old0 hV) rfl) ?_
  refine WL.v (X.sub rfl rfl (in64 (by omega))) ?_
  refine WL.run 1 rfl ?_
  refine WL.fin ?_
  refine W.block ?_
  refine W.loop (X := Int) (fun j => j.toNat) (fun j => [(0, s), (3, .int .i64 j)]) (fun j w => Hp w0 [] [] w ∧ -1 ≤ j ∧ (j < l.length ∧ ∀ q : Nat, j < q → q < l.length → ¬ l.getD q default < l.getD (q - 1) default)) ((l.length : Int) - 1) ⟨rfl, rfl, trivial⟩ ?_ ?_
  · exact ⟨hp, by omega, by omega, by omega⟩
  rintro j w ⟨hp, h1, h2, hno⟩
  refine W.seq ?_
  refine W.sr ?_
  refine WL.run 2 rfl ?_
  refine WL.fin ?_
  by_cases hc1 : 0 < j
  · refine W.cT rfl (decide_eq_true hc1) ?_
    refine W.k ?_
    refine W.seq ?_
    refine W.block ?_
    refine W.seq ?_
    refine W.draw prog_mixed (fun w => (viewR encI 1 s l).ok w ∧ True) hp ?_
    intro w hp
    refine WD.s ⟨hp.old0 hV, trivial⟩ fun hS0 => ?_
    refine WD.v 0 rfl hS0 (fun w hS => (X.mv rfl)) ?_
    refine WD.v 1 rfl hS0 (fun w hS => (X.mv rfl)) ?_
    refine WD.v 2 rfl hS0 (fun w hS => (X.idxV (j := j.toNat) (r := offOf s + j.toNat * 1) tL34 tS3 hS.1 rfl rfl (by omega) (by omega) rfl)) ?_
    refine WD.v 3 rfl hS0 (fun w hS => (X.ld1 tA3 rfl (view_cell (j := j.toNat) (f := 0) hS.1 (get_some (by omega)) rfl (by omega)))) ?_
    refine WD.v 4 rfl hS0 (fun w hS => (X.mv rfl)) ?_
    refine WD.v 5 rfl hS0 (fun w hS => (X.mv rfl)) ?_
    refine WD.v 6 rfl hS0 (fun w hS => (X.sub rfl rfl (in64 (by omega)))) ?_
    refine WD.v 7 rfl hS0 (fun w hS => (X.idxV (j := (j - 1).toNat) (r := offOf s + ((j - 1).toNat) * 1) tL34 tS3 hS.1 rfl rfl (by omega) (by omega) rfl)) ?_
    refine WD.v 8 rfl hS0 (fun w hS => (X.ld1 tA3 rfl (view_cell (j := (j - 1).toNat) (f := 0) hS.1 (get_some (by omega)) rfl (by omega)))) ?_
    refine WD.one 9 (by kernel_rfl) ?_
    refine WO.call rfl isFn69 rfl rfl (less_c (x := (l.getD j.toNat default)) (y := (l.getD ((j - 1).toNat) default))) ?_
    intro v w hc hr
    obtain rfl := hr
    have hp := hp.ext hc
    refine andS ⟨hp.old0 hV, trivial⟩ fun hS0 => ?_
    refine WD.nil (by kernel_rfl) ?_
    refine X.thenN ?_
    by_cases hc2 : (l.getD j.toNat default) < (l.getD ((j - 1).toNat) default)
    · refine W.cT rfl (decide_eq_true hc2) ?_
      refine W.sr ?_
      refine WL.run 1 rfl ?_
      refine WL.fin ?_
      refine W.ret ?_
      refine X.inR ?_
      refine X.thenR ?_
      refine X.thenR ?_
      refine X.inR ?_
      refine X.thenR ?_
      refine W.done hp (rs := [.tmp 2]) (vs := [.bool false]) (v := .bool false) rfl ⟨rfl, trivial⟩ rfl ?_
      rw [sortedB_no (q := j.toNat) (by omega) (by omega) (by rw [show j.toNat - 1 = (j - 1).toNat from by omega]; assumption)]
    refine W.cF rfl (decide_eq_false hc2) ?_
    refine W.skip ?_
    refine X.inN ?_
    refine X.thenN ?_
    refine W.reg ?_
    refine WL.run 1 rfl ?_
    refine WL.v (X.sub rfl rfl (in64 (by omega))) ?_
    refine WL.run 1 rfl ?_
    refine WL.nil ?_
    refine X.again (j - 1) ⟨rfl, rfl, trivial⟩ ?_ ?_
    · exact ⟨hp, by omega, by omega, fun q h3 h4 => by
        by_cases hq : q = j.toNat
        · subst hq; rw [show j.toNat - 1 = (j - 1).toNat from by omega]; assumption
        · exact hno q (by omega) h4⟩
    · omega
  refine W.cF rfl (decide_eq_false hc1) ?_
  refine W.exit ?_
  refine X.thenE ?_
  refine X.thenE ?_
  refine X.inH ?_
  refine X.thenN ?_
  refine W.sr ?_
  refine WL.run 1 rfl ?_
  refine WL.fin ?_
  refine W.ret ?_
  refine W.done hp (rs := [.tmp 2]) (vs := [.bool true]) (v := .bool true) rfl ⟨rfl, trivial⟩ rfl ?_
  rw [sortedB_yes (fun q h3 h4 => hno q (by omega) h4)]

theorem compact_c {w0 : World} {s : Value} {l : List Int} (hO : (ownR 3 encI 1 s l).ok w0) :
    Calls Tryz.prog 26 #[s] w0 (Ret (ownR 3 encI 1 s l).foot w0 (fun v _ => ∃ A n c, v = .slice A n c ∧ (n = l.length ↔ noAdjB l = true))) := by
  have hp : Hp w0 (ownR 3 encI 1 s l).foot [ownR 3 encI 1 s l] w0 := Hp.one hO own_nd
  have hle := view_len_le (own_view hO)
  refine enter (vs := [s]) Tryz.func26 rfl rfl rfl ?_
  refine gen_world hp ?_
  intro w hp
  refine W.sr ?_
  refine WL.run 1 rfl ?_
  refine WL.s ?_
  refine W.sr ?_
  refine WL.run 1 rfl ?_
  refine WL.v (view_len tL34 (own_view (hp.at 0 rfl)) rfl) ?_
  refine WL.run 1 rfl ?_
  refine WL.fin ?_
  by_cases hc1 : (l.length : Int) < 2
  · refine W.cT rfl (decide_eq_true hc1) ?_
    refine W.sr ?_
    refine WL.run 2 rfl ?_
    refine WL.fin ?_
    refine W.ret ?_
    refine X.thenR ?_
    refine W.done hp (rs := [.tmp 2]) (vs := [s]) (v := s) rfl ⟨rfl, trivial⟩ rfl ?_
    obtain ⟨A, c, hv, _⟩ := (own_view hO).form
    exact ⟨A, _, c, hv, iff_of_true rfl (noAdjB_yes (fun q h3 h4 => by omega))⟩
  refine W.cF rfl (decide_eq_false hc1) ?_
  refine W.k ?_
  refine W.seq ?_
  refine W.seq ?_
  obtain ⟨gb, cap, rfl, hcap, hcap2⟩ := own_form (hp.at 0 rfl) (by omega)
  refine W.reg ?_
  refine WL.run 1 rfl ?_
  refine WL.fin ?_
  refine W.block ?_
  refine W.loop (X := Nat) (fun k => l.length - k) (fun k => [(0, .slice (some ⟨gb, 0, none⟩) l.length cap), (3, .int .i64 (k : Int))]) (fun k w => Hp w0 [gb] [ownR 3 encI 1 (.slice (some ⟨gb, 0, none⟩) l.length cap) l] w ∧ 1 ≤ k ∧ (k ≤ l.length ∧ ∀ q : Nat, 0 < q → q < k → ¬ l.getD q default = l.getD (q - 1) default)) 1 ⟨rfl, rfl, trivial⟩ ?_ ?_
  · exact ⟨hp, by omega, by omega, by omega⟩
  rintro k w ⟨hp, h1, h2, hno⟩
  refine W.seq ?_
  refine W.sr ?_
  refine WL.run 2 rfl ?_
  refine WL.v (X.len tL34 rfl) ?_
  refine WL.run 1 rfl ?_
  refine WL.fin ?_
  by_cases hc2 : (k : Int) < (l.length : Int)
  · refine W.cT rfl (decide_eq_true hc2) ?_
    refine W.k ?_
    refine W.seq ?_
    refine W.block ?_
    refine W.seq ?_
    refine W.draw prog_mixed (fun w => (ownR 3 encI 1 (.slice (some ⟨gb, 0, none⟩) l.length cap) l).ok w ∧ True) hp ?_
    intro w hp
    refine WD.s ⟨hp.at 0 rfl, trivial⟩ fun hS0 => ?_
    refine WD.v 0 rfl hS0 (fun w hS => (X.mv rfl)) ?_
    refine WD.v 1 rfl hS0 (fun w hS => (X.mv rfl)) ?_
    refine WD.v 2 rfl hS0 (fun w hS => (X.idxS (j := k) (r := k) tL34 tS3 rfl rfl (by omega) (by omega) (by omega))) ?_
    refine WD.v 3 rfl hS0 (fun w hS => (X.ld1 tA3 rfl (own_cell (j := k) hS.1 (by omega)))) ?_
    refine WD.v 4 rfl hS0 (fun w hS => (X.mv rfl)) ?_
    refine WD.v 5 rfl hS0 (fun w hS => (X.mv rfl)) ?_
    refine WD.v 6 rfl hS0 (fun w hS => (X.sub rfl rfl (in64 (by omega)))) ?_
    refine WD.v 7 rfl hS0 (fun w hS => (X.idxS (j := ((k : Int) - 1).toNat) (r := ((k : Int) - 1).toNat) tL34 tS3 rfl rfl (by omega) (by omega) (by omega))) ?_
    refine WD.v 8 rfl hS0 (fun w hS => (X.ld1 tA3 rfl (own_cell (j := ((k : Int) - 1).toNat) hS.1 (by omega)))) ?_
    refine WD.v 9 rfl hS0 (fun w hS => (X.eql rfl rfl)) ?_
    refine WD.nil (by kernel_rfl) ?_
    refine X.thenN ?_
    by_cases hc3 : (l.getD k default) = (l.getD (((k : Int) - 1).toNat) default)
    · refine W.cT rfl (decide_eq_true hc3) ?_
      refine W.seq ?_
      have heq0 := ‹l.getD k default = l.getD ((k : Int) - 1).toNat default›
      refine W.reg ?_
      refine WL.run 2 rfl ?_
      refine WL.v (X.slcL (lo := k) (r := .slice (some ⟨gb, k, none⟩) (l.length - k : Nat) (cap - k)) tL34 tS3 rfl rfl rfl (by omega) (by omega) (slice_eq2 (by omega))) ?_
      refine WL.run 1 rfl ?_
      refine WL.s ?_
      refine W.sr ?_
      refine WL.run 1 rfl ?_
      refine WL.fin ?_
      refine W.block ?_
      refine W.loop (X := Nat × Nat × List Int) (fun x_ => match x_ with | ⟨k1, k2, l1⟩ => l.length - k2) (fun x_ => match x_ with | ⟨k1, k2, l1⟩ => [(0, .slice (some ⟨gb, 0, none⟩) l.length cap), (3, .int .i64 (k1 : Int)), (4, .slice (some ⟨gb, k, none⟩) (l.length - k : Nat) (cap - k)), (5, .int .i64 (k2 : Int))]) (fun x_ w => match x_ with | ⟨k1, k2, l1⟩ => Hp w0 [gb] [ownR 3 encI 1 (.slice (some ⟨gb, 0, none⟩) l.length cap) l1] w ∧ 1 ≤ k2 ∧ k2 ≤ l.length - k ∧ l1.length = l.length ∧ k1 + 1 ≤ k + k2) (k, 1, l) ⟨rfl, rfl, rfl, rfl, trivial⟩ ?_ ?_
      · exact ⟨hp, by omega, by omega, rfl, by omega⟩
      rintro ⟨k1, k2, l1⟩ w ⟨hp, h3, h4, h5, h6⟩
      refine W.seq ?_
      refine W.sr ?_
      refine WL.run 2 rfl ?_
      refine WL.v (X.len tL34 rfl) ?_
      refine WL.run 1 rfl ?_
      refine WL.fin ?_
      by_cases hc4 : (k2 : Int) < ((l.length - k : Nat) : Int)
      · refine W.cT rfl (decide_eq_true hc4) ?_
        refine W.k ?_
        refine W.seq ?_
        refine W.block ?_
        refine W.seq ?_
        refine W.draw prog_mixed (fun w => (ownR 3 encI 1 (.slice (some ⟨gb, 0, none⟩) l.length cap) l1).ok w ∧ True) hp ?_
        intro w hp
        refine WD.s ⟨hp.at 0 rfl, trivial⟩ fun hS0 => ?_
        refine WD.v 0 rfl hS0 (fun w hS => (X.mv rfl)) ?_
        refine WD.v 1 rfl hS0 (fun w hS => (X.mv rfl)) ?_
        refine WD.v 2 rfl hS0 (fun w hS => (X.idxS (j := k2) (r := k + k2) tL34 tS3 rfl rfl (by omega) (by omega) (by omega))) ?_
        refine WD.v 3 rfl hS0 (fun w hS => (X.ld1 tA3 rfl (own_cell (j := k + k2) hS.1 (by omega)))) ?_
        refine WD.v 4 rfl hS0 (fun w hS => (X.mv rfl)) ?_
        refine WD.v 5 rfl hS0 (fun w hS => (X.mv rfl)) ?_
        refine WD.v 6 rfl hS0 (fun w hS => (X.sub rfl rfl (in64 (by omega)))) ?_
        refine WD.v 7 rfl hS0 (fun w hS => (X.idxS (j := ((k2 : Int) - 1).toNat) (r := k + ((k2 : Int) - 1).toNat) tL34 tS3 rfl rfl (by omega) (by omega) (by omega))) ?_
        refine WD.v 8 rfl hS0 (fun w hS => (X.ld1 tA3 rfl (own_cell (j := k + ((k2 : Int) - 1).toNat) hS.1 (by omega)))) ?_
        refine WD.v 9 rfl hS0 (fun w hS => (X.neq rfl rfl)) ?_
        refine WD.nil (by kernel_rfl) ?_
        refine X.thenN ?_
        by_cases hc5 : (l1.getD (k + k2) default) ≠ (l1.getD (k + ((k2 : Int) - 1).toNat) default)
        · refine W.cT rfl (decide_eq_true hc5) ?_
          refine W.sr ?_
          refine WL.run 4 rfl ?_
          refine WL.v (X.idxS (j := k2) (r := k + k2) tL34 tS3 rfl rfl (by omega) (by omega) (by omega)) ?_
          refine WL.v (X.ld1 tA3 rfl (own_cell (j := k + k2) (hp.at 0 rfl) (by omega))) ?_
          refine WL.v (X.idxS (j := k1) (r := k1) tL34 tS3 rfl rfl (by omega) (by omega) (by omega)) ?_
          refine WL.stOwn hp 0 rfl (j := k1) (f := 0) (q := (l1.getD k1 default)) (q' := (l1.getD (k + k2) default)) tS3 rfl rfl (vs := [.int .i64 (l1.getD (k + k2) default)]) rfl rfl (get_some (by omega)) rfl (by simp only [List.length_cons, List.length_nil]; omega) (by simp [offOf]) ?_
          intro w hp
          refine WL.b ?_
          refine WL.run 1 rfl ?_
          refine WL.v (X.add rfl rfl (in64 (by omega))) ?_
          refine WL.run 1 rfl ?_
          refine WL.nil ?_
          refine X.inN ?_
          refine X.thenN ?_
          refine W.reg ?_
          refine WL.run 1 rfl ?_
          refine WL.v (X.add rfl rfl (in64 (by omega))) ?_
          refine WL.run 1 rfl ?_
          refine WL.nil ?_
          refine X.again (k1 + 1, k2 + 1, l1.set k1 (l1.getD (k + k2) default)) ⟨rfl, rfl, rfl, rfl, trivial⟩ ?_ ?_
          · exact ⟨hp, by omega, by omega, by (try simp only [List.length_set]); exact h5, by omega⟩
          · dsimp only; omega
        refine W.cF rfl (decide_eq_false hc5) ?_
        refine W.skip ?_
        refine X.inN ?_
        refine X.thenN ?_
        refine W.reg ?_
        refine WL.run 1 rfl ?_
        refine WL.v (X.add rfl rfl (in64 (by omega))) ?_
        refine WL.run 1 rfl ?_
        refine WL.nil ?_
        refine X.again (k1, k2 + 1, l1) ⟨rfl, rfl, rfl, rfl, trivial⟩ ?_ ?_
        · exact ⟨hp, by omega, by omega, by (try simp only [List.length_set]); exact h5, by omega⟩
        · dsimp only; omega
      refine W.cF rfl (decide_eq_false hc4) ?_
      refine W.exit ?_
      refine X.thenE ?_
      refine X.thenE ?_
      refine X.inH ?_
      refine X.thenN ?_
      refine W.sr ?_
      refine WL.run 2 rfl ?_
      refine WL.v (X.slcL (lo := k1) (r := .slice (some ⟨gb, k1, none⟩) (l.length - k1 : Nat) (cap - k1)) tL34 tS3 rfl rfl rfl (by omega) (by omega) (slice_eq2 (by omega))) ?_
      refine WL.clearOwn hp 0 rfl tL34 tZ3 rfl rfl (by omega) (by omega) ?_
      intro w hp
      refine WL.a ?_
      refine WL.run 2 rfl ?_
      refine WL.v (X.slcH (hi := k1) tL34 tS3 rfl rfl rfl (by omega) (by omega)) ?_
      refine WL.run 1 rfl ?_
      refine WL.fin ?_
      refine W.ret ?_
      refine X.inR ?_
      refine X.thenR ?_
      refine X.thenR ?_
      refine X.inR ?_
      refine X.thenR ?_
      refine W.done hp (rs := [.tmp 2]) (vs := [.slice (some ⟨gb, 0, none⟩) k1 cap]) (v := .slice (some ⟨gb, 0, none⟩) k1 cap) rfl ⟨rfl, trivial⟩ rfl ?_
      exact ⟨_, k1, _, rfl, iff_of_false (by omega) (noAdjB_no (q := k) (by omega) (by omega) (by rw [show k - 1 = ((k : Int) - 1).toNat from by omega]; exact heq0))⟩
    refine W.cF rfl (decide_eq_false hc3) ?_
    refine W.skip ?_
    refine X.inN ?_
    refine X.thenN ?_
    refine W.reg ?_
    refine WL.run 1 rfl ?_
    refine WL.v (X.add rfl rfl (in64 (by omega))) ?_
    refine WL.run 1 rfl ?_
    refine WL.nil ?_
    refine X.again (k + 1) ⟨rfl, rfl, trivial⟩ ?_ ?_
    · exact ⟨hp, by omega, by omega, fun q h3 h4 => by
        by_cases hq : q = k
        · subst hq; rw [show q - 1 = ((q : Int) - 1).toNat from by omega]; assumption
        · exact hno q h3 (by omega)⟩
    · omega
  refine W.cF rfl (decide_eq_false hc2) ?_
  refine W.exit ?_
  refine X.thenE ?_
  refine X.thenE ?_
  refine X.inH ?_
  refine X.thenN ?_
  refine W.sr ?_
  refine WL.run 2 rfl ?_
  refine WL.fin ?_
  refine W.ret ?_
  refine W.done hp (rs := [.tmp 2]) (vs := [.slice (some ⟨gb, 0, none⟩) l.length cap]) (v := .slice (some ⟨gb, 0, none⟩) l.length cap) rfl ⟨rfl, trivial⟩ rfl ?_
  exact ⟨_, _, _, rfl, iff_of_true rfl (noAdjB_yes (fun q h3 h4 => hno q h3 (by omega)))⟩
end Go.Proofs.YtmmmbkmjkpfleaaGreat
