/- Walks, printed by gen.py from the specs L: what each function answers. No statement of the seat is proved here; conditions: each theorem's own. -/
import Derived.Test.YtmmmbkmjkpfleaaGreatPureV
import Derived.Test.YtmmmbkmjkpfleaaGreatResI
import Derived.Test.YtmmmbkmjkpfleaaGreatResJ
import Derived.Test.YtmmmbkmjkpfleaaGreatWJ
namespace Go.Proofs.YtmmmbkmjkpfleaaGreat
open Go Go.RowKit

theorem spRight2_c {w0 : World} {s : Spc} :
    Calls Tryz.prog 76 #[.agg #[.int .i64 s.from_, .int .i64 s.top, .int .i64 s.end_]] w0 (Ret [] w0 (fun v _ => v = .bool (spR s))) := by
  have hp : Hp w0 [] [] w0 := Hp.init w0
  refine enter (vs := [.agg #[.int .i64 s.from_, .int .i64 s.top, .int .i64 s.end_]]) Tryz.func76 rfl rfl rfl ?_
  refine gen_world hp ?_
  intro w hp
  refine W.sr ?_
  refine WL.box hp rfl (cs := #[.int .i64 s.from_, .int .i64 s.top, .int .i64 s.end_]) rfl rfl ?_
  intro b1 w hp
  refine WL.run 1 rfl ?_
  refine WL.a ?_
  refine WL.run 1 rfl ?_
  refine WL.v (X.ldk (hp.at 0 rfl) tA3 rfl rfl) ?_
  refine WL.run 2 rfl ?_
  by_cases hc2 : 0 ≤ s.from_
  · refine WL.g1 rfl rfl (decide_eq_true hc2) ?_
    refine WL.run 1 rfl ?_
    refine WL.g1 rfl rfl (decide_eq_true hc2) ?_
    refine WL.v (X.ldk (hp.at 0 rfl) tA3 rfl rfl) ?_
    refine WL.g1 rfl rfl (decide_eq_true hc2) ?_
    refine WL.run 1 rfl ?_
    refine WL.g1 rfl rfl (decide_eq_true hc2) ?_
    refine WL.v (X.ldk (hp.at 0 rfl) tA3 rfl rfl) ?_
    refine WL.g1 rfl rfl (decide_eq_true hc2) ?_
    refine WL.run 1 rfl ?_
    refine WL.v (X.pkT rfl (decide_eq_true hc2) rfl) ?_
    refine WL.run 1 rfl ?_
    by_cases hc3 : s.from_ ≤ s.top
    · refine WL.g1 rfl rfl (decide_eq_true hc3) ?_
      refine WL.run 1 rfl ?_
      refine WL.g1 rfl rfl (decide_eq_true hc3) ?_
      refine WL.v (X.ldk (hp.at 0 rfl) tA3 rfl rfl) ?_
      refine WL.g1 rfl rfl (decide_eq_true hc3) ?_
      refine WL.run 1 rfl ?_
      refine WL.g1 rfl rfl (decide_eq_true hc3) ?_
      refine WL.v (X.ldk (hp.at 0 rfl) tA3 rfl rfl) ?_
      refine WL.g1 rfl rfl (decide_eq_true hc3) ?_
      refine WL.run 1 rfl ?_
      refine WL.v (X.pkT rfl (decide_eq_true hc3) rfl) ?_
      refine WL.run 1 rfl ?_
      by_cases hc4 : s.top ≤ s.end_
      · refine WL.g1 rfl rfl (decide_eq_true hc4) ?_
        refine WL.run 1 rfl ?_
        refine WL.g1 rfl rfl (decide_eq_true hc4) ?_
        refine WL.v (X.ldk (hp.at 0 rfl) tA3 rfl rfl) ?_
        refine WL.g1 rfl rfl (decide_eq_true hc4) ?_
        refine WL.run 1 rfl ?_
        refine WL.v (X.pkT rfl (decide_eq_true hc4) rfl) ?_
        refine WL.run 1 rfl ?_
        refine WL.fin ?_
        refine W.ret ?_
        refine W.done hp (rs := [.tmp 2]) (vs := [.bool (decide (s.end_ ≤ 4096))]) (v := .bool (decide (s.end_ ≤ 4096))) rfl ⟨rfl, trivial⟩ rfl ?_
        exact bool_val (by simp only [Bool.false_eq_true, decide_eq_true_eq, spR_iff]; constructor <;> intro h_ <;> first | contradiction | omega | (exfalso; omega))
      refine WL.g0 rfl rfl (decide_eq_false hc4) rfl ?_
      refine WL.g0 rfl rfl (decide_eq_false hc4) rfl ?_
      refine WL.g0 rfl rfl (decide_eq_false hc4) rfl ?_
      refine WL.v (X.pkF rfl (decide_eq_false hc4) rfl) ?_
      refine WL.run 1 rfl ?_
      refine WL.fin ?_
      refine W.ret ?_
      refine W.done hp (rs := [.tmp 2]) (vs := [.bool false]) (v := .bool false) rfl ⟨rfl, trivial⟩ rfl ?_
      exact bool_val (by simp only [Bool.false_eq_true, decide_eq_true_eq, spR_iff]; constructor <;> intro h_ <;> first | contradiction | omega | (exfalso; omega))
    refine WL.g0 rfl rfl (decide_eq_false hc3) rfl ?_
    refine WL.g0 rfl rfl (decide_eq_false hc3) rfl ?_
    refine WL.g0 rfl rfl (decide_eq_false hc3) rfl ?_
    refine WL.g0 rfl rfl (decide_eq_false hc3) rfl ?_
    refine WL.g0 rfl rfl (decide_eq_false hc3) rfl ?_
    refine WL.v (X.pkF rfl (decide_eq_false hc3) rfl) ?_
    refine WL.run 1 rfl ?_
    refine WL.g0 rfl rfl rfl rfl ?_
    refine WL.g0 rfl rfl rfl rfl ?_
    refine WL.g0 rfl rfl rfl rfl ?_
    refine WL.v (X.pkF rfl rfl rfl) ?_
    refine WL.run 1 rfl ?_
    refine WL.fin ?_
    refine W.ret ?_
    refine W.done hp (rs := [.tmp 2]) (vs := [.bool false]) (v := .bool false) rfl ⟨rfl, trivial⟩ rfl ?_
    exact bool_val (by simp only [Bool.false_eq_true, decide_eq_true_eq, spR_iff]; constructor <;> intro h_ <;> first | contradiction | omega | (exfalso; omega))
  refine WL.g0 rfl rfl (decide_eq_false hc2) rfl ?_
  refine WL.g0 rfl rfl (decide_eq_false hc2) rfl ?_
  refine WL.g0 rfl rfl (decide_eq_false hc2) rfl ?_
  refine WL.g0 rfl rfl (decide_eq_false hc2) rfl ?_
  refine WL.g0 rfl rfl (decide_eq_false hc2) rfl ?_
  refine WL.v (X.pkF rfl (decide_eq_false hc2) rfl) ?_
  refine WL.run 1 rfl ?_
  refine WL.g0 rfl rfl rfl rfl ?_
  refine WL.g0 rfl rfl rfl rfl ?_
  refine WL.g0 rfl rfl rfl rfl ?_
  refine WL.g0 rfl rfl rfl rfl ?_
  refine WL.g0 rfl rfl rfl rfl ?_
  refine WL.v (X.pkF rfl rfl rfl) ?_
  refine WL.run 1 rfl ?_
  refine WL.g0 rfl rfl rfl rfl ?_
  refine WL.g0 rfl rfl rfl rfl ?_
  refine WL.g0 rfl rfl rfl rfl ?_
  refine WL.v (X.pkF rfl rfl rfl) ?_
  refine WL.run 1 rfl ?_
  refine WL.fin ?_
  refine W.ret ?_
  refine W.done hp (rs := [.tmp 2]) (vs := [.bool false]) (v := .bool false) rfl ⟨rfl, trivial⟩ rfl ?_
  exact bool_val (by simp only [Bool.false_eq_true, decide_eq_true_eq, spR_iff]; constructor <;> intro h_ <;> first | contradiction | omega | (exfalso; omega))

theorem rise16_c {w0 : World} {s : Value} {l : List Spc} (hV : (viewR encS 3 s l).ok w0)  :
    Calls Tryz.prog 38 #[s] w0 (Ret [] w0 (fun v _ => v = .bool (rise l))) := by
  have hp : Hp w0 [] [] w0 := Hp.init w0
  have hle := view_len_le hV
  refine enter (vs := [s]) Tryz.func38 rfl rfl rfl ?_
  refine gen_world hp ?_
  intro w hp
  refine W.sr ?_
  refine WL.run 1 rfl ?_
  refine WL.a ?_
  refine WL.run 1 rfl ?_
  refine WL.s ?_
  refine W.sr ?_
  refine WL.run 1 rfl ?_
  refine WL.v (view_len tL47 (hp.old0 hV) rfl) ?_
  refine WL.run 1 rfl ?_
  refine WL.fin ?_
  refine W.block ?_
  refine W.loop (X := Nat × Int) (fun x_ => match x_ with | ⟨i, e⟩ => l.length - i) (fun x_ => match x_ with | ⟨i, e⟩ => [(0, s), (3, .int .i64 e), (6, .int .i64 (l.length : Int)), (7, .int .i64 (i : Int))]) (fun x_ w => match x_ with | ⟨i, e⟩ => Hp w0 [] [] w ∧ i ≤ l.length ∧ rise l = riseF e (l.drop i)) (0, 1) ⟨rfl, rfl, rfl, rfl, trivial⟩ ?_ ?_
  · exact ⟨hp, by omega, rfl⟩
  rintro ⟨i, e⟩ w ⟨hp, hi, hr⟩
  refine W.sr ?_
  refine WL.run 1 rfl ?_
  refine WL.s ?_
  by_cases hc1 : (i : Int) < (l.length : Int)
  · refine W.cT rfl (decide_eq_true hc1) ?_
    refine W.k ?_
    refine W.seq ?_
    refine W.block ?_
    refine W.seq ?_
    have hlt : i < l.length := by omega
    refine W.reg ?_
    refine WL.run 2 rfl ?_
    refine WL.s ?_
    refine W.sr ?_
    refine WL.run 2 rfl ?_
    refine WL.v (X.idxV (j := i) (r := offOf s + i * 3) tL47 tS91 (hp.old0 hV) rfl rfl (by omega) (by omega) rfl) ?_
    refine WL.v (X.ldA tA91 tS91 rfl (cs := [.int .i64 ((l.getD i default).from_), .int .i64 ((l.getD i default).top), .int .i64 ((l.getD i default).end_)]) (view_cells (hp.old0 hV) (get_some (by omega)) (by omega))) ?_
    refine WL.call isFn76 rfl rfl (spRight2_c (s := (l.getD i default))) ?_
    intro v w hc hr
    obtain rfl := hr
    have hp := hp.ext hc
    refine WL.run 2 rfl ?_
    by_cases hc2 : spR (l.getD i default) = true
    · have hc2_ := spR_t hc2
      refine WL.g1 rfl rfl (congrArg not hc2) ?_
      refine WL.run 1 rfl ?_
      refine WL.g1 rfl rfl (congrArg not hc2) ?_
      refine WL.run 1 rfl ?_
      refine WL.g1 rfl rfl (congrArg not hc2) ?_
      refine WL.v (X.idxV (j := i) (r := offOf s + i * 3) tL47 tS91 (hp.old0 hV) rfl rfl (by omega) (by omega) rfl) ?_
      refine WL.g1 rfl rfl (congrArg not hc2) ?_
      refine WL.run 1 rfl ?_
      refine WL.g1 rfl rfl (congrArg not hc2) ?_
      refine WL.v (X.ld1 tA3 rfl (view_cell (j := i) (f := 0) (hp.old0 hV) (get_some (by omega)) rfl (by omega))) ?_
      refine WL.g1 rfl rfl (congrArg not hc2) ?_
      refine WL.run 1 rfl ?_
      refine WL.g1 rfl rfl (congrArg not hc2) ?_
      refine WL.run 1 rfl ?_
      refine WL.v (X.pkF rfl (congrArg not hc2) rfl) ?_
      refine WL.fin ?_
      by_cases hc3 : ((l.getD i default).from_) < e
      · refine W.cT rfl (decide_eq_true hc3) ?_
        refine W.sr ?_
        refine WL.run 1 rfl ?_
        refine WL.fin ?_
        refine W.ret ?_
        refine X.thenR ?_
        refine X.inR ?_
        refine X.thenR ?_
        refine X.thenR ?_
        refine X.inR ?_
        refine X.thenR ?_
        refine W.done hp (rs := [.tmp 2]) (vs := [.bool false]) (v := .bool false) rfl ⟨rfl, trivial⟩ rfl ?_
        first | (rw [hr, riseF_no hlt (fun q => by first | exact absurd q.1 ‹_› | exact q.2 ‹_›)]) | (rw [hr, List.drop_eq_nil_of_le (by omega)]; rfl)
      refine W.cF rfl (decide_eq_false hc3) ?_
      refine W.kr ?_
      refine WL.run 2 rfl ?_
      refine WL.v (X.idxV (j := i) (r := offOf s + i * 3) tL47 tS91 (hp.old0 hV) rfl rfl (by omega) (by omega) rfl) ?_
      refine WL.run 1 rfl ?_
      refine WL.v (X.ld1 tA3 rfl (view_cell (j := i) (f := 2) (hp.old0 hV) (get_some (by omega)) rfl (by omega))) ?_
      refine WL.run 1 rfl ?_
      refine WL.nil ?_
      refine X.inN ?_
      refine X.thenN ?_
      refine W.reg ?_
      refine WL.v (X.add rfl rfl (in64 (by omega))) ?_
      refine WL.run 1 rfl ?_
      refine WL.nil ?_
      refine X.again (i + 1, (l.getD i default).end_) ⟨rfl, rfl, rfl, rfl, trivial⟩ ?_ ?_
      · exact ⟨hp, by omega, by rw [hr, riseF_step hlt (by assumption) (by assumption)]⟩
      · dsimp only; omega
    have hc2_ := spR_f hc2
    refine WL.g0 rfl rfl (congrArg not (Bool.eq_false_iff.2 hc2)) rfl ?_
    refine WL.g0 rfl rfl (congrArg not (Bool.eq_false_iff.2 hc2)) rfl ?_
    refine WL.g0 rfl rfl (congrArg not (Bool.eq_false_iff.2 hc2)) rfl ?_
    refine WL.g0 rfl rfl (congrArg not (Bool.eq_false_iff.2 hc2)) rfl ?_
    refine WL.g0 rfl rfl (congrArg not (Bool.eq_false_iff.2 hc2)) rfl ?_
    refine WL.g0 rfl rfl (congrArg not (Bool.eq_false_iff.2 hc2)) rfl ?_
    refine WL.g0 rfl rfl (congrArg not (Bool.eq_false_iff.2 hc2)) rfl ?_
    refine WL.v (X.pkT rfl (congrArg not (Bool.eq_false_iff.2 hc2)) rfl) ?_
    refine WL.fin ?_
    refine W.cT rfl rfl ?_
    refine W.sr ?_
    refine WL.run 1 rfl ?_
    refine WL.fin ?_
    refine W.ret ?_
    refine X.thenR ?_
    refine X.inR ?_
    refine X.thenR ?_
    refine X.thenR ?_
    refine X.inR ?_
    refine X.thenR ?_
    refine W.done hp (rs := [.tmp 2]) (vs := [.bool false]) (v := .bool false) rfl ⟨rfl, trivial⟩ rfl ?_
    first | (rw [hr, riseF_no hlt (fun q => by first | exact absurd q.1 ‹_› | exact q.2 ‹_›)]) | (rw [hr, List.drop_eq_nil_of_le (by omega)]; rfl)
  refine W.cF rfl (decide_eq_false hc1) ?_
  refine W.exit ?_
  refine X.thenE ?_
  refine X.thenE ?_
  refine X.inH ?_
  refine X.thenN ?_
  refine W.sr ?_
  refine WL.run 1 rfl ?_
  refine WL.fin ?_
  refine W.ret ?_
  refine W.done hp (rs := [.tmp 2]) (vs := [.bool true]) (v := .bool true) rfl ⟨rfl, trivial⟩ rfl ?_
  first | (rw [hr, riseF_no hlt (fun q => by first | exact absurd q.1 ‹_› | exact q.2 ‹_›)]) | (rw [hr, List.drop_eq_nil_of_le (by omega)]; rfl)

theorem place16_c {w0 : World} {s : Value} {l : List Int} {x : Int} (hV : (viewR encI 1 s l).ok w0) :
    Calls Tryz.prog 40 #[s, .int .i64 x] w0 (Ret [] w0 (fun v _ => v = .int .i64 (placeF l x))) := by
  have hp : Hp w0 [] [] w0 := Hp.init w0
  have hle := view_len_le hV
  refine enter (vs := [s, .int .i64 x]) Tryz.func40 rfl rfl rfl ?_
  refine gen_world hp ?_
  intro w hp
  refine W.sr ?_
  refine WL.run 1 rfl ?_
  refine WL.s ?_
  refine W.sr ?_
  refine WL.run 1 rfl ?_
  refine WL.v (view_len tL34 (hp.old0 hV) rfl) ?_
  refine WL.run 1 rfl ?_
  refine WL.fin ?_
  refine W.block ?_
  refine W.loop (X := Nat) (fun i => l.length - i) (fun i => [(0, s), (1, .int .i64 x), (7, .int .i64 (l.length : Int)), (8, .int .i64 (i : Int))]) (fun i w => Hp w0 [] [] w ∧ i ≤ l.length ∧ ∀ q : Nat, q < i → ¬ l.getD q default = x) 0 ⟨rfl, rfl, rfl, rfl, trivial⟩ ?_ ?_
  · exact ⟨hp, by omega, by omega⟩
  rintro i w ⟨hp, hi, hno⟩
  refine W.sr ?_
  refine WL.run 1 rfl ?_
  refine WL.s ?_
  by_cases hc1 : (i : Int) < (l.length : Int)
  · refine W.cT rfl (decide_eq_true hc1) ?_
    refine W.k ?_
    refine W.seq ?_
    refine W.block ?_
    refine W.seq ?_
    have hlt : i < l.length := by omega
    refine W.reg ?_
    refine WL.run 2 rfl ?_
    refine WL.a ?_
    refine WL.run 2 rfl ?_
    refine WL.v (X.idxV (j := i) (r := offOf s + i * 1) tL34 tS3 (hp.old0 hV) rfl rfl (by omega) (by omega) rfl) ?_
    refine WL.v (X.ld1 tA3 rfl (view_cell (j := i) (f := 0) (hp.old0 hV) (get_some (by omega)) rfl (by omega))) ?_
    refine WL.run 2 rfl ?_
    refine WL.fin ?_
    by_cases hc2 : (l.getD i default) = x
    · refine W.cT rfl (decide_eq_true hc2) ?_
      refine W.sr ?_
      refine WL.run 2 rfl ?_
      refine WL.fin ?_
      refine W.ret ?_
      refine X.inR ?_
      refine X.thenR ?_
      refine X.thenR ?_
      refine X.inR ?_
      refine X.thenR ?_
      refine W.done hp (rs := [.tmp 4]) (vs := [.int .i64 (i : Int)]) (v := .int .i64 (i : Int)) rfl ⟨rfl, trivial⟩ rfl ?_
      rw [place_some hlt (by assumption) hno]
    refine W.cF rfl (decide_eq_false hc2) ?_
    refine W.skip ?_
    refine X.inN ?_
    refine X.thenN ?_
    refine W.reg ?_
    refine WL.v (X.add rfl rfl (in64 (by omega))) ?_
    refine WL.run 1 rfl ?_
    refine WL.nil ?_
    refine X.again (i + 1) ⟨rfl, rfl, rfl, rfl, trivial⟩ ?_ ?_
    · exact ⟨hp, by omega, fun q hq => by
        by_cases hqi : q = i
        · rw [hqi]; assumption
        · exact hno q (by omega)⟩
    · omega
  refine W.cF rfl (decide_eq_false hc1) ?_
  refine W.exit ?_
  refine X.thenE ?_
  refine X.thenE ?_
  refine X.inH ?_
  refine X.thenN ?_
  refine W.sr ?_
  refine WL.run 1 rfl ?_
  refine WL.fin ?_
  refine W.ret ?_
  refine W.done hp (rs := [.tmp 4]) (vs := [.int .i64 (-1)]) (v := .int .i64 (-1)) rfl ⟨rfl, trivial⟩ rfl ?_
  rw [place_none (fun q hq => hno q (by omega))]

theorem goes16_c {w0 : World} {s y : Value} {st to_ : List Int} {x : Int} (hV : (viewR encI 1 s st).ok w0) (hY : (viewR encI 1 y to_).ok w0) (hl : to_.length = st.length) :
    Calls Tryz.prog 43 #[s, y, .int .i64 x] w0 (Ret [] w0 (fun v _ => v = .tuple #[.int .i64 ((goesF st to_ x).getD 0), .bool (goesF st to_ x).isSome])) := by
  have hp : Hp w0 [] [] w0 := Hp.init w0
  have hpb := placeF_bd (l := st) (x := x)
  refine enter (vs := [s, y, .int .i64 x]) Tryz.func43 rfl rfl rfl ?_
  refine gen_world hp ?_
  intro w hp
  refine W.sr ?_
  refine WL.run 2 rfl ?_
  refine WL.s ?_
  refine W.sr ?_
  refine WL.run 2 rfl ?_
  refine WL.fin ?_
  by_cases hc1 : x = 0
  · refine W.cT rfl (decide_eq_true hc1) ?_
    refine W.sr ?_
    refine WL.run 2 rfl ?_
    refine WL.fin ?_
    refine W.ret ?_
    refine X.thenR ?_
    refine W.done hp (rs := [.tmp 6, .tmp 7]) (vs := [.int .i64 0, .bool true]) (v := .tuple #[.int .i64 0, .bool true]) rfl ⟨rfl, rfl, trivial⟩ rfl ?_
    unfold goesF; rw [if_pos (by assumption)]; rfl
  refine W.cF rfl (decide_eq_false hc1) ?_
  refine W.ks ?_
  refine WL.run 2 rfl ?_
  refine WL.call isFn40 rfl rfl (place16_c (x := x) (hp.old0 hV)) ?_
  intro v w hc hr
  obtain rfl := hr
  have hp := hp.ext hc
  refine WL.run 1 rfl ?_
  refine WL.s ?_
  refine W.sr ?_
  refine WL.run 2 rfl ?_
  refine WL.fin ?_
  by_cases hc2 : (placeF st x) < 0
  · refine W.cT rfl (decide_eq_true hc2) ?_
    refine W.sr ?_
    refine WL.run 2 rfl ?_
    refine WL.fin ?_
    refine W.ret ?_
    refine X.thenR ?_
    refine W.done hp (rs := [.tmp 6, .tmp 7]) (vs := [.int .i64 0, .bool false]) (v := .tuple #[.int .i64 0, .bool false]) rfl ⟨rfl, rfl, trivial⟩ rfl ?_
    unfold goesF; rw [if_neg (by assumption), if_pos (by assumption)]; rfl
  refine W.cF rfl (decide_eq_false hc2) ?_
  refine W.ks ?_
  refine WL.run 2 rfl ?_
  refine WL.v (X.idxV (j := (placeF st x).toNat) (r := offOf y + ((placeF st x).toNat) * 1) tL34 tS3 (hp.old0 hY) rfl rfl (by omega) (by omega) rfl) ?_
  refine WL.v (X.ld1 tA3 rfl (view_cell (j := (placeF st x).toNat) (f := 0) (hp.old0 hY) (get_some (by omega)) rfl (by omega))) ?_
  refine WL.run 2 rfl ?_
  refine WL.fin ?_
  refine W.ret ?_
  refine W.done hp (rs := [.tmp 6, .tmp 7]) (vs := [.int .i64 (to_.getD ((placeF st x).toNat) default), .bool true]) (v := .tuple #[.int .i64 (to_.getD ((placeF st x).toNat) default), .bool true]) rfl ⟨rfl, rfl, trivial⟩ rfl ?_
  unfold goesF; rw [if_neg (by assumption), if_neg (by assumption)]; rfl

theorem walk6_c {w0 : World} {q : Nat} {wv cv : Value} {ws : List Int} {cs : List Cls} (hQ : (blkR q (.cells (#[wv]) 59 (0, 0))).ok w0)  (hW : (viewR encI 1 wv ws).ok w0) {fr to : Int} (hC : (viewR clsV 4 cv cs).ok w0) (hcs : ∀ x ∈ cs, clsR x = true) (hfr : 0 ≤ fr ∧ fr ≤ 4096) (hto : 0 ≤ to ∧ to ≤ 4096) :
    Calls Tryz.prog 39 #[.agg #[.pointer (some ⟨q, 0, none⟩), cv], .int .i64 fr, .int .i64 to] w0 (Ret [] w0 (fun v w => ((walk ws cs fr to).1 = 0 ∧ ∃ s, v = .tuple #[s, .int .i64 0] ∧ New w0 w (ownR 3 encI 1 s (walk ws cs fr to).2)) ∨ ((walk ws cs fr to).1 ≠ 0 ∧ v = .tuple #[.slice none 0 0, .int .i64 (walk ws cs fr to).1]))) := by
  have hp : Hp w0 [] [] w0 := Hp.init w0
  have hle := view_len_le hW
  refine enter (vs := [.agg #[.pointer (some ⟨q, 0, none⟩), cv], .int .i64 fr, .int .i64 to]) Tryz.func39 rfl rfl rfl ?_
  refine gen_world hp ?_
  intro w hp
  refine W.sr ?_
  refine WL.box hp rfl (cs := #[.pointer (some ⟨q, 0, none⟩), cv]) rfl rfl ?_
  intro b1 w hp
  refine WL.run 2 rfl ?_
  refine WL.a ?_
  refine WL.run 1 rfl ?_
  refine WL.s ?_
  refine W.seq ?_
  have hp := hp.addNil 3 encI 1 encI_len (by omega)
  refine W.reg ?_
  refine WL.run 2 rfl ?_
  refine WL.fin ?_
  refine W.block ?_
  refine W.loop (X := Nat × Int × Value × List Int) (fun x_ => match x_ with | ⟨k, at_, v, out⟩ => k) (fun x_ => match x_ with | ⟨k, at_, v, out⟩ => [(2, .int .i64 to), (3, .pointer (some ⟨b1, 0, none⟩)), (8, v), (9, .int .i64 at_)]) (fun x_ w => match x_ with | ⟨k, at_, v, out⟩ => Hp w0 [] [ownR 3 encI 1 v out, blkR b1 (.cells (#[.pointer (some ⟨q, 0, none⟩), cv]) 42 (0, 0))] w ∧ walk ws cs fr to = walkF ws cs k at_ to out ∧ (to - at_).toNat < k ∧ fr ≤ at_ ∧ at_ ≤ max fr to ∧ (out.length : Int) ≤ at_ - fr) ((to - fr).toNat + 1, fr, .slice none 0 0, []) ⟨rfl, rfl, rfl, rfl, trivial⟩ ?_ ?_
  · exact ⟨hp, rfl, by omega, by omega, by omega, by simp⟩
  rintro ⟨k, at_, v, out⟩ w ⟨hp, hW6, hk, hlo, hhi, hlen⟩
  obtain ⟨k, rfl⟩ : ∃ m, k = m + 1 := ⟨k - 1, by omega⟩
  refine W.seq ?_
  refine W.sr ?_
  refine WL.run 3 rfl ?_
  refine WL.fin ?_
  by_cases hc2 : at_ < to
  · refine W.cT rfl (decide_eq_true hc2) ?_
    refine W.k ?_
    refine W.block ?_
    refine W.sr ?_
    refine WL.v (X.ldkA (hp.at 1 rfl) tA42 tS42 (vs := [.pointer (some ⟨q, 0, none⟩), cv]) rfl rfl) ?_
    refine WL.run 1 rfl ?_
    refine WL.call isFn41 rfl rfl (size6_c (a := at_) (hp.old0 hQ) (hp.old0 hW) (hp.old0 hC) hcs) ?_
    intro v w hc hr
    obtain rfl := hr
    have hp := hp.ext hc
    refine WL.run 7 rfl ?_
    refine WL.s ?_
    refine W.sr ?_
    refine WL.run 2 rfl ?_
    refine WL.fin ?_
    by_cases hc3 : (atE ws cs at_) ≠ 0
    · refine W.cT rfl (decide_eq_true hc3) ?_
      refine W.sr ?_
      refine WL.run 3 rfl ?_
      refine WL.fin ?_
      refine W.ret ?_
      refine X.thenR ?_
      refine X.inR ?_
      refine X.thenR ?_
      refine X.inR ?_
      refine X.thenR ?_
      refine W.done hp (rs := [.tmp 6, .tmp 7]) (vs := [.slice none 0 0, .int .i64 (atE ws cs at_)]) (v := .tuple #[.slice none 0 0, .int .i64 (atE ws cs at_)]) rfl ⟨rfl, rfl, trivial⟩ rfl ?_
      have hz := walkF_err (k := k) (to := to) (acc := out) (show ¬ to ≤ at_ by omega) (by assumption)
      exact .inr ⟨by rw [hW6, hz]; assumption, by rw [hW6, hz]⟩
    refine W.cF rfl (decide_eq_false hc3) ?_
    refine W.k ?_
    refine W.seq ?_
    refine W.seq ?_
    have hbd6 := atT_bd (ws := ws) (a := at_) hcs (Classical.not_not.1 (by assumption))
    refine W.reg ?_
    refine WL.run 3 rfl ?_
    refine WL.v (X.sub rfl rfl (in64 (by omega))) ?_
    refine WL.run 1 rfl ?_
    refine WL.fin ?_
    by_cases hc4 : (to - at_) < ((atT ws cs at_).words)
    · refine W.cT rfl (decide_eq_true hc4) ?_
      refine W.sr ?_
      refine WL.run 2 rfl ?_
      refine WL.fin ?_
      refine W.ret ?_
      refine X.thenR ?_
      refine X.inR ?_
      refine X.thenR ?_
      refine X.inR ?_
      refine X.thenR ?_
      refine W.done hp (rs := [.tmp 6, .tmp 7]) (vs := [.slice none 0 0, .int .i64 12]) (v := .tuple #[.slice none 0 0, .int .i64 12]) rfl ⟨rfl, rfl, trivial⟩ rfl ?_
      have hz := walkF_over (k := k) (acc := out) (show ¬ to ≤ at_ by omega) (by assumption) (by omega)
      exact .inr ⟨by rw [hW6, hz]; decide, by rw [hW6, hz]⟩
    refine W.cF rfl (decide_eq_false hc4) ?_
    refine W.k ?_
    refine W.seq ?_
    refine W.sr ?_
    refine WL.run 1 rfl ?_
    refine WL.fin ?_
    by_cases hc5 : ((atT ws cs at_).hd.cls) ≠ 0
    · refine W.cT rfl (decide_eq_true hc5) ?_
      refine W.reg ?_
      refine WL.run 2 rfl ?_
      refine WL.bsl hp (e := 3) (cs := #[.int .i64 at_]) rfl (fun _ => by kernel_rfl) rfl ?_
      intro b6 w hp
      refine WL.append hp 1 rfl tL34 (zeroT_ex tZ3) tS3 tY3 rfl rfl (view_of_blk (l := [at_]) hp 0 rfl encI_len (by omega) rfl (by simp) (by simp)) encI_one (by simp only [List.length_append, List.length_cons, List.length_nil]; omega) rfl ?_
      intro v7 w hp
      refine WL.run 1 rfl ?_
      refine WL.b ?_
      refine WL.run 2 rfl ?_
      refine WL.v (X.add rfl rfl (in64 (by omega))) ?_
      refine WL.run 1 rfl ?_
      refine WL.nil ?_
      refine X.inN ?_
      refine X.again (k, at_ + ((atT ws cs at_).words), v7, out ++ [at_]) ⟨rfl, rfl, rfl, rfl, trivial⟩ ?_ ?_
      · exact ⟨(hp.sel [1, 2] (by decide)), by rw [hW6, walkF_obj (by omega) (by assumption) (by omega) (by assumption)], by omega, by omega, by omega, by (try simp only [List.length_append, List.length_cons, List.length_nil]); omega⟩
      · dsimp only; omega
    refine W.cF rfl (decide_eq_false hc5) ?_
    refine W.kr ?_
    refine WL.run 2 rfl ?_
    refine WL.v (X.add rfl rfl (in64 (by omega))) ?_
    refine WL.run 1 rfl ?_
    refine WL.nil ?_
    refine X.inN ?_
    refine X.again (k, at_ + ((atT ws cs at_).words), v, out) ⟨rfl, rfl, rfl, rfl, trivial⟩ ?_ ?_
    · exact ⟨hp, by rw [hW6, walkF_gap (by omega) (by assumption) (by omega) (by assumption)], by omega, by omega, by omega, by (try simp only [List.length_append, List.length_cons, List.length_nil]); omega⟩
    · dsimp only; omega
  refine W.cF rfl (decide_eq_false hc2) ?_
  refine W.exit ?_
  refine X.thenE ?_
  refine X.thenE ?_
  refine X.inH ?_
  refine X.thenN ?_
  refine W.sr ?_
  refine WL.run 3 rfl ?_
  refine WL.fin ?_
  refine W.ret ?_
  refine W.done hp (rs := [.tmp 6, .tmp 7]) (vs := [v, .int .i64 0]) (v := .tuple #[v, .int .i64 0]) rfl ⟨rfl, rfl, trivial⟩ rfl ?_
  have hz := walkF_stop (ws := ws) (cs := cs) (k := k) (acc := out) (show to ≤ at_ by omega)
  exact .inl ⟨by rw [hW6, hz], v, rfl, by rw [hW6, hz]; exact hp.newAt 0 rfl⟩

theorem word4_c {w0 : World} {h : Hd} (hR : hdR h = true) :
    Calls Tryz.prog 46 #[.agg #[.int .i64 h.cls, .int .i64 h.age, .int .i64 h.fwd, .bool (h.mark), .bool (h.final), .bool (h.done)]] w0 (Ret [] w0 (fun v _ => v = .int .i64 (hdW h))) := by
  have hp : Hp w0 [] [] w0 := Hp.init w0
  have hRt := hdR_t hR
  refine enter (vs := [.agg #[.int .i64 h.cls, .int .i64 h.age, .int .i64 h.fwd, .bool (h.mark), .bool (h.final), .bool (h.done)]]) Tryz.func46 rfl rfl rfl ?_
  refine gen_world hp ?_
  intro w hp
  refine W.sr ?_
  refine WL.box hp rfl (cs := #[.int .i64 h.cls, .int .i64 h.age, .int .i64 h.fwd, .bool (h.mark), .bool (h.final), .bool (h.done)]) rfl rfl ?_
  intro b1 w hp
  refine WL.run 1 rfl ?_
  refine WL.a ?_
  refine WL.run 1 rfl ?_
  refine WL.v (X.ldk (hp.at 0 rfl) tA3 rfl rfl) ?_
  refine WL.run 1 rfl ?_
  refine WL.v (X.ldk (hp.at 0 rfl) tA3 rfl rfl) ?_
  refine WL.v (X.mul rfl rfl (in64 (by omega))) ?_
  refine WL.v (X.add rfl rfl (in64 (by omega))) ?_
  refine WL.run 1 rfl ?_
  refine WL.v (X.ldk (hp.at 0 rfl) tA3 rfl rfl) ?_
  refine WL.v (X.mul rfl rfl (in64 (by omega))) ?_
  refine WL.v (X.add rfl rfl (in64 (by omega))) ?_
  refine WL.run 1 rfl ?_
  refine WL.s ?_
  refine W.sr ?_
  refine WL.run 1 rfl ?_
  refine WL.v (X.ldk (hp.at 0 rfl) tA4 rfl rfl) ?_
  refine WL.fin ?_
  by_cases hc2 : h.mark = true
  · refine W.cT rfl hc2 ?_
    refine W.reg ?_
    refine WL.run 1 rfl ?_
    refine WL.v (X.add rfl rfl (in64 (by omega))) ?_
    refine WL.run 1 rfl ?_
    refine WL.s ?_
    refine W.sr ?_
    refine WL.run 1 rfl ?_
    refine WL.v (X.ldk (hp.at 0 rfl) tA4 rfl rfl) ?_
    refine WL.fin ?_
    by_cases hc3 : h.final = true
    · refine W.cT rfl hc3 ?_
      refine W.reg ?_
      refine WL.run 1 rfl ?_
      refine WL.v (X.add rfl rfl (in64 (by omega))) ?_
      refine WL.run 1 rfl ?_
      refine WL.s ?_
      refine W.sr ?_
      refine WL.run 1 rfl ?_
      refine WL.v (X.ldk (hp.at 0 rfl) tA4 rfl rfl) ?_
      refine WL.fin ?_
      by_cases hc4 : h.done = true
      · refine W.cT rfl hc4 ?_
        refine W.reg ?_
        refine WL.run 1 rfl ?_
        refine WL.v (X.add rfl rfl (in64 (by omega))) ?_
        refine WL.run 1 rfl ?_
        refine WL.a ?_
        refine WL.run 2 rfl ?_
        refine WL.fin ?_
        refine W.ret ?_
        refine W.done hp (rs := [.tmp 2]) (vs := [.int .i64 (((((h.cls + (64 * h.age)) + (8192 * h.fwd)) + 1024) + 2048) + 4096)]) (v := .int .i64 (((((h.cls + (64 * h.age)) + (8192 * h.fwd)) + 1024) + 2048) + 4096)) rfl ⟨rfl, trivial⟩ rfl ?_
        exact int_val (by unfold hdW b2i; simp_all; try omega)
      refine W.cF rfl (Bool.eq_false_iff.2 hc4) ?_
      refine W.ks ?_
      refine WL.run 2 rfl ?_
      refine WL.fin ?_
      refine W.ret ?_
      refine W.done hp (rs := [.tmp 2]) (vs := [.int .i64 ((((h.cls + (64 * h.age)) + (8192 * h.fwd)) + 1024) + 2048)]) (v := .int .i64 ((((h.cls + (64 * h.age)) + (8192 * h.fwd)) + 1024) + 2048)) rfl ⟨rfl, trivial⟩ rfl ?_
      exact int_val (by unfold hdW b2i; simp_all; try omega)
    refine W.cF rfl (Bool.eq_false_iff.2 hc3) ?_
    refine W.k ?_
    refine W.seq ?_
    refine W.sr ?_
    refine WL.run 1 rfl ?_
    refine WL.v (X.ldk (hp.at 0 rfl) tA4 rfl rfl) ?_
    refine WL.fin ?_
    by_cases hc5 : h.done = true
    · refine W.cT rfl hc5 ?_
      refine W.reg ?_
      refine WL.run 1 rfl ?_
      refine WL.v (X.add rfl rfl (in64 (by omega))) ?_
      refine WL.run 1 rfl ?_
      refine WL.a ?_
      refine WL.run 2 rfl ?_
      refine WL.fin ?_
      refine W.ret ?_
      refine W.done hp (rs := [.tmp 2]) (vs := [.int .i64 ((((h.cls + (64 * h.age)) + (8192 * h.fwd)) + 1024) + 4096)]) (v := .int .i64 ((((h.cls + (64 * h.age)) + (8192 * h.fwd)) + 1024) + 4096)) rfl ⟨rfl, trivial⟩ rfl ?_
      exact int_val (by unfold hdW b2i; simp_all; try omega)
    refine W.cF rfl (Bool.eq_false_iff.2 hc5) ?_
    refine W.ks ?_
    refine WL.run 2 rfl ?_
    refine WL.fin ?_
    refine W.ret ?_
    refine W.done hp (rs := [.tmp 2]) (vs := [.int .i64 (((h.cls + (64 * h.age)) + (8192 * h.fwd)) + 1024)]) (v := .int .i64 (((h.cls + (64 * h.age)) + (8192 * h.fwd)) + 1024)) rfl ⟨rfl, trivial⟩ rfl ?_
    exact int_val (by unfold hdW b2i; simp_all; try omega)
  refine W.cF rfl (Bool.eq_false_iff.2 hc2) ?_
  refine W.k ?_
  refine W.seq ?_
  refine W.sr ?_
  refine WL.run 1 rfl ?_
  refine WL.v (X.ldk (hp.at 0 rfl) tA4 rfl rfl) ?_
  refine WL.fin ?_
  by_cases hc6 : h.final = true
  · refine W.cT rfl hc6 ?_
    refine W.reg ?_
    refine WL.run 1 rfl ?_
    refine WL.v (X.add rfl rfl (in64 (by omega))) ?_
    refine WL.run 1 rfl ?_
    refine WL.s ?_
    refine W.sr ?_
    refine WL.run 1 rfl ?_
    refine WL.v (X.ldk (hp.at 0 rfl) tA4 rfl rfl) ?_
    refine WL.fin ?_
    by_cases hc7 : h.done = true
    · refine W.cT rfl hc7 ?_
      refine W.reg ?_
      refine WL.run 1 rfl ?_
      refine WL.v (X.add rfl rfl (in64 (by omega))) ?_
      refine WL.run 1 rfl ?_
      refine WL.a ?_
      refine WL.run 2 rfl ?_
      refine WL.fin ?_
      refine W.ret ?_
      refine W.done hp (rs := [.tmp 2]) (vs := [.int .i64 ((((h.cls + (64 * h.age)) + (8192 * h.fwd)) + 2048) + 4096)]) (v := .int .i64 ((((h.cls + (64 * h.age)) + (8192 * h.fwd)) + 2048) + 4096)) rfl ⟨rfl, trivial⟩ rfl ?_
      exact int_val (by unfold hdW b2i; simp_all; try omega)
    refine W.cF rfl (Bool.eq_false_iff.2 hc7) ?_
    refine W.ks ?_
    refine WL.run 2 rfl ?_
    refine WL.fin ?_
    refine W.ret ?_
    refine W.done hp (rs := [.tmp 2]) (vs := [.int .i64 (((h.cls + (64 * h.age)) + (8192 * h.fwd)) + 2048)]) (v := .int .i64 (((h.cls + (64 * h.age)) + (8192 * h.fwd)) + 2048)) rfl ⟨rfl, trivial⟩ rfl ?_
    exact int_val (by unfold hdW b2i; simp_all; try omega)
  refine W.cF rfl (Bool.eq_false_iff.2 hc6) ?_
  refine W.k ?_
  refine W.seq ?_
  refine W.sr ?_
  refine WL.run 1 rfl ?_
  refine WL.v (X.ldk (hp.at 0 rfl) tA4 rfl rfl) ?_
  refine WL.fin ?_
  by_cases hc8 : h.done = true
  · refine W.cT rfl hc8 ?_
    refine W.reg ?_
    refine WL.run 1 rfl ?_
    refine WL.v (X.add rfl rfl (in64 (by omega))) ?_
    refine WL.run 1 rfl ?_
    refine WL.a ?_
    refine WL.run 2 rfl ?_
    refine WL.fin ?_
    refine W.ret ?_
    refine W.done hp (rs := [.tmp 2]) (vs := [.int .i64 (((h.cls + (64 * h.age)) + (8192 * h.fwd)) + 4096)]) (v := .int .i64 (((h.cls + (64 * h.age)) + (8192 * h.fwd)) + 4096)) rfl ⟨rfl, trivial⟩ rfl ?_
    exact int_val (by unfold hdW b2i; simp_all; try omega)
  refine W.cF rfl (Bool.eq_false_iff.2 hc8) ?_
  refine W.ks ?_
  refine WL.run 2 rfl ?_
  refine WL.fin ?_
  refine W.ret ?_
  refine W.done hp (rs := [.tmp 2]) (vs := [.int .i64 ((h.cls + (64 * h.age)) + (8192 * h.fwd))]) (v := .int .i64 ((h.cls + (64 * h.age)) + (8192 * h.fwd))) rfl ⟨rfl, trivial⟩ rfl ?_
  exact int_val (by unfold hdW b2i; simp_all; try omega)

theorem list_c {w0 : World} {s : Value} {l : List Spc} (hV : (viewR encS 3 s l).ok w0) (hl : l.length * 32 ≤ 140737488355328) :
    Calls Tryz.prog 9 #[s] w0 (Ret [] w0 (fun v w => New w0 w (ownR 91 encS 3 v l))) := by
  have hp : Hp w0 [] [] w0 := Hp.init w0
  refine enter (vs := [s]) Tryz.func9 rfl rfl rfl ?_
  refine gen_world hp ?_
  intro w hp
  refine W.sr ?_
  refine WL.run 1 rfl ?_
  refine WL.a ?_
  refine WL.run 1 rfl ?_
  refine WL.s ?_
  refine W.seq ?_
  have hp := hp.addNil 91 encS 3 encS_len (by omega)
  refine W.reg ?_
  refine WL.run 1 rfl ?_
  refine WL.v (view_len tL33 (hp.old0 hV) rfl) ?_
  refine WL.run 1 rfl ?_
  refine WL.fin ?_
  refine W.block ?_
  refine W.loop (X := Nat × Value) (fun x_ => match x_ with | ⟨i, v⟩ => l.length - i) (fun x_ => match x_ with | ⟨i, v⟩ => [(0, s), (3, v), (6, .int .i64 (l.length : Int)), (7, .int .i64 (i : Int))]) (fun x_ w => match x_ with | ⟨i, v⟩ => Hp w0 [] [ownR 91 encS 3 v (l.take i)] w ∧ i ≤ l.length) (0, .slice none 0 0) ⟨rfl, rfl, rfl, rfl, trivial⟩ ?_ ?_
  · exact ⟨hp, by omega⟩
  rintro ⟨i, v⟩ w ⟨hp, hi⟩
  refine W.sr ?_
  refine WL.run 1 rfl ?_
  refine WL.s ?_
  by_cases hc1 : (i : Int) < (l.length : Int)
  · refine W.cT rfl (decide_eq_true hc1) ?_
    refine W.k ?_
    refine W.seq ?_
    refine W.block ?_
    refine W.seq ?_
    have hlt : i < l.length := by omega
    refine W.reg ?_
    refine WL.run 2 rfl ?_
    refine WL.b ?_
    refine WL.run 3 rfl ?_
    refine WL.v (X.idxV (j := i) (r := offOf s + i * 3) tL33 tS56 (hp.old0 hV) rfl rfl (by omega) (by omega) rfl) ?_
    refine WL.v (X.ldA tA56 tS56 rfl (cs := [.int .i64 ((l.getD i default).from_), .int .i64 ((l.getD i default).top), .int .i64 ((l.getD i default).end_)]) (view_cells (hp.old0 hV) (get_some (by omega)) (by omega))) ?_
    refine WL.bsl hp (e := 91) (cs := #[.int .i64 ((l.getD i default).from_), .int .i64 ((l.getD i default).top), .int .i64 ((l.getD i default).end_)]) rfl (fun _ => by kernel_rfl) rfl ?_
    intro b2 w hp
    refine WL.append hp 1 rfl tL47 (zeroT_ex tZ91) tS91 tY91 rfl rfl (view_of_blk (l := [(l.getD i default)]) hp 0 rfl encS_len (by omega) rfl (by simp) (by simp)) encS_one (by simp only [List.length_append, List.length_cons, List.length_nil, List.length_map, List.length_take]; omega) rfl ?_
    intro v3 w hp
    refine WL.run 1 rfl ?_
    refine WL.nil ?_
    refine X.inN ?_
    refine X.thenN ?_
    refine W.reg ?_
    refine WL.v (X.add rfl rfl (in64 (by omega))) ?_
    refine WL.run 1 rfl ?_
    refine WL.nil ?_
    refine X.again (i + 1, v3) ⟨rfl, rfl, rfl, rfl, trivial⟩ ?_ ?_
    · exact ⟨by rw [take_getD hlt]; exact (hp.sel [1] (by decide)), by omega⟩
    · dsimp only; omega
  refine W.cF rfl (decide_eq_false hc1) ?_
  refine W.exit ?_
  refine X.thenE ?_
  refine X.thenE ?_
  refine X.inH ?_
  refine X.thenN ?_
  refine W.sr ?_
  refine WL.run 2 rfl ?_
  refine WL.fin ?_
  refine W.ret ?_
  refine W.done hp (rs := [.tmp 2]) (vs := [v]) (v := v) rfl ⟨rfl, trivial⟩ rfl ?_
  have hti : l.take i = l := List.take_of_length_le (by omega)
  rw [hti] at hp
  exact hp.newAt 0 rfl

theorem sames_c {w0 : World} {s y : Value} {l k : List Spc} (hV : (viewR encS 3 s l).ok w0) (hY : (viewR encS 3 y k).ok w0) :
    Calls Tryz.prog 11 #[s, y] w0 (Ret [] w0 (fun v _ => v = .bool (decide (l = k)))) := by
  have hp : Hp w0 [] [] w0 := Hp.init w0
  have hle := view_len_le hV
  have hle2 := view_len_le hY
  refine enter (vs := [s, y]) Tryz.func11 rfl rfl rfl ?_
  refine gen_world hp ?_
  intro w hp
  refine W.sr ?_
  refine WL.run 1 rfl ?_
  refine WL.s ?_
  refine W.sr ?_
  refine WL.run 1 rfl ?_
  refine WL.v (view_len tL33 (hp.old0 hV) rfl) ?_
  refine WL.run 1 rfl ?_
  refine WL.v (view_len tL47 (hp.old0 hY) rfl) ?_
  refine WL.run 1 rfl ?_
  refine WL.fin ?_
  by_cases hc1 : (l.length : Int) ≠ (k.length : Int)
  · refine W.cT rfl (decide_eq_true hc1) ?_
    refine W.sr ?_
    refine WL.run 1 rfl ?_
    refine WL.fin ?_
    refine W.ret ?_
    refine X.thenR ?_
    refine W.done hp (rs := [.tmp 4]) (vs := [.bool false]) (v := .bool false) rfl ⟨rfl, trivial⟩ rfl ?_
    rw [decide_eq_false (fun q => by have := congrArg List.length q; omega)]
  refine W.cF rfl (decide_eq_false hc1) ?_
  refine W.k ?_
  refine W.seq ?_
  refine W.sr ?_
  refine WL.run 1 rfl ?_
  refine WL.v (view_len tL33 (hp.old0 hV) rfl) ?_
  refine WL.run 1 rfl ?_
  refine WL.fin ?_
  refine W.block ?_
  refine W.loop (X := Nat) (fun i => l.length - i) (fun i => [(0, s), (1, y), (12, .int .i64 (l.length : Int)), (13, .int .i64 (i : Int))]) (fun i w => Hp w0 [] [] w ∧ i ≤ l.length ∧ ∀ q : Nat, q < i → l.getD q default = k.getD q default) 0 ⟨rfl, rfl, rfl, rfl, trivial⟩ ?_ ?_
  · exact ⟨hp, by omega, by omega⟩
  rintro i w ⟨hp, hi, hno⟩
  refine W.sr ?_
  refine WL.run 1 rfl ?_
  refine WL.s ?_
  by_cases hc2 : (i : Int) < (l.length : Int)
  · refine W.cT rfl (decide_eq_true hc2) ?_
    refine W.k ?_
    refine W.seq ?_
    refine W.block ?_
    refine W.seq ?_
    have hll : l.length = k.length := by omega
    have hlt : i < l.length := by omega
    refine W.reg ?_
    refine WL.run 2 rfl ?_
    refine WL.s ?_
    refine W.draw prog_mixed (fun w => (viewR encS 3 s l).ok w ∧ (viewR encS 3 y k).ok w ∧ True) hp ?_
    intro w hp
    refine WD.s ⟨hp.old0 hV, hp.old0 hY, trivial⟩ fun hS0 => ?_
    refine WD.v 0 rfl hS0 (fun w hS => (X.mv rfl)) ?_
    refine WD.v 1 rfl hS0 (fun w hS => (X.mv rfl)) ?_
    refine WD.v 2 rfl hS0 (fun w hS => (X.idxV (j := i) (r := offOf s + i * 3) tL33 tS56 hS.1 rfl rfl (by omega) (by omega) rfl)) ?_
    refine WD.v 3 rfl hS0 (fun w hS => (X.ldA tA56 tS56 rfl (cs := [.int .i64 ((l.getD i default).from_), .int .i64 ((l.getD i default).top), .int .i64 ((l.getD i default).end_)]) (view_cells hS.1 (get_some (by omega)) (by omega)))) ?_
    refine WD.v 4 rfl hS0 (fun w hS => (X.mv rfl)) ?_
    refine WD.v 5 rfl hS0 (fun w hS => (X.mv rfl)) ?_
    refine WD.v 6 rfl hS0 (fun w hS => (X.idxV (j := i) (r := offOf y + i * 3) tL47 tS91 hS.2.1 rfl rfl (by omega) (by omega) rfl)) ?_
    refine WD.v 7 rfl hS0 (fun w hS => (X.ldA tA91 tS91 rfl (cs := [.int .i64 ((k.getD i default).from_), .int .i64 ((k.getD i default).top), .int .i64 ((k.getD i default).end_)]) (view_cells hS.2.1 (get_some (by omega)) (by omega)))) ?_
    refine WD.v 8 rfl hS0 (fun w hS => (X.neA (ks := [.i .i64, .i .i64, .i .i64]) (by kernel_rfl) rfl rfl rfl rfl (encS_eq (l.getD i default) (k.getD i default)))) ?_
    refine WD.nil (by kernel_rfl) ?_
    refine X.thenN ?_
    by_cases hc3 : (l.getD i default) = (k.getD i default)
    · refine W.cF rfl (congrArg not (decide_eq_true hc3)) ?_
      refine W.skip ?_
      refine X.inN ?_
      refine X.thenN ?_
      refine W.reg ?_
      refine WL.v (X.add rfl rfl (in64 (by omega))) ?_
      refine WL.run 1 rfl ?_
      refine WL.nil ?_
      refine X.again (i + 1) ⟨rfl, rfl, rfl, rfl, trivial⟩ ?_ ?_
      · exact ⟨hp, by omega, fun q hq => by
          by_cases hqi : q = i
          · rw [hqi]; exact (by first | assumption | exact Classical.not_not.1 (by assumption))
          · exact hno q (by omega)⟩
      · omega
    refine W.cT rfl (congrArg not (decide_eq_false hc3)) ?_
    refine W.sr ?_
    refine WL.run 1 rfl ?_
    refine WL.fin ?_
    refine W.ret ?_
    refine X.inR ?_
    refine X.thenR ?_
    refine X.thenR ?_
    refine X.inR ?_
    refine X.thenR ?_
    refine W.done hp (rs := [.tmp 4]) (vs := [.bool false]) (v := .bool false) rfl ⟨rfl, trivial⟩ rfl ?_
    rw [decide_eq_false (fun q => (by assumption : ¬ l.getD i default = k.getD i default) (by rw [q]))]
  refine W.cF rfl (decide_eq_false hc2) ?_
  refine W.exit ?_
  refine X.thenE ?_
  refine X.thenE ?_
  refine X.inH ?_
  refine X.thenN ?_
  refine W.seq ?_
  have hll : l.length = k.length := by omega
  refine W.reg ?_
  refine WL.run 1 rfl ?_
  refine WL.fin ?_
  refine W.ret ?_
  refine W.done hp (rs := [.tmp 4]) (vs := [.bool true]) (v := .bool true) rfl ⟨rfl, trivial⟩ rfl ?_
  rw [decide_eq_true (list_same hll (fun q hq => hno q (by omega)))]

set_option maxHeartbeats 1000000 in
theorem plan16_c {w0 : World} {s z : Value} {l : List Spc} {sz : List Int} (hV : (viewR encS 3 s l).ok w0) (hZ : (viewR encI 1 z sz).ok w0) (hl : l.length * 32 ≤ 140737488355328) (hs : sz.length * 32 ≤ 140737488355328) :
    Calls Tryz.prog 42 #[s, z] w0 (Ret [] w0 (fun v w => ((planR l sz).1 = 0 ∧ ∃ o q, v = .tuple #[o, q, .int .i64 0] ∧ Hp w0 [] [ownR 3 encI 1 o (planR l sz).2.1, ownR 91 encS 3 q (planR l sz).2.2] w) ∨ ((planR l sz).1 ≠ 0 ∧ v = .tuple #[.slice none 0 0, .slice none 0 0, .int .i64 (planR l sz).1]))) := by
  have hp : Hp w0 [] [] w0 := Hp.init w0
  have hle := view_len_le hV
  refine enter (vs := [s, z]) Tryz.func42 rfl rfl rfl ?_
  refine gen_world hp ?_
  intro w hp
  refine W.sr ?_
  refine WL.run 3 rfl ?_
  refine WL.s ?_
  refine W.sr ?_
  refine WL.run 1 rfl ?_
  refine WL.call isFn38 rfl rfl (rise16_c (hp.old0 hV)) ?_
  intro v w hc hr
  obtain rfl := hr
  have hp := hp.ext hc
  refine WL.run 1 rfl ?_
  refine WL.fin ?_
  by_cases hrise : rise l = true
  · refine W.cF rfl (congrArg not hrise) ?_
    refine W.k ?_
    refine W.seq ?_
    refine W.sr ?_
    refine WL.run 1 rfl ?_
    refine WL.v (view_len tL34 (hp.old0 hZ) rfl) ?_
    refine WL.run 1 rfl ?_
    refine WL.fin ?_
    refine W.block ?_
    refine W.loop (X := Nat) (fun i => sz.length - i) (fun i => [(0, s), (1, z), (17, .int .i64 (sz.length : Int)), (18, .int .i64 (i : Int))]) (fun i w => Hp w0 [] [] w ∧ i ≤ sz.length ∧ ∀ q : Nat, q < i → ¬ sz.getD q default < 1) 0 ⟨rfl, rfl, rfl, rfl, trivial⟩ ?_ ?_
    · exact ⟨hp, by omega, by omega⟩
    rintro i w ⟨hp, hi, hno⟩
    refine W.sr ?_
    refine WL.run 1 rfl ?_
    refine WL.s ?_
    by_cases hc2 : (i : Int) < (sz.length : Int)
    · refine W.cT rfl (decide_eq_true hc2) ?_
      refine W.k ?_
      refine W.seq ?_
      refine W.block ?_
      refine W.seq ?_
      have hlt7 : i < sz.length := by omega
      refine W.reg ?_
      refine WL.run 2 rfl ?_
      refine WL.a ?_
      refine WL.run 2 rfl ?_
      refine WL.v (X.idxV (j := i) (r := offOf z + i * 1) tL34 tS3 (hp.old0 hZ) rfl rfl (by omega) (by omega) rfl) ?_
      refine WL.v (X.ld1 tA3 rfl (view_cell (j := i) (f := 0) (hp.old0 hZ) (get_some (by omega)) rfl (by omega))) ?_
      refine WL.run 1 rfl ?_
      refine WL.fin ?_
      by_cases hc3 : (sz.getD i default) < 1
      · refine W.cT rfl (decide_eq_true hc3) ?_
        refine W.sr ?_
        refine WL.run 3 rfl ?_
        refine WL.fin ?_
        refine W.ret ?_
        refine X.inR ?_
        refine X.thenR ?_
        refine X.thenR ?_
        refine X.inR ?_
        refine X.thenR ?_
        refine W.done hp (rs := [.tmp 4, .tmp 5, .tmp 6]) (vs := [.slice none 0 0, .slice none 0 0, .int .i64 1]) (v := .tuple #[.slice none 0 0, .slice none 0 0, .int .i64 1]) rfl ⟨rfl, rfl, rfl, trivial⟩ rfl ?_
        have hb := planR_bad (l := l) (sz := sz) (.inr (List.any_eq_true.2 ⟨_, mem_getD hlt7, decide_eq_true (by assumption)⟩))
        exact .inr ⟨by rw [hb]; decide, by rw [hb]⟩
      refine W.cF rfl (decide_eq_false hc3) ?_
      refine W.skip ?_
      refine X.inN ?_
      refine X.thenN ?_
      refine W.reg ?_
      refine WL.v (X.add rfl rfl (in64 (by omega))) ?_
      refine WL.run 1 rfl ?_
      refine WL.nil ?_
      refine X.again (i + 1) ⟨rfl, rfl, rfl, rfl, trivial⟩ ?_ ?_
      · exact ⟨hp, by omega, fun q hq => by
          by_cases hqi : q = i
          · rw [hqi]; assumption
          · exact hno q (by omega)⟩
      · omega
    refine W.cF rfl (decide_eq_false hc2) ?_
    refine W.exit ?_
    refine X.thenE ?_
    refine X.thenE ?_
    refine X.inH ?_
    refine X.thenN ?_
    refine W.sr ?_
    refine WL.run 1 rfl ?_
    refine WL.a ?_
    refine WL.run 1 rfl ?_
    refine WL.s ?_
    refine W.seq ?_
    have hp := hp.addNil 91 encS 3 encS_len (by omega)
    refine W.reg ?_
    refine WL.run 1 rfl ?_
    refine WL.v (view_len tL47 (hp.old0 hV) rfl) ?_
    refine WL.run 1 rfl ?_
    refine WL.fin ?_
    refine W.block ?_
    refine W.loop (X := Nat × Value) (fun x_ => match x_ with | ⟨i, v⟩ => l.length - i) (fun x_ => match x_ with | ⟨i, v⟩ => [(0, s), (1, z), (8, .slice none 0 0), (9, v), (28, .int .i64 (l.length : Int)), (29, .int .i64 (i : Int))]) (fun x_ w => match x_ with | ⟨i, v⟩ => Hp w0 [] [ownR 91 encS 3 v ((l.take i).map spEmpty)] w ∧ i ≤ l.length) (0, .slice none 0 0) ⟨rfl, rfl, rfl, rfl, rfl, rfl, trivial⟩ ?_ ?_
    · exact ⟨hp, by omega⟩
    rintro ⟨i, v⟩ w ⟨hp, hi⟩
    refine W.sr ?_
    refine WL.run 1 rfl ?_
    refine WL.s ?_
    by_cases hc4 : (i : Int) < (l.length : Int)
    · refine W.cT rfl (decide_eq_true hc4) ?_
      refine W.k ?_
      refine W.seq ?_
      refine W.block ?_
      refine W.seq ?_
      have hlt : i < l.length := by omega
      refine W.reg ?_
      refine WL.run 2 rfl ?_
      refine WL.fin ?_
      refine W.draw prog_mixed (fun w => (viewR encS 3 s l).ok w ∧ (viewR encI 1 z sz).ok w ∧ True) hp ?_
      intro w hp
      refine WD.s ⟨hp.old0 hV, hp.old0 hZ, trivial⟩ fun hS0 => ?_
      refine WD.v 0 rfl hS0 (fun w hS => (X.mv rfl)) ?_
      refine WD.v 1 rfl hS0 (fun w hS => (X.mv rfl)) ?_
      refine WD.v 2 rfl hS0 (fun w hS => (X.mv rfl)) ?_
      refine WD.v 3 rfl hS0 (fun w hS => (X.idxV (j := i) (r := offOf s + i * 3) tL47 tS91 hS.1 rfl rfl (by omega) (by omega) rfl)) ?_
      refine WD.v 4 rfl hS0 (fun w hS => (X.fa (r := offOf s + i * 3) tF91_0 rfl rfl)) ?_
      refine WD.v 5 rfl hS0 (fun w hS => (X.ld1 tA3 rfl (view_cell (j := i) (f := 0) hS.1 (get_some (by omega)) rfl (by omega)))) ?_
      refine WD.v 6 rfl hS0 (fun w hS => (X.mv rfl)) ?_
      refine WD.v 7 rfl hS0 (fun w hS => (X.mv rfl)) ?_
      refine WD.v 8 rfl hS0 (fun w hS => (X.idxV (j := i) (r := offOf s + i * 3) tL47 tS91 hS.1 rfl rfl (by omega) (by omega) rfl)) ?_
      refine WD.v 9 rfl hS0 (fun w hS => (X.fa (r := offOf s + i * 3) tF91_0 rfl rfl)) ?_
      refine WD.v 10 rfl hS0 (fun w hS => (X.ld1 tA3 rfl (view_cell (j := i) (f := 0) hS.1 (get_some (by omega)) rfl (by omega)))) ?_
      refine WD.v 11 rfl hS0 (fun w hS => (X.mv rfl)) ?_
      refine WD.v 12 rfl hS0 (fun w hS => (X.mv rfl)) ?_
      refine WD.v 13 rfl hS0 (fun w hS => (X.idxV (j := i) (r := offOf s + i * 3) tL47 tS91 hS.1 rfl rfl (by omega) (by omega) rfl)) ?_
      refine WD.v 14 rfl hS0 (fun w hS => (X.fa (r := offOf s + i * 3 + 2) tF91_2 rfl rfl)) ?_
      refine WD.v 15 rfl hS0 (fun w hS => (X.ld1 tA3 rfl (view_cell (j := i) (f := 2) hS.1 (get_some (by omega)) rfl (by omega)))) ?_
      refine WD.v 16 rfl hS0 (fun w hS => (X.bld (v := .agg #[.int .i64 ((l.getD i default).from_), .int .i64 ((l.getD i default).from_), .int .i64 ((l.getD i default).end_)]) rfl (by kernel_rfl))) ?_
      refine WD.one 17 (by kernel_rfl) ?_
      refine WO.bsl hp rfl (e := 91) (cs := #[.int .i64 ((l.getD i default).from_), .int .i64 ((l.getD i default).from_), .int .i64 ((l.getD i default).end_)]) rfl (fun _ => by kernel_rfl) rfl ?_
      intro b5 w hp
      refine andS ⟨hp.old0 hV, hp.old0 hZ, trivial⟩ fun hS0 => ?_
      refine WD.one 18 (by kernel_rfl) ?_
      refine WO.append hp 1 rfl rfl tL47 (zeroT_ex tZ91) tS91 tY91 rfl rfl (view_of_blk (l := [(⟨(l.getD i default).from_, (l.getD i default).from_, (l.getD i default).end_⟩ : Spc)]) hp 0 rfl encS_len (by omega) rfl (by simp) (by simp)) encS_one (by simp only [List.length_append, List.length_cons, List.length_nil, List.length_map, List.length_take]; omega) rfl ?_
      intro v6 w hp
      refine andS ⟨hp.old0 hV, hp.old0 hZ, trivial⟩ fun hS0 => ?_
      refine WD.v 19 rfl hS0 (fun w hS => (X.as rfl)) ?_
      refine WD.nil (by kernel_rfl) ?_
      refine X.inN ?_
      refine X.thenN ?_
      refine W.reg ?_
      refine WL.v (X.add rfl rfl (in64 (by omega))) ?_
      refine WL.run 1 rfl ?_
      refine WL.nil ?_
      refine X.again (i + 1, v6) ⟨rfl, rfl, rfl, rfl, rfl, rfl, trivial⟩ ?_ ?_
      · exact ⟨by rw [take_getD hlt, List.map_append, List.map_singleton, (spEmpty_R (rise_all hrise _ (mem_getD hlt))).2]; exact (hp.sel [1] (by decide)), by omega⟩
      · dsimp only; omega
    refine W.cF rfl (decide_eq_false hc4) ?_
    refine W.exit ?_
    refine X.thenE ?_
    refine X.thenE ?_
    refine X.inH ?_
    refine X.thenN ?_
    refine W.seq ?_
    have hp : Hp w0 [] [ownR 91 encS 3 v (l.map spEmpty)] w := by
      rw [show l.map spEmpty = (l.take i).map spEmpty from by rw [List.take_of_length_le (by omega)]]; exact hp
    have hany : ¬ sz.any (fun n => decide (n < 1)) = true := any_no (fun q hq => hno q (by omega))
    have hp := hp.addNil 3 encI 1 encI_len (by omega)
    refine W.reg ?_
    refine WL.run 1 rfl ?_
    refine WL.s ?_
    refine W.sr ?_
    refine WL.run 1 rfl ?_
    refine WL.v (view_len tL34 (hp.old0 hZ) rfl) ?_
    refine WL.run 1 rfl ?_
    refine WL.fin ?_
    refine W.block ?_
    refine W.loop (X := Nat × Nat × List Spc × List Int × Value × Value) (fun x_ => match x_ with | ⟨i, k0, now, out, v, o⟩ => sz.length - i) (fun x_ => match x_ with | ⟨i, k0, now, out, v, o⟩ => [(0, s), (1, z), (9, v), (8, o), (11, .int .i64 (k0 : Int)), (53, .int .i64 (sz.length : Int)), (54, .int .i64 (i : Int))]) (fun x_ w => match x_ with | ⟨i, k0, now, out, v, o⟩ => Hp w0 [] [ownR 3 encI 1 o out, ownR 91 encS 3 v now] w ∧ i ≤ sz.length ∧ planF (l.map spEmpty) 0 sz [] = planF now k0 (sz.drop i) out ∧ now.length = l.length ∧ out.length = i ∧ (∀ x ∈ now, spR x = true) ∧ k0 ≤ now.length) (0, 0, l.map spEmpty, [], v, .slice none 0 0) ⟨rfl, rfl, rfl, rfl, rfl, rfl, rfl, trivial⟩ ?_ ?_
    · exact ⟨hp, by omega, rfl, by simp, rfl, map_empty_R hrise, by omega⟩
    rintro ⟨i, k0, now, out, v, o⟩ w ⟨hp, hi, hpl, hnl, hol, hall, hkl⟩
    refine W.sr ?_
    refine WL.run 1 rfl ?_
    refine WL.s ?_
    by_cases hc7 : (i : Int) < (sz.length : Int)
    · refine W.cT rfl (decide_eq_true hc7) ?_
      refine W.k ?_
      refine W.seq ?_
      refine W.block ?_
      refine W.seq ?_
      have hlt : i < sz.length := by omega
      have hn1 := any_lt1 hany hlt
      refine W.reg ?_
      refine WL.run 2 rfl ?_
      refine WL.c ?_
      refine W.loop (X := Nat) (fun k => now.length - k) (fun k => [(0, s), (1, z), (9, v), (8, o), (11, .int .i64 (k : Int)), (12, .int .i64 (i : Int)), (53, .int .i64 (sz.length : Int)), (54, .int .i64 (i : Int))]) (fun k w => Hp w0 [] [ownR 3 encI 1 o out, ownR 91 encS 3 v now] w ∧ k0 + fitL (sz.getD i default) (now.drop k0) = k + fitL (sz.getD i default) (now.drop k) ∧ k ≤ now.length) k0 ⟨rfl, rfl, rfl, rfl, rfl, rfl, rfl, rfl, trivial⟩ ?_ ?_
      · exact ⟨hp, rfl, by omega⟩
      rintro k w ⟨hp, hst, hkl2⟩
      refine W.seq ?_
      refine W.seq ?_
      have hkb : k < now.length → spR (now.getD k default) = true := fun h => hall _ (mem_getD h)
      have hkb2 : k < now.length → -5000 ≤ (now.getD k default).end_ - (now.getD k default).top ∧ (now.getD k default).end_ - (now.getD k default).top ≤ 5000 := fun h => by have := spR_t (hkb h); omega
      refine W.draw prog_mixed (fun w => (ownR 3 encI 1 o out).ok w ∧ (ownR 91 encS 3 v now).ok w ∧ (viewR encS 3 s l).ok w ∧ (viewR encI 1 z sz).ok w ∧ True) hp ?_
      intro w hp
      refine WD.s ⟨hp.at 0 rfl, hp.at 1 rfl, hp.old0 hV, hp.old0 hZ, trivial⟩ fun hS0 => ?_
      refine WD.v 0 rfl hS0 (fun w hS => (X.mv rfl)) ?_
      refine WD.v 1 rfl hS0 (fun w hS => (X.mv rfl)) ?_
      refine WD.v 2 rfl hS0 (fun w hS => (view_len tL47 (own_view hS.2.1) rfl)) ?_
      refine WD.v 3 rfl hS0 (fun w hS => (X.lss rfl rfl)) ?_
      refine WD.v 4 rfl hS0 (fun w hS => (X.mv rfl)) ?_
      by_cases hc8 : (k : Int) < (now.length : Int)
      · refine WD.gv 5 rfl rfl rfl rfl (decide_eq_true hc8) hS0 (fun w hS => (X.mv rfl)) ?_
        refine WD.gv 6 rfl rfl rfl rfl (decide_eq_true hc8) hS0 (fun w hS => (X.mv rfl)) ?_
        refine WD.gv 7 rfl rfl rfl rfl (decide_eq_true hc8) hS0 (fun w hS => (X.idxV (j := k) (r := offOf v + k * 3) tL47 tS91 (own_view hS.2.1) rfl rfl (by omega) (by omega) rfl)) ?_
        refine WD.gv 8 rfl rfl rfl rfl (decide_eq_true hc8) hS0 (fun w hS => (X.fa (r := offOf v + k * 3 + 2) tF91_2 rfl rfl)) ?_
        refine WD.gv 9 rfl rfl rfl rfl (decide_eq_true hc8) hS0 (fun w hS => (X.ld1 tA3 rfl (view_cell (j := k) (f := 2) (own_view hS.2.1) (get_some (by omega)) rfl (by omega)))) ?_
        refine WD.gv 10 rfl rfl rfl rfl (decide_eq_true hc8) hS0 (fun w hS => (X.mv rfl)) ?_
        refine WD.gv 11 rfl rfl rfl rfl (decide_eq_true hc8) hS0 (fun w hS => (X.mv rfl)) ?_
        refine WD.gv 12 rfl rfl rfl rfl (decide_eq_true hc8) hS0 (fun w hS => (X.idxV (j := k) (r := offOf v + k * 3) tL47 tS91 (own_view hS.2.1) rfl rfl (by omega) (by omega) rfl)) ?_
        refine WD.gv 13 rfl rfl rfl rfl (decide_eq_true hc8) hS0 (fun w hS => (X.fa (r := offOf v + k * 3 + 1) tF91_1 rfl rfl)) ?_
        refine WD.gv 14 rfl rfl rfl rfl (decide_eq_true hc8) hS0 (fun w hS => (X.ld1 tA3 rfl (view_cell (j := k) (f := 1) (own_view hS.2.1) (get_some (by omega)) rfl (by omega)))) ?_
        refine WD.gv 15 rfl rfl rfl rfl (decide_eq_true hc8) hS0 (fun w hS => (X.sub rfl rfl (in64 (by omega)))) ?_
        refine WD.gv 16 rfl rfl rfl rfl (decide_eq_true hc8) hS0 (fun w hS => (X.mv rfl)) ?_
        refine WD.gv 17 rfl rfl rfl rfl (decide_eq_true hc8) hS0 (fun w hS => (X.mv rfl)) ?_
        refine WD.gv 18 rfl rfl rfl rfl (decide_eq_true hc8) hS0 (fun w hS => (X.idxV (j := i) (r := offOf z + i * 1) tL34 tS3 hS.2.2.2.1 rfl rfl (by omega) (by omega) rfl)) ?_
        refine WD.gv 19 rfl rfl rfl rfl (decide_eq_true hc8) hS0 (fun w hS => (X.ld1 tA3 rfl (view_cell (j := i) (f := 0) hS.2.2.2.1 (get_some (by omega)) rfl (by omega)))) ?_
        refine WD.gv 20 rfl rfl rfl rfl (decide_eq_true hc8) hS0 (fun w hS => (X.lss rfl rfl)) ?_
        refine WD.v 21 rfl hS0 (fun w hS => (X.pkT rfl (decide_eq_true hc8) rfl)) ?_
        refine WD.nil (by kernel_rfl) ?_
        refine X.thenN ?_
        by_cases hc9 : (((now.getD k default).end_) - ((now.getD k default).top)) < (sz.getD i default)
        · refine W.cT rfl (decide_eq_true hc9) ?_
          refine W.k ?_
          refine W.block ?_
          refine W.reg ?_
          refine WL.run 1 rfl ?_
          refine WL.v (X.add rfl rfl (in64 (by omega))) ?_
          refine WL.run 1 rfl ?_
          refine WL.nil ?_
          refine X.inN ?_
          refine X.again (k + 1) ⟨rfl, rfl, rfl, rfl, rfl, rfl, rfl, rfl, trivial⟩ ?_ ?_
          · exact ⟨hp, by rw [hst, fitL_next (by omega) (by omega)], by omega⟩
          · omega
        refine W.cF rfl (decide_eq_false hc9) ?_
        refine W.exit ?_
        refine X.thenE ?_
        refine X.thenE ?_
        refine X.inH ?_
        refine X.thenN ?_
        refine W.seq ?_
        refine W.sr ?_
        refine WL.run 2 rfl ?_
        refine WL.v (view_len tL47 (own_view (hp.at 1 rfl)) rfl) ?_
        refine WL.run 1 rfl ?_
        refine WL.fin ?_
        by_cases hc10 : (k : Int) = (now.length : Int)
        · refine W.cT rfl (decide_eq_true hc10) ?_
          refine W.sr ?_
          refine WL.run 3 rfl ?_
          refine WL.fin ?_
          refine W.ret ?_
          refine X.thenR ?_
          refine X.inR ?_
          refine X.thenR ?_
          refine X.thenR ?_
          refine X.inR ?_
          refine X.thenR ?_
          refine W.done hp (rs := [.tmp 4, .tmp 5, .tmp 6]) (vs := [.slice none 0 0, .slice none 0 0, .int .i64 3]) (v := .tuple #[.slice none 0 0, .slice none 0 0, .int .i64 3]) rfl ⟨rfl, rfl, rfl, trivial⟩ rfl ?_
          have hb := planR_full hrise hany (by rw [hpl, drop_getD hlt, planF_none (hst.trans (fitL_end (by omega))) (by omega)])
          exact .inr ⟨by rw [hb]; decide, by rw [hb]⟩
        refine W.cF rfl (decide_eq_false hc10) ?_
        refine W.k ?_
        refine W.seq ?_
        have hkn : k < now.length := by omega
        have hsp := hkb hkn
        have hspt := spR_t hsp
        have hfit : (sz.getD i default) ≤ (now.getD k default).end_ - (now.getD k default).top := by omega
        refine W.reg ?_
        refine WL.run 3 rfl ?_
        refine WL.v (X.idxV (j := k) (r := offOf v + k * 3) tL47 tS91 (own_view (hp.at 1 rfl)) rfl rfl (by omega) (by omega) rfl) ?_
        refine WL.run 1 rfl ?_
        refine WL.v (X.ld1 tA3 rfl (view_cell (j := k) (f := 1) (own_view (hp.at 1 rfl)) (get_some (by omega)) rfl (by omega))) ?_
        refine WL.bsl hp (e := 3) (cs := #[.int .i64 ((now.getD k default).top)]) rfl (fun _ => by kernel_rfl) rfl ?_
        intro b11 w hp
        refine WL.append hp 1 rfl tL34 (zeroT_ex tZ3) tS3 tY3 rfl rfl (view_of_blk (l := [(now.getD k default).top]) hp 0 rfl encI_len (by omega) rfl (by simp) (by simp)) encI_one (by simp only [List.length_append, List.length_cons, List.length_nil, List.length_map, List.length_take]; omega) rfl ?_
        intro v12 w hp
        refine WL.run 1 rfl ?_
        refine WL.fin ?_
        refine W.draw prog_mixed (fun w => (blkR b11 (.cells (#[.int .i64 ((now.getD k default).top)]) 3 (0, 0))).ok w ∧ (ownR 3 encI 1 v12 (out ++ [(now.getD k default).top])).ok w ∧ (viewR encS 3 s l).ok w ∧ (viewR encI 1 z sz).ok w ∧ True) hp ?_
        intro w hp
        refine WD.s ⟨hp.at 0 rfl, hp.at 1 rfl, hp.old0 hV, hp.old0 hZ, trivial⟩ fun hS0 => ?_
        refine WD.v 0 rfl hS0 (fun w hS => (X.mv rfl)) ?_
        refine WD.v 1 rfl hS0 (fun w hS => (X.mv rfl)) ?_
        refine WD.v 2 rfl hS0 (fun w hS => (X.mv rfl)) ?_
        refine WD.v 3 rfl hS0 (fun w hS => (X.mv rfl)) ?_
        refine WD.v 7 rfl hS0 (fun w hS => (X.mv rfl)) ?_
        refine WD.v 8 rfl hS0 (fun w hS => (X.mv rfl)) ?_
        refine WD.v 9 rfl hS0 (fun w hS => (X.idxV (j := i) (r := offOf z + i * 1) tL34 tS3 hS.2.2.2.1 rfl rfl (by omega) (by omega) rfl)) ?_
        refine WD.v 10 rfl hS0 (fun w hS => (X.ld1 tA3 rfl (view_cell (j := i) (f := 0) hS.2.2.2.1 (get_some (by omega)) rfl (by omega)))) ?_
        refine WD.one 4 (by kernel_rfl) ?_
        refine WO.val rfl rfl rfl (X.idxV (j := k) (r := offOf v + k * 3) tL47 tS91 (own_view (hp.at 2 rfl)) rfl rfl (by omega) (by omega) rfl) hS0 ?_
        refine WD.v 5 rfl hS0 (fun w hS => (X.fa (r := offOf v + k * 3 + 1) tF91_1 rfl rfl)) ?_
        refine WD.one 6 (by kernel_rfl) ?_
        refine WO.val rfl rfl rfl (X.ld1 tA3 rfl (view_cell (j := k) (f := 1) (own_view (hp.at 2 rfl)) (get_some (by omega)) rfl (by omega))) hS0 ?_
        refine WD.v 11 rfl hS0 (fun w hS => (X.add rfl rfl (in64 (by omega)))) ?_
        refine WD.one 12 (by kernel_rfl) ?_
        refine WO.val rfl rfl rfl (X.idxV (j := k) (r := offOf v + k * 3) tL47 tS91 (own_view (hp.at 2 rfl)) rfl rfl (by omega) (by omega) rfl) hS0 ?_
        refine WD.v 13 rfl hS0 (fun w hS => (X.fa (r := offOf v + k * 3 + 1) tF91_1 rfl rfl)) ?_
        refine WD.one 14 (by kernel_rfl) ?_
        refine WO.stOwn hp 2 rfl rfl (j := k) (f := 1) (q := (now.getD k default)) (q' := (⟨(now.getD k default).from_, ((now.getD k default).top) + (sz.getD i default), (now.getD k default).end_⟩ : Spc)) tS3 rfl rfl (vs := [.int .i64 (((now.getD k default).top) + (sz.getD i default))]) rfl rfl (get_some (by omega)) rfl (by simp only [List.length_cons, List.length_nil]; omega) rfl ?_
        intro w hp
        refine andS ⟨hp.at 0 rfl, hp.at 1 rfl, hp.old0 hV, hp.old0 hZ, trivial⟩ fun hS0 => ?_
        refine WD.nil (by kernel_rfl) ?_
        refine X.inN ?_
        refine X.thenN ?_
        refine W.reg ?_
        refine WL.v (X.add rfl rfl (in64 (by omega))) ?_
        refine WL.run 1 rfl ?_
        refine WL.nil ?_
        refine X.again (i + 1, k, now.set k (⟨(now.getD k default).from_, ((now.getD k default).top) + (sz.getD i default), (now.getD k default).end_⟩ : Spc), out ++ [(now.getD k default).top], v, v12) ⟨rfl, rfl, rfl, rfl, rfl, rfl, rfl, trivial⟩ ?_ ?_
        · exact ⟨(hp.sel [1, 2] (by decide)), by omega, by rw [hpl, drop_getD hlt, planF_step (hst.trans (fitL_here hkn hfit)) hkn], by rw [List.length_set]; exact hnl, by simp [hol], set_spR hall (take_R hsp hn1 hfit), by rw [List.length_set]; omega⟩
        · dsimp only; omega
      refine WD.g0 5 rfl (by kernel_rfl) rfl rfl rfl (decide_eq_false hc8) rfl (fun _ _ _ h => h) hS0 ?_
      refine WD.g0 6 rfl (by kernel_rfl) rfl rfl rfl (decide_eq_false hc8) rfl (fun _ _ _ h => h) hS0 ?_
      refine WD.g0 7 rfl (by kernel_rfl) rfl rfl rfl (decide_eq_false hc8) rfl (fun _ _ _ h => h) hS0 ?_
      refine WD.g0 8 rfl (by kernel_rfl) rfl rfl rfl (decide_eq_false hc8) rfl (fun _ _ _ h => h) hS0 ?_
      refine WD.g0 9 rfl (by kernel_rfl) rfl rfl rfl (decide_eq_false hc8) rfl (fun _ _ _ h => h) hS0 ?_
      refine WD.g0 10 rfl (by kernel_rfl) rfl rfl rfl (decide_eq_false hc8) rfl (fun _ _ _ h => h) hS0 ?_
      refine WD.g0 11 rfl (by kernel_rfl) rfl rfl rfl (decide_eq_false hc8) rfl (fun _ _ _ h => h) hS0 ?_
      refine WD.g0 12 rfl (by kernel_rfl) rfl rfl rfl (decide_eq_false hc8) rfl (fun _ _ _ h => h) hS0 ?_
      refine WD.g0 13 rfl (by kernel_rfl) rfl rfl rfl (decide_eq_false hc8) rfl (fun _ _ _ h => h) hS0 ?_
      refine WD.g0 14 rfl (by kernel_rfl) rfl rfl rfl (decide_eq_false hc8) rfl (fun _ _ _ h => h) hS0 ?_
      refine WD.g0 15 rfl (by kernel_rfl) rfl rfl rfl (decide_eq_false hc8) rfl (fun _ _ _ h => h) hS0 ?_
      refine WD.g0 16 rfl (by kernel_rfl) rfl rfl rfl (decide_eq_false hc8) rfl (fun _ _ _ h => h) hS0 ?_
      refine WD.g0 17 rfl (by kernel_rfl) rfl rfl rfl (decide_eq_false hc8) rfl (fun _ _ _ h => h) hS0 ?_
      refine WD.g0 18 rfl (by kernel_rfl) rfl rfl rfl (decide_eq_false hc8) rfl (fun _ _ _ h => h) hS0 ?_
      refine WD.g0 19 rfl (by kernel_rfl) rfl rfl rfl (decide_eq_false hc8) rfl (fun _ _ _ h => h) hS0 ?_
      refine WD.g0 20 rfl (by kernel_rfl) rfl rfl rfl (decide_eq_false hc8) rfl (fun _ _ _ h => h) hS0 ?_
      refine WD.v 21 rfl hS0 (fun w hS => (X.pkF rfl (decide_eq_false hc8) rfl)) ?_
      refine WD.nil (by kernel_rfl) ?_
      refine X.thenN ?_
      refine W.cF rfl rfl ?_
      refine W.exit ?_
      refine X.thenE ?_
      refine X.thenE ?_
      refine X.inH ?_
      refine X.thenN ?_
      refine W.seq ?_
      refine W.sr ?_
      refine WL.run 2 rfl ?_
      refine WL.v (view_len tL47 (own_view (hp.at 1 rfl)) rfl) ?_
      refine WL.run 1 rfl ?_
      refine WL.fin ?_
      by_cases hc13 : (k : Int) = (now.length : Int)
      · refine W.cT rfl (decide_eq_true hc13) ?_
        refine W.sr ?_
        refine WL.run 3 rfl ?_
        refine WL.fin ?_
        refine W.ret ?_
        refine X.thenR ?_
        refine X.inR ?_
        refine X.thenR ?_
        refine X.thenR ?_
        refine X.inR ?_
        refine X.thenR ?_
        refine W.done hp (rs := [.tmp 4, .tmp 5, .tmp 6]) (vs := [.slice none 0 0, .slice none 0 0, .int .i64 3]) (v := .tuple #[.slice none 0 0, .slice none 0 0, .int .i64 3]) rfl ⟨rfl, rfl, rfl, trivial⟩ rfl ?_
        have hb := planR_full hrise hany (by rw [hpl, drop_getD hlt, planF_none (hst.trans (fitL_end (by omega))) (by omega)])
        exact .inr ⟨by rw [hb]; decide, by rw [hb]⟩
      refine W.cF rfl (decide_eq_false hc13) ?_
      refine W.k ?_
      refine W.seq ?_
      have hkn : k < now.length := by omega
      have hsp := hkb hkn
      have hspt := spR_t hsp
      have hfit : (sz.getD i default) ≤ (now.getD k default).end_ - (now.getD k default).top := by omega
      refine W.reg ?_
      refine WL.run 3 rfl ?_
      refine WL.v (X.idxV (j := k) (r := offOf v + k * 3) tL47 tS91 (own_view (hp.at 1 rfl)) rfl rfl (by omega) (by omega) rfl) ?_
      refine WL.run 1 rfl ?_
      refine WL.v (X.ld1 tA3 rfl (view_cell (j := k) (f := 1) (own_view (hp.at 1 rfl)) (get_some (by omega)) rfl (by omega))) ?_
      refine WL.bsl hp (e := 3) (cs := #[.int .i64 ((now.getD k default).top)]) rfl (fun _ => by kernel_rfl) rfl ?_
      intro b14 w hp
      refine WL.append hp 1 rfl tL34 (zeroT_ex tZ3) tS3 tY3 rfl rfl (view_of_blk (l := [(now.getD k default).top]) hp 0 rfl encI_len (by omega) rfl (by simp) (by simp)) encI_one (by simp only [List.length_append, List.length_cons, List.length_nil, List.length_map, List.length_take]; omega) rfl ?_
      intro v15 w hp
      refine WL.run 1 rfl ?_
      refine WL.fin ?_
      refine W.draw prog_mixed (fun w => (blkR b14 (.cells (#[.int .i64 ((now.getD k default).top)]) 3 (0, 0))).ok w ∧ (ownR 3 encI 1 v15 (out ++ [(now.getD k default).top])).ok w ∧ (viewR encS 3 s l).ok w ∧ (viewR encI 1 z sz).ok w ∧ True) hp ?_
      intro w hp
      refine WD.s ⟨hp.at 0 rfl, hp.at 1 rfl, hp.old0 hV, hp.old0 hZ, trivial⟩ fun hS0 => ?_
      refine WD.v 0 rfl hS0 (fun w hS => (X.mv rfl)) ?_
      refine WD.v 1 rfl hS0 (fun w hS => (X.mv rfl)) ?_
      refine WD.v 2 rfl hS0 (fun w hS => (X.mv rfl)) ?_
      refine WD.v 3 rfl hS0 (fun w hS => (X.mv rfl)) ?_
      refine WD.v 7 rfl hS0 (fun w hS => (X.mv rfl)) ?_
      refine WD.v 8 rfl hS0 (fun w hS => (X.mv rfl)) ?_
      refine WD.v 9 rfl hS0 (fun w hS => (X.idxV (j := i) (r := offOf z + i * 1) tL34 tS3 hS.2.2.2.1 rfl rfl (by omega) (by omega) rfl)) ?_
      refine WD.v 10 rfl hS0 (fun w hS => (X.ld1 tA3 rfl (view_cell (j := i) (f := 0) hS.2.2.2.1 (get_some (by omega)) rfl (by omega)))) ?_
      refine WD.one 4 (by kernel_rfl) ?_
      refine WO.val rfl rfl rfl (X.idxV (j := k) (r := offOf v + k * 3) tL47 tS91 (own_view (hp.at 2 rfl)) rfl rfl (by omega) (by omega) rfl) hS0 ?_
      refine WD.v 5 rfl hS0 (fun w hS => (X.fa (r := offOf v + k * 3 + 1) tF91_1 rfl rfl)) ?_
      refine WD.one 6 (by kernel_rfl) ?_
      refine WO.val rfl rfl rfl (X.ld1 tA3 rfl (view_cell (j := k) (f := 1) (own_view (hp.at 2 rfl)) (get_some (by omega)) rfl (by omega))) hS0 ?_
      refine WD.v 11 rfl hS0 (fun w hS => (X.add rfl rfl (in64 (by omega)))) ?_
      refine WD.one 12 (by kernel_rfl) ?_
      refine WO.val rfl rfl rfl (X.idxV (j := k) (r := offOf v + k * 3) tL47 tS91 (own_view (hp.at 2 rfl)) rfl rfl (by omega) (by omega) rfl) hS0 ?_
      refine WD.v 13 rfl hS0 (fun w hS => (X.fa (r := offOf v + k * 3 + 1) tF91_1 rfl rfl)) ?_
      refine WD.one 14 (by kernel_rfl) ?_
      refine WO.stOwn hp 2 rfl rfl (j := k) (f := 1) (q := (now.getD k default)) (q' := (⟨(now.getD k default).from_, ((now.getD k default).top) + (sz.getD i default), (now.getD k default).end_⟩ : Spc)) tS3 rfl rfl (vs := [.int .i64 (((now.getD k default).top) + (sz.getD i default))]) rfl rfl (get_some (by omega)) rfl (by simp only [List.length_cons, List.length_nil]; omega) rfl ?_
      intro w hp
      refine andS ⟨hp.at 0 rfl, hp.at 1 rfl, hp.old0 hV, hp.old0 hZ, trivial⟩ fun hS0 => ?_
      refine WD.nil (by kernel_rfl) ?_
      refine X.inN ?_
      refine X.thenN ?_
      refine W.reg ?_
      refine WL.v (X.add rfl rfl (in64 (by omega))) ?_
      refine WL.run 1 rfl ?_
      refine WL.nil ?_
      refine X.again (i + 1, k, now.set k (⟨(now.getD k default).from_, ((now.getD k default).top) + (sz.getD i default), (now.getD k default).end_⟩ : Spc), out ++ [(now.getD k default).top], v, v15) ⟨rfl, rfl, rfl, rfl, rfl, rfl, rfl, trivial⟩ ?_ ?_
      · exact ⟨(hp.sel [1, 2] (by decide)), by omega, by rw [hpl, drop_getD hlt, planF_step (hst.trans (fitL_here hkn hfit)) hkn], by rw [List.length_set]; exact hnl, by simp [hol], set_spR hall (take_R hsp hn1 hfit), by rw [List.length_set]; omega⟩
      · dsimp only; omega
    refine W.cF rfl (decide_eq_false hc7) ?_
    refine W.exit ?_
    refine X.thenE ?_
    refine X.thenE ?_
    refine X.inH ?_
    refine X.thenN ?_
    refine W.sr ?_
    refine WL.run 5 rfl ?_
    refine WL.fin ?_
    refine W.ret ?_
    refine W.done hp (rs := [.tmp 4, .tmp 5, .tmp 6]) (vs := [o, v, .int .i64 0]) (v := .tuple #[o, v, .int .i64 0]) rfl ⟨rfl, rfl, rfl, trivial⟩ rfl ?_
    have hb := planR_ok hrise hany (o := out) (s := now) (by rw [hpl, List.drop_eq_nil_of_le (by omega)]; rfl)
    exact .inl ⟨by rw [hb], o, v, rfl, by rw [hb]; exact hp⟩
  refine W.cT rfl (congrArg not (Bool.eq_false_iff.2 hrise)) ?_
  refine W.sr ?_
  refine WL.run 3 rfl ?_
  refine WL.fin ?_
  refine W.ret ?_
  refine X.thenR ?_
  refine W.done hp (rs := [.tmp 4, .tmp 5, .tmp 6]) (vs := [.slice none 0 0, .slice none 0 0, .int .i64 1]) (v := .tuple #[.slice none 0 0, .slice none 0 0, .int .i64 1]) rfl ⟨rfl, rfl, rfl, trivial⟩ rfl ?_
  have hb := planR_bad (sz := sz) (.inl ‹¬ rise l = true›)
  exact .inr ⟨by rw [hb]; decide, by rw [hb]⟩
end Go.Proofs.YtmmmbkmjkpfleaaGreat
