/- Walks, printed by gen.py from the specs B: what each function answers. No statement of the seat is proved here; conditions: each theorem's own. -/
import Derived.Test.YtmmmbkmjkpfleaaGreatPureA
import Derived.Test.YtmmmbkmjkpfleaaGreatWA
namespace Go.Proofs.YtmmmbkmjkpfleaaGreat
open Go Go.RowKit

theorem spRight_c {w0 : World} {s : Spc} :
    Calls Tryz.prog 48 #[.agg #[.int .i64 s.from_, .int .i64 s.top, .int .i64 s.end_]] w0 (Ret [] w0 (fun v _ => v = .bool (spR s))) := by
  have hp : Hp w0 [] [] w0 := Hp.init w0
  refine enter (vs := [.agg #[.int .i64 s.from_, .int .i64 s.top, .int .i64 s.end_]]) Tryz.func48 rfl rfl rfl ?_
  refine gen_world hp ?_
  intro w hp
  refine W.sr ?_
  refine WL.box hp rfl (cs := #[.int .i64 s.from_, .int .i64 s.top, .int .i64 s.end_]) rfl rfl ?_
  intro b1 w hp
  refine WL.run 1 rfl ?_
  refine WL.a ?_
  refine WL.run 1 rfl ?_
  refine WL.v (X.ldk (hp.at 0 rfl) tA3 rfl rfl) ?_
  refine WL.run 2 rfl ?_
  by_cases hc2 : 0 ≤ s.from_
  · refine WL.g1 rfl rfl (decide_eq_true hc2) ?_
    refine WL.run 1 rfl ?_
    refine WL.g1 rfl rfl (decide_eq_true hc2) ?_
    refine WL.v (X.ldk (hp.at 0 rfl) tA3 rfl rfl) ?_
    refine WL.g1 rfl rfl (decide_eq_true hc2) ?_
    refine WL.run 1 rfl ?_
    refine WL.g1 rfl rfl (decide_eq_true hc2) ?_
    refine WL.v (X.ldk (hp.at 0 rfl) tA3 rfl rfl) ?_
    refine WL.g1 rfl rfl (decide_eq_true hc2) ?_
    refine WL.run 1 rfl ?_
    refine WL.v (X.pkT rfl (decide_eq_true hc2) rfl) ?_
    refine WL.run 1 rfl ?_
    by_cases hc3 : s.from_ ≤ s.top
    · refine WL.g1 rfl rfl (decide_eq_true hc3) ?_
      refine WL.run 1 rfl ?_
      refine WL.g1 rfl rfl (decide_eq_true hc3) ?_
      refine WL.v (X.ldk (hp.at 0 rfl) tA3 rfl rfl) ?_
      refine WL.g1 rfl rfl (decide_eq_true hc3) ?_
      refine WL.run 1 rfl ?_
      refine WL.g1 rfl rfl (decide_eq_true hc3) ?_
      refine WL.v (X.ldk (hp.at 0 rfl) tA3 rfl rfl) ?_
      refine WL.g1 rfl rfl (decide_eq_true hc3) ?_
      refine WL.run 1 rfl ?_
      refine WL.v (X.pkT rfl (decide_eq_true hc3) rfl) ?_
      refine WL.run 1 rfl ?_
      by_cases hc4 : s.top ≤ s.end_
      · refine WL.g1 rfl rfl (decide_eq_true hc4) ?_
        refine WL.run 1 rfl ?_
        refine WL.g1 rfl rfl (decide_eq_true hc4) ?_
        refine WL.v (X.ldk (hp.at 0 rfl) tA3 rfl rfl) ?_
        refine WL.g1 rfl rfl (decide_eq_true hc4) ?_
        refine WL.run 1 rfl ?_
        refine WL.v (X.pkT rfl (decide_eq_true hc4) rfl) ?_
        refine WL.run 1 rfl ?_
        refine WL.fin ?_
        refine W.ret ?_
        refine W.done hp (rs := [.tmp 2]) (vs := [.bool (decide (s.end_ ≤ 4096))]) (v := .bool (decide (s.end_ ≤ 4096))) rfl ⟨rfl, trivial⟩ rfl ?_
        exact bool_val (by simp only [Bool.false_eq_true, decide_eq_true_eq, spR_iff]; constructor <;> intro h_ <;> first | contradiction | omega | (exfalso; omega))
      refine WL.g0 rfl rfl (decide_eq_false hc4) rfl ?_
      refine WL.g0 rfl rfl (decide_eq_false hc4) rfl ?_
      refine WL.g0 rfl rfl (decide_eq_false hc4) rfl ?_
      refine WL.v (X.pkF rfl (decide_eq_false hc4) rfl) ?_
      refine WL.run 1 rfl ?_
      refine WL.fin ?_
      refine W.ret ?_
      refine W.done hp (rs := [.tmp 2]) (vs := [.bool false]) (v := .bool false) rfl ⟨rfl, trivial⟩ rfl ?_
      exact bool_val (by simp only [Bool.false_eq_true, decide_eq_true_eq, spR_iff]; constructor <;> intro h_ <;> first | contradiction | omega | (exfalso; omega))
    refine WL.g0 rfl rfl (decide_eq_false hc3) rfl ?_
    refine WL.g0 rfl rfl (decide_eq_false hc3) rfl ?_
    refine WL.g0 rfl rfl (decide_eq_false hc3) rfl ?_
    refine WL.g0 rfl rfl (decide_eq_false hc3) rfl ?_
    refine WL.g0 rfl rfl (decide_eq_false hc3) rfl ?_
    refine WL.v (X.pkF rfl (decide_eq_false hc3) rfl) ?_
    refine WL.run 1 rfl ?_
    refine WL.g0 rfl rfl rfl rfl ?_
    refine WL.g0 rfl rfl rfl rfl ?_
    refine WL.g0 rfl rfl rfl rfl ?_
    refine WL.v (X.pkF rfl rfl rfl) ?_
    refine WL.run 1 rfl ?_
    refine WL.fin ?_
    refine W.ret ?_
    refine W.done hp (rs := [.tmp 2]) (vs := [.bool false]) (v := .bool false) rfl ⟨rfl, trivial⟩ rfl ?_
    exact bool_val (by simp only [Bool.false_eq_true, decide_eq_true_eq, spR_iff]; constructor <;> intro h_ <;> first | contradiction | omega | (exfalso; omega))
  refine WL.g0 rfl rfl (decide_eq_false hc2) rfl ?_
  refine WL.g0 rfl rfl (decide_eq_false hc2) rfl ?_
  refine WL.g0 rfl rfl (decide_eq_false hc2) rfl ?_
  refine WL.g0 rfl rfl (decide_eq_false hc2) rfl ?_
  refine WL.g0 rfl rfl (decide_eq_false hc2) rfl ?_
  refine WL.v (X.pkF rfl (decide_eq_false hc2) rfl) ?_
  refine WL.run 1 rfl ?_
  refine WL.g0 rfl rfl rfl rfl ?_
  refine WL.g0 rfl rfl rfl rfl ?_
  refine WL.g0 rfl rfl rfl rfl ?_
  refine WL.g0 rfl rfl rfl rfl ?_
  refine WL.g0 rfl rfl rfl rfl ?_
  refine WL.v (X.pkF rfl rfl rfl) ?_
  refine WL.run 1 rfl ?_
  refine WL.g0 rfl rfl rfl rfl ?_
  refine WL.g0 rfl rfl rfl rfl ?_
  refine WL.g0 rfl rfl rfl rfl ?_
  refine WL.v (X.pkF rfl rfl rfl) ?_
  refine WL.run 1 rfl ?_
  refine WL.fin ?_
  refine W.ret ?_
  refine W.done hp (rs := [.tmp 2]) (vs := [.bool false]) (v := .bool false) rfl ⟨rfl, trivial⟩ rfl ?_
  exact bool_val (by simp only [Bool.false_eq_true, decide_eq_true_eq, spR_iff]; constructor <;> intro h_ <;> first | contradiction | omega | (exfalso; omega))

theorem spRoom_c {w0 : World} {s : Spc} :
    Calls Tryz.prog 90 #[.agg #[.int .i64 s.from_, .int .i64 s.top, .int .i64 s.end_]] w0 (Ret [] w0 (fun v _ => v = .int .i64 (spRoom s))) := by
  have hp : Hp w0 [] [] w0 := Hp.init w0
  refine enter (vs := [.agg #[.int .i64 s.from_, .int .i64 s.top, .int .i64 s.end_]]) Tryz.func90 rfl rfl rfl ?_
  refine gen_world hp ?_
  intro w hp
  refine W.sr ?_
  refine WL.box hp rfl (cs := #[.int .i64 s.from_, .int .i64 s.top, .int .i64 s.end_]) rfl rfl ?_
  intro b1 w hp
  refine WL.run 1 rfl ?_
  refine WL.s ?_
  refine W.sr ?_
  refine WL.v (X.ldkA (hp.at 0 rfl) tA56 tS56 (vs := [.int .i64 s.from_, .int .i64 s.top, .int .i64 s.end_]) rfl rfl) ?_
  refine WL.call isFn48 rfl rfl (spRight_c (s := s)) ?_
  intro v w hc hr
  obtain rfl := hr
  have hp := hp.ext hc
  refine WL.run 1 rfl ?_
  refine WL.fin ?_
  by_cases hc2 : spR s = true
  · have hc2_ := spR_t hc2
    refine W.cF rfl (congrArg not hc2) ?_
    refine W.ks ?_
    refine WL.run 1 rfl ?_
    refine WL.v (X.ldk (hp.at 0 rfl) tA3 rfl rfl) ?_
    refine WL.run 1 rfl ?_
    refine WL.v (X.ldk (hp.at 0 rfl) tA3 rfl rfl) ?_
    refine WL.v (X.sub rfl rfl (in64 (by omega))) ?_
    refine WL.run 1 rfl ?_
    refine WL.fin ?_
    refine W.ret ?_
    refine W.done hp (rs := [.tmp 2]) (vs := [.int .i64 (s.end_ - s.top)]) (v := .int .i64 (s.end_ - s.top)) rfl ⟨rfl, trivial⟩ rfl ?_
    first | (exact int_val (by unfold spRoom; rw [if_pos ‹_›])) | (exact int_val (by unfold spRoom; rw [if_neg ‹_›]))
  have hc2_ := spR_f hc2
  refine W.cT rfl (congrArg not (Bool.eq_false_iff.2 hc2)) ?_
  refine W.sr ?_
  refine WL.run 1 rfl ?_
  refine WL.fin ?_
  refine W.ret ?_
  refine X.thenR ?_
  refine W.done hp (rs := [.tmp 2]) (vs := [.int .i64 0]) (v := .int .i64 0) rfl ⟨rfl, trivial⟩ rfl ?_
  first | (exact int_val (by unfold spRoom; rw [if_pos ‹_›])) | (exact int_val (by unfold spRoom; rw [if_neg ‹_›]))

theorem spUsed_c {w0 : World} {s : Spc} :
    Calls Tryz.prog 13 #[.agg #[.int .i64 s.from_, .int .i64 s.top, .int .i64 s.end_]] w0 (Ret [] w0 (fun v _ => v = .int .i64 (spUsed s))) := by
  have hp : Hp w0 [] [] w0 := Hp.init w0
  refine enter (vs := [.agg #[.int .i64 s.from_, .int .i64 s.top, .int .i64 s.end_]]) Tryz.func13 rfl rfl rfl ?_
  refine gen_world hp ?_
  intro w hp
  refine W.sr ?_
  refine WL.box hp rfl (cs := #[.int .i64 s.from_, .int .i64 s.top, .int .i64 s.end_]) rfl rfl ?_
  intro b1 w hp
  refine WL.run 1 rfl ?_
  refine WL.s ?_
  refine W.sr ?_
  refine WL.v (X.ldkA (hp.at 0 rfl) tA56 tS56 (vs := [.int .i64 s.from_, .int .i64 s.top, .int .i64 s.end_]) rfl rfl) ?_
  refine WL.call isFn48 rfl rfl (spRight_c (s := s)) ?_
  intro v w hc hr
  obtain rfl := hr
  have hp := hp.ext hc
  refine WL.run 1 rfl ?_
  refine WL.fin ?_
  by_cases hc2 : spR s = true
  · have hc2_ := spR_t hc2
    refine W.cF rfl (congrArg not hc2) ?_
    refine W.ks ?_
    refine WL.run 1 rfl ?_
    refine WL.v (X.ldk (hp.at 0 rfl) tA3 rfl rfl) ?_
    refine WL.run 1 rfl ?_
    refine WL.v (X.ldk (hp.at 0 rfl) tA3 rfl rfl) ?_
    refine WL.v (X.sub rfl rfl (in64 (by omega))) ?_
    refine WL.run 1 rfl ?_
    refine WL.fin ?_
    refine W.ret ?_
    refine W.done hp (rs := [.tmp 2]) (vs := [.int .i64 (s.top - s.from_)]) (v := .int .i64 (s.top - s.from_)) rfl ⟨rfl, trivial⟩ rfl ?_
    first | (exact int_val (by unfold spUsed; rw [if_pos ‹_›])) | (exact int_val (by unfold spUsed; rw [if_neg ‹_›]))
  have hc2_ := spR_f hc2
  refine W.cT rfl (congrArg not (Bool.eq_false_iff.2 hc2)) ?_
  refine W.sr ?_
  refine WL.run 1 rfl ?_
  refine WL.fin ?_
  refine W.ret ?_
  refine X.thenR ?_
  refine W.done hp (rs := [.tmp 2]) (vs := [.int .i64 0]) (v := .int .i64 0) rfl ⟨rfl, trivial⟩ rfl ?_
  first | (exact int_val (by unfold spUsed; rw [if_pos ‹_›])) | (exact int_val (by unfold spUsed; rw [if_neg ‹_›]))

theorem spEmpty_c {w0 : World} {s : Spc} :
    Calls Tryz.prog 67 #[.agg #[.int .i64 s.from_, .int .i64 s.top, .int .i64 s.end_]] w0 (Ret [] w0 (fun v _ => v = .agg #[.int .i64 (spEmpty s).from_, .int .i64 (spEmpty s).top, .int .i64 (spEmpty s).end_])) := by
  have hp : Hp w0 [] [] w0 := Hp.init w0
  refine enter (vs := [.agg #[.int .i64 s.from_, .int .i64 s.top, .int .i64 s.end_]]) Tryz.func67 rfl rfl rfl ?_
  refine gen_world hp ?_
  intro w hp
  refine W.sr ?_
  refine WL.box hp rfl (cs := #[.int .i64 s.from_, .int .i64 s.top, .int .i64 s.end_]) rfl rfl ?_
  intro b1 w hp
  refine WL.alloc hp tZ56 rfl ?_
  intro b2 w hp
  refine WL.s ?_
  refine W.sr ?_
  refine WL.v (X.ldkA (hp.at 1 rfl) tA56 tS56 (vs := [.int .i64 s.from_, .int .i64 s.top, .int .i64 s.end_]) rfl rfl) ?_
  refine WL.call isFn48 rfl rfl (spRight_c (s := s)) ?_
  intro v w hc hr
  obtain rfl := hr
  have hp := hp.ext hc
  refine WL.run 1 rfl ?_
  refine WL.fin ?_
  by_cases hc3 : spR s = true
  · have hc3_ := spR_t hc3
    refine W.cF rfl (congrArg not hc3) ?_
    refine W.ks ?_
    refine WL.run 1 rfl ?_
    refine WL.v (X.ldk (hp.at 1 rfl) tA3 rfl rfl) ?_
    refine WL.run 1 rfl ?_
    refine WL.v (X.ldk (hp.at 1 rfl) tA3 rfl rfl) ?_
    refine WL.run 1 rfl ?_
    refine WL.v (X.ldk (hp.at 1 rfl) tA3 rfl rfl) ?_
    refine WL.v (X.bld (v := .agg #[.int .i64 s.from_, .int .i64 s.from_, .int .i64 s.end_]) rfl (by kernel_rfl)) ?_
    refine WL.store hp 0 rfl tS56 rfl rfl (vs := [.int .i64 s.from_, .int .i64 s.from_, .int .i64 s.end_]) rfl rfl rfl (new := #[.int .i64 s.from_, .int .i64 s.from_, .int .i64 s.end_]) rfl ?_
    intro w hp
    refine WL.fin ?_
    refine W.ret ?_
    refine W.done hp (rs := [.cell 2 56]) (vs := [.agg #[.int .i64 s.from_, .int .i64 s.from_, .int .i64 s.end_]]) (v := .agg #[.int .i64 s.from_, .int .i64 s.from_, .int .i64 s.end_]) rfl ⟨⟨_, rfl, run_loadVarB hp 0 rfl tA56 tS56 (vs := [.int .i64 s.from_, .int .i64 s.from_, .int .i64 s.end_]) rfl⟩, trivial⟩ rfl ?_
    first | (unfold spEmpty; rw [if_pos ‹_›]) | (unfold spEmpty; rw [if_neg ‹_›])
  have hc3_ := spR_f hc3
  refine W.cT rfl (congrArg not (Bool.eq_false_iff.2 hc3)) ?_
  refine W.sr ?_
  refine WL.v (X.bld (v := .agg #[.int .i64 0, .int .i64 0, .int .i64 0]) rfl (by kernel_rfl)) ?_
  refine WL.store hp 0 rfl tS56 rfl rfl (vs := [.int .i64 0, .int .i64 0, .int .i64 0]) rfl rfl rfl (new := #[.int .i64 0, .int .i64 0, .int .i64 0]) rfl ?_
  intro w hp
  refine WL.fin ?_
  refine W.ret ?_
  refine X.thenR ?_
  refine W.done hp (rs := [.cell 2 56]) (vs := [.agg #[.int .i64 0, .int .i64 0, .int .i64 0]]) (v := .agg #[.int .i64 0, .int .i64 0, .int .i64 0]) rfl ⟨⟨_, rfl, run_loadVarB hp 0 rfl tA56 tS56 (vs := [.int .i64 0, .int .i64 0, .int .i64 0]) rfl⟩, trivial⟩ rfl ?_
  first | (unfold spEmpty; rw [if_pos ‹_›]) | (unfold spEmpty; rw [if_neg ‹_›])

theorem take_c {w0 : World} {s : Spc} {n : Int} :
    Calls Tryz.prog 68 #[.agg #[.int .i64 s.from_, .int .i64 s.top, .int .i64 s.end_], .int .i64 n] w0 (Ret [] w0 (fun v _ => (1 ≤ n ∧ spR s = true ∧ n ≤ s.end_ - s.top ∧ v = .tuple #[.int .i64 s.top, .agg #[.int .i64 s.from_, .int .i64 (s.top + n), .int .i64 s.end_], .int .i64 0]) ∨ (¬ (1 ≤ n ∧ spR s = true) ∧ v = .tuple #[.int .i64 0, .agg #[.int .i64 0, .int .i64 0, .int .i64 0], .int .i64 1]) ∨ (1 ≤ n ∧ spR s = true ∧ ¬ n ≤ s.end_ - s.top ∧ v = .tuple #[.int .i64 0, .agg #[.int .i64 0, .int .i64 0, .int .i64 0], .int .i64 3]))) := by
  have hp : Hp w0 [] [] w0 := Hp.init w0
  have hrm : spR s = true → spRoom s = s.end_ - s.top := fun h => by unfold spRoom; rw [if_pos h]
  refine enter (vs := [.agg #[.int .i64 s.from_, .int .i64 s.top, .int .i64 s.end_], .int .i64 n]) Tryz.func68 rfl rfl rfl ?_
  refine gen_world hp ?_
  intro w hp
  refine W.sr ?_
  refine WL.box hp rfl (cs := #[.int .i64 s.from_, .int .i64 s.top, .int .i64 s.end_]) rfl rfl ?_
  intro b1 w hp
  refine WL.run 1 rfl ?_
  refine WL.alloc hp tZ56 rfl ?_
  intro b2 w hp
  refine WL.run 1 rfl ?_
  refine WL.c ?_
  refine W.sr ?_
  refine WL.run 3 rfl ?_
  by_cases hc3 : n < 1
  · refine WL.g0 rfl rfl (decide_eq_true hc3) rfl ?_
    refine WL.g0 rfl rfl (decide_eq_true hc3) rfl ?_
    refine WL.g0 rfl rfl (decide_eq_true hc3) rfl ?_
    refine WL.v (X.pkT rfl (decide_eq_true hc3) rfl) ?_
    refine WL.run 1 rfl ?_
    refine WL.fin ?_
    refine W.cT rfl rfl ?_
    refine W.sr ?_
    refine WL.v (X.bld (v := .agg #[.int .i64 0, .int .i64 0, .int .i64 0]) rfl (by kernel_rfl)) ?_
    refine WL.run 1 rfl ?_
    refine WL.store hp 0 rfl tS56 rfl rfl (vs := [.int .i64 0, .int .i64 0, .int .i64 0]) rfl rfl rfl (new := #[.int .i64 0, .int .i64 0, .int .i64 0]) rfl ?_
    intro w hp
    refine WL.run 1 rfl ?_
    refine WL.fin ?_
    refine W.ret ?_
    refine X.inR ?_
    refine X.thenR ?_
    refine W.done hp (rs := [.tmp 4, .cell 5 56, .tmp 6]) (vs := [.int .i64 0, .agg #[.int .i64 0, .int .i64 0, .int .i64 0], .int .i64 1]) (v := .tuple #[.int .i64 0, .agg #[.int .i64 0, .int .i64 0, .int .i64 0], .int .i64 1]) rfl ⟨rfl, ⟨_, rfl, run_loadVarB hp 0 rfl tA56 tS56 (vs := [.int .i64 0, .int .i64 0, .int .i64 0]) rfl⟩, rfl, trivial⟩ rfl ?_
    first | exact .inl ⟨by omega, by assumption, by omega, rfl⟩ | exact .inr (.inl ⟨fun h => by omega, rfl⟩) | exact .inr (.inl ⟨fun h => ‹¬ spR s = true› h.2, rfl⟩) | exact .inr (.inr ⟨by omega, by assumption, by omega, rfl⟩)
  refine WL.g1 rfl rfl (decide_eq_false hc3) ?_
  refine WL.v (X.ldkA (hp.at 1 rfl) tA56 tS56 (vs := [.int .i64 s.from_, .int .i64 s.top, .int .i64 s.end_]) rfl rfl) ?_
  refine WL.g1 rfl rfl (decide_eq_false hc3) ?_
  refine WL.call isFn48 rfl rfl (spRight_c (s := s)) ?_
  intro v w hc hr
  obtain rfl := hr
  have hp := hp.ext hc
  refine WL.g1 rfl rfl (decide_eq_false hc3) ?_
  refine WL.run 1 rfl ?_
  refine WL.v (X.pkF rfl (decide_eq_false hc3) rfl) ?_
  refine WL.run 1 rfl ?_
  refine WL.fin ?_
  by_cases hc4 : spR s = true
  · have hrm := hrm hc4
    have hc4_ := spR_t hc4
    refine W.cF rfl (congrArg not hc4) ?_
    refine W.sr ?_
    refine WL.run 1 rfl ?_
    refine WL.v (X.ldkA (hp.at 1 rfl) tA56 tS56 (vs := [.int .i64 s.from_, .int .i64 s.top, .int .i64 s.end_]) rfl rfl) ?_
    refine WL.call isFn90 rfl rfl (spRoom_c (s := s)) ?_
    intro v w hc hr
    obtain rfl := hr
    have hp := hp.ext hc
    refine WL.run 2 rfl ?_
    refine WL.fin ?_
    by_cases hc5 : (spRoom s) < n
    · refine W.cT rfl (decide_eq_true hc5) ?_
      refine W.sr ?_
      refine WL.v (X.bld (v := .agg #[.int .i64 0, .int .i64 0, .int .i64 0]) rfl (by kernel_rfl)) ?_
      refine WL.run 1 rfl ?_
      refine WL.store hp 0 rfl tS56 rfl rfl (vs := [.int .i64 0, .int .i64 0, .int .i64 0]) rfl rfl rfl (new := #[.int .i64 0, .int .i64 0, .int .i64 0]) rfl ?_
      intro w hp
      refine WL.run 1 rfl ?_
      refine WL.fin ?_
      refine W.ret ?_
      refine X.inR ?_
      refine X.thenR ?_
      refine W.done hp (rs := [.tmp 4, .cell 5 56, .tmp 6]) (vs := [.int .i64 0, .agg #[.int .i64 0, .int .i64 0, .int .i64 0], .int .i64 3]) (v := .tuple #[.int .i64 0, .agg #[.int .i64 0, .int .i64 0, .int .i64 0], .int .i64 3]) rfl ⟨rfl, ⟨_, rfl, run_loadVarB hp 0 rfl tA56 tS56 (vs := [.int .i64 0, .int .i64 0, .int .i64 0]) rfl⟩, rfl, trivial⟩ rfl ?_
      first | exact .inl ⟨by omega, by assumption, by omega, rfl⟩ | exact .inr (.inl ⟨fun h => by omega, rfl⟩) | exact .inr (.inl ⟨fun h => ‹¬ spR s = true› h.2, rfl⟩) | exact .inr (.inr ⟨by omega, by assumption, by omega, rfl⟩)
    refine W.cF rfl (decide_eq_false hc5) ?_
    refine W.skip ?_
    refine X.inN ?_
    refine X.thenN ?_
    refine W.seq ?_
    refine W.draw prog_mixed (fun w => (blkR b1 (.cells (#[.int .i64 s.from_, .int .i64 s.top, .int .i64 s.end_]) 56 (0, 0))).ok w ∧ True) hp ?_
    intro w hp
    refine WD.s ⟨hp.at 1 rfl, trivial⟩ fun hS0 => ?_
    refine WD.v 0 rfl hS0 (fun w hS => (X.fa (r := 1) tF56_1 rfl rfl)) ?_
    refine WD.v 1 rfl hS0 (fun w hS => (X.ldk hS.1 tA3 rfl rfl)) ?_
    refine WD.v 2 rfl hS0 (fun w hS => (X.fa (r := 0) tF56_0 rfl rfl)) ?_
    refine WD.v 3 rfl hS0 (fun w hS => (X.ldk hS.1 tA3 rfl rfl)) ?_
    refine WD.v 4 rfl hS0 (fun w hS => (X.fa (r := 1) tF56_1 rfl rfl)) ?_
    refine WD.v 5 rfl hS0 (fun w hS => (X.ldk hS.1 tA3 rfl rfl)) ?_
    refine WD.v 6 rfl hS0 (fun w hS => (X.mv rfl)) ?_
    refine WD.v 7 rfl hS0 (fun w hS => (X.add rfl rfl (in64 (by omega)))) ?_
    refine WD.v 8 rfl hS0 (fun w hS => (X.fa (r := 2) tF56_2 rfl rfl)) ?_
    refine WD.v 9 rfl hS0 (fun w hS => (X.ldk hS.1 tA3 rfl rfl)) ?_
    refine WD.v 10 rfl hS0 (fun w hS => (X.bld (v := .agg #[.int .i64 s.from_, .int .i64 (s.top + n), .int .i64 s.end_]) rfl (by kernel_rfl))) ?_
    refine WD.v 11 rfl hS0 (fun w hS => (X.as rfl)) ?_
    refine WD.one 12 (by kernel_rfl) ?_
    refine WO.store hp 0 rfl rfl tS56 rfl rfl (vs := [.int .i64 s.from_, .int .i64 (s.top + n), .int .i64 s.end_]) rfl rfl rfl (new := #[.int .i64 s.from_, .int .i64 (s.top + n), .int .i64 s.end_]) rfl ?_
    intro w hp
    refine andS ⟨hp.at 1 rfl, trivial⟩ fun hS0 => ?_
    refine WD.v 13 rfl hS0 (fun w hS => (X.as rfl)) ?_
    refine WD.nil (by kernel_rfl) ?_
    refine X.thenN ?_
    refine W.ret ?_
    refine W.done hp (rs := [.tmp 4, .cell 5 56, .tmp 6]) (vs := [.int .i64 s.top, .agg #[.int .i64 s.from_, .int .i64 (s.top + n), .int .i64 s.end_], .int .i64 0]) (v := .tuple #[.int .i64 s.top, .agg #[.int .i64 s.from_, .int .i64 (s.top + n), .int .i64 s.end_], .int .i64 0]) rfl ⟨rfl, ⟨_, rfl, run_loadVarB hp 0 rfl tA56 tS56 (vs := [.int .i64 s.from_, .int .i64 (s.top + n), .int .i64 s.end_]) rfl⟩, rfl, trivial⟩ rfl ?_
    first | exact .inl ⟨by omega, by assumption, by omega, rfl⟩ | exact .inr (.inl ⟨fun h => by omega, rfl⟩) | exact .inr (.inl ⟨fun h => ‹¬ spR s = true› h.2, rfl⟩) | exact .inr (.inr ⟨by omega, by assumption, by omega, rfl⟩)
  have hc4_ := spR_f hc4
  refine W.cT rfl (congrArg not (Bool.eq_false_iff.2 hc4)) ?_
  refine W.sr ?_
  refine WL.v (X.bld (v := .agg #[.int .i64 0, .int .i64 0, .int .i64 0]) rfl (by kernel_rfl)) ?_
  refine WL.run 1 rfl ?_
  refine WL.store hp 0 rfl tS56 rfl rfl (vs := [.int .i64 0, .int .i64 0, .int .i64 0]) rfl rfl rfl (new := #[.int .i64 0, .int .i64 0, .int .i64 0]) rfl ?_
  intro w hp
  refine WL.run 1 rfl ?_
  refine WL.fin ?_
  refine W.ret ?_
  refine X.inR ?_
  refine X.thenR ?_
  refine W.done hp (rs := [.tmp 4, .cell 5 56, .tmp 6]) (vs := [.int .i64 0, .agg #[.int .i64 0, .int .i64 0, .int .i64 0], .int .i64 1]) (v := .tuple #[.int .i64 0, .agg #[.int .i64 0, .int .i64 0, .int .i64 0], .int .i64 1]) rfl ⟨rfl, ⟨_, rfl, run_loadVarB hp 0 rfl tA56 tS56 (vs := [.int .i64 0, .int .i64 0, .int .i64 0]) rfl⟩, rfl, trivial⟩ rfl ?_
  first | exact .inl ⟨by omega, by assumption, by omega, rfl⟩ | exact .inr (.inl ⟨fun h => by omega, rfl⟩) | exact .inr (.inl ⟨fun h => ‹¬ spR s = true› h.2, rfl⟩) | exact .inr (.inr ⟨by omega, by assumption, by omega, rfl⟩)

theorem spNew_c {w0 : World} {a n : Int} :
    Calls Tryz.prog 54 #[.int .i64 a, .int .i64 n] w0 (Ret [] w0 (fun v _ => (0 ≤ a ∧ 0 ≤ n ∧ a + n ≤ 4096 ∧ v = .tuple #[.agg #[.int .i64 a, .int .i64 a, .int .i64 (a + n)], .int .i64 0]) ∨ (¬ (0 ≤ a ∧ 0 ≤ n ∧ a + n ≤ 4096) ∧ v = .tuple #[.agg #[.int .i64 0, .int .i64 0, .int .i64 0], .int .i64 1]))) := by
  have hp : Hp w0 [] [] w0 := Hp.init w0
  refine enter (vs := [.int .i64 a, .int .i64 n]) Tryz.func54 rfl rfl rfl ?_
  refine gen_world hp ?_
  intro w hp
  refine W.sr ?_
  refine WL.alloc hp tZ56 rfl ?_
  intro b1 w hp
  refine WL.run 1 rfl ?_
  refine WL.s ?_
  refine W.sr ?_
  refine WL.run 3 rfl ?_
  by_cases hc2 : a < 0
  · refine WL.g0 rfl rfl (decide_eq_true hc2) rfl ?_
    refine WL.g0 rfl rfl (decide_eq_true hc2) rfl ?_
    refine WL.v (X.pkT rfl (decide_eq_true hc2) rfl) ?_
    refine WL.run 1 rfl ?_
    refine WL.g0 rfl rfl rfl rfl ?_
    refine WL.g0 rfl rfl rfl rfl ?_
    refine WL.v (X.pkT rfl rfl rfl) ?_
    refine WL.run 1 rfl ?_
    refine WL.g0 rfl rfl rfl rfl ?_
    refine WL.g0 rfl rfl rfl rfl ?_
    refine WL.g0 rfl rfl rfl rfl ?_
    refine WL.g0 rfl rfl rfl rfl ?_
    refine WL.v (X.pkT rfl rfl rfl) ?_
    refine WL.fin ?_
    refine W.cT rfl rfl ?_
    refine W.sr ?_
    refine WL.v (X.bld (v := .agg #[.int .i64 0, .int .i64 0, .int .i64 0]) rfl (by kernel_rfl)) ?_
    refine WL.store hp 0 rfl tS56 rfl rfl (vs := [.int .i64 0, .int .i64 0, .int .i64 0]) rfl rfl rfl (new := #[.int .i64 0, .int .i64 0, .int .i64 0]) rfl ?_
    intro w hp
    refine WL.run 1 rfl ?_
    refine WL.fin ?_
    refine W.ret ?_
    refine X.thenR ?_
    refine W.done hp (rs := [.cell 4 56, .tmp 5]) (vs := [.agg #[.int .i64 0, .int .i64 0, .int .i64 0], .int .i64 1]) (v := .tuple #[.agg #[.int .i64 0, .int .i64 0, .int .i64 0], .int .i64 1]) rfl ⟨⟨_, rfl, run_loadVarB hp 0 rfl tA56 tS56 (vs := [.int .i64 0, .int .i64 0, .int .i64 0]) rfl⟩, rfl, trivial⟩ rfl ?_
    first | exact .inl ⟨by omega, by omega, by omega, rfl⟩ | exact .inr ⟨by omega, rfl⟩
  refine WL.g1 rfl rfl (decide_eq_false hc2) ?_
  refine WL.run 1 rfl ?_
  refine WL.g1 rfl rfl (decide_eq_false hc2) ?_
  refine WL.run 1 rfl ?_
  refine WL.v (X.pkF rfl (decide_eq_false hc2) rfl) ?_
  refine WL.run 1 rfl ?_
  by_cases hc3 : n < 0
  · refine WL.g0 rfl rfl (decide_eq_true hc3) rfl ?_
    refine WL.g0 rfl rfl (decide_eq_true hc3) rfl ?_
    refine WL.v (X.pkT rfl (decide_eq_true hc3) rfl) ?_
    refine WL.run 1 rfl ?_
    refine WL.g0 rfl rfl rfl rfl ?_
    refine WL.g0 rfl rfl rfl rfl ?_
    refine WL.g0 rfl rfl rfl rfl ?_
    refine WL.g0 rfl rfl rfl rfl ?_
    refine WL.v (X.pkT rfl rfl rfl) ?_
    refine WL.fin ?_
    refine W.cT rfl rfl ?_
    refine W.sr ?_
    refine WL.v (X.bld (v := .agg #[.int .i64 0, .int .i64 0, .int .i64 0]) rfl (by kernel_rfl)) ?_
    refine WL.store hp 0 rfl tS56 rfl rfl (vs := [.int .i64 0, .int .i64 0, .int .i64 0]) rfl rfl rfl (new := #[.int .i64 0, .int .i64 0, .int .i64 0]) rfl ?_
    intro w hp
    refine WL.run 1 rfl ?_
    refine WL.fin ?_
    refine W.ret ?_
    refine X.thenR ?_
    refine W.done hp (rs := [.cell 4 56, .tmp 5]) (vs := [.agg #[.int .i64 0, .int .i64 0, .int .i64 0], .int .i64 1]) (v := .tuple #[.agg #[.int .i64 0, .int .i64 0, .int .i64 0], .int .i64 1]) rfl ⟨⟨_, rfl, run_loadVarB hp 0 rfl tA56 tS56 (vs := [.int .i64 0, .int .i64 0, .int .i64 0]) rfl⟩, rfl, trivial⟩ rfl ?_
    first | exact .inl ⟨by omega, by omega, by omega, rfl⟩ | exact .inr ⟨by omega, rfl⟩
  refine WL.g1 rfl rfl (decide_eq_false hc3) ?_
  refine WL.run 1 rfl ?_
  refine WL.g1 rfl rfl (decide_eq_false hc3) ?_
  refine WL.run 1 rfl ?_
  refine WL.v (X.pkF rfl (decide_eq_false hc3) rfl) ?_
  refine WL.run 1 rfl ?_
  by_cases hc4 : 4096 < a
  · refine WL.g0 rfl rfl (decide_eq_true hc4) rfl ?_
    refine WL.g0 rfl rfl (decide_eq_true hc4) rfl ?_
    refine WL.g0 rfl rfl (decide_eq_true hc4) rfl ?_
    refine WL.g0 rfl rfl (decide_eq_true hc4) rfl ?_
    refine WL.v (X.pkT rfl (decide_eq_true hc4) rfl) ?_
    refine WL.fin ?_
    refine W.cT rfl rfl ?_
    refine W.sr ?_
    refine WL.v (X.bld (v := .agg #[.int .i64 0, .int .i64 0, .int .i64 0]) rfl (by kernel_rfl)) ?_
    refine WL.store hp 0 rfl tS56 rfl rfl (vs := [.int .i64 0, .int .i64 0, .int .i64 0]) rfl rfl rfl (new := #[.int .i64 0, .int .i64 0, .int .i64 0]) rfl ?_
    intro w hp
    refine WL.run 1 rfl ?_
    refine WL.fin ?_
    refine W.ret ?_
    refine X.thenR ?_
    refine W.done hp (rs := [.cell 4 56, .tmp 5]) (vs := [.agg #[.int .i64 0, .int .i64 0, .int .i64 0], .int .i64 1]) (v := .tuple #[.agg #[.int .i64 0, .int .i64 0, .int .i64 0], .int .i64 1]) rfl ⟨⟨_, rfl, run_loadVarB hp 0 rfl tA56 tS56 (vs := [.int .i64 0, .int .i64 0, .int .i64 0]) rfl⟩, rfl, trivial⟩ rfl ?_
    first | exact .inl ⟨by omega, by omega, by omega, rfl⟩ | exact .inr ⟨by omega, rfl⟩
  refine WL.g1 rfl rfl (decide_eq_false hc4) ?_
  refine WL.run 1 rfl ?_
  refine WL.g1 rfl rfl (decide_eq_false hc4) ?_
  refine WL.run 1 rfl ?_
  refine WL.g1 rfl rfl (decide_eq_false hc4) ?_
  refine WL.v (X.sub rfl rfl (in64 (by omega))) ?_
  refine WL.g1 rfl rfl (decide_eq_false hc4) ?_
  refine WL.run 1 rfl ?_
  refine WL.v (X.pkF rfl (decide_eq_false hc4) rfl) ?_
  refine WL.fin ?_
  by_cases hc5 : (4096 - a) < n
  · refine W.cT rfl (decide_eq_true hc5) ?_
    refine W.sr ?_
    refine WL.v (X.bld (v := .agg #[.int .i64 0, .int .i64 0, .int .i64 0]) rfl (by kernel_rfl)) ?_
    refine WL.store hp 0 rfl tS56 rfl rfl (vs := [.int .i64 0, .int .i64 0, .int .i64 0]) rfl rfl rfl (new := #[.int .i64 0, .int .i64 0, .int .i64 0]) rfl ?_
    intro w hp
    refine WL.run 1 rfl ?_
    refine WL.fin ?_
    refine W.ret ?_
    refine X.thenR ?_
    refine W.done hp (rs := [.cell 4 56, .tmp 5]) (vs := [.agg #[.int .i64 0, .int .i64 0, .int .i64 0], .int .i64 1]) (v := .tuple #[.agg #[.int .i64 0, .int .i64 0, .int .i64 0], .int .i64 1]) rfl ⟨⟨_, rfl, run_loadVarB hp 0 rfl tA56 tS56 (vs := [.int .i64 0, .int .i64 0, .int .i64 0]) rfl⟩, rfl, trivial⟩ rfl ?_
    first | exact .inl ⟨by omega, by omega, by omega, rfl⟩ | exact .inr ⟨by omega, rfl⟩
  refine W.cF rfl (decide_eq_false hc5) ?_
  refine W.ks ?_
  refine WL.run 4 rfl ?_
  refine WL.v (X.add rfl rfl (in64 (by omega))) ?_
  refine WL.v (X.bld (v := .agg #[.int .i64 a, .int .i64 a, .int .i64 (a + n)]) rfl (by kernel_rfl)) ?_
  refine WL.store hp 0 rfl tS56 rfl rfl (vs := [.int .i64 a, .int .i64 a, .int .i64 (a + n)]) rfl rfl rfl (new := #[.int .i64 a, .int .i64 a, .int .i64 (a + n)]) rfl ?_
  intro w hp
  refine WL.run 1 rfl ?_
  refine WL.fin ?_
  refine W.ret ?_
  refine W.done hp (rs := [.cell 4 56, .tmp 5]) (vs := [.agg #[.int .i64 a, .int .i64 a, .int .i64 (a + n)], .int .i64 0]) (v := .tuple #[.agg #[.int .i64 a, .int .i64 a, .int .i64 (a + n)], .int .i64 0]) rfl ⟨⟨_, rfl, run_loadVarB hp 0 rfl tA56 tS56 (vs := [.int .i64 a, .int .i64 a, .int .i64 (a + n)]) rfl⟩, rfl, trivial⟩ rfl ?_
  first | exact .inl ⟨by omega, by omega, by omega, rfl⟩ | exact .inr ⟨by omega, rfl⟩

theorem within_c {w0 : World} {n e : Int} :
    Calls Tryz.prog 101 #[.int .i64 n, .int .i64 e] w0 (Ret [] w0 (fun v _ => v = .bool (decide (0 ≤ n ∧ n < e)))) := by
  have hp : Hp w0 [] [] w0 := Hp.init w0
  refine enter (vs := [.int .i64 n, .int .i64 e]) Tryz.func101 rfl rfl rfl ?_
  refine gen_world hp ?_
  intro w hp
  refine W.sr ?_
  refine WL.run 1 rfl ?_
  refine WL.a ?_
  refine WL.run 3 rfl ?_
  by_cases hc1 : 0 ≤ n
  · refine WL.g1 rfl rfl (decide_eq_true hc1) ?_
    refine WL.run 1 rfl ?_
    refine WL.g1 rfl rfl (decide_eq_true hc1) ?_
    refine WL.run 1 rfl ?_
    refine WL.g1 rfl rfl (decide_eq_true hc1) ?_
    refine WL.run 1 rfl ?_
    refine WL.v (X.pkT rfl (decide_eq_true hc1) rfl) ?_
    refine WL.run 1 rfl ?_
    refine WL.fin ?_
    refine W.ret ?_
    refine W.done hp (rs := [.tmp 4]) (vs := [.bool (decide (n < e))]) (v := .bool (decide (n < e))) rfl ⟨rfl, trivial⟩ rfl ?_
    exact bool_val (by simp only [Bool.false_eq_true, decide_eq_true_eq]; constructor <;> intro h_ <;> first | contradiction | omega | (exfalso; omega))
  refine WL.g0 rfl rfl (decide_eq_false hc1) rfl ?_
  refine WL.g0 rfl rfl (decide_eq_false hc1) rfl ?_
  refine WL.g0 rfl rfl (decide_eq_false hc1) rfl ?_
  refine WL.v (X.pkF rfl (decide_eq_false hc1) rfl) ?_
  refine WL.run 1 rfl ?_
  refine WL.fin ?_
  refine W.ret ?_
  refine W.done hp (rs := [.tmp 4]) (vs := [.bool false]) (v := .bool false) rfl ⟨rfl, trivial⟩ rfl ?_
  exact bool_val (by simp only [Bool.false_eq_true, decide_eq_true_eq]; constructor <;> intro h_ <;> first | contradiction | omega | (exfalso; omega))

theorem hdRight_c {w0 : World} {h : Hd} :
    Calls Tryz.prog 95 #[.agg #[.int .i64 h.cls, .int .i64 h.age, .int .i64 h.fwd, .bool (h.mark), .bool (h.final), .bool (h.done)]] w0 (Ret [] w0 (fun v _ => v = .bool (hdR h))) := by
  have hp : Hp w0 [] [] w0 := Hp.init w0
  refine enter (vs := [.agg #[.int .i64 h.cls, .int .i64 h.age, .int .i64 h.fwd, .bool (h.mark), .bool (h.final), .bool (h.done)]]) Tryz.func95 rfl rfl rfl ?_
  refine gen_world hp ?_
  intro w hp
  refine W.sr ?_
  refine WL.box hp rfl (cs := #[.int .i64 h.cls, .int .i64 h.age, .int .i64 h.fwd, .bool (h.mark), .bool (h.final), .bool (h.done)]) rfl rfl ?_
  intro b1 w hp
  refine WL.run 1 rfl ?_
  refine WL.a ?_
  refine WL.run 1 rfl ?_
  refine WL.v (X.ldk (hp.at 0 rfl) tA3 rfl rfl) ?_
  refine WL.call isFn101 rfl rfl (within_c (n := h.cls) (e := 64)) ?_
  intro v w hc hr
  obtain rfl := hr
  have hp := hp.ext hc
  refine WL.run 1 rfl ?_
  by_cases hc2 : 0 ≤ h.cls ∧ h.cls < 64
  · refine WL.g1 rfl rfl (decide_eq_true hc2) ?_
    refine WL.run 1 rfl ?_
    refine WL.g1 rfl rfl (decide_eq_true hc2) ?_
    refine WL.v (X.ldk (hp.at 0 rfl) tA3 rfl rfl) ?_
    refine WL.g1 rfl rfl (decide_eq_true hc2) ?_
    refine WL.call isFn101 rfl rfl (within_c (n := h.age) (e := 8)) ?_
    intro v w hc hr
    obtain rfl := hr
    have hp := hp.ext hc
    refine WL.v (X.pkT rfl (decide_eq_true hc2) rfl) ?_
    refine WL.run 1 rfl ?_
    by_cases hc3 : 0 ≤ h.age ∧ h.age < 8
    · refine WL.g1 rfl rfl (decide_eq_true hc3) ?_
      refine WL.run 1 rfl ?_
      refine WL.g1 rfl rfl (decide_eq_true hc3) ?_
      refine WL.v (X.ldk (hp.at 0 rfl) tA3 rfl rfl) ?_
      refine WL.g1 rfl rfl (decide_eq_true hc3) ?_
      refine WL.call isFn101 rfl rfl (within_c (n := h.fwd) (e := 4096)) ?_
      intro v w hc hr
      obtain rfl := hr
      have hp := hp.ext hc
      refine WL.v (X.pkT rfl (decide_eq_true hc3) rfl) ?_
      refine WL.run 1 rfl ?_
      by_cases hc4 : 0 ≤ h.fwd ∧ h.fwd < 4096
      · refine WL.g1 rfl rfl (decide_eq_true hc4) ?_
        refine WL.run 1 rfl ?_
        refine WL.g1 rfl rfl (decide_eq_true hc4) ?_
        refine WL.v (X.ldk (hp.at 0 rfl) tA4 rfl rfl) ?_
        refine WL.g1 rfl rfl (decide_eq_true hc4) ?_
        refine WL.run 1 rfl ?_
        by_cases hc5 : h.final = true
        · refine WL.g1 rfl rfl hc5 ?_
          refine WL.run 1 rfl ?_
          refine WL.g1 rfl rfl hc5 ?_
          refine WL.v (X.ldk (hp.at 0 rfl) tA4 rfl rfl) ?_
          refine WL.g1 rfl rfl (decide_eq_true hc4) ?_
          refine WL.v (X.pkT rfl hc5 rfl) ?_
          refine WL.g1 rfl rfl (decide_eq_true hc4) ?_
          refine WL.run 1 rfl ?_
          refine WL.v (X.pkT rfl (decide_eq_true hc4) rfl) ?_
          refine WL.run 1 rfl ?_
          refine WL.fin ?_
          refine W.ret ?_
          refine W.done hp (rs := [.tmp 2]) (vs := [.bool (!h.done)]) (v := .bool (!h.done)) rfl ⟨rfl, trivial⟩ rfl ?_
          exact bool_val (by simp only [hdR_iff]; simp_all; try omega)
        refine WL.g0 rfl rfl (Bool.eq_false_iff.2 hc5) rfl ?_
        refine WL.g0 rfl rfl (Bool.eq_false_iff.2 hc5) rfl ?_
        refine WL.g1 rfl rfl (decide_eq_true hc4) ?_
        refine WL.v (X.pkF rfl (Bool.eq_false_iff.2 hc5) rfl) ?_
        refine WL.g1 rfl rfl (decide_eq_true hc4) ?_
        refine WL.run 1 rfl ?_
        refine WL.v (X.pkT rfl (decide_eq_true hc4) rfl) ?_
        refine WL.run 1 rfl ?_
        refine WL.fin ?_
        refine W.ret ?_
        refine W.done hp (rs := [.tmp 2]) (vs := [.bool true]) (v := .bool true) rfl ⟨rfl, trivial⟩ rfl ?_
        exact bool_val (by simp only [hdR_iff]; simp_all; try omega)
      refine WL.g0 rfl rfl (decide_eq_false hc4) rfl ?_
      refine WL.g0 rfl rfl (decide_eq_false hc4) rfl ?_
      refine WL.g0 rfl rfl (decide_eq_false hc4) rfl ?_
      refine WL.gu rfl rfl rfl ?_
      refine WL.gu rfl rfl rfl ?_
      refine WL.g0 rfl rfl (decide_eq_false hc4) rfl ?_
      refine WL.g0 rfl rfl (decide_eq_false hc4) rfl ?_
      refine WL.v (X.pkF rfl (decide_eq_false hc4) rfl) ?_
      refine WL.run 1 rfl ?_
      refine WL.fin ?_
      refine W.ret ?_
      refine W.done hp (rs := [.tmp 2]) (vs := [.bool false]) (v := .bool false) rfl ⟨rfl, trivial⟩ rfl ?_
      exact bool_val (by simp only [hdR_iff]; simp_all; try omega)
    refine WL.g0 rfl rfl (decide_eq_false hc3) rfl ?_
    refine WL.g0 rfl rfl (decide_eq_false hc3) rfl ?_
    refine WL.g0 rfl rfl (decide_eq_false hc3) rfl ?_
    refine WL.v (X.pkF rfl (decide_eq_false hc3) rfl) ?_
    refine WL.run 1 rfl ?_
    refine WL.g0 rfl rfl rfl rfl ?_
    refine WL.g0 rfl rfl rfl rfl ?_
    refine WL.g0 rfl rfl rfl rfl ?_
    refine WL.gu rfl rfl rfl ?_
    refine WL.gu rfl rfl rfl ?_
    refine WL.g0 rfl rfl rfl rfl ?_
    refine WL.g0 rfl rfl rfl rfl ?_
    refine WL.v (X.pkF rfl rfl rfl) ?_
    refine WL.run 1 rfl ?_
    refine WL.fin ?_
    refine W.ret ?_
    refine W.done hp (rs := [.tmp 2]) (vs := [.bool false]) (v := .bool false) rfl ⟨rfl, trivial⟩ rfl ?_
    exact bool_val (by simp only [hdR_iff]; simp_all; try omega)
  refine WL.g0 rfl rfl (decide_eq_false hc2) rfl ?_
  refine WL.g0 rfl rfl (decide_eq_false hc2) rfl ?_
  refine WL.g0 rfl rfl (decide_eq_false hc2) rfl ?_
  refine WL.v (X.pkF rfl (decide_eq_false hc2) rfl) ?_
  refine WL.run 1 rfl ?_
  refine WL.g0 rfl rfl rfl rfl ?_
  refine WL.g0 rfl rfl rfl rfl ?_
  refine WL.g0 rfl rfl rfl rfl ?_
  refine WL.v (X.pkF rfl rfl rfl) ?_
  refine WL.run 1 rfl ?_
  refine WL.g0 rfl rfl rfl rfl ?_
  refine WL.g0 rfl rfl rfl rfl ?_
  refine WL.g0 rfl rfl rfl rfl ?_
  refine WL.gu rfl rfl rfl ?_
  refine WL.gu rfl rfl rfl ?_
  refine WL.g0 rfl rfl rfl rfl ?_
  refine WL.g0 rfl rfl rfl rfl ?_
  refine WL.v (X.pkF rfl rfl rfl) ?_
  refine WL.run 1 rfl ?_
  refine WL.fin ?_
  refine W.ret ?_
  refine W.done hp (rs := [.tmp 2]) (vs := [.bool false]) (v := .bool false) rfl ⟨rfl, trivial⟩ rfl ?_
  exact bool_val (by simp only [hdR_iff]; simp_all; try omega)

theorem bit_c {w0 : World} {b : Bool} {n : Int} (hn : 0 ≤ n ∧ n ≤ 60) :
    Calls Tryz.prog 96 #[.bool (b), .int .i64 n] w0 (Ret [] w0 (fun v _ => v = .int .i64 (b2i b * 2 ^ n.toNat))) := by
  have hp : Hp w0 [] [] w0 := Hp.init w0
  have hpw : In64 (1 * 2 ^ n.toNat) := by
        have h1 : (2 : Nat) ^ n.toNat ≤ 2 ^ 60 := Nat.pow_le_pow_right (by decide) (by omega)
        have h2 := Int.ofNat_le.2 h1
        have h3 : (0 : Int) ≤ 2 ^ n.toNat := Int.le_of_lt (Int.pow_pos (by decide))
        simp at h2
        unfold In64; omega
  refine enter (vs := [.bool (b), .int .i64 n]) Tryz.func96 rfl rfl rfl ?_
  refine gen_world hp ?_
  intro w hp
  refine W.sr ?_
  refine WL.run 1 rfl ?_
  refine WL.s ?_
  refine W.sr ?_
  refine WL.run 2 rfl ?_
  refine WL.fin ?_
  by_cases hc1 : b = true
  · refine W.cF rfl (congrArg not hc1) ?_
    refine W.ks ?_
    refine WL.run 1 rfl ?_
    refine WL.v (X.bin (v := .int .i64 (1 * 2 ^ n.toNat)) rfl rfl (run_shl 1 n _ n.toNat (by omega) (by omega) rfl hpw)) ?_
    refine WL.run 1 rfl ?_
    refine WL.fin ?_
    refine W.ret ?_
    refine W.done hp (rs := [.tmp 4]) (vs := [.int .i64 (1 * 2 ^ n.toNat)]) (v := .int .i64 (1 * 2 ^ n.toNat)) rfl ⟨rfl, trivial⟩ rfl ?_
    first | (rw [show b = true from ‹_›]; rfl) | (rw [show b = false from Bool.eq_false_iff.2 ‹_›]; simp [b2i])
  refine W.cT rfl (congrArg not (Bool.eq_false_iff.2 hc1)) ?_
  refine W.sr ?_
  refine WL.run 1 rfl ?_
  refine WL.fin ?_
  refine W.ret ?_
  refine X.thenR ?_
  refine W.done hp (rs := [.tmp 4]) (vs := [.int .i64 0]) (v := .int .i64 0) rfl ⟨rfl, trivial⟩ rfl ?_
  first | (rw [show b = true from ‹_›]; rfl) | (rw [show b = false from Bool.eq_false_iff.2 ‹_›]; simp [b2i])

theorem word_c {w0 : World} {h : Hd} :
    Calls Tryz.prog 82 #[.agg #[.int .i64 h.cls, .int .i64 h.age, .int .i64 h.fwd, .bool (h.mark), .bool (h.final), .bool (h.done)]] w0 (Ret [] w0 (fun v _ => (hdR h = true ∧ v = .tuple #[.int .i64 (hdW h), .int .i64 0]) ∨ (¬ hdR h = true ∧ v = .tuple #[.int .i64 0, .int .i64 1]))) := by
  have hp : Hp w0 [] [] w0 := Hp.init w0
  have hm := b2i_01 h.mark
  have hf := b2i_01 h.final
  have hd := b2i_01 h.done
  refine enter (vs := [.agg #[.int .i64 h.cls, .int .i64 h.age, .int .i64 h.fwd, .bool (h.mark), .bool (h.final), .bool (h.done)]]) Tryz.func82 rfl rfl rfl ?_
  refine gen_world hp ?_
  intro w hp
  refine W.sr ?_
  refine WL.box hp rfl (cs := #[.int .i64 h.cls, .int .i64 h.age, .int .i64 h.fwd, .bool (h.mark), .bool (h.final), .bool (h.done)]) rfl rfl ?_
  intro b1 w hp
  refine WL.run 2 rfl ?_
  refine WL.s ?_
  refine W.sr ?_
  refine WL.v (X.ldkA (hp.at 0 rfl) tA123 tS123 (vs := [.int .i64 h.cls, .int .i64 h.age, .int .i64 h.fwd, .bool (h.mark), .bool (h.final), .bool (h.done)]) rfl rfl) ?_
  refine WL.call isFn95 rfl rfl (hdRight_c (h := h)) ?_
  intro v w hc hr
  obtain rfl := hr
  have hp := hp.ext hc
  refine WL.run 1 rfl ?_
  refine WL.fin ?_
  by_cases hc2 : hdR h = true
  · have hc2_ := hdR_t hc2
    refine W.cF rfl (congrArg not hc2) ?_
    refine W.k ?_
    refine W.seq ?_
    refine W.draw prog_mixed (fun w => (blkR b1 (.cells (#[.int .i64 h.cls, .int .i64 h.age, .int .i64 h.fwd, .bool (h.mark), .bool (h.final), .bool (h.done)]) 123 (0, 0))).ok w ∧ True) hp ?_
    intro w hp
    refine WD.s ⟨hp.at 0 rfl, trivial⟩ fun hS0 => ?_
    refine WD.v 0 rfl hS0 (fun w hS => (X.fa (r := 0) tF123_0 rfl rfl)) ?_
    refine WD.v 1 rfl hS0 (fun w hS => (X.ldk hS.1 tA3 rfl rfl)) ?_
    refine WD.v 2 rfl hS0 (fun w hS => (X.fa (r := 1) tF123_1 rfl rfl)) ?_
    refine WD.v 3 rfl hS0 (fun w hS => (X.ldk hS.1 tA3 rfl rfl)) ?_
    refine WD.v 4 rfl hS0 (fun w hS => (X.bin (v := .int .i64 (h.age * 64)) rfl rfl (run_shl _ _ _ 6 rfl (by decide) rfl (in64 (by omega))))) ?_
    refine WD.v 5 rfl hS0 (fun w hS => (X.bin (v := .int .i64 (h.cls + h.age * 64)) rfl rfl (run_or _ _ 6 h.age.toNat ⟨by omega, (by have : (2 : Int) ^ 6 = 64 := rfl; omega)⟩ (by have : (2 : Int) ^ 6 = 64 := rfl; omega) (by omega)))) ?_
    refine WD.v 6 rfl hS0 (fun w hS => (X.fa (r := 3) tF123_3 rfl rfl)) ?_
    refine WD.v 7 rfl hS0 (fun w hS => (X.ldk hS.1 tA4 rfl rfl)) ?_
    refine WD.v 10 rfl hS0 (fun w hS => (X.fa (r := 4) tF123_4 rfl rfl)) ?_
    refine WD.v 11 rfl hS0 (fun w hS => (X.ldk hS.1 tA4 rfl rfl)) ?_
    refine WD.v 14 rfl hS0 (fun w hS => (X.fa (r := 5) tF123_5 rfl rfl)) ?_
    refine WD.v 15 rfl hS0 (fun w hS => (X.ldk hS.1 tA4 rfl rfl)) ?_
    refine WD.v 18 rfl hS0 (fun w hS => (X.fa (r := 2) tF123_2 rfl rfl)) ?_
    refine WD.v 19 rfl hS0 (fun w hS => (X.ldk hS.1 tA3 rfl rfl)) ?_
    refine WD.v 20 rfl hS0 (fun w hS => (X.bin (v := .int .i64 (h.fwd * 8192)) rfl rfl (run_shl _ _ _ 13 rfl (by decide) rfl (in64 (by omega))))) ?_
    refine WD.one 8 (by kernel_rfl) ?_
    refine WO.call rfl isFn96 rfl rfl (bit_c (b := h.mark) (n := 10) (by omega)) ?_
    intro v w hc hr
    replace hr : v = .int .i64 (b2i h.mark * 1024) := hr
    subst hr
    have hp := hp.ext hc
    refine andS ⟨hp.at 0 rfl, trivial⟩ fun hS0 => ?_
    refine WD.v 9 rfl hS0 (fun w hS => (X.bin (v := .int .i64 ((h.cls + h.age * 64) + b2i h.mark * 1024)) rfl rfl (run_or _ _ 10 (b2i h.mark).toNat ⟨by omega, (by have : (2 : Int) ^ 10 = 1024 := rfl; omega)⟩ (by have : (2 : Int) ^ 10 = 1024 := rfl; omega) (by omega)))) ?_
    refine WD.one 12 (by kernel_rfl) ?_
    refine WO.call rfl isFn96 rfl rfl (bit_c (b := h.final) (n := 11) (by omega)) ?_
    intro v w hc hr
    replace hr : v = .int .i64 (b2i h.final * 2048) := hr
    subst hr
    have hp := hp.ext hc
    refine andS ⟨hp.at 0 rfl, trivial⟩ fun hS0 => ?_
    refine WD.v 13 rfl hS0 (fun w hS => (X.bin (v := .int .i64 (((h.cls + h.age * 64) + b2i h.mark * 1024) + b2i h.final * 2048)) rfl rfl (run_or _ _ 11 (b2i h.final).toNat ⟨by omega, (by have : (2 : Int) ^ 11 = 2048 := rfl; omega)⟩ (by have : (2 : Int) ^ 11 = 2048 := rfl; omega) (by omega)))) ?_
    refine WD.one 16 (by kernel_rfl) ?_
    refine WO.call rfl isFn96 rfl rfl (bit_c (b := h.done) (n := 12) (by omega)) ?_
    intro v w hc hr
    replace hr : v = .int .i64 (b2i h.done * 4096) := hr
    subst hr
    have hp := hp.ext hc
    refine andS ⟨hp.at 0 rfl, trivial⟩ fun hS0 => ?_
    refine WD.v 17 rfl hS0 (fun w hS => (X.bin (v := .int .i64 ((((h.cls + h.age * 64) + b2i h.mark * 1024) + b2i h.final * 2048) + b2i h.done * 4096)) rfl rfl (run_or _ _ 12 (b2i h.done).toNat ⟨by omega, (by have : (2 : Int) ^ 12 = 4096 := rfl; omega)⟩ (by have : (2 : Int) ^ 12 = 4096 := rfl; omega) (by omega)))) ?_
    refine WD.v 21 rfl hS0 (fun w hS => (X.bin (v := .int .i64 (((((h.cls + h.age * 64) + b2i h.mark * 1024) + b2i h.final * 2048) + b2i h.done * 4096) + h.fwd * 8192)) rfl rfl (run_or _ _ 13 h.fwd.toNat ⟨by omega, (by have : (2 : Int) ^ 13 = 8192 := rfl; omega)⟩ (by have : (2 : Int) ^ 13 = 8192 := rfl; omega) (by omega)))) ?_
    refine WD.v 22 rfl hS0 (fun w hS => (X.as rfl)) ?_
    refine WD.v 23 rfl hS0 (fun w hS => (X.as rfl)) ?_
    refine WD.nil (by kernel_rfl) ?_
    refine X.thenN ?_
    refine W.ret ?_
    refine W.done hp (rs := [.tmp 2, .tmp 3]) (vs := [.int .i64 (((((h.cls + h.age * 64) + b2i h.mark * 1024) + b2i h.final * 2048) + b2i h.done * 4096) + h.fwd * 8192), .int .i64 0]) (v := .tuple #[.int .i64 (((((h.cls + h.age * 64) + b2i h.mark * 1024) + b2i h.final * 2048) + b2i h.done * 4096) + h.fwd * 8192), .int .i64 0]) rfl ⟨rfl, rfl, trivial⟩ rfl ?_
    first | exact .inr ⟨by assumption, rfl⟩ | exact .inl ⟨by assumption, by rw [show hdW h = ((((h.cls + h.age * 64) + b2i h.mark * 1024) + b2i h.final * 2048) + b2i h.done * 4096) + h.fwd * 8192 from by unfold hdW; omega]⟩
  have hc2_ := hdR_f hc2
  refine W.cT rfl (congrArg not (Bool.eq_false_iff.2 hc2)) ?_
  refine W.sr ?_
  refine WL.run 2 rfl ?_
  refine WL.fin ?_
  refine W.ret ?_
  refine X.thenR ?_
  refine W.done hp (rs := [.tmp 2, .tmp 3]) (vs := [.int .i64 0, .int .i64 1]) (v := .tuple #[.int .i64 0, .int .i64 1]) rfl ⟨rfl, rfl, trivial⟩ rfl ?_
  first | exact .inr ⟨by assumption, rfl⟩ | exact .inl ⟨by assumption, by rw [show hdW h = ((((h.cls + h.age * 64) + b2i h.mark * 1024) + b2i h.final * 2048) + b2i h.done * 4096) + h.fwd * 8192 from by unfold hdW; omega]⟩

theorem of1_c {w0 : World} {b : Nat} {T : TypeId} {x n : Int} (hB : (blkR b (.cells #[.int .i64 x] T (0, 0))).ok w0) (hn : 0 ≤ n ∧ n ≤ 62) :
    Calls Tryz.prog 102 #[.int .i64 n, .pointer (some ⟨b, 0, none⟩)] w0 (Ret [] w0 (fun v _ => v = .bool (decide (x / 2 ^ n.toNat % 2 = 1)))) := by
  have hp : Hp w0 [] [] w0 := Hp.init w0
  refine enter (vs := [.int .i64 n, .pointer (some ⟨b, 0, none⟩)]) Tryz.func102 rfl rfl rfl ?_
  refine gen_world hp ?_
  intro w hp
  refine W.sr ?_
  refine WL.run 1 rfl ?_
  refine WL.a ?_
  refine WL.v (X.ldk (hp.old0 hB) tA3 rfl rfl) ?_
  refine WL.run 1 rfl ?_
  refine WL.v (X.bin (v := .int .i64 (x / 2 ^ n.toNat)) rfl rfl (run_shr x n _ n.toNat (by omega) (by omega) rfl)) ?_
  refine WL.v (X.bin (v := .int .i64 (x / 2 ^ n.toNat % 2)) rfl rfl (run_and _ 1 _ 1 (by decide) rfl rfl)) ?_
  refine WL.run 2 rfl ?_
  refine WL.fin ?_
  refine W.ret ?_
  refine W.done hp (rs := [.tmp 3]) (vs := [.bool (decide ((x / 2 ^ n.toNat % 2) = 1))]) (v := .bool (decide ((x / 2 ^ n.toNat % 2) = 1))) rfl ⟨rfl, trivial⟩ rfl ?_
  exact rfl

theorem of_c {w0 : World} {x : Int} :
    Calls Tryz.prog 100 #[.int .i64 x] w0 (Ret [] w0 (fun v _ => (hdR (hdOf x) = true ∧ v = .tuple #[.agg #[.int .i64 (hdOf x).cls, .int .i64 (hdOf x).age, .int .i64 (hdOf x).fwd, .bool (hdOf x).mark, .bool (hdOf x).final, .bool (hdOf x).done], .int .i64 0]) ∨ (¬ hdR (hdOf x) = true ∧ v = .tuple #[.agg #[.int .i64 0, .int .i64 0, .int .i64 0, .bool false, .bool false, .bool false], .int .i64 12]))) := by
  have hp : Hp w0 [] [] w0 := Hp.init w0
  refine enter (vs := [.int .i64 x]) Tryz.func100 rfl rfl rfl ?_
  refine gen_world hp ?_
  intro w hp
  refine W.sr ?_
  refine WL.box hp rfl (cs := #[.int .i64 x]) rfl rfl ?_
  intro b1 w hp
  refine WL.alloc hp tZ123 rfl ?_
  intro b2 w hp
  refine WL.run 1 rfl ?_
  refine WL.a ?_
  refine WL.v (X.mkf rfl rfl) ?_
  refine WL.run 1 rfl ?_
  refine WL.s ?_
  refine W.draw prog_mixed (fun w => (blkR b2 (.cells (#[.int .i64 0, .int .i64 0, .int .i64 0, .bool false, .bool false, .bool false]) 123 (0, 0))).ok w ∧ (blkR b1 (.cells (#[.int .i64 x]) 3 (0, 0))).ok w ∧ True) hp ?_
  intro w hp
  refine WD.s ⟨hp.at 0 rfl, hp.at 1 rfl, trivial⟩ fun hS0 => ?_
  refine WD.v 0 rfl hS0 (fun w hS => (X.ldk hS.2.1 tA3 rfl rfl)) ?_
  refine WD.v 1 rfl hS0 (fun w hS => (X.bin (v := .int .i64 (x % 64)) rfl rfl (run_and x _ _ 6 (by decide) rfl rfl))) ?_
  refine WD.v 2 rfl hS0 (fun w hS => (X.ldk hS.2.1 tA3 rfl rfl)) ?_
  refine WD.v 3 rfl hS0 (fun w hS => (X.bin (v := .int .i64 (x / 64)) rfl rfl (run_shr x _ _ 6 rfl (by decide) rfl))) ?_
  refine WD.v 4 rfl hS0 (fun w hS => (X.bin (v := .int .i64 (x / 64 % 16)) rfl rfl (run_and _ _ _ 4 (by decide) rfl rfl))) ?_
  refine WD.v 5 rfl hS0 (fun w hS => (X.ldk hS.2.1 tA3 rfl rfl)) ?_
  refine WD.v 6 rfl hS0 (fun w hS => (X.bin (v := .int .i64 (x / 8192)) rfl rfl (run_shr x _ _ 13 rfl (by decide) rfl))) ?_
  refine WD.v 7 rfl hS0 (fun w hS => (X.mv rfl)) ?_
  refine WD.v 9 rfl hS0 (fun w hS => (X.mv rfl)) ?_
  refine WD.v 11 rfl hS0 (fun w hS => (X.mv rfl)) ?_
  refine WD.two 8 14 (by kernel_rfl) ?_ ?_
  · refine WO.callV rfl isFn102 rfl rfl rfl (of1_c (x := x) (n := 10) (hp.at 1 rfl) (by omega)) ?_
    intro v w hc hr
    replace hr : v = .bool (decide (x / 1024 % 2 = 1)) := hr
    subst hr
    have hp := hp.ext hc
    refine andS ⟨hp.at 0 rfl, hp.at 1 rfl, trivial⟩ fun hS0 => ?_
    refine WD.two 10 14 (by kernel_rfl) ?_ ?_
    · refine WO.callV rfl isFn102 rfl rfl rfl (of1_c (x := x) (n := 11) (hp.at 1 rfl) (by omega)) ?_
      intro v w hc hr
      replace hr : v = .bool (decide (x / 2048 % 2 = 1)) := hr
      subst hr
      have hp := hp.ext hc
      refine andS ⟨hp.at 0 rfl, hp.at 1 rfl, trivial⟩ fun hS0 => ?_
      refine WD.two 12 14 (by kernel_rfl) ?_ ?_
      · refine WO.callV rfl isFn102 rfl rfl rfl (of1_c (x := x) (n := 12) (hp.at 1 rfl) (by omega)) ?_
        intro v w hc hr
        replace hr : v = .bool (decide (x / 4096 % 2 = 1)) := hr
        subst hr
        have hp := hp.ext hc
        refine andS ⟨hp.at 0 rfl, hp.at 1 rfl, trivial⟩ fun hS0 => ?_
        refine WD.v 13 rfl hS0 (fun w hS => (X.bld (v := .agg #[.int .i64 (x % 64), .int .i64 (x / 64 % 16), .int .i64 (x / 8192), .bool (decide (x / 1024 % 2 = 1)), .bool (decide (x / 2048 % 2 = 1)), .bool (decide (x / 4096 % 2 = 1))]) rfl (by kernel_rfl))) ?_
        refine WD.one 14 (by kernel_rfl) ?_
        refine WO.alloc hp rfl tZ123 rfl ?_
        intro b3 w hp
        refine andS ⟨hp.at 1 rfl, hp.at 2 rfl, trivial⟩ fun hS0 => ?_
        refine WD.one 15 (by kernel_rfl) ?_
        refine WO.store hp 0 rfl rfl tS123 rfl rfl (vs := [.int .i64 (x % 64), .int .i64 (x / 64 % 16), .int .i64 (x / 8192), .bool (decide (x / 1024 % 2 = 1)), .bool (decide (x / 2048 % 2 = 1)), .bool (decide (x / 4096 % 2 = 1))]) rfl rfl rfl (new := #[.int .i64 (x % 64), .int .i64 (x / 64 % 16), .int .i64 (x / 8192), .bool (decide (x / 1024 % 2 = 1)), .bool (decide (x / 2048 % 2 = 1)), .bool (decide (x / 4096 % 2 = 1))]) rfl ?_
        intro w hp
        refine andS ⟨hp.at 1 rfl, hp.at 2 rfl, trivial⟩ fun hS0 => ?_
        refine WD.nil (by kernel_rfl) ?_
        refine X.thenN ?_
        refine W.seq ?_
        refine W.sr ?_
        refine WL.v (X.ldkA (hp.at 0 rfl) tA123 tS123 (vs := [.int .i64 (x % 64), .int .i64 (x / 64 % 16), .int .i64 (x / 8192), .bool (decide (x / 1024 % 2 = 1)), .bool (decide (x / 2048 % 2 = 1)), .bool (decide (x / 4096 % 2 = 1))]) rfl rfl) ?_
        refine WL.call isFn95 rfl rfl (hdRight_c (h := (⟨x % 64, x / 64 % 16, x / 8192, decide (x / 1024 % 2 = 1), decide (x / 2048 % 2 = 1), decide (x / 4096 % 2 = 1)⟩ : Hd))) ?_
        intro v w hc hr
        obtain rfl := hr
        have hp := hp.ext hc
        refine WL.run 1 rfl ?_
        refine WL.fin ?_
        by_cases hc4 : hdR (⟨x % 64, x / 64 % 16, x / 8192, decide (x / 1024 % 2 = 1), decide (x / 2048 % 2 = 1), decide (x / 4096 % 2 = 1)⟩ : Hd) = true
        · have hc4_ := hdR_t hc4
          refine W.cF rfl (congrArg not hc4) ?_
          refine W.ks ?_
          refine WL.v (X.ldkA (hp.at 0 rfl) tA123 tS123 (vs := [.int .i64 (x % 64), .int .i64 (x / 64 % 16), .int .i64 (x / 8192), .bool (decide (x / 1024 % 2 = 1)), .bool (decide (x / 2048 % 2 = 1)), .bool (decide (x / 4096 % 2 = 1))]) rfl rfl) ?_
          refine WL.store hp 1 rfl tS123 rfl rfl (vs := [.int .i64 (x % 64), .int .i64 (x / 64 % 16), .int .i64 (x / 8192), .bool (decide (x / 1024 % 2 = 1)), .bool (decide (x / 2048 % 2 = 1)), .bool (decide (x / 4096 % 2 = 1))]) rfl rfl rfl (new := #[.int .i64 (x % 64), .int .i64 (x / 64 % 16), .int .i64 (x / 8192), .bool (decide (x / 1024 % 2 = 1)), .bool (decide (x / 2048 % 2 = 1)), .bool (decide (x / 4096 % 2 = 1))]) rfl ?_
          intro w hp
          refine WL.run 1 rfl ?_
          refine WL.fin ?_
          refine W.ret ?_
          refine W.done hp (rs := [.cell 2 123, .tmp 3]) (vs := [.agg #[.int .i64 (x % 64), .int .i64 (x / 64 % 16), .int .i64 (x / 8192), .bool (decide (x / 1024 % 2 = 1)), .bool (decide (x / 2048 % 2 = 1)), .bool (decide (x / 4096 % 2 = 1))], .int .i64 0]) (v := .tuple #[.agg #[.int .i64 (x % 64), .int .i64 (x / 64 % 16), .int .i64 (x / 8192), .bool (decide (x / 1024 % 2 = 1)), .bool (decide (x / 2048 % 2 = 1)), .bool (decide (x / 4096 % 2 = 1))], .int .i64 0]) rfl ⟨⟨_, rfl, run_loadVarB hp 1 rfl tA123 tS123 (vs := [.int .i64 (x % 64), .int .i64 (x / 64 % 16), .int .i64 (x / 8192), .bool (decide (x / 1024 % 2 = 1)), .bool (decide (x / 2048 % 2 = 1)), .bool (decide (x / 4096 % 2 = 1))]) rfl⟩, rfl, trivial⟩ rfl ?_
          first | exact .inr ⟨by assumption, rfl⟩ | exact .inl ⟨by assumption, rfl⟩
        have hc4_ := hdR_f hc4
        refine W.cT rfl (congrArg not (Bool.eq_false_iff.2 hc4)) ?_
        refine W.sr ?_
        refine WL.v (X.bld (v := .agg #[.int .i64 0, .int .i64 0, .int .i64 0, .bool false, .bool false, .bool false]) rfl (by kernel_rfl)) ?_
        refine WL.store hp 1 rfl tS123 rfl rfl (vs := [.int .i64 0, .int .i64 0, .int .i64 0, .bool false, .bool false, .bool false]) rfl rfl rfl (new := #[.int .i64 0, .int .i64 0, .int .i64 0, .bool false, .bool false, .bool false]) rfl ?_
        intro w hp
        refine WL.run 1 rfl ?_
        refine WL.fin ?_
        refine W.ret ?_
        refine X.thenR ?_
        refine W.done hp (rs := [.cell 2 123, .tmp 3]) (vs := [.agg #[.int .i64 0, .int .i64 0, .int .i64 0, .bool false, .bool false, .bool false], .int .i64 12]) (v := .tuple #[.agg #[.int .i64 0, .int .i64 0, .int .i64 0, .bool false, .bool false, .bool false], .int .i64 12]) rfl ⟨⟨_, rfl, run_loadVarB hp 1 rfl tA123 tS123 (vs := [.int .i64 0, .int .i64 0, .int .i64 0, .bool false, .bool false, .bool false]) rfl⟩, rfl, trivial⟩ rfl ?_
        first | exact .inr ⟨by assumption, rfl⟩ | exact .inl ⟨by assumption, rfl⟩
      refine WO.alloc hp rfl tZ123 rfl ?_
      intro b5 w hp
      refine andS ⟨hp.at 1 rfl, hp.at 2 rfl, trivial⟩ fun hS0 => ?_
      refine WD.one 12 (by kernel_rfl) ?_
      refine WO.callV rfl isFn102 rfl rfl rfl (of1_c (x := x) (n := 12) (hp.at 2 rfl) (by omega)) ?_
      intro v w hc hr
      replace hr : v = .bool (decide (x / 4096 % 2 = 1)) := hr
      subst hr
      have hp := hp.ext hc
      refine andS ⟨hp.at 1 rfl, hp.at 2 rfl, trivial⟩ fun hS0 => ?_
      refine WD.v 13 rfl hS0 (fun w hS => (X.bld (v := .agg #[.int .i64 (x % 64), .int .i64 (x / 64 % 16), .int .i64 (x / 8192), .bool (decide (x / 1024 % 2 = 1)), .bool (decide (x / 2048 % 2 = 1)), .bool (decide (x / 4096 % 2 = 1))]) rfl (by kernel_rfl))) ?_
      refine WD.one 15 (by kernel_rfl) ?_
      refine WO.store hp 0 rfl rfl tS123 rfl rfl (vs := [.int .i64 (x % 64), .int .i64 (x / 64 % 16), .int .i64 (x / 8192), .bool (decide (x / 1024 % 2 = 1)), .bool (decide (x / 2048 % 2 = 1)), .bool (decide (x / 4096 % 2 = 1))]) rfl rfl rfl (new := #[.int .i64 (x % 64), .int .i64 (x / 64 % 16), .int .i64 (x / 8192), .bool (decide (x / 1024 % 2 = 1)), .bool (decide (x / 2048 % 2 = 1)), .bool (decide (x / 4096 % 2 = 1))]) rfl ?_
      intro w hp
      refine andS ⟨hp.at 1 rfl, hp.at 2 rfl, trivial⟩ fun hS0 => ?_
      refine WD.nil (by kernel_rfl) ?_
      refine X.thenN ?_
      refine W.seq ?_
      refine W.sr ?_
      refine WL.v (X.ldkA (hp.at 0 rfl) tA123 tS123 (vs := [.int .i64 (x % 64), .int .i64 (x / 64 % 16), .int .i64 (x / 8192), .bool (decide (x / 1024 % 2 = 1)), .bool (decide (x / 2048 % 2 = 1)), .bool (decide (x / 4096 % 2 = 1))]) rfl rfl) ?_
      refine WL.call isFn95 rfl rfl (hdRight_c (h := (⟨x % 64, x / 64 % 16, x / 8192, decide (x / 1024 % 2 = 1), decide (x / 2048 % 2 = 1), decide (x / 4096 % 2 = 1)⟩ : Hd))) ?_
      intro v w hc hr
      obtain rfl := hr
      have hp := hp.ext hc
      refine WL.run 1 rfl ?_
      refine WL.fin ?_
      by_cases hc6 : hdR (⟨x % 64, x / 64 % 16, x / 8192, decide (x / 1024 % 2 = 1), decide (x / 2048 % 2 = 1), decide (x / 4096 % 2 = 1)⟩ : Hd) = true
      · have hc6_ := hdR_t hc6
        refine W.cF rfl (congrArg not hc6) ?_
        refine W.ks ?_
        refine WL.v (X.ldkA (hp.at 0 rfl) tA123 tS123 (vs := [.int .i64 (x % 64), .int .i64 (x / 64 % 16), .int .i64 (x / 8192), .bool (decide (x / 1024 % 2 = 1)), .bool (decide (x / 2048 % 2 = 1)), .bool (decide (x / 4096 % 2 = 1))]) rfl rfl) ?_
        refine WL.store hp 1 rfl tS123 rfl rfl (vs := [.int .i64 (x % 64), .int .i64 (x / 64 % 16), .int .i64 (x / 8192), .bool (decide (x / 1024 % 2 = 1)), .bool (decide (x / 2048 % 2 = 1)), .bool (decide (x / 4096 % 2 = 1))]) rfl rfl rfl (new := #[.int .i64 (x % 64), .int .i64 (x / 64 % 16), .int .i64 (x / 8192), .bool (decide (x / 1024 % 2 = 1)), .bool (decide (x / 2048 % 2 = 1)), .bool (decide (x / 4096 % 2 = 1))]) rfl ?_
        intro w hp
        refine WL.run 1 rfl ?_
        refine WL.fin ?_
        refine W.ret ?_
        refine W.done hp (rs := [.cell 2 123, .tmp 3]) (vs := [.agg #[.int .i64 (x % 64), .int .i64 (x / 64 % 16), .int .i64 (x / 8192), .bool (decide (x / 1024 % 2 = 1)), .bool (decide (x / 2048 % 2 = 1)), .bool (decide (x / 4096 % 2 = 1))], .int .i64 0]) (v := .tuple #[.agg #[.int .i64 (x % 64), .int .i64 (x / 64 % 16), .int .i64 (x / 8192), .bool (decide (x / 1024 % 2 = 1)), .bool (decide (x / 2048 % 2 = 1)), .bool (decide (x / 4096 % 2 = 1))], .int .i64 0]) rfl ⟨⟨_, rfl, run_loadVarB hp 1 rfl tA123 tS123 (vs := [.int .i64 (x % 64), .int .i64 (x / 64 % 16), .int .i64 (x / 8192), .bool (decide (x / 1024 % 2 = 1)), .bool (decide (x / 2048 % 2 = 1)), .bool (decide (x / 4096 % 2 = 1))]) rfl⟩, rfl, trivial⟩ rfl ?_
        first | exact .inr ⟨by assumption, rfl⟩ | exact .inl ⟨by assumption, rfl⟩
      have hc6_ := hdR_f hc6
      refine W.cT rfl (congrArg not (Bool.eq_false_iff.2 hc6)) ?_
      refine W.sr ?_
      refine WL.v (X.bld (v := .agg #[.int .i64 0, .int .i64 0, .int .i64 0, .bool false, .bool false, .bool false]) rfl (by kernel_rfl)) ?_
      refine WL.store hp 1 rfl tS123 rfl rfl (vs := [.int .i64 0, .int .i64 0, .int .i64 0, .bool false, .bool false, .bool false]) rfl rfl rfl (new := #[.int .i64 0, .int .i64 0, .int .i64 0, .bool false, .bool false, .bool false]) rfl ?_
      intro w hp
      refine WL.run 1 rfl ?_
      refine WL.fin ?_
      refine W.ret ?_
      refine X.thenR ?_
      refine W.done hp (rs := [.cell 2 123, .tmp 3]) (vs := [.agg #[.int .i64 0, .int .i64 0, .int .i64 0, .bool false, .bool false, .bool false], .int .i64 12]) (v := .tuple #[.agg #[.int .i64 0, .int .i64 0, .int .i64 0, .bool false, .bool false, .bool false], .int .i64 12]) rfl ⟨⟨_, rfl, run_loadVarB hp 1 rfl tA123 tS123 (vs := [.int .i64 0, .int .i64 0, .int .i64 0, .bool false, .bool false, .bool false]) rfl⟩, rfl, trivial⟩ rfl ?_
      first | exact .inr ⟨by assumption, rfl⟩ | exact .inl ⟨by assumption, rfl⟩
    refine WO.alloc hp rfl tZ123 rfl ?_
    intro b7 w hp
    refine andS ⟨hp.at 1 rfl, hp.at 2 rfl, trivial⟩ fun hS0 => ?_
    refine WD.one 10 (by kernel_rfl) ?_
    refine WO.callV rfl isFn102 rfl rfl rfl (of1_c (x := x) (n := 11) (hp.at 2 rfl) (by omega)) ?_
    intro v w hc hr
    replace hr : v = .bool (decide (x / 2048 % 2 = 1)) := hr
    subst hr
    have hp := hp.ext hc
    refine andS ⟨hp.at 1 rfl, hp.at 2 rfl, trivial⟩ fun hS0 => ?_
    refine WD.one 12 (by kernel_rfl) ?_
    refine WO.callV rfl isFn102 rfl rfl rfl (of1_c (x := x) (n := 12) (hp.at 2 rfl) (by omega)) ?_
    intro v w hc hr
    replace hr : v = .bool (decide (x / 4096 % 2 = 1)) := hr
    subst hr
    have hp := hp.ext hc
    refine andS ⟨hp.at 1 rfl, hp.at 2 rfl, trivial⟩ fun hS0 => ?_
    refine WD.v 13 rfl hS0 (fun w hS => (X.bld (v := .agg #[.int .i64 (x % 64), .int .i64 (x / 64 % 16), .int .i64 (x / 8192), .bool (decide (x / 1024 % 2 = 1)), .bool (decide (x / 2048 % 2 = 1)), .bool (decide (x / 4096 % 2 = 1))]) rfl (by kernel_rfl))) ?_
    refine WD.one 15 (by kernel_rfl) ?_
    refine WO.store hp 0 rfl rfl tS123 rfl rfl (vs := [.int .i64 (x % 64), .int .i64 (x / 64 % 16), .int .i64 (x / 8192), .bool (decide (x / 1024 % 2 = 1)), .bool (decide (x / 2048 % 2 = 1)), .bool (decide (x / 4096 % 2 = 1))]) rfl rfl rfl (new := #[.int .i64 (x % 64), .int .i64 (x / 64 % 16), .int .i64 (x / 8192), .bool (decide (x / 1024 % 2 = 1)), .bool (decide (x / 2048 % 2 = 1)), .bool (decide (x / 4096 % 2 = 1))]) rfl ?_
    intro w hp
    refine andS ⟨hp.at 1 rfl, hp.at 2 rfl, trivial⟩ fun hS0 => ?_
    refine WD.nil (by kernel_rfl) ?_
    refine X.thenN ?_
    refine W.seq ?_
    refine W.sr ?_
    refine WL.v (X.ldkA (hp.at 0 rfl) tA123 tS123 (vs := [.int .i64 (x % 64), .int .i64 (x / 64 % 16), .int .i64 (x / 8192), .bool (decide (x / 1024 % 2 = 1)), .bool (decide (x / 2048 % 2 = 1)), .bool (decide (x / 4096 % 2 = 1))]) rfl rfl) ?_
    refine WL.call isFn95 rfl rfl (hdRight_c (h := (⟨x % 64, x / 64 % 16, x / 8192, decide (x / 1024 % 2 = 1), decide (x / 2048 % 2 = 1), decide (x / 4096 % 2 = 1)⟩ : Hd))) ?_
    intro v w hc hr
    obtain rfl := hr
    have hp := hp.ext hc
    refine WL.run 1 rfl ?_
    refine WL.fin ?_
    by_cases hc8 : hdR (⟨x % 64, x / 64 % 16, x / 8192, decide (x / 1024 % 2 = 1), decide (x / 2048 % 2 = 1), decide (x / 4096 % 2 = 1)⟩ : Hd) = true
    · have hc8_ := hdR_t hc8
      refine W.cF rfl (congrArg not hc8) ?_
      refine W.ks ?_
      refine WL.v (X.ldkA (hp.at 0 rfl) tA123 tS123 (vs := [.int .i64 (x % 64), .int .i64 (x / 64 % 16), .int .i64 (x / 8192), .bool (decide (x / 1024 % 2 = 1)), .bool (decide (x / 2048 % 2 = 1)), .bool (decide (x / 4096 % 2 = 1))]) rfl rfl) ?_
      refine WL.store hp 1 rfl tS123 rfl rfl (vs := [.int .i64 (x % 64), .int .i64 (x / 64 % 16), .int .i64 (x / 8192), .bool (decide (x / 1024 % 2 = 1)), .bool (decide (x / 2048 % 2 = 1)), .bool (decide (x / 4096 % 2 = 1))]) rfl rfl rfl (new := #[.int .i64 (x % 64), .int .i64 (x / 64 % 16), .int .i64 (x / 8192), .bool (decide (x / 1024 % 2 = 1)), .bool (decide (x / 2048 % 2 = 1)), .bool (decide (x / 4096 % 2 = 1))]) rfl ?_
      intro w hp
      refine WL.run 1 rfl ?_
      refine WL.fin ?_
      refine W.ret ?_
      refine W.done hp (rs := [.cell 2 123, .tmp 3]) (vs := [.agg #[.int .i64 (x % 64), .int .i64 (x / 64 % 16), .int .i64 (x / 8192), .bool (decide (x / 1024 % 2 = 1)), .bool (decide (x / 2048 % 2 = 1)), .bool (decide (x / 4096 % 2 = 1))], .int .i64 0]) (v := .tuple #[.agg #[.int .i64 (x % 64), .int .i64 (x / 64 % 16), .int .i64 (x / 8192), .bool (decide (x / 1024 % 2 = 1)), .bool (decide (x / 2048 % 2 = 1)), .bool (decide (x / 4096 % 2 = 1))], .int .i64 0]) rfl ⟨⟨_, rfl, run_loadVarB hp 1 rfl tA123 tS123 (vs := [.int .i64 (x % 64), .int .i64 (x / 64 % 16), .int .i64 (x / 8192), .bool (decide (x / 1024 % 2 = 1)), .bool (decide (x / 2048 % 2 = 1)), .bool (decide (x / 4096 % 2 = 1))]) rfl⟩, rfl, trivial⟩ rfl ?_
      first | exact .inr ⟨by assumption, rfl⟩ | exact .inl ⟨by assumption, rfl⟩
    have hc8_ := hdR_f hc8
    refine W.cT rfl (congrArg not (Bool.eq_false_iff.2 hc8)) ?_
    refine W.sr ?_
    refine WL.v (X.bld (v := .agg #[.int .i64 0, .int .i64 0, .int .i64 0, .bool false, .bool false, .bool false]) rfl (by kernel_rfl)) ?_
    refine WL.store hp 1 rfl tS123 rfl rfl (vs := [.int .i64 0, .int .i64 0, .int .i64 0, .bool false, .bool false, .bool false]) rfl rfl rfl (new := #[.int .i64 0, .int .i64 0, .int .i64 0, .bool false, .bool false, .bool false]) rfl ?_
    intro w hp
    refine WL.run 1 rfl ?_
    refine WL.fin ?_
    refine W.ret ?_
    refine X.thenR ?_
    refine W.done hp (rs := [.cell 2 123, .tmp 3]) (vs := [.agg #[.int .i64 0, .int .i64 0, .int .i64 0, .bool false, .bool false, .bool false], .int .i64 12]) (v := .tuple #[.agg #[.int .i64 0, .int .i64 0, .int .i64 0, .bool false, .bool false, .bool false], .int .i64 12]) rfl ⟨⟨_, rfl, run_loadVarB hp 1 rfl tA123 tS123 (vs := [.int .i64 0, .int .i64 0, .int .i64 0, .bool false, .bool false, .bool false]) rfl⟩, rfl, trivial⟩ rfl ?_
    first | exact .inr ⟨by assumption, rfl⟩ | exact .inl ⟨by assumption, rfl⟩
  refine WO.alloc hp rfl tZ123 rfl ?_
  intro b9 w hp
  refine andS ⟨hp.at 1 rfl, hp.at 2 rfl, trivial⟩ fun hS0 => ?_
  refine WD.one 8 (by kernel_rfl) ?_
  refine WO.callV rfl isFn102 rfl rfl rfl (of1_c (x := x) (n := 10) (hp.at 2 rfl) (by omega)) ?_
  intro v w hc hr
  replace hr : v = .bool (decide (x / 1024 % 2 = 1)) := hr
  subst hr
  have hp := hp.ext hc
  refine andS ⟨hp.at 1 rfl, hp.at 2 rfl, trivial⟩ fun hS0 => ?_
  refine WD.one 10 (by kernel_rfl) ?_
  refine WO.callV rfl isFn102 rfl rfl rfl (of1_c (x := x) (n := 11) (hp.at 2 rfl) (by omega)) ?_
  intro v w hc hr
  replace hr : v = .bool (decide (x / 2048 % 2 = 1)) := hr
  subst hr
  have hp := hp.ext hc
  refine andS ⟨hp.at 1 rfl, hp.at 2 rfl, trivial⟩ fun hS0 => ?_
  refine WD.one 12 (by kernel_rfl) ?_
  refine WO.callV rfl isFn102 rfl rfl rfl (of1_c (x := x) (n := 12) (hp.at 2 rfl) (by omega)) ?_
  intro v w hc hr
  replace hr : v = .bool (decide (x / 4096 % 2 = 1)) := hr
  subst hr
  have hp := hp.ext hc
  refine andS ⟨hp.at 1 rfl, hp.at 2 rfl, trivial⟩ fun hS0 => ?_
  refine WD.v 13 rfl hS0 (fun w hS => (X.bld (v := .agg #[.int .i64 (x % 64), .int .i64 (x / 64 % 16), .int .i64 (x / 8192), .bool (decide (x / 1024 % 2 = 1)), .bool (decide (x / 2048 % 2 = 1)), .bool (decide (x / 4096 % 2 = 1))]) rfl (by kernel_rfl))) ?_
  refine WD.one 15 (by kernel_rfl) ?_
  refine WO.store hp 0 rfl rfl tS123 rfl rfl (vs := [.int .i64 (x % 64), .int .i64 (x / 64 % 16), .int .i64 (x / 8192), .bool (decide (x / 1024 % 2 = 1)), .bool (decide (x / 2048 % 2 = 1)), .bool (decide (x / 4096 % 2 = 1))]) rfl rfl rfl (new := #[.int .i64 (x % 64), .int .i64 (x / 64 % 16), .int .i64 (x / 8192), .bool (decide (x / 1024 % 2 = 1)), .bool (decide (x / 2048 % 2 = 1)), .bool (decide (x / 4096 % 2 = 1))]) rfl ?_
  intro w hp
  refine andS ⟨hp.at 1 rfl, hp.at 2 rfl, trivial⟩ fun hS0 => ?_
  refine WD.nil (by kernel_rfl) ?_
  refine X.thenN ?_
  refine W.seq ?_
  refine W.sr ?_
  refine WL.v (X.ldkA (hp.at 0 rfl) tA123 tS123 (vs := [.int .i64 (x % 64), .int .i64 (x / 64 % 16), .int .i64 (x / 8192), .bool (decide (x / 1024 % 2 = 1)), .bool (decide (x / 2048 % 2 = 1)), .bool (decide (x / 4096 % 2 = 1))]) rfl rfl) ?_
  refine WL.call isFn95 rfl rfl (hdRight_c (h := (⟨x % 64, x / 64 % 16, x / 8192, decide (x / 1024 % 2 = 1), decide (x / 2048 % 2 = 1), decide (x / 4096 % 2 = 1)⟩ : Hd))) ?_
  intro v w hc hr
  obtain rfl := hr
  have hp := hp.ext hc
  refine WL.run 1 rfl ?_
  refine WL.fin ?_
  by_cases hc10 : hdR (⟨x % 64, x / 64 % 16, x / 8192, decide (x / 1024 % 2 = 1), decide (x / 2048 % 2 = 1), decide (x / 4096 % 2 = 1)⟩ : Hd) = true
  · have hc10_ := hdR_t hc10
    refine W.cF rfl (congrArg not hc10) ?_
    refine W.ks ?_
    refine WL.v (X.ldkA (hp.at 0 rfl) tA123 tS123 (vs := [.int .i64 (x % 64), .int .i64 (x / 64 % 16), .int .i64 (x / 8192), .bool (decide (x / 1024 % 2 = 1)), .bool (decide (x / 2048 % 2 = 1)), .bool (decide (x / 4096 % 2 = 1))]) rfl rfl) ?_
    refine WL.store hp 1 rfl tS123 rfl rfl (vs := [.int .i64 (x % 64), .int .i64 (x / 64 % 16), .int .i64 (x / 8192), .bool (decide (x / 1024 % 2 = 1)), .bool (decide (x / 2048 % 2 = 1)), .bool (decide (x / 4096 % 2 = 1))]) rfl rfl rfl (new := #[.int .i64 (x % 64), .int .i64 (x / 64 % 16), .int .i64 (x / 8192), .bool (decide (x / 1024 % 2 = 1)), .bool (decide (x / 2048 % 2 = 1)), .bool (decide (x / 4096 % 2 = 1))]) rfl ?_
    intro w hp
    refine WL.run 1 rfl ?_
    refine WL.fin ?_
    refine W.ret ?_
    refine W.done hp (rs := [.cell 2 123, .tmp 3]) (vs := [.agg #[.int .i64 (x % 64), .int .i64 (x / 64 % 16), .int .i64 (x / 8192), .bool (decide (x / 1024 % 2 = 1)), .bool (decide (x / 2048 % 2 = 1)), .bool (decide (x / 4096 % 2 = 1))], .int .i64 0]) (v := .tuple #[.agg #[.int .i64 (x % 64), .int .i64 (x / 64 % 16), .int .i64 (x / 8192), .bool (decide (x / 1024 % 2 = 1)), .bool (decide (x / 2048 % 2 = 1)), .bool (decide (x / 4096 % 2 = 1))], .int .i64 0]) rfl ⟨⟨_, rfl, run_loadVarB hp 1 rfl tA123 tS123 (vs := [.int .i64 (x % 64), .int .i64 (x / 64 % 16), .int .i64 (x / 8192), .bool (decide (x / 1024 % 2 = 1)), .bool (decide (x / 2048 % 2 = 1)), .bool (decide (x / 4096 % 2 = 1))]) rfl⟩, rfl, trivial⟩ rfl ?_
    first | exact .inr ⟨by assumption, rfl⟩ | exact .inl ⟨by assumption, rfl⟩
  have hc10_ := hdR_f hc10
  refine W.cT rfl (congrArg not (Bool.eq_false_iff.2 hc10)) ?_
  refine W.sr ?_
  refine WL.v (X.bld (v := .agg #[.int .i64 0, .int .i64 0, .int .i64 0, .bool false, .bool false, .bool false]) rfl (by kernel_rfl)) ?_
  refine WL.store hp 1 rfl tS123 rfl rfl (vs := [.int .i64 0, .int .i64 0, .int .i64 0, .bool false, .bool false, .bool false]) rfl rfl rfl (new := #[.int .i64 0, .int .i64 0, .int .i64 0, .bool false, .bool false, .bool false]) rfl ?_
  intro w hp
  refine WL.run 1 rfl ?_
  refine WL.fin ?_
  refine W.ret ?_
  refine X.thenR ?_
  refine W.done hp (rs := [.cell 2 123, .tmp 3]) (vs := [.agg #[.int .i64 0, .int .i64 0, .int .i64 0, .bool false, .bool false, .bool false], .int .i64 12]) (v := .tuple #[.agg #[.int .i64 0, .int .i64 0, .int .i64 0, .bool false, .bool false, .bool false], .int .i64 12]) rfl ⟨⟨_, rfl, run_loadVarB hp 1 rfl tA123 tS123 (vs := [.int .i64 0, .int .i64 0, .int .i64 0, .bool false, .bool false, .bool false]) rfl⟩, rfl, trivial⟩ rfl ?_
  first | exact .inr ⟨by assumption, rfl⟩ | exact .inl ⟨by assumption, rfl⟩

theorem small_c {w0 : World} {c : Cls} :
    Calls Tryz.prog 80 #[.agg #[.int .i64 c.kind, .int .i64 c.refs, .int .i64 c.data, .bool (c.final)]] w0 (Ret [] w0 (fun v _ => v = .bool (clsSmall c))) := by
  have hp : Hp w0 [] [] w0 := Hp.init w0
  refine enter (vs := [.agg #[.int .i64 c.kind, .int .i64 c.refs, .int .i64 c.data, .bool (c.final)]]) Tryz.func80 rfl rfl rfl ?_
  refine gen_world hp ?_
  intro w hp
  refine W.sr ?_
  refine WL.box hp rfl (cs := #[.int .i64 c.kind, .int .i64 c.refs, .int .i64 c.data, .bool (c.final)]) rfl rfl ?_
  intro b1 w hp
  refine WL.run 1 rfl ?_
  refine WL.a ?_
  refine WL.run 1 rfl ?_
  refine WL.a ?_
  refine WL.run 1 rfl ?_
  refine WL.v (X.ldk (hp.at 0 rfl) tA3 rfl rfl) ?_
  refine WL.run 2 rfl ?_
  by_cases hc2 : 0 ≤ c.refs
  · refine WL.g1 rfl rfl (decide_eq_true hc2) ?_
    refine WL.run 1 rfl ?_
    refine WL.g1 rfl rfl (decide_eq_true hc2) ?_
    refine WL.v (X.ldk (hp.at 0 rfl) tA3 rfl rfl) ?_
    refine WL.g1 rfl rfl (decide_eq_true hc2) ?_
    refine WL.run 1 rfl ?_
    refine WL.v (X.pkT rfl (decide_eq_true hc2) rfl) ?_
    refine WL.run 1 rfl ?_
    by_cases hc3 : 0 ≤ c.data
    · refine WL.g1 rfl rfl (decide_eq_true hc3) ?_
      refine WL.run 1 rfl ?_
      refine WL.g1 rfl rfl (decide_eq_true hc3) ?_
      refine WL.v (X.ldk (hp.at 0 rfl) tA3 rfl rfl) ?_
      refine WL.g1 rfl rfl (decide_eq_true hc3) ?_
      refine WL.run 1 rfl ?_
      refine WL.g1 rfl rfl (decide_eq_true hc3) ?_
      refine WL.run 1 rfl ?_
      refine WL.v (X.pkT rfl (decide_eq_true hc3) rfl) ?_
      refine WL.run 1 rfl ?_
      by_cases hc4 : c.refs ≤ 30
      · refine WL.g1 rfl rfl (decide_eq_true hc4) ?_
        refine WL.run 1 rfl ?_
        refine WL.g1 rfl rfl (decide_eq_true hc4) ?_
        refine WL.v (X.ldk (hp.at 0 rfl) tA3 rfl rfl) ?_
        refine WL.g1 rfl rfl (decide_eq_true hc4) ?_
        refine WL.run 1 rfl ?_
        refine WL.g1 rfl rfl (decide_eq_true hc4) ?_
        refine WL.run 1 rfl ?_
        refine WL.g1 rfl rfl (decide_eq_true hc4) ?_
        refine WL.v (X.ldk (hp.at 0 rfl) tA3 rfl rfl) ?_
        refine WL.g1 rfl rfl (decide_eq_true hc4) ?_
        refine WL.v (X.sub rfl rfl (in64 (by omega))) ?_
        refine WL.g1 rfl rfl (decide_eq_true hc4) ?_
        refine WL.run 1 rfl ?_
        refine WL.v (X.pkT rfl (decide_eq_true hc4) rfl) ?_
        refine WL.run 1 rfl ?_
        refine WL.fin ?_
        refine W.ret ?_
        refine W.done hp (rs := [.tmp 2]) (vs := [.bool (decide (c.data ≤ (30 - c.refs)))]) (v := .bool (decide (c.data ≤ (30 - c.refs)))) rfl ⟨rfl, trivial⟩ rfl ?_
        exact bool_val (by simp only [Bool.false_eq_true, decide_eq_true_eq, clsSmall_iff]; constructor <;> intro h_ <;> first | contradiction | omega | (exfalso; omega))
      refine WL.g0 rfl rfl (decide_eq_false hc4) rfl ?_
      refine WL.g0 rfl rfl (decide_eq_false hc4) rfl ?_
      refine WL.g0 rfl rfl (decide_eq_false hc4) rfl ?_
      refine WL.g0 rfl rfl (decide_eq_false hc4) rfl ?_
      refine WL.g0 rfl rfl (decide_eq_false hc4) rfl ?_
      refine WL.g0 rfl rfl (decide_eq_false hc4) rfl ?_
      refine WL.g0 rfl rfl (decide_eq_false hc4) rfl ?_
      refine WL.v (X.pkF rfl (decide_eq_false hc4) rfl) ?_
      refine WL.run 1 rfl ?_
      refine WL.fin ?_
      refine W.ret ?_
      refine W.done hp (rs := [.tmp 2]) (vs := [.bool false]) (v := .bool false) rfl ⟨rfl, trivial⟩ rfl ?_
      exact bool_val (by simp only [Bool.false_eq_true, decide_eq_true_eq, clsSmall_iff]; constructor <;> intro h_ <;> first | contradiction | omega | (exfalso; omega))
    refine WL.g0 rfl rfl (decide_eq_false hc3) rfl ?_
    refine WL.g0 rfl rfl (decide_eq_false hc3) rfl ?_
    refine WL.g0 rfl rfl (decide_eq_false hc3) rfl ?_
    refine WL.g0 rfl rfl (decide_eq_false hc3) rfl ?_
    refine WL.v (X.pkF rfl (decide_eq_false hc3) rfl) ?_
    refine WL.run 1 rfl ?_
    refine WL.g0 rfl rfl rfl rfl ?_
    refine WL.g0 rfl rfl rfl rfl ?_
    refine WL.g0 rfl rfl rfl rfl ?_
    refine WL.g0 rfl rfl rfl rfl ?_
    refine WL.g0 rfl rfl rfl rfl ?_
    refine WL.g0 rfl rfl rfl rfl ?_
    refine WL.g0 rfl rfl rfl rfl ?_
    refine WL.v (X.pkF rfl rfl rfl) ?_
    refine WL.run 1 rfl ?_
    refine WL.fin ?_
    refine W.ret ?_
    refine W.done hp (rs := [.tmp 2]) (vs := [.bool false]) (v := .bool false) rfl ⟨rfl, trivial⟩ rfl ?_
    exact bool_val (by simp only [Bool.false_eq_true, decide_eq_true_eq, clsSmall_iff]; constructor <;> intro h_ <;> first | contradiction | omega | (exfalso; omega))
  refine WL.g0 rfl rfl (decide_eq_false hc2) rfl ?_
  refine WL.g0 rfl rfl (decide_eq_false hc2) rfl ?_
  refine WL.g0 rfl rfl (decide_eq_false hc2) rfl ?_
  refine WL.v (X.pkF rfl (decide_eq_false hc2) rfl) ?_
  refine WL.run 1 rfl ?_
  refine WL.g0 rfl rfl rfl rfl ?_
  refine WL.g0 rfl rfl rfl rfl ?_
  refine WL.g0 rfl rfl rfl rfl ?_
  refine WL.g0 rfl rfl rfl rfl ?_
  refine WL.v (X.pkF rfl rfl rfl) ?_
  refine WL.run 1 rfl ?_
  refine WL.g0 rfl rfl rfl rfl ?_
  refine WL.g0 rfl rfl rfl rfl ?_
  refine WL.g0 rfl rfl rfl rfl ?_
  refine WL.g0 rfl rfl rfl rfl ?_
  refine WL.g0 rfl rfl rfl rfl ?_
  refine WL.g0 rfl rfl rfl rfl ?_
  refine WL.g0 rfl rfl rfl rfl ?_
  refine WL.v (X.pkF rfl rfl rfl) ?_
  refine WL.run 1 rfl ?_
  refine WL.fin ?_
  refine W.ret ?_
  refine W.done hp (rs := [.tmp 2]) (vs := [.bool false]) (v := .bool false) rfl ⟨rfl, trivial⟩ rfl ?_
  exact bool_val (by simp only [Bool.false_eq_true, decide_eq_true_eq, clsSmall_iff]; constructor <;> intro h_ <;> first | contradiction | omega | (exfalso; omega))

theorem clsRight_c {w0 : World} {c : Cls} :
    Calls Tryz.prog 52 #[.agg #[.int .i64 c.kind, .int .i64 c.refs, .int .i64 c.data, .bool (c.final)]] w0 (Ret [] w0 (fun v _ => v = .bool (clsR c))) := by
  have hp : Hp w0 [] [] w0 := Hp.init w0
  refine enter (vs := [.agg #[.int .i64 c.kind, .int .i64 c.refs, .int .i64 c.data, .bool (c.final)]]) Tryz.func52 rfl rfl rfl ?_
  refine gen_world hp ?_
  intro w hp
  refine W.sr ?_
  refine WL.box hp rfl (cs := #[.int .i64 c.kind, .int .i64 c.refs, .int .i64 c.data, .bool (c.final)]) rfl rfl ?_
  intro b1 w hp
  refine WL.run 1 rfl ?_
  refine WL.s ?_
  refine W.sr ?_
  refine WL.run 1 rfl ?_
  refine WL.v (X.ldk (hp.at 0 rfl) tA3 rfl rfl) ?_
  refine WL.fin ?_
  refine W.block ?_
  refine W.sr ?_
  refine WL.run 2 rfl ?_
  refine WL.fin ?_
  by_cases hc2 : c.kind = 1
  · refine W.cT rfl (decide_eq_true hc2) ?_
    refine W.sr ?_
    refine WL.v (X.ldkA (hp.at 0 rfl) tA111 tS111 (vs := [.int .i64 c.kind, .int .i64 c.refs, .int .i64 c.data, .bool (c.final)]) rfl rfl) ?_
    refine WL.call isFn80 rfl rfl (small_c (c := c)) ?_
    intro v w hc hr
    obtain rfl := hr
    have hp := hp.ext hc
    refine WL.run 1 rfl ?_
    refine WL.fin ?_
    refine W.ret ?_
    refine X.inR ?_
    refine X.thenR ?_
    refine W.done hp (rs := [.tmp 2]) (vs := [.bool (clsSmall c)]) (v := .bool (clsSmall c)) rfl ⟨rfl, trivial⟩ rfl ?_
    exact bool_val (by simp only [clsR_iff]; simp_all; try omega)
  refine W.cF rfl (decide_eq_false hc2) ?_
  refine W.sr ?_
  refine WL.run 2 rfl ?_
  refine WL.fin ?_
  by_cases hc3 : c.kind = 2
  · refine W.cT rfl (decide_eq_true hc3) ?_
    refine W.sr ?_
    refine WL.run 1 rfl ?_
    refine WL.v (X.ldk (hp.at 0 rfl) tA3 rfl rfl) ?_
    refine WL.run 2 rfl ?_
    by_cases hc4 : c.refs = 0
    · refine WL.g1 rfl rfl (decide_eq_true hc4) ?_
      refine WL.run 1 rfl ?_
      refine WL.g1 rfl rfl (decide_eq_true hc4) ?_
      refine WL.v (X.ldk (hp.at 0 rfl) tA3 rfl rfl) ?_
      refine WL.g1 rfl rfl (decide_eq_true hc4) ?_
      refine WL.run 1 rfl ?_
      refine WL.v (X.pkT rfl (decide_eq_true hc4) rfl) ?_
      refine WL.run 1 rfl ?_
      refine WL.fin ?_
      refine W.ret ?_
      refine X.inR ?_
      refine X.thenR ?_
      refine W.done hp (rs := [.tmp 2]) (vs := [.bool (decide (c.data = 0))]) (v := .bool (decide (c.data = 0))) rfl ⟨rfl, trivial⟩ rfl ?_
      exact bool_val (by simp only [clsR_iff]; simp_all; try omega)
    refine WL.g0 rfl rfl (decide_eq_false hc4) rfl ?_
    refine WL.g0 rfl rfl (decide_eq_false hc4) rfl ?_
    refine WL.g0 rfl rfl (decide_eq_false hc4) rfl ?_
    refine WL.v (X.pkF rfl (decide_eq_false hc4) rfl) ?_
    refine WL.run 1 rfl ?_
    refine WL.fin ?_
    refine W.ret ?_
    refine X.inR ?_
    refine X.thenR ?_
    refine W.done hp (rs := [.tmp 2]) (vs := [.bool false]) (v := .bool false) rfl ⟨rfl, trivial⟩ rfl ?_
    exact bool_val (by simp only [clsR_iff]; simp_all; try omega)
  refine W.cF rfl (decide_eq_false hc3) ?_
  refine W.seq ?_
  refine W.sr ?_
  refine WL.run 2 rfl ?_
  refine WL.fin ?_
  by_cases hc5 : c.kind = 3
  · refine W.cT rfl (decide_eq_true hc5) ?_
    refine W.k ?_
    refine W.cT rfl (decide_eq_true hc5) ?_
    refine W.sr ?_
    refine WL.v (X.ldkA (hp.at 0 rfl) tA111 tS111 (vs := [.int .i64 c.kind, .int .i64 c.refs, .int .i64 c.data, .bool (c.final)]) rfl rfl) ?_
    refine WL.call isFn80 rfl rfl (small_c (c := c)) ?_
    intro v w hc hr
    obtain rfl := hr
    have hp := hp.ext hc
    refine WL.run 1 rfl ?_
    by_cases hc6 : clsSmall c = true
    · have hc6_ := clsSmall_t hc6
      refine WL.g1 rfl rfl hc6 ?_
      refine WL.run 1 rfl ?_
      refine WL.g1 rfl rfl hc6 ?_
      refine WL.v (X.ldk (hp.at 0 rfl) tA3 rfl rfl) ?_
      refine WL.g1 rfl rfl hc6 ?_
      refine WL.run 1 rfl ?_
      refine WL.v (X.pkT rfl hc6 rfl) ?_
      refine WL.run 1 rfl ?_
      by_cases hc7 : 1 ≤ c.refs
      · refine WL.g1 rfl rfl (decide_eq_true hc7) ?_
        refine WL.run 1 rfl ?_
        refine WL.g1 rfl rfl (decide_eq_true hc7) ?_
        refine WL.v (X.ldk (hp.at 0 rfl) tA3 rfl rfl) ?_
        refine WL.g1 rfl rfl (decide_eq_true hc7) ?_
        refine WL.run 1 rfl ?_
        refine WL.v (X.pkT rfl (decide_eq_true hc7) rfl) ?_
        refine WL.run 1 rfl ?_
        by_cases hc8 : 2 ≤ c.data
        · refine WL.g1 rfl rfl (decide_eq_true hc8) ?_
          refine WL.run 1 rfl ?_
          refine WL.g1 rfl rfl (decide_eq_true hc8) ?_
          refine WL.v (X.ldk (hp.at 0 rfl) tA4 rfl rfl) ?_
          refine WL.g1 rfl rfl (decide_eq_true hc8) ?_
          refine WL.run 1 rfl ?_
          refine WL.v (X.pkT rfl (decide_eq_true hc8) rfl) ?_
          refine WL.run 1 rfl ?_
          refine WL.fin ?_
          refine W.ret ?_
          refine X.inR ?_
          refine X.thenR ?_
          refine W.done hp (rs := [.tmp 2]) (vs := [.bool (!c.final)]) (v := .bool (!c.final)) rfl ⟨rfl, trivial⟩ rfl ?_
          exact bool_val (by simp only [clsR_iff]; simp_all; try omega)
        refine WL.g0 rfl rfl (decide_eq_false hc8) rfl ?_
        refine WL.g0 rfl rfl (decide_eq_false hc8) rfl ?_
        refine WL.g0 rfl rfl (decide_eq_false hc8) rfl ?_
        refine WL.v (X.pkF rfl (decide_eq_false hc8) rfl) ?_
        refine WL.run 1 rfl ?_
        refine WL.fin ?_
        refine W.ret ?_
        refine X.inR ?_
        refine X.thenR ?_
        refine W.done hp (rs := [.tmp 2]) (vs := [.bool false]) (v := .bool false) rfl ⟨rfl, trivial⟩ rfl ?_
        exact bool_val (by simp only [clsR_iff]; simp_all; try omega)
      refine WL.g0 rfl rfl (decide_eq_false hc7) rfl ?_
      refine WL.g0 rfl rfl (decide_eq_false hc7) rfl ?_
      refine WL.g0 rfl rfl (decide_eq_false hc7) rfl ?_
      refine WL.v (X.pkF rfl (decide_eq_false hc7) rfl) ?_
      refine WL.run 1 rfl ?_
      refine WL.g0 rfl rfl rfl rfl ?_
      refine WL.g0 rfl rfl rfl rfl ?_
      refine WL.g0 rfl rfl rfl rfl ?_
      refine WL.v (X.pkF rfl rfl rfl) ?_
      refine WL.run 1 rfl ?_
      refine WL.fin ?_
      refine W.ret ?_
      refine X.inR ?_
      refine X.thenR ?_
      refine W.done hp (rs := [.tmp 2]) (vs := [.bool false]) (v := .bool false) rfl ⟨rfl, trivial⟩ rfl ?_
      exact bool_val (by simp only [clsR_iff]; simp_all; try omega)
    have hc6_ := clsSmall_f hc6
    refine WL.g0 rfl rfl (Bool.eq_false_iff.2 hc6) rfl ?_
    refine WL.g0 rfl rfl (Bool.eq_false_iff.2 hc6) rfl ?_
    refine WL.g0 rfl rfl (Bool.eq_false_iff.2 hc6) rfl ?_
    refine WL.v (X.pkF rfl (Bool.eq_false_iff.2 hc6) rfl) ?_
    refine WL.run 1 rfl ?_
    refine WL.g0 rfl rfl rfl rfl ?_
    refine WL.g0 rfl rfl rfl rfl ?_
    refine WL.g0 rfl rfl rfl rfl ?_
    refine WL.v (X.pkF rfl rfl rfl) ?_
    refine WL.run 1 rfl ?_
    refine WL.g0 rfl rfl rfl rfl ?_
    refine WL.g0 rfl rfl rfl rfl ?_
    refine WL.g0 rfl rfl rfl rfl ?_
    refine WL.v (X.pkF rfl rfl rfl) ?_
    refine WL.run 1 rfl ?_
    refine WL.fin ?_
    refine W.ret ?_
    refine X.inR ?_
    refine X.thenR ?_
    refine W.done hp (rs := [.tmp 2]) (vs := [.bool false]) (v := .bool false) rfl ⟨rfl, trivial⟩ rfl ?_
    exact bool_val (by simp only [clsR_iff]; simp_all; try omega)
  refine W.cF rfl (decide_eq_false hc5) ?_
  refine W.sr ?_
  refine WL.run 2 rfl ?_
  refine WL.fin ?_
  by_cases hc9 : c.kind = 4
  · refine W.cT rfl (decide_eq_true hc9) ?_
    refine W.k ?_
    refine W.cT rfl (decide_eq_true hc9) ?_
    refine W.sr ?_
    refine WL.v (X.ldkA (hp.at 0 rfl) tA111 tS111 (vs := [.int .i64 c.kind, .int .i64 c.refs, .int .i64 c.data, .bool (c.final)]) rfl rfl) ?_
    refine WL.call isFn80 rfl rfl (small_c (c := c)) ?_
    intro v w hc hr
    obtain rfl := hr
    have hp := hp.ext hc
    refine WL.run 1 rfl ?_
    by_cases hc10 : clsSmall c = true
    · have hc10_ := clsSmall_t hc10
      refine WL.g1 rfl rfl hc10 ?_
      refine WL.run 1 rfl ?_
      refine WL.g1 rfl rfl hc10 ?_
      refine WL.v (X.ldk (hp.at 0 rfl) tA3 rfl rfl) ?_
      refine WL.g1 rfl rfl hc10 ?_
      refine WL.run 1 rfl ?_
      refine WL.v (X.pkT rfl hc10 rfl) ?_
      refine WL.run 1 rfl ?_
      by_cases hc11 : 1 ≤ c.refs
      · refine WL.g1 rfl rfl (decide_eq_true hc11) ?_
        refine WL.run 1 rfl ?_
        refine WL.g1 rfl rfl (decide_eq_true hc11) ?_
        refine WL.v (X.ldk (hp.at 0 rfl) tA3 rfl rfl) ?_
        refine WL.g1 rfl rfl (decide_eq_true hc11) ?_
        refine WL.run 1 rfl ?_
        refine WL.v (X.pkT rfl (decide_eq_true hc11) rfl) ?_
        refine WL.run 1 rfl ?_
        by_cases hc12 : 2 ≤ c.data
        · refine WL.g1 rfl rfl (decide_eq_true hc12) ?_
          refine WL.run 1 rfl ?_
          refine WL.g1 rfl rfl (decide_eq_true hc12) ?_
          refine WL.v (X.ldk (hp.at 0 rfl) tA4 rfl rfl) ?_
          refine WL.g1 rfl rfl (decide_eq_true hc12) ?_
          refine WL.run 1 rfl ?_
          refine WL.v (X.pkT rfl (decide_eq_true hc12) rfl) ?_
          refine WL.run 1 rfl ?_
          refine WL.fin ?_
          refine W.ret ?_
          refine X.inR ?_
          refine X.thenR ?_
          refine W.done hp (rs := [.tmp 2]) (vs := [.bool (!c.final)]) (v := .bool (!c.final)) rfl ⟨rfl, trivial⟩ rfl ?_
          exact bool_val (by simp only [clsR_iff]; simp_all; try omega)
        refine WL.g0 rfl rfl (decide_eq_false hc12) rfl ?_
        refine WL.g0 rfl rfl (decide_eq_false hc12) rfl ?_
        refine WL.g0 rfl rfl (decide_eq_false hc12) rfl ?_
        refine WL.v (X.pkF rfl (decide_eq_false hc12) rfl) ?_
        refine WL.run 1 rfl ?_
        refine WL.fin ?_
        refine W.ret ?_
        refine X.inR ?_
        refine X.thenR ?_
        refine W.done hp (rs := [.tmp 2]) (vs := [.bool false]) (v := .bool false) rfl ⟨rfl, trivial⟩ rfl ?_
        exact bool_val (by simp only [clsR_iff]; simp_all; try omega)
      refine WL.g0 rfl rfl (decide_eq_false hc11) rfl ?_
      refine WL.g0 rfl rfl (decide_eq_false hc11) rfl ?_
      refine WL.g0 rfl rfl (decide_eq_false hc11) rfl ?_
      refine WL.v (X.pkF rfl (decide_eq_false hc11) rfl) ?_
      refine WL.run 1 rfl ?_
      refine WL.g0 rfl rfl rfl rfl ?_
      refine WL.g0 rfl rfl rfl rfl ?_
      refine WL.g0 rfl rfl rfl rfl ?_
      refine WL.v (X.pkF rfl rfl rfl) ?_
      refine WL.run 1 rfl ?_
      refine WL.fin ?_
      refine W.ret ?_
      refine X.inR ?_
      refine X.thenR ?_
      refine W.done hp (rs := [.tmp 2]) (vs := [.bool false]) (v := .bool false) rfl ⟨rfl, trivial⟩ rfl ?_
      exact bool_val (by simp only [clsR_iff]; simp_all; try omega)
    have hc10_ := clsSmall_f hc10
    refine WL.g0 rfl rfl (Bool.eq_false_iff.2 hc10) rfl ?_
    refine WL.g0 rfl rfl (Bool.eq_false_iff.2 hc10) rfl ?_
    refine WL.g0 rfl rfl (Bool.eq_false_iff.2 hc10) rfl ?_
    refine WL.v (X.pkF rfl (Bool.eq_false_iff.2 hc10) rfl) ?_
    refine WL.run 1 rfl ?_
    refine WL.g0 rfl rfl rfl rfl ?_
    refine WL.g0 rfl rfl rfl rfl ?_
    refine WL.g0 rfl rfl rfl rfl ?_
    refine WL.v (X.pkF rfl rfl rfl) ?_
    refine WL.run 1 rfl ?_
    refine WL.g0 rfl rfl rfl rfl ?_
    refine WL.g0 rfl rfl rfl rfl ?_
    refine WL.g0 rfl rfl rfl rfl ?_
    refine WL.v (X.pkF rfl rfl rfl) ?_
    refine WL.run 1 rfl ?_
    refine WL.fin ?_
    refine W.ret ?_
    refine X.inR ?_
    refine X.thenR ?_
    refine W.done hp (rs := [.tmp 2]) (vs := [.bool false]) (v := .bool false) rfl ⟨rfl, trivial⟩ rfl ?_
    exact bool_val (by simp only [clsR_iff]; simp_all; try omega)
  refine W.cF rfl (decide_eq_false hc9) ?_
  refine W.reg ?_
  refine WL.run 2 rfl ?_
  refine WL.fin ?_
  by_cases hc13 : c.kind = 5
  · refine W.cT rfl (decide_eq_true hc13) ?_
    refine W.sr ?_
    refine WL.v (X.ldkA (hp.at 0 rfl) tA111 tS111 (vs := [.int .i64 c.kind, .int .i64 c.refs, .int .i64 c.data, .bool (c.final)]) rfl rfl) ?_
    refine WL.call isFn80 rfl rfl (small_c (c := c)) ?_
    intro v w hc hr
    obtain rfl := hr
    have hp := hp.ext hc
    refine WL.run 1 rfl ?_
    by_cases hc14 : clsSmall c = true
    · have hc14_ := clsSmall_t hc14
      refine WL.g1 rfl rfl hc14 ?_
      refine WL.run 1 rfl ?_
      refine WL.g1 rfl rfl hc14 ?_
      refine WL.v (X.ldk (hp.at 0 rfl) tA3 rfl rfl) ?_
      refine WL.g1 rfl rfl hc14 ?_
      refine WL.run 1 rfl ?_
      refine WL.v (X.pkT rfl hc14 rfl) ?_
      refine WL.run 1 rfl ?_
      by_cases hc15 : 1 ≤ c.refs
      · refine WL.g1 rfl rfl (decide_eq_true hc15) ?_
        refine WL.run 1 rfl ?_
        refine WL.g1 rfl rfl (decide_eq_true hc15) ?_
        refine WL.v (X.ldk (hp.at 0 rfl) tA3 rfl rfl) ?_
        refine WL.g1 rfl rfl (decide_eq_true hc15) ?_
        refine WL.run 1 rfl ?_
        refine WL.v (X.pkT rfl (decide_eq_true hc15) rfl) ?_
        refine WL.run 1 rfl ?_
        by_cases hc16 : 2 ≤ c.data
        · refine WL.g1 rfl rfl (decide_eq_true hc16) ?_
          refine WL.run 1 rfl ?_
          refine WL.g1 rfl rfl (decide_eq_true hc16) ?_
          refine WL.v (X.ldk (hp.at 0 rfl) tA4 rfl rfl) ?_
          refine WL.g1 rfl rfl (decide_eq_true hc16) ?_
          refine WL.run 1 rfl ?_
          refine WL.v (X.pkT rfl (decide_eq_true hc16) rfl) ?_
          refine WL.run 1 rfl ?_
          refine WL.fin ?_
          refine W.ret ?_
          refine X.inR ?_
          refine X.thenR ?_
          refine W.done hp (rs := [.tmp 2]) (vs := [.bool (!c.final)]) (v := .bool (!c.final)) rfl ⟨rfl, trivial⟩ rfl ?_
          exact bool_val (by simp only [clsR_iff]; simp_all; try omega)
        refine WL.g0 rfl rfl (decide_eq_false hc16) rfl ?_
        refine WL.g0 rfl rfl (decide_eq_false hc16) rfl ?_
        refine WL.g0 rfl rfl (decide_eq_false hc16) rfl ?_
        refine WL.v (X.pkF rfl (decide_eq_false hc16) rfl) ?_
        refine WL.run 1 rfl ?_
        refine WL.fin ?_
        refine W.ret ?_
        refine X.inR ?_
        refine X.thenR ?_
        refine W.done hp (rs := [.tmp 2]) (vs := [.bool false]) (v := .bool false) rfl ⟨rfl, trivial⟩ rfl ?_
        exact bool_val (by simp only [clsR_iff]; simp_all; try omega)
      refine WL.g0 rfl rfl (decide_eq_false hc15) rfl ?_
      refine WL.g0 rfl rfl (decide_eq_false hc15) rfl ?_
      refine WL.g0 rfl rfl (decide_eq_false hc15) rfl ?_
      refine WL.v (X.pkF rfl (decide_eq_false hc15) rfl) ?_
      refine WL.run 1 rfl ?_
      refine WL.g0 rfl rfl rfl rfl ?_
      refine WL.g0 rfl rfl rfl rfl ?_
      refine WL.g0 rfl rfl rfl rfl ?_
      refine WL.v (X.pkF rfl rfl rfl) ?_
      refine WL.run 1 rfl ?_
      refine WL.fin ?_
      refine W.ret ?_
      refine X.inR ?_
      refine X.thenR ?_
      refine W.done hp (rs := [.tmp 2]) (vs := [.bool false]) (v := .bool false) rfl ⟨rfl, trivial⟩ rfl ?_
      exact bool_val (by simp only [clsR_iff]; simp_all; try omega)
    have hc14_ := clsSmall_f hc14
    refine WL.g0 rfl rfl (Bool.eq_false_iff.2 hc14) rfl ?_
    refine WL.g0 rfl rfl (Bool.eq_false_iff.2 hc14) rfl ?_
    refine WL.g0 rfl rfl (Bool.eq_false_iff.2 hc14) rfl ?_
    refine WL.v (X.pkF rfl (Bool.eq_false_iff.2 hc14) rfl) ?_
    refine WL.run 1 rfl ?_
    refine WL.g0 rfl rfl rfl rfl ?_
    refine WL.g0 rfl rfl rfl rfl ?_
    refine WL.g0 rfl rfl rfl rfl ?_
    refine WL.v (X.pkF rfl rfl rfl) ?_
    refine WL.run 1 rfl ?_
    refine WL.g0 rfl rfl rfl rfl ?_
    refine WL.g0 rfl rfl rfl rfl ?_
    refine WL.g0 rfl rfl rfl rfl ?_
    refine WL.v (X.pkF rfl rfl rfl) ?_
    refine WL.run 1 rfl ?_
    refine WL.fin ?_
    refine W.ret ?_
    refine X.inR ?_
    refine X.thenR ?_
    refine W.done hp (rs := [.tmp 2]) (vs := [.bool false]) (v := .bool false) rfl ⟨rfl, trivial⟩ rfl ?_
    exact bool_val (by simp only [clsR_iff]; simp_all; try omega)
  refine W.cF rfl (decide_eq_false hc13) ?_
  refine W.skip ?_
  refine X.inN ?_
  refine X.thenN ?_
  refine W.sr ?_
  refine WL.run 1 rfl ?_
  refine WL.fin ?_
  refine W.ret ?_
  refine W.done hp (rs := [.tmp 2]) (vs := [.bool false]) (v := .bool false) rfl ⟨rfl, trivial⟩ rfl ?_
  exact bool_val (by simp only [clsR_iff]; simp_all; try omega)

theorem clsNew1_c {w0 : World} {c : Cls} :
    Calls Tryz.prog 51 #[.agg #[.int .i64 c.kind, .int .i64 c.refs, .int .i64 c.data, .bool (c.final)]] w0 (Ret [] w0 (fun v _ => v = .bool (!clsR c))) := by
  have hp : Hp w0 [] [] w0 := Hp.init w0
  refine enter (vs := [.agg #[.int .i64 c.kind, .int .i64 c.refs, .int .i64 c.data, .bool (c.final)]]) Tryz.func51 rfl rfl rfl ?_
  refine gen_world hp ?_
  intro w hp
  refine W.sr ?_
  refine WL.box hp rfl (cs := #[.int .i64 c.kind, .int .i64 c.refs, .int .i64 c.data, .bool (c.final)]) rfl rfl ?_
  intro b1 w hp
  refine WL.run 1 rfl ?_
  refine WL.a ?_
  refine WL.v (X.ldkA (hp.at 0 rfl) tA111 tS111 (vs := [.int .i64 c.kind, .int .i64 c.refs, .int .i64 c.data, .bool (c.final)]) rfl rfl) ?_
  refine WL.call isFn52 rfl rfl (clsRight_c (c := c)) ?_
  intro v w hc hr
  obtain rfl := hr
  have hp := hp.ext hc
  refine WL.run 2 rfl ?_
  refine WL.fin ?_
  refine W.ret ?_
  refine W.done hp (rs := [.tmp 2]) (vs := [.bool (!(clsR c))]) (v := .bool (!(clsR c))) rfl ⟨rfl, trivial⟩ rfl ?_
  exact rfl

theorem tlen_c {w0 : World} {t c : Nat} {cs : List Cls} (hT : (tableR t c cs).ok w0) :
    Calls Tryz.prog 98 #[.pointer (some ⟨t, 0, none⟩)] w0 (Ret [] w0 (fun v _ => v = .int .i64 cs.length)) := by
  have hp : Hp w0 [] [] w0 := Hp.init w0
  refine enter (vs := [.pointer (some ⟨t, 0, none⟩)]) Tryz.func98 rfl rfl rfl ?_
  refine gen_world hp ?_
  intro w hp
  refine W.sr ?_
  refine WL.run 1 rfl ?_
  refine WL.s ?_
  refine W.sr ?_
  refine WL.run 1 rfl ?_
  refine WL.v (X.eqPn tP30 rfl rfl) ?_
  refine WL.fin ?_
  refine W.cF rfl rfl ?_
  refine W.ks ?_
  refine WL.run 3 rfl ?_
  obtain ⟨cap1, hcapcap1⟩ := table_head (hp.old0 hT)
  refine WL.v (X.ld1 tA22 rfl hcapcap1) ?_
  refine WL.v (X.len tL22 rfl) ?_
  refine WL.run 1 rfl ?_
  refine WL.fin ?_
  refine W.ret ?_
  refine W.done hp (rs := [.tmp 2]) (vs := [.int .i64 (cs.length : Int)]) (v := .int .i64 (cs.length : Int)) rfl ⟨rfl, trivial⟩ rfl ?_
  exact rfl

theorem tof_c {w0 : World} {t c : Nat} {cs : List Cls} {n : Int} (hT : (tableR t c cs).ok w0) :
    Calls Tryz.prog 85 #[.pointer (some ⟨t, 0, none⟩), .int .i64 n] w0 (Ret [] w0 (fun v _ => (1 ≤ n ∧ n ≤ cs.length ∧ v = .tuple #[.agg #[.int .i64 (cget cs n).kind, .int .i64 (cget cs n).refs, .int .i64 (cget cs n).data, .bool (cget cs n).final], .int .i64 0]) ∨ (¬ (1 ≤ n ∧ n ≤ cs.length) ∧ v = .tuple #[.agg #[.int .i64 0, .int .i64 0, .int .i64 0, .bool false], .int .i64 4]))) := by
  have hp : Hp w0 [] [] w0 := Hp.init w0
  have hsm := table_small hT
  refine enter (vs := [.pointer (some ⟨t, 0, none⟩), .int .i64 n]) Tryz.func85 rfl rfl rfl ?_
  refine gen_world hp ?_
  intro w hp
  refine W.sr ?_
  refine WL.alloc hp tZ111 rfl ?_
  intro b1 w hp
  refine WL.run 1 rfl ?_
  refine WL.s ?_
  refine W.sr ?_
  refine WL.run 3 rfl ?_
  by_cases hc2 : n < 1
  · refine WL.g0 rfl rfl (decide_eq_true hc2) rfl ?_
    refine WL.g0 rfl rfl (decide_eq_true hc2) rfl ?_
    refine WL.g0 rfl rfl (decide_eq_true hc2) rfl ?_
    refine WL.g0 rfl rfl (decide_eq_true hc2) rfl ?_
    refine WL.v (X.pkT rfl (decide_eq_true hc2) rfl) ?_
    refine WL.fin ?_
    refine W.cT rfl rfl ?_
    refine W.sr ?_
    refine WL.v (X.bld (v := .agg #[.int .i64 0, .int .i64 0, .int .i64 0, .bool false]) rfl (by kernel_rfl)) ?_
    refine WL.store hp 0 rfl tS111 rfl rfl (vs := [.int .i64 0, .int .i64 0, .int .i64 0, .bool false]) rfl rfl rfl (new := #[.int .i64 0, .int .i64 0, .int .i64 0, .bool false]) rfl ?_
    intro w hp
    refine WL.run 1 rfl ?_
    refine WL.fin ?_
    refine W.ret ?_
    refine X.thenR ?_
    refine W.done hp (rs := [.cell 4 111, .tmp 5]) (vs := [.agg #[.int .i64 0, .int .i64 0, .int .i64 0, .bool false], .int .i64 4]) (v := .tuple #[.agg #[.int .i64 0, .int .i64 0, .int .i64 0, .bool false], .int .i64 4]) rfl ⟨⟨_, rfl, run_loadVarB hp 0 rfl tA111 tS111 (vs := [.int .i64 0, .int .i64 0, .int .i64 0, .bool false]) rfl⟩, rfl, trivial⟩ rfl ?_
    first | exact .inl ⟨by omega, by omega, rfl⟩ | exact .inr ⟨by omega, rfl⟩
  refine WL.g1 rfl rfl (decide_eq_false hc2) ?_
  refine WL.run 1 rfl ?_
  refine WL.g1 rfl rfl (decide_eq_false hc2) ?_
  refine WL.run 1 rfl ?_
  refine WL.g1 rfl rfl (decide_eq_false hc2) ?_
  refine WL.call isFn98 rfl rfl (tlen_c (hp.old0 hT)) ?_
  intro v w hc hr
  obtain rfl := hr
  have hp := hp.ext hc
  refine WL.g1 rfl rfl (decide_eq_false hc2) ?_
  refine WL.run 1 rfl ?_
  refine WL.v (X.pkF rfl (decide_eq_false hc2) rfl) ?_
  refine WL.fin ?_
  by_cases hc3 : (cs.length : Int) < n
  · refine W.cT rfl (decide_eq_true hc3) ?_
    refine W.sr ?_
    refine WL.v (X.bld (v := .agg #[.int .i64 0, .int .i64 0, .int .i64 0, .bool false]) rfl (by kernel_rfl)) ?_
    refine WL.store hp 0 rfl tS111 rfl rfl (vs := [.int .i64 0, .int .i64 0, .int .i64 0, .bool false]) rfl rfl rfl (new := #[.int .i64 0, .int .i64 0, .int .i64 0, .bool false]) rfl ?_
    intro w hp
    refine WL.run 1 rfl ?_
    refine WL.fin ?_
    refine W.ret ?_
    refine X.thenR ?_
    refine W.done hp (rs := [.cell 4 111, .tmp 5]) (vs := [.agg #[.int .i64 0, .int .i64 0, .int .i64 0, .bool false], .int .i64 4]) (v := .tuple #[.agg #[.int .i64 0, .int .i64 0, .int .i64 0, .bool false], .int .i64 4]) rfl ⟨⟨_, rfl, run_loadVarB hp 0 rfl tA111 tS111 (vs := [.int .i64 0, .int .i64 0, .int .i64 0, .bool false]) rfl⟩, rfl, trivial⟩ rfl ?_
    first | exact .inl ⟨by omega, by omega, rfl⟩ | exact .inr ⟨by omega, rfl⟩
  refine W.cF rfl (decide_eq_false hc3) ?_
  refine W.ks ?_
  refine WL.run 3 rfl ?_
  obtain ⟨cap4, hcapcap4⟩ := table_head (hp.old0 hT)
  refine WL.v (X.ld1 tA22 rfl hcapcap4) ?_
  refine WL.run 1 rfl ?_
  refine WL.v (X.sub rfl rfl (in64 (by omega))) ?_
  refine WL.v (X.idxS (j := (n - 1).toNat) (r := ((n - 1).toNat) * 4) tL22 tS111 rfl rfl (by omega) (by omega) (by omega)) ?_
  refine WL.v (X.ldA tA111 tS111 rfl (cs := [.int .i64 ((cs.getD ((n - 1).toNat) default).kind), .int .i64 ((cs.getD ((n - 1).toNat) default).refs), .int .i64 ((cs.getD ((n - 1).toNat) default).data), .bool ((cs.getD ((n - 1).toNat) default).final)]) (table_cells (hp.old0 hT) (by omega) (by omega))) ?_
  refine WL.store hp 0 rfl tS111 rfl rfl (vs := [.int .i64 ((cs.getD ((n - 1).toNat) default).kind), .int .i64 ((cs.getD ((n - 1).toNat) default).refs), .int .i64 ((cs.getD ((n - 1).toNat) default).data), .bool ((cs.getD ((n - 1).toNat) default).final)]) rfl rfl rfl (new := #[.int .i64 ((cs.getD ((n - 1).toNat) default).kind), .int .i64 ((cs.getD ((n - 1).toNat) default).refs), .int .i64 ((cs.getD ((n - 1).toNat) default).data), .bool ((cs.getD ((n - 1).toNat) default).final)]) rfl ?_
  intro w hp
  refine WL.run 1 rfl ?_
  refine WL.fin ?_
  refine W.ret ?_
  refine W.done hp (rs := [.cell 4 111, .tmp 5]) (vs := [.agg #[.int .i64 ((cs.getD ((n - 1).toNat) default).kind), .int .i64 ((cs.getD ((n - 1).toNat) default).refs), .int .i64 ((cs.getD ((n - 1).toNat) default).data), .bool ((cs.getD ((n - 1).toNat) default).final)], .int .i64 0]) (v := .tuple #[.agg #[.int .i64 ((cs.getD ((n - 1).toNat) default).kind), .int .i64 ((cs.getD ((n - 1).toNat) default).refs), .int .i64 ((cs.getD ((n - 1).toNat) default).data), .bool ((cs.getD ((n - 1).toNat) default).final)], .int .i64 0]) rfl ⟨⟨_, rfl, run_loadVarB hp 0 rfl tA111 tS111 (vs := [.int .i64 ((cs.getD ((n - 1).toNat) default).kind), .int .i64 ((cs.getD ((n - 1).toNat) default).refs), .int .i64 ((cs.getD ((n - 1).toNat) default).data), .bool ((cs.getD ((n - 1).toNat) default).final)]) rfl⟩, rfl, trivial⟩ rfl ?_
  first | exact .inl ⟨by omega, by omega, rfl⟩ | exact .inr ⟨by omega, rfl⟩

theorem tshape_c {w0 : World} {t c : Nat} {cs : List Cls} {n m : Int} (hT : (tableR t c cs).ok w0) :
    Calls Tryz.prog 97 #[.pointer (some ⟨t, 0, none⟩), .int .i64 n, .int .i64 m] w0 (Ret [] w0 (fun v _ => (shapeE cs n m = 0 ∧ v = .tuple #[.int .i64 ((cget cs n).refs + m), .int .i64 (cget cs n).data, .int .i64 0]) ∨ (shapeE cs n m ≠ 0 ∧ v = .tuple #[.int .i64 0, .int .i64 0, .int .i64 (shapeE cs n m)]))) := by
  have hp : Hp w0 [] [] w0 := Hp.init w0
  have hbd : 1 ≤ n → n ≤ cs.length → 0 ≤ (cget cs n).refs ∧ 0 ≤ (cget cs n).data ∧ (cget cs n).refs + (cget cs n).data ≤ 30 := fun h1 h2 => clsR_bd (table_bd hT ⟨h1, h2⟩)
  refine enter (vs := [.pointer (some ⟨t, 0, none⟩), .int .i64 n, .int .i64 m]) Tryz.func97 rfl rfl rfl ?_
  refine gen_world hp ?_
  intro w hp
  refine W.sr ?_
  refine WL.run 3 rfl ?_
  refine WL.a ?_
  refine WL.run 2 rfl ?_
  refine WL.call isFn85 rfl rfl (tof_c (n := n) (hp.old0 hT)) ?_
  intro v w hc hr
  rcases hr with ⟨hq1, hq2, rfl⟩ | ⟨hq3, rfl⟩
  · have hp := hp.ext hc
    refine WL.run 3 rfl ?_
    refine WL.alloc hp tZ111 rfl ?_
    intro b4 w hp
    refine WL.store hp 0 rfl tS111 rfl rfl (vs := [.int .i64 ((cget cs n).kind), .int .i64 ((cget cs n).refs), .int .i64 ((cget cs n).data), .bool ((cget cs n).final)]) rfl rfl rfl (new := #[.int .i64 ((cget cs n).kind), .int .i64 ((cget cs n).refs), .int .i64 ((cget cs n).data), .bool ((cget cs n).final)]) rfl ?_
    intro w hp
    refine WL.run 1 rfl ?_
    refine WL.c ?_
    refine W.sr ?_
    refine WL.run 3 rfl ?_
    refine WL.fin ?_
    refine W.cF rfl (decide_eq_false (by decide)) ?_
    refine W.sr ?_
    refine WL.run 3 rfl ?_
    by_cases hc6 : m < 0
    · refine WL.g0 rfl rfl (decide_eq_true hc6) rfl ?_
      refine WL.g0 rfl rfl (decide_eq_true hc6) rfl ?_
      refine WL.g0 rfl rfl (decide_eq_true hc6) rfl ?_
      refine WL.gu rfl rfl rfl ?_
      refine WL.gu rfl rfl rfl ?_
      refine WL.gu rfl rfl rfl ?_
      refine WL.g0 rfl rfl (decide_eq_true hc6) rfl ?_
      refine WL.v (X.pkT rfl (decide_eq_true hc6) rfl) ?_
      refine WL.run 1 rfl ?_
      refine WL.fin ?_
      refine W.cT rfl rfl ?_
      refine W.sr ?_
      refine WL.run 3 rfl ?_
      refine WL.fin ?_
      refine W.ret ?_
      refine X.inR ?_
      refine X.thenR ?_
      refine W.done hp (rs := [.tmp 6, .tmp 7, .tmp 8]) (vs := [.int .i64 0, .int .i64 0, .int .i64 1]) (v := .tuple #[.int .i64 0, .int .i64 0, .int .i64 1]) rfl ⟨rfl, rfl, rfl, trivial⟩ rfl ?_
      first | (exfalso; omega) | exact .inl ⟨by unfold shapeE; rw [if_neg (by omega), if_neg (by omega), if_neg (by omega)], rfl⟩ | (have he : shapeE cs n m = 4 := (by unfold shapeE; rw [if_pos (by omega)]); exact .inr ⟨by omega, by rw [he]⟩) | (have he : shapeE cs n m = 1 := (by unfold shapeE; rw [if_neg (by omega), if_pos (by omega)]); exact .inr ⟨by omega, by rw [he]⟩) | (have he : shapeE cs n m = 8 := (by unfold shapeE; rw [if_neg (by omega), if_neg (by omega), if_pos (by omega)]); exact .inr ⟨by omega, by rw [he]⟩)
    refine WL.g1 rfl rfl (decide_eq_false hc6) ?_
    refine WL.run 1 rfl ?_
    refine WL.g1 rfl rfl (decide_eq_false hc6) ?_
    refine WL.run 1 rfl ?_
    refine WL.g1 rfl rfl (decide_eq_false hc6) ?_
    refine WL.run 1 rfl ?_
    by_cases hc7 : 0 < m
    · refine WL.g1 rfl rfl (decide_eq_true hc7) ?_
      refine WL.run 1 rfl ?_
      refine WL.g1 rfl rfl (decide_eq_true hc7) ?_
      refine WL.v (X.ldk (hp.at 0 rfl) tA3 rfl rfl) ?_
      refine WL.g1 rfl rfl (decide_eq_true hc7) ?_
      refine WL.run 1 rfl ?_
      refine WL.g1 rfl rfl (decide_eq_false hc6) ?_
      refine WL.v (X.pkT rfl (decide_eq_true hc7) rfl) ?_
      refine WL.v (X.pkF rfl (decide_eq_false hc6) rfl) ?_
      refine WL.run 1 rfl ?_
      refine WL.fin ?_
      by_cases hc8 : ((cget cs n).kind) ≠ 2
      · refine W.cT rfl (decide_eq_true hc8) ?_
        refine W.sr ?_
        refine WL.run 3 rfl ?_
        refine WL.fin ?_
        refine W.ret ?_
        refine X.inR ?_
        refine X.thenR ?_
        refine W.done hp (rs := [.tmp 6, .tmp 7, .tmp 8]) (vs := [.int .i64 0, .int .i64 0, .int .i64 1]) (v := .tuple #[.int .i64 0, .int .i64 0, .int .i64 1]) rfl ⟨rfl, rfl, rfl, trivial⟩ rfl ?_
        first | (exfalso; omega) | exact .inl ⟨by unfold shapeE; rw [if_neg (by omega), if_neg (by omega), if_neg (by omega)], rfl⟩ | (have he : shapeE cs n m = 4 := (by unfold shapeE; rw [if_pos (by omega)]); exact .inr ⟨by omega, by rw [he]⟩) | (have he : shapeE cs n m = 1 := (by unfold shapeE; rw [if_neg (by omega), if_pos (by omega)]); exact .inr ⟨by omega, by rw [he]⟩) | (have he : shapeE cs n m = 8 := (by unfold shapeE; rw [if_neg (by omega), if_neg (by omega), if_pos (by omega)]); exact .inr ⟨by omega, by rw [he]⟩)
      refine W.cF rfl (decide_eq_false hc8) ?_
      refine W.sr ?_
      refine WL.run 3 rfl ?_
      refine WL.fin ?_
      by_cases hc9 : 30 < m
      · refine W.cT rfl (decide_eq_true hc9) ?_
        refine W.sr ?_
        refine WL.run 3 rfl ?_
        refine WL.fin ?_
        refine W.ret ?_
        refine X.inR ?_
        refine X.thenR ?_
        refine W.done hp (rs := [.tmp 6, .tmp 7, .tmp 8]) (vs := [.int .i64 0, .int .i64 0, .int .i64 8]) (v := .tuple #[.int .i64 0, .int .i64 0, .int .i64 8]) rfl ⟨rfl, rfl, rfl, trivial⟩ rfl ?_
        first | (exfalso; omega) | exact .inl ⟨by unfold shapeE; rw [if_neg (by omega), if_neg (by omega), if_neg (by omega)], rfl⟩ | (have he : shapeE cs n m = 4 := (by unfold shapeE; rw [if_pos (by omega)]); exact .inr ⟨by omega, by rw [he]⟩) | (have he : shapeE cs n m = 1 := (by unfold shapeE; rw [if_neg (by omega), if_pos (by omega)]); exact .inr ⟨by omega, by rw [he]⟩) | (have he : shapeE cs n m = 8 := (by unfold shapeE; rw [if_neg (by omega), if_neg (by omega), if_pos (by omega)]); exact .inr ⟨by omega, by rw [he]⟩)
      refine W.cF rfl (decide_eq_false hc9) ?_
      refine W.skip ?_
      refine X.inN ?_
      refine X.thenN ?_
      refine W.seq ?_
      have hbd := hbd (by omega) (by omega)
      refine W.draw prog_mixed (fun w => (blkR b4 (.cells (#[.int .i64 ((cget cs n).kind), .int .i64 ((cget cs n).refs), .int .i64 ((cget cs n).data), .bool ((cget cs n).final)]) 111 (0, 0))).ok w ∧ (tableR t c cs).ok w ∧ True) hp ?_
      intro w hp
      refine WD.s ⟨hp.at 0 rfl, hp.old0 hT, trivial⟩ fun hS0 => ?_
      refine WD.v 0 rfl hS0 (fun w hS => (X.fa (r := 1) tF111_1 rfl rfl)) ?_
      refine WD.v 1 rfl hS0 (fun w hS => (X.ldk hS.1 tA3 rfl rfl)) ?_
      refine WD.v 2 rfl hS0 (fun w hS => (X.mv rfl)) ?_
      refine WD.v 3 rfl hS0 (fun w hS => (X.add rfl rfl (in64 (by omega)))) ?_
      refine WD.v 4 rfl hS0 (fun w hS => (X.fa (r := 2) tF111_2 rfl rfl)) ?_
      refine WD.v 5 rfl hS0 (fun w hS => (X.ldk hS.1 tA3 rfl rfl)) ?_
      refine WD.v 6 rfl hS0 (fun w hS => (X.as rfl)) ?_
      refine WD.v 7 rfl hS0 (fun w hS => (X.as rfl)) ?_
      refine WD.v 8 rfl hS0 (fun w hS => (X.as rfl)) ?_
      refine WD.nil (by kernel_rfl) ?_
      refine X.thenN ?_
      refine W.ret ?_
      refine W.done hp (rs := [.tmp 6, .tmp 7, .tmp 8]) (vs := [.int .i64 (((cget cs n).refs) + m), .int .i64 ((cget cs n).data), .int .i64 0]) (v := .tuple #[.int .i64 (((cget cs n).refs) + m), .int .i64 ((cget cs n).data), .int .i64 0]) rfl ⟨rfl, rfl, rfl, trivial⟩ rfl ?_
      first | (exfalso; omega) | exact .inl ⟨by unfold shapeE; rw [if_neg (by omega), if_neg (by omega), if_neg (by omega)], rfl⟩ | (have he : shapeE cs n m = 4 := (by unfold shapeE; rw [if_pos (by omega)]); exact .inr ⟨by omega, by rw [he]⟩) | (have he : shapeE cs n m = 1 := (by unfold shapeE; rw [if_neg (by omega), if_pos (by omega)]); exact .inr ⟨by omega, by rw [he]⟩) | (have he : shapeE cs n m = 8 := (by unfold shapeE; rw [if_neg (by omega), if_neg (by omega), if_pos (by omega)]); exact .inr ⟨by omega, by rw [he]⟩)
    refine WL.g0 rfl rfl (decide_eq_false hc7) rfl ?_
    refine WL.g0 rfl rfl (decide_eq_false hc7) rfl ?_
    refine WL.g0 rfl rfl (decide_eq_false hc7) rfl ?_
    refine WL.g1 rfl rfl (decide_eq_false hc6) ?_
    refine WL.v (X.pkF rfl (decide_eq_false hc7) rfl) ?_
    refine WL.v (X.pkF rfl (decide_eq_false hc6) rfl) ?_
    refine WL.run 1 rfl ?_
    refine WL.fin ?_
    refine W.cF rfl rfl ?_
    refine W.sr ?_
    refine WL.run 3 rfl ?_
    refine WL.fin ?_
    by_cases hc10 : 30 < m
    · refine W.cT rfl (decide_eq_true hc10) ?_
      refine W.sr ?_
      refine WL.run 3 rfl ?_
      refine WL.fin ?_
      refine W.ret ?_
      refine X.inR ?_
      refine X.thenR ?_
      refine W.done hp (rs := [.tmp 6, .tmp 7, .tmp 8]) (vs := [.int .i64 0, .int .i64 0, .int .i64 8]) (v := .tuple #[.int .i64 0, .int .i64 0, .int .i64 8]) rfl ⟨rfl, rfl, rfl, trivial⟩ rfl ?_
      first | (exfalso; omega) | exact .inl ⟨by unfold shapeE; rw [if_neg (by omega), if_neg (by omega), if_neg (by omega)], rfl⟩ | (have he : shapeE cs n m = 4 := (by unfold shapeE; rw [if_pos (by omega)]); exact .inr ⟨by omega, by rw [he]⟩) | (have he : shapeE cs n m = 1 := (by unfold shapeE; rw [if_neg (by omega), if_pos (by omega)]); exact .inr ⟨by omega, by rw [he]⟩) | (have he : shapeE cs n m = 8 := (by unfold shapeE; rw [if_neg (by omega), if_neg (by omega), if_pos (by omega)]); exact .inr ⟨by omega, by rw [he]⟩)
    refine W.cF rfl (decide_eq_false hc10) ?_
    refine W.skip ?_
    refine X.inN ?_
    refine X.thenN ?_
    refine W.seq ?_
    have hbd := hbd (by omega) (by omega)
    refine W.draw prog_mixed (fun w => (blkR b4 (.cells (#[.int .i64 ((cget cs n).kind), .int .i64 ((cget cs n).refs), .int .i64 ((cget cs n).data), .bool ((cget cs n).final)]) 111 (0, 0))).ok w ∧ (tableR t c cs).ok w ∧ True) hp ?_
    intro w hp
    refine WD.s ⟨hp.at 0 rfl, hp.old0 hT, trivial⟩ fun hS0 => ?_
    refine WD.v 0 rfl hS0 (fun w hS => (X.fa (r := 1) tF111_1 rfl rfl)) ?_
    refine WD.v 1 rfl hS0 (fun w hS => (X.ldk hS.1 tA3 rfl rfl)) ?_
    refine WD.v 2 rfl hS0 (fun w hS => (X.mv rfl)) ?_
    refine WD.v 3 rfl hS0 (fun w hS => (X.add rfl rfl (in64 (by omega)))) ?_
    refine WD.v 4 rfl hS0 (fun w hS => (X.fa (r := 2) tF111_2 rfl rfl)) ?_
    refine WD.v 5 rfl hS0 (fun w hS => (X.ldk hS.1 tA3 rfl rfl)) ?_
    refine WD.v 6 rfl hS0 (fun w hS => (X.as rfl)) ?_
    refine WD.v 7 rfl hS0 (fun w hS => (X.as rfl)) ?_
    refine WD.v 8 rfl hS0 (fun w hS => (X.as rfl)) ?_
    refine WD.nil (by kernel_rfl) ?_
    refine X.thenN ?_
    refine W.ret ?_
    refine W.done hp (rs := [.tmp 6, .tmp 7, .tmp 8]) (vs := [.int .i64 (((cget cs n).refs) + m), .int .i64 ((cget cs n).data), .int .i64 0]) (v := .tuple #[.int .i64 (((cget cs n).refs) + m), .int .i64 ((cget cs n).data), .int .i64 0]) rfl ⟨rfl, rfl, rfl, trivial⟩ rfl ?_
    first | (exfalso; omega) | exact .inl ⟨by unfold shapeE; rw [if_neg (by omega), if_neg (by omega), if_neg (by omega)], rfl⟩ | (have he : shapeE cs n m = 4 := (by unfold shapeE; rw [if_pos (by omega)]); exact .inr ⟨by omega, by rw [he]⟩) | (have he : shapeE cs n m = 1 := (by unfold shapeE; rw [if_neg (by omega), if_pos (by omega)]); exact .inr ⟨by omega, by rw [he]⟩) | (have he : shapeE cs n m = 8 := (by unfold shapeE; rw [if_neg (by omega), if_neg (by omega), if_pos (by omega)]); exact .inr ⟨by omega, by rw [he]⟩)
  have hp := hp.ext hc
  refine WL.run 3 rfl ?_
  refine WL.alloc hp tZ111 rfl ?_
  intro b11 w hp
  refine WL.store hp 0 rfl tS111 rfl rfl (vs := [.int .i64 0, .int .i64 0, .int .i64 0, .bool false]) rfl rfl rfl (new := #[.int .i64 0, .int .i64 0, .int .i64 0, .bool false]) rfl ?_
  intro w hp
  refine WL.run 1 rfl ?_
  refine WL.c ?_
  refine W.sr ?_
  refine WL.run 3 rfl ?_
  refine WL.fin ?_
  refine W.cT rfl (decide_eq_true (by decide)) ?_
  refine W.sr ?_
  refine WL.run 4 rfl ?_
  refine WL.fin ?_
  refine W.ret ?_
  refine X.inR ?_
  refine X.thenR ?_
  refine W.done hp (rs := [.tmp 6, .tmp 7, .tmp 8]) (vs := [.int .i64 0, .int .i64 0, .int .i64 4]) (v := .tuple #[.int .i64 0, .int .i64 0, .int .i64 4]) rfl ⟨rfl, rfl, rfl, trivial⟩ rfl ?_
  first | (exfalso; omega) | exact .inl ⟨by unfold shapeE; rw [if_neg (by omega), if_neg (by omega), if_neg (by omega)], rfl⟩ | (have he : shapeE cs n m = 4 := (by unfold shapeE; rw [if_pos (by omega)]); exact .inr ⟨by omega, by rw [he]⟩) | (have he : shapeE cs n m = 1 := (by unfold shapeE; rw [if_neg (by omega), if_pos (by omega)]); exact .inr ⟨by omega, by rw [he]⟩) | (have he : shapeE cs n m = 8 := (by unfold shapeE; rw [if_neg (by omega), if_neg (by omega), if_pos (by omega)]); exact .inr ⟨by omega, by rw [he]⟩)

theorem twords_c {w0 : World} {t c : Nat} {cs : List Cls} {n m : Int} (hT : (tableR t c cs).ok w0) :
    Calls Tryz.prog 84 #[.pointer (some ⟨t, 0, none⟩), .int .i64 n, .int .i64 m] w0 (Ret [] w0 (fun v _ => (shapeE cs n m = 0 ∧ v = .tuple #[.int .i64 (2 + ((cget cs n).refs + m) + (cget cs n).data), .int .i64 0]) ∨ (shapeE cs n m ≠ 0 ∧ v = .tuple #[.int .i64 0, .int .i64 (shapeE cs n m)]))) := by
  have hp : Hp w0 [] [] w0 := Hp.init w0
  have hbd := fun h => shape_bd hT (n := n) (m := m) h
  refine enter (vs := [.pointer (some ⟨t, 0, none⟩), .int .i64 n, .int .i64 m]) Tryz.func84 rfl rfl rfl ?_
  refine gen_world hp ?_
  intro w hp
  refine W.sr ?_
  refine WL.run 2 rfl ?_
  refine WL.a ?_
  refine WL.run 3 rfl ?_
  refine WL.call isFn97 rfl rfl (tshape_c (n := n) (m := m) (hp.old0 hT)) ?_
  intro v w hc hr
  rcases hr with ⟨he1, rfl⟩ | ⟨he1, rfl⟩
  · have hp := hp.ext hc
    have hsb := shape_bd (hp.old0 hT) he1
    refine WL.run 7 rfl ?_
    refine WL.s ?_
    refine W.sr ?_
    refine WL.run 2 rfl ?_
    refine WL.fin ?_
    refine W.cF rfl (decide_eq_false (by decide)) ?_
    refine W.k ?_
    refine W.seq ?_
    have hbd := hbd he1
    refine W.reg ?_
    refine WL.run 1 rfl ?_
    refine WL.v (X.add rfl rfl (in64 (by omega))) ?_
    refine WL.run 1 rfl ?_
    refine WL.v (X.add rfl rfl (in64 (by omega))) ?_
    refine WL.run 2 rfl ?_
    refine WL.fin ?_
    refine W.ret ?_
    refine W.done hp (rs := [.tmp 6, .tmp 7]) (vs := [.int .i64 ((2 + ((cget cs n).refs + m)) + ((cget cs n).data)), .int .i64 0]) (v := .tuple #[.int .i64 ((2 + ((cget cs n).refs + m)) + ((cget cs n).data)), .int .i64 0]) rfl ⟨rfl, rfl, trivial⟩ rfl ?_
    first | exact .inl ⟨by assumption, rfl⟩ | exact .inr ⟨by assumption, rfl⟩
  have hp := hp.ext hc
  refine WL.run 7 rfl ?_
  refine WL.s ?_
  refine W.sr ?_
  refine WL.run 2 rfl ?_
  refine WL.fin ?_
  refine W.cT rfl (decide_eq_true he1) ?_
  refine W.sr ?_
  refine WL.run 3 rfl ?_
  refine WL.fin ?_
  refine W.ret ?_
  refine X.thenR ?_
  refine W.done hp (rs := [.tmp 6, .tmp 7]) (vs := [.int .i64 0, .int .i64 (shapeE cs n m)]) (v := .tuple #[.int .i64 0, .int .i64 (shapeE cs n m)]) rfl ⟨rfl, rfl, trivial⟩ rfl ?_
  first | exact .inl ⟨by assumption, rfl⟩ | exact .inr ⟨by assumption, rfl⟩

theorem idxfI_c {w0 : World} {s : Value} {l : List Int} {fk : Nat} {bnd caps : Array Value} {pr : Int → Bool} (hV : (viewR encI 1 s l).ok w0) (hfn : IsFn Tryz.prog fk) (hf : ∀ (x : Int) (w : World), x ∈ l → Chg [] w0 w → Calls Tryz.prog fk (bnd ++ #[.int .i64 x] ++ caps) w (Ret [] w (fun v _ => v = .bool (pr x)))) :
    Calls Tryz.prog 73 #[s, .func (.func fk) bnd caps] w0 (Ret [] w0 (fun v _ => (∃ i : Nat, v = .int .i64 i ∧ l.any pr = true) ∨ (v = .int .i64 (-1) ∧ l.any pr = false))) := by
  have hp : Hp w0 [] [] w0 := Hp.init w0
  have hle := view_len_le hV
  refine enter (vs := [s, .func (.func fk) bnd caps]) Tryz.func73 rfl rfl rfl ?_
  refine gen_world hp ?_
  intro w hp
  refine W.sr ?_
  refine WL.run 1 rfl ?_
  refine WL.s ?_
  refine W.sr ?_
  refine WL.run 1 rfl ?_
  refine WL.v (view_len tL34 (hp.old0 hV) rfl) ?_
  refine WL.run 1 rfl ?_
  refine WL.fin ?_
  refine W.block ?_
  refine W.loop (X := Nat) (fun i => l.length - i) (fun i => [(0, s), (1, .func (.func fk) bnd caps), (7, .int .i64 (l.length : Int)), (8, .int .i64 (i : Int))]) (fun i w => Hp w0 [] [] w ∧ i ≤ l.length ∧ (l.take i).any pr = false) 0 ⟨rfl, rfl, rfl, rfl, trivial⟩ ?_ ?_
  · exact ⟨hp, by omega, rfl⟩
  rintro i w ⟨hp, hi, hn⟩
  refine W.sr ?_
  refine WL.run 1 rfl ?_
  refine WL.s ?_
  by_cases hc1 : (i : Int) < (l.length : Int)
  · have hlt : i < l.length := by omega
    refine W.cT rfl (decide_eq_true hc1) ?_
    refine W.k ?_
    refine W.seq ?_
    refine W.block ?_
    refine W.sr ?_
    refine WL.run 2 rfl ?_
    refine WL.a ?_
    refine WL.run 3 rfl ?_
    refine WL.v (X.idxV (j := i) (r := offOf s + i * 1) tL34 tS3 (hp.old0 hV) rfl rfl (by omega) (by omega) rfl) ?_
    refine WL.v (X.ld1 tA3 rfl (view_cell (j := i) (f := 0) (hp.old0 hV) (get_some (by omega)) rfl (by omega))) ?_
    refine WL.callB hfn rfl rfl rfl (hf (l.getD i default) _ (mem_getD hlt) hp.chg) ?_
    intro v w hc hr
    obtain rfl := hr
    have hp := hp.ext hc
    refine WL.fin ?_
    by_cases hc2 : pr (l.getD i default) = true
    · have hpt := hc2
      refine W.cT rfl hc2 ?_
      refine W.sr ?_
      refine WL.run 2 rfl ?_
      refine WL.fin ?_
      refine W.ret ?_
      refine X.inR ?_
      refine X.thenR ?_
      refine X.thenR ?_
      refine X.inR ?_
      refine X.thenR ?_
      refine W.done hp (rs := [.tmp 4]) (vs := [.int .i64 (i : Int)]) (v := .int .i64 (i : Int)) rfl ⟨rfl, trivial⟩ rfl ?_
      first | exact .inl ⟨_, rfl, any_of_getD hlt hpt⟩ | exact .inr ⟨rfl, by rw [← hn, List.take_of_length_le (by omega)]⟩
    have hpf := hc2
    refine W.cF rfl (Bool.eq_false_iff.2 hc2) ?_
    refine W.skip ?_
    refine X.inN ?_
    refine X.thenN ?_
    refine W.reg ?_
    refine WL.v (X.add rfl rfl (in64 (by omega))) ?_
    refine WL.run 1 rfl ?_
    refine WL.nil ?_
    refine X.again (i + 1) ⟨rfl, rfl, rfl, rfl, trivial⟩ ?_ ?_
    · exact ⟨hp, by omega, by rw [any_take_succ hlt, hn, Bool.eq_false_iff.2 hpf]; rfl⟩
    · omega
  refine W.cF rfl (decide_eq_false hc1) ?_
  refine W.exit ?_
  refine X.thenE ?_
  refine X.thenE ?_
  refine X.inH ?_
  refine X.thenN ?_
  refine W.sr ?_
  refine WL.run 1 rfl ?_
  refine WL.fin ?_
  refine W.ret ?_
  refine W.done hp (rs := [.tmp 4]) (vs := [.int .i64 (-1)]) (v := .int .i64 (-1)) rfl ⟨rfl, trivial⟩ rfl ?_
  first | exact .inl ⟨_, rfl, any_of_getD hlt hpt⟩ | exact .inr ⟨rfl, by rw [← hn, List.take_of_length_le (by omega)]⟩

theorem confI_c {w0 : World} {s : Value} {l : List Int} {fk : Nat} {bnd caps : Array Value} {pr : Int → Bool} (hV : (viewR encI 1 s l).ok w0) (hfn : IsFn Tryz.prog fk) (hf : ∀ (x : Int) (w : World), x ∈ l → Chg [] w0 w → Calls Tryz.prog fk (bnd ++ #[.int .i64 x] ++ caps) w (Ret [] w (fun v _ => v = .bool (pr x)))) :
    Calls Tryz.prog 33 #[s, .func (.func fk) bnd caps] w0 (Ret [] w0 (fun v _ => v = .bool (l.any pr))) := by
  have hp : Hp w0 [] [] w0 := Hp.init w0
  refine enter (vs := [s, .func (.func fk) bnd caps]) Tryz.func33 rfl rfl rfl ?_
  refine gen_world hp ?_
  intro w hp
  refine W.sr ?_
  refine WL.run 1 rfl ?_
  refine WL.a ?_
  refine WL.run 2 rfl ?_
  refine WL.call isFn73 rfl rfl (idxfI_c (hp.old0 hV) hfn (fun x w hx hc => hf x w hx (hp.chg.trans hc))) ?_
  intro v w hc hr
  rcases hr with ⟨ix2, rfl, hx1⟩ | ⟨rfl, hx1⟩
  · have hp := hp.ext hc
    refine WL.run 2 rfl ?_
    refine WL.fin ?_
    refine W.ret ?_
    refine W.done hp (rs := [.tmp 4]) (vs := [.bool (decide (0 ≤ (ix2 : Int)))]) (v := .bool (decide (0 ≤ (ix2 : Int)))) rfl ⟨rfl, trivial⟩ rfl ?_
    first | (rw [‹l.any pr = true›]; exact bool_val (by simp)) | (rw [‹l.any pr = false›]; exact bool_val (by simp))
  have hp := hp.ext hc
  refine WL.run 2 rfl ?_
  refine WL.fin ?_
  refine W.ret ?_
  refine W.done hp (rs := [.tmp 4]) (vs := [.bool (decide (0 ≤ (-1)))]) (v := .bool (decide (0 ≤ (-1)))) rfl ⟨rfl, trivial⟩ rfl ?_
  first | (rw [‹l.any pr = true›]; exact bool_val (by simp)) | (rw [‹l.any pr = false›]; exact bool_val (by simp))

theorem idxfC_c {w0 : World} {s : Value} {l : List Cls} {fk : Nat} {bnd caps : Array Value} {pr : Cls → Bool} (hV : (viewR clsV 4 s l).ok w0) (hfn : IsFn Tryz.prog fk) (hf : ∀ (x : Cls) (w : World), x ∈ l → Chg [] w0 w → Calls Tryz.prog fk (bnd ++ #[.agg #[.int .i64 x.kind, .int .i64 x.refs, .int .i64 x.data, .bool (x.final)]] ++ caps) w (Ret [] w (fun v _ => v = .bool (pr x)))) :
    Calls Tryz.prog 79 #[s, .func (.func fk) bnd caps] w0 (Ret [] w0 (fun v _ => (∃ i : Nat, v = .int .i64 i ∧ l.any pr = true) ∨ (v = .int .i64 (-1) ∧ l.any pr = false))) := by
  have hp : Hp w0 [] [] w0 := Hp.init w0
  have hle := view_len_le hV
  refine enter (vs := [s, .func (.func fk) bnd caps]) Tryz.func79 rfl rfl rfl ?_
  refine gen_world hp ?_
  intro w hp
  refine W.sr ?_
  refine WL.run 1 rfl ?_
  refine WL.s ?_
  refine W.sr ?_
  refine WL.run 1 rfl ?_
  refine WL.v (view_len tL22 (hp.old0 hV) rfl) ?_
  refine WL.run 1 rfl ?_
  refine WL.fin ?_
  refine W.block ?_
  refine W.loop (X := Nat) (fun i => l.length - i) (fun i => [(0, s), (1, .func (.func fk) bnd caps), (7, .int .i64 (l.length : Int)), (8, .int .i64 (i : Int))]) (fun i w => Hp w0 [] [] w ∧ i ≤ l.length ∧ (l.take i).any pr = false) 0 ⟨rfl, rfl, rfl, rfl, trivial⟩ ?_ ?_
  · exact ⟨hp, by omega, rfl⟩
  rintro i w ⟨hp, hi, hn⟩
  refine W.sr ?_
  refine WL.run 1 rfl ?_
  refine WL.s ?_
  by_cases hc1 : (i : Int) < (l.length : Int)
  · have hlt : i < l.length := by omega
    refine W.cT rfl (decide_eq_true hc1) ?_
    refine W.k ?_
    refine W.seq ?_
    refine W.block ?_
    refine W.sr ?_
    refine WL.run 2 rfl ?_
    refine WL.a ?_
    refine WL.run 3 rfl ?_
    refine WL.v (X.idxV (j := i) (r := offOf s + i * 4) tL22 tS111 (hp.old0 hV) rfl rfl (by omega) (by omega) rfl) ?_
    refine WL.v (X.ldA tA111 tS111 rfl (cs := [.int .i64 ((l.getD i default).kind), .int .i64 ((l.getD i default).refs), .int .i64 ((l.getD i default).data), .bool ((l.getD i default).final)]) (view_cells (hp.old0 hV) (get_some (by omega)) (by omega))) ?_
    refine WL.callB hfn rfl rfl rfl (hf (l.getD i default) _ (mem_getD hlt) hp.chg) ?_
    intro v w hc hr
    obtain rfl := hr
    have hp := hp.ext hc
    refine WL.fin ?_
    by_cases hc2 : pr (l.getD i default) = true
    · have hpt := hc2
      refine W.cT rfl hc2 ?_
      refine W.sr ?_
      refine WL.run 2 rfl ?_
      refine WL.fin ?_
      refine W.ret ?_
      refine X.inR ?_
      refine X.thenR ?_
      refine X.thenR ?_
      refine X.inR ?_
      refine X.thenR ?_
      refine W.done hp (rs := [.tmp 4]) (vs := [.int .i64 (i : Int)]) (v := .int .i64 (i : Int)) rfl ⟨rfl, trivial⟩ rfl ?_
      first | exact .inl ⟨_, rfl, any_of_getD hlt hpt⟩ | exact .inr ⟨rfl, by rw [← hn, List.take_of_length_le (by omega)]⟩
    have hpf := hc2
    refine W.cF rfl (Bool.eq_false_iff.2 hc2) ?_
    refine W.skip ?_
    refine X.inN ?_
    refine X.thenN ?_
    refine W.reg ?_
    refine WL.v (X.add rfl rfl (in64 (by omega))) ?_
    refine WL.run 1 rfl ?_
    refine WL.nil ?_
    refine X.again (i + 1) ⟨rfl, rfl, rfl, rfl, trivial⟩ ?_ ?_
    · exact ⟨hp, by omega, by rw [any_take_succ hlt, hn, Bool.eq_false_iff.2 hpf]; rfl⟩
    · omega
  refine W.cF rfl (decide_eq_false hc1) ?_
  refine W.exit ?_
  refine X.thenE ?_
  refine X.thenE ?_
  refine X.inH ?_
  refine X.thenN ?_
  refine W.sr ?_
  refine WL.run 1 rfl ?_
  refine WL.fin ?_
  refine W.ret ?_
  refine W.done hp (rs := [.tmp 4]) (vs := [.int .i64 (-1)]) (v := .int .i64 (-1)) rfl ⟨rfl, trivial⟩ rfl ?_
  first | exact .inl ⟨_, rfl, any_of_getD hlt hpt⟩ | exact .inr ⟨rfl, by rw [← hn, List.take_of_length_le (by omega)]⟩

theorem confC_c {w0 : World} {s : Value} {l : List Cls} {fk : Nat} {bnd caps : Array Value} {pr : Cls → Bool} (hV : (viewR clsV 4 s l).ok w0) (hfn : IsFn Tryz.prog fk) (hf : ∀ (x : Cls) (w : World), x ∈ l → Chg [] w0 w → Calls Tryz.prog fk (bnd ++ #[.agg #[.int .i64 x.kind, .int .i64 x.refs, .int .i64 x.data, .bool (x.final)]] ++ caps) w (Ret [] w (fun v _ => v = .bool (pr x)))) :
    Calls Tryz.prog 50 #[s, .func (.func fk) bnd caps] w0 (Ret [] w0 (fun v _ => v = .bool (l.any pr))) := by
  have hp : Hp w0 [] [] w0 := Hp.init w0
  refine enter (vs := [s, .func (.func fk) bnd caps]) Tryz.func50 rfl rfl rfl ?_
  refine gen_world hp ?_
  intro w hp
  refine W.sr ?_
  refine WL.run 1 rfl ?_
  refine WL.a ?_
  refine WL.run 2 rfl ?_
  refine WL.call isFn79 rfl rfl (idxfC_c (hp.old0 hV) hfn (fun x w hx hc => hf x w hx (hp.chg.trans hc))) ?_
  intro v w hc hr
  rcases hr with ⟨ix2, rfl, hx1⟩ | ⟨rfl, hx1⟩
  · have hp := hp.ext hc
    refine WL.run 2 rfl ?_
    refine WL.fin ?_
    refine W.ret ?_
    refine W.done hp (rs := [.tmp 4]) (vs := [.bool (decide (0 ≤ (ix2 : Int)))]) (v := .bool (decide (0 ≤ (ix2 : Int)))) rfl ⟨rfl, trivial⟩ rfl ?_
    first | (rw [‹l.any pr = true›]; exact bool_val (by simp)) | (rw [‹l.any pr = false›]; exact bool_val (by simp))
  have hp := hp.ext hc
  refine WL.run 2 rfl ?_
  refine WL.fin ?_
  refine W.ret ?_
  refine W.done hp (rs := [.tmp 4]) (vs := [.bool (decide (0 ≤ (-1)))]) (v := .bool (decide (0 ≤ (-1)))) rfl ⟨rfl, trivial⟩ rfl ?_
  first | (rw [‹l.any pr = true›]; exact bool_val (by simp)) | (rw [‹l.any pr = false›]; exact bool_val (by simp))

theorem idxfS_c {w0 : World} {s : Value} {l : List Spc} {fk : Nat} {bnd caps : Array Value} {pr : Spc → Bool} (hV : (viewR encS 3 s l).ok w0) (hfn : IsFn Tryz.prog fk) (hf : ∀ (x : Spc) (w : World), x ∈ l → Chg [] w0 w → Calls Tryz.prog fk (bnd ++ #[.agg #[.int .i64 x.from_, .int .i64 x.top, .int .i64 x.end_]] ++ caps) w (Ret [] w (fun v _ => v = .bool (pr x)))) :
    Calls Tryz.prog 70 #[s, .func (.func fk) bnd caps] w0 (Ret [] w0 (fun v _ => (∃ i : Nat, v = .int .i64 i ∧ l.any pr = true) ∨ (v = .int .i64 (-1) ∧ l.any pr = false))) := by
  have hp : Hp w0 [] [] w0 := Hp.init w0
  have hle := view_len_le hV
  refine enter (vs := [s, .func (.func fk) bnd caps]) Tryz.func70 rfl rfl rfl ?_
  refine gen_world hp ?_
  intro w hp
  refine W.sr ?_
  refine WL.run 1 rfl ?_
  refine WL.s ?_
  refine W.sr ?_
  refine WL.run 1 rfl ?_
  refine WL.v (view_len tL33 (hp.old0 hV) rfl) ?_
  refine WL.run 1 rfl ?_
  refine WL.fin ?_
  refine W.block ?_
  refine W.loop (X := Nat) (fun i => l.length - i) (fun i => [(0, s), (1, .func (.func fk) bnd caps), (7, .int .i64 (l.length : Int)), (8, .int .i64 (i : Int))]) (fun i w => Hp w0 [] [] w ∧ i ≤ l.length ∧ (l.take i).any pr = false) 0 ⟨rfl, rfl, rfl, rfl, trivial⟩ ?_ ?_
  · exact ⟨hp, by omega, rfl⟩
  rintro i w ⟨hp, hi, hn⟩
  refine W.sr ?_
  refine WL.run 1 rfl ?_
  refine WL.s ?_
  by_cases hc1 : (i : Int) < (l.length : Int)
  · have hlt : i < l.length := by omega
    refine W.cT rfl (decide_eq_true hc1) ?_
    refine W.k ?_
    refine W.seq ?_
    refine W.block ?_
    refine W.sr ?_
    refine WL.run 2 rfl ?_
    refine WL.a ?_
    refine WL.run 3 rfl ?_
    refine WL.v (X.idxV (j := i) (r := offOf s + i * 3) tL33 tS56 (hp.old0 hV) rfl rfl (by omega) (by omega) rfl) ?_
    refine WL.v (X.ldA tA56 tS56 rfl (cs := [.int .i64 ((l.getD i default).from_), .int .i64 ((l.getD i default).top), .int .i64 ((l.getD i default).end_)]) (view_cells (hp.old0 hV) (get_some (by omega)) (by omega))) ?_
    refine WL.callB hfn rfl rfl rfl (hf (l.getD i default) _ (mem_getD hlt) hp.chg) ?_
    intro v w hc hr
    obtain rfl := hr
    have hp := hp.ext hc
    refine WL.fin ?_
    by_cases hc2 : pr (l.getD i default) = true
    · have hpt := hc2
      refine W.cT rfl hc2 ?_
      refine W.sr ?_
      refine WL.run 2 rfl ?_
      refine WL.fin ?_
      refine W.ret ?_
      refine X.inR ?_
      refine X.thenR ?_
      refine X.thenR ?_
      refine X.inR ?_
      refine X.thenR ?_
      refine W.done hp (rs := [.tmp 4]) (vs := [.int .i64 (i : Int)]) (v := .int .i64 (i : Int)) rfl ⟨rfl, trivial⟩ rfl ?_
      first | exact .inl ⟨_, rfl, any_of_getD hlt hpt⟩ | exact .inr ⟨rfl, by rw [← hn, List.take_of_length_le (by omega)]⟩
    have hpf := hc2
    refine W.cF rfl (Bool.eq_false_iff.2 hc2) ?_
    refine W.skip ?_
    refine X.inN ?_
    refine X.thenN ?_
    refine W.reg ?_
    refine WL.v (X.add rfl rfl (in64 (by omega))) ?_
    refine WL.run 1 rfl ?_
    refine WL.nil ?_
    refine X.again (i + 1) ⟨rfl, rfl, rfl, rfl, trivial⟩ ?_ ?_
    · exact ⟨hp, by omega, by rw [any_take_succ hlt, hn, Bool.eq_false_iff.2 hpf]; rfl⟩
    · omega
  refine W.cF rfl (decide_eq_false hc1) ?_
  refine W.exit ?_
  refine X.thenE ?_
  refine X.thenE ?_
  refine X.inH ?_
  refine X.thenN ?_
  refine W.sr ?_
  refine WL.run 1 rfl ?_
  refine WL.fin ?_
  refine W.ret ?_
  refine W.done hp (rs := [.tmp 4]) (vs := [.int .i64 (-1)]) (v := .int .i64 (-1)) rfl ⟨rfl, trivial⟩ rfl ?_
  first | exact .inl ⟨_, rfl, any_of_getD hlt hpt⟩ | exact .inr ⟨rfl, by rw [← hn, List.take_of_length_le (by omega)]⟩

theorem confS_c {w0 : World} {s : Value} {l : List Spc} {fk : Nat} {bnd caps : Array Value} {pr : Spc → Bool} (hV : (viewR encS 3 s l).ok w0) (hfn : IsFn Tryz.prog fk) (hf : ∀ (x : Spc) (w : World), x ∈ l → Chg [] w0 w → Calls Tryz.prog fk (bnd ++ #[.agg #[.int .i64 x.from_, .int .i64 x.top, .int .i64 x.end_]] ++ caps) w (Ret [] w (fun v _ => v = .bool (pr x)))) :
    Calls Tryz.prog 29 #[s, .func (.func fk) bnd caps] w0 (Ret [] w0 (fun v _ => v = .bool (l.any pr))) := by
  have hp : Hp w0 [] [] w0 := Hp.init w0
  refine enter (vs := [s, .func (.func fk) bnd caps]) Tryz.func29 rfl rfl rfl ?_
  refine gen_world hp ?_
  intro w hp
  refine W.sr ?_
  refine WL.run 1 rfl ?_
  refine WL.a ?_
  refine WL.run 2 rfl ?_
  refine WL.call isFn70 rfl rfl (idxfS_c (hp.old0 hV) hfn (fun x w hx hc => hf x w hx (hp.chg.trans hc))) ?_
  intro v w hc hr
  rcases hr with ⟨ix2, rfl, hx1⟩ | ⟨rfl, hx1⟩
  · have hp := hp.ext hc
    refine WL.run 2 rfl ?_
    refine WL.fin ?_
    refine W.ret ?_
    refine W.done hp (rs := [.tmp 4]) (vs := [.bool (decide (0 ≤ (ix2 : Int)))]) (v := .bool (decide (0 ≤ (ix2 : Int)))) rfl ⟨rfl, trivial⟩ rfl ?_
    first | (rw [‹l.any pr = true›]; exact bool_val (by simp)) | (rw [‹l.any pr = false›]; exact bool_val (by simp))
  have hp := hp.ext hc
  refine WL.run 2 rfl ?_
  refine WL.fin ?_
  refine W.ret ?_
  refine W.done hp (rs := [.tmp 4]) (vs := [.bool (decide (0 ≤ (-1)))]) (v := .bool (decide (0 ≤ (-1)))) rfl ⟨rfl, trivial⟩ rfl ?_
  first | (rw [‹l.any pr = true›]; exact bool_val (by simp)) | (rw [‹l.any pr = false›]; exact bool_val (by simp))

theorem cloneC_c {w0 : World} {s : Value} {l : List Cls} (hV : (viewR clsV 4 s l).ok w0) (hl : l.length * 32 ≤ 140737488355328) :
    Calls Tryz.prog 53 #[s] w0 (Ret [] w0 (fun v w => New w0 w (ownR 111 clsV 4 v l))) := by
  have hp : Hp w0 [] [] w0 := Hp.init w0
  refine enter (vs := [s]) Tryz.func53 rfl rfl rfl ?_
  refine gen_world hp ?_
  intro w hp
  refine W.sr ?_
  refine WL.run 1 rfl ?_
  refine WL.s ?_
  refine W.sr ?_
  refine WL.run 1 rfl ?_
  refine WL.v (X.eqNilV tL22 (hp.old0 hV) rfl rfl) ?_
  refine WL.fin ?_
  by_cases hc1 : isNilV s = true
  · have hl0 := view_nil hV hc1
    refine W.cT rfl hc1 ?_
    refine W.sr ?_
    refine WL.run 1 rfl ?_
    refine WL.fin ?_
    refine W.ret ?_
    refine X.thenR ?_
    refine W.done hp (rs := [.tmp 2]) (vs := [.slice none 0 0]) (v := .slice none 0 0) rfl ⟨rfl, trivial⟩ rfl ?_
    first | exact hp.newAt 0 rfl | exact hp.newAt 1 rfl | (rw [hl0]; exact (hp.addNil _ clsV 4 clsV_len (by omega)).newAt 0 rfl)
  refine W.cF rfl (Bool.eq_false_iff.2 hc1) ?_
  refine W.ks ?_
  refine WL.bsl hp (e := 111) (cs := #[]) rfl (fun _ => by kernel_rfl) rfl ?_
  intro b2 w hp
  refine WL.run 1 rfl ?_
  have hp := hp.ofEmpty 0 rfl clsV 4 clsV_len (by omega)
  refine WL.append hp 0 rfl tL22 (zeroT_ex tZ111) tS111 tY111 rfl rfl (hp.old0 hV) clsV_one (by simp only [List.length_append, List.length_cons, List.length_nil]; omega) rfl ?_
  intro v3 w hp
  refine WL.run 1 rfl ?_
  refine WL.fin ?_
  refine W.ret ?_
  refine W.done hp (rs := [.tmp 2]) (vs := [v3]) (v := v3) rfl ⟨rfl, trivial⟩ rfl ?_
  first | exact hp.newAt 0 rfl | exact hp.newAt 1 rfl | (rw [hl0]; exact (hp.addNil _ clsV 4 clsV_len (by omega)).newAt 0 rfl)

theorem clsNew_c {w0 : World} {s : Value} {cs : List Cls} (hV : (viewR clsV 4 s cs).ok w0) (hne : cs ≠ []) :
    Calls Tryz.prog 15 #[s] w0 (Ret [] w0 (fun v w => (cs.all clsR = true ∧ cs.length < 64 ∧ ∃ t c, v = .tuple #[.pointer (some ⟨t, 0, none⟩), .int .i64 0] ∧ New w0 w (tableR t c cs)) ∨ (¬ cs.all clsR = true ∧ v = .tuple #[.pointer none, .int .i64 1]) ∨ (¬ cs.length < 64 ∧ v = .tuple #[.pointer none, .int .i64 3]))) := by
  have hp : Hp w0 [] [] w0 := Hp.init w0
  refine enter (vs := [s]) Tryz.func15 rfl rfl rfl ?_
  refine gen_world hp ?_
  intro w hp
  refine W.sr ?_
  refine WL.run 2 rfl ?_
  refine WL.s ?_
  refine W.sr ?_
  refine WL.run 1 rfl ?_
  refine WL.call isFn50 rfl rfl (confC_c (pr := fun c => !clsR c) (hp.old0 hV) isFn51 (fun x w _ _ => clsNew1_c (c := x))) ?_
  intro v w hc hr
  obtain rfl := hr
  have hp := hp.ext hc
  refine WL.fin ?_
  by_cases hc1 : cs.any (fun c => !clsR c) = true
  · refine W.cT rfl hc1 ?_
    refine W.sr ?_
    refine WL.run 2 rfl ?_
    refine WL.fin ?_
    refine W.ret ?_
    refine X.thenR ?_
    refine W.done hp (rs := [.tmp 2, .tmp 3]) (vs := [.pointer none, .int .i64 1]) (v := .tuple #[.pointer none, .int .i64 1]) rfl ⟨rfl, rfl, trivial⟩ rfl ?_
    first | exact .inr (.inl ⟨fun h => (by rw [all_any h] at *; contradiction), rfl⟩) | exact .inr (.inr ⟨by omega, rfl⟩) | (obtain ⟨c, hsc, hnew⟩ := table_new hp 0 1 rfl rfl (by decide) hne (by omega) (any_all ‹_›); exact .inl ⟨any_all ‹_›, by omega, _, c, rfl, hnew⟩)
  refine W.cF rfl (Bool.eq_false_iff.2 hc1) ?_
  refine W.k ?_
  refine W.seq ?_
  refine W.sr ?_
  refine WL.run 1 rfl ?_
  refine WL.v (view_len tL22 (hp.old0 hV) rfl) ?_
  refine WL.run 1 rfl ?_
  refine WL.fin ?_
  by_cases hc2 : 64 ≤ (cs.length : Int)
  · refine W.cT rfl (decide_eq_true hc2) ?_
    refine W.sr ?_
    refine WL.run 2 rfl ?_
    refine WL.fin ?_
    refine W.ret ?_
    refine X.thenR ?_
    refine W.done hp (rs := [.tmp 2, .tmp 3]) (vs := [.pointer none, .int .i64 3]) (v := .tuple #[.pointer none, .int .i64 3]) rfl ⟨rfl, rfl, trivial⟩ rfl ?_
    first | exact .inr (.inl ⟨fun h => (by rw [all_any h] at *; contradiction), rfl⟩) | exact .inr (.inr ⟨by omega, rfl⟩) | (obtain ⟨c, hsc, hnew⟩ := table_new hp 0 1 rfl rfl (by decide) hne (by omega) (any_all ‹_›); exact .inl ⟨any_all ‹_›, by omega, _, c, rfl, hnew⟩)
  refine W.cF rfl (decide_eq_false hc2) ?_
  refine W.ks ?_
  refine WL.run 1 rfl ?_
  refine WL.call isFn53 rfl rfl (cloneC_c (hp.old0 hV) (by omega)) ?_
  intro v3 w hc hr
  have hp := hp.newN hc hr
  refine WL.v (X.bld (v := .agg #[v3]) rfl (by (obtain ⟨_, _, _, hv_⟩ := view_form (own_view (hp.at 0 rfl)); subst hv_); kernel_rfl)) ?_
  refine WL.box hp rfl (cs := #[v3]) rfl rfl ?_
  intro b4 w hp
  refine WL.run 2 rfl ?_
  refine WL.fin ?_
  refine W.ret ?_
  refine W.done hp (rs := [.tmp 2, .tmp 3]) (vs := [.pointer (some ⟨b4, 0, none⟩), .int .i64 0]) (v := .tuple #[.pointer (some ⟨b4, 0, none⟩), .int .i64 0]) rfl ⟨rfl, rfl, trivial⟩ rfl ?_
  first | exact .inr (.inl ⟨fun h => (by rw [all_any h] at *; contradiction), rfl⟩) | exact .inr (.inr ⟨by omega, rfl⟩) | (obtain ⟨c, hsc, hnew⟩ := table_new hp 0 1 rfl rfl (by decide) hne (by omega) (any_all ‹_›); exact .inl ⟨any_all ‹_›, by omega, _, c, rfl, hnew⟩)
end Go.Proofs.YtmmmbkmjkpfleaaGreat
