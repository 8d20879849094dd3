/- Walks, printed by gen.py from the specs C: what each function answers. No statement of the seat is proved here; conditions: each theorem's own. -/
import Derived.Test.YtmmmbkmjkpfleaaGreatPureB
import Derived.Test.YtmmmbkmjkpfleaaGreatWB
namespace Go.Proofs.YtmmmbkmjkpfleaaGreat
open Go Go.RowKit

theorem there_c {w0 : World} {p b : Nat} {ws : List Int} {tp : Option Addr} {a k : Int} (hA : (arenaR p b ws).ok w0)  :
    Calls Tryz.prog 81 #[.agg #[.pointer (some ⟨p, 0, none⟩), .pointer tp], .int .i64 a, .int .i64 k] w0 (Ret [] w0 (fun v _ => v = .bool (thereB ws.length a k))) := by
  have hp : Hp w0 [] [] w0 := Hp.init w0
  have hsm := arena_small hA
  refine enter (vs := [.agg #[.pointer (some ⟨p, 0, none⟩), .pointer tp], .int .i64 a, .int .i64 k]) Tryz.func81 rfl rfl rfl ?_
  refine gen_world hp ?_
  intro w hp
  refine W.sr ?_
  refine WL.box hp rfl (cs := #[.pointer (some ⟨p, 0, none⟩), .pointer tp]) rfl rfl ?_
  intro b1 w hp
  refine WL.run 1 rfl ?_
  refine WL.a ?_
  refine WL.run 3 rfl ?_
  by_cases hc2 : 1 ≤ a
  · refine WL.g1 rfl rfl (decide_eq_true hc2) ?_
    refine WL.run 1 rfl ?_
    refine WL.g1 rfl rfl (decide_eq_true hc2) ?_
    refine WL.run 1 rfl ?_
    refine WL.v (X.pkT rfl (decide_eq_true hc2) rfl) ?_
    refine WL.run 1 rfl ?_
    by_cases hc3 : 1 ≤ k
    · refine WL.g1 rfl rfl (decide_eq_true hc3) ?_
      refine WL.run 1 rfl ?_
      refine WL.g1 rfl rfl (decide_eq_true hc3) ?_
      refine WL.run 1 rfl ?_
      refine WL.g1 rfl rfl (decide_eq_true hc3) ?_
      refine WL.v (X.ldk (hp.at 0 rfl) tA29 rfl rfl) ?_
      refine WL.g1 rfl rfl (decide_eq_true hc3) ?_
      refine WL.call isFn31 rfl rfl (len_c (hp.old0 hA)) ?_
      intro v w hc hr
      obtain rfl := hr
      have hp := hp.ext hc
      refine WL.g1 rfl rfl (decide_eq_true hc3) ?_
      refine WL.run 1 rfl ?_
      refine WL.v (X.pkT rfl (decide_eq_true hc3) rfl) ?_
      refine WL.run 1 rfl ?_
      by_cases hc4 : a < (ws.length : Int)
      · refine WL.g1 rfl rfl (decide_eq_true hc4) ?_
        refine WL.run 1 rfl ?_
        refine WL.g1 rfl rfl (decide_eq_true hc4) ?_
        refine WL.run 1 rfl ?_
        refine WL.g1 rfl rfl (decide_eq_true hc4) ?_
        refine WL.v (X.ldk (hp.at 0 rfl) tA29 rfl rfl) ?_
        refine WL.g1 rfl rfl (decide_eq_true hc4) ?_
        refine WL.call isFn31 rfl rfl (len_c (hp.old0 hA)) ?_
        intro v w hc hr
        obtain rfl := hr
        have hp := hp.ext hc
        refine WL.g1 rfl rfl (decide_eq_true hc4) ?_
        refine WL.run 1 rfl ?_
        refine WL.g1 rfl rfl (decide_eq_true hc4) ?_
        refine WL.v (X.sub rfl rfl (in64 (by omega))) ?_
        refine WL.g1 rfl rfl (decide_eq_true hc4) ?_
        refine WL.run 1 rfl ?_
        refine WL.v (X.pkT rfl (decide_eq_true hc4) rfl) ?_
        refine WL.run 1 rfl ?_
        refine WL.fin ?_
        refine W.ret ?_
        refine W.done hp (rs := [.tmp 6]) (vs := [.bool (decide (k ≤ ((ws.length : Int) - a)))]) (v := .bool (decide (k ≤ ((ws.length : Int) - a)))) rfl ⟨rfl, trivial⟩ rfl ?_
        exact bool_val (by simp only [Bool.false_eq_true, decide_eq_true_eq, thereB_iff]; constructor <;> intro h_ <;> first | contradiction | omega | (exfalso; omega))
      refine WL.g0 rfl rfl (decide_eq_false hc4) rfl ?_
      refine WL.g0 rfl rfl (decide_eq_false hc4) rfl ?_
      refine WL.g0 rfl rfl (decide_eq_false hc4) rfl ?_
      refine WL.g0 rfl rfl (decide_eq_false hc4) rfl ?_
      refine WL.g0 rfl rfl (decide_eq_false hc4) rfl ?_
      refine WL.g0 rfl rfl (decide_eq_false hc4) rfl ?_
      refine WL.g0 rfl rfl (decide_eq_false hc4) rfl ?_
      refine WL.v (X.pkF rfl (decide_eq_false hc4) rfl) ?_
      refine WL.run 1 rfl ?_
      refine WL.fin ?_
      refine W.ret ?_
      refine W.done hp (rs := [.tmp 6]) (vs := [.bool false]) (v := .bool false) rfl ⟨rfl, trivial⟩ rfl ?_
      exact bool_val (by simp only [Bool.false_eq_true, decide_eq_true_eq, thereB_iff]; constructor <;> intro h_ <;> first | contradiction | omega | (exfalso; omega))
    refine WL.g0 rfl rfl (decide_eq_false hc3) rfl ?_
    refine WL.g0 rfl rfl (decide_eq_false hc3) rfl ?_
    refine WL.g0 rfl rfl (decide_eq_false hc3) rfl ?_
    refine WL.g0 rfl rfl (decide_eq_false hc3) rfl ?_
    refine WL.g0 rfl rfl (decide_eq_false hc3) rfl ?_
    refine WL.v (X.pkF rfl (decide_eq_false hc3) rfl) ?_
    refine WL.run 1 rfl ?_
    refine WL.g0 rfl rfl rfl rfl ?_
    refine WL.g0 rfl rfl rfl rfl ?_
    refine WL.g0 rfl rfl rfl rfl ?_
    refine WL.g0 rfl rfl rfl rfl ?_
    refine WL.g0 rfl rfl rfl rfl ?_
    refine WL.g0 rfl rfl rfl rfl ?_
    refine WL.g0 rfl rfl rfl rfl ?_
    refine WL.v (X.pkF rfl rfl rfl) ?_
    refine WL.run 1 rfl ?_
    refine WL.fin ?_
    refine W.ret ?_
    refine W.done hp (rs := [.tmp 6]) (vs := [.bool false]) (v := .bool false) rfl ⟨rfl, trivial⟩ rfl ?_
    exact bool_val (by simp only [Bool.false_eq_true, decide_eq_true_eq, thereB_iff]; constructor <;> intro h_ <;> first | contradiction | omega | (exfalso; omega))
  refine WL.g0 rfl rfl (decide_eq_false hc2) rfl ?_
  refine WL.g0 rfl rfl (decide_eq_false hc2) rfl ?_
  refine WL.v (X.pkF rfl (decide_eq_false hc2) rfl) ?_
  refine WL.run 1 rfl ?_
  refine WL.g0 rfl rfl rfl rfl ?_
  refine WL.g0 rfl rfl rfl rfl ?_
  refine WL.g0 rfl rfl rfl rfl ?_
  refine WL.g0 rfl rfl rfl rfl ?_
  refine WL.g0 rfl rfl rfl rfl ?_
  refine WL.v (X.pkF rfl rfl rfl) ?_
  refine WL.run 1 rfl ?_
  refine WL.g0 rfl rfl rfl rfl ?_
  refine WL.g0 rfl rfl rfl rfl ?_
  refine WL.g0 rfl rfl rfl rfl ?_
  refine WL.g0 rfl rfl rfl rfl ?_
  refine WL.g0 rfl rfl rfl rfl ?_
  refine WL.g0 rfl rfl rfl rfl ?_
  refine WL.g0 rfl rfl rfl rfl ?_
  refine WL.v (X.pkF rfl rfl rfl) ?_
  refine WL.run 1 rfl ?_
  refine WL.fin ?_
  refine W.ret ?_
  refine W.done hp (rs := [.tmp 6]) (vs := [.bool false]) (v := .bool false) rfl ⟨rfl, trivial⟩ rfl ?_
  exact bool_val (by simp only [Bool.false_eq_true, decide_eq_true_eq, thereB_iff]; constructor <;> intro h_ <;> first | contradiction | omega | (exfalso; omega))

theorem is_c {w0 : World} {x : Thg} :
    Calls Tryz.prog 89 #[.agg #[.int .i64 x.hd.cls, .int .i64 x.hd.age, .int .i64 x.hd.fwd, .bool (x.hd.mark), .bool (x.hd.final), .bool (x.hd.done), .int .i64 x.refs, .int .i64 x.data, .int .i64 x.words]] w0 (Ret [] w0 (fun v _ => v = .bool (decide (x.hd.cls ≠ 0)))) := by
  have hp : Hp w0 [] [] w0 := Hp.init w0
  refine enter (vs := [.agg #[.int .i64 x.hd.cls, .int .i64 x.hd.age, .int .i64 x.hd.fwd, .bool (x.hd.mark), .bool (x.hd.final), .bool (x.hd.done), .int .i64 x.refs, .int .i64 x.data, .int .i64 x.words]]) Tryz.func89 rfl rfl rfl ?_
  refine gen_world hp ?_
  intro w hp
  refine W.sr ?_
  refine WL.box hp rfl (cs := #[.int .i64 x.hd.cls, .int .i64 x.hd.age, .int .i64 x.hd.fwd, .bool (x.hd.mark), .bool (x.hd.final), .bool (x.hd.done), .int .i64 x.refs, .int .i64 x.data, .int .i64 x.words]) rfl rfl ?_
  intro b1 w hp
  refine WL.run 1 rfl ?_
  refine WL.a ?_
  refine WL.run 2 rfl ?_
  refine WL.v (X.ldk (hp.at 0 rfl) tA3 rfl rfl) ?_
  refine WL.run 2 rfl ?_
  refine WL.fin ?_
  refine W.ret ?_
  refine W.done hp (rs := [.tmp 2]) (vs := [.bool (decide (x.hd.cls ≠ 0))]) (v := .bool (decide (x.hd.cls ≠ 0))) rfl ⟨rfl, trivial⟩ rfl ?_
  exact rfl

theorem at_c {w0 : World} {p b t c : Nat} {ws : List Int} {cs : List Cls} {a : Int} (hA : (arenaR p b ws).ok w0) (hT : (tableR t c cs).ok w0)  :
    Calls Tryz.prog 88 #[.agg #[.pointer (some ⟨p, 0, none⟩), .pointer (some ⟨t, 0, none⟩)], .int .i64 a] w0 (Ret [] w0 (fun v _ => v = .tuple #[.agg #[.int .i64 ((atT ws cs a).hd.cls), .int .i64 ((atT ws cs a).hd.age), .int .i64 ((atT ws cs a).hd.fwd), .bool ((atT ws cs a).hd.mark), .bool ((atT ws cs a).hd.final), .bool ((atT ws cs a).hd.done), .int .i64 ((atT ws cs a).refs), .int .i64 ((atT ws cs a).data), .int .i64 ((atT ws cs a).words)], .int .i64 (atE ws cs a)])) := by
  have hp : Hp w0 [] [] w0 := Hp.init w0
  have hsm := arena_small hA
  refine enter (vs := [.agg #[.pointer (some ⟨p, 0, none⟩), .pointer (some ⟨t, 0, none⟩)], .int .i64 a]) Tryz.func88 rfl rfl rfl ?_
  refine gen_world hp ?_
  intro w hp
  refine W.sr ?_
  refine WL.box hp rfl (cs := #[.pointer (some ⟨p, 0, none⟩), .pointer (some ⟨t, 0, none⟩)]) rfl rfl ?_
  intro b1 w hp
  refine WL.alloc hp tZ128 rfl ?_
  intro b2 w hp
  refine WL.run 1 rfl ?_
  refine WL.s ?_
  refine W.sr ?_
  refine WL.v (X.ldkA (hp.at 1 rfl) tA32 tS32 (vs := [.pointer (some ⟨p, 0, none⟩), .pointer (some ⟨t, 0, none⟩)]) rfl rfl) ?_
  refine WL.run 1 rfl ?_
  refine WL.call isFn81 rfl rfl (there_c (a := a) (k := 1) (hp.old0 hA)) ?_
  intro v w hc hr
  obtain rfl := hr
  have hp := hp.ext hc
  refine WL.run 1 rfl ?_
  refine WL.fin ?_
  by_cases hc3 : thereB ws.length a 1 = true
  · have hc3_ := thereB_t hc3
    refine W.cF rfl (congrArg not hc3) ?_
    refine W.ks ?_
    refine WL.run 1 rfl ?_
    refine WL.v (X.ldk (hp.at 1 rfl) tA29 rfl rfl) ?_
    refine WL.run 1 rfl ?_
    refine WL.call isFn99 rfl rfl (load_c (a := a) (hp.old0 hA)) ?_
    intro v w hc hr
    rcases hr with ⟨hl4, hl5, rfl⟩ | ⟨hl6, rfl⟩
    · have hp := hp.ext hc
      refine WL.run 5 rfl ?_
      refine WL.a ?_
      refine WL.run 1 rfl ?_
      refine WL.call isFn100 rfl rfl (of_c (x := gi ws a)) ?_
      intro v w hc hr
      rcases hr with ⟨ho7, rfl⟩ | ⟨ho7, rfl⟩
      · have hp := hp.ext hc
        have ho7_ := hdR_t ho7
        refine WL.run 3 rfl ?_
        refine WL.alloc hp tZ123 rfl ?_
        intro b8 w hp
        refine WL.store hp 0 rfl tS123 rfl rfl (vs := [.int .i64 ((hdOf (gi ws a)).cls), .int .i64 ((hdOf (gi ws a)).age), .int .i64 ((hdOf (gi ws a)).fwd), .bool ((hdOf (gi ws a)).mark), .bool ((hdOf (gi ws a)).final), .bool ((hdOf (gi ws a)).done)]) rfl rfl rfl (new := #[.int .i64 ((hdOf (gi ws a)).cls), .int .i64 ((hdOf (gi ws a)).age), .int .i64 ((hdOf (gi ws a)).fwd), .bool ((hdOf (gi ws a)).mark), .bool ((hdOf (gi ws a)).final), .bool ((hdOf (gi ws a)).done)]) rfl ?_
        intro w hp
        refine WL.run 1 rfl ?_
        refine WL.s ?_
        refine W.sr ?_
        refine WL.run 2 rfl ?_
        refine WL.fin ?_
        refine W.cF rfl (decide_eq_false (by decide)) ?_
        refine W.ks ?_
        refine WL.v (X.ldkA (hp.at 0 rfl) tA123 tS123 (vs := [.int .i64 ((hdOf (gi ws a)).cls), .int .i64 ((hdOf (gi ws a)).age), .int .i64 ((hdOf (gi ws a)).fwd), .bool ((hdOf (gi ws a)).mark), .bool ((hdOf (gi ws a)).final), .bool ((hdOf (gi ws a)).done)]) rfl rfl) ?_
        refine WL.v (X.bld (v := .agg #[.int .i64 ((hdOf (gi ws a)).cls), .int .i64 ((hdOf (gi ws a)).age), .int .i64 ((hdOf (gi ws a)).fwd), .bool ((hdOf (gi ws a)).mark), .bool ((hdOf (gi ws a)).final), .bool ((hdOf (gi ws a)).done), .int .i64 0, .int .i64 0, .int .i64 1]) rfl (by kernel_rfl)) ?_
        refine WL.alloc hp tZ128 rfl ?_
        intro b10 w hp
        refine WL.store hp 0 rfl tS128 rfl rfl (vs := [.int .i64 ((hdOf (gi ws a)).cls), .int .i64 ((hdOf (gi ws a)).age), .int .i64 ((hdOf (gi ws a)).fwd), .bool ((hdOf (gi ws a)).mark), .bool ((hdOf (gi ws a)).final), .bool ((hdOf (gi ws a)).done), .int .i64 0, .int .i64 0, .int .i64 1]) rfl rfl rfl (new := #[.int .i64 ((hdOf (gi ws a)).cls), .int .i64 ((hdOf (gi ws a)).age), .int .i64 ((hdOf (gi ws a)).fwd), .bool ((hdOf (gi ws a)).mark), .bool ((hdOf (gi ws a)).final), .bool ((hdOf (gi ws a)).done), .int .i64 0, .int .i64 0, .int .i64 1]) rfl ?_
        intro w hp
        refine WL.s ?_
        refine W.sr ?_
        refine WL.run 1 rfl ?_
        refine WL.v (X.ldk (hp.at 1 rfl) tA3 rfl rfl) ?_
        refine WL.run 2 rfl ?_
        by_cases hc11 : ((hdOf (gi ws a)).cls) = 0
        · refine WL.g1 rfl rfl (decide_eq_true hc11) ?_
          refine WL.run 1 rfl ?_
          refine WL.g1 rfl rfl (decide_eq_true hc11) ?_
          refine WL.v (X.ldk (hp.at 1 rfl) tA4 rfl rfl) ?_
          refine WL.v (X.pkT rfl (decide_eq_true hc11) rfl) ?_
          refine WL.fin ?_
          by_cases hc12 : (hdOf (gi ws a)).mark = true
          · refine W.cT rfl hc12 ?_
            refine W.sr ?_
            refine WL.v (X.ldkA (hp.at 0 rfl) tA128 tS128 (vs := [.int .i64 ((hdOf (gi ws a)).cls), .int .i64 ((hdOf (gi ws a)).age), .int .i64 ((hdOf (gi ws a)).fwd), .bool ((hdOf (gi ws a)).mark), .bool ((hdOf (gi ws a)).final), .bool ((hdOf (gi ws a)).done), .int .i64 0, .int .i64 0, .int .i64 1]) rfl rfl) ?_
            refine WL.store hp 2 rfl tS128 rfl rfl (vs := [.int .i64 ((hdOf (gi ws a)).cls), .int .i64 ((hdOf (gi ws a)).age), .int .i64 ((hdOf (gi ws a)).fwd), .bool ((hdOf (gi ws a)).mark), .bool ((hdOf (gi ws a)).final), .bool ((hdOf (gi ws a)).done), .int .i64 0, .int .i64 0, .int .i64 1]) rfl rfl rfl (new := #[.int .i64 ((hdOf (gi ws a)).cls), .int .i64 ((hdOf (gi ws a)).age), .int .i64 ((hdOf (gi ws a)).fwd), .bool ((hdOf (gi ws a)).mark), .bool ((hdOf (gi ws a)).final), .bool ((hdOf (gi ws a)).done), .int .i64 0, .int .i64 0, .int .i64 1]) rfl ?_
            intro w hp
            refine WL.run 1 rfl ?_
            refine WL.fin ?_
            refine W.ret ?_
            refine X.thenR ?_
            refine W.done hp (rs := [.cell 4 128, .tmp 5]) (vs := [.agg #[.int .i64 ((hdOf (gi ws a)).cls), .int .i64 ((hdOf (gi ws a)).age), .int .i64 ((hdOf (gi ws a)).fwd), .bool ((hdOf (gi ws a)).mark), .bool ((hdOf (gi ws a)).final), .bool ((hdOf (gi ws a)).done), .int .i64 0, .int .i64 0, .int .i64 1], .int .i64 0]) (v := .tuple #[.agg #[.int .i64 ((hdOf (gi ws a)).cls), .int .i64 ((hdOf (gi ws a)).age), .int .i64 ((hdOf (gi ws a)).fwd), .bool ((hdOf (gi ws a)).mark), .bool ((hdOf (gi ws a)).final), .bool ((hdOf (gi ws a)).done), .int .i64 0, .int .i64 0, .int .i64 1], .int .i64 0]) rfl ⟨⟨_, rfl, run_loadVarB hp 2 rfl tA128 tS128 (vs := [.int .i64 ((hdOf (gi ws a)).cls), .int .i64 ((hdOf (gi ws a)).age), .int .i64 ((hdOf (gi ws a)).fwd), .bool ((hdOf (gi ws a)).mark), .bool ((hdOf (gi ws a)).final), .bool ((hdOf (gi ws a)).done), .int .i64 0, .int .i64 0, .int .i64 1]) rfl⟩, rfl, trivial⟩ rfl ?_
            exact (by rw [show atE ws cs a = (atF ws cs a).1 from rfl, show atT ws cs a = (atF ws cs a).2 from rfl, atF_one hc3 ho7 (by simpa using hc11) hc12] <;> rfl)
          refine W.cF rfl (Bool.eq_false_iff.2 hc12) ?_
          refine W.ks ?_
          refine WL.run 1 rfl ?_
          refine WL.v (X.ldk (hp.at 3 rfl) tA29 rfl rfl) ?_
          refine WL.run 1 rfl ?_
          refine WL.v (X.add rfl rfl (in64 (by omega))) ?_
          refine WL.call isFn99 rfl rfl (load_c (a := a + 1) (hp.old0 hA)) ?_
          intro v w hc hr
          rcases hr with ⟨hl13, hl14, rfl⟩ | ⟨hl15, rfl⟩
          · have hp := hp.ext hc
            refine WL.run 5 rfl ?_
            refine WL.s ?_
            refine W.sr ?_
            refine WL.run 2 rfl ?_
            refine WL.fin ?_
            refine W.cF rfl (decide_eq_false (by decide)) ?_
            refine W.k ?_
            refine W.seq ?_
            refine W.sr ?_
            refine WL.v (X.ldkA (hp.at 0 rfl) tA128 tS128 (vs := [.int .i64 ((hdOf (gi ws a)).cls), .int .i64 ((hdOf (gi ws a)).age), .int .i64 ((hdOf (gi ws a)).fwd), .bool ((hdOf (gi ws a)).mark), .bool ((hdOf (gi ws a)).final), .bool ((hdOf (gi ws a)).done), .int .i64 0, .int .i64 0, .int .i64 1]) rfl rfl) ?_
            refine WL.call isFn89 rfl rfl (is_c (x := (⟨(hdOf (gi ws a)), 0, 0, 1⟩ : Thg))) ?_
            intro v w hc hr
            obtain rfl := hr
            have hp := hp.ext hc
            refine WL.fin ?_
            refine W.cF rfl (decide_eq_false (not_not_intro hc11)) ?_
            refine W.k ?_
            refine W.seq ?_
            refine W.sr ?_
            refine WL.run 3 rfl ?_
            refine WL.g1 rfl rfl (decide_eq_false (by decide)) ?_
            refine WL.run 1 rfl ?_
            refine WL.g1 rfl rfl (decide_eq_false (by decide)) ?_
            refine WL.run 1 rfl ?_
            refine WL.v (X.pkF rfl (decide_eq_false (by decide)) rfl) ?_
            refine WL.run 1 rfl ?_
            by_cases hc18 : (gi ws (a + 1)) < 2
            · refine WL.g0 rfl rfl (decide_eq_true hc18) rfl ?_
              refine WL.g0 rfl rfl (decide_eq_true hc18) rfl ?_
              refine WL.g0 rfl rfl (decide_eq_true hc18) rfl ?_
              refine WL.g0 rfl rfl (decide_eq_true hc18) rfl ?_
              refine WL.g0 rfl rfl (decide_eq_true hc18) rfl ?_
              refine WL.v (X.pkT rfl (decide_eq_true hc18) rfl) ?_
              refine WL.fin ?_
              refine W.cT rfl rfl ?_
              refine W.sr ?_
              refine WL.v (X.bld (v := .agg #[.int .i64 0, .int .i64 0, .int .i64 0, .bool false, .bool false, .bool false, .int .i64 0, .int .i64 0, .int .i64 0]) rfl (by kernel_rfl)) ?_
              refine WL.store hp 2 rfl tS128 rfl rfl (vs := [.int .i64 0, .int .i64 0, .int .i64 0, .bool false, .bool false, .bool false, .int .i64 0, .int .i64 0, .int .i64 0]) rfl rfl rfl (new := #[.int .i64 0, .int .i64 0, .int .i64 0, .bool false, .bool false, .bool false, .int .i64 0, .int .i64 0, .int .i64 0]) rfl ?_
              intro w hp
              refine WL.run 1 rfl ?_
              refine WL.fin ?_
              refine W.ret ?_
              refine X.thenR ?_
              refine W.done hp (rs := [.cell 4 128, .tmp 5]) (vs := [.agg #[.int .i64 0, .int .i64 0, .int .i64 0, .bool false, .bool false, .bool false, .int .i64 0, .int .i64 0, .int .i64 0], .int .i64 12]) (v := .tuple #[.agg #[.int .i64 0, .int .i64 0, .int .i64 0, .bool false, .bool false, .bool false, .int .i64 0, .int .i64 0, .int .i64 0], .int .i64 12]) rfl ⟨⟨_, rfl, run_loadVarB hp 2 rfl tA128 tS128 (vs := [.int .i64 0, .int .i64 0, .int .i64 0, .bool false, .bool false, .bool false, .int .i64 0, .int .i64 0, .int .i64 0]) rfl⟩, rfl, trivial⟩ rfl ?_
              exact (by rw [show atE ws cs a = (atF ws cs a).1 from rfl, show atT ws cs a = (atF ws cs a).2 from rfl, atF_gapx hc3 ho7 (not_not_intro hc11) hc12 (by omega) (.inl hc18)] <;> rfl)
            refine WL.g1 rfl rfl (decide_eq_false hc18) ?_
            refine WL.v (X.ldkA (hp.at 3 rfl) tA32 tS32 (vs := [.pointer (some ⟨p, 0, none⟩), .pointer (some ⟨t, 0, none⟩)]) rfl rfl) ?_
            refine WL.g1 rfl rfl (decide_eq_false hc18) ?_
            refine WL.run 1 rfl ?_
            refine WL.g1 rfl rfl (decide_eq_false hc18) ?_
            refine WL.run 1 rfl ?_
            refine WL.g1 rfl rfl (decide_eq_false hc18) ?_
            refine WL.call isFn81 rfl rfl (there_c (a := a) (k := gi ws (a + 1)) (hp.old0 hA)) ?_
            intro v w hc hr
            obtain rfl := hr
            have hp := hp.ext hc
            refine WL.g1 rfl rfl (decide_eq_false hc18) ?_
            refine WL.run 1 rfl ?_
            refine WL.v (X.pkF rfl (decide_eq_false hc18) rfl) ?_
            refine WL.fin ?_
            by_cases hc19 : thereB ws.length a (gi ws (a + 1)) = true
            · have hc19_ := thereB_t hc19
              refine W.cF rfl (congrArg not hc19) ?_
              refine W.ks ?_
              refine WL.run 2 rfl ?_
              refine WL.store hp 0 rfl tS3 rfl rfl (vs := [.int .i64 (gi ws (a + 1))]) rfl rfl rfl (new := #[.int .i64 ((hdOf (gi ws a)).cls), .int .i64 ((hdOf (gi ws a)).age), .int .i64 ((hdOf (gi ws a)).fwd), .bool ((hdOf (gi ws a)).mark), .bool ((hdOf (gi ws a)).final), .bool ((hdOf (gi ws a)).done), .int .i64 0, .int .i64 0, .int .i64 (gi ws (a + 1))]) rfl ?_
              intro w hp
              refine WL.a ?_
              refine WL.v (X.ldkA (hp.at 0 rfl) tA128 tS128 (vs := [.int .i64 ((hdOf (gi ws a)).cls), .int .i64 ((hdOf (gi ws a)).age), .int .i64 ((hdOf (gi ws a)).fwd), .bool ((hdOf (gi ws a)).mark), .bool ((hdOf (gi ws a)).final), .bool ((hdOf (gi ws a)).done), .int .i64 0, .int .i64 0, .int .i64 (gi ws (a + 1))]) rfl rfl) ?_
              refine WL.store hp 2 rfl tS128 rfl rfl (vs := [.int .i64 ((hdOf (gi ws a)).cls), .int .i64 ((hdOf (gi ws a)).age), .int .i64 ((hdOf (gi ws a)).fwd), .bool ((hdOf (gi ws a)).mark), .bool ((hdOf (gi ws a)).final), .bool ((hdOf (gi ws a)).done), .int .i64 0, .int .i64 0, .int .i64 (gi ws (a + 1))]) rfl rfl rfl (new := #[.int .i64 ((hdOf (gi ws a)).cls), .int .i64 ((hdOf (gi ws a)).age), .int .i64 ((hdOf (gi ws a)).fwd), .bool ((hdOf (gi ws a)).mark), .bool ((hdOf (gi ws a)).final), .bool ((hdOf (gi ws a)).done), .int .i64 0, .int .i64 0, .int .i64 (gi ws (a + 1))]) rfl ?_
              intro w hp
              refine WL.run 1 rfl ?_
              refine WL.fin ?_
              refine W.ret ?_
              refine W.done hp (rs := [.cell 4 128, .tmp 5]) (vs := [.agg #[.int .i64 ((hdOf (gi ws a)).cls), .int .i64 ((hdOf (gi ws a)).age), .int .i64 ((hdOf (gi ws a)).fwd), .bool ((hdOf (gi ws a)).mark), .bool ((hdOf (gi ws a)).final), .bool ((hdOf (gi ws a)).done), .int .i64 0, .int .i64 0, .int .i64 (gi ws (a + 1))], .int .i64 0]) (v := .tuple #[.agg #[.int .i64 ((hdOf (gi ws a)).cls), .int .i64 ((hdOf (gi ws a)).age), .int .i64 ((hdOf (gi ws a)).fwd), .bool ((hdOf (gi ws a)).mark), .bool ((hdOf (gi ws a)).final), .bool ((hdOf (gi ws a)).done), .int .i64 0, .int .i64 0, .int .i64 (gi ws (a + 1))], .int .i64 0]) rfl ⟨⟨_, rfl, run_loadVarB hp 2 rfl tA128 tS128 (vs := [.int .i64 ((hdOf (gi ws a)).cls), .int .i64 ((hdOf (gi ws a)).age), .int .i64 ((hdOf (gi ws a)).fwd), .bool ((hdOf (gi ws a)).mark), .bool ((hdOf (gi ws a)).final), .bool ((hdOf (gi ws a)).done), .int .i64 0, .int .i64 0, .int .i64 (gi ws (a + 1))]) rfl⟩, rfl, trivial⟩ rfl ?_
              exact (by rw [show atE ws cs a = (atF ws cs a).1 from rfl, show atT ws cs a = (atF ws cs a).2 from rfl, atF_gap hc3 ho7 (not_not_intro hc11) hc12 (by omega) hc18 hc19] <;> rfl)
            have hc19_ := thereB_f hc19
            refine W.cT rfl (congrArg not (Bool.eq_false_iff.2 hc19)) ?_
            refine W.sr ?_
            refine WL.v (X.bld (v := .agg #[.int .i64 0, .int .i64 0, .int .i64 0, .bool false, .bool false, .bool false, .int .i64 0, .int .i64 0, .int .i64 0]) rfl (by kernel_rfl)) ?_
            refine WL.store hp 2 rfl tS128 rfl rfl (vs := [.int .i64 0, .int .i64 0, .int .i64 0, .bool false, .bool false, .bool false, .int .i64 0, .int .i64 0, .int .i64 0]) rfl rfl rfl (new := #[.int .i64 0, .int .i64 0, .int .i64 0, .bool false, .bool false, .bool false, .int .i64 0, .int .i64 0, .int .i64 0]) rfl ?_
            intro w hp
            refine WL.run 1 rfl ?_
            refine WL.fin ?_
            refine W.ret ?_
            refine X.thenR ?_
            refine W.done hp (rs := [.cell 4 128, .tmp 5]) (vs := [.agg #[.int .i64 0, .int .i64 0, .int .i64 0, .bool false, .bool false, .bool false, .int .i64 0, .int .i64 0, .int .i64 0], .int .i64 12]) (v := .tuple #[.agg #[.int .i64 0, .int .i64 0, .int .i64 0, .bool false, .bool false, .bool false, .int .i64 0, .int .i64 0, .int .i64 0], .int .i64 12]) rfl ⟨⟨_, rfl, run_loadVarB hp 2 rfl tA128 tS128 (vs := [.int .i64 0, .int .i64 0, .int .i64 0, .bool false, .bool false, .bool false, .int .i64 0, .int .i64 0, .int .i64 0]) rfl⟩, rfl, trivial⟩ rfl ?_
            exact (by rw [show atE ws cs a = (atF ws cs a).1 from rfl, show atT ws cs a = (atF ws cs a).2 from rfl, atF_gapx hc3 ho7 (not_not_intro hc11) hc12 (by omega) (.inr hc19)] <;> rfl)
          have hp := hp.ext hc
          refine WL.run 5 rfl ?_
          refine WL.s ?_
          refine W.sr ?_
          refine WL.run 2 rfl ?_
          refine WL.fin ?_
          refine W.cT rfl (decide_eq_true (by decide)) ?_
          refine W.sr ?_
          refine WL.v (X.bld (v := .agg #[.int .i64 0, .int .i64 0, .int .i64 0, .bool false, .bool false, .bool false, .int .i64 0, .int .i64 0, .int .i64 0]) rfl (by kernel_rfl)) ?_
          refine WL.store hp 2 rfl tS128 rfl rfl (vs := [.int .i64 0, .int .i64 0, .int .i64 0, .bool false, .bool false, .bool false, .int .i64 0, .int .i64 0, .int .i64 0]) rfl rfl rfl (new := #[.int .i64 0, .int .i64 0, .int .i64 0, .bool false, .bool false, .bool false, .int .i64 0, .int .i64 0, .int .i64 0]) rfl ?_
          intro w hp
          refine WL.run 1 rfl ?_
          refine WL.fin ?_
          refine W.ret ?_
          refine X.thenR ?_
          refine W.done hp (rs := [.cell 4 128, .tmp 5]) (vs := [.agg #[.int .i64 0, .int .i64 0, .int .i64 0, .bool false, .bool false, .bool false, .int .i64 0, .int .i64 0, .int .i64 0], .int .i64 12]) (v := .tuple #[.agg #[.int .i64 0, .int .i64 0, .int .i64 0, .bool false, .bool false, .bool false, .int .i64 0, .int .i64 0, .int .i64 0], .int .i64 12]) rfl ⟨⟨_, rfl, run_loadVarB hp 2 rfl tA128 tS128 (vs := [.int .i64 0, .int .i64 0, .int .i64 0, .bool false, .bool false, .bool false, .int .i64 0, .int .i64 0, .int .i64 0]) rfl⟩, rfl, trivial⟩ rfl ?_
          exact (by rw [show atE ws cs a = (atF ws cs a).1 from rfl, show atT ws cs a = (atF ws cs a).2 from rfl, atF_len hc3 ho7 (fun h => hc12 h.2) (by omega)] <;> rfl)
        refine WL.g0 rfl rfl (decide_eq_false hc11) rfl ?_
        refine WL.g0 rfl rfl (decide_eq_false hc11) rfl ?_
        refine WL.v (X.pkF rfl (decide_eq_false hc11) rfl) ?_
        refine WL.fin ?_
        refine W.cF rfl rfl ?_
        refine W.ks ?_
        refine WL.run 1 rfl ?_
        refine WL.v (X.ldk (hp.at 3 rfl) tA29 rfl rfl) ?_
        refine WL.run 1 rfl ?_
        refine WL.v (X.add rfl rfl (in64 (by omega))) ?_
        refine WL.call isFn99 rfl rfl (load_c (a := a + 1) (hp.old0 hA)) ?_
        intro v w hc hr
        rcases hr with ⟨hl21, hl22, rfl⟩ | ⟨hl23, rfl⟩
        · have hp := hp.ext hc
          refine WL.run 5 rfl ?_
          refine WL.s ?_
          refine W.sr ?_
          refine WL.run 2 rfl ?_
          refine WL.fin ?_
          refine W.cF rfl (decide_eq_false (by decide)) ?_
          refine W.k ?_
          refine W.seq ?_
          refine W.sr ?_
          refine WL.v (X.ldkA (hp.at 0 rfl) tA128 tS128 (vs := [.int .i64 ((hdOf (gi ws a)).cls), .int .i64 ((hdOf (gi ws a)).age), .int .i64 ((hdOf (gi ws a)).fwd), .bool ((hdOf (gi ws a)).mark), .bool ((hdOf (gi ws a)).final), .bool ((hdOf (gi ws a)).done), .int .i64 0, .int .i64 0, .int .i64 1]) rfl rfl) ?_
          refine WL.call isFn89 rfl rfl (is_c (x := (⟨(hdOf (gi ws a)), 0, 0, 1⟩ : Thg))) ?_
          intro v w hc hr
          obtain rfl := hr
          have hp := hp.ext hc
          refine WL.fin ?_
          refine W.cT rfl (decide_eq_true hc11) ?_
          refine W.sr ?_
          refine WL.run 1 rfl ?_
          refine WL.v (X.ldk (hp.at 3 rfl) tA30 rfl rfl) ?_
          refine WL.run 1 rfl ?_
          refine WL.v (X.ldk (hp.at 1 rfl) tA3 rfl rfl) ?_
          refine WL.run 1 rfl ?_
          refine WL.call isFn97 rfl rfl (tshape_c (n := (hdOf (gi ws a)).cls) (m := gi ws (a + 1)) (hp.old0 hT)) ?_
          intro v w hc hr
          rcases hr with ⟨he25, rfl⟩ | ⟨he25, rfl⟩
          · have hp := hp.ext hc
            have hsb := shape_bd (hp.old0 hT) he25
            refine WL.run 5 rfl ?_
            refine WL.store hp 0 rfl tS3 rfl rfl (vs := [.int .i64 ((cget cs ((hdOf (gi ws a)).cls)).refs + (gi ws (a + 1)))]) rfl rfl rfl (new := #[.int .i64 ((hdOf (gi ws a)).cls), .int .i64 ((hdOf (gi ws a)).age), .int .i64 ((hdOf (gi ws a)).fwd), .bool ((hdOf (gi ws a)).mark), .bool ((hdOf (gi ws a)).final), .bool ((hdOf (gi ws a)).done), .int .i64 ((cget cs ((hdOf (gi ws a)).cls)).refs + (gi ws (a + 1))), .int .i64 0, .int .i64 1]) rfl ?_
            intro w hp
            refine WL.run 1 rfl ?_
            refine WL.store hp 0 rfl tS3 rfl rfl (vs := [.int .i64 ((cget cs ((hdOf (gi ws a)).cls)).data)]) rfl rfl rfl (new := #[.int .i64 ((hdOf (gi ws a)).cls), .int .i64 ((hdOf (gi ws a)).age), .int .i64 ((hdOf (gi ws a)).fwd), .bool ((hdOf (gi ws a)).mark), .bool ((hdOf (gi ws a)).final), .bool ((hdOf (gi ws a)).done), .int .i64 ((cget cs ((hdOf (gi ws a)).cls)).refs + (gi ws (a + 1))), .int .i64 ((cget cs ((hdOf (gi ws a)).cls)).data), .int .i64 1]) rfl ?_
            intro w hp
            refine WL.run 1 rfl ?_
            refine WL.b ?_
            refine WL.run 1 rfl ?_
            refine WL.v (X.ldk (hp.at 0 rfl) tA3 rfl rfl) ?_
            refine WL.v (X.add rfl rfl (in64 (by omega))) ?_
            refine WL.run 1 rfl ?_
            refine WL.v (X.ldk (hp.at 0 rfl) tA3 rfl rfl) ?_
            refine WL.v (X.add rfl rfl (in64 (by omega))) ?_
            refine WL.run 1 rfl ?_
            refine WL.s ?_
            refine W.sr ?_
            refine WL.run 3 rfl ?_
            refine WL.g1 rfl rfl (decide_eq_false (by decide)) ?_
            refine WL.run 1 rfl ?_
            refine WL.g1 rfl rfl (decide_eq_false (by decide)) ?_
            refine WL.run 1 rfl ?_
            refine WL.v (X.pkF rfl (decide_eq_false (by decide)) rfl) ?_
            refine WL.run 1 rfl ?_
            by_cases hc27 : ((2 + ((cget cs ((hdOf (gi ws a)).cls)).refs + (gi ws (a + 1)))) + ((cget cs ((hdOf (gi ws a)).cls)).data)) < 2
            · refine WL.g0 rfl rfl (decide_eq_true hc27) rfl ?_
              refine WL.g0 rfl rfl (decide_eq_true hc27) rfl ?_
              refine WL.g0 rfl rfl (decide_eq_true hc27) rfl ?_
              refine WL.g0 rfl rfl (decide_eq_true hc27) rfl ?_
              refine WL.g0 rfl rfl (decide_eq_true hc27) rfl ?_
              refine WL.v (X.pkT rfl (decide_eq_true hc27) rfl) ?_
              refine WL.fin ?_
              refine W.cT rfl rfl ?_
              refine W.sr ?_
              refine WL.v (X.bld (v := .agg #[.int .i64 0, .int .i64 0, .int .i64 0, .bool false, .bool false, .bool false, .int .i64 0, .int .i64 0, .int .i64 0]) rfl (by kernel_rfl)) ?_
              refine WL.store hp 2 rfl tS128 rfl rfl (vs := [.int .i64 0, .int .i64 0, .int .i64 0, .bool false, .bool false, .bool false, .int .i64 0, .int .i64 0, .int .i64 0]) rfl rfl rfl (new := #[.int .i64 0, .int .i64 0, .int .i64 0, .bool false, .bool false, .bool false, .int .i64 0, .int .i64 0, .int .i64 0]) rfl ?_
              intro w hp
              refine WL.run 1 rfl ?_
              refine WL.fin ?_
              refine W.ret ?_
              refine X.thenR ?_
              refine W.done hp (rs := [.cell 4 128, .tmp 5]) (vs := [.agg #[.int .i64 0, .int .i64 0, .int .i64 0, .bool false, .bool false, .bool false, .int .i64 0, .int .i64 0, .int .i64 0], .int .i64 12]) (v := .tuple #[.agg #[.int .i64 0, .int .i64 0, .int .i64 0, .bool false, .bool false, .bool false, .int .i64 0, .int .i64 0, .int .i64 0], .int .i64 12]) rfl ⟨⟨_, rfl, run_loadVarB hp 2 rfl tA128 tS128 (vs := [.int .i64 0, .int .i64 0, .int .i64 0, .bool false, .bool false, .bool false, .int .i64 0, .int .i64 0, .int .i64 0]) rfl⟩, rfl, trivial⟩ rfl ?_
              exact (by rw [show atE ws cs a = (atF ws cs a).1 from rfl, show atT ws cs a = (atF ws cs a).2 from rfl, atF_out hc3 ho7 hc11 (by omega) he25 (fun h => by have := thereB_t h; omega)] <;> rfl)
            refine WL.g1 rfl rfl (decide_eq_false hc27) ?_
            refine WL.v (X.ldkA (hp.at 3 rfl) tA32 tS32 (vs := [.pointer (some ⟨p, 0, none⟩), .pointer (some ⟨t, 0, none⟩)]) rfl rfl) ?_
            refine WL.g1 rfl rfl (decide_eq_false hc27) ?_
            refine WL.run 1 rfl ?_
            refine WL.g1 rfl rfl (decide_eq_false hc27) ?_
            refine WL.run 1 rfl ?_
            refine WL.g1 rfl rfl (decide_eq_false hc27) ?_
            refine WL.call isFn81 rfl rfl (there_c (a := a) (k := (2 + ((cget cs ((hdOf (gi ws a)).cls)).refs + (gi ws (a + 1)))) + ((cget cs ((hdOf (gi ws a)).cls)).data)) (hp.old0 hA)) ?_
            intro v w hc hr
            obtain rfl := hr
            have hp := hp.ext hc
            refine WL.g1 rfl rfl (decide_eq_false hc27) ?_
            refine WL.run 1 rfl ?_
            refine WL.v (X.pkF rfl (decide_eq_false hc27) rfl) ?_
            refine WL.fin ?_
            by_cases hc28 : thereB ws.length a ((2 + ((cget cs ((hdOf (gi ws a)).cls)).refs + (gi ws (a + 1)))) + ((cget cs ((hdOf (gi ws a)).cls)).data)) = true
            · have hc28_ := thereB_t hc28
              refine W.cF rfl (congrArg not hc28) ?_
              refine W.ks ?_
              refine WL.run 2 rfl ?_
              refine WL.store hp 0 rfl tS3 rfl rfl (vs := [.int .i64 ((2 + ((cget cs ((hdOf (gi ws a)).cls)).refs + (gi ws (a + 1)))) + ((cget cs ((hdOf (gi ws a)).cls)).data))]) rfl rfl rfl (new := #[.int .i64 ((hdOf (gi ws a)).cls), .int .i64 ((hdOf (gi ws a)).age), .int .i64 ((hdOf (gi ws a)).fwd), .bool ((hdOf (gi ws a)).mark), .bool ((hdOf (gi ws a)).final), .bool ((hdOf (gi ws a)).done), .int .i64 ((cget cs ((hdOf (gi ws a)).cls)).refs + (gi ws (a + 1))), .int .i64 ((cget cs ((hdOf (gi ws a)).cls)).data), .int .i64 ((2 + ((cget cs ((hdOf (gi ws a)).cls)).refs + (gi ws (a + 1)))) + ((cget cs ((hdOf (gi ws a)).cls)).data))]) rfl ?_
              intro w hp
              refine WL.a ?_
              refine WL.v (X.ldkA (hp.at 0 rfl) tA128 tS128 (vs := [.int .i64 ((hdOf (gi ws a)).cls), .int .i64 ((hdOf (gi ws a)).age), .int .i64 ((hdOf (gi ws a)).fwd), .bool ((hdOf (gi ws a)).mark), .bool ((hdOf (gi ws a)).final), .bool ((hdOf (gi ws a)).done), .int .i64 ((cget cs ((hdOf (gi ws a)).cls)).refs + (gi ws (a + 1))), .int .i64 ((cget cs ((hdOf (gi ws a)).cls)).data), .int .i64 ((2 + ((cget cs ((hdOf (gi ws a)).cls)).refs + (gi ws (a + 1)))) + ((cget cs ((hdOf (gi ws a)).cls)).data))]) rfl rfl) ?_
              refine WL.store hp 2 rfl tS128 rfl rfl (vs := [.int .i64 ((hdOf (gi ws a)).cls), .int .i64 ((hdOf (gi ws a)).age), .int .i64 ((hdOf (gi ws a)).fwd), .bool ((hdOf (gi ws a)).mark), .bool ((hdOf (gi ws a)).final), .bool ((hdOf (gi ws a)).done), .int .i64 ((cget cs ((hdOf (gi ws a)).cls)).refs + (gi ws (a + 1))), .int .i64 ((cget cs ((hdOf (gi ws a)).cls)).data), .int .i64 ((2 + ((cget cs ((hdOf (gi ws a)).cls)).refs + (gi ws (a + 1)))) + ((cget cs ((hdOf (gi ws a)).cls)).data))]) rfl rfl rfl (new := #[.int .i64 ((hdOf (gi ws a)).cls), .int .i64 ((hdOf (gi ws a)).age), .int .i64 ((hdOf (gi ws a)).fwd), .bool ((hdOf (gi ws a)).mark), .bool ((hdOf (gi ws a)).final), .bool ((hdOf (gi ws a)).done), .int .i64 ((cget cs ((hdOf (gi ws a)).cls)).refs + (gi ws (a + 1))), .int .i64 ((cget cs ((hdOf (gi ws a)).cls)).data), .int .i64 ((2 + ((cget cs ((hdOf (gi ws a)).cls)).refs + (gi ws (a + 1)))) + ((cget cs ((hdOf (gi ws a)).cls)).data))]) rfl ?_
              intro w hp
              refine WL.run 1 rfl ?_
              refine WL.fin ?_
              refine W.ret ?_
              refine W.done hp (rs := [.cell 4 128, .tmp 5]) (vs := [.agg #[.int .i64 ((hdOf (gi ws a)).cls), .int .i64 ((hdOf (gi ws a)).age), .int .i64 ((hdOf (gi ws a)).fwd), .bool ((hdOf (gi ws a)).mark), .bool ((hdOf (gi ws a)).final), .bool ((hdOf (gi ws a)).done), .int .i64 ((cget cs ((hdOf (gi ws a)).cls)).refs + (gi ws (a + 1))), .int .i64 ((cget cs ((hdOf (gi ws a)).cls)).data), .int .i64 ((2 + ((cget cs ((hdOf (gi ws a)).cls)).refs + (gi ws (a + 1)))) + ((cget cs ((hdOf (gi ws a)).cls)).data))], .int .i64 0]) (v := .tuple #[.agg #[.int .i64 ((hdOf (gi ws a)).cls), .int .i64 ((hdOf (gi ws a)).age), .int .i64 ((hdOf (gi ws a)).fwd), .bool ((hdOf (gi ws a)).mark), .bool ((hdOf (gi ws a)).final), .bool ((hdOf (gi ws a)).done), .int .i64 ((cget cs ((hdOf (gi ws a)).cls)).refs + (gi ws (a + 1))), .int .i64 ((cget cs ((hdOf (gi ws a)).cls)).data), .int .i64 ((2 + ((cget cs ((hdOf (gi ws a)).cls)).refs + (gi ws (a + 1)))) + ((cget cs ((hdOf (gi ws a)).cls)).data))], .int .i64 0]) rfl ⟨⟨_, rfl, run_loadVarB hp 2 rfl tA128 tS128 (vs := [.int .i64 ((hdOf (gi ws a)).cls), .int .i64 ((hdOf (gi ws a)).age), .int .i64 ((hdOf (gi ws a)).fwd), .bool ((hdOf (gi ws a)).mark), .bool ((hdOf (gi ws a)).final), .bool ((hdOf (gi ws a)).done), .int .i64 ((cget cs ((hdOf (gi ws a)).cls)).refs + (gi ws (a + 1))), .int .i64 ((cget cs ((hdOf (gi ws a)).cls)).data), .int .i64 ((2 + ((cget cs ((hdOf (gi ws a)).cls)).refs + (gi ws (a + 1)))) + ((cget cs ((hdOf (gi ws a)).cls)).data))]) rfl⟩, rfl, trivial⟩ rfl ?_
              exact (by rw [show atE ws cs a = (atF ws cs a).1 from rfl, show atT ws cs a = (atF ws cs a).2 from rfl, atF_obj hc3 ho7 hc11 (by omega) he25 hc28] <;> rfl)
            have hc28_ := thereB_f hc28
            refine W.cT rfl (congrArg not (Bool.eq_false_iff.2 hc28)) ?_
            refine W.sr ?_
            refine WL.v (X.bld (v := .agg #[.int .i64 0, .int .i64 0, .int .i64 0, .bool false, .bool false, .bool false, .int .i64 0, .int .i64 0, .int .i64 0]) rfl (by kernel_rfl)) ?_
            refine WL.store hp 2 rfl tS128 rfl rfl (vs := [.int .i64 0, .int .i64 0, .int .i64 0, .bool false, .bool false, .bool false, .int .i64 0, .int .i64 0, .int .i64 0]) rfl rfl rfl (new := #[.int .i64 0, .int .i64 0, .int .i64 0, .bool false, .bool false, .bool false, .int .i64 0, .int .i64 0, .int .i64 0]) rfl ?_
            intro w hp
            refine WL.run 1 rfl ?_
            refine WL.fin ?_
            refine W.ret ?_
            refine X.thenR ?_
            refine W.done hp (rs := [.cell 4 128, .tmp 5]) (vs := [.agg #[.int .i64 0, .int .i64 0, .int .i64 0, .bool false, .bool false, .bool false, .int .i64 0, .int .i64 0, .int .i64 0], .int .i64 12]) (v := .tuple #[.agg #[.int .i64 0, .int .i64 0, .int .i64 0, .bool false, .bool false, .bool false, .int .i64 0, .int .i64 0, .int .i64 0], .int .i64 12]) rfl ⟨⟨_, rfl, run_loadVarB hp 2 rfl tA128 tS128 (vs := [.int .i64 0, .int .i64 0, .int .i64 0, .bool false, .bool false, .bool false, .int .i64 0, .int .i64 0, .int .i64 0]) rfl⟩, rfl, trivial⟩ rfl ?_
            exact (by rw [show atE ws cs a = (atF ws cs a).1 from rfl, show atT ws cs a = (atF ws cs a).2 from rfl, atF_out hc3 ho7 hc11 (by omega) he25 hc28] <;> rfl)
          have hp := hp.ext hc
          refine WL.run 5 rfl ?_
          refine WL.store hp 0 rfl tS3 rfl rfl (vs := [.int .i64 0]) rfl rfl rfl (new := #[.int .i64 ((hdOf (gi ws a)).cls), .int .i64 ((hdOf (gi ws a)).age), .int .i64 ((hdOf (gi ws a)).fwd), .bool ((hdOf (gi ws a)).mark), .bool ((hdOf (gi ws a)).final), .bool ((hdOf (gi ws a)).done), .int .i64 0, .int .i64 0, .int .i64 1]) rfl ?_
          intro w hp
          refine WL.run 1 rfl ?_
          refine WL.store hp 0 rfl tS3 rfl rfl (vs := [.int .i64 0]) rfl rfl rfl (new := #[.int .i64 ((hdOf (gi ws a)).cls), .int .i64 ((hdOf (gi ws a)).age), .int .i64 ((hdOf (gi ws a)).fwd), .bool ((hdOf (gi ws a)).mark), .bool ((hdOf (gi ws a)).final), .bool ((hdOf (gi ws a)).done), .int .i64 0, .int .i64 0, .int .i64 1]) rfl ?_
          intro w hp
          refine WL.run 1 rfl ?_
          refine WL.b ?_
          refine WL.run 1 rfl ?_
          refine WL.v (X.ldk (hp.at 0 rfl) tA3 rfl rfl) ?_
          refine WL.v (X.add rfl rfl (in64 (by omega))) ?_
          refine WL.run 1 rfl ?_
          refine WL.v (X.ldk (hp.at 0 rfl) tA3 rfl rfl) ?_
          refine WL.v (X.add rfl rfl (in64 (by omega))) ?_
          refine WL.run 1 rfl ?_
          refine WL.s ?_
          refine W.sr ?_
          refine WL.run 3 rfl ?_
          refine WL.g0 rfl rfl (decide_eq_true he25) rfl ?_
          refine WL.g0 rfl rfl (decide_eq_true he25) rfl ?_
          refine WL.v (X.pkT rfl (decide_eq_true he25) rfl) ?_
          refine WL.run 1 rfl ?_
          refine WL.g0 rfl rfl rfl rfl ?_
          refine WL.g0 rfl rfl rfl rfl ?_
          refine WL.g0 rfl rfl rfl rfl ?_
          refine WL.g0 rfl rfl rfl rfl ?_
          refine WL.g0 rfl rfl rfl rfl ?_
          refine WL.v (X.pkT rfl rfl rfl) ?_
          refine WL.fin ?_
          refine W.cT rfl rfl ?_
          refine W.sr ?_
          refine WL.v (X.bld (v := .agg #[.int .i64 0, .int .i64 0, .int .i64 0, .bool false, .bool false, .bool false, .int .i64 0, .int .i64 0, .int .i64 0]) rfl (by kernel_rfl)) ?_
          refine WL.store hp 2 rfl tS128 rfl rfl (vs := [.int .i64 0, .int .i64 0, .int .i64 0, .bool false, .bool false, .bool false, .int .i64 0, .int .i64 0, .int .i64 0]) rfl rfl rfl (new := #[.int .i64 0, .int .i64 0, .int .i64 0, .bool false, .bool false, .bool false, .int .i64 0, .int .i64 0, .int .i64 0]) rfl ?_
          intro w hp
          refine WL.run 1 rfl ?_
          refine WL.fin ?_
          refine W.ret ?_
          refine X.thenR ?_
          refine W.done hp (rs := [.cell 4 128, .tmp 5]) (vs := [.agg #[.int .i64 0, .int .i64 0, .int .i64 0, .bool false, .bool false, .bool false, .int .i64 0, .int .i64 0, .int .i64 0], .int .i64 12]) (v := .tuple #[.agg #[.int .i64 0, .int .i64 0, .int .i64 0, .bool false, .bool false, .bool false, .int .i64 0, .int .i64 0, .int .i64 0], .int .i64 12]) rfl ⟨⟨_, rfl, run_loadVarB hp 2 rfl tA128 tS128 (vs := [.int .i64 0, .int .i64 0, .int .i64 0, .bool false, .bool false, .bool false, .int .i64 0, .int .i64 0, .int .i64 0]) rfl⟩, rfl, trivial⟩ rfl ?_
          exact (by rw [show atE ws cs a = (atF ws cs a).1 from rfl, show atT ws cs a = (atF ws cs a).2 from rfl, atF_shape hc3 ho7 hc11 (by omega) he25] <;> rfl)
        have hp := hp.ext hc
        refine WL.run 5 rfl ?_
        refine WL.s ?_
        refine W.sr ?_
        refine WL.run 2 rfl ?_
        refine WL.fin ?_
        refine W.cT rfl (decide_eq_true (by decide)) ?_
        refine W.sr ?_
        refine WL.v (X.bld (v := .agg #[.int .i64 0, .int .i64 0, .int .i64 0, .bool false, .bool false, .bool false, .int .i64 0, .int .i64 0, .int .i64 0]) rfl (by kernel_rfl)) ?_
        refine WL.store hp 2 rfl tS128 rfl rfl (vs := [.int .i64 0, .int .i64 0, .int .i64 0, .bool false, .bool false, .bool false, .int .i64 0, .int .i64 0, .int .i64 0]) rfl rfl rfl (new := #[.int .i64 0, .int .i64 0, .int .i64 0, .bool false, .bool false, .bool false, .int .i64 0, .int .i64 0, .int .i64 0]) rfl ?_
        intro w hp
        refine WL.run 1 rfl ?_
        refine WL.fin ?_
        refine W.ret ?_
        refine X.thenR ?_
        refine W.done hp (rs := [.cell 4 128, .tmp 5]) (vs := [.agg #[.int .i64 0, .int .i64 0, .int .i64 0, .bool false, .bool false, .bool false, .int .i64 0, .int .i64 0, .int .i64 0], .int .i64 12]) (v := .tuple #[.agg #[.int .i64 0, .int .i64 0, .int .i64 0, .bool false, .bool false, .bool false, .int .i64 0, .int .i64 0, .int .i64 0], .int .i64 12]) rfl ⟨⟨_, rfl, run_loadVarB hp 2 rfl tA128 tS128 (vs := [.int .i64 0, .int .i64 0, .int .i64 0, .bool false, .bool false, .bool false, .int .i64 0, .int .i64 0, .int .i64 0]) rfl⟩, rfl, trivial⟩ rfl ?_
        exact (by rw [show atE ws cs a = (atF ws cs a).1 from rfl, show atT ws cs a = (atF ws cs a).2 from rfl, atF_len hc3 ho7 (fun h => hc11 h.1) (by omega)] <;> rfl)
      have hp := hp.ext hc
      have ho7_ := hdR_f ho7
      refine WL.run 3 rfl ?_
      refine WL.alloc hp tZ123 rfl ?_
      intro b30 w hp
      refine WL.store hp 0 rfl tS123 rfl rfl (vs := [.int .i64 0, .int .i64 0, .int .i64 0, .bool false, .bool false, .bool false]) rfl rfl rfl (new := #[.int .i64 0, .int .i64 0, .int .i64 0, .bool false, .bool false, .bool false]) rfl ?_
      intro w hp
      refine WL.run 1 rfl ?_
      refine WL.s ?_
      refine W.sr ?_
      refine WL.run 2 rfl ?_
      refine WL.fin ?_
      refine W.cT rfl (decide_eq_true (by decide)) ?_
      refine W.sr ?_
      refine WL.v (X.bld (v := .agg #[.int .i64 0, .int .i64 0, .int .i64 0, .bool false, .bool false, .bool false, .int .i64 0, .int .i64 0, .int .i64 0]) rfl (by kernel_rfl)) ?_
      refine WL.store hp 1 rfl tS128 rfl rfl (vs := [.int .i64 0, .int .i64 0, .int .i64 0, .bool false, .bool false, .bool false, .int .i64 0, .int .i64 0, .int .i64 0]) rfl rfl rfl (new := #[.int .i64 0, .int .i64 0, .int .i64 0, .bool false, .bool false, .bool false, .int .i64 0, .int .i64 0, .int .i64 0]) rfl ?_
      intro w hp
      refine WL.run 1 rfl ?_
      refine WL.fin ?_
      refine W.ret ?_
      refine X.thenR ?_
      refine W.done hp (rs := [.cell 4 128, .tmp 5]) (vs := [.agg #[.int .i64 0, .int .i64 0, .int .i64 0, .bool false, .bool false, .bool false, .int .i64 0, .int .i64 0, .int .i64 0], .int .i64 12]) (v := .tuple #[.agg #[.int .i64 0, .int .i64 0, .int .i64 0, .bool false, .bool false, .bool false, .int .i64 0, .int .i64 0, .int .i64 0], .int .i64 12]) rfl ⟨⟨_, rfl, run_loadVarB hp 1 rfl tA128 tS128 (vs := [.int .i64 0, .int .i64 0, .int .i64 0, .bool false, .bool false, .bool false, .int .i64 0, .int .i64 0, .int .i64 0]) rfl⟩, rfl, trivial⟩ rfl ?_
      exact (by rw [show atE ws cs a = (atF ws cs a).1 from rfl, show atT ws cs a = (atF ws cs a).2 from rfl, atF_head hc3 ho7] <;> rfl)
    (try simp only [fillW_length, moveW_length, List.length_set] at hl6); first | contradiction | (exfalso; omega) | (exfalso; simp_all; done)
  have hc3_ := thereB_f hc3
  refine W.cT rfl (congrArg not (Bool.eq_false_iff.2 hc3)) ?_
  refine W.sr ?_
  refine WL.v (X.bld (v := .agg #[.int .i64 0, .int .i64 0, .int .i64 0, .bool false, .bool false, .bool false, .int .i64 0, .int .i64 0, .int .i64 0]) rfl (by kernel_rfl)) ?_
  refine WL.store hp 0 rfl tS128 rfl rfl (vs := [.int .i64 0, .int .i64 0, .int .i64 0, .bool false, .bool false, .bool false, .int .i64 0, .int .i64 0, .int .i64 0]) rfl rfl rfl (new := #[.int .i64 0, .int .i64 0, .int .i64 0, .bool false, .bool false, .bool false, .int .i64 0, .int .i64 0, .int .i64 0]) rfl ?_
  intro w hp
  refine WL.run 1 rfl ?_
  refine WL.fin ?_
  refine W.ret ?_
  refine X.thenR ?_
  refine W.done hp (rs := [.cell 4 128, .tmp 5]) (vs := [.agg #[.int .i64 0, .int .i64 0, .int .i64 0, .bool false, .bool false, .bool false, .int .i64 0, .int .i64 0, .int .i64 0], .int .i64 2]) (v := .tuple #[.agg #[.int .i64 0, .int .i64 0, .int .i64 0, .bool false, .bool false, .bool false, .int .i64 0, .int .i64 0, .int .i64 0], .int .i64 2]) rfl ⟨⟨_, rfl, run_loadVarB hp 0 rfl tA128 tS128 (vs := [.int .i64 0, .int .i64 0, .int .i64 0, .bool false, .bool false, .bool false, .int .i64 0, .int .i64 0, .int .i64 0]) rfl⟩, rfl, trivial⟩ rfl ?_
  exact (by rw [show atE ws cs a = (atF ws cs a).1 from rfl, show atT ws cs a = (atF ws cs a).2 from rfl, atF_there hc3] <;> rfl)

theorem object_c {w0 : World} {p b t c : Nat} {ws : List Int} {cs : List Cls} {a : Int} (hA : (arenaR p b ws).ok w0) (hT : (tableR t c cs).ok w0)  :
    Calls Tryz.prog 61 #[.agg #[.pointer (some ⟨p, 0, none⟩), .pointer (some ⟨t, 0, none⟩)], .int .i64 a] w0 (Ret [] w0 (fun v _ => v = .tuple #[.agg #[.int .i64 ((objT ws cs a).hd.cls), .int .i64 ((objT ws cs a).hd.age), .int .i64 ((objT ws cs a).hd.fwd), .bool ((objT ws cs a).hd.mark), .bool ((objT ws cs a).hd.final), .bool ((objT ws cs a).hd.done), .int .i64 ((objT ws cs a).refs), .int .i64 ((objT ws cs a).data), .int .i64 ((objT ws cs a).words)], .int .i64 (objE ws cs a)])) := by
  have hp : Hp w0 [] [] w0 := Hp.init w0
  refine enter (vs := [.agg #[.pointer (some ⟨p, 0, none⟩), .pointer (some ⟨t, 0, none⟩)], .int .i64 a]) Tryz.func61 rfl rfl rfl ?_
  refine gen_world hp ?_
  intro w hp
  refine W.sr ?_
  refine WL.box hp rfl (cs := #[.pointer (some ⟨p, 0, none⟩), .pointer (some ⟨t, 0, none⟩)]) rfl rfl ?_
  intro b1 w hp
  refine WL.alloc hp tZ128 rfl ?_
  intro b2 w hp
  refine WL.run 1 rfl ?_
  refine WL.a ?_
  refine WL.v (X.ldkA (hp.at 1 rfl) tA32 tS32 (vs := [.pointer (some ⟨p, 0, none⟩), .pointer (some ⟨t, 0, none⟩)]) rfl rfl) ?_
  refine WL.run 1 rfl ?_
  refine WL.call isFn88 rfl rfl (at_c (a := a) (hp.old0 hA) (hp.old0 hT)) ?_
  intro v w hc hr
  obtain rfl := hr
  have hp := hp.ext hc
  refine WL.run 3 rfl ?_
  refine WL.alloc hp tZ128 rfl ?_
  intro b3 w hp
  refine WL.store hp 0 rfl tS128 rfl rfl (vs := [.int .i64 ((atT ws cs a).hd.cls), .int .i64 ((atT ws cs a).hd.age), .int .i64 ((atT ws cs a).hd.fwd), .bool ((atT ws cs a).hd.mark), .bool ((atT ws cs a).hd.final), .bool ((atT ws cs a).hd.done), .int .i64 ((atT ws cs a).refs), .int .i64 ((atT ws cs a).data), .int .i64 ((atT ws cs a).words)]) rfl rfl rfl (new := #[.int .i64 ((atT ws cs a).hd.cls), .int .i64 ((atT ws cs a).hd.age), .int .i64 ((atT ws cs a).hd.fwd), .bool ((atT ws cs a).hd.mark), .bool ((atT ws cs a).hd.final), .bool ((atT ws cs a).hd.done), .int .i64 ((atT ws cs a).refs), .int .i64 ((atT ws cs a).data), .int .i64 ((atT ws cs a).words)]) rfl ?_
  intro w hp
  refine WL.run 1 rfl ?_
  refine WL.s ?_
  refine W.sr ?_
  refine WL.run 3 rfl ?_
  by_cases hc4 : (atE ws cs a) = 0
  · refine WL.g1 rfl rfl (decide_eq_true hc4) ?_
    refine WL.v (X.ldkA (hp.at 0 rfl) tA128 tS128 (vs := [.int .i64 ((atT ws cs a).hd.cls), .int .i64 ((atT ws cs a).hd.age), .int .i64 ((atT ws cs a).hd.fwd), .bool ((atT ws cs a).hd.mark), .bool ((atT ws cs a).hd.final), .bool ((atT ws cs a).hd.done), .int .i64 ((atT ws cs a).refs), .int .i64 ((atT ws cs a).data), .int .i64 ((atT ws cs a).words)]) rfl rfl) ?_
    refine WL.g1 rfl rfl (decide_eq_true hc4) ?_
    refine WL.call isFn89 rfl rfl (is_c (x := (atT ws cs a))) ?_
    intro v w hc hr
    obtain rfl := hr
    have hp := hp.ext hc
    refine WL.g1 rfl rfl (decide_eq_true hc4) ?_
    refine WL.run 1 rfl ?_
    refine WL.v (X.pkT rfl (decide_eq_true hc4) rfl) ?_
    refine WL.fin ?_
    by_cases hc5 : ((atT ws cs a).hd.cls) ≠ 0
    · refine W.cF rfl (congrArg not (decide_eq_true hc5)) ?_
      refine W.ks ?_
      refine WL.v (X.ldkA (hp.at 0 rfl) tA128 tS128 (vs := [.int .i64 ((atT ws cs a).hd.cls), .int .i64 ((atT ws cs a).hd.age), .int .i64 ((atT ws cs a).hd.fwd), .bool ((atT ws cs a).hd.mark), .bool ((atT ws cs a).hd.final), .bool ((atT ws cs a).hd.done), .int .i64 ((atT ws cs a).refs), .int .i64 ((atT ws cs a).data), .int .i64 ((atT ws cs a).words)]) rfl rfl) ?_
      refine WL.run 1 rfl ?_
      refine WL.store hp 1 rfl tS128 rfl rfl (vs := [.int .i64 ((atT ws cs a).hd.cls), .int .i64 ((atT ws cs a).hd.age), .int .i64 ((atT ws cs a).hd.fwd), .bool ((atT ws cs a).hd.mark), .bool ((atT ws cs a).hd.final), .bool ((atT ws cs a).hd.done), .int .i64 ((atT ws cs a).refs), .int .i64 ((atT ws cs a).data), .int .i64 ((atT ws cs a).words)]) rfl rfl rfl (new := #[.int .i64 ((atT ws cs a).hd.cls), .int .i64 ((atT ws cs a).hd.age), .int .i64 ((atT ws cs a).hd.fwd), .bool ((atT ws cs a).hd.mark), .bool ((atT ws cs a).hd.final), .bool ((atT ws cs a).hd.done), .int .i64 ((atT ws cs a).refs), .int .i64 ((atT ws cs a).data), .int .i64 ((atT ws cs a).words)]) rfl ?_
      intro w hp
      refine WL.run 1 rfl ?_
      refine WL.fin ?_
      refine W.ret ?_
      refine W.done hp (rs := [.cell 4 128, .tmp 5]) (vs := [.agg #[.int .i64 ((atT ws cs a).hd.cls), .int .i64 ((atT ws cs a).hd.age), .int .i64 ((atT ws cs a).hd.fwd), .bool ((atT ws cs a).hd.mark), .bool ((atT ws cs a).hd.final), .bool ((atT ws cs a).hd.done), .int .i64 ((atT ws cs a).refs), .int .i64 ((atT ws cs a).data), .int .i64 ((atT ws cs a).words)], .int .i64 (atE ws cs a)]) (v := .tuple #[.agg #[.int .i64 ((atT ws cs a).hd.cls), .int .i64 ((atT ws cs a).hd.age), .int .i64 ((atT ws cs a).hd.fwd), .bool ((atT ws cs a).hd.mark), .bool ((atT ws cs a).hd.final), .bool ((atT ws cs a).hd.done), .int .i64 ((atT ws cs a).refs), .int .i64 ((atT ws cs a).data), .int .i64 ((atT ws cs a).words)], .int .i64 (atE ws cs a)]) rfl ⟨⟨_, rfl, run_loadVarB hp 1 rfl tA128 tS128 (vs := [.int .i64 ((atT ws cs a).hd.cls), .int .i64 ((atT ws cs a).hd.age), .int .i64 ((atT ws cs a).hd.fwd), .bool ((atT ws cs a).hd.mark), .bool ((atT ws cs a).hd.final), .bool ((atT ws cs a).hd.done), .int .i64 ((atT ws cs a).refs), .int .i64 ((atT ws cs a).data), .int .i64 ((atT ws cs a).words)]) rfl⟩, rfl, trivial⟩ rfl ?_
      exact (by rw [show objE ws cs a = (objF ws cs a).1 from rfl, show objT ws cs a = (objF ws cs a).2 from rfl, objF_else (fun h => hc5 h.2)] <;> rfl)
    refine W.cT rfl (congrArg not (decide_eq_false hc5)) ?_
    refine W.sr ?_
    refine WL.v (X.bld (v := .agg #[.int .i64 0, .int .i64 0, .int .i64 0, .bool false, .bool false, .bool false, .int .i64 0, .int .i64 0, .int .i64 0]) rfl (by kernel_rfl)) ?_
    refine WL.store hp 1 rfl tS128 rfl rfl (vs := [.int .i64 0, .int .i64 0, .int .i64 0, .bool false, .bool false, .bool false, .int .i64 0, .int .i64 0, .int .i64 0]) rfl rfl rfl (new := #[.int .i64 0, .int .i64 0, .int .i64 0, .bool false, .bool false, .bool false, .int .i64 0, .int .i64 0, .int .i64 0]) rfl ?_
    intro w hp
    refine WL.run 1 rfl ?_
    refine WL.fin ?_
    refine W.ret ?_
    refine X.thenR ?_
    refine W.done hp (rs := [.cell 4 128, .tmp 5]) (vs := [.agg #[.int .i64 0, .int .i64 0, .int .i64 0, .bool false, .bool false, .bool false, .int .i64 0, .int .i64 0, .int .i64 0], .int .i64 5]) (v := .tuple #[.agg #[.int .i64 0, .int .i64 0, .int .i64 0, .bool false, .bool false, .bool false, .int .i64 0, .int .i64 0, .int .i64 0], .int .i64 5]) rfl ⟨⟨_, rfl, run_loadVarB hp 1 rfl tA128 tS128 (vs := [.int .i64 0, .int .i64 0, .int .i64 0, .bool false, .bool false, .bool false, .int .i64 0, .int .i64 0, .int .i64 0]) rfl⟩, rfl, trivial⟩ rfl ?_
    exact (by rw [show objE ws cs a = (objF ws cs a).1 from rfl, show objT ws cs a = (objF ws cs a).2 from rfl, objF_gap hc4 (Classical.not_not.1 hc5)] <;> rfl)
  refine WL.g0 rfl rfl (decide_eq_false hc4) rfl ?_
  refine WL.g0 rfl rfl (decide_eq_false hc4) rfl ?_
  refine WL.g0 rfl rfl (decide_eq_false hc4) rfl ?_
  refine WL.v (X.pkF rfl (decide_eq_false hc4) rfl) ?_
  refine WL.fin ?_
  refine W.cF rfl rfl ?_
  refine W.ks ?_
  refine WL.v (X.ldkA (hp.at 0 rfl) tA128 tS128 (vs := [.int .i64 ((atT ws cs a).hd.cls), .int .i64 ((atT ws cs a).hd.age), .int .i64 ((atT ws cs a).hd.fwd), .bool ((atT ws cs a).hd.mark), .bool ((atT ws cs a).hd.final), .bool ((atT ws cs a).hd.done), .int .i64 ((atT ws cs a).refs), .int .i64 ((atT ws cs a).data), .int .i64 ((atT ws cs a).words)]) rfl rfl) ?_
  refine WL.run 1 rfl ?_
  refine WL.store hp 1 rfl tS128 rfl rfl (vs := [.int .i64 ((atT ws cs a).hd.cls), .int .i64 ((atT ws cs a).hd.age), .int .i64 ((atT ws cs a).hd.fwd), .bool ((atT ws cs a).hd.mark), .bool ((atT ws cs a).hd.final), .bool ((atT ws cs a).hd.done), .int .i64 ((atT ws cs a).refs), .int .i64 ((atT ws cs a).data), .int .i64 ((atT ws cs a).words)]) rfl rfl rfl (new := #[.int .i64 ((atT ws cs a).hd.cls), .int .i64 ((atT ws cs a).hd.age), .int .i64 ((atT ws cs a).hd.fwd), .bool ((atT ws cs a).hd.mark), .bool ((atT ws cs a).hd.final), .bool ((atT ws cs a).hd.done), .int .i64 ((atT ws cs a).refs), .int .i64 ((atT ws cs a).data), .int .i64 ((atT ws cs a).words)]) rfl ?_
  intro w hp
  refine WL.run 1 rfl ?_
  refine WL.fin ?_
  refine W.ret ?_
  refine W.done hp (rs := [.cell 4 128, .tmp 5]) (vs := [.agg #[.int .i64 ((atT ws cs a).hd.cls), .int .i64 ((atT ws cs a).hd.age), .int .i64 ((atT ws cs a).hd.fwd), .bool ((atT ws cs a).hd.mark), .bool ((atT ws cs a).hd.final), .bool ((atT ws cs a).hd.done), .int .i64 ((atT ws cs a).refs), .int .i64 ((atT ws cs a).data), .int .i64 ((atT ws cs a).words)], .int .i64 (atE ws cs a)]) (v := .tuple #[.agg #[.int .i64 ((atT ws cs a).hd.cls), .int .i64 ((atT ws cs a).hd.age), .int .i64 ((atT ws cs a).hd.fwd), .bool ((atT ws cs a).hd.mark), .bool ((atT ws cs a).hd.final), .bool ((atT ws cs a).hd.done), .int .i64 ((atT ws cs a).refs), .int .i64 ((atT ws cs a).data), .int .i64 ((atT ws cs a).words)], .int .i64 (atE ws cs a)]) rfl ⟨⟨_, rfl, run_loadVarB hp 1 rfl tA128 tS128 (vs := [.int .i64 ((atT ws cs a).hd.cls), .int .i64 ((atT ws cs a).hd.age), .int .i64 ((atT ws cs a).hd.fwd), .bool ((atT ws cs a).hd.mark), .bool ((atT ws cs a).hd.final), .bool ((atT ws cs a).hd.done), .int .i64 ((atT ws cs a).refs), .int .i64 ((atT ws cs a).data), .int .i64 ((atT ws cs a).words)]) rfl⟩, rfl, trivial⟩ rfl ?_
  exact (by rw [show objE ws cs a = (objF ws cs a).1 from rfl, show objT ws cs a = (objF ws cs a).2 from rfl, objF_else (fun h => hc4 h.1)] <;> rfl)

theorem size_c {w0 : World} {p b t c : Nat} {ws : List Int} {cs : List Cls} {a : Int} (hA : (arenaR p b ws).ok w0) (hT : (tableR t c cs).ok w0)  :
    Calls Tryz.prog 72 #[.agg #[.pointer (some ⟨p, 0, none⟩), .pointer (some ⟨t, 0, none⟩)], .int .i64 a] w0 (Ret [] w0 (fun v _ => v = .tuple #[.int .i64 (atT ws cs a).words, .bool (decide ((atT ws cs a).hd.cls ≠ 0)), .int .i64 (atE ws cs a)])) := by
  have hp : Hp w0 [] [] w0 := Hp.init w0
  refine enter (vs := [.agg #[.pointer (some ⟨p, 0, none⟩), .pointer (some ⟨t, 0, none⟩)], .int .i64 a]) Tryz.func72 rfl rfl rfl ?_
  refine gen_world hp ?_
  intro w hp
  refine W.sr ?_
  refine WL.box hp rfl (cs := #[.pointer (some ⟨p, 0, none⟩), .pointer (some ⟨t, 0, none⟩)]) rfl rfl ?_
  intro b1 w hp
  refine WL.run 3 rfl ?_
  refine WL.a ?_
  refine WL.v (X.ldkA (hp.at 0 rfl) tA32 tS32 (vs := [.pointer (some ⟨p, 0, none⟩), .pointer (some ⟨t, 0, none⟩)]) rfl rfl) ?_
  refine WL.run 1 rfl ?_
  refine WL.call isFn88 rfl rfl (at_c (a := a) (hp.old0 hA) (hp.old0 hT)) ?_
  intro v w hc hr
  obtain rfl := hr
  have hp := hp.ext hc
  refine WL.run 3 rfl ?_
  refine WL.alloc hp tZ128 rfl ?_
  intro b2 w hp
  refine WL.store hp 0 rfl tS128 rfl rfl (vs := [.int .i64 ((atT ws cs a).hd.cls), .int .i64 ((atT ws cs a).hd.age), .int .i64 ((atT ws cs a).hd.fwd), .bool ((atT ws cs a).hd.mark), .bool ((atT ws cs a).hd.final), .bool ((atT ws cs a).hd.done), .int .i64 ((atT ws cs a).refs), .int .i64 ((atT ws cs a).data), .int .i64 ((atT ws cs a).words)]) rfl rfl rfl (new := #[.int .i64 ((atT ws cs a).hd.cls), .int .i64 ((atT ws cs a).hd.age), .int .i64 ((atT ws cs a).hd.fwd), .bool ((atT ws cs a).hd.mark), .bool ((atT ws cs a).hd.final), .bool ((atT ws cs a).hd.done), .int .i64 ((atT ws cs a).refs), .int .i64 ((atT ws cs a).data), .int .i64 ((atT ws cs a).words)]) rfl ?_
  intro w hp
  refine WL.run 1 rfl ?_
  refine WL.s ?_
  refine W.draw prog_mixed (fun w => (blkR b2 (.cells (#[.int .i64 ((atT ws cs a).hd.cls), .int .i64 ((atT ws cs a).hd.age), .int .i64 ((atT ws cs a).hd.fwd), .bool ((atT ws cs a).hd.mark), .bool ((atT ws cs a).hd.final), .bool ((atT ws cs a).hd.done), .int .i64 ((atT ws cs a).refs), .int .i64 ((atT ws cs a).data), .int .i64 ((atT ws cs a).words)]) 128 (0, 0))).ok w ∧ (blkR b1 (.cells (#[.pointer (some ⟨p, 0, none⟩), .pointer (some ⟨t, 0, none⟩)]) 32 (0, 0))).ok w ∧ (arenaR p b ws).ok w ∧ (tableR t c cs).ok w ∧ True) hp ?_
  intro w hp
  refine WD.s ⟨hp.at 0 rfl, hp.at 1 rfl, hp.old0 hA, hp.old0 hT, trivial⟩ fun hS0 => ?_
  refine WD.v 0 rfl hS0 (fun w hS => (X.fa (r := 8) tF128_3 rfl rfl)) ?_
  refine WD.v 1 rfl hS0 (fun w hS => (X.ldk hS.1 tA3 rfl rfl)) ?_
  refine WD.v 2 rfl hS0 (fun w hS => (X.ldkA hS.1 tA128 tS128 (vs := [.int .i64 ((atT ws cs a).hd.cls), .int .i64 ((atT ws cs a).hd.age), .int .i64 ((atT ws cs a).hd.fwd), .bool ((atT ws cs a).hd.mark), .bool ((atT ws cs a).hd.final), .bool ((atT ws cs a).hd.done), .int .i64 ((atT ws cs a).refs), .int .i64 ((atT ws cs a).data), .int .i64 ((atT ws cs a).words)]) rfl rfl)) ?_
  refine WD.v 4 rfl hS0 (fun w hS => (X.mv rfl)) ?_
  refine WD.one 3 (by kernel_rfl) ?_
  refine WO.call rfl isFn89 rfl rfl (is_c (x := (atT ws cs a))) ?_
  intro v w hc hr
  obtain rfl := hr
  have hp := hp.ext hc
  refine andS ⟨hp.at 0 rfl, hp.at 1 rfl, hp.old0 hA, hp.old0 hT, trivial⟩ fun hS0 => ?_
  refine WD.v 5 rfl hS0 (fun w hS => (X.as rfl)) ?_
  refine WD.v 6 rfl hS0 (fun w hS => (X.as rfl)) ?_
  refine WD.v 7 rfl hS0 (fun w hS => (X.as rfl)) ?_
  refine WD.nil (by kernel_rfl) ?_
  refine X.thenN ?_
  refine W.ret ?_
  refine W.done hp (rs := [.tmp 4, .tmp 5, .tmp 6]) (vs := [.int .i64 ((atT ws cs a).words), .bool (decide (((atT ws cs a).hd.cls) ≠ 0)), .int .i64 (atE ws cs a)]) (v := .tuple #[.int .i64 ((atT ws cs a).words), .bool (decide (((atT ws cs a).hd.cls) ≠ 0)), .int .i64 (atE ws cs a)]) rfl ⟨rfl, rfl, rfl, trivial⟩ rfl ?_
  exact rfl

theorem shape_c {w0 : World} {p b t c : Nat} {ws : List Int} {cs : List Cls} {a : Int} (hA : (arenaR p b ws).ok w0) (hT : (tableR t c cs).ok w0)  :
    Calls Tryz.prog 20 #[.agg #[.pointer (some ⟨p, 0, none⟩), .pointer (some ⟨t, 0, none⟩)], .int .i64 a] w0 (Ret [] w0 (fun v _ => v = .tuple #[.int .i64 (objT ws cs a).refs, .int .i64 (objT ws cs a).data, .int .i64 (objE ws cs a)])) := by
  have hp : Hp w0 [] [] w0 := Hp.init w0
  refine enter (vs := [.agg #[.pointer (some ⟨p, 0, none⟩), .pointer (some ⟨t, 0, none⟩)], .int .i64 a]) Tryz.func20 rfl rfl rfl ?_
  refine gen_world hp ?_
  intro w hp
  refine W.sr ?_
  refine WL.box hp rfl (cs := #[.pointer (some ⟨p, 0, none⟩), .pointer (some ⟨t, 0, none⟩)]) rfl rfl ?_
  intro b1 w hp
  refine WL.run 3 rfl ?_
  refine WL.a ?_
  refine WL.v (X.ldkA (hp.at 0 rfl) tA32 tS32 (vs := [.pointer (some ⟨p, 0, none⟩), .pointer (some ⟨t, 0, none⟩)]) rfl rfl) ?_
  refine WL.run 1 rfl ?_
  refine WL.call isFn61 rfl rfl (object_c (a := a) (hp.old0 hA) (hp.old0 hT)) ?_
  intro v w hc hr
  obtain rfl := hr
  have hp := hp.ext hc
  refine WL.run 3 rfl ?_
  refine WL.alloc hp tZ128 rfl ?_
  intro b2 w hp
  refine WL.store hp 0 rfl tS128 rfl rfl (vs := [.int .i64 ((objT ws cs a).hd.cls), .int .i64 ((objT ws cs a).hd.age), .int .i64 ((objT ws cs a).hd.fwd), .bool ((objT ws cs a).hd.mark), .bool ((objT ws cs a).hd.final), .bool ((objT ws cs a).hd.done), .int .i64 ((objT ws cs a).refs), .int .i64 ((objT ws cs a).data), .int .i64 ((objT ws cs a).words)]) rfl rfl rfl (new := #[.int .i64 ((objT ws cs a).hd.cls), .int .i64 ((objT ws cs a).hd.age), .int .i64 ((objT ws cs a).hd.fwd), .bool ((objT ws cs a).hd.mark), .bool ((objT ws cs a).hd.final), .bool ((objT ws cs a).hd.done), .int .i64 ((objT ws cs a).refs), .int .i64 ((objT ws cs a).data), .int .i64 ((objT ws cs a).words)]) rfl ?_
  intro w hp
  refine WL.run 1 rfl ?_
  refine WL.s ?_
  refine W.draw prog_mixed (fun w => (blkR b2 (.cells (#[.int .i64 ((objT ws cs a).hd.cls), .int .i64 ((objT ws cs a).hd.age), .int .i64 ((objT ws cs a).hd.fwd), .bool ((objT ws cs a).hd.mark), .bool ((objT ws cs a).hd.final), .bool ((objT ws cs a).hd.done), .int .i64 ((objT ws cs a).refs), .int .i64 ((objT ws cs a).data), .int .i64 ((objT ws cs a).words)]) 128 (0, 0))).ok w ∧ (blkR b1 (.cells (#[.pointer (some ⟨p, 0, none⟩), .pointer (some ⟨t, 0, none⟩)]) 32 (0, 0))).ok w ∧ (arenaR p b ws).ok w ∧ (tableR t c cs).ok w ∧ True) hp ?_
  intro w hp
  refine WD.s ⟨hp.at 0 rfl, hp.at 1 rfl, hp.old0 hA, hp.old0 hT, trivial⟩ fun hS0 => ?_
  refine WD.v 0 rfl hS0 (fun w hS => (X.fa (r := 6) tF128_1 rfl rfl)) ?_
  refine WD.v 1 rfl hS0 (fun w hS => (X.ldk hS.1 tA3 rfl rfl)) ?_
  refine WD.v 2 rfl hS0 (fun w hS => (X.fa (r := 7) tF128_2 rfl rfl)) ?_
  refine WD.v 3 rfl hS0 (fun w hS => (X.ldk hS.1 tA3 rfl rfl)) ?_
  refine WD.v 4 rfl hS0 (fun w hS => (X.mv rfl)) ?_
  refine WD.v 5 rfl hS0 (fun w hS => (X.as rfl)) ?_
  refine WD.v 6 rfl hS0 (fun w hS => (X.as rfl)) ?_
  refine WD.v 7 rfl hS0 (fun w hS => (X.as rfl)) ?_
  refine WD.nil (by kernel_rfl) ?_
  refine X.thenN ?_
  refine W.ret ?_
  refine W.done hp (rs := [.tmp 4, .tmp 5, .tmp 6]) (vs := [.int .i64 ((objT ws cs a).refs), .int .i64 ((objT ws cs a).data), .int .i64 (objE ws cs a)]) (v := .tuple #[.int .i64 ((objT ws cs a).refs), .int .i64 ((objT ws cs a).data), .int .i64 (objE ws cs a)]) rfl ⟨rfl, rfl, rfl, trivial⟩ rfl ?_
  exact rfl

theorem head_c {w0 : World} {p b t c : Nat} {ws : List Int} {cs : List Cls} {a : Int} (hA : (arenaR p b ws).ok w0) (hT : (tableR t c cs).ok w0)  :
    Calls Tryz.prog 58 #[.agg #[.pointer (some ⟨p, 0, none⟩), .pointer (some ⟨t, 0, none⟩)], .int .i64 a] w0 (Ret [] w0 (fun v _ => v = .tuple #[.agg #[.int .i64 ((objT ws cs a).hd.cls), .int .i64 ((objT ws cs a).hd.age), .int .i64 ((objT ws cs a).hd.fwd), .bool ((objT ws cs a).hd.mark), .bool ((objT ws cs a).hd.final), .bool ((objT ws cs a).hd.done)], .int .i64 (objE ws cs a)])) := by
  have hp : Hp w0 [] [] w0 := Hp.init w0
  refine enter (vs := [.agg #[.pointer (some ⟨p, 0, none⟩), .pointer (some ⟨t, 0, none⟩)], .int .i64 a]) Tryz.func58 rfl rfl rfl ?_
  refine gen_world hp ?_
  intro w hp
  refine W.sr ?_
  refine WL.box hp rfl (cs := #[.pointer (some ⟨p, 0, none⟩), .pointer (some ⟨t, 0, none⟩)]) rfl rfl ?_
  intro b1 w hp
  refine WL.alloc hp tZ123 rfl ?_
  intro b2 w hp
  refine WL.run 1 rfl ?_
  refine WL.a ?_
  refine WL.v (X.ldkA (hp.at 1 rfl) tA32 tS32 (vs := [.pointer (some ⟨p, 0, none⟩), .pointer (some ⟨t, 0, none⟩)]) rfl rfl) ?_
  refine WL.run 1 rfl ?_
  refine WL.call isFn61 rfl rfl (object_c (a := a) (hp.old0 hA) (hp.old0 hT)) ?_
  intro v w hc hr
  obtain rfl := hr
  have hp := hp.ext hc
  refine WL.run 3 rfl ?_
  refine WL.alloc hp tZ128 rfl ?_
  intro b3 w hp
  refine WL.store hp 0 rfl tS128 rfl rfl (vs := [.int .i64 ((objT ws cs a).hd.cls), .int .i64 ((objT ws cs a).hd.age), .int .i64 ((objT ws cs a).hd.fwd), .bool ((objT ws cs a).hd.mark), .bool ((objT ws cs a).hd.final), .bool ((objT ws cs a).hd.done), .int .i64 ((objT ws cs a).refs), .int .i64 ((objT ws cs a).data), .int .i64 ((objT ws cs a).words)]) rfl rfl rfl (new := #[.int .i64 ((objT ws cs a).hd.cls), .int .i64 ((objT ws cs a).hd.age), .int .i64 ((objT ws cs a).hd.fwd), .bool ((objT ws cs a).hd.mark), .bool ((objT ws cs a).hd.final), .bool ((objT ws cs a).hd.done), .int .i64 ((objT ws cs a).refs), .int .i64 ((objT ws cs a).data), .int .i64 ((objT ws cs a).words)]) rfl ?_
  intro w hp
  refine WL.run 1 rfl ?_
  refine WL.a ?_
  refine WL.run 1 rfl ?_
  refine WL.v (X.ldkA (hp.at 0 rfl) tA123 tS123 (vs := [.int .i64 ((objT ws cs a).hd.cls), .int .i64 ((objT ws cs a).hd.age), .int .i64 ((objT ws cs a).hd.fwd), .bool ((objT ws cs a).hd.mark), .bool ((objT ws cs a).hd.final), .bool ((objT ws cs a).hd.done)]) rfl rfl) ?_
  refine WL.run 1 rfl ?_
  refine WL.store hp 1 rfl tS123 rfl rfl (vs := [.int .i64 ((objT ws cs a).hd.cls), .int .i64 ((objT ws cs a).hd.age), .int .i64 ((objT ws cs a).hd.fwd), .bool ((objT ws cs a).hd.mark), .bool ((objT ws cs a).hd.final), .bool ((objT ws cs a).hd.done)]) rfl rfl rfl (new := #[.int .i64 ((objT ws cs a).hd.cls), .int .i64 ((objT ws cs a).hd.age), .int .i64 ((objT ws cs a).hd.fwd), .bool ((objT ws cs a).hd.mark), .bool ((objT ws cs a).hd.final), .bool ((objT ws cs a).hd.done)]) rfl ?_
  intro w hp
  refine WL.run 1 rfl ?_
  refine WL.fin ?_
  refine W.ret ?_
  refine W.done hp (rs := [.cell 4 123, .tmp 5]) (vs := [.agg #[.int .i64 ((objT ws cs a).hd.cls), .int .i64 ((objT ws cs a).hd.age), .int .i64 ((objT ws cs a).hd.fwd), .bool ((objT ws cs a).hd.mark), .bool ((objT ws cs a).hd.final), .bool ((objT ws cs a).hd.done)], .int .i64 (objE ws cs a)]) (v := .tuple #[.agg #[.int .i64 ((objT ws cs a).hd.cls), .int .i64 ((objT ws cs a).hd.age), .int .i64 ((objT ws cs a).hd.fwd), .bool ((objT ws cs a).hd.mark), .bool ((objT ws cs a).hd.final), .bool ((objT ws cs a).hd.done)], .int .i64 (objE ws cs a)]) rfl ⟨⟨_, rfl, run_loadVarB hp 1 rfl tA123 tS123 (vs := [.int .i64 ((objT ws cs a).hd.cls), .int .i64 ((objT ws cs a).hd.age), .int .i64 ((objT ws cs a).hd.fwd), .bool ((objT ws cs a).hd.mark), .bool ((objT ws cs a).hd.final), .bool ((objT ws cs a).hd.done)]) rfl⟩, rfl, trivial⟩ rfl ?_
  exact rfl

theorem slot_c {w0 : World} {p b t c : Nat} {ws : List Int} {cs : List Cls} {a f : Int} (hA : (arenaR p b ws).ok w0) (hT : (tableR t c cs).ok w0)  :
    Calls Tryz.prog 62 #[.agg #[.pointer (some ⟨p, 0, none⟩), .pointer (some ⟨t, 0, none⟩)], .int .i64 a, .int .i64 f] w0 (Ret [] w0 (fun v _ => (refE ws cs a f = 0 ∧ v = .tuple #[.int .i64 (a + 2 + f), .int .i64 0]) ∨ (refE ws cs a f ≠ 0 ∧ ∃ x, v = .tuple #[.int .i64 x, .int .i64 (refE ws cs a f)]))) := by
  have hp : Hp w0 [] [] w0 := Hp.init w0
  refine enter (vs := [.agg #[.pointer (some ⟨p, 0, none⟩), .pointer (some ⟨t, 0, none⟩)], .int .i64 a, .int .i64 f]) Tryz.func62 rfl rfl rfl ?_
  refine gen_world hp ?_
  intro w hp
  refine W.sr ?_
  refine WL.box hp rfl (cs := #[.pointer (some ⟨p, 0, none⟩), .pointer (some ⟨t, 0, none⟩)]) rfl rfl ?_
  intro b1 w hp
  refine WL.run 2 rfl ?_
  refine WL.a ?_
  refine WL.v (X.ldkA (hp.at 0 rfl) tA32 tS32 (vs := [.pointer (some ⟨p, 0, none⟩), .pointer (some ⟨t, 0, none⟩)]) rfl rfl) ?_
  refine WL.run 1 rfl ?_
  refine WL.call isFn61 rfl rfl (object_c (a := a) (hp.old0 hA) (hp.old0 hT)) ?_
  intro v w hc hr
  obtain rfl := hr
  have hp := hp.ext hc
  refine WL.run 3 rfl ?_
  refine WL.alloc hp tZ128 rfl ?_
  intro b2 w hp
  refine WL.store hp 0 rfl tS128 rfl rfl (vs := [.int .i64 ((objT ws cs a).hd.cls), .int .i64 ((objT ws cs a).hd.age), .int .i64 ((objT ws cs a).hd.fwd), .bool ((objT ws cs a).hd.mark), .bool ((objT ws cs a).hd.final), .bool ((objT ws cs a).hd.done), .int .i64 ((objT ws cs a).refs), .int .i64 ((objT ws cs a).data), .int .i64 ((objT ws cs a).words)]) rfl rfl rfl (new := #[.int .i64 ((objT ws cs a).hd.cls), .int .i64 ((objT ws cs a).hd.age), .int .i64 ((objT ws cs a).hd.fwd), .bool ((objT ws cs a).hd.mark), .bool ((objT ws cs a).hd.final), .bool ((objT ws cs a).hd.done), .int .i64 ((objT ws cs a).refs), .int .i64 ((objT ws cs a).data), .int .i64 ((objT ws cs a).words)]) rfl ?_
  intro w hp
  refine WL.run 1 rfl ?_
  refine WL.s ?_
  refine W.sr ?_
  refine WL.run 3 rfl ?_
  by_cases hc3 : (objE ws cs a) = 0
  · refine WL.g1 rfl rfl (decide_eq_true hc3) ?_
    refine WL.run 1 rfl ?_
    refine WL.g1 rfl rfl (decide_eq_true hc3) ?_
    refine WL.run 1 rfl ?_
    refine WL.g1 rfl rfl (decide_eq_true hc3) ?_
    refine WL.run 1 rfl ?_
    by_cases hc4 : f < 0
    · refine WL.g0 rfl rfl (decide_eq_true hc4) rfl ?_
      refine WL.g0 rfl rfl (decide_eq_true hc4) rfl ?_
      refine WL.g0 rfl rfl (decide_eq_true hc4) rfl ?_
      refine WL.g0 rfl rfl (decide_eq_true hc4) rfl ?_
      refine WL.g1 rfl rfl (decide_eq_true hc3) ?_
      refine WL.v (X.pkT rfl (decide_eq_true hc4) rfl) ?_
      refine WL.v (X.pkT rfl (decide_eq_true hc3) rfl) ?_
      refine WL.fin ?_
      refine W.cT rfl rfl ?_
      refine W.reg ?_
      refine WL.run 1 rfl ?_
      refine WL.a ?_
      refine WL.run 1 rfl ?_
      refine WL.v (X.bin (v := .int .i64 (IntKind.i64.wrap (a + 2))) rfl rfl (by simp [binOp, Op.intArith])) ?_
      refine WL.run 1 rfl ?_
      refine WL.v (X.bin (v := .int .i64 (IntKind.i64.wrap (IntKind.i64.wrap (a + 2) + f))) rfl rfl (by simp [binOp, Op.intArith])) ?_
      refine WL.run 3 rfl ?_
      refine WL.fin ?_
      refine W.ret ?_
      refine W.done hp (rs := [.tmp 6, .tmp 7]) (vs := [.int .i64 (IntKind.i64.wrap (IntKind.i64.wrap (a + 2) + f)), .int .i64 1]) (v := .tuple #[.int .i64 (IntKind.i64.wrap (IntKind.i64.wrap (a + 2) + f)), .int .i64 1]) rfl ⟨rfl, rfl, trivial⟩ rfl ?_
      exact .inr ⟨by unfold refE; rw [if_neg (not_not_intro hc3), if_pos (by omega)]; decide, _, by rw [show refE ws cs a f = 1 from by unfold refE; rw [if_neg (not_not_intro hc3), if_pos (by omega)]]⟩
    refine WL.g1 rfl rfl (decide_eq_false hc4) ?_
    refine WL.run 1 rfl ?_
    refine WL.g1 rfl rfl (decide_eq_false hc4) ?_
    refine WL.run 1 rfl ?_
    refine WL.g1 rfl rfl (decide_eq_false hc4) ?_
    refine WL.v (X.ldk (hp.at 0 rfl) tA3 rfl rfl) ?_
    refine WL.g1 rfl rfl (decide_eq_false hc4) ?_
    refine WL.run 1 rfl ?_
    refine WL.g1 rfl rfl (decide_eq_true hc3) ?_
    refine WL.v (X.pkF rfl (decide_eq_false hc4) rfl) ?_
    refine WL.v (X.pkT rfl (decide_eq_true hc3) rfl) ?_
    refine WL.fin ?_
    by_cases hc5 : ((objT ws cs a).refs) ≤ f
    · refine W.cT rfl (decide_eq_true hc5) ?_
      refine W.reg ?_
      refine WL.run 1 rfl ?_
      refine WL.a ?_
      refine WL.run 1 rfl ?_
      refine WL.v (X.bin (v := .int .i64 (IntKind.i64.wrap (a + 2))) rfl rfl (by simp [binOp, Op.intArith])) ?_
      refine WL.run 1 rfl ?_
      refine WL.v (X.bin (v := .int .i64 (IntKind.i64.wrap (IntKind.i64.wrap (a + 2) + f))) rfl rfl (by simp [binOp, Op.intArith])) ?_
      refine WL.run 3 rfl ?_
      refine WL.fin ?_
      refine W.ret ?_
      refine W.done hp (rs := [.tmp 6, .tmp 7]) (vs := [.int .i64 (IntKind.i64.wrap (IntKind.i64.wrap (a + 2) + f)), .int .i64 1]) (v := .tuple #[.int .i64 (IntKind.i64.wrap (IntKind.i64.wrap (a + 2) + f)), .int .i64 1]) rfl ⟨rfl, rfl, trivial⟩ rfl ?_
      exact .inr ⟨by unfold refE; rw [if_neg (not_not_intro hc3), if_pos (by omega)]; decide, _, by rw [show refE ws cs a f = 1 from by unfold refE; rw [if_neg (not_not_intro hc3), if_pos (by omega)]]⟩
    refine W.cF rfl (decide_eq_false hc5) ?_
    refine W.ks ?_
    refine WL.run 1 rfl ?_
    refine WL.v (X.bin (v := .int .i64 (IntKind.i64.wrap (a + 2))) rfl rfl (by simp [binOp, Op.intArith])) ?_
    refine WL.run 1 rfl ?_
    refine WL.v (X.bin (v := .int .i64 (IntKind.i64.wrap (IntKind.i64.wrap (a + 2) + f))) rfl rfl (by simp [binOp, Op.intArith])) ?_
    refine WL.run 3 rfl ?_
    refine WL.fin ?_
    refine W.ret ?_
    refine W.done hp (rs := [.tmp 6, .tmp 7]) (vs := [.int .i64 (IntKind.i64.wrap (IntKind.i64.wrap (a + 2) + f)), .int .i64 (objE ws cs a)]) (v := .tuple #[.int .i64 (IntKind.i64.wrap (IntKind.i64.wrap (a + 2) + f)), .int .i64 (objE ws cs a)]) rfl ⟨rfl, rfl, trivial⟩ rfl ?_
    have hb := objT_bd (table_all hT) hc3
    have hsm := arena_small hA
    have e1 : IntKind.i64.wrap (a + 2) = a + 2 := wrap_in64 (in64 (by omega))
    have e2 : IntKind.i64.wrap (a + 2 + f) = a + 2 + f := wrap_in64 (in64 (by omega))
    exact .inl ⟨by unfold refE; rw [if_neg (not_not_intro hc3), if_neg (by omega)], by rw [e1, e2, hc3]⟩
  refine WL.g0 rfl rfl (decide_eq_false hc3) rfl ?_
  refine WL.g0 rfl rfl (decide_eq_false hc3) rfl ?_
  refine WL.g0 rfl rfl (decide_eq_false hc3) rfl ?_
  refine WL.gu rfl rfl rfl ?_
  refine WL.gu rfl rfl rfl ?_
  refine WL.gu rfl rfl rfl ?_
  refine WL.gu rfl rfl rfl ?_
  refine WL.g0 rfl rfl (decide_eq_false hc3) rfl ?_
  refine WL.v (X.pkF rfl (decide_eq_false hc3) rfl) ?_
  refine WL.fin ?_
  refine W.cF rfl rfl ?_
  refine W.ks ?_
  refine WL.run 1 rfl ?_
  refine WL.v (X.bin (v := .int .i64 (IntKind.i64.wrap (a + 2))) rfl rfl (by simp [binOp, Op.intArith])) ?_
  refine WL.run 1 rfl ?_
  refine WL.v (X.bin (v := .int .i64 (IntKind.i64.wrap (IntKind.i64.wrap (a + 2) + f))) rfl rfl (by simp [binOp, Op.intArith])) ?_
  refine WL.run 3 rfl ?_
  refine WL.fin ?_
  refine W.ret ?_
  refine W.done hp (rs := [.tmp 6, .tmp 7]) (vs := [.int .i64 (IntKind.i64.wrap (IntKind.i64.wrap (a + 2) + f)), .int .i64 (objE ws cs a)]) (v := .tuple #[.int .i64 (IntKind.i64.wrap (IntKind.i64.wrap (a + 2) + f)), .int .i64 (objE ws cs a)]) rfl ⟨rfl, rfl, trivial⟩ rfl ?_
  exact .inr ⟨by unfold refE; rw [if_pos hc3]; exact hc3, _, by rw [show refE ws cs a f = objE ws cs a from by unfold refE; rw [if_pos hc3]]⟩

theorem cell_c {w0 : World} {p b t c : Nat} {ws : List Int} {cs : List Cls} {a f : Int} (hA : (arenaR p b ws).ok w0) (hT : (tableR t c cs).ok w0)  :
    Calls Tryz.prog 87 #[.agg #[.pointer (some ⟨p, 0, none⟩), .pointer (some ⟨t, 0, none⟩)], .int .i64 a, .int .i64 f] w0 (Ret [] w0 (fun v _ => (numE ws cs a f = 0 ∧ v = .tuple #[.int .i64 (a + 2 + (objT ws cs a).refs + f), .int .i64 0]) ∨ (numE ws cs a f ≠ 0 ∧ ∃ x, v = .tuple #[.int .i64 x, .int .i64 (numE ws cs a f)]))) := by
  have hp : Hp w0 [] [] w0 := Hp.init w0
  refine enter (vs := [.agg #[.pointer (some ⟨p, 0, none⟩), .pointer (some ⟨t, 0, none⟩)], .int .i64 a, .int .i64 f]) Tryz.func87 rfl rfl rfl ?_
  refine gen_world hp ?_
  intro w hp
  refine W.sr ?_
  refine WL.box hp rfl (cs := #[.pointer (some ⟨p, 0, none⟩), .pointer (some ⟨t, 0, none⟩)]) rfl rfl ?_
  intro b1 w hp
  refine WL.run 2 rfl ?_
  refine WL.a ?_
  refine WL.v (X.ldkA (hp.at 0 rfl) tA32 tS32 (vs := [.pointer (some ⟨p, 0, none⟩), .pointer (some ⟨t, 0, none⟩)]) rfl rfl) ?_
  refine WL.run 1 rfl ?_
  refine WL.call isFn61 rfl rfl (object_c (a := a) (hp.old0 hA) (hp.old0 hT)) ?_
  intro v w hc hr
  obtain rfl := hr
  have hp := hp.ext hc
  refine WL.run 3 rfl ?_
  refine WL.alloc hp tZ128 rfl ?_
  intro b2 w hp
  refine WL.store hp 0 rfl tS128 rfl rfl (vs := [.int .i64 ((objT ws cs a).hd.cls), .int .i64 ((objT ws cs a).hd.age), .int .i64 ((objT ws cs a).hd.fwd), .bool ((objT ws cs a).hd.mark), .bool ((objT ws cs a).hd.final), .bool ((objT ws cs a).hd.done), .int .i64 ((objT ws cs a).refs), .int .i64 ((objT ws cs a).data), .int .i64 ((objT ws cs a).words)]) rfl rfl rfl (new := #[.int .i64 ((objT ws cs a).hd.cls), .int .i64 ((objT ws cs a).hd.age), .int .i64 ((objT ws cs a).hd.fwd), .bool ((objT ws cs a).hd.mark), .bool ((objT ws cs a).hd.final), .bool ((objT ws cs a).hd.done), .int .i64 ((objT ws cs a).refs), .int .i64 ((objT ws cs a).data), .int .i64 ((objT ws cs a).words)]) rfl ?_
  intro w hp
  refine WL.run 1 rfl ?_
  refine WL.s ?_
  refine W.sr ?_
  refine WL.run 3 rfl ?_
  by_cases hc3 : (objE ws cs a) = 0
  · refine WL.g1 rfl rfl (decide_eq_true hc3) ?_
    refine WL.run 1 rfl ?_
    refine WL.g1 rfl rfl (decide_eq_true hc3) ?_
    refine WL.run 1 rfl ?_
    refine WL.g1 rfl rfl (decide_eq_true hc3) ?_
    refine WL.run 1 rfl ?_
    by_cases hc4 : f < 0
    · refine WL.g0 rfl rfl (decide_eq_true hc4) rfl ?_
      refine WL.g0 rfl rfl (decide_eq_true hc4) rfl ?_
      refine WL.g0 rfl rfl (decide_eq_true hc4) rfl ?_
      refine WL.g0 rfl rfl (decide_eq_true hc4) rfl ?_
      refine WL.g1 rfl rfl (decide_eq_true hc3) ?_
      refine WL.v (X.pkT rfl (decide_eq_true hc4) rfl) ?_
      refine WL.v (X.pkT rfl (decide_eq_true hc3) rfl) ?_
      refine WL.fin ?_
      refine W.cT rfl rfl ?_
      refine W.reg ?_
      refine WL.run 1 rfl ?_
      refine WL.a ?_
      refine WL.run 1 rfl ?_
      refine WL.v (X.bin (v := .int .i64 (IntKind.i64.wrap (a + 2))) rfl rfl (by simp [binOp, Op.intArith])) ?_
      refine WL.run 1 rfl ?_
      refine WL.v (X.ldk (hp.at 0 rfl) tA3 rfl rfl) ?_
      refine WL.v (X.bin (v := .int .i64 (IntKind.i64.wrap (IntKind.i64.wrap (a + 2) + (objT ws cs a).refs))) rfl rfl (by simp [binOp, Op.intArith])) ?_
      refine WL.run 1 rfl ?_
      refine WL.v (X.bin (v := .int .i64 (IntKind.i64.wrap (IntKind.i64.wrap (IntKind.i64.wrap (a + 2) + (objT ws cs a).refs) + f))) rfl rfl (by simp [binOp, Op.intArith])) ?_
      refine WL.run 3 rfl ?_
      refine WL.fin ?_
      refine W.ret ?_
      refine W.done hp (rs := [.tmp 6, .tmp 7]) (vs := [.int .i64 (IntKind.i64.wrap (IntKind.i64.wrap (IntKind.i64.wrap (a + 2) + (objT ws cs a).refs) + f)), .int .i64 1]) (v := .tuple #[.int .i64 (IntKind.i64.wrap (IntKind.i64.wrap (IntKind.i64.wrap (a + 2) + (objT ws cs a).refs) + f)), .int .i64 1]) rfl ⟨rfl, rfl, trivial⟩ rfl ?_
      exact .inr ⟨by unfold numE; rw [if_neg (not_not_intro hc3), if_pos (by omega)]; decide, _, by rw [show numE ws cs a f = 1 from by unfold numE; rw [if_neg (not_not_intro hc3), if_pos (by omega)]]⟩
    refine WL.g1 rfl rfl (decide_eq_false hc4) ?_
    refine WL.run 1 rfl ?_
    refine WL.g1 rfl rfl (decide_eq_false hc4) ?_
    refine WL.run 1 rfl ?_
    refine WL.g1 rfl rfl (decide_eq_false hc4) ?_
    refine WL.v (X.ldk (hp.at 0 rfl) tA3 rfl rfl) ?_
    refine WL.g1 rfl rfl (decide_eq_false hc4) ?_
    refine WL.run 1 rfl ?_
    refine WL.g1 rfl rfl (decide_eq_true hc3) ?_
    refine WL.v (X.pkF rfl (decide_eq_false hc4) rfl) ?_
    refine WL.v (X.pkT rfl (decide_eq_true hc3) rfl) ?_
    refine WL.fin ?_
    by_cases hc5 : ((objT ws cs a).data) ≤ f
    · refine W.cT rfl (decide_eq_true hc5) ?_
      refine W.reg ?_
      refine WL.run 1 rfl ?_
      refine WL.a ?_
      refine WL.run 1 rfl ?_
      refine WL.v (X.bin (v := .int .i64 (IntKind.i64.wrap (a + 2))) rfl rfl (by simp [binOp, Op.intArith])) ?_
      refine WL.run 1 rfl ?_
      refine WL.v (X.ldk (hp.at 0 rfl) tA3 rfl rfl) ?_
      refine WL.v (X.bin (v := .int .i64 (IntKind.i64.wrap (IntKind.i64.wrap (a + 2) + (objT ws cs a).refs))) rfl rfl (by simp [binOp, Op.intArith])) ?_
      refine WL.run 1 rfl ?_
      refine WL.v (X.bin (v := .int .i64 (IntKind.i64.wrap (IntKind.i64.wrap (IntKind.i64.wrap (a + 2) + (objT ws cs a).refs) + f))) rfl rfl (by simp [binOp, Op.intArith])) ?_
      refine WL.run 3 rfl ?_
      refine WL.fin ?_
      refine W.ret ?_
      refine W.done hp (rs := [.tmp 6, .tmp 7]) (vs := [.int .i64 (IntKind.i64.wrap (IntKind.i64.wrap (IntKind.i64.wrap (a + 2) + (objT ws cs a).refs) + f)), .int .i64 1]) (v := .tuple #[.int .i64 (IntKind.i64.wrap (IntKind.i64.wrap (IntKind.i64.wrap (a + 2) + (objT ws cs a).refs) + f)), .int .i64 1]) rfl ⟨rfl, rfl, trivial⟩ rfl ?_
      exact .inr ⟨by unfold numE; rw [if_neg (not_not_intro hc3), if_pos (by omega)]; decide, _, by rw [show numE ws cs a f = 1 from by unfold numE; rw [if_neg (not_not_intro hc3), if_pos (by omega)]]⟩
    refine W.cF rfl (decide_eq_false hc5) ?_
    refine W.ks ?_
    refine WL.run 1 rfl ?_
    refine WL.v (X.bin (v := .int .i64 (IntKind.i64.wrap (a + 2))) rfl rfl (by simp [binOp, Op.intArith])) ?_
    refine WL.run 1 rfl ?_
    refine WL.v (X.ldk (hp.at 0 rfl) tA3 rfl rfl) ?_
    refine WL.v (X.bin (v := .int .i64 (IntKind.i64.wrap (IntKind.i64.wrap (a + 2) + (objT ws cs a).refs))) rfl rfl (by simp [binOp, Op.intArith])) ?_
    refine WL.run 1 rfl ?_
    refine WL.v (X.bin (v := .int .i64 (IntKind.i64.wrap (IntKind.i64.wrap (IntKind.i64.wrap (a + 2) + (objT ws cs a).refs) + f))) rfl rfl (by simp [binOp, Op.intArith])) ?_
    refine WL.run 3 rfl ?_
    refine WL.fin ?_
    refine W.ret ?_
    refine W.done hp (rs := [.tmp 6, .tmp 7]) (vs := [.int .i64 (IntKind.i64.wrap (IntKind.i64.wrap (IntKind.i64.wrap (a + 2) + (objT ws cs a).refs) + f)), .int .i64 (objE ws cs a)]) (v := .tuple #[.int .i64 (IntKind.i64.wrap (IntKind.i64.wrap (IntKind.i64.wrap (a + 2) + (objT ws cs a).refs) + f)), .int .i64 (objE ws cs a)]) rfl ⟨rfl, rfl, trivial⟩ rfl ?_
    have hb := objT_bd (table_all hT) hc3
    have hsm := arena_small hA
    have e1 : IntKind.i64.wrap (a + 2) = a + 2 := wrap_in64 (in64 (by omega))
    have e2 : IntKind.i64.wrap (a + 2 + (objT ws cs a).refs) = a + 2 + (objT ws cs a).refs := wrap_in64 (in64 (by omega))
    have e3 : IntKind.i64.wrap (a + 2 + (objT ws cs a).refs + f) = a + 2 + (objT ws cs a).refs + f := wrap_in64 (in64 (by omega))
    exact .inl ⟨by unfold numE; rw [if_neg (not_not_intro hc3), if_neg (by omega)], by rw [e1, e2, e3, hc3]⟩
  refine WL.g0 rfl rfl (decide_eq_false hc3) rfl ?_
  refine WL.g0 rfl rfl (decide_eq_false hc3) rfl ?_
  refine WL.g0 rfl rfl (decide_eq_false hc3) rfl ?_
  refine WL.gu rfl rfl rfl ?_
  refine WL.gu rfl rfl rfl ?_
  refine WL.gu rfl rfl rfl ?_
  refine WL.gu rfl rfl rfl ?_
  refine WL.g0 rfl rfl (decide_eq_false hc3) rfl ?_
  refine WL.v (X.pkF rfl (decide_eq_false hc3) rfl) ?_
  refine WL.fin ?_
  refine W.cF rfl rfl ?_
  refine W.ks ?_
  refine WL.run 1 rfl ?_
  refine WL.v (X.bin (v := .int .i64 (IntKind.i64.wrap (a + 2))) rfl rfl (by simp [binOp, Op.intArith])) ?_
  refine WL.run 1 rfl ?_
  refine WL.v (X.ldk (hp.at 0 rfl) tA3 rfl rfl) ?_
  refine WL.v (X.bin (v := .int .i64 (IntKind.i64.wrap (IntKind.i64.wrap (a + 2) + (objT ws cs a).refs))) rfl rfl (by simp [binOp, Op.intArith])) ?_
  refine WL.run 1 rfl ?_
  refine WL.v (X.bin (v := .int .i64 (IntKind.i64.wrap (IntKind.i64.wrap (IntKind.i64.wrap (a + 2) + (objT ws cs a).refs) + f))) rfl rfl (by simp [binOp, Op.intArith])) ?_
  refine WL.run 3 rfl ?_
  refine WL.fin ?_
  refine W.ret ?_
  refine W.done hp (rs := [.tmp 6, .tmp 7]) (vs := [.int .i64 (IntKind.i64.wrap (IntKind.i64.wrap (IntKind.i64.wrap (a + 2) + (objT ws cs a).refs) + f)), .int .i64 (objE ws cs a)]) (v := .tuple #[.int .i64 (IntKind.i64.wrap (IntKind.i64.wrap (IntKind.i64.wrap (a + 2) + (objT ws cs a).refs) + f)), .int .i64 (objE ws cs a)]) rfl ⟨rfl, rfl, trivial⟩ rfl ?_
  exact .inr ⟨by unfold numE; rw [if_pos hc3]; exact hc3, _, by rw [show numE ws cs a f = objE ws cs a from by unfold numE; rw [if_pos hc3]]⟩

theorem oload_c {w0 : World} {p b : Nat} {ws : List Int} {tp : Option Addr} {a e : Int} (hA : (arenaR p b ws).ok w0)  :
    Calls Tryz.prog 93 #[.agg #[.pointer (some ⟨p, 0, none⟩), .pointer tp], .int .i64 a, .int .i64 e] w0 (Ret [] w0 (fun v _ => (e ≠ 0 ∧ v = .tuple #[.int .i64 0, .int .i64 e]) ∨ (e = 0 ∧ 0 ≤ a ∧ a < ws.length ∧ v = .tuple #[.int .i64 (gi ws a), .int .i64 0]) ∨ (e = 0 ∧ ¬ (0 ≤ a ∧ a < ws.length) ∧ v = .tuple #[.int .i64 0, .int .i64 2]))) := by
  have hp : Hp w0 [] [] w0 := Hp.init w0
  refine enter (vs := [.agg #[.pointer (some ⟨p, 0, none⟩), .pointer tp], .int .i64 a, .int .i64 e]) Tryz.func93 rfl rfl rfl ?_
  refine gen_world hp ?_
  intro w hp
  refine W.sr ?_
  refine WL.box hp rfl (cs := #[.pointer (some ⟨p, 0, none⟩), .pointer tp]) rfl rfl ?_
  intro b1 w hp
  refine WL.run 2 rfl ?_
  refine WL.s ?_
  refine W.sr ?_
  refine WL.run 2 rfl ?_
  refine WL.fin ?_
  by_cases hc2 : e ≠ 0
  · refine W.cT rfl (decide_eq_true hc2) ?_
    refine W.sr ?_
    refine WL.run 3 rfl ?_
    refine WL.fin ?_
    refine W.ret ?_
    refine X.thenR ?_
    refine W.done hp (rs := [.tmp 6, .tmp 7]) (vs := [.int .i64 0, .int .i64 e]) (v := .tuple #[.int .i64 0, .int .i64 e]) rfl ⟨rfl, rfl, trivial⟩ rfl ?_
    first | exact .inl ⟨by assumption, rfl⟩ | exact .inr (.inl ⟨by omega, by omega, by omega, rfl⟩) | exact .inr (.inr ⟨by omega, by omega, rfl⟩)
  refine W.cF rfl (decide_eq_false hc2) ?_
  refine W.ks ?_
  refine WL.run 1 rfl ?_
  refine WL.v (X.ldk (hp.at 0 rfl) tA29 rfl rfl) ?_
  refine WL.run 1 rfl ?_
  refine WL.call isFn99 rfl rfl (load_c (a := a) (hp.old0 hA)) ?_
  intro v w hc hr
  rcases hr with ⟨hl3, hl4, rfl⟩ | ⟨hl5, rfl⟩
  · have hp := hp.ext hc
    refine WL.run 4 rfl ?_
    refine WL.fin ?_
    refine W.ret ?_
    refine W.done hp (rs := [.tmp 6, .tmp 7]) (vs := [.int .i64 (gi ws a), .int .i64 0]) (v := .tuple #[.int .i64 (gi ws a), .int .i64 0]) rfl ⟨rfl, rfl, trivial⟩ rfl ?_
    first | exact .inl ⟨by assumption, rfl⟩ | exact .inr (.inl ⟨by omega, by omega, by omega, rfl⟩) | exact .inr (.inr ⟨by omega, by omega, rfl⟩)
  have hp := hp.ext hc
  refine WL.run 4 rfl ?_
  refine WL.fin ?_
  refine W.ret ?_
  refine W.done hp (rs := [.tmp 6, .tmp 7]) (vs := [.int .i64 0, .int .i64 2]) (v := .tuple #[.int .i64 0, .int .i64 2]) rfl ⟨rfl, rfl, trivial⟩ rfl ?_
  first | exact .inl ⟨by assumption, rfl⟩ | exact .inr (.inl ⟨by omega, by omega, by omega, rfl⟩) | exact .inr (.inr ⟨by omega, by omega, rfl⟩)

theorem ostore_c {w0 : World} {p b : Nat} {ws : List Int} {tp : Option Addr} {x a e : Int} (hA : (arenaR p b ws).ok w0)  :
    Calls Tryz.prog 63 #[.agg #[.pointer (some ⟨p, 0, none⟩), .pointer tp], .int .i64 x, .int .i64 a, .int .i64 e] w0 (Ret [p, b] w0 (fun v w => (e ≠ 0 ∧ v = .int .i64 e ∧ (arenaR p b ws).ok w) ∨ (e = 0 ∧ 0 ≤ a ∧ a < ws.length ∧ v = .int .i64 0 ∧ (arenaR p b (ws.set a.toNat x)).ok w) ∨ (e = 0 ∧ ¬ (0 ≤ a ∧ a < ws.length) ∧ v = .int .i64 2 ∧ (arenaR p b ws).ok w))) := by
  have hp : Hp w0 [p, b] [arenaR p b ws] w0 := Hp.one hA (arena_nd hA)
  refine enter (vs := [.agg #[.pointer (some ⟨p, 0, none⟩), .pointer tp], .int .i64 x, .int .i64 a, .int .i64 e]) Tryz.func63 rfl rfl rfl ?_
  refine gen_world hp ?_
  intro w hp
  refine W.sr ?_
  refine WL.box hp rfl (cs := #[.pointer (some ⟨p, 0, none⟩), .pointer tp]) rfl rfl ?_
  intro b1 w hp
  refine WL.run 1 rfl ?_
  refine WL.s ?_
  refine W.sr ?_
  refine WL.run 2 rfl ?_
  refine WL.fin ?_
  by_cases hc2 : e ≠ 0
  · refine W.cT rfl (decide_eq_true hc2) ?_
    refine W.sr ?_
    refine WL.run 2 rfl ?_
    refine WL.fin ?_
    refine W.ret ?_
    refine X.thenR ?_
    refine W.done hp (rs := [.tmp 8]) (vs := [.int .i64 e]) (v := .int .i64 e) rfl ⟨rfl, trivial⟩ rfl ?_
    first | exact .inl ⟨by assumption, rfl, hp.at 1 rfl⟩ | exact .inr (.inl ⟨by omega, by omega, by omega, rfl, hp.at 1 rfl⟩) | exact .inr (.inr ⟨by omega, by omega, rfl, hp.at 1 rfl⟩)
  refine W.cF rfl (decide_eq_false hc2) ?_
  refine W.ks ?_
  refine WL.run 1 rfl ?_
  refine WL.v (X.ldk (hp.at 0 rfl) tA29 rfl rfl) ?_
  refine WL.run 2 rfl ?_
  refine WL.call isFn83 rfl rfl (store_c (a := a) (x := x) (hp.at 1 rfl)) ?_
  intro v w hc hr
  rcases hr with ⟨hf3, hf4, rfl, hA⟩ | ⟨hf5, rfl, hA⟩
  · have hp := hp.arena 1 rfl hc hA
    refine WL.run 1 rfl ?_
    refine WL.fin ?_
    refine W.ret ?_
    refine W.done hp (rs := [.tmp 8]) (vs := [.int .i64 0]) (v := .int .i64 0) rfl ⟨rfl, trivial⟩ rfl ?_
    first | exact .inl ⟨by assumption, rfl, hp.at 1 rfl⟩ | exact .inr (.inl ⟨by omega, by omega, by omega, rfl, hp.at 1 rfl⟩) | exact .inr (.inr ⟨by omega, by omega, rfl, hp.at 1 rfl⟩)
  have hp := hp.arena 1 rfl hc hA
  refine WL.run 1 rfl ?_
  refine WL.fin ?_
  refine W.ret ?_
  refine W.done hp (rs := [.tmp 8]) (vs := [.int .i64 2]) (v := .int .i64 2) rfl ⟨rfl, trivial⟩ rfl ?_
  first | exact .inl ⟨by assumption, rfl, hp.at 1 rfl⟩ | exact .inr (.inl ⟨by omega, by omega, by omega, rfl, hp.at 1 rfl⟩) | exact .inr (.inr ⟨by omega, by omega, rfl, hp.at 1 rfl⟩)

theorem ref_c {w0 : World} {p b t c : Nat} {ws : List Int} {cs : List Cls} {a f : Int} (hA : (arenaR p b ws).ok w0) (hT : (tableR t c cs).ok w0)  :
    Calls Tryz.prog 74 #[.agg #[.pointer (some ⟨p, 0, none⟩), .pointer (some ⟨t, 0, none⟩)], .int .i64 a, .int .i64 f] w0 (Ret [] w0 (fun v _ => (refE ws cs a f = 0 ∧ v = .tuple #[.int .i64 (gi ws (a + 2 + f)), .int .i64 0]) ∨ (refE ws cs a f ≠ 0 ∧ v = .tuple #[.int .i64 0, .int .i64 (refE ws cs a f)]))) := by
  have hp : Hp w0 [] [] w0 := Hp.init w0
  refine enter (vs := [.agg #[.pointer (some ⟨p, 0, none⟩), .pointer (some ⟨t, 0, none⟩)], .int .i64 a, .int .i64 f]) Tryz.func74 rfl rfl rfl ?_
  refine gen_world hp ?_
  intro w hp
  refine W.sr ?_
  refine WL.box hp rfl (cs := #[.pointer (some ⟨p, 0, none⟩), .pointer (some ⟨t, 0, none⟩)]) rfl rfl ?_
  intro b1 w hp
  refine WL.run 2 rfl ?_
  refine WL.s ?_
  refine W.draw prog_mixed (fun w => (blkR b1 (.cells (#[.pointer (some ⟨p, 0, none⟩), .pointer (some ⟨t, 0, none⟩)]) 32 (0, 0))).ok w ∧ (arenaR p b ws).ok w ∧ (tableR t c cs).ok w ∧ True) hp ?_
  intro w hp
  refine WD.s ⟨hp.at 0 rfl, hp.old0 hA, hp.old0 hT, trivial⟩ fun hS0 => ?_
  refine WD.v 0 rfl hS0 (fun w hS => (X.ldkA hS.1 tA32 tS32 (vs := [.pointer (some ⟨p, 0, none⟩), .pointer (some ⟨t, 0, none⟩)]) rfl rfl)) ?_
  refine WD.v 1 rfl hS0 (fun w hS => (X.ldkA hS.1 tA32 tS32 (vs := [.pointer (some ⟨p, 0, none⟩), .pointer (some ⟨t, 0, none⟩)]) rfl rfl)) ?_
  refine WD.v 2 rfl hS0 (fun w hS => (X.mv rfl)) ?_
  refine WD.v 3 rfl hS0 (fun w hS => (X.mv rfl)) ?_
  refine WD.one 4 (by kernel_rfl) ?_
  refine WO.call rfl isFn62 rfl rfl (slot_c (a := a) (f := f) (hp.old0 hA) (hp.old0 hT)) ?_
  intro v w hc hr
  rcases hr with ⟨hs2, rfl⟩ | ⟨hs2, x3, rfl⟩
  · have hp := hp.ext hc
    have hbz := refE_bd (table_all (hp.old0 hT)) hs2
    refine andS ⟨hp.at 0 rfl, hp.old0 hA, hp.old0 hT, trivial⟩ fun hS0 => ?_
    refine WD.v 5 rfl hS0 (fun w hS => (X.ext rfl rfl)) ?_
    refine WD.v 6 rfl hS0 (fun w hS => (X.ext rfl rfl)) ?_
    refine WD.one 7 (by kernel_rfl) ?_
    refine WO.call rfl isFn93 rfl rfl (oload_c (a := a + 2 + f) (e := 0) (hp.old0 hA)) ?_
    intro v w hc hr
    rcases hr with ⟨hl4, rfl⟩ | ⟨hl4, hl5, hl6, rfl⟩ | ⟨hl4, hl5, rfl⟩
    · (try simp only [fillW_length, moveW_length, List.length_set] at hl4); first | contradiction | (exfalso; omega) | (exfalso; simp_all; done)
    · have hp := hp.ext hc
      refine andS ⟨hp.at 0 rfl, hp.old0 hA, hp.old0 hT, trivial⟩ fun hS0 => ?_
      refine WD.v 8 rfl hS0 (fun w hS => (X.ext rfl rfl)) ?_
      refine WD.v 9 rfl hS0 (fun w hS => (X.ext rfl rfl)) ?_
      refine WD.v 10 rfl hS0 (fun w hS => (X.as rfl)) ?_
      refine WD.v 11 rfl hS0 (fun w hS => (X.as rfl)) ?_
      refine WD.nil (by kernel_rfl) ?_
      refine X.thenN ?_
      refine W.ret ?_
      refine W.done hp (rs := [.tmp 6, .tmp 7]) (vs := [.int .i64 (gi ws (a + 2 + f)), .int .i64 0]) (v := .tuple #[.int .i64 (gi ws (a + 2 + f)), .int .i64 0]) rfl ⟨rfl, rfl, trivial⟩ rfl ?_
      first | exact .inl ⟨by assumption, rfl⟩ | exact .inr ⟨by assumption, rfl⟩
    (try simp only [fillW_length, moveW_length, List.length_set] at hl4 hl5); first | contradiction | (exfalso; omega) | (exfalso; simp_all; done)
  have hp := hp.ext hc
  refine andS ⟨hp.at 0 rfl, hp.old0 hA, hp.old0 hT, trivial⟩ fun hS0 => ?_
  refine WD.v 5 rfl hS0 (fun w hS => (X.ext rfl rfl)) ?_
  refine WD.v 6 rfl hS0 (fun w hS => (X.ext rfl rfl)) ?_
  refine WD.one 7 (by kernel_rfl) ?_
  refine WO.call rfl isFn93 rfl rfl (oload_c (a := x3) (e := (refE ws cs a f)) (hp.old0 hA)) ?_
  intro v w hc hr
  rcases hr with ⟨hl7, rfl⟩ | ⟨hl7, hl8, hl9, rfl⟩ | ⟨hl7, hl8, rfl⟩
  · have hp := hp.ext hc
    refine andS ⟨hp.at 0 rfl, hp.old0 hA, hp.old0 hT, trivial⟩ fun hS0 => ?_
    refine WD.v 8 rfl hS0 (fun w hS => (X.ext rfl rfl)) ?_
    refine WD.v 9 rfl hS0 (fun w hS => (X.ext rfl rfl)) ?_
    refine WD.v 10 rfl hS0 (fun w hS => (X.as rfl)) ?_
    refine WD.v 11 rfl hS0 (fun w hS => (X.as rfl)) ?_
    refine WD.nil (by kernel_rfl) ?_
    refine X.thenN ?_
    refine W.ret ?_
    refine W.done hp (rs := [.tmp 6, .tmp 7]) (vs := [.int .i64 0, .int .i64 (refE ws cs a f)]) (v := .tuple #[.int .i64 0, .int .i64 (refE ws cs a f)]) rfl ⟨rfl, rfl, trivial⟩ rfl ?_
    first | exact .inl ⟨by assumption, rfl⟩ | exact .inr ⟨by assumption, rfl⟩
  · (try simp only [fillW_length, moveW_length, List.length_set] at hl7 hl8 hl9); first | contradiction | (exfalso; omega) | (exfalso; simp_all; done)
  (try simp only [fillW_length, moveW_length, List.length_set] at hl7 hl8); first | contradiction | (exfalso; omega) | (exfalso; simp_all; done)

theorem setref_c {w0 : World} {p b t c : Nat} {ws : List Int} {cs : List Cls} {a f x : Int} (hA : (arenaR p b ws).ok w0) (hT : (tableR t c cs).ok w0) (hD : ∀ k ∈ [t, c], k ∉ [p, b])  :
    Calls Tryz.prog 21 #[.agg #[.pointer (some ⟨p, 0, none⟩), .pointer (some ⟨t, 0, none⟩)], .int .i64 a, .int .i64 f, .int .i64 x] w0 (Ret [p, b] w0 (fun v w => (refE ws cs a f = 0 ∧ v = .int .i64 0 ∧ (arenaR p b (ws.set (a + 2 + f).toNat x)).ok w) ∨ (refE ws cs a f ≠ 0 ∧ v = .int .i64 (refE ws cs a f) ∧ (arenaR p b ws).ok w))) := by
  have hp : Hp w0 [p, b] [arenaR p b ws] w0 := Hp.one hA (arena_nd hA)
  refine enter (vs := [.agg #[.pointer (some ⟨p, 0, none⟩), .pointer (some ⟨t, 0, none⟩)], .int .i64 a, .int .i64 f, .int .i64 x]) Tryz.func21 rfl rfl rfl ?_
  refine gen_world hp ?_
  intro w hp
  refine W.sr ?_
  refine WL.box hp rfl (cs := #[.pointer (some ⟨p, 0, none⟩), .pointer (some ⟨t, 0, none⟩)]) rfl rfl ?_
  intro b1 w hp
  refine WL.run 1 rfl ?_
  refine WL.a ?_
  refine WL.v (X.ldkA (hp.at 0 rfl) tA32 tS32 (vs := [.pointer (some ⟨p, 0, none⟩), .pointer (some ⟨t, 0, none⟩)]) rfl rfl) ?_
  refine WL.run 2 rfl ?_
  refine WL.call isFn62 rfl rfl (slot_c (a := a) (f := f) (hp.at 1 rfl) (hp.old hT hD)) ?_
  intro v w hc hr
  rcases hr with ⟨hs2, rfl⟩ | ⟨hs2, x3, rfl⟩
  · have hp := hp.ext hc
    have hbz := refE_bd (table_all (hp.old hT hD)) hs2
    refine WL.run 5 rfl ?_
    refine WL.a ?_
    refine WL.v (X.ldkA (hp.at 0 rfl) tA32 tS32 (vs := [.pointer (some ⟨p, 0, none⟩), .pointer (some ⟨t, 0, none⟩)]) rfl rfl) ?_
    refine WL.run 3 rfl ?_
    refine WL.call isFn63 rfl rfl (ostore_c (x := x) (a := a + 2 + f) (e := 0) (hp.at 1 rfl)) ?_
    intro v w hc hr
    rcases hr with ⟨hl4, rfl, hA⟩ | ⟨hl4, hl5, hl6, rfl, hA⟩ | ⟨hl4, hl5, rfl, hA⟩
    · (try simp only [fillW_length, moveW_length, List.length_set] at hl4); first | contradiction | (exfalso; omega) | (exfalso; simp_all; done)
    · have hp := hp.arena 1 rfl hc hA
      refine WL.run 1 rfl ?_
      refine WL.fin ?_
      refine W.ret ?_
      refine W.done hp (rs := [.tmp 8]) (vs := [.int .i64 0]) (v := .int .i64 0) rfl ⟨rfl, trivial⟩ rfl ?_
      first | exact .inl ⟨by assumption, rfl, hp.at 1 rfl⟩ | exact .inr ⟨by assumption, rfl, hp.at 1 rfl⟩
    (try simp only [fillW_length, moveW_length, List.length_set] at hl4 hl5); first | contradiction | (exfalso; omega) | (exfalso; simp_all; done)
  have hp := hp.ext hc
  refine WL.run 5 rfl ?_
  refine WL.a ?_
  refine WL.v (X.ldkA (hp.at 0 rfl) tA32 tS32 (vs := [.pointer (some ⟨p, 0, none⟩), .pointer (some ⟨t, 0, none⟩)]) rfl rfl) ?_
  refine WL.run 3 rfl ?_
  refine WL.call isFn63 rfl rfl (ostore_c (x := x) (a := x3) (e := (refE ws cs a f)) (hp.at 1 rfl)) ?_
  intro v w hc hr
  rcases hr with ⟨hl7, rfl, hA⟩ | ⟨hl7, hl8, hl9, rfl, hA⟩ | ⟨hl7, hl8, rfl, hA⟩
  · have hp := hp.arena 1 rfl hc hA
    refine WL.run 1 rfl ?_
    refine WL.fin ?_
    refine W.ret ?_
    refine W.done hp (rs := [.tmp 8]) (vs := [.int .i64 (refE ws cs a f)]) (v := .int .i64 (refE ws cs a f)) rfl ⟨rfl, trivial⟩ rfl ?_
    first | exact .inl ⟨by assumption, rfl, hp.at 1 rfl⟩ | exact .inr ⟨by assumption, rfl, hp.at 1 rfl⟩
  · (try simp only [fillW_length, moveW_length, List.length_set] at hl7 hl8 hl9); first | contradiction | (exfalso; omega) | (exfalso; simp_all; done)
  (try simp only [fillW_length, moveW_length, List.length_set] at hl7 hl8); first | contradiction | (exfalso; omega) | (exfalso; simp_all; done)

theorem setnum_c {w0 : World} {p b t c : Nat} {ws : List Int} {cs : List Cls} {a f x : Int} (hA : (arenaR p b ws).ok w0) (hT : (tableR t c cs).ok w0) (hD : ∀ k ∈ [t, c], k ∉ [p, b])  :
    Calls Tryz.prog 60 #[.agg #[.pointer (some ⟨p, 0, none⟩), .pointer (some ⟨t, 0, none⟩)], .int .i64 a, .int .i64 f, .int .i64 x] w0 (Ret [p, b] w0 (fun v w => (numE ws cs a f = 0 ∧ v = .int .i64 0 ∧ (arenaR p b (ws.set (a + 2 + (objT ws cs a).refs + f).toNat x)).ok w) ∨ (numE ws cs a f ≠ 0 ∧ v = .int .i64 (numE ws cs a f) ∧ (arenaR p b ws).ok w))) := by
  have hp : Hp w0 [p, b] [arenaR p b ws] w0 := Hp.one hA (arena_nd hA)
  refine enter (vs := [.agg #[.pointer (some ⟨p, 0, none⟩), .pointer (some ⟨t, 0, none⟩)], .int .i64 a, .int .i64 f, .int .i64 x]) Tryz.func60 rfl rfl rfl ?_
  refine gen_world hp ?_
  intro w hp
  refine W.sr ?_
  refine WL.box hp rfl (cs := #[.pointer (some ⟨p, 0, none⟩), .pointer (some ⟨t, 0, none⟩)]) rfl rfl ?_
  intro b1 w hp
  refine WL.run 1 rfl ?_
  refine WL.a ?_
  refine WL.v (X.ldkA (hp.at 0 rfl) tA32 tS32 (vs := [.pointer (some ⟨p, 0, none⟩), .pointer (some ⟨t, 0, none⟩)]) rfl rfl) ?_
  refine WL.run 2 rfl ?_
  refine WL.call isFn87 rfl rfl (cell_c (a := a) (f := f) (hp.at 1 rfl) (hp.old hT hD)) ?_
  intro v w hc hr
  rcases hr with ⟨hs2, rfl⟩ | ⟨hs2, x3, rfl⟩
  · have hp := hp.ext hc
    have hbz := numE_bd (table_all (hp.old hT hD)) hs2
    refine WL.run 5 rfl ?_
    refine WL.a ?_
    refine WL.v (X.ldkA (hp.at 0 rfl) tA32 tS32 (vs := [.pointer (some ⟨p, 0, none⟩), .pointer (some ⟨t, 0, none⟩)]) rfl rfl) ?_
    refine WL.run 3 rfl ?_
    refine WL.call isFn63 rfl rfl (ostore_c (x := x) (a := a + 2 + (objT ws cs a).refs + f) (e := 0) (hp.at 1 rfl)) ?_
    intro v w hc hr
    rcases hr with ⟨hl4, rfl, hA⟩ | ⟨hl4, hl5, hl6, rfl, hA⟩ | ⟨hl4, hl5, rfl, hA⟩
    · (try simp only [fillW_length, moveW_length, List.length_set] at hl4); first | contradiction | (exfalso; omega) | (exfalso; simp_all; done)
    · have hp := hp.arena 1 rfl hc hA
      refine WL.run 1 rfl ?_
      refine WL.fin ?_
      refine W.ret ?_
      refine W.done hp (rs := [.tmp 8]) (vs := [.int .i64 0]) (v := .int .i64 0) rfl ⟨rfl, trivial⟩ rfl ?_
      first | exact .inl ⟨by assumption, rfl, hp.at 1 rfl⟩ | exact .inr ⟨by assumption, rfl, hp.at 1 rfl⟩
    (try simp only [fillW_length, moveW_length, List.length_set] at hl4 hl5); first | contradiction | (exfalso; omega) | (exfalso; simp_all; done)
  have hp := hp.ext hc
  refine WL.run 5 rfl ?_
  refine WL.a ?_
  refine WL.v (X.ldkA (hp.at 0 rfl) tA32 tS32 (vs := [.pointer (some ⟨p, 0, none⟩), .pointer (some ⟨t, 0, none⟩)]) rfl rfl) ?_
  refine WL.run 3 rfl ?_
  refine WL.call isFn63 rfl rfl (ostore_c (x := x) (a := x3) (e := (numE ws cs a f)) (hp.at 1 rfl)) ?_
  intro v w hc hr
  rcases hr with ⟨hl7, rfl, hA⟩ | ⟨hl7, hl8, hl9, rfl, hA⟩ | ⟨hl7, hl8, rfl, hA⟩
  · have hp := hp.arena 1 rfl hc hA
    refine WL.run 1 rfl ?_
    refine WL.fin ?_
    refine W.ret ?_
    refine W.done hp (rs := [.tmp 8]) (vs := [.int .i64 (numE ws cs a f)]) (v := .int .i64 (numE ws cs a f)) rfl ⟨rfl, trivial⟩ rfl ?_
    first | exact .inl ⟨by assumption, rfl, hp.at 1 rfl⟩ | exact .inr ⟨by assumption, rfl, hp.at 1 rfl⟩
  · (try simp only [fillW_length, moveW_length, List.length_set] at hl7 hl8 hl9); first | contradiction | (exfalso; omega) | (exfalso; simp_all; done)
  (try simp only [fillW_length, moveW_length, List.length_set] at hl7 hl8); first | contradiction | (exfalso; omega) | (exfalso; simp_all; done)

theorem on_c {w0 : World} {x y : Option Addr} :
    Calls Tryz.prog 18 #[.pointer x, .pointer y] w0 (Ret [] w0 (fun v _ => v = .agg #[.pointer x, .pointer y])) := by
  have hp : Hp w0 [] [] w0 := Hp.init w0
  refine enter (vs := [.pointer x, .pointer y]) Tryz.func18 rfl rfl rfl ?_
  refine gen_world hp ?_
  intro w hp
  refine W.sr ?_
  refine WL.alloc hp tZ32 rfl ?_
  intro b1 w hp
  refine WL.a ?_
  refine WL.run 2 rfl ?_
  refine WL.v (X.bld (v := .agg #[.pointer x, .pointer y]) rfl (by kernel_rfl)) ?_
  refine WL.store hp 0 rfl tS32 rfl rfl (vs := [.pointer x, .pointer y]) rfl rfl rfl (new := #[.pointer x, .pointer y]) rfl ?_
  intro w hp
  refine WL.fin ?_
  refine W.ret ?_
  refine W.done hp (rs := [.cell 4 32]) (vs := [.agg #[.pointer x, .pointer y]]) (v := .agg #[.pointer x, .pointer y]) rfl ⟨⟨_, rfl, run_loadVarB hp 0 rfl tA32 tS32 (vs := [.pointer x, .pointer y]) rfl⟩, trivial⟩ rfl ?_
  exact rfl

theorem sethead_c {w0 : World} {p b t c : Nat} {ws : List Int} {cs : List Cls} {a : Int} {h : Hd} (hA : (arenaR p b ws).ok w0) (hT : (tableR t c cs).ok w0) (hD : ∀ k ∈ [t, c], k ∉ [p, b])  :
    Calls Tryz.prog 59 #[.agg #[.pointer (some ⟨p, 0, none⟩), .pointer (some ⟨t, 0, none⟩)], .int .i64 a, .agg #[.int .i64 h.cls, .int .i64 h.age, .int .i64 h.fwd, .bool (h.mark), .bool (h.final), .bool (h.done)]] w0 (Ret [p, b] w0 (fun v w => (setHeadE ws cs a h = 0 ∧ v = .int .i64 0 ∧ (arenaR p b (ws.set a.toNat (hdW h))).ok w) ∨ (setHeadE ws cs a h ≠ 0 ∧ v = .int .i64 (setHeadE ws cs a h) ∧ (arenaR p b ws).ok w))) := by
  have hp : Hp w0 [p, b] [arenaR p b ws] w0 := Hp.one hA (arena_nd hA)
  refine enter (vs := [.agg #[.pointer (some ⟨p, 0, none⟩), .pointer (some ⟨t, 0, none⟩)], .int .i64 a, .agg #[.int .i64 h.cls, .int .i64 h.age, .int .i64 h.fwd, .bool (h.mark), .bool (h.final), .bool (h.done)]]) Tryz.func59 rfl rfl rfl ?_
  refine gen_world hp ?_
  intro w hp
  refine W.sr ?_
  refine WL.box hp rfl (cs := #[.pointer (some ⟨p, 0, none⟩), .pointer (some ⟨t, 0, none⟩)]) rfl rfl ?_
  intro b1 w hp
  refine WL.box hp rfl (cs := #[.int .i64 h.cls, .int .i64 h.age, .int .i64 h.fwd, .bool (h.mark), .bool (h.final), .bool (h.done)]) rfl rfl ?_
  intro b2 w hp
  refine WL.run 1 rfl ?_
  refine WL.a ?_
  refine WL.v (X.ldkA (hp.at 1 rfl) tA32 tS32 (vs := [.pointer (some ⟨p, 0, none⟩), .pointer (some ⟨t, 0, none⟩)]) rfl rfl) ?_
  refine WL.run 1 rfl ?_
  refine WL.call isFn61 rfl rfl (object_c (a := a) (hp.at 2 rfl) (hp.old hT hD)) ?_
  intro v w hc hr
  obtain rfl := hr
  have hp := hp.ext hc
  refine WL.run 3 rfl ?_
  refine WL.alloc hp tZ128 rfl ?_
  intro b3 w hp
  refine WL.store hp 0 rfl tS128 rfl rfl (vs := [.int .i64 ((objT ws cs a).hd.cls), .int .i64 ((objT ws cs a).hd.age), .int .i64 ((objT ws cs a).hd.fwd), .bool ((objT ws cs a).hd.mark), .bool ((objT ws cs a).hd.final), .bool ((objT ws cs a).hd.done), .int .i64 ((objT ws cs a).refs), .int .i64 ((objT ws cs a).data), .int .i64 ((objT ws cs a).words)]) rfl rfl rfl (new := #[.int .i64 ((objT ws cs a).hd.cls), .int .i64 ((objT ws cs a).hd.age), .int .i64 ((objT ws cs a).hd.fwd), .bool ((objT ws cs a).hd.mark), .bool ((objT ws cs a).hd.final), .bool ((objT ws cs a).hd.done), .int .i64 ((objT ws cs a).refs), .int .i64 ((objT ws cs a).data), .int .i64 ((objT ws cs a).words)]) rfl ?_
  intro w hp
  refine WL.run 1 rfl ?_
  refine WL.s ?_
  refine W.sr ?_
  refine WL.run 2 rfl ?_
  refine WL.fin ?_
  by_cases hc4 : (objE ws cs a) ≠ 0
  · refine W.cT rfl (decide_eq_true hc4) ?_
    refine W.sr ?_
    refine WL.run 2 rfl ?_
    refine WL.fin ?_
    refine W.ret ?_
    refine X.thenR ?_
    refine W.done hp (rs := [.tmp 6]) (vs := [.int .i64 (objE ws cs a)]) (v := .int .i64 (objE ws cs a)) rfl ⟨rfl, trivial⟩ rfl ?_
    exact .inr ⟨by unfold setHeadE; rw [if_pos hc4]; exact hc4, by rw [show setHeadE ws cs a h = objE ws cs a from by unfold setHeadE; rw [if_pos hc4]], hp.at 3 rfl⟩
  refine W.cF rfl (decide_eq_false hc4) ?_
  refine W.ks ?_
  refine WL.v (X.ldkA (hp.at 1 rfl) tA123 tS123 (vs := [.int .i64 h.cls, .int .i64 h.age, .int .i64 h.fwd, .bool (h.mark), .bool (h.final), .bool (h.done)]) rfl rfl) ?_
  refine WL.call isFn82 rfl rfl (word_c (h := h)) ?_
  intro v w hc hr
  rcases hr with ⟨hw5, rfl⟩ | ⟨hw5, rfl⟩
  · have hp := hp.ext hc
    refine WL.run 5 rfl ?_
    refine WL.s ?_
    refine W.sr ?_
    refine WL.run 3 rfl ?_
    refine WL.g1 rfl rfl (decide_eq_false (by decide)) ?_
    refine WL.run 1 rfl ?_
    refine WL.g1 rfl rfl (decide_eq_false (by decide)) ?_
    refine WL.v (X.ldk (hp.at 1 rfl) tA3 rfl rfl) ?_
    refine WL.g1 rfl rfl (decide_eq_false (by decide)) ?_
    refine WL.run 1 rfl ?_
    refine WL.g1 rfl rfl (decide_eq_false (by decide)) ?_
    refine WL.run 1 rfl ?_
    refine WL.g1 rfl rfl (decide_eq_false (by decide)) ?_
    refine WL.v (X.ldk (hp.at 0 rfl) tA3 rfl rfl) ?_
    refine WL.g1 rfl rfl (decide_eq_false (by decide)) ?_
    refine WL.run 1 rfl ?_
    refine WL.v (X.pkF rfl (decide_eq_false (by decide)) rfl) ?_
    refine WL.fin ?_
    by_cases hc7 : h.cls ≠ ((objT ws cs a).hd.cls)
    · refine W.cT rfl (decide_eq_true hc7) ?_
      refine W.sr ?_
      refine WL.run 1 rfl ?_
      refine WL.fin ?_
      refine W.ret ?_
      refine X.thenR ?_
      refine W.done hp (rs := [.tmp 6]) (vs := [.int .i64 1]) (v := .int .i64 1) rfl ⟨rfl, trivial⟩ rfl ?_
      exact .inr ⟨by unfold setHeadE; rw [if_neg (not_not_intro (Classical.not_not.1 hc4)), if_pos (.inr hc7)]; decide, by rw [show setHeadE ws cs a h = 1 from by unfold setHeadE; rw [if_neg (not_not_intro (Classical.not_not.1 hc4)), if_pos (.inr hc7)]], hp.at 3 rfl⟩
    refine W.cF rfl (decide_eq_false hc7) ?_
    refine W.k ?_
    refine W.seq ?_
    have hbo := objT_bd (table_all (hp.old hT hD)) (Classical.not_not.1 hc4)
    refine W.reg ?_
    refine WL.run 1 rfl ?_
    refine WL.v (X.ldk (hp.at 2 rfl) tA29 rfl rfl) ?_
    refine WL.run 2 rfl ?_
    refine WL.call isFn83 rfl rfl (store_c (a := a) (x := hdW h) (hp.at 3 rfl)) ?_
    intro v w hc hr
    rcases hr with ⟨hf8, hf9, rfl, hA⟩ | ⟨hf10, rfl, hA⟩
    · have hp := hp.arena 3 rfl hc hA
      refine WL.run 1 rfl ?_
      refine WL.fin ?_
      refine W.ret ?_
      refine W.done hp (rs := [.tmp 6]) (vs := [.int .i64 0]) (v := .int .i64 0) rfl ⟨rfl, trivial⟩ rfl ?_
      exact .inl ⟨by unfold setHeadE; rw [if_neg (not_not_intro (Classical.not_not.1 hc4)), if_neg (fun q => q.elim (fun q => q hw5) (fun q => hc7 q))], rfl, hp.at 3 rfl⟩
    (try simp only [fillW_length, moveW_length, List.length_set] at hf10); first | contradiction | (exfalso; omega) | (exfalso; simp_all; done)
  have hp := hp.ext hc
  refine WL.run 5 rfl ?_
  refine WL.s ?_
  refine W.sr ?_
  refine WL.run 3 rfl ?_
  refine WL.g0 rfl rfl (decide_eq_true (by decide)) rfl ?_
  refine WL.g0 rfl rfl (decide_eq_true (by decide)) rfl ?_
  refine WL.g0 rfl rfl (decide_eq_true (by decide)) rfl ?_
  refine WL.g0 rfl rfl (decide_eq_true (by decide)) rfl ?_
  refine WL.g0 rfl rfl (decide_eq_true (by decide)) rfl ?_
  refine WL.g0 rfl rfl (decide_eq_true (by decide)) rfl ?_
  refine WL.v (X.pkT rfl (decide_eq_true (by decide)) rfl) ?_
  refine WL.fin ?_
  refine W.cT rfl rfl ?_
  refine W.sr ?_
  refine WL.run 1 rfl ?_
  refine WL.fin ?_
  refine W.ret ?_
  refine X.thenR ?_
  refine W.done hp (rs := [.tmp 6]) (vs := [.int .i64 1]) (v := .int .i64 1) rfl ⟨rfl, trivial⟩ rfl ?_
  exact .inr ⟨by unfold setHeadE; rw [if_neg (not_not_intro (Classical.not_not.1 hc4)), if_pos (.inl hw5)]; decide, by rw [show setHeadE ws cs a h = 1 from by unfold setHeadE; rw [if_neg (not_not_intro (Classical.not_not.1 hc4)), if_pos (.inl hw5)]], hp.at 3 rfl⟩

theorem lay_c {w0 : World} {p b t c : Nat} {ws : List Int} {cs : List Cls} {a n m : Int} (hA : (arenaR p b ws).ok w0) (hT : (tableR t c cs).ok w0) (hD : ∀ k ∈ [t, c], k ∉ [p, b])  :
    Calls Tryz.prog 57 #[.agg #[.pointer (some ⟨p, 0, none⟩), .pointer (some ⟨t, 0, none⟩)], .int .i64 a, .int .i64 n, .int .i64 m] w0 (Ret [p, b] w0 (fun v w => (layE ws cs a n m = 0 ∧ v = .int .i64 0 ∧ (arenaR p b (layW ws cs a n m)).ok w) ∨ (layE ws cs a n m ≠ 0 ∧ v = .int .i64 (layE ws cs a n m) ∧ (arenaR p b ws).ok w))) := by
  have hp : Hp w0 [p, b] [arenaR p b ws] w0 := Hp.one hA (arena_nd hA)
  have hsma := arena_small hA
  refine enter (vs := [.agg #[.pointer (some ⟨p, 0, none⟩), .pointer (some ⟨t, 0, none⟩)], .int .i64 a, .int .i64 n, .int .i64 m]) Tryz.func57 rfl rfl rfl ?_
  refine gen_world hp ?_
  intro w hp
  refine W.sr ?_
  refine WL.box hp rfl (cs := #[.pointer (some ⟨p, 0, none⟩), .pointer (some ⟨t, 0, none⟩)]) rfl rfl ?_
  intro b1 w hp
  refine WL.run 1 rfl ?_
  refine WL.a ?_
  refine WL.run 1 rfl ?_
  refine WL.v (X.ldk (hp.at 0 rfl) tA30 rfl rfl) ?_
  refine WL.run 2 rfl ?_
  refine WL.call isFn84 rfl rfl (twords_c (n := n) (m := m) (hp.old hT hD)) ?_
  intro v w hc hr
  rcases hr with ⟨he2, rfl⟩ | ⟨he2, rfl⟩
  · have hp := hp.ext hc
    have hsb := shape_bd (hp.old hT hD) he2
    refine WL.run 5 rfl ?_
    refine WL.s ?_
    refine W.sr ?_
    refine WL.run 2 rfl ?_
    refine WL.fin ?_
    refine W.cF rfl (decide_eq_false (by decide)) ?_
    refine W.k ?_
    refine W.seq ?_
    refine W.sr ?_
    refine WL.v (X.ldkA (hp.at 0 rfl) tA32 tS32 (vs := [.pointer (some ⟨p, 0, none⟩), .pointer (some ⟨t, 0, none⟩)]) rfl rfl) ?_
    refine WL.run 2 rfl ?_
    refine WL.call isFn81 rfl rfl (there_c (a := a) (k := 2 + ((cget cs n).refs + m) + (cget cs n).data) (hp.at 1 rfl)) ?_
    intro v w hc hr
    obtain rfl := hr
    have hp := hp.ext hc
    refine WL.run 1 rfl ?_
    refine WL.fin ?_
    by_cases hc4 : thereB ws.length a (2 + ((cget cs n).refs + m) + (cget cs n).data) = true
    · have hc4_ := thereB_t hc4
      refine W.cF rfl (congrArg not hc4) ?_
      refine W.ks ?_
      refine WL.run 1 rfl ?_
      refine WL.v (X.ldk (hp.at 0 rfl) tA30 rfl rfl) ?_
      refine WL.run 1 rfl ?_
      refine WL.call isFn85 rfl rfl (tof_c (n := n) (hp.old hT hD)) ?_
      intro v w hc hr
      rcases hr with ⟨hq5, hq6, rfl⟩ | ⟨hq7, rfl⟩
      · have hp := hp.ext hc
        refine WL.run 3 rfl ?_
        refine WL.alloc hp tZ111 rfl ?_
        intro b8 w hp
        refine WL.store hp 0 rfl tS111 rfl rfl (vs := [.int .i64 ((cget cs n).kind), .int .i64 ((cget cs n).refs), .int .i64 ((cget cs n).data), .bool ((cget cs n).final)]) rfl rfl rfl (new := #[.int .i64 ((cget cs n).kind), .int .i64 ((cget cs n).refs), .int .i64 ((cget cs n).data), .bool ((cget cs n).final)]) rfl ?_
        intro w hp
        refine WL.run 1 rfl ?_
        refine WL.s ?_
        have hsm := table_small (hp.old hT hD)
        have hLR : hdR (⟨n, 0, 0, false, (cget cs n).final, false⟩ : Hd) = true := hdR_lay (by omega)
        refine W.reg ?_
        refine WL.run 2 rfl ?_
        refine WL.v (X.ldk (hp.at 0 rfl) tA4 rfl rfl) ?_
        refine WL.v (X.bld (v := .agg #[.int .i64 n, .int .i64 0, .int .i64 0, .bool false, .bool ((cget cs n).final), .bool false]) rfl (by kernel_rfl)) ?_
        refine WL.call isFn82 rfl rfl (word_c (h := (⟨n, 0, 0, false, (cget cs n).final, false⟩ : Hd))) ?_
        intro v w hc hr
        rcases hr with ⟨hw9, rfl⟩ | ⟨hw9, rfl⟩
        · have hp := hp.ext hc
          refine WL.run 5 rfl ?_
          refine WL.a ?_
          refine WL.run 1 rfl ?_
          refine WL.v (X.ldk (hp.at 1 rfl) tA29 rfl rfl) ?_
          refine WL.run 2 rfl ?_
          refine WL.call isFn86 rfl rfl (fill_c (a := a) (k := 2 + ((cget cs n).refs + m) + (cget cs n).data) (x := 0) (hp.at 2 rfl)) ?_
          intro v w hc hr
          rcases hr with ⟨hf10, hf11, hf12, rfl, hA⟩ | ⟨hf13, rfl, hA⟩
          · have hp := hp.arena 2 rfl hc hA
            refine WL.a ?_
            refine WL.run 1 rfl ?_
            refine WL.v (X.ldk (hp.at 1 rfl) tA29 rfl rfl) ?_
            refine WL.run 2 rfl ?_
            refine WL.call isFn83 rfl rfl (store_c (a := a) (x := hdW (⟨n, 0, 0, false, (cget cs n).final, false⟩ : Hd)) (hp.at 2 rfl)) ?_
            intro v w hc hr
            rcases hr with ⟨hf14, hf15, rfl, hA⟩ | ⟨hf16, rfl, hA⟩
            · have hp := hp.arena 2 rfl hc hA
              refine WL.a ?_
              refine WL.run 1 rfl ?_
              refine WL.v (X.ldk (hp.at 1 rfl) tA29 rfl rfl) ?_
              refine WL.run 1 rfl ?_
              refine WL.v (X.add rfl rfl (in64 (by omega))) ?_
              refine WL.run 1 rfl ?_
              refine WL.call isFn83 rfl rfl (store_c (a := a + 1) (x := m) (hp.at 2 rfl)) ?_
              intro v w hc hr
              rcases hr with ⟨hf17, hf18, rfl, hA⟩ | ⟨hf19, rfl, hA⟩
              · have hp := hp.arena 2 rfl hc hA
                refine WL.run 1 rfl ?_
                refine WL.fin ?_
                refine W.ret ?_
                refine W.done hp (rs := [.tmp 8]) (vs := [.int .i64 0]) (v := .int .i64 0) rfl ⟨rfl, trivial⟩ rfl ?_
                exact .inl ⟨by unfold layE; rw [if_neg (not_not_intro he2), if_neg (not_not_intro (show thereB ws.length a (layWords cs n m) = true from hc4))], rfl, hp.at 2 rfl⟩
              (try simp only [fillW_length, moveW_length, List.length_set] at hf19); first | contradiction | (exfalso; omega) | (exfalso; simp_all; done)
            (try simp only [fillW_length, moveW_length, List.length_set] at hf16); first | contradiction | (exfalso; omega) | (exfalso; simp_all; done)
          (try simp only [fillW_length, moveW_length, List.length_set] at hf13); first | contradiction | (exfalso; omega) | (exfalso; simp_all; done)
        (try simp only [fillW_length, moveW_length, List.length_set] at hw9); first | contradiction | (exfalso; omega) | (exfalso; simp_all; done)
      (try simp only [fillW_length, moveW_length, List.length_set] at hq7); first | contradiction | (exfalso; omega) | (exfalso; simp_all; done)
    have hc4_ := thereB_f hc4
    refine W.cT rfl (congrArg not (Bool.eq_false_iff.2 hc4)) ?_
    refine W.sr ?_
    refine WL.run 1 rfl ?_
    refine WL.fin ?_
    refine W.ret ?_
    refine X.thenR ?_
    refine W.done hp (rs := [.tmp 8]) (vs := [.int .i64 2]) (v := .int .i64 2) rfl ⟨rfl, trivial⟩ rfl ?_
    exact .inr ⟨by unfold layE; rw [if_neg (not_not_intro he2), if_pos (show ¬ thereB ws.length a (layWords cs n m) = true from hc4)]; decide, by rw [show layE ws cs a n m = 2 from by unfold layE; rw [if_neg (not_not_intro he2), if_pos (show ¬ thereB ws.length a (layWords cs n m) = true from hc4)]], hp.at 1 rfl⟩
  have hp := hp.ext hc
  refine WL.run 5 rfl ?_
  refine WL.s ?_
  refine W.sr ?_
  refine WL.run 2 rfl ?_
  refine WL.fin ?_
  refine W.cT rfl (decide_eq_true he2) ?_
  refine W.sr ?_
  refine WL.run 2 rfl ?_
  refine WL.fin ?_
  refine W.ret ?_
  refine X.thenR ?_
  refine W.done hp (rs := [.tmp 8]) (vs := [.int .i64 (shapeE cs n m)]) (v := .int .i64 (shapeE cs n m)) rfl ⟨rfl, trivial⟩ rfl ?_
  exact .inr ⟨by unfold layE; rw [if_pos he2]; exact he2, by rw [show layE ws cs a n m = shapeE cs n m from by unfold layE; rw [if_pos he2]], hp.at 1 rfl⟩

theorem gap_c {w0 : World} {p b t c : Nat} {ws : List Int} {cs : List Cls} {a k : Int} (hA : (arenaR p b ws).ok w0) (hT : (tableR t c cs).ok w0) (hD : ∀ k ∈ [t, c], k ∉ [p, b])  :
    Calls Tryz.prog 55 #[.agg #[.pointer (some ⟨p, 0, none⟩), .pointer (some ⟨t, 0, none⟩)], .int .i64 a, .int .i64 k] w0 (Ret [p, b] w0 (fun v w => (gapE ws a k = 0 ∧ v = .int .i64 0 ∧ (arenaR p b (gapW ws a k)).ok w) ∨ (gapE ws a k ≠ 0 ∧ v = .int .i64 (gapE ws a k) ∧ (arenaR p b ws).ok w))) := by
  have hp : Hp w0 [p, b] [arenaR p b ws] w0 := Hp.one hA (arena_nd hA)
  have hsma := arena_small hA
  refine enter (vs := [.agg #[.pointer (some ⟨p, 0, none⟩), .pointer (some ⟨t, 0, none⟩)], .int .i64 a, .int .i64 k]) Tryz.func55 rfl rfl rfl ?_
  refine gen_world hp ?_
  intro w hp
  refine W.sr ?_
  refine WL.box hp rfl (cs := #[.pointer (some ⟨p, 0, none⟩), .pointer (some ⟨t, 0, none⟩)]) rfl rfl ?_
  intro b1 w hp
  refine WL.run 1 rfl ?_
  refine WL.c ?_
  refine W.sr ?_
  refine WL.run 3 rfl ?_
  refine WL.fin ?_
  by_cases hc2 : k < 1
  · refine W.cT rfl (decide_eq_true hc2) ?_
    refine W.sr ?_
    refine WL.run 1 rfl ?_
    refine WL.fin ?_
    refine W.ret ?_
    refine X.inR ?_
    refine X.thenR ?_
    refine W.done hp (rs := [.tmp 6]) (vs := [.int .i64 1]) (v := .int .i64 1) rfl ⟨rfl, trivial⟩ rfl ?_
    exact .inr ⟨by unfold gapE; rw [if_pos (by omega)]; decide, by rw [show gapE ws a k = 1 from by unfold gapE; rw [if_pos (by omega)]], hp.at 1 rfl⟩
  refine W.cF rfl (decide_eq_false hc2) ?_
  refine W.sr ?_
  refine WL.v (X.ldkA (hp.at 0 rfl) tA32 tS32 (vs := [.pointer (some ⟨p, 0, none⟩), .pointer (some ⟨t, 0, none⟩)]) rfl rfl) ?_
  refine WL.run 2 rfl ?_
  refine WL.call isFn81 rfl rfl (there_c (a := a) (k := k) (hp.at 1 rfl)) ?_
  intro v w hc hr
  obtain rfl := hr
  have hp := hp.ext hc
  refine WL.run 2 rfl ?_
  refine WL.fin ?_
  by_cases hc3 : thereB ws.length a k = true
  · have hc3_ := thereB_t hc3
    refine W.cF rfl (congrArg not hc3) ?_
    refine W.skip ?_
    refine X.inN ?_
    refine X.thenN ?_
    refine W.seq ?_
    have hLR : hdR (⟨0, 0, 0, decide (k = 1), false, false⟩ : Hd) = true := hdR_gap
    refine W.reg ?_
    refine WL.run 2 rfl ?_
    refine WL.v (X.bld (v := .agg #[.int .i64 0, .int .i64 0, .int .i64 0, .bool (decide (k = 1)), .bool false, .bool false]) rfl (by kernel_rfl)) ?_
    refine WL.call isFn82 rfl rfl (word_c (h := (⟨0, 0, 0, decide (k = 1), false, false⟩ : Hd))) ?_
    intro v w hc hr
    rcases hr with ⟨hw4, rfl⟩ | ⟨hw4, rfl⟩
    · have hp := hp.ext hc
      refine WL.run 5 rfl ?_
      refine WL.a ?_
      refine WL.run 1 rfl ?_
      refine WL.v (X.ldk (hp.at 0 rfl) tA29 rfl rfl) ?_
      refine WL.run 2 rfl ?_
      refine WL.call isFn83 rfl rfl (store_c (a := a) (x := hdW (⟨0, 0, 0, decide (k = 1), false, false⟩ : Hd)) (hp.at 1 rfl)) ?_
      intro v w hc hr
      rcases hr with ⟨hf5, hf6, rfl, hA⟩ | ⟨hf7, rfl, hA⟩
      · have hp := hp.arena 1 rfl hc hA
        refine WL.s ?_
        refine W.sr ?_
        refine WL.run 2 rfl ?_
        refine WL.fin ?_
        by_cases hc8 : 1 < k
        · refine W.cT rfl (decide_eq_true hc8) ?_
          refine W.reg ?_
          refine WL.run 1 rfl ?_
          refine WL.v (X.ldk (hp.at 0 rfl) tA29 rfl rfl) ?_
          refine WL.run 1 rfl ?_
          refine WL.v (X.add rfl rfl (in64 (by omega))) ?_
          refine WL.run 1 rfl ?_
          refine WL.call isFn83 rfl rfl (store_c (a := a + 1) (x := k) (hp.at 1 rfl)) ?_
          intro v w hc hr
          rcases hr with ⟨hf9, hf10, rfl, hA⟩ | ⟨hf11, rfl, hA⟩
          · have hp := hp.arena 1 rfl hc hA
            refine WL.a ?_
            refine WL.run 1 rfl ?_
            refine WL.fin ?_
            refine W.ret ?_
            refine W.done hp (rs := [.tmp 6]) (vs := [.int .i64 0]) (v := .int .i64 0) rfl ⟨rfl, trivial⟩ rfl ?_
            exact .inl ⟨by unfold gapE; rw [if_neg (by omega), if_neg (not_not_intro hc3)], rfl, by unfold gapW; rw [if_pos (by omega)]; exact hp.at 1 rfl⟩
          (try simp only [fillW_length, moveW_length, List.length_set] at hf11); first | contradiction | (exfalso; omega) | (exfalso; simp_all; done)
        refine W.cF rfl (decide_eq_false hc8) ?_
        refine W.ks ?_
        refine WL.run 1 rfl ?_
        refine WL.fin ?_
        refine W.ret ?_
        refine W.done hp (rs := [.tmp 6]) (vs := [.int .i64 0]) (v := .int .i64 0) rfl ⟨rfl, trivial⟩ rfl ?_
        exact .inl ⟨by unfold gapE; rw [if_neg (by omega), if_neg (not_not_intro hc3)], rfl, by unfold gapW; rw [if_neg (by omega)]; exact hp.at 1 rfl⟩
      (try simp only [fillW_length, moveW_length, List.length_set] at hf7); first | contradiction | (exfalso; omega) | (exfalso; simp_all; done)
    (try simp only [fillW_length, moveW_length, List.length_set] at hw4); first | contradiction | (exfalso; omega) | (exfalso; simp_all; done)
  have hc3_ := thereB_f hc3
  refine W.cT rfl (congrArg not (Bool.eq_false_iff.2 hc3)) ?_
  refine W.sr ?_
  refine WL.run 1 rfl ?_
  refine WL.fin ?_
  refine W.ret ?_
  refine X.inR ?_
  refine X.thenR ?_
  refine W.done hp (rs := [.tmp 6]) (vs := [.int .i64 2]) (v := .int .i64 2) rfl ⟨rfl, trivial⟩ rfl ?_
  exact .inr ⟨by unfold gapE; rw [if_neg (by omega), if_pos hc3]; decide, by rw [show gapE ws a k = 2 from by unfold gapE; rw [if_neg (by omega), if_pos hc3]], hp.at 1 rfl⟩

theorem walk_c {w0 : World} {p b t c : Nat} {ws : List Int} {cs : List Cls} {fr to : Int} (hA : (arenaR p b ws).ok w0) (hT : (tableR t c cs).ok w0) (hfr : 0 ≤ fr ∧ fr ≤ 4096) (hto : 0 ≤ to ∧ to ≤ 4096) :
    Calls Tryz.prog 92 #[.agg #[.pointer (some ⟨p, 0, none⟩), .pointer (some ⟨t, 0, none⟩)], .int .i64 fr, .int .i64 to] w0 (Ret [] w0 (fun v w => ((walk ws cs fr to).1 = 0 ∧ ∃ s, v = .tuple #[s, .int .i64 0] ∧ New w0 w (ownR 3 encI 1 s (walk ws cs fr to).2)) ∨ ((walk ws cs fr to).1 ≠ 0 ∧ v = .tuple #[.slice none 0 0, .int .i64 (walk ws cs fr to).1]))) := by
  have hp : Hp w0 [] [] w0 := Hp.init w0
  refine enter (vs := [.agg #[.pointer (some ⟨p, 0, none⟩), .pointer (some ⟨t, 0, none⟩)], .int .i64 fr, .int .i64 to]) Tryz.func92 rfl rfl rfl ?_
  refine gen_world hp ?_
  intro w hp
  refine W.sr ?_
  refine WL.box hp rfl (cs := #[.pointer (some ⟨p, 0, none⟩), .pointer (some ⟨t, 0, none⟩)]) rfl rfl ?_
  intro b1 w hp
  refine WL.run 2 rfl ?_
  refine WL.fin ?_
  refine W.scope (X := Nat × Int × Value × List Int × Nat) 0 rfl (fun x_ => match x_ with | (k, _, _, _, _) => k) (fun x_ => match x_ with | (k, at_, v, out, b1) => [(2, .int .i64 to), (3, .pointer (some ⟨b1, 0, none⟩)), (8, v), (9, .int .i64 at_)]) (fun x_ w => match x_ with | (k, at_, v, out, b1) => Hp w0 [] [ownR 3 encI 1 v out, blkR b1 (.cells (#[.pointer (some ⟨p, 0, none⟩), .pointer (some ⟨t, 0, none⟩)]) 32 (0, 0))] w ∧ walk ws cs fr to = walkF ws cs k at_ to out ∧ (to - at_).toNat < k ∧ fr ≤ at_ ∧ at_ ≤ max fr to ∧ (out.length : Int) ≤ at_ - fr) ?pass ?first
  case pass =>
    rintro ⟨k, at_, v, out, b1⟩ w ⟨hp, hW, hk, hlo, hhi, hlen⟩
    obtain ⟨k, rfl⟩ : ∃ m, k = m + 1 := ⟨k - 1, by omega⟩
    refine W.seq ?_
    refine W.sr ?_
    refine WL.run 3 rfl ?_
    refine WL.fin ?_
    by_cases hc2 : to ≤ at_
    · refine W.cT rfl (decide_eq_true hc2) ?_
      refine W.sr ?_
      refine WL.run 3 rfl ?_
      refine WL.fin ?_
      refine W.ret ?_
      refine X.thenR ?_
      refine X.jmpR ?_
      refine W.done hp (rs := [.tmp 6, .tmp 7]) (vs := [v, .int .i64 0]) (v := .tuple #[v, .int .i64 0]) rfl ⟨rfl, rfl, trivial⟩ rfl ?_
      have hz := walkF_stop (ws := ws) (cs := cs) (k := k) (acc := out) (by assumption)
      exact .inl ⟨by rw [hW, hz], v, rfl, by rw [hW, hz]; exact hp.newAt 0 rfl⟩
    refine W.cF rfl (decide_eq_false hc2) ?_
    refine W.ks ?_
    refine WL.v (X.ldkA (hp.at 1 rfl) tA32 tS32 (vs := [.pointer (some ⟨p, 0, none⟩), .pointer (some ⟨t, 0, none⟩)]) rfl rfl) ?_
    refine WL.run 1 rfl ?_
    refine WL.call isFn88 rfl rfl (at_c (a := at_) (hp.old0 hA) (hp.old0 hT)) ?_
    intro v w hc hr
    obtain rfl := hr
    have hp := hp.ext hc
    refine WL.run 3 rfl ?_
    refine WL.alloc hp tZ128 rfl ?_
    intro b3 w hp
    refine WL.store hp 0 rfl tS128 rfl rfl (vs := [.int .i64 ((atT ws cs at_).hd.cls), .int .i64 ((atT ws cs at_).hd.age), .int .i64 ((atT ws cs at_).hd.fwd), .bool ((atT ws cs at_).hd.mark), .bool ((atT ws cs at_).hd.final), .bool ((atT ws cs at_).hd.done), .int .i64 ((atT ws cs at_).refs), .int .i64 ((atT ws cs at_).data), .int .i64 ((atT ws cs at_).words)]) rfl rfl rfl (new := #[.int .i64 ((atT ws cs at_).hd.cls), .int .i64 ((atT ws cs at_).hd.age), .int .i64 ((atT ws cs at_).hd.fwd), .bool ((atT ws cs at_).hd.mark), .bool ((atT ws cs at_).hd.final), .bool ((atT ws cs at_).hd.done), .int .i64 ((atT ws cs at_).refs), .int .i64 ((atT ws cs at_).data), .int .i64 ((atT ws cs at_).words)]) rfl ?_
    intro w hp
    refine WL.run 1 rfl ?_
    refine WL.s ?_
    refine W.sr ?_
    refine WL.run 2 rfl ?_
    refine WL.fin ?_
    by_cases hc4 : (atE ws cs at_) ≠ 0
    · refine W.cT rfl (decide_eq_true hc4) ?_
      refine W.sr ?_
      refine WL.run 3 rfl ?_
      refine WL.fin ?_
      refine W.ret ?_
      refine X.thenR ?_
      refine X.jmpR ?_
      refine W.done hp (rs := [.tmp 6, .tmp 7]) (vs := [.slice none 0 0, .int .i64 (atE ws cs at_)]) (v := .tuple #[.slice none 0 0, .int .i64 (atE ws cs at_)]) rfl ⟨rfl, rfl, trivial⟩ rfl ?_
      have hz := walkF_err (k := k) (acc := out) (by assumption) (by assumption)
      exact .inr ⟨by rw [hW, hz]; assumption, by rw [hW, hz]⟩
    refine W.cF rfl (decide_eq_false hc4) ?_
    refine W.k ?_
    refine W.seq ?_
    refine W.seq ?_
    have hbd := atT_bd (ws := ws) (a := at_) (table_all hT) (Classical.not_not.1 (by assumption))
    refine W.reg ?_
    refine WL.run 1 rfl ?_
    refine WL.v (X.ldk (hp.at 0 rfl) tA3 rfl rfl) ?_
    refine WL.run 2 rfl ?_
    refine WL.v (X.sub rfl rfl (in64 (by omega))) ?_
    refine WL.run 1 rfl ?_
    refine WL.fin ?_
    by_cases hc5 : (to - at_) < ((atT ws cs at_).words)
    · refine W.cT rfl (decide_eq_true hc5) ?_
      refine W.sr ?_
      refine WL.run 2 rfl ?_
      refine WL.fin ?_
      refine W.ret ?_
      refine X.thenR ?_
      refine X.jmpR ?_
      refine W.done hp (rs := [.tmp 6, .tmp 7]) (vs := [.slice none 0 0, .int .i64 12]) (v := .tuple #[.slice none 0 0, .int .i64 12]) rfl ⟨rfl, rfl, trivial⟩ rfl ?_
      have hz := walkF_over (k := k) (acc := out) (by assumption) (by assumption) (by assumption)
      exact .inr ⟨by rw [hW, hz]; decide, by rw [hW, hz]⟩
    refine W.cF rfl (decide_eq_false hc5) ?_
    refine W.k ?_
    refine W.seq ?_
    refine W.sr ?_
    refine WL.v (X.ldkA (hp.at 0 rfl) tA128 tS128 (vs := [.int .i64 ((atT ws cs at_).hd.cls), .int .i64 ((atT ws cs at_).hd.age), .int .i64 ((atT ws cs at_).hd.fwd), .bool ((atT ws cs at_).hd.mark), .bool ((atT ws cs at_).hd.final), .bool ((atT ws cs at_).hd.done), .int .i64 ((atT ws cs at_).refs), .int .i64 ((atT ws cs at_).data), .int .i64 ((atT ws cs at_).words)]) rfl rfl) ?_
    refine WL.call isFn89 rfl rfl (is_c (x := (atT ws cs at_))) ?_
    intro v w hc hr
    obtain rfl := hr
    have hp := hp.ext hc
    refine WL.fin ?_
    by_cases hc6 : ((atT ws cs at_).hd.cls) ≠ 0
    · refine W.cT rfl (decide_eq_true hc6) ?_
      refine W.reg ?_
      refine WL.run 2 rfl ?_
      refine WL.bsl hp (e := 3) (cs := #[.int .i64 at_]) rfl (fun _ => by kernel_rfl) rfl ?_
      intro b7 w hp
      refine WL.append hp 2 rfl tL34 (zeroT_ex tZ3) tS3 tY3 rfl rfl (view_of_blk (l := [at_]) hp 0 rfl encI_len (by omega) rfl (by simp) (by simp)) encI_one (by simp only [List.length_append, List.length_cons, List.length_nil]; omega) rfl ?_
      intro v8 w hp
      refine WL.run 1 rfl ?_
      refine WL.s ?_
      have hbd := atT_bd (ws := ws) (a := at_) (table_all hT) (Classical.not_not.1 (by assumption))
      refine W.reg ?_
      refine WL.run 2 rfl ?_
      refine WL.v (X.ldk (hp.at 1 rfl) tA3 rfl rfl) ?_
      refine WL.v (X.add rfl rfl (in64 (by omega))) ?_
      refine WL.run 1 rfl ?_
      refine WL.fin ?_
      refine W.goto ?_
      refine X.jmpA (k, at_ + ((atT ws cs at_).words), v8, out ++ [at_], b1) ⟨rfl, rfl, rfl, rfl, trivial⟩ ?_ ?_
      · exact ⟨(hp.sel [2, 3] (by decide)), by rw [hW, walkF_obj (by assumption) (by assumption) (by assumption) (by assumption)], by omega, by omega, by omega, by (try simp only [List.length_append, List.length_cons, List.length_nil]); omega⟩
      · dsimp only; omega
    refine W.cF rfl (decide_eq_false hc6) ?_
    refine W.k ?_
    refine W.seq ?_
    have hbd := atT_bd (ws := ws) (a := at_) (table_all hT) (Classical.not_not.1 (by assumption))
    refine W.reg ?_
    refine WL.run 2 rfl ?_
    refine WL.v (X.ldk (hp.at 0 rfl) tA3 rfl rfl) ?_
    refine WL.v (X.add rfl rfl (in64 (by omega))) ?_
    refine WL.run 1 rfl ?_
    refine WL.fin ?_
    refine W.goto ?_
    refine X.jmpA (k, at_ + ((atT ws cs at_).words), v, out, b1) ⟨rfl, rfl, rfl, rfl, trivial⟩ ?_ ?_
    · exact ⟨(hp.sel [1, 2] (by decide)), by rw [hW, walkF_gap (by assumption) (by assumption) (by assumption) (by assumption)], by omega, by omega, by omega, by (try simp only [List.length_append, List.length_cons, List.length_nil]); omega⟩
    · dsimp only; omega
  case first =>
    intro land
    refine W.sr ?_
    refine WL.run 1 rfl ?_
    refine WL.s ?_
    have hp := hp.addNil 3 encI 1 encI_len (by omega)
    refine W.reg ?_
    refine WL.run 2 rfl ?_
    refine WL.s ?_
    refine W.label ?_
    refine X.thenN ?_
    refine land ((to - fr).toNat + 1, fr, .slice none 0 0, [], b1) _ _ ⟨rfl, rfl, rfl, rfl, trivial⟩ ?_
    exact ⟨hp, rfl, by omega, by omega, by omega, by simp⟩
end Go.Proofs.YtmmmbkmjkpfleaaGreat
