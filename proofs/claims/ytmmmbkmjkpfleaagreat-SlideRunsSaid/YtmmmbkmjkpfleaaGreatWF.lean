/- Walks, printed by gen.py from the specs F: what each function answers. No statement of the seat is proved here; conditions: each theorem's own. -/
import Derived.Test.YtmmmbkmjkpfleaaGreatPureH
import Derived.Test.YtmmmbkmjkpfleaaGreatWE
namespace Go.Proofs.YtmmmbkmjkpfleaaGreat
open Go Go.RowKit

theorem same_c {w0 : World} {s y : Value} {l k : List Int} (hV : (viewR encI 1 s l).ok w0) (hY : (viewR encI 1 y k).ok w0) :
    Calls Tryz.prog 10 #[s, y] w0 (Ret [] w0 (fun v _ => v = .bool (sameB l k))) := by
  have hp : Hp w0 [] [] w0 := Hp.init w0
  have hle := view_len_le hV
  have hle2 := view_len_le hY
  refine enter (vs := [s, y]) Tryz.func10 rfl rfl rfl ?_
  refine gen_world hp ?_
  intro w hp
  refine W.sr ?_
  refine WL.run 1 rfl ?_
  refine WL.s ?_
  refine W.sr ?_
  refine WL.run 1 rfl ?_
  refine WL.v (view_len tL34 (hp.old0 hV) rfl) ?_
  refine WL.run 1 rfl ?_
  refine WL.v (view_len tL34 (hp.old0 hY) rfl) ?_
  refine WL.run 1 rfl ?_
  refine WL.fin ?_
  by_cases hc1 : (l.length : Int) ≠ (k.length : Int)
  · refine W.cT rfl (decide_eq_true hc1) ?_
    refine W.sr ?_
    refine WL.run 1 rfl ?_
    refine WL.fin ?_
    refine W.ret ?_
    refine X.thenR ?_
    refine W.done hp (rs := [.tmp 4]) (vs := [.bool false]) (v := .bool false) rfl ⟨rfl, trivial⟩ rfl ?_
    rw [same_no (fun q => by have := congrArg List.length q; omega)]
  refine W.cF rfl (decide_eq_false hc1) ?_
  refine W.k ?_
  refine W.seq ?_
  refine W.sr ?_
  refine WL.run 1 rfl ?_
  refine WL.v (view_len tL34 (hp.old0 hV) rfl) ?_
  refine WL.run 1 rfl ?_
  refine WL.fin ?_
  refine W.block ?_
  refine W.loop (X := Nat) (fun i => l.length - i) (fun i => [(0, s), (1, y), (12, .int .i64 (l.length : Int)), (13, .int .i64 (i : Int))]) (fun i w => Hp w0 [] [] w ∧ i ≤ l.length ∧ ∀ q : Nat, q < i → l.getD q default = k.getD q default) 0 ⟨rfl, rfl, rfl, rfl, trivial⟩ ?_ ?_
  · exact ⟨hp, by omega, by omega⟩
  rintro i w ⟨hp, hi, hno⟩
  refine W.sr ?_
  refine WL.run 1 rfl ?_
  refine WL.s ?_
  by_cases hc2 : (i : Int) < (l.length : Int)
  · refine W.cT rfl (decide_eq_true hc2) ?_
    refine W.k ?_
    refine W.seq ?_
    refine W.block ?_
    refine W.seq ?_
    have hll : l.length = k.length := by omega
    have hlt : i < l.length := by omega
    refine W.reg ?_
    refine WL.run 2 rfl ?_
    refine WL.s ?_
    refine W.draw prog_mixed (fun w => (viewR encI 1 s l).ok w ∧ (viewR encI 1 y k).ok w ∧ True) hp ?_
    intro w hp
    refine WD.s ⟨hp.old0 hV, hp.old0 hY, trivial⟩ fun hS0 => ?_
    refine WD.v 0 rfl hS0 (fun w hS => (X.mv rfl)) ?_
    refine WD.v 1 rfl hS0 (fun w hS => (X.mv rfl)) ?_
    refine WD.v 2 rfl hS0 (fun w hS => (X.idxV (j := i) (r := offOf s + i * 1) tL34 tS3 hS.1 rfl rfl (by omega) (by omega) rfl)) ?_
    refine WD.v 3 rfl hS0 (fun w hS => (X.ld1 tA3 rfl (view_cell (j := i) (f := 0) hS.1 (get_some (by omega)) rfl (by omega)))) ?_
    refine WD.v 4 rfl hS0 (fun w hS => (X.mv rfl)) ?_
    refine WD.v 5 rfl hS0 (fun w hS => (X.mv rfl)) ?_
    refine WD.v 6 rfl hS0 (fun w hS => (X.idxV (j := i) (r := offOf y + i * 1) tL34 tS3 hS.2.1 rfl rfl (by omega) (by omega) rfl)) ?_
    refine WD.v 7 rfl hS0 (fun w hS => (X.ld1 tA3 rfl (view_cell (j := i) (f := 0) hS.2.1 (get_some (by omega)) rfl (by omega)))) ?_
    refine WD.v 8 rfl hS0 (fun w hS => (X.neq rfl rfl)) ?_
    refine WD.nil (by kernel_rfl) ?_
    refine X.thenN ?_
    by_cases hc3 : (l.getD i default) ≠ (k.getD i default)
    · refine W.cT rfl (decide_eq_true hc3) ?_
      refine W.sr ?_
      refine WL.run 1 rfl ?_
      refine WL.fin ?_
      refine W.ret ?_
      refine X.inR ?_
      refine X.thenR ?_
      refine X.thenR ?_
      refine X.inR ?_
      refine X.thenR ?_
      refine W.done hp (rs := [.tmp 4]) (vs := [.bool false]) (v := .bool false) rfl ⟨rfl, trivial⟩ rfl ?_
      rw [same_no (fun q => by have h9 : ¬ l.getD i default = k.getD i default := by assumption
                               exact h9 (by rw [q]))]
    refine W.cF rfl (decide_eq_false hc3) ?_
    refine W.skip ?_
    refine X.inN ?_
    refine X.thenN ?_
    refine W.reg ?_
    refine WL.v (X.add rfl rfl (in64 (by omega))) ?_
    refine WL.run 1 rfl ?_
    refine WL.nil ?_
    refine X.again (i + 1) ⟨rfl, rfl, rfl, rfl, trivial⟩ ?_ ?_
    · exact ⟨hp, by omega, fun q hq => by
        by_cases hqi : q = i
        · rw [hqi]; exact Classical.not_not.1 (by assumption)
        · exact hno q (by omega)⟩
    · omega
  refine W.cF rfl (decide_eq_false hc2) ?_
  refine W.exit ?_
  refine X.thenE ?_
  refine X.thenE ?_
  refine X.inH ?_
  refine X.thenN ?_
  refine W.seq ?_
  have hll : l.length = k.length := by omega
  refine W.reg ?_
  refine WL.run 1 rfl ?_
  refine WL.fin ?_
  refine W.ret ?_
  refine W.done hp (rs := [.tmp 4]) (vs := [.bool true]) (v := .bool true) rfl ⟨rfl, trivial⟩ rfl ?_
  rw [same_yes hll (fun q hq => hno q (by omega))]

theorem there1_c {w0 : World} {q : Nat} {wv : Value} {ws : List Int} (hQ : (blkR q (.cells (#[wv]) 59 (0, 0))).ok w0)  (hW : (viewR encI 1 wv ws).ok w0) {a k : Int} :
    Calls Tryz.prog 78 #[.pointer (some ⟨q, 0, none⟩), .int .i64 a, .int .i64 k] w0 (Ret [] w0 (fun v _ => v = .bool (decide (0 ≤ k ∧ 0 ≤ a ∧ a ≤ (ws.length : Int) ∧ k ≤ (ws.length : Int) - a)))) := by
  have hp : Hp w0 [] [] w0 := Hp.init w0
  have hle := view_len_le hW
  refine enter (vs := [.pointer (some ⟨q, 0, none⟩), .int .i64 a, .int .i64 k]) Tryz.func78 rfl rfl rfl ?_
  refine gen_world hp ?_
  intro w hp
  refine W.sr ?_
  refine WL.run 1 rfl ?_
  refine WL.a ?_
  refine WL.run 3 rfl ?_
  by_cases hc1 : 0 ≤ k
  · refine WL.g1 rfl rfl (decide_eq_true hc1) ?_
    refine WL.run 1 rfl ?_
    refine WL.g1 rfl rfl (decide_eq_true hc1) ?_
    refine WL.run 1 rfl ?_
    refine WL.v (X.pkT rfl (decide_eq_true hc1) rfl) ?_
    refine WL.run 1 rfl ?_
    by_cases hc2 : 0 ≤ a
    · refine WL.g1 rfl rfl (decide_eq_true hc2) ?_
      refine WL.run 1 rfl ?_
      refine WL.g1 rfl rfl (decide_eq_true hc2) ?_
      refine WL.run 1 rfl ?_
      refine WL.g1 rfl rfl (decide_eq_true hc2) ?_
      refine WL.run 1 rfl ?_
      refine WL.g1 rfl rfl (decide_eq_true hc2) ?_
      refine WL.run 1 rfl ?_
      refine WL.g1 rfl rfl (decide_eq_true hc2) ?_
      refine WL.v (X.ldk (hp.old0 hQ) tA34 rfl rfl) ?_
      refine WL.g1 rfl rfl (decide_eq_true hc2) ?_
      refine WL.v (view_len tL34 (hp.old0 hW) rfl) ?_
      refine WL.g1 rfl rfl (decide_eq_true hc2) ?_
      refine WL.run 1 rfl ?_
      refine WL.v (X.pkT rfl (decide_eq_true hc2) rfl) ?_
      refine WL.run 1 rfl ?_
      by_cases hc3 : a ≤ (ws.length : Int)
      · refine WL.g1 rfl rfl (decide_eq_true hc3) ?_
        refine WL.run 1 rfl ?_
        refine WL.g1 rfl rfl (decide_eq_true hc3) ?_
        refine WL.run 1 rfl ?_
        refine WL.g1 rfl rfl (decide_eq_true hc3) ?_
        refine WL.run 1 rfl ?_
        refine WL.g1 rfl rfl (decide_eq_true hc3) ?_
        refine WL.run 1 rfl ?_
        refine WL.g1 rfl rfl (decide_eq_true hc3) ?_
        refine WL.v (X.ldk (hp.old0 hQ) tA34 rfl rfl) ?_
        refine WL.g1 rfl rfl (decide_eq_true hc3) ?_
        refine WL.v (view_len tL34 (hp.old0 hW) rfl) ?_
        refine WL.g1 rfl rfl (decide_eq_true hc3) ?_
        refine WL.run 1 rfl ?_
        refine WL.g1 rfl rfl (decide_eq_true hc3) ?_
        refine WL.v (X.sub rfl rfl (in64 (by omega))) ?_
        refine WL.g1 rfl rfl (decide_eq_true hc3) ?_
        refine WL.run 1 rfl ?_
        refine WL.v (X.pkT rfl (decide_eq_true hc3) rfl) ?_
        refine WL.run 1 rfl ?_
        refine WL.fin ?_
        refine W.ret ?_
        refine W.done hp (rs := [.tmp 6]) (vs := [.bool (decide (k ≤ ((ws.length : Int) - a)))]) (v := .bool (decide (k ≤ ((ws.length : Int) - a)))) rfl ⟨rfl, trivial⟩ rfl ?_
        exact bool_val (by simp only [Bool.false_eq_true, decide_eq_true_eq]; constructor <;> intro h_ <;> first | contradiction | omega | (exfalso; omega))
      refine WL.g0 rfl rfl (decide_eq_false hc3) rfl ?_
      refine WL.g0 rfl rfl (decide_eq_false hc3) rfl ?_
      refine WL.g0 rfl rfl (decide_eq_false hc3) rfl ?_
      refine WL.g0 rfl rfl (decide_eq_false hc3) rfl ?_
      refine WL.g0 rfl rfl (decide_eq_false hc3) rfl ?_
      refine WL.g0 rfl rfl (decide_eq_false hc3) rfl ?_
      refine WL.g0 rfl rfl (decide_eq_false hc3) rfl ?_
      refine WL.g0 rfl rfl (decide_eq_false hc3) rfl ?_
      refine WL.g0 rfl rfl (decide_eq_false hc3) rfl ?_
      refine WL.v (X.pkF rfl (decide_eq_false hc3) rfl) ?_
      refine WL.run 1 rfl ?_
      refine WL.fin ?_
      refine W.ret ?_
      refine W.done hp (rs := [.tmp 6]) (vs := [.bool false]) (v := .bool false) rfl ⟨rfl, trivial⟩ rfl ?_
      exact bool_val (by simp only [Bool.false_eq_true, decide_eq_true_eq]; constructor <;> intro h_ <;> first | contradiction | omega | (exfalso; omega))
    refine WL.g0 rfl rfl (decide_eq_false hc2) rfl ?_
    refine WL.g0 rfl rfl (decide_eq_false hc2) rfl ?_
    refine WL.g0 rfl rfl (decide_eq_false hc2) rfl ?_
    refine WL.g0 rfl rfl (decide_eq_false hc2) rfl ?_
    refine WL.g0 rfl rfl (decide_eq_false hc2) rfl ?_
    refine WL.g0 rfl rfl (decide_eq_false hc2) rfl ?_
    refine WL.g0 rfl rfl (decide_eq_false hc2) rfl ?_
    refine WL.v (X.pkF rfl (decide_eq_false hc2) rfl) ?_
    refine WL.run 1 rfl ?_
    refine WL.g0 rfl rfl rfl rfl ?_
    refine WL.g0 rfl rfl rfl rfl ?_
    refine WL.g0 rfl rfl rfl rfl ?_
    refine WL.g0 rfl rfl rfl rfl ?_
    refine WL.g0 rfl rfl rfl rfl ?_
    refine WL.g0 rfl rfl rfl rfl ?_
    refine WL.g0 rfl rfl rfl rfl ?_
    refine WL.g0 rfl rfl rfl rfl ?_
    refine WL.g0 rfl rfl rfl rfl ?_
    refine WL.v (X.pkF rfl rfl rfl) ?_
    refine WL.run 1 rfl ?_
    refine WL.fin ?_
    refine W.ret ?_
    refine W.done hp (rs := [.tmp 6]) (vs := [.bool false]) (v := .bool false) rfl ⟨rfl, trivial⟩ rfl ?_
    exact bool_val (by simp only [Bool.false_eq_true, decide_eq_true_eq]; constructor <;> intro h_ <;> first | contradiction | omega | (exfalso; omega))
  refine WL.g0 rfl rfl (decide_eq_false hc1) rfl ?_
  refine WL.g0 rfl rfl (decide_eq_false hc1) rfl ?_
  refine WL.v (X.pkF rfl (decide_eq_false hc1) rfl) ?_
  refine WL.run 1 rfl ?_
  refine WL.g0 rfl rfl rfl rfl ?_
  refine WL.g0 rfl rfl rfl rfl ?_
  refine WL.g0 rfl rfl rfl rfl ?_
  refine WL.g0 rfl rfl rfl rfl ?_
  refine WL.g0 rfl rfl rfl rfl ?_
  refine WL.g0 rfl rfl rfl rfl ?_
  refine WL.g0 rfl rfl rfl rfl ?_
  refine WL.v (X.pkF rfl rfl rfl) ?_
  refine WL.run 1 rfl ?_
  refine WL.g0 rfl rfl rfl rfl ?_
  refine WL.g0 rfl rfl rfl rfl ?_
  refine WL.g0 rfl rfl rfl rfl ?_
  refine WL.g0 rfl rfl rfl rfl ?_
  refine WL.g0 rfl rfl rfl rfl ?_
  refine WL.g0 rfl rfl rfl rfl ?_
  refine WL.g0 rfl rfl rfl rfl ?_
  refine WL.g0 rfl rfl rfl rfl ?_
  refine WL.g0 rfl rfl rfl rfl ?_
  refine WL.v (X.pkF rfl rfl rfl) ?_
  refine WL.run 1 rfl ?_
  refine WL.fin ?_
  refine W.ret ?_
  refine W.done hp (rs := [.tmp 6]) (vs := [.bool false]) (v := .bool false) rfl ⟨rfl, trivial⟩ rfl ?_
  exact bool_val (by simp only [Bool.false_eq_true, decide_eq_true_eq]; constructor <;> intro h_ <;> first | contradiction | omega | (exfalso; omega))

theorem hdRight4_c {w0 : World} {h : Hd} :
    Calls Tryz.prog 94 #[.agg #[.int .i64 h.cls, .int .i64 h.age, .int .i64 h.fwd, .bool (h.mark), .bool (h.final), .bool (h.done)]] w0 (Ret [] w0 (fun v _ => v = .bool (hdR h))) := by
  have hp : Hp w0 [] [] w0 := Hp.init w0
  refine enter (vs := [.agg #[.int .i64 h.cls, .int .i64 h.age, .int .i64 h.fwd, .bool (h.mark), .bool (h.final), .bool (h.done)]]) Tryz.func94 rfl rfl rfl ?_
  refine gen_world hp ?_
  intro w hp
  refine W.sr ?_
  refine WL.box hp rfl (cs := #[.int .i64 h.cls, .int .i64 h.age, .int .i64 h.fwd, .bool (h.mark), .bool (h.final), .bool (h.done)]) rfl rfl ?_
  intro b1 w hp
  refine WL.run 1 rfl ?_
  refine WL.a ?_
  refine WL.run 1 rfl ?_
  refine WL.v (X.ldk (hp.at 0 rfl) tA3 rfl rfl) ?_
  refine WL.run 2 rfl ?_
  by_cases hc2 : 0 ≤ h.cls
  · refine WL.g1 rfl rfl (decide_eq_true hc2) ?_
    refine WL.run 1 rfl ?_
    refine WL.g1 rfl rfl (decide_eq_true hc2) ?_
    refine WL.v (X.ldk (hp.at 0 rfl) tA3 rfl rfl) ?_
    refine WL.g1 rfl rfl (decide_eq_true hc2) ?_
    refine WL.run 1 rfl ?_
    refine WL.v (X.pkT rfl (decide_eq_true hc2) rfl) ?_
    refine WL.run 1 rfl ?_
    by_cases hc3 : h.cls ≤ 63
    · refine WL.g1 rfl rfl (decide_eq_true hc3) ?_
      refine WL.run 1 rfl ?_
      refine WL.g1 rfl rfl (decide_eq_true hc3) ?_
      refine WL.v (X.ldk (hp.at 0 rfl) tA3 rfl rfl) ?_
      refine WL.g1 rfl rfl (decide_eq_true hc3) ?_
      refine WL.run 1 rfl ?_
      refine WL.v (X.pkT rfl (decide_eq_true hc3) rfl) ?_
      refine WL.run 1 rfl ?_
      by_cases hc4 : 0 ≤ h.age
      · refine WL.g1 rfl rfl (decide_eq_true hc4) ?_
        refine WL.run 1 rfl ?_
        refine WL.g1 rfl rfl (decide_eq_true hc4) ?_
        refine WL.v (X.ldk (hp.at 0 rfl) tA3 rfl rfl) ?_
        refine WL.g1 rfl rfl (decide_eq_true hc4) ?_
        refine WL.run 1 rfl ?_
        refine WL.v (X.pkT rfl (decide_eq_true hc4) rfl) ?_
        refine WL.run 1 rfl ?_
        by_cases hc5 : h.age ≤ 7
        · refine WL.g1 rfl rfl (decide_eq_true hc5) ?_
          refine WL.run 1 rfl ?_
          refine WL.g1 rfl rfl (decide_eq_true hc5) ?_
          refine WL.v (X.ldk (hp.at 0 rfl) tA3 rfl rfl) ?_
          refine WL.g1 rfl rfl (decide_eq_true hc5) ?_
          refine WL.run 1 rfl ?_
          refine WL.v (X.pkT rfl (decide_eq_true hc5) rfl) ?_
          refine WL.run 1 rfl ?_
          by_cases hc6 : 0 ≤ h.fwd
          · refine WL.g1 rfl rfl (decide_eq_true hc6) ?_
            refine WL.run 1 rfl ?_
            refine WL.g1 rfl rfl (decide_eq_true hc6) ?_
            refine WL.v (X.ldk (hp.at 0 rfl) tA3 rfl rfl) ?_
            refine WL.g1 rfl rfl (decide_eq_true hc6) ?_
            refine WL.run 1 rfl ?_
            refine WL.v (X.pkT rfl (decide_eq_true hc6) rfl) ?_
            refine WL.run 1 rfl ?_
            by_cases hc7 : h.fwd ≤ 4095
            · refine WL.g1 rfl rfl (decide_eq_true hc7) ?_
              refine WL.run 1 rfl ?_
              refine WL.g1 rfl rfl (decide_eq_true hc7) ?_
              refine WL.v (X.ldk (hp.at 0 rfl) tA4 rfl rfl) ?_
              refine WL.g1 rfl rfl (decide_eq_true hc7) ?_
              refine WL.run 1 rfl ?_
              by_cases hc8 : h.final = true
              · refine WL.g1 rfl rfl hc8 ?_
                refine WL.run 1 rfl ?_
                refine WL.g1 rfl rfl hc8 ?_
                refine WL.v (X.ldk (hp.at 0 rfl) tA4 rfl rfl) ?_
                refine WL.g1 rfl rfl (decide_eq_true hc7) ?_
                refine WL.v (X.pkT rfl hc8 rfl) ?_
                refine WL.g1 rfl rfl (decide_eq_true hc7) ?_
                refine WL.run 1 rfl ?_
                refine WL.v (X.pkT rfl (decide_eq_true hc7) rfl) ?_
                refine WL.run 1 rfl ?_
                refine WL.fin ?_
                refine W.ret ?_
                refine W.done hp (rs := [.tmp 2]) (vs := [.bool (!h.done)]) (v := .bool (!h.done)) rfl ⟨rfl, trivial⟩ rfl ?_
                exact bool_val (by rw [hdR_iff]; cases hf_ : h.final <;> cases hd_ : h.done <;> simp_all <;> omega)
              refine WL.g0 rfl rfl (Bool.eq_false_iff.2 hc8) rfl ?_
              refine WL.g0 rfl rfl (Bool.eq_false_iff.2 hc8) rfl ?_
              refine WL.g1 rfl rfl (decide_eq_true hc7) ?_
              refine WL.v (X.pkF rfl (Bool.eq_false_iff.2 hc8) rfl) ?_
              refine WL.g1 rfl rfl (decide_eq_true hc7) ?_
              refine WL.run 1 rfl ?_
              refine WL.v (X.pkT rfl (decide_eq_true hc7) rfl) ?_
              refine WL.run 1 rfl ?_
              refine WL.fin ?_
              refine W.ret ?_
              refine W.done hp (rs := [.tmp 2]) (vs := [.bool true]) (v := .bool true) rfl ⟨rfl, trivial⟩ rfl ?_
              exact bool_val (by rw [hdR_iff]; cases hf_ : h.final <;> cases hd_ : h.done <;> simp_all <;> omega)
            refine WL.g0 rfl rfl (decide_eq_false hc7) rfl ?_
            refine WL.g0 rfl rfl (decide_eq_false hc7) rfl ?_
            refine WL.g0 rfl rfl (decide_eq_false hc7) rfl ?_
            refine WL.gu rfl rfl rfl ?_
            refine WL.gu rfl rfl rfl ?_
            refine WL.g0 rfl rfl (decide_eq_false hc7) rfl ?_
            refine WL.g0 rfl rfl (decide_eq_false hc7) rfl ?_
            refine WL.v (X.pkF rfl (decide_eq_false hc7) rfl) ?_
            refine WL.run 1 rfl ?_
            refine WL.fin ?_
            refine W.ret ?_
            refine W.done hp (rs := [.tmp 2]) (vs := [.bool false]) (v := .bool false) rfl ⟨rfl, trivial⟩ rfl ?_
            exact bool_val (by rw [hdR_iff]; cases hf_ : h.final <;> cases hd_ : h.done <;> simp_all <;> omega)
          refine WL.g0 rfl rfl (decide_eq_false hc6) rfl ?_
          refine WL.g0 rfl rfl (decide_eq_false hc6) rfl ?_
          refine WL.g0 rfl rfl (decide_eq_false hc6) rfl ?_
          refine WL.v (X.pkF rfl (decide_eq_false hc6) rfl) ?_
          refine WL.run 1 rfl ?_
          refine WL.g0 rfl rfl rfl rfl ?_
          refine WL.g0 rfl rfl rfl rfl ?_
          refine WL.g0 rfl rfl rfl rfl ?_
          refine WL.gu rfl rfl rfl ?_
          refine WL.gu rfl rfl rfl ?_
          refine WL.g0 rfl rfl rfl rfl ?_
          refine WL.g0 rfl rfl rfl rfl ?_
          refine WL.v (X.pkF rfl rfl rfl) ?_
          refine WL.run 1 rfl ?_
          refine WL.fin ?_
          refine W.ret ?_
          refine W.done hp (rs := [.tmp 2]) (vs := [.bool false]) (v := .bool false) rfl ⟨rfl, trivial⟩ rfl ?_
          exact bool_val (by rw [hdR_iff]; cases hf_ : h.final <;> cases hd_ : h.done <;> simp_all <;> omega)
        refine WL.g0 rfl rfl (decide_eq_false hc5) rfl ?_
        refine WL.g0 rfl rfl (decide_eq_false hc5) rfl ?_
        refine WL.g0 rfl rfl (decide_eq_false hc5) rfl ?_
        refine WL.v (X.pkF rfl (decide_eq_false hc5) rfl) ?_
        refine WL.run 1 rfl ?_
        refine WL.g0 rfl rfl rfl rfl ?_
        refine WL.g0 rfl rfl rfl rfl ?_
        refine WL.g0 rfl rfl rfl rfl ?_
        refine WL.v (X.pkF rfl rfl rfl) ?_
        refine WL.run 1 rfl ?_
        refine WL.g0 rfl rfl rfl rfl ?_
        refine WL.g0 rfl rfl rfl rfl ?_
        refine WL.g0 rfl rfl rfl rfl ?_
        refine WL.gu rfl rfl rfl ?_
        refine WL.gu rfl rfl rfl ?_
        refine WL.g0 rfl rfl rfl rfl ?_
        refine WL.g0 rfl rfl rfl rfl ?_
        refine WL.v (X.pkF rfl rfl rfl) ?_
        refine WL.run 1 rfl ?_
        refine WL.fin ?_
        refine W.ret ?_
        refine W.done hp (rs := [.tmp 2]) (vs := [.bool false]) (v := .bool false) rfl ⟨rfl, trivial⟩ rfl ?_
        exact bool_val (by rw [hdR_iff]; cases hf_ : h.final <;> cases hd_ : h.done <;> simp_all <;> omega)
      refine WL.g0 rfl rfl (decide_eq_false hc4) rfl ?_
      refine WL.g0 rfl rfl (decide_eq_false hc4) rfl ?_
      refine WL.g0 rfl rfl (decide_eq_false hc4) rfl ?_
      refine WL.v (X.pkF rfl (decide_eq_false hc4) rfl) ?_
      refine WL.run 1 rfl ?_
      refine WL.g0 rfl rfl rfl rfl ?_
      refine WL.g0 rfl rfl rfl rfl ?_
      refine WL.g0 rfl rfl rfl rfl ?_
      refine WL.v (X.pkF rfl rfl rfl) ?_
      refine WL.run 1 rfl ?_
      refine WL.g0 rfl rfl rfl rfl ?_
      refine WL.g0 rfl rfl rfl rfl ?_
      refine WL.g0 rfl rfl rfl rfl ?_
      refine WL.v (X.pkF rfl rfl rfl) ?_
      refine WL.run 1 rfl ?_
      refine WL.g0 rfl rfl rfl rfl ?_
      refine WL.g0 rfl rfl rfl rfl ?_
      refine WL.g0 rfl rfl rfl rfl ?_
      refine WL.gu rfl rfl rfl ?_
      refine WL.gu rfl rfl rfl ?_
      refine WL.g0 rfl rfl rfl rfl ?_
      refine WL.g0 rfl rfl rfl rfl ?_
      refine WL.v (X.pkF rfl rfl rfl) ?_
      refine WL.run 1 rfl ?_
      refine WL.fin ?_
      refine W.ret ?_
      refine W.done hp (rs := [.tmp 2]) (vs := [.bool false]) (v := .bool false) rfl ⟨rfl, trivial⟩ rfl ?_
      exact bool_val (by rw [hdR_iff]; cases hf_ : h.final <;> cases hd_ : h.done <;> simp_all <;> omega)
    refine WL.g0 rfl rfl (decide_eq_false hc3) rfl ?_
    refine WL.g0 rfl rfl (decide_eq_false hc3) rfl ?_
    refine WL.g0 rfl rfl (decide_eq_false hc3) rfl ?_
    refine WL.v (X.pkF rfl (decide_eq_false hc3) rfl) ?_
    refine WL.run 1 rfl ?_
    refine WL.g0 rfl rfl rfl rfl ?_
    refine WL.g0 rfl rfl rfl rfl ?_
    refine WL.g0 rfl rfl rfl rfl ?_
    refine WL.v (X.pkF rfl rfl rfl) ?_
    refine WL.run 1 rfl ?_
    refine WL.g0 rfl rfl rfl rfl ?_
    refine WL.g0 rfl rfl rfl rfl ?_
    refine WL.g0 rfl rfl rfl rfl ?_
    refine WL.v (X.pkF rfl rfl rfl) ?_
    refine WL.run 1 rfl ?_
    refine WL.g0 rfl rfl rfl rfl ?_
    refine WL.g0 rfl rfl rfl rfl ?_
    refine WL.g0 rfl rfl rfl rfl ?_
    refine WL.v (X.pkF rfl rfl rfl) ?_
    refine WL.run 1 rfl ?_
    refine WL.g0 rfl rfl rfl rfl ?_
    refine WL.g0 rfl rfl rfl rfl ?_
    refine WL.g0 rfl rfl rfl rfl ?_
    refine WL.gu rfl rfl rfl ?_
    refine WL.gu rfl rfl rfl ?_
    refine WL.g0 rfl rfl rfl rfl ?_
    refine WL.g0 rfl rfl rfl rfl ?_
    refine WL.v (X.pkF rfl rfl rfl) ?_
    refine WL.run 1 rfl ?_
    refine WL.fin ?_
    refine W.ret ?_
    refine W.done hp (rs := [.tmp 2]) (vs := [.bool false]) (v := .bool false) rfl ⟨rfl, trivial⟩ rfl ?_
    exact bool_val (by rw [hdR_iff]; cases hf_ : h.final <;> cases hd_ : h.done <;> simp_all <;> omega)
  refine WL.g0 rfl rfl (decide_eq_false hc2) rfl ?_
  refine WL.g0 rfl rfl (decide_eq_false hc2) rfl ?_
  refine WL.g0 rfl rfl (decide_eq_false hc2) rfl ?_
  refine WL.v (X.pkF rfl (decide_eq_false hc2) rfl) ?_
  refine WL.run 1 rfl ?_
  refine WL.g0 rfl rfl rfl rfl ?_
  refine WL.g0 rfl rfl rfl rfl ?_
  refine WL.g0 rfl rfl rfl rfl ?_
  refine WL.v (X.pkF rfl rfl rfl) ?_
  refine WL.run 1 rfl ?_
  refine WL.g0 rfl rfl rfl rfl ?_
  refine WL.g0 rfl rfl rfl rfl ?_
  refine WL.g0 rfl rfl rfl rfl ?_
  refine WL.v (X.pkF rfl rfl rfl) ?_
  refine WL.run 1 rfl ?_
  refine WL.g0 rfl rfl rfl rfl ?_
  refine WL.g0 rfl rfl rfl rfl ?_
  refine WL.g0 rfl rfl rfl rfl ?_
  refine WL.v (X.pkF rfl rfl rfl) ?_
  refine WL.run 1 rfl ?_
  refine WL.g0 rfl rfl rfl rfl ?_
  refine WL.g0 rfl rfl rfl rfl ?_
  refine WL.g0 rfl rfl rfl rfl ?_
  refine WL.v (X.pkF rfl rfl rfl) ?_
  refine WL.run 1 rfl ?_
  refine WL.g0 rfl rfl rfl rfl ?_
  refine WL.g0 rfl rfl rfl rfl ?_
  refine WL.g0 rfl rfl rfl rfl ?_
  refine WL.gu rfl rfl rfl ?_
  refine WL.gu rfl rfl rfl ?_
  refine WL.g0 rfl rfl rfl rfl ?_
  refine WL.g0 rfl rfl rfl rfl ?_
  refine WL.v (X.pkF rfl rfl rfl) ?_
  refine WL.run 1 rfl ?_
  refine WL.fin ?_
  refine W.ret ?_
  refine W.done hp (rs := [.tmp 2]) (vs := [.bool false]) (v := .bool false) rfl ⟨rfl, trivial⟩ rfl ?_
  exact bool_val (by rw [hdR_iff]; cases hf_ : h.final <;> cases hd_ : h.done <;> simp_all <;> omega)

theorem of4_c {w0 : World} {x : Int} :
    Calls Tryz.prog 77 #[.int .i64 x] w0 (Ret [] w0 (fun v _ => (hdR (hdOf x) = true ∧ v = .tuple #[.agg #[.int .i64 (hdOf x).cls, .int .i64 (hdOf x).age, .int .i64 (hdOf x).fwd, .bool (hdOf x).mark, .bool (hdOf x).final, .bool (hdOf x).done], .int .i64 0]) ∨ (¬ hdR (hdOf x) = true ∧ v = .tuple #[.agg #[.int .i64 0, .int .i64 0, .int .i64 0, .bool false, .bool false, .bool false], .int .i64 12]))) := by
  have hp : Hp w0 [] [] w0 := Hp.init w0
  refine enter (vs := [.int .i64 x]) Tryz.func77 rfl rfl rfl ?_
  refine gen_world hp ?_
  intro w hp
  refine W.sr ?_
  refine WL.alloc hp tZ103 rfl ?_
  intro b1 w hp
  refine WL.run 1 rfl ?_
  refine WL.s ?_
  refine W.sr ?_
  refine WL.run 3 rfl ?_
  by_cases hc2 : x < 0
  · refine WL.g0 rfl rfl (decide_eq_true hc2) rfl ?_
    refine WL.g0 rfl rfl (decide_eq_true hc2) rfl ?_
    refine WL.v (X.pkT rfl (decide_eq_true hc2) rfl) ?_
    refine WL.fin ?_
    refine W.cT rfl rfl ?_
    refine W.sr ?_
    refine WL.v (X.bld (v := .agg #[.int .i64 0, .int .i64 0, .int .i64 0, .bool false, .bool false, .bool false]) rfl (by kernel_rfl)) ?_
    refine WL.store hp 0 rfl tS103 rfl rfl (vs := [.int .i64 0, .int .i64 0, .int .i64 0, .bool false, .bool false, .bool false]) rfl rfl rfl (new := #[.int .i64 0, .int .i64 0, .int .i64 0, .bool false, .bool false, .bool false]) rfl ?_
    intro w hp
    refine WL.run 1 rfl ?_
    refine WL.fin ?_
    refine W.ret ?_
    refine X.thenR ?_
    refine W.done hp (rs := [.cell 2 103, .tmp 3]) (vs := [.agg #[.int .i64 0, .int .i64 0, .int .i64 0, .bool false, .bool false, .bool false], .int .i64 12]) (v := .tuple #[.agg #[.int .i64 0, .int .i64 0, .int .i64 0, .bool false, .bool false, .bool false], .int .i64 12]) rfl ⟨⟨_, rfl, run_loadVarB hp 0 rfl tA103 tS103 (vs := [.int .i64 0, .int .i64 0, .int .i64 0, .bool false, .bool false, .bool false]) rfl⟩, rfl, trivial⟩ rfl ?_
    first | exact .inl ⟨by assumption, rfl⟩ | exact .inr ⟨by assumption, rfl⟩ | exact .inr ⟨fun h => by have := hdR_range h; omega, rfl⟩
  refine WL.g1 rfl rfl (decide_eq_false hc2) ?_
  refine WL.run 1 rfl ?_
  refine WL.g1 rfl rfl (decide_eq_false hc2) ?_
  refine WL.run 1 rfl ?_
  refine WL.v (X.pkF rfl (decide_eq_false hc2) rfl) ?_
  refine WL.fin ?_
  by_cases hc3 : 33554432 ≤ x
  · refine W.cT rfl (decide_eq_true hc3) ?_
    refine W.sr ?_
    refine WL.v (X.bld (v := .agg #[.int .i64 0, .int .i64 0, .int .i64 0, .bool false, .bool false, .bool false]) rfl (by kernel_rfl)) ?_
    refine WL.store hp 0 rfl tS103 rfl rfl (vs := [.int .i64 0, .int .i64 0, .int .i64 0, .bool false, .bool false, .bool false]) rfl rfl rfl (new := #[.int .i64 0, .int .i64 0, .int .i64 0, .bool false, .bool false, .bool false]) rfl ?_
    intro w hp
    refine WL.run 1 rfl ?_
    refine WL.fin ?_
    refine W.ret ?_
    refine X.thenR ?_
    refine W.done hp (rs := [.cell 2 103, .tmp 3]) (vs := [.agg #[.int .i64 0, .int .i64 0, .int .i64 0, .bool false, .bool false, .bool false], .int .i64 12]) (v := .tuple #[.agg #[.int .i64 0, .int .i64 0, .int .i64 0, .bool false, .bool false, .bool false], .int .i64 12]) rfl ⟨⟨_, rfl, run_loadVarB hp 0 rfl tA103 tS103 (vs := [.int .i64 0, .int .i64 0, .int .i64 0, .bool false, .bool false, .bool false]) rfl⟩, rfl, trivial⟩ rfl ?_
    first | exact .inl ⟨by assumption, rfl⟩ | exact .inr ⟨by assumption, rfl⟩ | exact .inr ⟨fun h => by have := hdR_range h; omega, rfl⟩
  refine W.cF rfl (decide_eq_false hc3) ?_
  refine W.ks ?_
  refine WL.run 1 rfl ?_
  refine WL.v (X.rem rfl rfl (by omega)) ?_
  refine WL.run 1 rfl ?_
  refine WL.v (X.quo rfl rfl (by omega)) ?_
  refine WL.v (X.rem rfl rfl (by omega)) ?_
  refine WL.run 1 rfl ?_
  refine WL.v (X.quo rfl rfl (by omega)) ?_
  refine WL.v (X.bld (v := .agg #[.int .i64 (x % 64), .int .i64 ((x / 64) % 16), .int .i64 (x / 8192), .bool false, .bool false, .bool false]) rfl (by kernel_rfl)) ?_
  refine WL.alloc hp tZ103 rfl ?_
  intro b4 w hp
  refine WL.store hp 0 rfl tS103 rfl rfl (vs := [.int .i64 (x % 64), .int .i64 ((x / 64) % 16), .int .i64 (x / 8192), .bool false, .bool false, .bool false]) rfl rfl rfl (new := #[.int .i64 (x % 64), .int .i64 ((x / 64) % 16), .int .i64 (x / 8192), .bool false, .bool false, .bool false]) rfl ?_
  intro w hp
  refine WL.a ?_
  refine WL.run 1 rfl ?_
  refine WL.v (X.quo rfl rfl (by omega)) ?_
  refine WL.v (X.rem rfl rfl (by omega)) ?_
  refine WL.run 2 rfl ?_
  refine WL.store hp 0 rfl tS4 rfl rfl (vs := [.bool (decide (((x / 1024) % 2) = 1))]) rfl rfl rfl (new := #[.int .i64 (x % 64), .int .i64 ((x / 64) % 16), .int .i64 (x / 8192), .bool (decide (((x / 1024) % 2) = 1)), .bool false, .bool false]) rfl ?_
  intro w hp
  refine WL.a ?_
  refine WL.run 1 rfl ?_
  refine WL.v (X.quo rfl rfl (by omega)) ?_
  refine WL.v (X.rem rfl rfl (by omega)) ?_
  refine WL.run 2 rfl ?_
  refine WL.store hp 0 rfl tS4 rfl rfl (vs := [.bool (decide (((x / 2048) % 2) = 1))]) rfl rfl rfl (new := #[.int .i64 (x % 64), .int .i64 ((x / 64) % 16), .int .i64 (x / 8192), .bool (decide (((x / 1024) % 2) = 1)), .bool (decide (((x / 2048) % 2) = 1)), .bool false]) rfl ?_
  intro w hp
  refine WL.a ?_
  refine WL.run 1 rfl ?_
  refine WL.v (X.quo rfl rfl (by omega)) ?_
  refine WL.v (X.rem rfl rfl (by omega)) ?_
  refine WL.run 2 rfl ?_
  refine WL.store hp 0 rfl tS4 rfl rfl (vs := [.bool (decide (((x / 4096) % 2) = 1))]) rfl rfl rfl (new := #[.int .i64 (x % 64), .int .i64 ((x / 64) % 16), .int .i64 (x / 8192), .bool (decide (((x / 1024) % 2) = 1)), .bool (decide (((x / 2048) % 2) = 1)), .bool (decide (((x / 4096) % 2) = 1))]) rfl ?_
  intro w hp
  refine WL.s ?_
  refine W.sr ?_
  refine WL.v (X.ldkA (hp.at 0 rfl) tA103 tS103 (vs := [.int .i64 (x % 64), .int .i64 ((x / 64) % 16), .int .i64 (x / 8192), .bool (decide (((x / 1024) % 2) = 1)), .bool (decide (((x / 2048) % 2) = 1)), .bool (decide (((x / 4096) % 2) = 1))]) rfl rfl) ?_
  refine WL.call isFn94 rfl rfl (hdRight4_c (h := (⟨x % 64, (x / 64) % 16, x / 8192, decide (((x / 1024) % 2) = 1), decide (((x / 2048) % 2) = 1), decide (((x / 4096) % 2) = 1)⟩ : Hd))) ?_
  intro v w hc hr
  obtain rfl := hr
  have hp := hp.ext hc
  refine WL.run 1 rfl ?_
  refine WL.fin ?_
  by_cases hc5 : hdR (⟨x % 64, (x / 64) % 16, x / 8192, decide (((x / 1024) % 2) = 1), decide (((x / 2048) % 2) = 1), decide (((x / 4096) % 2) = 1)⟩ : Hd) = true
  · have hc5_ := hdR_t hc5
    refine W.cF rfl (congrArg not hc5) ?_
    refine W.ks ?_
    refine WL.v (X.ldkA (hp.at 0 rfl) tA103 tS103 (vs := [.int .i64 (x % 64), .int .i64 ((x / 64) % 16), .int .i64 (x / 8192), .bool (decide (((x / 1024) % 2) = 1)), .bool (decide (((x / 2048) % 2) = 1)), .bool (decide (((x / 4096) % 2) = 1))]) rfl rfl) ?_
    refine WL.store hp 1 rfl tS103 rfl rfl (vs := [.int .i64 (x % 64), .int .i64 ((x / 64) % 16), .int .i64 (x / 8192), .bool (decide (((x / 1024) % 2) = 1)), .bool (decide (((x / 2048) % 2) = 1)), .bool (decide (((x / 4096) % 2) = 1))]) rfl rfl rfl (new := #[.int .i64 (x % 64), .int .i64 ((x / 64) % 16), .int .i64 (x / 8192), .bool (decide (((x / 1024) % 2) = 1)), .bool (decide (((x / 2048) % 2) = 1)), .bool (decide (((x / 4096) % 2) = 1))]) rfl ?_
    intro w hp
    refine WL.run 1 rfl ?_
    refine WL.fin ?_
    refine W.ret ?_
    refine W.done hp (rs := [.cell 2 103, .tmp 3]) (vs := [.agg #[.int .i64 (x % 64), .int .i64 ((x / 64) % 16), .int .i64 (x / 8192), .bool (decide (((x / 1024) % 2) = 1)), .bool (decide (((x / 2048) % 2) = 1)), .bool (decide (((x / 4096) % 2) = 1))], .int .i64 0]) (v := .tuple #[.agg #[.int .i64 (x % 64), .int .i64 ((x / 64) % 16), .int .i64 (x / 8192), .bool (decide (((x / 1024) % 2) = 1)), .bool (decide (((x / 2048) % 2) = 1)), .bool (decide (((x / 4096) % 2) = 1))], .int .i64 0]) rfl ⟨⟨_, rfl, run_loadVarB hp 1 rfl tA103 tS103 (vs := [.int .i64 (x % 64), .int .i64 ((x / 64) % 16), .int .i64 (x / 8192), .bool (decide (((x / 1024) % 2) = 1)), .bool (decide (((x / 2048) % 2) = 1)), .bool (decide (((x / 4096) % 2) = 1))]) rfl⟩, rfl, trivial⟩ rfl ?_
    first | exact .inl ⟨by assumption, rfl⟩ | exact .inr ⟨by assumption, rfl⟩ | exact .inr ⟨fun h => by have := hdR_range h; omega, rfl⟩
  have hc5_ := hdR_f hc5
  refine W.cT rfl (congrArg not (Bool.eq_false_iff.2 hc5)) ?_
  refine W.sr ?_
  refine WL.v (X.bld (v := .agg #[.int .i64 0, .int .i64 0, .int .i64 0, .bool false, .bool false, .bool false]) rfl (by kernel_rfl)) ?_
  refine WL.store hp 1 rfl tS103 rfl rfl (vs := [.int .i64 0, .int .i64 0, .int .i64 0, .bool false, .bool false, .bool false]) rfl rfl rfl (new := #[.int .i64 0, .int .i64 0, .int .i64 0, .bool false, .bool false, .bool false]) rfl ?_
  intro w hp
  refine WL.run 1 rfl ?_
  refine WL.fin ?_
  refine W.ret ?_
  refine X.thenR ?_
  refine W.done hp (rs := [.cell 2 103, .tmp 3]) (vs := [.agg #[.int .i64 0, .int .i64 0, .int .i64 0, .bool false, .bool false, .bool false], .int .i64 12]) (v := .tuple #[.agg #[.int .i64 0, .int .i64 0, .int .i64 0, .bool false, .bool false, .bool false], .int .i64 12]) rfl ⟨⟨_, rfl, run_loadVarB hp 1 rfl tA103 tS103 (vs := [.int .i64 0, .int .i64 0, .int .i64 0, .bool false, .bool false, .bool false]) rfl⟩, rfl, trivial⟩ rfl ?_
  first | exact .inl ⟨by assumption, rfl⟩ | exact .inr ⟨by assumption, rfl⟩ | exact .inr ⟨fun h => by have := hdR_range h; omega, rfl⟩

theorem clsRight5_c {w0 : World} {c : Cls} :
    Calls Tryz.prog 49 #[.agg #[.int .i64 c.kind, .int .i64 c.refs, .int .i64 c.data, .bool (c.final)]] w0 (Ret [] w0 (fun v _ => v = .bool (clsR c))) := by
  have hp : Hp w0 [] [] w0 := Hp.init w0
  refine enter (vs := [.agg #[.int .i64 c.kind, .int .i64 c.refs, .int .i64 c.data, .bool (c.final)]]) Tryz.func49 rfl rfl rfl ?_
  refine gen_world hp ?_
  intro w hp
  refine W.sr ?_
  refine WL.box hp rfl (cs := #[.int .i64 c.kind, .int .i64 c.refs, .int .i64 c.data, .bool (c.final)]) rfl rfl ?_
  intro b1 w hp
  refine WL.run 1 rfl ?_
  refine WL.s ?_
  refine W.sr ?_
  refine WL.run 1 rfl ?_
  refine WL.v (X.ldk (hp.at 0 rfl) tA3 rfl rfl) ?_
  refine WL.run 2 rfl ?_
  by_cases hc2 : c.refs < 0
  · refine WL.g0 rfl rfl (decide_eq_true hc2) rfl ?_
    refine WL.g0 rfl rfl (decide_eq_true hc2) rfl ?_
    refine WL.g0 rfl rfl (decide_eq_true hc2) rfl ?_
    refine WL.v (X.pkT rfl (decide_eq_true hc2) rfl) ?_
    refine WL.run 1 rfl ?_
    refine WL.g0 rfl rfl rfl rfl ?_
    refine WL.g0 rfl rfl rfl rfl ?_
    refine WL.g0 rfl rfl rfl rfl ?_
    refine WL.v (X.pkT rfl rfl rfl) ?_
    refine WL.run 1 rfl ?_
    refine WL.g0 rfl rfl rfl rfl ?_
    refine WL.g0 rfl rfl rfl rfl ?_
    refine WL.g0 rfl rfl rfl rfl ?_
    refine WL.v (X.pkT rfl rfl rfl) ?_
    refine WL.fin ?_
    refine W.cT rfl rfl ?_
    refine W.sr ?_
    refine WL.run 1 rfl ?_
    refine WL.fin ?_
    refine W.ret ?_
    refine X.thenR ?_
    refine W.done hp (rs := [.tmp 2]) (vs := [.bool false]) (v := .bool false) rfl ⟨rfl, trivial⟩ rfl ?_
    exact bool_val (by simp only [clsR_iff, clsSmall_iff]; simp_all; try omega)
  refine WL.g1 rfl rfl (decide_eq_false hc2) ?_
  refine WL.run 1 rfl ?_
  refine WL.g1 rfl rfl (decide_eq_false hc2) ?_
  refine WL.v (X.ldk (hp.at 0 rfl) tA3 rfl rfl) ?_
  refine WL.g1 rfl rfl (decide_eq_false hc2) ?_
  refine WL.run 1 rfl ?_
  refine WL.v (X.pkF rfl (decide_eq_false hc2) rfl) ?_
  refine WL.run 1 rfl ?_
  by_cases hc3 : c.data < 0
  · refine WL.g0 rfl rfl (decide_eq_true hc3) rfl ?_
    refine WL.g0 rfl rfl (decide_eq_true hc3) rfl ?_
    refine WL.g0 rfl rfl (decide_eq_true hc3) rfl ?_
    refine WL.v (X.pkT rfl (decide_eq_true hc3) rfl) ?_
    refine WL.run 1 rfl ?_
    refine WL.g0 rfl rfl rfl rfl ?_
    refine WL.g0 rfl rfl rfl rfl ?_
    refine WL.g0 rfl rfl rfl rfl ?_
    refine WL.v (X.pkT rfl rfl rfl) ?_
    refine WL.fin ?_
    refine W.cT rfl rfl ?_
    refine W.sr ?_
    refine WL.run 1 rfl ?_
    refine WL.fin ?_
    refine W.ret ?_
    refine X.thenR ?_
    refine W.done hp (rs := [.tmp 2]) (vs := [.bool false]) (v := .bool false) rfl ⟨rfl, trivial⟩ rfl ?_
    exact bool_val (by simp only [clsR_iff, clsSmall_iff]; simp_all; try omega)
  refine WL.g1 rfl rfl (decide_eq_false hc3) ?_
  refine WL.run 1 rfl ?_
  refine WL.g1 rfl rfl (decide_eq_false hc3) ?_
  refine WL.v (X.ldk (hp.at 0 rfl) tA3 rfl rfl) ?_
  refine WL.g1 rfl rfl (decide_eq_false hc3) ?_
  refine WL.run 1 rfl ?_
  refine WL.v (X.pkF rfl (decide_eq_false hc3) rfl) ?_
  refine WL.run 1 rfl ?_
  by_cases hc4 : 32 < c.refs
  · refine WL.g0 rfl rfl (decide_eq_true hc4) rfl ?_
    refine WL.g0 rfl rfl (decide_eq_true hc4) rfl ?_
    refine WL.g0 rfl rfl (decide_eq_true hc4) rfl ?_
    refine WL.v (X.pkT rfl (decide_eq_true hc4) rfl) ?_
    refine WL.fin ?_
    refine W.cT rfl rfl ?_
    refine W.sr ?_
    refine WL.run 1 rfl ?_
    refine WL.fin ?_
    refine W.ret ?_
    refine X.thenR ?_
    refine W.done hp (rs := [.tmp 2]) (vs := [.bool false]) (v := .bool false) rfl ⟨rfl, trivial⟩ rfl ?_
    exact bool_val (by simp only [clsR_iff, clsSmall_iff]; simp_all; try omega)
  refine WL.g1 rfl rfl (decide_eq_false hc4) ?_
  refine WL.run 1 rfl ?_
  refine WL.g1 rfl rfl (decide_eq_false hc4) ?_
  refine WL.v (X.ldk (hp.at 0 rfl) tA3 rfl rfl) ?_
  refine WL.g1 rfl rfl (decide_eq_false hc4) ?_
  refine WL.run 1 rfl ?_
  refine WL.v (X.pkF rfl (decide_eq_false hc4) rfl) ?_
  refine WL.fin ?_
  by_cases hc5 : 32 < c.data
  · refine W.cT rfl (decide_eq_true hc5) ?_
    refine W.sr ?_
    refine WL.run 1 rfl ?_
    refine WL.fin ?_
    refine W.ret ?_
    refine X.thenR ?_
    refine W.done hp (rs := [.tmp 2]) (vs := [.bool false]) (v := .bool false) rfl ⟨rfl, trivial⟩ rfl ?_
    exact bool_val (by simp only [clsR_iff, clsSmall_iff]; simp_all; try omega)
  refine W.cF rfl (decide_eq_false hc5) ?_
  refine W.ks ?_
  refine WL.run 1 rfl ?_
  refine WL.v (X.ldk (hp.at 0 rfl) tA3 rfl rfl) ?_
  refine WL.v (X.add rfl rfl (in64 (by omega))) ?_
  refine WL.run 1 rfl ?_
  refine WL.v (X.ldk (hp.at 0 rfl) tA3 rfl rfl) ?_
  refine WL.v (X.add rfl rfl (in64 (by omega))) ?_
  refine WL.run 2 rfl ?_
  refine WL.s ?_
  refine W.sr ?_
  refine WL.run 1 rfl ?_
  refine WL.v (X.ldk (hp.at 0 rfl) tA3 rfl rfl) ?_
  refine WL.fin ?_
  refine W.block ?_
  refine W.sr ?_
  refine WL.run 2 rfl ?_
  refine WL.fin ?_
  by_cases hc6 : c.kind = 1
  · refine W.cT rfl (decide_eq_true hc6) ?_
    refine W.sr ?_
    refine WL.run 2 rfl ?_
    refine WL.fin ?_
    refine W.ret ?_
    refine X.inR ?_
    refine X.thenR ?_
    refine W.done hp (rs := [.tmp 2]) (vs := [.bool (decide (((2 + c.refs) + c.data) ≤ 32))]) (v := .bool (decide (((2 + c.refs) + c.data) ≤ 32))) rfl ⟨rfl, trivial⟩ rfl ?_
    exact bool_val (by simp only [clsR_iff, clsSmall_iff]; simp_all; try omega)
  refine W.cF rfl (decide_eq_false hc6) ?_
  refine W.sr ?_
  refine WL.run 2 rfl ?_
  refine WL.fin ?_
  by_cases hc7 : c.kind = 2
  · refine W.cT rfl (decide_eq_true hc7) ?_
    refine W.sr ?_
    refine WL.run 1 rfl ?_
    refine WL.v (X.ldk (hp.at 0 rfl) tA3 rfl rfl) ?_
    refine WL.run 2 rfl ?_
    by_cases hc8 : c.refs = 0
    · refine WL.g1 rfl rfl (decide_eq_true hc8) ?_
      refine WL.run 1 rfl ?_
      refine WL.g1 rfl rfl (decide_eq_true hc8) ?_
      refine WL.v (X.ldk (hp.at 0 rfl) tA3 rfl rfl) ?_
      refine WL.g1 rfl rfl (decide_eq_true hc8) ?_
      refine WL.run 1 rfl ?_
      refine WL.v (X.pkT rfl (decide_eq_true hc8) rfl) ?_
      refine WL.run 1 rfl ?_
      refine WL.fin ?_
      refine W.ret ?_
      refine X.inR ?_
      refine X.thenR ?_
      refine W.done hp (rs := [.tmp 2]) (vs := [.bool (decide (c.data = 0))]) (v := .bool (decide (c.data = 0))) rfl ⟨rfl, trivial⟩ rfl ?_
      exact bool_val (by simp only [clsR_iff, clsSmall_iff]; simp_all; try omega)
    refine WL.g0 rfl rfl (decide_eq_false hc8) rfl ?_
    refine WL.g0 rfl rfl (decide_eq_false hc8) rfl ?_
    refine WL.g0 rfl rfl (decide_eq_false hc8) rfl ?_
    refine WL.v (X.pkF rfl (decide_eq_false hc8) rfl) ?_
    refine WL.run 1 rfl ?_
    refine WL.fin ?_
    refine W.ret ?_
    refine X.inR ?_
    refine X.thenR ?_
    refine W.done hp (rs := [.tmp 2]) (vs := [.bool false]) (v := .bool false) rfl ⟨rfl, trivial⟩ rfl ?_
    exact bool_val (by simp only [clsR_iff, clsSmall_iff]; simp_all; try omega)
  refine W.cF rfl (decide_eq_false hc7) ?_
  refine W.seq ?_
  refine W.sr ?_
  refine WL.run 2 rfl ?_
  refine WL.fin ?_
  by_cases hc9 : c.kind = 3
  · refine W.cT rfl (decide_eq_true hc9) ?_
    refine W.k ?_
    refine W.cT rfl (decide_eq_true hc9) ?_
    refine W.sr ?_
    refine WL.run 2 rfl ?_
    by_cases hc10 : ((2 + c.refs) + c.data) ≤ 32
    · refine WL.g1 rfl rfl (decide_eq_true hc10) ?_
      refine WL.run 1 rfl ?_
      refine WL.g1 rfl rfl (decide_eq_true hc10) ?_
      refine WL.v (X.ldk (hp.at 0 rfl) tA3 rfl rfl) ?_
      refine WL.g1 rfl rfl (decide_eq_true hc10) ?_
      refine WL.run 1 rfl ?_
      refine WL.v (X.pkT rfl (decide_eq_true hc10) rfl) ?_
      refine WL.run 1 rfl ?_
      by_cases hc11 : 1 ≤ c.refs
      · refine WL.g1 rfl rfl (decide_eq_true hc11) ?_
        refine WL.run 1 rfl ?_
        refine WL.g1 rfl rfl (decide_eq_true hc11) ?_
        refine WL.v (X.ldk (hp.at 0 rfl) tA3 rfl rfl) ?_
        refine WL.g1 rfl rfl (decide_eq_true hc11) ?_
        refine WL.run 1 rfl ?_
        refine WL.v (X.pkT rfl (decide_eq_true hc11) rfl) ?_
        refine WL.run 1 rfl ?_
        by_cases hc12 : 2 ≤ c.data
        · refine WL.g1 rfl rfl (decide_eq_true hc12) ?_
          refine WL.run 1 rfl ?_
          refine WL.g1 rfl rfl (decide_eq_true hc12) ?_
          refine WL.v (X.ldk (hp.at 0 rfl) tA4 rfl rfl) ?_
          refine WL.g1 rfl rfl (decide_eq_true hc12) ?_
          refine WL.run 1 rfl ?_
          refine WL.v (X.pkT rfl (decide_eq_true hc12) rfl) ?_
          refine WL.run 1 rfl ?_
          refine WL.fin ?_
          refine W.ret ?_
          refine X.inR ?_
          refine X.thenR ?_
          refine W.done hp (rs := [.tmp 2]) (vs := [.bool (!c.final)]) (v := .bool (!c.final)) rfl ⟨rfl, trivial⟩ rfl ?_
          exact bool_val (by simp only [clsR_iff, clsSmall_iff]; simp_all; try omega)
        refine WL.g0 rfl rfl (decide_eq_false hc12) rfl ?_
        refine WL.g0 rfl rfl (decide_eq_false hc12) rfl ?_
        refine WL.g0 rfl rfl (decide_eq_false hc12) rfl ?_
        refine WL.v (X.pkF rfl (decide_eq_false hc12) rfl) ?_
        refine WL.run 1 rfl ?_
        refine WL.fin ?_
        refine W.ret ?_
        refine X.inR ?_
        refine X.thenR ?_
        refine W.done hp (rs := [.tmp 2]) (vs := [.bool false]) (v := .bool false) rfl ⟨rfl, trivial⟩ rfl ?_
        exact bool_val (by simp only [clsR_iff, clsSmall_iff]; simp_all; try omega)
      refine WL.g0 rfl rfl (decide_eq_false hc11) rfl ?_
      refine WL.g0 rfl rfl (decide_eq_false hc11) rfl ?_
      refine WL.g0 rfl rfl (decide_eq_false hc11) rfl ?_
      refine WL.v (X.pkF rfl (decide_eq_false hc11) rfl) ?_
      refine WL.run 1 rfl ?_
      refine WL.g0 rfl rfl rfl rfl ?_
      refine WL.g0 rfl rfl rfl rfl ?_
      refine WL.g0 rfl rfl rfl rfl ?_
      refine WL.v (X.pkF rfl rfl rfl) ?_
      refine WL.run 1 rfl ?_
      refine WL.fin ?_
      refine W.ret ?_
      refine X.inR ?_
      refine X.thenR ?_
      refine W.done hp (rs := [.tmp 2]) (vs := [.bool false]) (v := .bool false) rfl ⟨rfl, trivial⟩ rfl ?_
      exact bool_val (by simp only [clsR_iff, clsSmall_iff]; simp_all; try omega)
    refine WL.g0 rfl rfl (decide_eq_false hc10) rfl ?_
    refine WL.g0 rfl rfl (decide_eq_false hc10) rfl ?_
    refine WL.g0 rfl rfl (decide_eq_false hc10) rfl ?_
    refine WL.v (X.pkF rfl (decide_eq_false hc10) rfl) ?_
    refine WL.run 1 rfl ?_
    refine WL.g0 rfl rfl rfl rfl ?_
    refine WL.g0 rfl rfl rfl rfl ?_
    refine WL.g0 rfl rfl rfl rfl ?_
    refine WL.v (X.pkF rfl rfl rfl) ?_
    refine WL.run 1 rfl ?_
    refine WL.g0 rfl rfl rfl rfl ?_
    refine WL.g0 rfl rfl rfl rfl ?_
    refine WL.g0 rfl rfl rfl rfl ?_
    refine WL.v (X.pkF rfl rfl rfl) ?_
    refine WL.run 1 rfl ?_
    refine WL.fin ?_
    refine W.ret ?_
    refine X.inR ?_
    refine X.thenR ?_
    refine W.done hp (rs := [.tmp 2]) (vs := [.bool false]) (v := .bool false) rfl ⟨rfl, trivial⟩ rfl ?_
    exact bool_val (by simp only [clsR_iff, clsSmall_iff]; simp_all; try omega)
  refine W.cF rfl (decide_eq_false hc9) ?_
  refine W.sr ?_
  refine WL.run 2 rfl ?_
  refine WL.fin ?_
  by_cases hc13 : c.kind = 4
  · refine W.cT rfl (decide_eq_true hc13) ?_
    refine W.k ?_
    refine W.cT rfl (decide_eq_true hc13) ?_
    refine W.sr ?_
    refine WL.run 2 rfl ?_
    by_cases hc14 : ((2 + c.refs) + c.data) ≤ 32
    · refine WL.g1 rfl rfl (decide_eq_true hc14) ?_
      refine WL.run 1 rfl ?_
      refine WL.g1 rfl rfl (decide_eq_true hc14) ?_
      refine WL.v (X.ldk (hp.at 0 rfl) tA3 rfl rfl) ?_
      refine WL.g1 rfl rfl (decide_eq_true hc14) ?_
      refine WL.run 1 rfl ?_
      refine WL.v (X.pkT rfl (decide_eq_true hc14) rfl) ?_
      refine WL.run 1 rfl ?_
      by_cases hc15 : 1 ≤ c.refs
      · refine WL.g1 rfl rfl (decide_eq_true hc15) ?_
        refine WL.run 1 rfl ?_
        refine WL.g1 rfl rfl (decide_eq_true hc15) ?_
        refine WL.v (X.ldk (hp.at 0 rfl) tA3 rfl rfl) ?_
        refine WL.g1 rfl rfl (decide_eq_true hc15) ?_
        refine WL.run 1 rfl ?_
        refine WL.v (X.pkT rfl (decide_eq_true hc15) rfl) ?_
        refine WL.run 1 rfl ?_
        by_cases hc16 : 2 ≤ c.data
        · refine WL.g1 rfl rfl (decide_eq_true hc16) ?_
          refine WL.run 1 rfl ?_
          refine WL.g1 rfl rfl (decide_eq_true hc16) ?_
          refine WL.v (X.ldk (hp.at 0 rfl) tA4 rfl rfl) ?_
          refine WL.g1 rfl rfl (decide_eq_true hc16) ?_
          refine WL.run 1 rfl ?_
          refine WL.v (X.pkT rfl (decide_eq_true hc16) rfl) ?_
          refine WL.run 1 rfl ?_
          refine WL.fin ?_
          refine W.ret ?_
          refine X.inR ?_
          refine X.thenR ?_
          refine W.done hp (rs := [.tmp 2]) (vs := [.bool (!c.final)]) (v := .bool (!c.final)) rfl ⟨rfl, trivial⟩ rfl ?_
          exact bool_val (by simp only [clsR_iff, clsSmall_iff]; simp_all; try omega)
        refine WL.g0 rfl rfl (decide_eq_false hc16) rfl ?_
        refine WL.g0 rfl rfl (decide_eq_false hc16) rfl ?_
        refine WL.g0 rfl rfl (decide_eq_false hc16) rfl ?_
        refine WL.v (X.pkF rfl (decide_eq_false hc16) rfl) ?_
        refine WL.run 1 rfl ?_
        refine WL.fin ?_
        refine W.ret ?_
        refine X.inR ?_
        refine X.thenR ?_
        refine W.done hp (rs := [.tmp 2]) (vs := [.bool false]) (v := .bool false) rfl ⟨rfl, trivial⟩ rfl ?_
        exact bool_val (by simp only [clsR_iff, clsSmall_iff]; simp_all; try omega)
      refine WL.g0 rfl rfl (decide_eq_false hc15) rfl ?_
      refine WL.g0 rfl rfl (decide_eq_false hc15) rfl ?_
      refine WL.g0 rfl rfl (decide_eq_false hc15) rfl ?_
      refine WL.v (X.pkF rfl (decide_eq_false hc15) rfl) ?_
      refine WL.run 1 rfl ?_
      refine WL.g0 rfl rfl rfl rfl ?_
      refine WL.g0 rfl rfl rfl rfl ?_
      refine WL.g0 rfl rfl rfl rfl ?_
      refine WL.v (X.pkF rfl rfl rfl) ?_
      refine WL.run 1 rfl ?_
      refine WL.fin ?_
      refine W.ret ?_
      refine X.inR ?_
      refine X.thenR ?_
      refine W.done hp (rs := [.tmp 2]) (vs := [.bool false]) (v := .bool false) rfl ⟨rfl, trivial⟩ rfl ?_
      exact bool_val (by simp only [clsR_iff, clsSmall_iff]; simp_all; try omega)
    refine WL.g0 rfl rfl (decide_eq_false hc14) rfl ?_
    refine WL.g0 rfl rfl (decide_eq_false hc14) rfl ?_
    refine WL.g0 rfl rfl (decide_eq_false hc14) rfl ?_
    refine WL.v (X.pkF rfl (decide_eq_false hc14) rfl) ?_
    refine WL.run 1 rfl ?_
    refine WL.g0 rfl rfl rfl rfl ?_
    refine WL.g0 rfl rfl rfl rfl ?_
    refine WL.g0 rfl rfl rfl rfl ?_
    refine WL.v (X.pkF rfl rfl rfl) ?_
    refine WL.run 1 rfl ?_
    refine WL.g0 rfl rfl rfl rfl ?_
    refine WL.g0 rfl rfl rfl rfl ?_
    refine WL.g0 rfl rfl rfl rfl ?_
    refine WL.v (X.pkF rfl rfl rfl) ?_
    refine WL.run 1 rfl ?_
    refine WL.fin ?_
    refine W.ret ?_
    refine X.inR ?_
    refine X.thenR ?_
    refine W.done hp (rs := [.tmp 2]) (vs := [.bool false]) (v := .bool false) rfl ⟨rfl, trivial⟩ rfl ?_
    exact bool_val (by simp only [clsR_iff, clsSmall_iff]; simp_all; try omega)
  refine W.cF rfl (decide_eq_false hc13) ?_
  refine W.reg ?_
  refine WL.run 2 rfl ?_
  refine WL.fin ?_
  by_cases hc17 : c.kind = 5
  · refine W.cT rfl (decide_eq_true hc17) ?_
    refine W.sr ?_
    refine WL.run 2 rfl ?_
    by_cases hc18 : ((2 + c.refs) + c.data) ≤ 32
    · refine WL.g1 rfl rfl (decide_eq_true hc18) ?_
      refine WL.run 1 rfl ?_
      refine WL.g1 rfl rfl (decide_eq_true hc18) ?_
      refine WL.v (X.ldk (hp.at 0 rfl) tA3 rfl rfl) ?_
      refine WL.g1 rfl rfl (decide_eq_true hc18) ?_
      refine WL.run 1 rfl ?_
      refine WL.v (X.pkT rfl (decide_eq_true hc18) rfl) ?_
      refine WL.run 1 rfl ?_
      by_cases hc19 : 1 ≤ c.refs
      · refine WL.g1 rfl rfl (decide_eq_true hc19) ?_
        refine WL.run 1 rfl ?_
        refine WL.g1 rfl rfl (decide_eq_true hc19) ?_
        refine WL.v (X.ldk (hp.at 0 rfl) tA3 rfl rfl) ?_
        refine WL.g1 rfl rfl (decide_eq_true hc19) ?_
        refine WL.run 1 rfl ?_
        refine WL.v (X.pkT rfl (decide_eq_true hc19) rfl) ?_
        refine WL.run 1 rfl ?_
        by_cases hc20 : 2 ≤ c.data
        · refine WL.g1 rfl rfl (decide_eq_true hc20) ?_
          refine WL.run 1 rfl ?_
          refine WL.g1 rfl rfl (decide_eq_true hc20) ?_
          refine WL.v (X.ldk (hp.at 0 rfl) tA4 rfl rfl) ?_
          refine WL.g1 rfl rfl (decide_eq_true hc20) ?_
          refine WL.run 1 rfl ?_
          refine WL.v (X.pkT rfl (decide_eq_true hc20) rfl) ?_
          refine WL.run 1 rfl ?_
          refine WL.fin ?_
          refine W.ret ?_
          refine X.inR ?_
          refine X.thenR ?_
          refine W.done hp (rs := [.tmp 2]) (vs := [.bool (!c.final)]) (v := .bool (!c.final)) rfl ⟨rfl, trivial⟩ rfl ?_
          exact bool_val (by simp only [clsR_iff, clsSmall_iff]; simp_all; try omega)
        refine WL.g0 rfl rfl (decide_eq_false hc20) rfl ?_
        refine WL.g0 rfl rfl (decide_eq_false hc20) rfl ?_
        refine WL.g0 rfl rfl (decide_eq_false hc20) rfl ?_
        refine WL.v (X.pkF rfl (decide_eq_false hc20) rfl) ?_
        refine WL.run 1 rfl ?_
        refine WL.fin ?_
        refine W.ret ?_
        refine X.inR ?_
        refine X.thenR ?_
        refine W.done hp (rs := [.tmp 2]) (vs := [.bool false]) (v := .bool false) rfl ⟨rfl, trivial⟩ rfl ?_
        exact bool_val (by simp only [clsR_iff, clsSmall_iff]; simp_all; try omega)
      refine WL.g0 rfl rfl (decide_eq_false hc19) rfl ?_
      refine WL.g0 rfl rfl (decide_eq_false hc19) rfl ?_
      refine WL.g0 rfl rfl (decide_eq_false hc19) rfl ?_
      refine WL.v (X.pkF rfl (decide_eq_false hc19) rfl) ?_
      refine WL.run 1 rfl ?_
      refine WL.g0 rfl rfl rfl rfl ?_
      refine WL.g0 rfl rfl rfl rfl ?_
      refine WL.g0 rfl rfl rfl rfl ?_
      refine WL.v (X.pkF rfl rfl rfl) ?_
      refine WL.run 1 rfl ?_
      refine WL.fin ?_
      refine W.ret ?_
      refine X.inR ?_
      refine X.thenR ?_
      refine W.done hp (rs := [.tmp 2]) (vs := [.bool false]) (v := .bool false) rfl ⟨rfl, trivial⟩ rfl ?_
      exact bool_val (by simp only [clsR_iff, clsSmall_iff]; simp_all; try omega)
    refine WL.g0 rfl rfl (decide_eq_false hc18) rfl ?_
    refine WL.g0 rfl rfl (decide_eq_false hc18) rfl ?_
    refine WL.g0 rfl rfl (decide_eq_false hc18) rfl ?_
    refine WL.v (X.pkF rfl (decide_eq_false hc18) rfl) ?_
    refine WL.run 1 rfl ?_
    refine WL.g0 rfl rfl rfl rfl ?_
    refine WL.g0 rfl rfl rfl rfl ?_
    refine WL.g0 rfl rfl rfl rfl ?_
    refine WL.v (X.pkF rfl rfl rfl) ?_
    refine WL.run 1 rfl ?_
    refine WL.g0 rfl rfl rfl rfl ?_
    refine WL.g0 rfl rfl rfl rfl ?_
    refine WL.g0 rfl rfl rfl rfl ?_
    refine WL.v (X.pkF rfl rfl rfl) ?_
    refine WL.run 1 rfl ?_
    refine WL.fin ?_
    refine W.ret ?_
    refine X.inR ?_
    refine X.thenR ?_
    refine W.done hp (rs := [.tmp 2]) (vs := [.bool false]) (v := .bool false) rfl ⟨rfl, trivial⟩ rfl ?_
    exact bool_val (by simp only [clsR_iff, clsSmall_iff]; simp_all; try omega)
  refine W.cF rfl (decide_eq_false hc17) ?_
  refine W.skip ?_
  refine X.inN ?_
  refine X.thenN ?_
  refine W.sr ?_
  refine WL.run 1 rfl ?_
  refine WL.fin ?_
  refine W.ret ?_
  refine W.done hp (rs := [.tmp 2]) (vs := [.bool false]) (v := .bool false) rfl ⟨rfl, trivial⟩ rfl ?_
  exact bool_val (by simp only [clsR_iff, clsSmall_iff]; simp_all; try omega)

theorem new5_c {w0 : World} {cv : Value} {cs : List Cls} (hC : (viewR clsV 4 cv cs).ok w0) :
    Calls Tryz.prog 14 #[cv] w0 (Ret [] w0 (fun v _ => (cs.all clsR = true ∧ cs.length < 64 ∧ v = .int .i64 0) ∨ (¬ (cs.all clsR = true ∧ cs.length < 64) ∧ ∃ e : Int, e ≠ 0 ∧ v = .int .i64 e))) := by
  have hp : Hp w0 [] [] w0 := Hp.init w0
  have hle := view_len_le hC
  refine enter (vs := [cv]) Tryz.func14 rfl rfl rfl ?_
  refine gen_world hp ?_
  intro w hp
  refine W.sr ?_
  refine WL.run 1 rfl ?_
  refine WL.s ?_
  refine W.sr ?_
  refine WL.run 1 rfl ?_
  refine WL.v (view_len tL22 (hp.old0 hC) rfl) ?_
  refine WL.run 1 rfl ?_
  refine WL.fin ?_
  refine W.block ?_
  refine W.loop (X := Nat) (fun i => cs.length - i) (fun i => [(0, cv), (5, .int .i64 (cs.length : Int)), (6, .int .i64 (i : Int))]) (fun i w => Hp w0 [] [] w ∧ i ≤ cs.length ∧ (cs.take i).all clsR = true) 0 ⟨rfl, rfl, rfl, trivial⟩ ?_ ?_
  · exact ⟨hp, by omega, rfl⟩
  rintro i w ⟨hp, hi, hno⟩
  refine W.sr ?_
  refine WL.run 1 rfl ?_
  refine WL.s ?_
  by_cases hc1 : (i : Int) < (cs.length : Int)
  · refine W.cT rfl (decide_eq_true hc1) ?_
    refine W.k ?_
    refine W.seq ?_
    refine W.block ?_
    refine W.seq ?_
    have hlt : i < cs.length := by omega
    refine W.reg ?_
    refine WL.run 2 rfl ?_
    refine WL.a ?_
    refine WL.run 2 rfl ?_
    refine WL.v (X.idxV (j := i) (r := offOf cv + i * 4) tL22 tS111 (hp.old0 hC) rfl rfl (by omega) (by omega) rfl) ?_
    refine WL.v (X.ldA tA111 tS111 rfl (cs := [.int .i64 ((cs.getD i default).kind), .int .i64 ((cs.getD i default).refs), .int .i64 ((cs.getD i default).data), .bool ((cs.getD i default).final)]) (view_cells (hp.old0 hC) (get_some (by omega)) (by omega))) ?_
    refine WL.call isFn49 rfl rfl (clsRight5_c (c := (cs.getD i default))) ?_
    intro v w hc hr
    obtain rfl := hr
    have hp := hp.ext hc
    refine WL.run 1 rfl ?_
    refine WL.fin ?_
    by_cases hc2 : clsR (cs.getD i default) = true
    · refine W.cF rfl (congrArg not hc2) ?_
      refine W.skip ?_
      refine X.inN ?_
      refine X.thenN ?_
      refine W.reg ?_
      refine WL.v (X.add rfl rfl (in64 (by omega))) ?_
      refine WL.run 1 rfl ?_
      refine WL.nil ?_
      refine X.again (i + 1) ⟨rfl, rfl, rfl, trivial⟩ ?_ ?_
      · exact ⟨hp, by omega, all_take_succ hlt hno (by assumption)⟩
      · omega
    refine W.cT rfl (congrArg not (Bool.eq_false_iff.2 hc2)) ?_
    refine W.sr ?_
    refine WL.run 1 rfl ?_
    refine WL.fin ?_
    refine W.ret ?_
    refine X.inR ?_
    refine X.thenR ?_
    refine X.thenR ?_
    refine X.inR ?_
    refine X.thenR ?_
    refine W.done hp (rs := [.tmp 2]) (vs := [.int .i64 1]) (v := .int .i64 1) rfl ⟨rfl, trivial⟩ rfl ?_
    exact .inr ⟨fun q => all_no hlt (by assumption) q.1, 1, by decide, rfl⟩
  refine W.cF rfl (decide_eq_false hc1) ?_
  refine W.exit ?_
  refine X.thenE ?_
  refine X.thenE ?_
  refine X.inH ?_
  refine X.thenN ?_
  refine W.seq ?_
  refine W.seq ?_
  have hall : cs.all clsR = true := by rw [← hno, List.take_of_length_le (by omega)]
  refine W.reg ?_
  refine WL.run 1 rfl ?_
  refine WL.v (view_len tL22 (hp.old0 hC) rfl) ?_
  refine WL.run 1 rfl ?_
  refine WL.fin ?_
  by_cases hc3 : 64 ≤ (cs.length : Int)
  · refine W.cT rfl (decide_eq_true hc3) ?_
    refine W.sr ?_
    refine WL.run 1 rfl ?_
    refine WL.fin ?_
    refine W.ret ?_
    refine X.thenR ?_
    refine W.done hp (rs := [.tmp 2]) (vs := [.int .i64 3]) (v := .int .i64 3) rfl ⟨rfl, trivial⟩ rfl ?_
    exact .inr ⟨fun q => by omega, 3, by decide, rfl⟩
  refine W.cF rfl (decide_eq_false hc3) ?_
  refine W.ks ?_
  refine WL.run 1 rfl ?_
  refine WL.fin ?_
  refine W.ret ?_
  refine W.done hp (rs := [.tmp 2]) (vs := [.int .i64 0]) (v := .int .i64 0) rfl ⟨rfl, trivial⟩ rfl ?_
  exact .inl ⟨hall, by omega, rfl⟩

theorem shape5_c {w0 : World} {cv : Value} {cs : List Cls} {n m : Int} (hC : (viewR clsV 4 cv cs).ok w0) (hcs : ∀ x ∈ cs, clsR x = true)  :
    Calls Tryz.prog 56 #[cv, .int .i64 n, .int .i64 m] w0 (Ret [] w0 (fun v _ => (shapeE cs n m = 0 ∧ v = .tuple #[.int .i64 ((cget cs n).refs + m), .int .i64 (cget cs n).data, .int .i64 0]) ∨ (shapeE cs n m ≠ 0 ∧ v = .tuple #[.int .i64 0, .int .i64 0, .int .i64 (shapeE cs n m)]))) := by
  have hp : Hp w0 [] [] w0 := Hp.init w0
  have hle := view_len_le hC
  refine enter (vs := [cv, .int .i64 n, .int .i64 m]) Tryz.func56 rfl rfl rfl ?_
  refine gen_world hp ?_
  intro w hp
  refine W.sr ?_
  refine WL.run 3 rfl ?_
  refine WL.s ?_
  refine W.sr ?_
  refine WL.run 3 rfl ?_
  by_cases hc1 : n < 1
  · refine WL.g0 rfl rfl (decide_eq_true hc1) rfl ?_
    refine WL.g0 rfl rfl (decide_eq_true hc1) rfl ?_
    refine WL.g0 rfl rfl (decide_eq_true hc1) rfl ?_
    refine WL.g0 rfl rfl (decide_eq_true hc1) rfl ?_
    refine WL.v (X.pkT rfl (decide_eq_true hc1) rfl) ?_
    refine WL.fin ?_
    refine W.cT rfl rfl ?_
    refine W.sr ?_
    refine WL.run 3 rfl ?_
    refine WL.fin ?_
    refine W.ret ?_
    refine X.thenR ?_
    refine W.done hp (rs := [.tmp 6, .tmp 7, .tmp 8]) (vs := [.int .i64 0, .int .i64 0, .int .i64 4]) (v := .tuple #[.int .i64 0, .int .i64 0, .int .i64 4]) rfl ⟨rfl, rfl, rfl, trivial⟩ rfl ?_
    first | (exfalso; omega) | exact .inl ⟨by unfold shapeE; rw [if_neg (by omega), if_neg (by omega), if_neg (by omega)], rfl⟩ | (have he : shapeE cs n m = 4 := (by unfold shapeE; rw [if_pos (by omega)]); exact .inr ⟨by omega, by rw [he]⟩) | (have he : shapeE cs n m = 1 := (by unfold shapeE; rw [if_neg (by omega), if_pos (by omega)]); exact .inr ⟨by omega, by rw [he]⟩) | (have he : shapeE cs n m = 8 := (by unfold shapeE; rw [if_neg (by omega), if_neg (by omega), if_pos (by omega)]); exact .inr ⟨by omega, by rw [he]⟩)
  refine WL.g1 rfl rfl (decide_eq_false hc1) ?_
  refine WL.run 1 rfl ?_
  refine WL.g1 rfl rfl (decide_eq_false hc1) ?_
  refine WL.run 1 rfl ?_
  refine WL.g1 rfl rfl (decide_eq_false hc1) ?_
  refine WL.v (view_len tL22 (hp.old0 hC) rfl) ?_
  refine WL.g1 rfl rfl (decide_eq_false hc1) ?_
  refine WL.run 1 rfl ?_
  refine WL.v (X.pkF rfl (decide_eq_false hc1) rfl) ?_
  refine WL.fin ?_
  by_cases hc2 : (cs.length : Int) < n
  · refine W.cT rfl (decide_eq_true hc2) ?_
    refine W.sr ?_
    refine WL.run 3 rfl ?_
    refine WL.fin ?_
    refine W.ret ?_
    refine X.thenR ?_
    refine W.done hp (rs := [.tmp 6, .tmp 7, .tmp 8]) (vs := [.int .i64 0, .int .i64 0, .int .i64 4]) (v := .tuple #[.int .i64 0, .int .i64 0, .int .i64 4]) rfl ⟨rfl, rfl, rfl, trivial⟩ rfl ?_
    first | (exfalso; omega) | exact .inl ⟨by unfold shapeE; rw [if_neg (by omega), if_neg (by omega), if_neg (by omega)], rfl⟩ | (have he : shapeE cs n m = 4 := (by unfold shapeE; rw [if_pos (by omega)]); exact .inr ⟨by omega, by rw [he]⟩) | (have he : shapeE cs n m = 1 := (by unfold shapeE; rw [if_neg (by omega), if_pos (by omega)]); exact .inr ⟨by omega, by rw [he]⟩) | (have he : shapeE cs n m = 8 := (by unfold shapeE; rw [if_neg (by omega), if_neg (by omega), if_pos (by omega)]); exact .inr ⟨by omega, by rw [he]⟩)
  refine W.cF rfl (decide_eq_false hc2) ?_
  refine W.ks ?_
  refine WL.run 2 rfl ?_
  refine WL.v (X.sub rfl rfl (in64 (by omega))) ?_
  refine WL.v (X.idxV (j := (n - 1).toNat) (r := offOf cv + ((n - 1).toNat) * 4) tL22 tS111 (hp.old0 hC) rfl rfl (by omega) (by omega) rfl) ?_
  refine WL.v (X.ldA tA111 tS111 rfl (cs := [.int .i64 ((cs.getD ((n - 1).toNat) default).kind), .int .i64 ((cs.getD ((n - 1).toNat) default).refs), .int .i64 ((cs.getD ((n - 1).toNat) default).data), .bool ((cs.getD ((n - 1).toNat) default).final)]) (view_cells (hp.old0 hC) (get_some (by omega)) (by omega))) ?_
  refine WL.alloc hp tZ111 rfl ?_
  intro b3 w hp
  refine WL.store hp 0 rfl tS111 rfl rfl (vs := [.int .i64 ((cs.getD ((n - 1).toNat) default).kind), .int .i64 ((cs.getD ((n - 1).toNat) default).refs), .int .i64 ((cs.getD ((n - 1).toNat) default).data), .bool ((cs.getD ((n - 1).toNat) default).final)]) rfl rfl rfl (new := #[.int .i64 ((cs.getD ((n - 1).toNat) default).kind), .int .i64 ((cs.getD ((n - 1).toNat) default).refs), .int .i64 ((cs.getD ((n - 1).toNat) default).data), .bool ((cs.getD ((n - 1).toNat) default).final)]) rfl ?_
  intro w hp
  refine WL.s ?_
  refine W.seq ?_
  have hcg : (cget cs n).kind = (cs.getD (n - 1).toNat default).kind := rfl
  refine W.reg ?_
  refine WL.run 3 rfl ?_
  by_cases hc4 : m < 0
  · refine WL.g0 rfl rfl (decide_eq_true hc4) rfl ?_
    refine WL.g0 rfl rfl (decide_eq_true hc4) rfl ?_
    refine WL.g0 rfl rfl (decide_eq_true hc4) rfl ?_
    refine WL.gu rfl rfl rfl ?_
    refine WL.gu rfl rfl rfl ?_
    refine WL.gu rfl rfl rfl ?_
    refine WL.g0 rfl rfl (decide_eq_true hc4) rfl ?_
    refine WL.v (X.pkT rfl (decide_eq_true hc4) rfl) ?_
    refine WL.fin ?_
    refine W.cT rfl rfl ?_
    refine W.sr ?_
    refine WL.run 3 rfl ?_
    refine WL.fin ?_
    refine W.ret ?_
    refine X.thenR ?_
    refine W.done hp (rs := [.tmp 6, .tmp 7, .tmp 8]) (vs := [.int .i64 0, .int .i64 0, .int .i64 1]) (v := .tuple #[.int .i64 0, .int .i64 0, .int .i64 1]) rfl ⟨rfl, rfl, rfl, trivial⟩ rfl ?_
    first | (exfalso; omega) | exact .inl ⟨by unfold shapeE; rw [if_neg (by omega), if_neg (by omega), if_neg (by omega)], rfl⟩ | (have he : shapeE cs n m = 4 := (by unfold shapeE; rw [if_pos (by omega)]); exact .inr ⟨by omega, by rw [he]⟩) | (have he : shapeE cs n m = 1 := (by unfold shapeE; rw [if_neg (by omega), if_pos (by omega)]); exact .inr ⟨by omega, by rw [he]⟩) | (have he : shapeE cs n m = 8 := (by unfold shapeE; rw [if_neg (by omega), if_neg (by omega), if_pos (by omega)]); exact .inr ⟨by omega, by rw [he]⟩)
  refine WL.g1 rfl rfl (decide_eq_false hc4) ?_
  refine WL.run 1 rfl ?_
  refine WL.g1 rfl rfl (decide_eq_false hc4) ?_
  refine WL.run 1 rfl ?_
  refine WL.g1 rfl rfl (decide_eq_false hc4) ?_
  refine WL.run 1 rfl ?_
  by_cases hc5 : m ≠ 0
  · refine WL.g1 rfl rfl (decide_eq_true hc5) ?_
    refine WL.run 1 rfl ?_
    refine WL.g1 rfl rfl (decide_eq_true hc5) ?_
    refine WL.v (X.ldk (hp.at 0 rfl) tA3 rfl rfl) ?_
    refine WL.g1 rfl rfl (decide_eq_true hc5) ?_
    refine WL.run 1 rfl ?_
    refine WL.g1 rfl rfl (decide_eq_false hc4) ?_
    refine WL.v (X.pkT rfl (decide_eq_true hc5) rfl) ?_
    refine WL.v (X.pkF rfl (decide_eq_false hc4) rfl) ?_
    refine WL.fin ?_
    by_cases hc6 : ((cs.getD ((n - 1).toNat) default).kind) ≠ 2
    · refine W.cT rfl (decide_eq_true hc6) ?_
      refine W.sr ?_
      refine WL.run 3 rfl ?_
      refine WL.fin ?_
      refine W.ret ?_
      refine X.thenR ?_
      refine W.done hp (rs := [.tmp 6, .tmp 7, .tmp 8]) (vs := [.int .i64 0, .int .i64 0, .int .i64 1]) (v := .tuple #[.int .i64 0, .int .i64 0, .int .i64 1]) rfl ⟨rfl, rfl, rfl, trivial⟩ rfl ?_
      first | (exfalso; omega) | exact .inl ⟨by unfold shapeE; rw [if_neg (by omega), if_neg (by omega), if_neg (by omega)], rfl⟩ | (have he : shapeE cs n m = 4 := (by unfold shapeE; rw [if_pos (by omega)]); exact .inr ⟨by omega, by rw [he]⟩) | (have he : shapeE cs n m = 1 := (by unfold shapeE; rw [if_neg (by omega), if_pos (by omega)]); exact .inr ⟨by omega, by rw [he]⟩) | (have he : shapeE cs n m = 8 := (by unfold shapeE; rw [if_neg (by omega), if_neg (by omega), if_pos (by omega)]); exact .inr ⟨by omega, by rw [he]⟩)
    refine W.cF rfl (decide_eq_false hc6) ?_
    refine W.k ?_
    refine W.seq ?_
    refine W.sr ?_
    refine WL.run 2 rfl ?_
    refine WL.fin ?_
    by_cases hc7 : 30 < m
    · refine W.cT rfl (decide_eq_true hc7) ?_
      refine W.sr ?_
      refine WL.run 3 rfl ?_
      refine WL.fin ?_
      refine W.ret ?_
      refine X.thenR ?_
      refine W.done hp (rs := [.tmp 6, .tmp 7, .tmp 8]) (vs := [.int .i64 0, .int .i64 0, .int .i64 8]) (v := .tuple #[.int .i64 0, .int .i64 0, .int .i64 8]) rfl ⟨rfl, rfl, rfl, trivial⟩ rfl ?_
      first | (exfalso; omega) | exact .inl ⟨by unfold shapeE; rw [if_neg (by omega), if_neg (by omega), if_neg (by omega)], rfl⟩ | (have he : shapeE cs n m = 4 := (by unfold shapeE; rw [if_pos (by omega)]); exact .inr ⟨by omega, by rw [he]⟩) | (have he : shapeE cs n m = 1 := (by unfold shapeE; rw [if_neg (by omega), if_pos (by omega)]); exact .inr ⟨by omega, by rw [he]⟩) | (have he : shapeE cs n m = 8 := (by unfold shapeE; rw [if_neg (by omega), if_neg (by omega), if_pos (by omega)]); exact .inr ⟨by omega, by rw [he]⟩)
    refine W.cF rfl (decide_eq_false hc7) ?_
    refine W.k ?_
    refine W.seq ?_
    have hbd : 0 ≤ (cget cs n).refs ∧ 0 ≤ (cget cs n).data ∧ (cget cs n).refs + (cget cs n).data ≤ 30 := clsR_bd (hcs _ (mem_getD (by omega)))
    have hcg : cget cs n = cs.getD (n - 1).toNat default := rfl
    rw [hcg] at hbd
    refine W.draw prog_mixed (fun w => (blkR b3 (.cells (#[.int .i64 ((cs.getD ((n - 1).toNat) default).kind), .int .i64 ((cs.getD ((n - 1).toNat) default).refs), .int .i64 ((cs.getD ((n - 1).toNat) default).data), .bool ((cs.getD ((n - 1).toNat) default).final)]) 111 (0, 0))).ok w ∧ (viewR clsV 4 cv cs).ok w ∧ True) hp ?_
    intro w hp
    refine WD.s ⟨hp.at 0 rfl, hp.old0 hC, trivial⟩ fun hS0 => ?_
    refine WD.v 0 rfl hS0 (fun w hS => (X.fa (r := 1) tF111_1 rfl rfl)) ?_
    refine WD.v 1 rfl hS0 (fun w hS => (X.ldk hS.1 tA3 rfl rfl)) ?_
    refine WD.v 2 rfl hS0 (fun w hS => (X.mv rfl)) ?_
    refine WD.v 3 rfl hS0 (fun w hS => (X.add rfl rfl (in64 (by omega)))) ?_
    refine WD.v 4 rfl hS0 (fun w hS => (X.fa (r := 2) tF111_2 rfl rfl)) ?_
    refine WD.v 5 rfl hS0 (fun w hS => (X.ldk hS.1 tA3 rfl rfl)) ?_
    refine WD.v 6 rfl hS0 (fun w hS => (X.as rfl)) ?_
    refine WD.v 7 rfl hS0 (fun w hS => (X.as rfl)) ?_
    refine WD.v 8 rfl hS0 (fun w hS => (X.as rfl)) ?_
    refine WD.nil (by kernel_rfl) ?_
    refine X.thenN ?_
    refine W.ret ?_
    refine W.done hp (rs := [.tmp 6, .tmp 7, .tmp 8]) (vs := [.int .i64 (((cs.getD ((n - 1).toNat) default).refs) + m), .int .i64 ((cs.getD ((n - 1).toNat) default).data), .int .i64 0]) (v := .tuple #[.int .i64 (((cs.getD ((n - 1).toNat) default).refs) + m), .int .i64 ((cs.getD ((n - 1).toNat) default).data), .int .i64 0]) rfl ⟨rfl, rfl, rfl, trivial⟩ rfl ?_
    first | (exfalso; omega) | exact .inl ⟨by unfold shapeE; rw [if_neg (by omega), if_neg (by omega), if_neg (by omega)], rfl⟩ | (have he : shapeE cs n m = 4 := (by unfold shapeE; rw [if_pos (by omega)]); exact .inr ⟨by omega, by rw [he]⟩) | (have he : shapeE cs n m = 1 := (by unfold shapeE; rw [if_neg (by omega), if_pos (by omega)]); exact .inr ⟨by omega, by rw [he]⟩) | (have he : shapeE cs n m = 8 := (by unfold shapeE; rw [if_neg (by omega), if_neg (by omega), if_pos (by omega)]); exact .inr ⟨by omega, by rw [he]⟩)
  refine WL.g0 rfl rfl (decide_eq_false hc5) rfl ?_
  refine WL.g0 rfl rfl (decide_eq_false hc5) rfl ?_
  refine WL.g0 rfl rfl (decide_eq_false hc5) rfl ?_
  refine WL.g1 rfl rfl (decide_eq_false hc4) ?_
  refine WL.v (X.pkF rfl (decide_eq_false hc5) rfl) ?_
  refine WL.v (X.pkF rfl (decide_eq_false hc4) rfl) ?_
  refine WL.fin ?_
  refine W.cF rfl rfl ?_
  refine W.k ?_
  refine W.seq ?_
  refine W.sr ?_
  refine WL.run 2 rfl ?_
  refine WL.fin ?_
  by_cases hc8 : 30 < m
  · refine W.cT rfl (decide_eq_true hc8) ?_
    refine W.sr ?_
    refine WL.run 3 rfl ?_
    refine WL.fin ?_
    refine W.ret ?_
    refine X.thenR ?_
    refine W.done hp (rs := [.tmp 6, .tmp 7, .tmp 8]) (vs := [.int .i64 0, .int .i64 0, .int .i64 8]) (v := .tuple #[.int .i64 0, .int .i64 0, .int .i64 8]) rfl ⟨rfl, rfl, rfl, trivial⟩ rfl ?_
    first | (exfalso; omega) | exact .inl ⟨by unfold shapeE; rw [if_neg (by omega), if_neg (by omega), if_neg (by omega)], rfl⟩ | (have he : shapeE cs n m = 4 := (by unfold shapeE; rw [if_pos (by omega)]); exact .inr ⟨by omega, by rw [he]⟩) | (have he : shapeE cs n m = 1 := (by unfold shapeE; rw [if_neg (by omega), if_pos (by omega)]); exact .inr ⟨by omega, by rw [he]⟩) | (have he : shapeE cs n m = 8 := (by unfold shapeE; rw [if_neg (by omega), if_neg (by omega), if_pos (by omega)]); exact .inr ⟨by omega, by rw [he]⟩)
  refine W.cF rfl (decide_eq_false hc8) ?_
  refine W.k ?_
  refine W.seq ?_
  have hbd : 0 ≤ (cget cs n).refs ∧ 0 ≤ (cget cs n).data ∧ (cget cs n).refs + (cget cs n).data ≤ 30 := clsR_bd (hcs _ (mem_getD (by omega)))
  have hcg : cget cs n = cs.getD (n - 1).toNat default := rfl
  rw [hcg] at hbd
  refine W.draw prog_mixed (fun w => (blkR b3 (.cells (#[.int .i64 ((cs.getD ((n - 1).toNat) default).kind), .int .i64 ((cs.getD ((n - 1).toNat) default).refs), .int .i64 ((cs.getD ((n - 1).toNat) default).data), .bool ((cs.getD ((n - 1).toNat) default).final)]) 111 (0, 0))).ok w ∧ (viewR clsV 4 cv cs).ok w ∧ True) hp ?_
  intro w hp
  refine WD.s ⟨hp.at 0 rfl, hp.old0 hC, trivial⟩ fun hS0 => ?_
  refine WD.v 0 rfl hS0 (fun w hS => (X.fa (r := 1) tF111_1 rfl rfl)) ?_
  refine WD.v 1 rfl hS0 (fun w hS => (X.ldk hS.1 tA3 rfl rfl)) ?_
  refine WD.v 2 rfl hS0 (fun w hS => (X.mv rfl)) ?_
  refine WD.v 3 rfl hS0 (fun w hS => (X.add rfl rfl (in64 (by omega)))) ?_
  refine WD.v 4 rfl hS0 (fun w hS => (X.fa (r := 2) tF111_2 rfl rfl)) ?_
  refine WD.v 5 rfl hS0 (fun w hS => (X.ldk hS.1 tA3 rfl rfl)) ?_
  refine WD.v 6 rfl hS0 (fun w hS => (X.as rfl)) ?_
  refine WD.v 7 rfl hS0 (fun w hS => (X.as rfl)) ?_
  refine WD.v 8 rfl hS0 (fun w hS => (X.as rfl)) ?_
  refine WD.nil (by kernel_rfl) ?_
  refine X.thenN ?_
  refine W.ret ?_
  refine W.done hp (rs := [.tmp 6, .tmp 7, .tmp 8]) (vs := [.int .i64 (((cs.getD ((n - 1).toNat) default).refs) + m), .int .i64 ((cs.getD ((n - 1).toNat) default).data), .int .i64 0]) (v := .tuple #[.int .i64 (((cs.getD ((n - 1).toNat) default).refs) + m), .int .i64 ((cs.getD ((n - 1).toNat) default).data), .int .i64 0]) rfl ⟨rfl, rfl, rfl, trivial⟩ rfl ?_
  first | (exfalso; omega) | exact .inl ⟨by unfold shapeE; rw [if_neg (by omega), if_neg (by omega), if_neg (by omega)], rfl⟩ | (have he : shapeE cs n m = 4 := (by unfold shapeE; rw [if_pos (by omega)]); exact .inr ⟨by omega, by rw [he]⟩) | (have he : shapeE cs n m = 1 := (by unfold shapeE; rw [if_neg (by omega), if_pos (by omega)]); exact .inr ⟨by omega, by rw [he]⟩) | (have he : shapeE cs n m = 8 := (by unfold shapeE; rw [if_neg (by omega), if_neg (by omega), if_pos (by omega)]); exact .inr ⟨by omega, by rw [he]⟩)

theorem size6_c {w0 : World} {q : Nat} {wv cv : Value} {ws : List Int} {cs : List Cls} (hQ : (blkR q (.cells (#[wv]) 59 (0, 0))).ok w0)  (hW : (viewR encI 1 wv ws).ok w0) {a : Int} (hC : (viewR clsV 4 cv cs).ok w0) (hcs : ∀ x ∈ cs, clsR x = true)  :
    Calls Tryz.prog 41 #[.agg #[.pointer (some ⟨q, 0, none⟩), cv], .int .i64 a] w0 (Ret [] w0 (fun v _ => v = .tuple #[.int .i64 (atT ws cs a).words, .bool (decide ((atT ws cs a).hd.cls ≠ 0)), .int .i64 (atE ws cs a)])) := by
  have hp : Hp w0 [] [] w0 := Hp.init w0
  have hle := view_len_le hW
  refine enter (vs := [.agg #[.pointer (some ⟨q, 0, none⟩), cv], .int .i64 a]) Tryz.func41 rfl rfl rfl ?_
  refine gen_world hp ?_
  intro w hp
  refine W.sr ?_
  refine WL.box hp rfl (cs := #[.pointer (some ⟨q, 0, none⟩), cv]) rfl rfl ?_
  intro b1 w hp
  refine WL.run 3 rfl ?_
  refine WL.s ?_
  refine W.sr ?_
  refine WL.run 3 rfl ?_
  by_cases hc2 : a < 1
  · refine WL.g0 rfl rfl (decide_eq_true hc2) rfl ?_
    refine WL.g0 rfl rfl (decide_eq_true hc2) rfl ?_
    refine WL.g0 rfl rfl (decide_eq_true hc2) rfl ?_
    refine WL.g0 rfl rfl (decide_eq_true hc2) rfl ?_
    refine WL.g0 rfl rfl (decide_eq_true hc2) rfl ?_
    refine WL.g0 rfl rfl (decide_eq_true hc2) rfl ?_
    refine WL.g0 rfl rfl (decide_eq_true hc2) rfl ?_
    refine WL.g0 rfl rfl (decide_eq_true hc2) rfl ?_
    refine WL.v (X.pkT rfl (decide_eq_true hc2) rfl) ?_
    refine WL.fin ?_
    refine W.cT rfl rfl ?_
    refine W.sr ?_
    refine WL.run 3 rfl ?_
    refine WL.fin ?_
    refine W.ret ?_
    refine X.thenR ?_
    refine W.done hp (rs := [.tmp 4, .tmp 5, .tmp 6]) (vs := [.int .i64 0, .bool false, .int .i64 2]) (v := .tuple #[.int .i64 0, .bool false, .int .i64 2]) rfl ⟨rfl, rfl, rfl, trivial⟩ rfl ?_
    exact (by rw [show atE ws cs a = (atF ws cs a).1 from rfl, show atT ws cs a = (atF ws cs a).2 from rfl, atF_there (fun h_ => by have := thereB_t h_; omega)] <;> first | rfl | exact tup_f (by assumption) | exact tup_t (by assumption))
  refine WL.g1 rfl rfl (decide_eq_false hc2) ?_
  refine WL.run 1 rfl ?_
  refine WL.g1 rfl rfl (decide_eq_false hc2) ?_
  refine WL.run 1 rfl ?_
  refine WL.g1 rfl rfl (decide_eq_false hc2) ?_
  refine WL.v (X.ldk (hp.at 0 rfl) tA40 rfl rfl) ?_
  refine WL.g1 rfl rfl (decide_eq_false hc2) ?_
  refine WL.run 1 rfl ?_
  refine WL.g1 rfl rfl (decide_eq_false hc2) ?_
  refine WL.run 1 rfl ?_
  refine WL.g1 rfl rfl (decide_eq_false hc2) ?_
  refine WL.v (X.ldk (hp.old0 hQ) tA34 rfl rfl) ?_
  refine WL.g1 rfl rfl (decide_eq_false hc2) ?_
  refine WL.v (view_len tL34 (hp.old0 hW) rfl) ?_
  refine WL.g1 rfl rfl (decide_eq_false hc2) ?_
  refine WL.run 1 rfl ?_
  refine WL.v (X.pkF rfl (decide_eq_false hc2) rfl) ?_
  refine WL.fin ?_
  by_cases hc3 : (ws.length : Int) ≤ a
  · refine W.cT rfl (decide_eq_true hc3) ?_
    refine W.sr ?_
    refine WL.run 3 rfl ?_
    refine WL.fin ?_
    refine W.ret ?_
    refine X.thenR ?_
    refine W.done hp (rs := [.tmp 4, .tmp 5, .tmp 6]) (vs := [.int .i64 0, .bool false, .int .i64 2]) (v := .tuple #[.int .i64 0, .bool false, .int .i64 2]) rfl ⟨rfl, rfl, rfl, trivial⟩ rfl ?_
    exact (by rw [show atE ws cs a = (atF ws cs a).1 from rfl, show atT ws cs a = (atF ws cs a).2 from rfl, atF_there (fun h_ => by have := thereB_t h_; omega)] <;> first | rfl | exact tup_f (by assumption) | exact tup_t (by assumption))
  refine W.cF rfl (decide_eq_false hc3) ?_
  refine W.ks ?_
  refine WL.run 1 rfl ?_
  refine WL.v (X.ldk (hp.at 0 rfl) tA40 rfl rfl) ?_
  refine WL.run 2 rfl ?_
  refine WL.v (X.ldk (hp.old0 hQ) tA34 rfl rfl) ?_
  refine WL.run 1 rfl ?_
  refine WL.v (X.idxV (j := a.toNat) (r := offOf wv + a.toNat * 1) tL34 tS3 (hp.old0 hW) rfl rfl (by omega) (by omega) rfl) ?_
  refine WL.v (X.ld1 tA3 rfl (view_gi (a := a) (hp.old0 hW) (by omega))) ?_
  refine WL.call isFn77 rfl rfl (of4_c (x := gi ws a)) ?_
  intro v w hc hr
  rcases hr with ⟨ho4, rfl⟩ | ⟨ho4, rfl⟩
  · have hp := hp.ext hc
    refine WL.run 3 rfl ?_
    refine WL.alloc hp tZ103 rfl ?_
    intro b5 w hp
    refine WL.store hp 0 rfl tS103 rfl rfl (vs := [.int .i64 ((hdOf (gi ws a)).cls), .int .i64 ((hdOf (gi ws a)).age), .int .i64 ((hdOf (gi ws a)).fwd), .bool ((hdOf (gi ws a)).mark), .bool ((hdOf (gi ws a)).final), .bool ((hdOf (gi ws a)).done)]) rfl rfl rfl (new := #[.int .i64 ((hdOf (gi ws a)).cls), .int .i64 ((hdOf (gi ws a)).age), .int .i64 ((hdOf (gi ws a)).fwd), .bool ((hdOf (gi ws a)).mark), .bool ((hdOf (gi ws a)).final), .bool ((hdOf (gi ws a)).done)]) rfl ?_
    intro w hp
    refine WL.run 1 rfl ?_
    refine WL.s ?_
    refine W.sr ?_
    refine WL.run 2 rfl ?_
    refine WL.fin ?_
    refine W.cF rfl (decide_eq_false (by decide)) ?_
    refine W.k ?_
    refine W.seq ?_
    refine W.seq ?_
    have hR1 : hdR (hdOf (gi ws a)) = true := by assumption
    refine W.reg ?_
    refine WL.run 1 rfl ?_
    refine WL.v (X.ldk (hp.at 0 rfl) tA3 rfl rfl) ?_
    refine WL.run 2 rfl ?_
    by_cases hc7 : ((hdOf (gi ws a)).cls) = 0
    · refine WL.g1 rfl rfl (decide_eq_true hc7) ?_
      refine WL.run 1 rfl ?_
      refine WL.g1 rfl rfl (decide_eq_true hc7) ?_
      refine WL.v (X.ldk (hp.at 0 rfl) tA4 rfl rfl) ?_
      refine WL.v (X.pkT rfl (decide_eq_true hc7) rfl) ?_
      refine WL.fin ?_
      by_cases hc8 : (hdOf (gi ws a)).mark = true
      · refine W.cT rfl hc8 ?_
        refine W.sr ?_
        refine WL.run 3 rfl ?_
        refine WL.fin ?_
        refine W.ret ?_
        refine X.thenR ?_
        refine W.done hp (rs := [.tmp 4, .tmp 5, .tmp 6]) (vs := [.int .i64 1, .bool false, .int .i64 0]) (v := .tuple #[.int .i64 1, .bool false, .int .i64 0]) rfl ⟨rfl, rfl, rfl, trivial⟩ rfl ?_
        exact (by rw [show atE ws cs a = (atF ws cs a).1 from rfl, show atT ws cs a = (atF ws cs a).2 from rfl, atF_one ((thereB_iff _ _ _).2 (by omega)) hR1 (by assumption) (by assumption)] <;> first | rfl | exact tup_f (by assumption) | exact tup_t (by assumption))
      refine W.cF rfl (Bool.eq_false_iff.2 hc8) ?_
      refine W.k ?_
      refine W.seq ?_
      refine W.sr ?_
      refine WL.run 1 rfl ?_
      refine WL.v (X.add rfl rfl (in64 (by omega))) ?_
      refine WL.run 1 rfl ?_
      refine WL.v (X.ldk (hp.at 1 rfl) tA40 rfl rfl) ?_
      refine WL.run 2 rfl ?_
      refine WL.v (X.ldk (hp.old0 hQ) tA34 rfl rfl) ?_
      refine WL.v (view_len tL34 (hp.old0 hW) rfl) ?_
      refine WL.run 1 rfl ?_
      refine WL.fin ?_
      by_cases hc9 : (ws.length : Int) ≤ (a + 1)
      · refine W.cT rfl (decide_eq_true hc9) ?_
        refine W.sr ?_
        refine WL.run 3 rfl ?_
        refine WL.fin ?_
        refine W.ret ?_
        refine X.thenR ?_
        refine W.done hp (rs := [.tmp 4, .tmp 5, .tmp 6]) (vs := [.int .i64 0, .bool false, .int .i64 12]) (v := .tuple #[.int .i64 0, .bool false, .int .i64 12]) rfl ⟨rfl, rfl, rfl, trivial⟩ rfl ?_
        exact (by rw [show atE ws cs a = (atF ws cs a).1 from rfl, show atT ws cs a = (atF ws cs a).2 from rfl, atF_len ((thereB_iff _ _ _).2 (by omega)) hR1 (fun h => by first | exact absurd h.1 (by assumption) | exact absurd h.2 (by assumption)) (by omega)] <;> first | rfl | exact tup_f (by assumption) | exact tup_t (by assumption))
      refine W.cF rfl (decide_eq_false hc9) ?_
      refine W.ks ?_
      refine WL.run 1 rfl ?_
      refine WL.v (X.ldk (hp.at 1 rfl) tA40 rfl rfl) ?_
      refine WL.run 2 rfl ?_
      refine WL.v (X.ldk (hp.old0 hQ) tA34 rfl rfl) ?_
      refine WL.run 1 rfl ?_
      refine WL.v (X.add rfl rfl (in64 (by omega))) ?_
      refine WL.v (X.idxV (j := (a + 1).toNat) (r := offOf wv + ((a + 1).toNat) * 1) tL34 tS3 (hp.old0 hW) rfl rfl (by omega) (by omega) rfl) ?_
      refine WL.v (X.ld1 tA3 rfl (view_gi (a := a + 1) (hp.old0 hW) (by omega))) ?_
      refine WL.run 1 rfl ?_
      refine WL.s ?_
      refine W.sr ?_
      refine WL.run 1 rfl ?_
      refine WL.v (X.ldk (hp.at 0 rfl) tA3 rfl rfl) ?_
      refine WL.run 1 rfl ?_
      refine WL.fin ?_
      refine W.cT rfl (decide_eq_true hc7) ?_
      refine W.seq ?_
      refine W.sr ?_
      refine WL.run 3 rfl ?_
      by_cases hc10 : (gi ws (a + 1)) < 2
      · refine WL.g0 rfl rfl (decide_eq_true hc10) rfl ?_
        refine WL.g0 rfl rfl (decide_eq_true hc10) rfl ?_
        refine WL.g0 rfl rfl (decide_eq_true hc10) rfl ?_
        refine WL.g0 rfl rfl (decide_eq_true hc10) rfl ?_
        refine WL.g0 rfl rfl (decide_eq_true hc10) rfl ?_
        refine WL.g0 rfl rfl (decide_eq_true hc10) rfl ?_
        refine WL.v (X.pkT rfl (decide_eq_true hc10) rfl) ?_
        refine WL.fin ?_
        refine W.cT rfl rfl ?_
        refine W.sr ?_
        refine WL.run 3 rfl ?_
        refine WL.fin ?_
        refine W.ret ?_
        refine X.thenR ?_
        refine X.thenR ?_
        refine W.done hp (rs := [.tmp 4, .tmp 5, .tmp 6]) (vs := [.int .i64 0, .bool false, .int .i64 12]) (v := .tuple #[.int .i64 0, .bool false, .int .i64 12]) rfl ⟨rfl, rfl, rfl, trivial⟩ rfl ?_
        exact (by rw [show atE ws cs a = (atF ws cs a).1 from rfl, show atT ws cs a = (atF ws cs a).2 from rfl, atF_gapx ((thereB_iff _ _ _).2 (by omega)) hR1 (not_not_intro (by assumption)) (fun h => absurd h (by assumption)) (by omega) (by first | exact .inl (by assumption) | exact .inr (fun h_ => by have := thereB_t h_; omega))] <;> first | rfl | exact tup_f (by assumption) | exact tup_t (by assumption))
      refine WL.g1 rfl rfl (decide_eq_false hc10) ?_
      refine WL.run 1 rfl ?_
      refine WL.g1 rfl rfl (decide_eq_false hc10) ?_
      refine WL.v (X.ldk (hp.at 1 rfl) tA40 rfl rfl) ?_
      refine WL.g1 rfl rfl (decide_eq_false hc10) ?_
      refine WL.run 1 rfl ?_
      refine WL.g1 rfl rfl (decide_eq_false hc10) ?_
      refine WL.run 1 rfl ?_
      refine WL.g1 rfl rfl (decide_eq_false hc10) ?_
      refine WL.call isFn78 rfl rfl (there1_c (a := a) (k := gi ws (a + 1)) (hp.old0 hQ) (hp.old0 hW)) ?_
      intro v w hc hr
      obtain rfl := hr
      have hp := hp.ext hc
      refine WL.g1 rfl rfl (decide_eq_false hc10) ?_
      refine WL.run 1 rfl ?_
      refine WL.v (X.pkF rfl (decide_eq_false hc10) rfl) ?_
      refine WL.fin ?_
      by_cases hc11 : 0 ≤ (gi ws (a + 1)) ∧ 0 ≤ a ∧ a ≤ (ws.length : Int) ∧ (gi ws (a + 1)) ≤ (ws.length : Int) - a
      · refine W.cF rfl (congrArg not (decide_eq_true hc11)) ?_
        refine W.ks ?_
        refine WL.run 4 rfl ?_
        refine WL.fin ?_
        refine W.ret ?_
        refine X.thenR ?_
        refine W.done hp (rs := [.tmp 4, .tmp 5, .tmp 6]) (vs := [.int .i64 (gi ws (a + 1)), .bool false, .int .i64 0]) (v := .tuple #[.int .i64 (gi ws (a + 1)), .bool false, .int .i64 0]) rfl ⟨rfl, rfl, rfl, trivial⟩ rfl ?_
        exact (by rw [show atE ws cs a = (atF ws cs a).1 from rfl, show atT ws cs a = (atF ws cs a).2 from rfl, atF_gap ((thereB_iff _ _ _).2 (by omega)) hR1 (not_not_intro (by assumption)) (fun h => absurd h (by assumption)) (by omega) (by assumption) ((thereB_iff _ _ _).2 (by omega))] <;> first | rfl | exact tup_f (by assumption) | exact tup_t (by assumption))
      refine W.cT rfl (congrArg not (decide_eq_false hc11)) ?_
      refine W.sr ?_
      refine WL.run 3 rfl ?_
      refine WL.fin ?_
      refine W.ret ?_
      refine X.thenR ?_
      refine X.thenR ?_
      refine W.done hp (rs := [.tmp 4, .tmp 5, .tmp 6]) (vs := [.int .i64 0, .bool false, .int .i64 12]) (v := .tuple #[.int .i64 0, .bool false, .int .i64 12]) rfl ⟨rfl, rfl, rfl, trivial⟩ rfl ?_
      exact (by rw [show atE ws cs a = (atF ws cs a).1 from rfl, show atT ws cs a = (atF ws cs a).2 from rfl, atF_gapx ((thereB_iff _ _ _).2 (by omega)) hR1 (not_not_intro (by assumption)) (fun h => absurd h (by assumption)) (by omega) (by first | exact .inl (by assumption) | exact .inr (fun h_ => by have := thereB_t h_; omega))] <;> first | rfl | exact tup_f (by assumption) | exact tup_t (by assumption))
    refine WL.g0 rfl rfl (decide_eq_false hc7) rfl ?_
    refine WL.g0 rfl rfl (decide_eq_false hc7) rfl ?_
    refine WL.v (X.pkF rfl (decide_eq_false hc7) rfl) ?_
    refine WL.fin ?_
    refine W.cF rfl rfl ?_
    refine W.k ?_
    refine W.seq ?_
    refine W.sr ?_
    refine WL.run 1 rfl ?_
    refine WL.v (X.add rfl rfl (in64 (by omega))) ?_
    refine WL.run 1 rfl ?_
    refine WL.v (X.ldk (hp.at 1 rfl) tA40 rfl rfl) ?_
    refine WL.run 2 rfl ?_
    refine WL.v (X.ldk (hp.old0 hQ) tA34 rfl rfl) ?_
    refine WL.v (view_len tL34 (hp.old0 hW) rfl) ?_
    refine WL.run 1 rfl ?_
    refine WL.fin ?_
    by_cases hc12 : (ws.length : Int) ≤ (a + 1)
    · refine W.cT rfl (decide_eq_true hc12) ?_
      refine W.sr ?_
      refine WL.run 3 rfl ?_
      refine WL.fin ?_
      refine W.ret ?_
      refine X.thenR ?_
      refine W.done hp (rs := [.tmp 4, .tmp 5, .tmp 6]) (vs := [.int .i64 0, .bool false, .int .i64 12]) (v := .tuple #[.int .i64 0, .bool false, .int .i64 12]) rfl ⟨rfl, rfl, rfl, trivial⟩ rfl ?_
      exact (by rw [show atE ws cs a = (atF ws cs a).1 from rfl, show atT ws cs a = (atF ws cs a).2 from rfl, atF_len ((thereB_iff _ _ _).2 (by omega)) hR1 (fun h => by first | exact absurd h.1 (by assumption) | exact absurd h.2 (by assumption)) (by omega)] <;> first | rfl | exact tup_f (by assumption) | exact tup_t (by assumption))
    refine W.cF rfl (decide_eq_false hc12) ?_
    refine W.ks ?_
    refine WL.run 1 rfl ?_
    refine WL.v (X.ldk (hp.at 1 rfl) tA40 rfl rfl) ?_
    refine WL.run 2 rfl ?_
    refine WL.v (X.ldk (hp.old0 hQ) tA34 rfl rfl) ?_
    refine WL.run 1 rfl ?_
    refine WL.v (X.add rfl rfl (in64 (by omega))) ?_
    refine WL.v (X.idxV (j := (a + 1).toNat) (r := offOf wv + ((a + 1).toNat) * 1) tL34 tS3 (hp.old0 hW) rfl rfl (by omega) (by omega) rfl) ?_
    refine WL.v (X.ld1 tA3 rfl (view_gi (a := a + 1) (hp.old0 hW) (by omega))) ?_
    refine WL.run 1 rfl ?_
    refine WL.s ?_
    refine W.sr ?_
    refine WL.run 1 rfl ?_
    refine WL.v (X.ldk (hp.at 0 rfl) tA3 rfl rfl) ?_
    refine WL.run 1 rfl ?_
    refine WL.fin ?_
    refine W.cF rfl (decide_eq_false hc7) ?_
    refine W.ks ?_
    refine WL.run 1 rfl ?_
    refine WL.v (X.ldk (hp.at 1 rfl) tA22 rfl rfl) ?_
    refine WL.run 1 rfl ?_
    refine WL.v (X.ldk (hp.at 0 rfl) tA3 rfl rfl) ?_
    refine WL.run 1 rfl ?_
    refine WL.call isFn56 rfl rfl (shape5_c (n := (hdOf (gi ws a)).cls) (m := gi ws (a + 1)) (hp.old0 hC) hcs) ?_
    intro v w hc hr
    rcases hr with ⟨he13, rfl⟩ | ⟨he13, rfl⟩
    · have hp := hp.ext hc
      have hsb := shape_bd5 hcs he13
      refine WL.run 7 rfl ?_
      refine WL.s ?_
      refine W.sr ?_
      refine WL.run 3 rfl ?_
      refine WL.g1 rfl rfl (decide_eq_false (by decide)) ?_
      refine WL.run 1 rfl ?_
      refine WL.g1 rfl rfl (decide_eq_false (by decide)) ?_
      refine WL.v (X.ldk (hp.at 1 rfl) tA40 rfl rfl) ?_
      refine WL.g1 rfl rfl (decide_eq_false (by decide)) ?_
      refine WL.run 1 rfl ?_
      refine WL.g1 rfl rfl (decide_eq_false (by decide)) ?_
      refine WL.run 1 rfl ?_
      refine WL.g1 rfl rfl (decide_eq_false (by decide)) ?_
      refine WL.v (X.add rfl rfl (in64 (by omega))) ?_
      refine WL.g1 rfl rfl (decide_eq_false (by decide)) ?_
      refine WL.run 1 rfl ?_
      refine WL.g1 rfl rfl (decide_eq_false (by decide)) ?_
      refine WL.v (X.add rfl rfl (in64 (by omega))) ?_
      refine WL.g1 rfl rfl (decide_eq_false (by decide)) ?_
      refine WL.call isFn78 rfl rfl (there1_c (a := a) (k := (2 + ((cget cs ((hdOf (gi ws a)).cls)).refs + (gi ws (a + 1)))) + ((cget cs ((hdOf (gi ws a)).cls)).data)) (hp.old0 hQ) (hp.old0 hW)) ?_
      intro v w hc hr
      obtain rfl := hr
      have hp := hp.ext hc
      refine WL.g1 rfl rfl (decide_eq_false (by decide)) ?_
      refine WL.run 1 rfl ?_
      refine WL.v (X.pkF rfl (decide_eq_false (by decide)) rfl) ?_
      refine WL.fin ?_
      by_cases hc15 : 0 ≤ ((2 + ((cget cs ((hdOf (gi ws a)).cls)).refs + (gi ws (a + 1)))) + ((cget cs ((hdOf (gi ws a)).cls)).data)) ∧ 0 ≤ a ∧ a ≤ (ws.length : Int) ∧ ((2 + ((cget cs ((hdOf (gi ws a)).cls)).refs + (gi ws (a + 1)))) + ((cget cs ((hdOf (gi ws a)).cls)).data)) ≤ (ws.length : Int) - a
      · refine W.cF rfl (congrArg not (decide_eq_true hc15)) ?_
        refine W.ks ?_
        refine WL.run 1 rfl ?_
        refine WL.v (X.add rfl rfl (in64 (by omega))) ?_
        refine WL.run 1 rfl ?_
        refine WL.v (X.add rfl rfl (in64 (by omega))) ?_
        refine WL.run 3 rfl ?_
        refine WL.fin ?_
        refine W.ret ?_
        refine W.done hp (rs := [.tmp 4, .tmp 5, .tmp 6]) (vs := [.int .i64 ((2 + ((cget cs ((hdOf (gi ws a)).cls)).refs + (gi ws (a + 1)))) + ((cget cs ((hdOf (gi ws a)).cls)).data)), .bool true, .int .i64 0]) (v := .tuple #[.int .i64 ((2 + ((cget cs ((hdOf (gi ws a)).cls)).refs + (gi ws (a + 1)))) + ((cget cs ((hdOf (gi ws a)).cls)).data)), .bool true, .int .i64 0]) rfl ⟨rfl, rfl, rfl, trivial⟩ rfl ?_
        exact (by rw [show atE ws cs a = (atF ws cs a).1 from rfl, show atT ws cs a = (atF ws cs a).2 from rfl, atF_obj ((thereB_iff _ _ _).2 (by omega)) hR1 (by assumption) (by omega) (by assumption) ((thereB_iff _ _ _).2 (by omega))] <;> first | rfl | exact tup_f (by assumption) | exact tup_t (by assumption))
      refine W.cT rfl (congrArg not (decide_eq_false hc15)) ?_
      refine W.sr ?_
      refine WL.run 3 rfl ?_
      refine WL.fin ?_
      refine W.ret ?_
      refine X.thenR ?_
      refine W.done hp (rs := [.tmp 4, .tmp 5, .tmp 6]) (vs := [.int .i64 0, .bool false, .int .i64 12]) (v := .tuple #[.int .i64 0, .bool false, .int .i64 12]) rfl ⟨rfl, rfl, rfl, trivial⟩ rfl ?_
      first | exact (by rw [show atE ws cs a = (atF ws cs a).1 from rfl, show atT ws cs a = (atF ws cs a).2 from rfl, atF_shape ((thereB_iff _ _ _).2 (by omega)) hR1 (by assumption) (by omega) (by assumption)] <;> first | rfl | exact tup_f (by assumption) | exact tup_t (by assumption)) | exact (by rw [show atE ws cs a = (atF ws cs a).1 from rfl, show atT ws cs a = (atF ws cs a).2 from rfl, atF_out ((thereB_iff _ _ _).2 (by omega)) hR1 (by assumption) (by omega) (by assumption) (fun h_ => by have := thereB_t h_; omega)] <;> first | rfl | exact tup_f (by assumption) | exact tup_t (by assumption))
    have hp := hp.ext hc
    refine WL.run 7 rfl ?_
    refine WL.s ?_
    refine W.sr ?_
    refine WL.run 3 rfl ?_
    refine WL.g0 rfl rfl (decide_eq_true he13) rfl ?_
    refine WL.g0 rfl rfl (decide_eq_true he13) rfl ?_
    refine WL.g0 rfl rfl (decide_eq_true he13) rfl ?_
    refine WL.g0 rfl rfl (decide_eq_true he13) rfl ?_
    refine WL.g0 rfl rfl (decide_eq_true he13) rfl ?_
    refine WL.g0 rfl rfl (decide_eq_true he13) rfl ?_
    refine WL.g0 rfl rfl (decide_eq_true he13) rfl ?_
    refine WL.g0 rfl rfl (decide_eq_true he13) rfl ?_
    refine WL.g0 rfl rfl (decide_eq_true he13) rfl ?_
    refine WL.v (X.pkT rfl (decide_eq_true he13) rfl) ?_
    refine WL.fin ?_
    refine W.cT rfl rfl ?_
    refine W.sr ?_
    refine WL.run 3 rfl ?_
    refine WL.fin ?_
    refine W.ret ?_
    refine X.thenR ?_
    refine W.done hp (rs := [.tmp 4, .tmp 5, .tmp 6]) (vs := [.int .i64 0, .bool false, .int .i64 12]) (v := .tuple #[.int .i64 0, .bool false, .int .i64 12]) rfl ⟨rfl, rfl, rfl, trivial⟩ rfl ?_
    first | exact (by rw [show atE ws cs a = (atF ws cs a).1 from rfl, show atT ws cs a = (atF ws cs a).2 from rfl, atF_shape ((thereB_iff _ _ _).2 (by omega)) hR1 (by assumption) (by omega) (by assumption)] <;> first | rfl | exact tup_f (by assumption) | exact tup_t (by assumption)) | exact (by rw [show atE ws cs a = (atF ws cs a).1 from rfl, show atT ws cs a = (atF ws cs a).2 from rfl, atF_out ((thereB_iff _ _ _).2 (by omega)) hR1 (by assumption) (by omega) (by assumption) (fun h_ => by have := thereB_t h_; omega)] <;> first | rfl | exact tup_f (by assumption) | exact tup_t (by assumption))
  have hp := hp.ext hc
  refine WL.run 3 rfl ?_
  refine WL.alloc hp tZ103 rfl ?_
  intro b16 w hp
  refine WL.store hp 0 rfl tS103 rfl rfl (vs := [.int .i64 0, .int .i64 0, .int .i64 0, .bool false, .bool false, .bool false]) rfl rfl rfl (new := #[.int .i64 0, .int .i64 0, .int .i64 0, .bool false, .bool false, .bool false]) rfl ?_
  intro w hp
  refine WL.run 1 rfl ?_
  refine WL.s ?_
  refine W.sr ?_
  refine WL.run 2 rfl ?_
  refine WL.fin ?_
  refine W.cT rfl (decide_eq_true (by decide)) ?_
  refine W.sr ?_
  refine WL.run 3 rfl ?_
  refine WL.fin ?_
  refine W.ret ?_
  refine X.thenR ?_
  refine W.done hp (rs := [.tmp 4, .tmp 5, .tmp 6]) (vs := [.int .i64 0, .bool false, .int .i64 12]) (v := .tuple #[.int .i64 0, .bool false, .int .i64 12]) rfl ⟨rfl, rfl, rfl, trivial⟩ rfl ?_
  exact (by rw [show atE ws cs a = (atF ws cs a).1 from rfl, show atT ws cs a = (atF ws cs a).2 from rfl, atF_head ((thereB_iff _ _ _).2 (by omega)) (by assumption)] <;> first | rfl | exact tup_f (by assumption) | exact tup_t (by assumption))

theorem shape6_c {w0 : World} {q : Nat} {wv cv : Value} {ws : List Int} {cs : List Cls} (hQ : (blkR q (.cells (#[wv]) 59 (0, 0))).ok w0)  (hW : (viewR encI 1 wv ws).ok w0) {a : Int} (hC : (viewR clsV 4 cv cs).ok w0) (hcs : ∀ x ∈ cs, clsR x = true)  :
    Calls Tryz.prog 44 #[.agg #[.pointer (some ⟨q, 0, none⟩), cv], .int .i64 a] w0 (Ret [] w0 (fun v _ => v = .tuple #[.int .i64 (objT ws cs a).refs, .int .i64 (objT ws cs a).data, .int .i64 (objE ws cs a)])) := by
  have hp : Hp w0 [] [] w0 := Hp.init w0
  have hle := view_len_le hW
  refine enter (vs := [.agg #[.pointer (some ⟨q, 0, none⟩), cv], .int .i64 a]) Tryz.func44 rfl rfl rfl ?_
  refine gen_world hp ?_
  intro w hp
  refine W.sr ?_
  refine WL.box hp rfl (cs := #[.pointer (some ⟨q, 0, none⟩), cv]) rfl rfl ?_
  intro b1 w hp
  refine WL.run 3 rfl ?_
  refine WL.a ?_
  refine WL.v (X.ldkA (hp.at 0 rfl) tA42 tS42 (vs := [.pointer (some ⟨q, 0, none⟩), cv]) rfl rfl) ?_
  refine WL.run 1 rfl ?_
  refine WL.call isFn41 rfl rfl (size6_c (a := a) (hp.old0 hQ) (hp.old0 hW) (hp.old0 hC) hcs) ?_
  intro v w hc hr
  obtain rfl := hr
  have hp := hp.ext hc
  refine WL.run 7 rfl ?_
  refine WL.s ?_
  refine W.sr ?_
  refine WL.run 2 rfl ?_
  refine WL.fin ?_
  by_cases hc2 : (atE ws cs a) ≠ 0
  · refine W.cT rfl (decide_eq_true hc2) ?_
    refine W.sr ?_
    refine WL.run 4 rfl ?_
    refine WL.fin ?_
    refine W.ret ?_
    refine X.thenR ?_
    refine W.done hp (rs := [.tmp 4, .tmp 5, .tmp 6]) (vs := [.int .i64 0, .int .i64 0, .int .i64 (atE ws cs a)]) (v := .tuple #[.int .i64 0, .int .i64 0, .int .i64 (atE ws cs a)]) rfl ⟨rfl, rfl, rfl, trivial⟩ rfl ?_
    exact (by rw [show objE ws cs a = (objF ws cs a).1 from rfl, show objT ws cs a = (objF ws cs a).2 from rfl, objF_else (fun h => absurd h.1 (by assumption)), atT_err (by assumption)] <;> rfl)
  refine W.cF rfl (decide_eq_false hc2) ?_
  refine W.k ?_
  refine W.seq ?_
  refine W.sr ?_
  refine WL.run 2 rfl ?_
  refine WL.fin ?_
  by_cases hc3 : ((atT ws cs a).hd.cls) ≠ 0
  · refine W.cF rfl (congrArg not (decide_eq_true hc3)) ?_
    refine W.k ?_
    refine W.seq ?_
    have hat0 : atE ws cs a = 0 := Classical.not_not.1 (by assumption)
    obtain ⟨hth, hR1, hln, hsh, hatT⟩ := at_obj hat0 (by assumption)
    have hthb := thereB_t hth
    refine W.reg ?_
    refine WL.run 1 rfl ?_
    refine WL.v (X.ldk (hp.at 0 rfl) tA40 rfl rfl) ?_
    refine WL.run 2 rfl ?_
    refine WL.v (X.ldk (hp.old0 hQ) tA34 rfl rfl) ?_
    refine WL.run 1 rfl ?_
    refine WL.v (X.idxV (j := a.toNat) (r := offOf wv + a.toNat * 1) tL34 tS3 (hp.old0 hW) rfl rfl (by omega) (by omega) rfl) ?_
    refine WL.v (X.ld1 tA3 rfl (view_gi (a := a) (hp.old0 hW) (by omega))) ?_
    refine WL.call isFn77 rfl rfl (of4_c (x := gi ws a)) ?_
    intro v w hc hr
    rcases hr with ⟨ho4, rfl⟩ | ⟨ho4, rfl⟩
    · have hp := hp.ext hc
      refine WL.run 3 rfl ?_
      refine WL.alloc hp tZ103 rfl ?_
      intro b5 w hp
      refine WL.store hp 0 rfl tS103 rfl rfl (vs := [.int .i64 ((hdOf (gi ws a)).cls), .int .i64 ((hdOf (gi ws a)).age), .int .i64 ((hdOf (gi ws a)).fwd), .bool ((hdOf (gi ws a)).mark), .bool ((hdOf (gi ws a)).final), .bool ((hdOf (gi ws a)).done)]) rfl rfl rfl (new := #[.int .i64 ((hdOf (gi ws a)).cls), .int .i64 ((hdOf (gi ws a)).age), .int .i64 ((hdOf (gi ws a)).fwd), .bool ((hdOf (gi ws a)).mark), .bool ((hdOf (gi ws a)).final), .bool ((hdOf (gi ws a)).done)]) rfl ?_
      intro w hp
      refine WL.run 1 rfl ?_
      refine WL.s ?_
      refine W.draw prog_mixed (fun w => (blkR b5 (.cells (#[.int .i64 ((hdOf (gi ws a)).cls), .int .i64 ((hdOf (gi ws a)).age), .int .i64 ((hdOf (gi ws a)).fwd), .bool ((hdOf (gi ws a)).mark), .bool ((hdOf (gi ws a)).final), .bool ((hdOf (gi ws a)).done)]) 103 (0, 0))).ok w ∧ (blkR b1 (.cells (#[.pointer (some ⟨q, 0, none⟩), cv]) 42 (0, 0))).ok w ∧ (blkR q (.cells (#[wv]) 59 (0, 0))).ok w ∧ (viewR encI 1 wv ws).ok w ∧ (viewR clsV 4 cv cs).ok w ∧ True) hp ?_
      intro w hp
      refine WD.s ⟨hp.at 0 rfl, hp.at 1 rfl, hp.old0 hQ, hp.old0 hW, hp.old0 hC, trivial⟩ fun hS0 => ?_
      refine WD.v 0 rfl hS0 (fun w hS => (X.fa (r := 1) tF42_1 rfl rfl)) ?_
      refine WD.v 1 rfl hS0 (fun w hS => (X.ldk hS.2.1 tA22 rfl rfl)) ?_
      refine WD.v 2 rfl hS0 (fun w hS => (X.fa (r := 0) tF103_0 rfl rfl)) ?_
      refine WD.v 3 rfl hS0 (fun w hS => (X.ldk hS.1 tA3 rfl rfl)) ?_
      refine WD.v 4 rfl hS0 (fun w hS => (X.fa (r := 0) tF42_0 rfl rfl)) ?_
      refine WD.v 5 rfl hS0 (fun w hS => (X.ldk hS.2.1 tA40 rfl rfl)) ?_
      refine WD.v 6 rfl hS0 (fun w hS => (X.nilc rfl)) ?_
      refine WD.v 7 rfl hS0 (fun w hS => (X.fa (r := 0) tF59_0 rfl rfl)) ?_
      refine WD.v 8 rfl hS0 (fun w hS => (X.ldk hS.2.2.1 tA34 rfl rfl)) ?_
      refine WD.v 9 rfl hS0 (fun w hS => (X.mv rfl)) ?_
      refine WD.v 10 rfl hS0 (fun w hS => (X.add rfl rfl (in64 (by omega)))) ?_
      refine WD.v 11 rfl hS0 (fun w hS => (X.idxV (j := (a + 1).toNat) (r := offOf wv + ((a + 1).toNat) * 1) tL34 tS3 hS.2.2.2.1 rfl rfl (by omega) (by omega) rfl)) ?_
      refine WD.v 12 rfl hS0 (fun w hS => (X.ld1 tA3 rfl (view_gi (a := a + 1) hS.2.2.2.1 (by omega)))) ?_
      refine WD.one 13 (by kernel_rfl) ?_
      refine WO.call rfl isFn56 rfl rfl (shape5_c (n := (hdOf (gi ws a)).cls) (m := gi ws (a + 1)) (hp.old0 hC) hcs) ?_
      intro v w hc hr
      rcases hr with ⟨he6, rfl⟩ | ⟨he6, rfl⟩
      · have hp := hp.ext hc
        have hsb := shape_bd5 hcs he6
        refine andS ⟨hp.at 0 rfl, hp.at 1 rfl, hp.old0 hQ, hp.old0 hW, hp.old0 hC, trivial⟩ fun hS0 => ?_
        refine WD.v 14 rfl hS0 (fun w hS => (X.mv rfl)) ?_
        refine WD.v 15 rfl hS0 (fun w hS => (X.ext rfl rfl)) ?_
        refine WD.v 16 rfl hS0 (fun w hS => (X.ext rfl rfl)) ?_
        refine WD.v 17 rfl hS0 (fun w hS => (X.ext rfl rfl)) ?_
        refine WD.v 18 rfl hS0 (fun w hS => (X.as rfl)) ?_
        refine WD.v 19 rfl hS0 (fun w hS => (X.as rfl)) ?_
        refine WD.v 20 rfl hS0 (fun w hS => (X.as rfl)) ?_
        refine WD.nil (by kernel_rfl) ?_
        refine X.thenN ?_
        refine W.sr ?_
        refine WL.run 5 rfl ?_
        refine WL.fin ?_
        refine W.ret ?_
        refine W.done hp (rs := [.tmp 4, .tmp 5, .tmp 6]) (vs := [.int .i64 ((cget cs ((hdOf (gi ws a)).cls)).refs + (gi ws (a + 1))), .int .i64 ((cget cs ((hdOf (gi ws a)).cls)).data), .int .i64 0]) (v := .tuple #[.int .i64 ((cget cs ((hdOf (gi ws a)).cls)).refs + (gi ws (a + 1))), .int .i64 ((cget cs ((hdOf (gi ws a)).cls)).data), .int .i64 0]) rfl ⟨rfl, rfl, rfl, trivial⟩ rfl ?_
        exact (by rw [show objE ws cs a = (objF ws cs a).1 from rfl, show objT ws cs a = (objF ws cs a).2 from rfl, objF_else (fun h => absurd h.2 (by assumption))]; simp only [hat0, hatT])
      (try simp only [fillW_length, moveW_length, List.length_set] at he6); first | contradiction | (exfalso; omega) | (exfalso; simp_all; done)
    (try simp only [fillW_length, moveW_length, List.length_set] at ho4); first | contradiction | (exfalso; omega) | (exfalso; simp_all; done)
  refine W.cT rfl (congrArg not (decide_eq_false hc3)) ?_
  refine W.sr ?_
  refine WL.run 3 rfl ?_
  refine WL.fin ?_
  refine W.ret ?_
  refine X.thenR ?_
  refine W.done hp (rs := [.tmp 4, .tmp 5, .tmp 6]) (vs := [.int .i64 0, .int .i64 0, .int .i64 5]) (v := .tuple #[.int .i64 0, .int .i64 0, .int .i64 5]) rfl ⟨rfl, rfl, rfl, trivial⟩ rfl ?_
  exact (by rw [show objE ws cs a = (objF ws cs a).1 from rfl, show objT ws cs a = (objF ws cs a).2 from rfl, objF_gap (Classical.not_not.1 (by assumption)) (Classical.not_not.1 (by assumption))] <;> rfl)

theorem head6_c {w0 : World} {q : Nat} {wv cv : Value} {ws : List Int} {cs : List Cls} (hQ : (blkR q (.cells (#[wv]) 59 (0, 0))).ok w0)  (hW : (viewR encI 1 wv ws).ok w0) {a : Int} (hC : (viewR clsV 4 cv cs).ok w0) (hcs : ∀ x ∈ cs, clsR x = true)  :
    Calls Tryz.prog 45 #[.agg #[.pointer (some ⟨q, 0, none⟩), cv], .int .i64 a] w0 (Ret [] w0 (fun v _ => v = .tuple #[.agg #[.int .i64 ((objT ws cs a).hd.cls), .int .i64 ((objT ws cs a).hd.age), .int .i64 ((objT ws cs a).hd.fwd), .bool ((objT ws cs a).hd.mark), .bool ((objT ws cs a).hd.final), .bool ((objT ws cs a).hd.done)], .int .i64 (objE ws cs a)])) := by
  have hp : Hp w0 [] [] w0 := Hp.init w0
  have hle := view_len_le hW
  refine enter (vs := [.agg #[.pointer (some ⟨q, 0, none⟩), cv], .int .i64 a]) Tryz.func45 rfl rfl rfl ?_
  refine gen_world hp ?_
  intro w hp
  refine W.sr ?_
  refine WL.box hp rfl (cs := #[.pointer (some ⟨q, 0, none⟩), cv]) rfl rfl ?_
  intro b1 w hp
  refine WL.alloc hp tZ103 rfl ?_
  intro b2 w hp
  refine WL.run 1 rfl ?_
  refine WL.a ?_
  refine WL.v (X.ldkA (hp.at 1 rfl) tA42 tS42 (vs := [.pointer (some ⟨q, 0, none⟩), cv]) rfl rfl) ?_
  refine WL.run 1 rfl ?_
  refine WL.call isFn44 rfl rfl (shape6_c (a := a) (hp.old0 hQ) (hp.old0 hW) (hp.old0 hC) hcs) ?_
  intro v w hc hr
  obtain rfl := hr
  have hp := hp.ext hc
  refine WL.run 7 rfl ?_
  refine WL.s ?_
  refine W.sr ?_
  refine WL.run 2 rfl ?_
  refine WL.fin ?_
  by_cases hc3 : (objE ws cs a) ≠ 0
  · refine W.cT rfl (decide_eq_true hc3) ?_
    refine W.sr ?_
    refine WL.v (X.bld (v := .agg #[.int .i64 0, .int .i64 0, .int .i64 0, .bool false, .bool false, .bool false]) rfl (by kernel_rfl)) ?_
    refine WL.run 1 rfl ?_
    refine WL.store hp 0 rfl tS103 rfl rfl (vs := [.int .i64 0, .int .i64 0, .int .i64 0, .bool false, .bool false, .bool false]) rfl rfl rfl (new := #[.int .i64 0, .int .i64 0, .int .i64 0, .bool false, .bool false, .bool false]) rfl ?_
    intro w hp
    refine WL.run 1 rfl ?_
    refine WL.fin ?_
    refine W.ret ?_
    refine X.thenR ?_
    refine W.done hp (rs := [.cell 4 103, .tmp 5]) (vs := [.agg #[.int .i64 0, .int .i64 0, .int .i64 0, .bool false, .bool false, .bool false], .int .i64 (objE ws cs a)]) (v := .tuple #[.agg #[.int .i64 0, .int .i64 0, .int .i64 0, .bool false, .bool false, .bool false], .int .i64 (objE ws cs a)]) rfl ⟨⟨_, rfl, run_loadVarB hp 0 rfl tA103 tS103 (vs := [.int .i64 0, .int .i64 0, .int .i64 0, .bool false, .bool false, .bool false]) rfl⟩, rfl, trivial⟩ rfl ?_
    rw [objT_err (by assumption)]; rfl
  refine W.cF rfl (decide_eq_false hc3) ?_
  refine W.k ?_
  refine W.seq ?_
  have hob0 : objE ws cs a = 0 := Classical.not_not.1 (by assumption)
  have hhd := objT_head hob0
  rw [hhd.2] at hhd
  have hR1 := hhd.1
  have hbd := objT_bd hcs hob0
  refine W.reg ?_
  refine WL.run 1 rfl ?_
  refine WL.v (X.ldk (hp.at 1 rfl) tA40 rfl rfl) ?_
  refine WL.run 2 rfl ?_
  refine WL.v (X.ldk (hp.old0 hQ) tA34 rfl rfl) ?_
  refine WL.run 1 rfl ?_
  refine WL.v (X.idxV (j := a.toNat) (r := offOf wv + a.toNat * 1) tL34 tS3 (hp.old0 hW) rfl rfl (by omega) (by omega) rfl) ?_
  refine WL.v (X.ld1 tA3 rfl (view_gi (a := a) (hp.old0 hW) (by omega))) ?_
  refine WL.call isFn77 rfl rfl (of4_c (x := gi ws a)) ?_
  intro v w hc hr
  rcases hr with ⟨ho4, rfl⟩ | ⟨ho4, rfl⟩
  · have hp := hp.ext hc
    refine WL.run 3 rfl ?_
    refine WL.alloc hp tZ103 rfl ?_
    intro b5 w hp
    refine WL.store hp 0 rfl tS103 rfl rfl (vs := [.int .i64 ((hdOf (gi ws a)).cls), .int .i64 ((hdOf (gi ws a)).age), .int .i64 ((hdOf (gi ws a)).fwd), .bool ((hdOf (gi ws a)).mark), .bool ((hdOf (gi ws a)).final), .bool ((hdOf (gi ws a)).done)]) rfl rfl rfl (new := #[.int .i64 ((hdOf (gi ws a)).cls), .int .i64 ((hdOf (gi ws a)).age), .int .i64 ((hdOf (gi ws a)).fwd), .bool ((hdOf (gi ws a)).mark), .bool ((hdOf (gi ws a)).final), .bool ((hdOf (gi ws a)).done)]) rfl ?_
    intro w hp
    refine WL.run 1 rfl ?_
    refine WL.a ?_
    refine WL.v (X.ldkA (hp.at 0 rfl) tA103 tS103 (vs := [.int .i64 ((hdOf (gi ws a)).cls), .int .i64 ((hdOf (gi ws a)).age), .int .i64 ((hdOf (gi ws a)).fwd), .bool ((hdOf (gi ws a)).mark), .bool ((hdOf (gi ws a)).final), .bool ((hdOf (gi ws a)).done)]) rfl rfl) ?_
    refine WL.store hp 1 rfl tS103 rfl rfl (vs := [.int .i64 ((hdOf (gi ws a)).cls), .int .i64 ((hdOf (gi ws a)).age), .int .i64 ((hdOf (gi ws a)).fwd), .bool ((hdOf (gi ws a)).mark), .bool ((hdOf (gi ws a)).final), .bool ((hdOf (gi ws a)).done)]) rfl rfl rfl (new := #[.int .i64 ((hdOf (gi ws a)).cls), .int .i64 ((hdOf (gi ws a)).age), .int .i64 ((hdOf (gi ws a)).fwd), .bool ((hdOf (gi ws a)).mark), .bool ((hdOf (gi ws a)).final), .bool ((hdOf (gi ws a)).done)]) rfl ?_
    intro w hp
    refine WL.run 1 rfl ?_
    refine WL.fin ?_
    refine W.ret ?_
    refine W.done hp (rs := [.cell 4 103, .tmp 5]) (vs := [.agg #[.int .i64 ((hdOf (gi ws a)).cls), .int .i64 ((hdOf (gi ws a)).age), .int .i64 ((hdOf (gi ws a)).fwd), .bool ((hdOf (gi ws a)).mark), .bool ((hdOf (gi ws a)).final), .bool ((hdOf (gi ws a)).done)], .int .i64 0]) (v := .tuple #[.agg #[.int .i64 ((hdOf (gi ws a)).cls), .int .i64 ((hdOf (gi ws a)).age), .int .i64 ((hdOf (gi ws a)).fwd), .bool ((hdOf (gi ws a)).mark), .bool ((hdOf (gi ws a)).final), .bool ((hdOf (gi ws a)).done)], .int .i64 0]) rfl ⟨⟨_, rfl, run_loadVarB hp 1 rfl tA103 tS103 (vs := [.int .i64 ((hdOf (gi ws a)).cls), .int .i64 ((hdOf (gi ws a)).age), .int .i64 ((hdOf (gi ws a)).fwd), .bool ((hdOf (gi ws a)).mark), .bool ((hdOf (gi ws a)).final), .bool ((hdOf (gi ws a)).done)]) rfl⟩, rfl, trivial⟩ rfl ?_
    rw [hob0, (objT_head hob0).2]
  (try simp only [fillW_length, moveW_length, List.length_set] at ho4); first | contradiction | (exfalso; omega) | (exfalso; simp_all; done)

theorem place_c {w0 : World} {s : Value} {l : List Int} {x : Int} (hV : (viewR encI 1 s l).ok w0) :
    Calls Tryz.prog 64 #[s, .int .i64 x] w0 (Ret [] w0 (fun v _ => v = .int .i64 (placeF l x))) := by
  have hp : Hp w0 [] [] w0 := Hp.init w0
  have hle := view_len_le hV
  refine enter (vs := [s, .int .i64 x]) Tryz.func64 rfl rfl rfl ?_
  refine gen_world hp ?_
  intro w hp
  refine W.sr ?_
  refine WL.run 1 rfl ?_
  refine WL.s ?_
  refine W.sr ?_
  refine WL.run 1 rfl ?_
  refine WL.v (view_len tL34 (hp.old0 hV) rfl) ?_
  refine WL.run 1 rfl ?_
  refine WL.fin ?_
  refine W.block ?_
  refine W.loop (X := Nat) (fun i => l.length - i) (fun i => [(0, s), (1, .int .i64 x), (7, .int .i64 (l.length : Int)), (8, .int .i64 (i : Int))]) (fun i w => Hp w0 [] [] w ∧ i ≤ l.length ∧ ∀ q : Nat, q < i → ¬ l.getD q default = x) 0 ⟨rfl, rfl, rfl, rfl, trivial⟩ ?_ ?_
  · exact ⟨hp, by omega, by omega⟩
  rintro i w ⟨hp, hi, hno⟩
  refine W.sr ?_
  refine WL.run 1 rfl ?_
  refine WL.s ?_
  by_cases hc1 : (i : Int) < (l.length : Int)
  · refine W.cT rfl (decide_eq_true hc1) ?_
    refine W.k ?_
    refine W.seq ?_
    refine W.block ?_
    refine W.seq ?_
    have hlt : i < l.length := by omega
    refine W.reg ?_
    refine WL.run 2 rfl ?_
    refine WL.a ?_
    refine WL.run 2 rfl ?_
    refine WL.v (X.idxV (j := i) (r := offOf s + i * 1) tL34 tS3 (hp.old0 hV) rfl rfl (by omega) (by omega) rfl) ?_
    refine WL.v (X.ld1 tA3 rfl (view_cell (j := i) (f := 0) (hp.old0 hV) (get_some (by omega)) rfl (by omega))) ?_
    refine WL.run 2 rfl ?_
    refine WL.fin ?_
    by_cases hc2 : (l.getD i default) = x
    · refine W.cT rfl (decide_eq_true hc2) ?_
      refine W.sr ?_
      refine WL.run 2 rfl ?_
      refine WL.fin ?_
      refine W.ret ?_
      refine X.inR ?_
      refine X.thenR ?_
      refine X.thenR ?_
      refine X.inR ?_
      refine X.thenR ?_
      refine W.done hp (rs := [.tmp 4]) (vs := [.int .i64 (i : Int)]) (v := .int .i64 (i : Int)) rfl ⟨rfl, trivial⟩ rfl ?_
      rw [place_some hlt (by assumption) hno]
    refine W.cF rfl (decide_eq_false hc2) ?_
    refine W.skip ?_
    refine X.inN ?_
    refine X.thenN ?_
    refine W.reg ?_
    refine WL.v (X.add rfl rfl (in64 (by omega))) ?_
    refine WL.run 1 rfl ?_
    refine WL.nil ?_
    refine X.again (i + 1) ⟨rfl, rfl, rfl, rfl, trivial⟩ ?_ ?_
    · exact ⟨hp, by omega, fun q hq => by
        by_cases hqi : q = i
        · rw [hqi]; assumption
        · exact hno q (by omega)⟩
    · omega
  refine W.cF rfl (decide_eq_false hc1) ?_
  refine W.exit ?_
  refine X.thenE ?_
  refine X.thenE ?_
  refine X.inH ?_
  refine X.thenN ?_
  refine W.sr ?_
  refine WL.run 1 rfl ?_
  refine WL.fin ?_
  refine W.ret ?_
  refine W.done hp (rs := [.tmp 4]) (vs := [.int .i64 (-1)]) (v := .int .i64 (-1)) rfl ⟨rfl, trivial⟩ rfl ?_
  rw [place_none (fun q hq => hno q (by omega))]

theorem split_c {w0 : World} {s : Value} {l : List Int} {e : Int} (hV : (viewR encI 1 s l).ok w0) (hl : l.length * 32 ≤ 140737488355328) (he : 0 ≤ e) (hn : ∀ x ∈ l, 0 ≤ x) (hsum : e + l.sum ≤ 4096) :
    Calls Tryz.prog 16 #[.int .i64 e, s] w0 (Ret [] w0 (fun v w => ∃ o, v = .tuple #[o, .int .i64 0] ∧ New w0 w (ownR 56 encS 3 o (splitF e l)))) := by
  have hp : Hp w0 [] [] w0 := Hp.init w0
  have hle := view_len_le hV
  refine enter (vs := [.int .i64 e, s]) Tryz.func16 rfl rfl rfl ?_
  refine gen_world hp ?_
  intro w hp
  refine W.sr ?_
  refine WL.run 2 rfl ?_
  refine WL.a ?_
  refine WL.run 1 rfl ?_
  refine WL.s ?_
  refine W.seq ?_
  have hp := hp.addNil 56 encS 3 encS_len (by omega)
  refine W.reg ?_
  refine WL.run 1 rfl ?_
  refine WL.v (view_len tL34 (hp.old0 hV) rfl) ?_
  refine WL.run 1 rfl ?_
  refine WL.fin ?_
  refine W.block ?_
  refine W.loop (X := Nat × Int × Value × List Spc) (fun x_ => match x_ with | ⟨i, f, o, out⟩ => l.length - i) (fun x_ => match x_ with | ⟨i, f, o, out⟩ => [(0, .int .i64 f), (6, o), (11, s), (12, .int .i64 (l.length : Int)), (13, .int .i64 (i : Int))]) (fun x_ w => match x_ with | ⟨i, f, o, out⟩ => Hp w0 [] [ownR 56 encS 3 o out] w ∧ i ≤ l.length ∧ 0 ≤ f ∧ f + (l.drop i).sum ≤ 4096 ∧ splitF e l = out ++ splitF f (l.drop i) ∧ out.length = i) (0, e, .slice none 0 0, []) ⟨rfl, rfl, rfl, rfl, rfl, trivial⟩ ?_ ?_
  · exact ⟨hp, by omega, he, hsum, rfl, rfl⟩
  rintro ⟨i, f, o, out⟩ w ⟨hp, hi, hf, hsm, hsp, hol⟩
  refine W.sr ?_
  refine WL.run 1 rfl ?_
  refine WL.s ?_
  by_cases hc1 : (i : Int) < (l.length : Int)
  · refine W.cT rfl (decide_eq_true hc1) ?_
    refine W.k ?_
    refine W.seq ?_
    refine W.block ?_
    refine W.seq ?_
    have hlt : i < l.length := by omega
    have hxn := hn _ (mem_getD hlt)
    rw [drop_getD hlt, List.sum_cons] at hsm
    have hsr := sum_nonneg (l := l.drop (i + 1)) (fun x hx => hn x (List.mem_of_mem_drop hx))
    refine W.reg ?_
    refine WL.v (X.idxV (j := i) (r := offOf s + i * 1) tL34 tS3 (hp.old0 hV) rfl rfl (by omega) (by omega) rfl) ?_
    refine WL.v (X.ld1 tA3 rfl (view_cell (j := i) (f := 0) (hp.old0 hV) (get_some (by omega)) rfl (by omega))) ?_
    refine WL.run 1 rfl ?_
    refine WL.a ?_
    refine WL.run 2 rfl ?_
    refine WL.call isFn54 rfl rfl (spNew_c (a := f) (n := (l.getD i default))) ?_
    intro v w hc hr
    rcases hr with ⟨hn2, hn3, hn4, rfl⟩ | ⟨hn5, rfl⟩
    · have hp := hp.ext hc
      refine WL.run 3 rfl ?_
      refine WL.alloc hp tZ56 rfl ?_
      intro b6 w hp
      refine WL.store hp 0 rfl tS56 rfl rfl (vs := [.int .i64 f, .int .i64 f, .int .i64 (f + (l.getD i default))]) rfl rfl rfl (new := #[.int .i64 f, .int .i64 f, .int .i64 (f + (l.getD i default))]) rfl ?_
      intro w hp
      refine WL.run 1 rfl ?_
      refine WL.s ?_
      refine W.sr ?_
      refine WL.run 2 rfl ?_
      refine WL.fin ?_
      refine W.cF rfl (decide_eq_false (by decide)) ?_
      refine W.ks ?_
      refine WL.run 1 rfl ?_
      refine WL.v (X.ldkA (hp.at 0 rfl) tA56 tS56 (vs := [.int .i64 f, .int .i64 f, .int .i64 (f + (l.getD i default))]) rfl rfl) ?_
      refine WL.bsl hp (e := 56) (cs := #[.int .i64 f, .int .i64 f, .int .i64 (f + (l.getD i default))]) rfl (fun _ => by kernel_rfl) rfl ?_
      intro b8 w hp
      refine WL.append hp 2 rfl tL33 (zeroT_ex tZ56) tS56 tY56 rfl rfl (view_of_blk (l := [(⟨f, f, f + (l.getD i default)⟩ : Spc)]) hp 0 rfl encS_len (by omega) rfl (by simp) (by simp)) encS_one (by simp only [List.length_append, List.length_cons, List.length_nil]; omega) rfl ?_
      intro v9 w hp
      refine WL.run 1 rfl ?_
      refine WL.b ?_
      refine WL.run 1 rfl ?_
      refine WL.v (X.ldk (hp.at 1 rfl) tA3 rfl rfl) ?_
      refine WL.run 1 rfl ?_
      refine WL.nil ?_
      refine X.inN ?_
      refine X.thenN ?_
      refine W.reg ?_
      refine WL.v (X.add rfl rfl (in64 (by omega))) ?_
      refine WL.run 1 rfl ?_
      refine WL.nil ?_
      refine X.again (i + 1, f + (l.getD i default), v9, out ++ [⟨f, f, f + l.getD i default⟩]) ⟨rfl, rfl, rfl, rfl, rfl, trivial⟩ ?_ ?_
      · exact ⟨(hp.sel [2] (by decide)), by omega, by omega, by omega, by rw [hsp, drop_getD hlt, splitF, List.append_assoc]; rfl, by simp [hol]⟩
      · dsimp only; omega
    (try simp only [fillW_length, moveW_length, List.length_set] at hn5); first | contradiction | (exfalso; omega) | (exfalso; simp_all; done)
  refine W.cF rfl (decide_eq_false hc1) ?_
  refine W.exit ?_
  refine X.thenE ?_
  refine X.thenE ?_
  refine X.inH ?_
  refine X.thenN ?_
  refine W.sr ?_
  refine WL.run 3 rfl ?_
  refine WL.fin ?_
  refine W.ret ?_
  refine W.done hp (rs := [.tmp 4, .tmp 5]) (vs := [o, .int .i64 0]) (v := .tuple #[o, .int .i64 0]) rfl ⟨rfl, rfl, trivial⟩ rfl ?_
  exact ⟨_, rfl, by rw [hsp, List.drop_eq_nil_of_le (by omega), splitF, List.append_nil]; exact hp.newAt 0 rfl⟩
end Go.Proofs.YtmmmbkmjkpfleaaGreat
