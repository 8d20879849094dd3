/- Walks, printed by gen.py from the specs G: what each function answers. No statement of the seat is proved here; conditions: each theorem's own. -/
import Derived.Test.YtmmmbkmjkpfleaaGreatPureI
import Derived.Test.YtmmmbkmjkpfleaaGreatWF
namespace Go.Proofs.YtmmmbkmjkpfleaaGreat
open Go Go.RowKit

theorem sorted_c {w0 : World} {s : Value} {l : List Int} (hV : (viewR encI 1 s l).ok w0) (hl : l.length * 32 ≤ 140737488355328) :
    Calls Tryz.prog 22 #[s] w0 (Ret [] w0 (fun v w => ∃ q : List Int, q.Perm l ∧ sortedB q = true ∧ New w0 w (ownR 3 encI 1 v q))) := by
  have hp : Hp w0 [] [] w0 := Hp.init w0
  have hle := view_len_le hV
  refine enter (vs := [s]) Tryz.func22 rfl rfl rfl ?_
  refine gen_world hp ?_
  intro w hp
  refine W.sr ?_
  refine WL.run 1 rfl ?_
  refine WL.a ?_
  refine WL.bsl hp (e := 3) (cs := #[]) rfl (fun _ => by kernel_rfl) rfl ?_
  intro b1 w hp
  refine WL.run 1 rfl ?_
  have hp := hp.ofEmpty 0 rfl encI 1 encI_len (by omega)
  refine WL.append hp 0 rfl tL34 (zeroT_ex tZ3) tS3 tY3 rfl rfl (hp.old0 hV) encI_one (by simp only [List.length_nil]; omega) rfl ?_
  intro v2 w hp
  refine WL.run 1 rfl ?_
  refine WL.s ?_
  refine W.sr ?_
  refine WL.run 1 rfl ?_
  refine WL.v (view_len tL34 (own_view (hp.at 0 rfl)) rfl) ?_
  refine WL.run 1 rfl ?_
  refine WL.fin ?_
  refine W.block ?_
  refine W.loop (X := Nat × Value × List Int) (fun x_ => match x_ with | ⟨i, v, q⟩ => l.length - i) (fun x_ => match x_ with | ⟨i, v, q⟩ => [(3, v), (10, .int .i64 (l.length : Int)), (11, .int .i64 (i : Int))]) (fun x_ w => match x_ with | ⟨i, v, q⟩ => Hp w0 [] [ownR 3 encI 1 v q] w ∧ i ≤ l.length ∧ q.Perm l ∧ ∀ a b : Nat, a < b → b < i → q.getD a default ≤ q.getD b default) (0, v2, l) ⟨rfl, rfl, rfl, trivial⟩ ?_ ?_
  · exact ⟨hp, by omega, List.Perm.refl _, fun a b h1 h2 => by omega⟩
  rintro ⟨i, v, q⟩ w ⟨hp, hi, hpm, hord⟩
  refine W.sr ?_
  refine WL.run 1 rfl ?_
  refine WL.s ?_
  by_cases hc3 : (i : Int) < (l.length : Int)
  · refine W.cT rfl (decide_eq_true hc3) ?_
    refine W.k ?_
    refine W.seq ?_
    refine W.block ?_
    refine W.seq ?_
    have hlt : i < l.length := by omega
    refine W.reg ?_
    refine WL.run 2 rfl ?_
    refine WL.a ?_
    refine WL.run 2 rfl ?_
    refine WL.fin ?_
    refine W.block ?_
    refine W.loop (X := Int × List Int) (fun x_ => match x_ with | ⟨k, q2⟩ => k.toNat) (fun x_ => match x_ with | ⟨k, q2⟩ => [(3, v), (5, .int .i64 k), (10, .int .i64 (l.length : Int)), (11, .int .i64 (i : Int))]) (fun x_ w => match x_ with | ⟨k, q2⟩ => Hp w0 [] [ownR 3 encI 1 v q2] w ∧ 0 ≤ k ∧ k ≤ i ∧ q2.Perm l ∧ ordK q2 i k.toNat) ((i : Int), q) ⟨rfl, rfl, rfl, rfl, trivial⟩ ?_ ?_
    · exact ⟨hp, by omega, by omega, hpm, fun a b h1 h2 h3 => hord a b h1 (by omega)⟩
    rintro ⟨k, q2⟩ w ⟨hp, hk0, hki, hpm2, hok⟩
    refine W.seq ?_
    refine W.seq ?_
    have hk1 : (k - 1).toNat = k.toNat - 1 := by omega
    have hln : q2.length = l.length := hpm2.length_eq
    refine W.draw prog_mixed (fun w => (ownR 3 encI 1 v q2).ok w ∧ (viewR encI 1 s l).ok w ∧ True) hp ?_
    intro w hp
    refine WD.s ⟨hp.at 0 rfl, hp.old0 hV, trivial⟩ fun hS0 => ?_
    refine WD.v 0 rfl hS0 (fun w hS => (X.mv rfl)) ?_
    refine WD.v 1 rfl hS0 (fun w hS => (X.gtr rfl rfl)) ?_
    refine WD.v 2 rfl hS0 (fun w hS => (X.mv rfl)) ?_
    by_cases hc4 : 0 < k
    · refine WD.gv 3 rfl rfl rfl rfl (decide_eq_true hc4) hS0 (fun w hS => (X.mv rfl)) ?_
      refine WD.gv 4 rfl rfl rfl rfl (decide_eq_true hc4) hS0 (fun w hS => (X.mv rfl)) ?_
      refine WD.gv 5 rfl rfl rfl rfl (decide_eq_true hc4) hS0 (fun w hS => (X.idxV (j := k.toNat) (r := offOf v + k.toNat * 1) tL34 tS3 (own_view hS.1) rfl rfl (by omega) (by omega) rfl)) ?_
      refine WD.gv 6 rfl rfl rfl rfl (decide_eq_true hc4) hS0 (fun w hS => (X.ld1 tA3 rfl (view_cell (j := k.toNat) (f := 0) (own_view hS.1) (get_some (by omega)) rfl (by omega)))) ?_
      refine WD.gv 7 rfl rfl rfl rfl (decide_eq_true hc4) hS0 (fun w hS => (X.mv rfl)) ?_
      refine WD.gv 8 rfl rfl rfl rfl (decide_eq_true hc4) hS0 (fun w hS => (X.mv rfl)) ?_
      refine WD.gv 9 rfl rfl rfl rfl (decide_eq_true hc4) hS0 (fun w hS => (X.sub rfl rfl (in64 (by omega)))) ?_
      refine WD.gv 10 rfl rfl rfl rfl (decide_eq_true hc4) hS0 (fun w hS => (X.idxV (j := (k - 1).toNat) (r := offOf v + ((k - 1).toNat) * 1) tL34 tS3 (own_view hS.1) rfl rfl (by omega) (by omega) rfl)) ?_
      refine WD.gv 11 rfl rfl rfl rfl (decide_eq_true hc4) hS0 (fun w hS => (X.ld1 tA3 rfl (view_cell (j := (k - 1).toNat) (f := 0) (own_view hS.1) (get_some (by omega)) rfl (by omega)))) ?_
      refine WD.gv 12 rfl rfl rfl rfl (decide_eq_true hc4) hS0 (fun w hS => (X.lss rfl rfl)) ?_
      refine WD.v 13 rfl hS0 (fun w hS => (X.pkT rfl (decide_eq_true hc4) rfl)) ?_
      refine WD.nil (by kernel_rfl) ?_
      refine X.thenN ?_
      by_cases hc5 : (q2.getD k.toNat default) < (q2.getD ((k - 1).toNat) default)
      · refine W.cT rfl (decide_eq_true hc5) ?_
        refine W.k ?_
        refine W.seq ?_
        refine W.block ?_
        refine W.draw prog_mixed (fun w => (viewR encI 1 s l).ok w ∧ True) hp ?_
        intro w hp
        refine WD.s ⟨hp.old0 hV, trivial⟩ fun hS0 => ?_
        refine WD.v 0 rfl hS0 (fun w hS => (X.mv rfl)) ?_
        refine WD.v 1 rfl hS0 (fun w hS => (X.mv rfl)) ?_
        refine WD.v 2 rfl hS0 (fun w hS => (X.mv rfl)) ?_
        refine WD.v 3 rfl hS0 (fun w hS => (X.mv rfl)) ?_
        refine WD.v 4 rfl hS0 (fun w hS => (X.sub rfl rfl (in64 (by omega)))) ?_
        refine WD.v 5 rfl hS0 (fun w hS => (X.mv rfl)) ?_
        refine WD.v 6 rfl hS0 (fun w hS => (X.mv rfl)) ?_
        refine WD.v 7 rfl hS0 (fun w hS => (X.sub rfl rfl (in64 (by omega)))) ?_
        refine WD.v 10 rfl hS0 (fun w hS => (X.mv rfl)) ?_
        refine WD.v 11 rfl hS0 (fun w hS => (X.mv rfl)) ?_
        refine WD.two 8 12 (by kernel_rfl) ?_ ?_
        · refine WO.val rfl rfl rfl (X.idxV (j := (k - 1).toNat) (r := offOf v + ((k - 1).toNat) * 1) tL34 tS3 (own_view (hp.at 0 rfl)) rfl rfl (by omega) (by omega) rfl) hS0 ?_
          refine WD.two 9 12 (by kernel_rfl) ?_ ?_
          · refine WO.val rfl rfl rfl (X.ld1 tA3 rfl (view_cell (j := (k - 1).toNat) (f := 0) (own_view (hp.at 0 rfl)) (get_some (by omega)) rfl (by omega))) hS0 ?_
            refine WD.one 12 (by kernel_rfl) ?_
            refine WO.val rfl rfl rfl (X.idxV (j := k.toNat) (r := offOf v + k.toNat * 1) tL34 tS3 (own_view (hp.at 0 rfl)) rfl rfl (by omega) (by omega) rfl) hS0 ?_
            refine WD.one 13 (by kernel_rfl) ?_
            refine WO.val rfl rfl rfl (X.ld1 tA3 rfl (view_cell (j := k.toNat) (f := 0) (own_view (hp.at 0 rfl)) (get_some (by omega)) rfl (by omega))) hS0 ?_
            refine WD.one 14 (by kernel_rfl) ?_
            refine WO.val rfl rfl rfl (X.idxV (j := k.toNat) (r := offOf v + k.toNat * 1) tL34 tS3 (own_view (hp.at 0 rfl)) rfl rfl (by omega) (by omega) rfl) hS0 ?_
            refine WD.one 15 (by kernel_rfl) ?_
            refine WO.stOwn hp 0 rfl rfl (j := k.toNat) (f := 0) (q := (q2.getD k.toNat default)) (q' := (q2.getD ((k - 1).toNat) default)) tS3 rfl rfl (vs := [.int .i64 (q2.getD ((k - 1).toNat) default)]) rfl rfl (get_some (by omega)) rfl (by simp only [List.length_cons, List.length_nil]; omega) rfl ?_
            intro w hp
            refine andS ⟨hp.old0 hV, trivial⟩ fun hS0 => ?_
            refine WD.one 16 (by kernel_rfl) ?_
            refine WO.val rfl rfl rfl (X.idxV (j := (k - 1).toNat) (r := offOf v + ((k - 1).toNat) * 1) tL34 tS3 (own_view (hp.at 0 rfl)) rfl rfl (by omega) (by simp only [List.length_set]; omega) rfl) hS0 ?_
            refine WD.one 17 (by kernel_rfl) ?_
            refine WO.stOwn hp 0 rfl rfl (j := (k - 1).toNat) (f := 0) (q := ((q2.set k.toNat (q2.getD ((k - 1).toNat) default)).getD ((k - 1).toNat) default)) (q' := (q2.getD k.toNat default)) tS3 rfl rfl (vs := [.int .i64 (q2.getD k.toNat default)]) rfl rfl (get_some (by simp only [List.length_set]; omega)) rfl (by simp only [List.length_cons, List.length_nil]; omega) rfl ?_
            intro w hp
            refine andS ⟨hp.old0 hV, trivial⟩ fun hS0 => ?_
            refine WD.nil (by kernel_rfl) ?_
            refine X.inN ?_
            refine X.thenN ?_
            refine W.reg ?_
            refine WL.run 1 rfl ?_
            refine WL.v (X.sub rfl rfl (in64 (by omega))) ?_
            refine WL.run 1 rfl ?_
            refine WL.nil ?_
            refine X.again (k - 1, (q2.set k.toNat (q2.getD ((k - 1).toNat) default)).set ((k - 1).toNat) (q2.getD k.toNat default)) ⟨rfl, rfl, rfl, rfl, trivial⟩ ?_ ?_
            · exact ⟨hp, by omega, by omega, by rw [hk1]; exact (swap_perm (by omega) (by omega)).trans hpm2, by rw [hk1]; exact ordK_swap (by omega) (by omega) (by omega) hok (by rw [← hk1]; assumption)⟩
            · dsimp only; omega
          refine WO.val rfl rfl rfl (X.idxV (j := k.toNat) (r := offOf v + k.toNat * 1) tL34 tS3 (own_view (hp.at 0 rfl)) rfl rfl (by omega) (by omega) rfl) hS0 ?_
          refine WD.two 9 13 (by kernel_rfl) ?_ ?_
          · refine WO.val rfl rfl rfl (X.ld1 tA3 rfl (view_cell (j := (k - 1).toNat) (f := 0) (own_view (hp.at 0 rfl)) (get_some (by omega)) rfl (by omega))) hS0 ?_
            refine WD.one 13 (by kernel_rfl) ?_
            refine WO.val rfl rfl rfl (X.ld1 tA3 rfl (view_cell (j := k.toNat) (f := 0) (own_view (hp.at 0 rfl)) (get_some (by omega)) rfl (by omega))) hS0 ?_
            refine WD.one 14 (by kernel_rfl) ?_
            refine WO.val rfl rfl rfl (X.idxV (j := k.toNat) (r := offOf v + k.toNat * 1) tL34 tS3 (own_view (hp.at 0 rfl)) rfl rfl (by omega) (by omega) rfl) hS0 ?_
            refine WD.one 15 (by kernel_rfl) ?_
            refine WO.stOwn hp 0 rfl rfl (j := k.toNat) (f := 0) (q := (q2.getD k.toNat default)) (q' := (q2.getD ((k - 1).toNat) default)) tS3 rfl rfl (vs := [.int .i64 (q2.getD ((k - 1).toNat) default)]) rfl rfl (get_some (by omega)) rfl (by simp only [List.length_cons, List.length_nil]; omega) rfl ?_
            intro w hp
            refine andS ⟨hp.old0 hV, trivial⟩ fun hS0 => ?_
            refine WD.one 16 (by kernel_rfl) ?_
            refine WO.val rfl rfl rfl (X.idxV (j := (k - 1).toNat) (r := offOf v + ((k - 1).toNat) * 1) tL34 tS3 (own_view (hp.at 0 rfl)) rfl rfl (by omega) (by simp only [List.length_set]; omega) rfl) hS0 ?_
            refine WD.one 17 (by kernel_rfl) ?_
            refine WO.stOwn hp 0 rfl rfl (j := (k - 1).toNat) (f := 0) (q := ((q2.set k.toNat (q2.getD ((k - 1).toNat) default)).getD ((k - 1).toNat) default)) (q' := (q2.getD k.toNat default)) tS3 rfl rfl (vs := [.int .i64 (q2.getD k.toNat default)]) rfl rfl (get_some (by simp only [List.length_set]; omega)) rfl (by simp only [List.length_cons, List.length_nil]; omega) rfl ?_
            intro w hp
            refine andS ⟨hp.old0 hV, trivial⟩ fun hS0 => ?_
            refine WD.nil (by kernel_rfl) ?_
            refine X.inN ?_
            refine X.thenN ?_
            refine W.reg ?_
            refine WL.run 1 rfl ?_
            refine WL.v (X.sub rfl rfl (in64 (by omega))) ?_
            refine WL.run 1 rfl ?_
            refine WL.nil ?_
            refine X.again (k - 1, (q2.set k.toNat (q2.getD ((k - 1).toNat) default)).set ((k - 1).toNat) (q2.getD k.toNat default)) ⟨rfl, rfl, rfl, rfl, trivial⟩ ?_ ?_
            · exact ⟨hp, by omega, by omega, by rw [hk1]; exact (swap_perm (by omega) (by omega)).trans hpm2, by rw [hk1]; exact ordK_swap (by omega) (by omega) (by omega) hok (by rw [← hk1]; assumption)⟩
            · dsimp only; omega
          refine WO.val rfl rfl rfl (X.ld1 tA3 rfl (view_cell (j := k.toNat) (f := 0) (own_view (hp.at 0 rfl)) (get_some (by omega)) rfl (by omega))) hS0 ?_
          refine WD.one 9 (by kernel_rfl) ?_
          refine WO.val rfl rfl rfl (X.ld1 tA3 rfl (view_cell (j := (k - 1).toNat) (f := 0) (own_view (hp.at 0 rfl)) (get_some (by omega)) rfl (by omega))) hS0 ?_
          refine WD.one 14 (by kernel_rfl) ?_
          refine WO.val rfl rfl rfl (X.idxV (j := k.toNat) (r := offOf v + k.toNat * 1) tL34 tS3 (own_view (hp.at 0 rfl)) rfl rfl (by omega) (by omega) rfl) hS0 ?_
          refine WD.one 15 (by kernel_rfl) ?_
          refine WO.stOwn hp 0 rfl rfl (j := k.toNat) (f := 0) (q := (q2.getD k.toNat default)) (q' := (q2.getD ((k - 1).toNat) default)) tS3 rfl rfl (vs := [.int .i64 (q2.getD ((k - 1).toNat) default)]) rfl rfl (get_some (by omega)) rfl (by simp only [List.length_cons, List.length_nil]; omega) rfl ?_
          intro w hp
          refine andS ⟨hp.old0 hV, trivial⟩ fun hS0 => ?_
          refine WD.one 16 (by kernel_rfl) ?_
          refine WO.val rfl rfl rfl (X.idxV (j := (k - 1).toNat) (r := offOf v + ((k - 1).toNat) * 1) tL34 tS3 (own_view (hp.at 0 rfl)) rfl rfl (by omega) (by simp only [List.length_set]; omega) rfl) hS0 ?_
          refine WD.one 17 (by kernel_rfl) ?_
          refine WO.stOwn hp 0 rfl rfl (j := (k - 1).toNat) (f := 0) (q := ((q2.set k.toNat (q2.getD ((k - 1).toNat) default)).getD ((k - 1).toNat) default)) (q' := (q2.getD k.toNat default)) tS3 rfl rfl (vs := [.int .i64 (q2.getD k.toNat default)]) rfl rfl (get_some (by simp only [List.length_set]; omega)) rfl (by simp only [List.length_cons, List.length_nil]; omega) rfl ?_
          intro w hp
          refine andS ⟨hp.old0 hV, trivial⟩ fun hS0 => ?_
          refine WD.nil (by kernel_rfl) ?_
          refine X.inN ?_
          refine X.thenN ?_
          refine W.reg ?_
          refine WL.run 1 rfl ?_
          refine WL.v (X.sub rfl rfl (in64 (by omega))) ?_
          refine WL.run 1 rfl ?_
          refine WL.nil ?_
          refine X.again (k - 1, (q2.set k.toNat (q2.getD ((k - 1).toNat) default)).set ((k - 1).toNat) (q2.getD k.toNat default)) ⟨rfl, rfl, rfl, rfl, trivial⟩ ?_ ?_
          · exact ⟨hp, by omega, by omega, by rw [hk1]; exact (swap_perm (by omega) (by omega)).trans hpm2, by rw [hk1]; exact ordK_swap (by omega) (by omega) (by omega) hok (by rw [← hk1]; assumption)⟩
          · dsimp only; omega
        refine WO.val rfl rfl rfl (X.idxV (j := k.toNat) (r := offOf v + k.toNat * 1) tL34 tS3 (own_view (hp.at 0 rfl)) rfl rfl (by omega) (by omega) rfl) hS0 ?_
        refine WD.two 8 13 (by kernel_rfl) ?_ ?_
        · refine WO.val rfl rfl rfl (X.idxV (j := (k - 1).toNat) (r := offOf v + ((k - 1).toNat) * 1) tL34 tS3 (own_view (hp.at 0 rfl)) rfl rfl (by omega) (by omega) rfl) hS0 ?_
          refine WD.two 9 13 (by kernel_rfl) ?_ ?_
          · refine WO.val rfl rfl rfl (X.ld1 tA3 rfl (view_cell (j := (k - 1).toNat) (f := 0) (own_view (hp.at 0 rfl)) (get_some (by omega)) rfl (by omega))) hS0 ?_
            refine WD.one 13 (by kernel_rfl) ?_
            refine WO.val rfl rfl rfl (X.ld1 tA3 rfl (view_cell (j := k.toNat) (f := 0) (own_view (hp.at 0 rfl)) (get_some (by omega)) rfl (by omega))) hS0 ?_
            refine WD.one 14 (by kernel_rfl) ?_
            refine WO.val rfl rfl rfl (X.idxV (j := k.toNat) (r := offOf v + k.toNat * 1) tL34 tS3 (own_view (hp.at 0 rfl)) rfl rfl (by omega) (by omega) rfl) hS0 ?_
            refine WD.one 15 (by kernel_rfl) ?_
            refine WO.stOwn hp 0 rfl rfl (j := k.toNat) (f := 0) (q := (q2.getD k.toNat default)) (q' := (q2.getD ((k - 1).toNat) default)) tS3 rfl rfl (vs := [.int .i64 (q2.getD ((k - 1).toNat) default)]) rfl rfl (get_some (by omega)) rfl (by simp only [List.length_cons, List.length_nil]; omega) rfl ?_
            intro w hp
            refine andS ⟨hp.old0 hV, trivial⟩ fun hS0 => ?_
            refine WD.one 16 (by kernel_rfl) ?_
            refine WO.val rfl rfl rfl (X.idxV (j := (k - 1).toNat) (r := offOf v + ((k - 1).toNat) * 1) tL34 tS3 (own_view (hp.at 0 rfl)) rfl rfl (by omega) (by simp only [List.length_set]; omega) rfl) hS0 ?_
            refine WD.one 17 (by kernel_rfl) ?_
            refine WO.stOwn hp 0 rfl rfl (j := (k - 1).toNat) (f := 0) (q := ((q2.set k.toNat (q2.getD ((k - 1).toNat) default)).getD ((k - 1).toNat) default)) (q' := (q2.getD k.toNat default)) tS3 rfl rfl (vs := [.int .i64 (q2.getD k.toNat default)]) rfl rfl (get_some (by simp only [List.length_set]; omega)) rfl (by simp only [List.length_cons, List.length_nil]; omega) rfl ?_
            intro w hp
            refine andS ⟨hp.old0 hV, trivial⟩ fun hS0 => ?_
            refine WD.nil (by kernel_rfl) ?_
            refine X.inN ?_
            refine X.thenN ?_
            refine W.reg ?_
            refine WL.run 1 rfl ?_
            refine WL.v (X.sub rfl rfl (in64 (by omega))) ?_
            refine WL.run 1 rfl ?_
            refine WL.nil ?_
            refine X.again (k - 1, (q2.set k.toNat (q2.getD ((k - 1).toNat) default)).set ((k - 1).toNat) (q2.getD k.toNat default)) ⟨rfl, rfl, rfl, rfl, trivial⟩ ?_ ?_
            · exact ⟨hp, by omega, by omega, by rw [hk1]; exact (swap_perm (by omega) (by omega)).trans hpm2, by rw [hk1]; exact ordK_swap (by omega) (by omega) (by omega) hok (by rw [← hk1]; assumption)⟩
            · dsimp only; omega
          refine WO.val rfl rfl rfl (X.ld1 tA3 rfl (view_cell (j := k.toNat) (f := 0) (own_view (hp.at 0 rfl)) (get_some (by omega)) rfl (by omega))) hS0 ?_
          refine WD.one 9 (by kernel_rfl) ?_
          refine WO.val rfl rfl rfl (X.ld1 tA3 rfl (view_cell (j := (k - 1).toNat) (f := 0) (own_view (hp.at 0 rfl)) (get_some (by omega)) rfl (by omega))) hS0 ?_
          refine WD.one 14 (by kernel_rfl) ?_
          refine WO.val rfl rfl rfl (X.idxV (j := k.toNat) (r := offOf v + k.toNat * 1) tL34 tS3 (own_view (hp.at 0 rfl)) rfl rfl (by omega) (by omega) rfl) hS0 ?_
          refine WD.one 15 (by kernel_rfl) ?_
          refine WO.stOwn hp 0 rfl rfl (j := k.toNat) (f := 0) (q := (q2.getD k.toNat default)) (q' := (q2.getD ((k - 1).toNat) default)) tS3 rfl rfl (vs := [.int .i64 (q2.getD ((k - 1).toNat) default)]) rfl rfl (get_some (by omega)) rfl (by simp only [List.length_cons, List.length_nil]; omega) rfl ?_
          intro w hp
          refine andS ⟨hp.old0 hV, trivial⟩ fun hS0 => ?_
          refine WD.one 16 (by kernel_rfl) ?_
          refine WO.val rfl rfl rfl (X.idxV (j := (k - 1).toNat) (r := offOf v + ((k - 1).toNat) * 1) tL34 tS3 (own_view (hp.at 0 rfl)) rfl rfl (by omega) (by simp only [List.length_set]; omega) rfl) hS0 ?_
          refine WD.one 17 (by kernel_rfl) ?_
          refine WO.stOwn hp 0 rfl rfl (j := (k - 1).toNat) (f := 0) (q := ((q2.set k.toNat (q2.getD ((k - 1).toNat) default)).getD ((k - 1).toNat) default)) (q' := (q2.getD k.toNat default)) tS3 rfl rfl (vs := [.int .i64 (q2.getD k.toNat default)]) rfl rfl (get_some (by simp only [List.length_set]; omega)) rfl (by simp only [List.length_cons, List.length_nil]; omega) rfl ?_
          intro w hp
          refine andS ⟨hp.old0 hV, trivial⟩ fun hS0 => ?_
          refine WD.nil (by kernel_rfl) ?_
          refine X.inN ?_
          refine X.thenN ?_
          refine W.reg ?_
          refine WL.run 1 rfl ?_
          refine WL.v (X.sub rfl rfl (in64 (by omega))) ?_
          refine WL.run 1 rfl ?_
          refine WL.nil ?_
          refine X.again (k - 1, (q2.set k.toNat (q2.getD ((k - 1).toNat) default)).set ((k - 1).toNat) (q2.getD k.toNat default)) ⟨rfl, rfl, rfl, rfl, trivial⟩ ?_ ?_
          · exact ⟨hp, by omega, by omega, by rw [hk1]; exact (swap_perm (by omega) (by omega)).trans hpm2, by rw [hk1]; exact ordK_swap (by omega) (by omega) (by omega) hok (by rw [← hk1]; assumption)⟩
          · dsimp only; omega
        refine WO.val rfl rfl rfl (X.ld1 tA3 rfl (view_cell (j := k.toNat) (f := 0) (own_view (hp.at 0 rfl)) (get_some (by omega)) rfl (by omega))) hS0 ?_
        refine WD.one 8 (by kernel_rfl) ?_
        refine WO.val rfl rfl rfl (X.idxV (j := (k - 1).toNat) (r := offOf v + ((k - 1).toNat) * 1) tL34 tS3 (own_view (hp.at 0 rfl)) rfl rfl (by omega) (by omega) rfl) hS0 ?_
        refine WD.one 9 (by kernel_rfl) ?_
        refine WO.val rfl rfl rfl (X.ld1 tA3 rfl (view_cell (j := (k - 1).toNat) (f := 0) (own_view (hp.at 0 rfl)) (get_some (by omega)) rfl (by omega))) hS0 ?_
        refine WD.one 14 (by kernel_rfl) ?_
        refine WO.val rfl rfl rfl (X.idxV (j := k.toNat) (r := offOf v + k.toNat * 1) tL34 tS3 (own_view (hp.at 0 rfl)) rfl rfl (by omega) (by omega) rfl) hS0 ?_
        refine WD.one 15 (by kernel_rfl) ?_
        refine WO.stOwn hp 0 rfl rfl (j := k.toNat) (f := 0) (q := (q2.getD k.toNat default)) (q' := (q2.getD ((k - 1).toNat) default)) tS3 rfl rfl (vs := [.int .i64 (q2.getD ((k - 1).toNat) default)]) rfl rfl (get_some (by omega)) rfl (by simp only [List.length_cons, List.length_nil]; omega) rfl ?_
        intro w hp
        refine andS ⟨hp.old0 hV, trivial⟩ fun hS0 => ?_
        refine WD.one 16 (by kernel_rfl) ?_
        refine WO.val rfl rfl rfl (X.idxV (j := (k - 1).toNat) (r := offOf v + ((k - 1).toNat) * 1) tL34 tS3 (own_view (hp.at 0 rfl)) rfl rfl (by omega) (by simp only [List.length_set]; omega) rfl) hS0 ?_
        refine WD.one 17 (by kernel_rfl) ?_
        refine WO.stOwn hp 0 rfl rfl (j := (k - 1).toNat) (f := 0) (q := ((q2.set k.toNat (q2.getD ((k - 1).toNat) default)).getD ((k - 1).toNat) default)) (q' := (q2.getD k.toNat default)) tS3 rfl rfl (vs := [.int .i64 (q2.getD k.toNat default)]) rfl rfl (get_some (by simp only [List.length_set]; omega)) rfl (by simp only [List.length_cons, List.length_nil]; omega) rfl ?_
        intro w hp
        refine andS ⟨hp.old0 hV, trivial⟩ fun hS0 => ?_
        refine WD.nil (by kernel_rfl) ?_
        refine X.inN ?_
        refine X.thenN ?_
        refine W.reg ?_
        refine WL.run 1 rfl ?_
        refine WL.v (X.sub rfl rfl (in64 (by omega))) ?_
        refine WL.run 1 rfl ?_
        refine WL.nil ?_
        refine X.again (k - 1, (q2.set k.toNat (q2.getD ((k - 1).toNat) default)).set ((k - 1).toNat) (q2.getD k.toNat default)) ⟨rfl, rfl, rfl, rfl, trivial⟩ ?_ ?_
        · exact ⟨hp, by omega, by omega, by rw [hk1]; exact (swap_perm (by omega) (by omega)).trans hpm2, by rw [hk1]; exact ordK_swap (by omega) (by omega) (by omega) hok (by rw [← hk1]; assumption)⟩
        · dsimp only; omega
      refine W.cF rfl (decide_eq_false hc5) ?_
      refine W.exit ?_
      refine X.thenE ?_
      refine X.thenE ?_
      refine X.inH ?_
      refine X.inN ?_
      refine X.thenN ?_
      refine W.reg ?_
      refine WL.v (X.add rfl rfl (in64 (by omega))) ?_
      refine WL.run 1 rfl ?_
      refine WL.nil ?_
      refine X.again (i + 1, v, q2) ⟨rfl, rfl, rfl, trivial⟩ ?_ ?_
      · exact ⟨hp, by omega, hpm2, ordK_done (k := k.toNat) (by omega) hok (fun h_ => by rw [← hk1] at h_; omega)⟩
      · dsimp only; omega
    refine WD.g0 3 rfl (by kernel_rfl) rfl rfl rfl (decide_eq_false hc4) rfl (fun _ _ _ h => h) hS0 ?_
    refine WD.g0 4 rfl (by kernel_rfl) rfl rfl rfl (decide_eq_false hc4) rfl (fun _ _ _ h => h) hS0 ?_
    refine WD.g0 5 rfl (by kernel_rfl) rfl rfl rfl (decide_eq_false hc4) rfl (fun _ _ _ h => h) hS0 ?_
    refine WD.g0 6 rfl (by kernel_rfl) rfl rfl rfl (decide_eq_false hc4) rfl (fun _ _ _ h => h) hS0 ?_
    refine WD.g0 7 rfl (by kernel_rfl) rfl rfl rfl (decide_eq_false hc4) rfl (fun _ _ _ h => h) hS0 ?_
    refine WD.g0 8 rfl (by kernel_rfl) rfl rfl rfl (decide_eq_false hc4) rfl (fun _ _ _ h => h) hS0 ?_
    refine WD.g0 9 rfl (by kernel_rfl) rfl rfl rfl (decide_eq_false hc4) rfl (fun _ _ _ h => h) hS0 ?_
    refine WD.g0 10 rfl (by kernel_rfl) rfl rfl rfl (decide_eq_false hc4) rfl (fun _ _ _ h => h) hS0 ?_
    refine WD.g0 11 rfl (by kernel_rfl) rfl rfl rfl (decide_eq_false hc4) rfl (fun _ _ _ h => h) hS0 ?_
    refine WD.g0 12 rfl (by kernel_rfl) rfl rfl rfl (decide_eq_false hc4) rfl (fun _ _ _ h => h) hS0 ?_
    refine WD.v 13 rfl hS0 (fun w hS => (X.pkF rfl (decide_eq_false hc4) rfl)) ?_
    refine WD.nil (by kernel_rfl) ?_
    refine X.thenN ?_
    refine W.cF rfl rfl ?_
    refine W.exit ?_
    refine X.thenE ?_
    refine X.thenE ?_
    refine X.inH ?_
    refine X.inN ?_
    refine X.thenN ?_
    refine W.reg ?_
    refine WL.v (X.add rfl rfl (in64 (by omega))) ?_
    refine WL.run 1 rfl ?_
    refine WL.nil ?_
    refine X.again (i + 1, v, q2) ⟨rfl, rfl, rfl, trivial⟩ ?_ ?_
    · exact ⟨hp, by omega, hpm2, ordK_done (k := k.toNat) (by omega) hok (fun h_ => by rw [← hk1] at h_; omega)⟩
    · dsimp only; omega
  refine W.cF rfl (decide_eq_false hc3) ?_
  refine W.exit ?_
  refine X.thenE ?_
  refine X.thenE ?_
  refine X.inH ?_
  refine X.thenN ?_
  refine W.seq ?_
  have hln : q.length = l.length := hpm.length_eq
  refine W.reg ?_
  refine WL.run 2 rfl ?_
  refine WL.fin ?_
  refine W.ret ?_
  refine W.done hp (rs := [.tmp 2]) (vs := [v]) (v := v) rfl ⟨rfl, trivial⟩ rfl ?_
  exact ⟨q, hpm, ord_sorted (fun a b h1 h2 => hord a b h1 (by omega)), hp.newAt 0 rfl⟩

set_option maxHeartbeats 1000000 in
theorem at15_c {w0 : World} {q : Nat} {wv cv : Value} {ws : List Int} {cs : List Cls} (hQ : (blkR q (.cells (#[wv]) 59 (0, 0))).ok w0)  (hW : (viewR encI 1 wv ws).ok w0) {a : Int} (hC : (viewR clsV 4 cv cs).ok w0) (hcs : ∀ x ∈ cs, clsR x = true) (ho : objE ws cs a = 0) :
    Calls Tryz.prog 65 #[.agg #[.pointer (some ⟨q, 0, none⟩), cv], .int .i64 a] w0 (Ret [] w0 (fun v w => ∃ rv dv, v = .agg #[.int .i64 ((objT ws cs a).hd.cls), .int .i64 ((objT ws cs a).hd.age), .int .i64 ((objT ws cs a).hd.fwd), .bool ((objT ws cs a).hd.mark), .bool ((objT ws cs a).hd.final), .bool ((objT ws cs a).hd.done), .int .i64 (gi ws (a + 1)), rv, dv] ∧ Hp w0 [] [ownR 3 encI 1 rv ((ws.drop (a + 2).toNat).take ((a + 2 + (objT ws cs a).refs).toNat - (a + 2).toNat)), ownR 3 encI 1 dv ((ws.drop (a + 2 + (objT ws cs a).refs).toNat).take ((a + 2 + (objT ws cs a).refs + (objT ws cs a).data).toNat - (a + 2 + (objT ws cs a).refs).toNat))] w)) := by
  have hp : Hp w0 [] [] w0 := Hp.init w0
  have hle := view_len_le hW
  have hbd := objT_bd hcs ho
  refine enter (vs := [.agg #[.pointer (some ⟨q, 0, none⟩), cv], .int .i64 a]) Tryz.func65 rfl rfl rfl ?_
  refine gen_world hp ?_
  intro w hp
  refine W.sr ?_
  refine WL.box hp rfl (cs := #[.pointer (some ⟨q, 0, none⟩), cv]) rfl rfl ?_
  intro b1 w hp
  refine WL.alloc hp tZ135 rfl ?_
  intro b2 w hp
  refine WL.a ?_
  refine WL.v (X.ldkA (hp.at 1 rfl) tA42 tS42 (vs := [.pointer (some ⟨q, 0, none⟩), cv]) rfl rfl) ?_
  refine WL.run 1 rfl ?_
  refine WL.call isFn44 rfl rfl (shape6_c (a := a) (hp.old0 hQ) (hp.old0 hW) (hp.old0 hC) hcs) ?_
  intro v w hc hr
  obtain rfl := hr
  have hp := hp.ext hc
  refine WL.run 7 rfl ?_
  refine WL.a ?_
  refine WL.v (X.ldkA (hp.at 1 rfl) tA42 tS42 (vs := [.pointer (some ⟨q, 0, none⟩), cv]) rfl rfl) ?_
  refine WL.run 1 rfl ?_
  refine WL.call isFn45 rfl rfl (head6_c (a := a) (hp.old0 hQ) (hp.old0 hW) (hp.old0 hC) hcs) ?_
  intro v w hc hr
  obtain rfl := hr
  have hp := hp.ext hc
  refine WL.run 3 rfl ?_
  refine WL.alloc hp tZ103 rfl ?_
  intro b3 w hp
  refine WL.store hp 0 rfl tS103 rfl rfl (vs := [.int .i64 ((objT ws cs a).hd.cls), .int .i64 ((objT ws cs a).hd.age), .int .i64 ((objT ws cs a).hd.fwd), .bool ((objT ws cs a).hd.mark), .bool ((objT ws cs a).hd.final), .bool ((objT ws cs a).hd.done)]) rfl rfl rfl (new := #[.int .i64 ((objT ws cs a).hd.cls), .int .i64 ((objT ws cs a).hd.age), .int .i64 ((objT ws cs a).hd.fwd), .bool ((objT ws cs a).hd.mark), .bool ((objT ws cs a).hd.final), .bool ((objT ws cs a).hd.done)]) rfl ?_
  intro w hp
  refine WL.run 1 rfl ?_
  refine WL.s ?_
  refine W.draw prog_mixed (fun w => (blkR b3 (.cells (#[.int .i64 ((objT ws cs a).hd.cls), .int .i64 ((objT ws cs a).hd.age), .int .i64 ((objT ws cs a).hd.fwd), .bool ((objT ws cs a).hd.mark), .bool ((objT ws cs a).hd.final), .bool ((objT ws cs a).hd.done)]) 103 (0, 0))).ok w ∧ (blkR b1 (.cells (#[.pointer (some ⟨q, 0, none⟩), cv]) 42 (0, 0))).ok w ∧ (blkR q (.cells (#[wv]) 59 (0, 0))).ok w ∧ (viewR encI 1 wv ws).ok w ∧ (viewR clsV 4 cv cs).ok w ∧ True) hp ?_
  intro w hp
  refine WD.s ⟨hp.at 0 rfl, hp.at 2 rfl, hp.old0 hQ, hp.old0 hW, hp.old0 hC, trivial⟩ fun hS0 => ?_
  refine WD.v 0 rfl hS0 (fun w hS => (X.ldkA hS.1 tA103 tS103 (vs := [.int .i64 ((objT ws cs a).hd.cls), .int .i64 ((objT ws cs a).hd.age), .int .i64 ((objT ws cs a).hd.fwd), .bool ((objT ws cs a).hd.mark), .bool ((objT ws cs a).hd.final), .bool ((objT ws cs a).hd.done)]) rfl rfl)) ?_
  refine WD.v 1 rfl hS0 (fun w hS => (X.fa (r := 0) tF42_0 rfl rfl)) ?_
  refine WD.v 2 rfl hS0 (fun w hS => (X.ldk hS.2.1 tA40 rfl rfl)) ?_
  refine WD.v 3 rfl hS0 (fun w hS => (X.nilc rfl)) ?_
  refine WD.v 4 rfl hS0 (fun w hS => (X.fa (r := 0) tF59_0 rfl rfl)) ?_
  refine WD.v 5 rfl hS0 (fun w hS => (X.ldk hS.2.2.1 tA34 rfl rfl)) ?_
  refine WD.v 6 rfl hS0 (fun w hS => (X.mv rfl)) ?_
  refine WD.v 7 rfl hS0 (fun w hS => (X.add rfl rfl (in64 (by omega)))) ?_
  refine WD.v 8 rfl hS0 (fun w hS => (X.idxV (j := (a + 1).toNat) (r := offOf wv + ((a + 1).toNat) * 1) tL34 tS3 hS.2.2.2.1 rfl rfl (by omega) (by omega) rfl)) ?_
  refine WD.v 9 rfl hS0 (fun w hS => (X.ld1 tA3 rfl (view_gi (a := a + 1) hS.2.2.2.1 (by omega)))) ?_
  refine WD.v 11 rfl hS0 (fun w hS => (X.fa (r := 0) tF42_0 rfl rfl)) ?_
  refine WD.v 12 rfl hS0 (fun w hS => (X.ldk hS.2.1 tA40 rfl rfl)) ?_
  refine WD.v 13 rfl hS0 (fun w hS => (X.nilc rfl)) ?_
  refine WD.v 14 rfl hS0 (fun w hS => (X.fa (r := 0) tF59_0 rfl rfl)) ?_
  refine WD.v 15 rfl hS0 (fun w hS => (X.ldk hS.2.2.1 tA34 rfl rfl)) ?_
  refine WD.v 16 rfl hS0 (fun w hS => (X.mv rfl)) ?_
  refine WD.v 17 rfl hS0 (fun w hS => (X.add rfl rfl (in64 (by omega)))) ?_
  refine WD.v 18 rfl hS0 (fun w hS => (X.mv rfl)) ?_
  refine WD.v 19 rfl hS0 (fun w hS => (X.add rfl rfl (in64 (by omega)))) ?_
  refine WD.v 20 rfl hS0 (fun w hS => (X.mv rfl)) ?_
  refine WD.v 21 rfl hS0 (fun w hS => (X.add rfl rfl (in64 (by omega)))) ?_
  refine WD.v 22 rfl hS0 (fun w hS => (X.slcV (lo := ((a + 2).toNat)) (hi := (((a + 2) + ((objT ws cs a).refs)).toNat)) tL34 tS3 hS.2.2.2.1 rfl rfl rfl (by omega) (by omega) (by omega) (by omega))) ?_
  refine WD.v 25 rfl hS0 (fun w hS => (X.fa (r := 0) tF42_0 rfl rfl)) ?_
  refine WD.v 26 rfl hS0 (fun w hS => (X.ldk hS.2.1 tA40 rfl rfl)) ?_
  refine WD.v 27 rfl hS0 (fun w hS => (X.nilc rfl)) ?_
  refine WD.v 28 rfl hS0 (fun w hS => (X.fa (r := 0) tF59_0 rfl rfl)) ?_
  refine WD.v 29 rfl hS0 (fun w hS => (X.ldk hS.2.2.1 tA34 rfl rfl)) ?_
  refine WD.v 30 rfl hS0 (fun w hS => (X.mv rfl)) ?_
  refine WD.v 31 rfl hS0 (fun w hS => (X.add rfl rfl (in64 (by omega)))) ?_
  refine WD.v 32 rfl hS0 (fun w hS => (X.mv rfl)) ?_
  refine WD.v 33 rfl hS0 (fun w hS => (X.add rfl rfl (in64 (by omega)))) ?_
  refine WD.v 34 rfl hS0 (fun w hS => (X.mv rfl)) ?_
  refine WD.v 35 rfl hS0 (fun w hS => (X.add rfl rfl (in64 (by omega)))) ?_
  refine WD.v 36 rfl hS0 (fun w hS => (X.mv rfl)) ?_
  refine WD.v 37 rfl hS0 (fun w hS => (X.add rfl rfl (in64 (by omega)))) ?_
  refine WD.v 38 rfl hS0 (fun w hS => (X.mv rfl)) ?_
  refine WD.v 39 rfl hS0 (fun w hS => (X.add rfl rfl (in64 (by omega)))) ?_
  refine WD.v 40 rfl hS0 (fun w hS => (X.slcV (lo := (((a + 2) + ((objT ws cs a).refs)).toNat)) (hi := ((((a + 2) + ((objT ws cs a).refs)) + ((objT ws cs a).data)).toNat)) tL34 tS3 hS.2.2.2.1 rfl rfl rfl (by omega) (by omega) (by omega) (by omega))) ?_
  refine WD.two 10 24 (by kernel_rfl) ?_ ?_
  · refine WO.bsl hp rfl (e := 3) (cs := #[]) rfl (fun _ => by kernel_rfl) rfl ?_
    intro b4 w hp
    refine andS ⟨hp.at 1 rfl, hp.at 3 rfl, hp.old0 hQ, hp.old0 hW, hp.old0 hC, trivial⟩ fun hS0 => ?_
    refine WD.two 23 24 (by kernel_rfl) ?_ ?_
    · have hp := hp.ofEmpty 0 rfl encI 1 encI_len (by omega)
      refine WO.append hp 0 rfl rfl tL34 (zeroT_ex tZ3) tS3 tY3 rfl rfl (view_sub (hp.old0 hW) (by omega) (by omega)) encI_one (by simp only [List.length_take, List.length_drop, List.length_nil]; omega) rfl ?_
      intro v5 w hp
      refine andS ⟨hp.at 1 rfl, hp.at 3 rfl, hp.old0 hQ, hp.old0 hW, hp.old0 hC, trivial⟩ fun hS0 => ?_
      refine WD.one 24 (by kernel_rfl) ?_
      refine WO.bsl hp rfl (e := 3) (cs := #[]) rfl (fun _ => by kernel_rfl) rfl ?_
      intro b6 w hp
      refine andS ⟨hp.at 2 rfl, hp.at 4 rfl, hp.old0 hQ, hp.old0 hW, hp.old0 hC, trivial⟩ fun hS0 => ?_
      refine WD.one 41 (by kernel_rfl) ?_
      have hp := hp.ofEmpty 0 rfl encI 1 encI_len (by omega)
      refine WO.append hp 0 rfl rfl tL34 (zeroT_ex tZ3) tS3 tY3 rfl rfl (view_sub (hp.old0 hW) (by omega) (by omega)) encI_one (by simp only [List.length_take, List.length_drop, List.length_nil]; omega) rfl ?_
      intro v7 w hp
      refine andS ⟨hp.at 2 rfl, hp.at 4 rfl, hp.old0 hQ, hp.old0 hW, hp.old0 hC, trivial⟩ fun hS0 => ?_
      refine WD.one 42 (by kernel_rfl) ?_
      refine WO.val rfl rfl rfl (X.bld (v := .agg #[.int .i64 ((objT ws cs a).hd.cls), .int .i64 ((objT ws cs a).hd.age), .int .i64 ((objT ws cs a).hd.fwd), .bool ((objT ws cs a).hd.mark), .bool ((objT ws cs a).hd.final), .bool ((objT ws cs a).hd.done), .int .i64 (gi ws (a + 1)), v5, v7]) rfl (by (obtain ⟨_, _, _, hv_⟩ := view_form (own_view (hp.at 1 rfl)); subst hv_); (obtain ⟨_, _, _, hv_⟩ := view_form (own_view (hp.at 0 rfl)); subst hv_); kernel_rfl)) hS0 ?_
      refine WD.one 43 (by kernel_rfl) ?_
      refine WO.store hp 3 rfl rfl tS135 rfl rfl (vs := [.int .i64 ((objT ws cs a).hd.cls), .int .i64 ((objT ws cs a).hd.age), .int .i64 ((objT ws cs a).hd.fwd), .bool ((objT ws cs a).hd.mark), .bool ((objT ws cs a).hd.final), .bool ((objT ws cs a).hd.done), .int .i64 (gi ws (a + 1)), v5, v7]) rfl (by first | (simp only [List.all_cons, List.all_nil, Bool.and_true, view_one (own_view (hp.at 1 rfl)), view_one (own_view (hp.at 0 rfl))]; done) | (simp only [List.all_cons, List.all_nil, Bool.and_true, one_int, one_bool, one_ptr, one_map, one_sl, view_one (own_view (hp.at 1 rfl)), view_one (own_view (hp.at 0 rfl))]; done) | simp [Value.oneCell', view_one (own_view (hp.at 1 rfl)), view_one (own_view (hp.at 0 rfl))]) rfl (new := #[.int .i64 ((objT ws cs a).hd.cls), .int .i64 ((objT ws cs a).hd.age), .int .i64 ((objT ws cs a).hd.fwd), .bool ((objT ws cs a).hd.mark), .bool ((objT ws cs a).hd.final), .bool ((objT ws cs a).hd.done), .int .i64 (gi ws (a + 1)), v5, v7]) rfl ?_
      intro w hp
      refine andS ⟨hp.at 2 rfl, hp.at 4 rfl, hp.old0 hQ, hp.old0 hW, hp.old0 hC, trivial⟩ fun hS0 => ?_
      refine WD.nil (by kernel_rfl) ?_
      refine X.thenN ?_
      refine W.ret ?_
      refine W.done hp (rs := [.cell 4 135]) (vs := [.agg #[.int .i64 ((objT ws cs a).hd.cls), .int .i64 ((objT ws cs a).hd.age), .int .i64 ((objT ws cs a).hd.fwd), .bool ((objT ws cs a).hd.mark), .bool ((objT ws cs a).hd.final), .bool ((objT ws cs a).hd.done), .int .i64 (gi ws (a + 1)), v5, v7]]) (v := .agg #[.int .i64 ((objT ws cs a).hd.cls), .int .i64 ((objT ws cs a).hd.age), .int .i64 ((objT ws cs a).hd.fwd), .bool ((objT ws cs a).hd.mark), .bool ((objT ws cs a).hd.final), .bool ((objT ws cs a).hd.done), .int .i64 (gi ws (a + 1)), v5, v7]) rfl ⟨⟨_, rfl, run_loadVarB hp 3 rfl tA135 tS135 (vs := [.int .i64 ((objT ws cs a).hd.cls), .int .i64 ((objT ws cs a).hd.age), .int .i64 ((objT ws cs a).hd.fwd), .bool ((objT ws cs a).hd.mark), .bool ((objT ws cs a).hd.final), .bool ((objT ws cs a).hd.done), .int .i64 (gi ws (a + 1)), v5, v7]) rfl⟩, trivial⟩ rfl ?_
      exact ⟨v5, v7, rfl, (hp.sel [1, 0] (by decide))⟩
    refine WO.bsl hp rfl (e := 3) (cs := #[]) rfl (fun _ => by kernel_rfl) rfl ?_
    intro b8 w hp
    refine andS ⟨hp.at 2 rfl, hp.at 4 rfl, hp.old0 hQ, hp.old0 hW, hp.old0 hC, trivial⟩ fun hS0 => ?_
    refine WD.one 23 (by kernel_rfl) ?_
    have hp := hp.ofEmpty 1 rfl encI 1 encI_len (by omega)
    refine WO.append hp 1 rfl rfl tL34 (zeroT_ex tZ3) tS3 tY3 rfl rfl (view_sub (hp.old0 hW) (by omega) (by omega)) encI_one (by simp only [List.length_take, List.length_drop, List.length_nil]; omega) rfl ?_
    intro v9 w hp
    refine andS ⟨hp.at 2 rfl, hp.at 4 rfl, hp.old0 hQ, hp.old0 hW, hp.old0 hC, trivial⟩ fun hS0 => ?_
    refine WD.one 41 (by kernel_rfl) ?_
    have hp := hp.ofEmpty 0 rfl encI 1 encI_len (by omega)
    refine WO.append hp 0 rfl rfl tL34 (zeroT_ex tZ3) tS3 tY3 rfl rfl (view_sub (hp.old0 hW) (by omega) (by omega)) encI_one (by simp only [List.length_take, List.length_drop, List.length_nil]; omega) rfl ?_
    intro v10 w hp
    refine andS ⟨hp.at 2 rfl, hp.at 4 rfl, hp.old0 hQ, hp.old0 hW, hp.old0 hC, trivial⟩ fun hS0 => ?_
    refine WD.one 42 (by kernel_rfl) ?_
    refine WO.val rfl rfl rfl (X.bld (v := .agg #[.int .i64 ((objT ws cs a).hd.cls), .int .i64 ((objT ws cs a).hd.age), .int .i64 ((objT ws cs a).hd.fwd), .bool ((objT ws cs a).hd.mark), .bool ((objT ws cs a).hd.final), .bool ((objT ws cs a).hd.done), .int .i64 (gi ws (a + 1)), v9, v10]) rfl (by (obtain ⟨_, _, _, hv_⟩ := view_form (own_view (hp.at 1 rfl)); subst hv_); (obtain ⟨_, _, _, hv_⟩ := view_form (own_view (hp.at 0 rfl)); subst hv_); kernel_rfl)) hS0 ?_
    refine WD.one 43 (by kernel_rfl) ?_
    refine WO.store hp 3 rfl rfl tS135 rfl rfl (vs := [.int .i64 ((objT ws cs a).hd.cls), .int .i64 ((objT ws cs a).hd.age), .int .i64 ((objT ws cs a).hd.fwd), .bool ((objT ws cs a).hd.mark), .bool ((objT ws cs a).hd.final), .bool ((objT ws cs a).hd.done), .int .i64 (gi ws (a + 1)), v9, v10]) rfl (by first | (simp only [List.all_cons, List.all_nil, Bool.and_true, view_one (own_view (hp.at 1 rfl)), view_one (own_view (hp.at 0 rfl))]; done) | (simp only [List.all_cons, List.all_nil, Bool.and_true, one_int, one_bool, one_ptr, one_map, one_sl, view_one (own_view (hp.at 1 rfl)), view_one (own_view (hp.at 0 rfl))]; done) | simp [Value.oneCell', view_one (own_view (hp.at 1 rfl)), view_one (own_view (hp.at 0 rfl))]) rfl (new := #[.int .i64 ((objT ws cs a).hd.cls), .int .i64 ((objT ws cs a).hd.age), .int .i64 ((objT ws cs a).hd.fwd), .bool ((objT ws cs a).hd.mark), .bool ((objT ws cs a).hd.final), .bool ((objT ws cs a).hd.done), .int .i64 (gi ws (a + 1)), v9, v10]) rfl ?_
    intro w hp
    refine andS ⟨hp.at 2 rfl, hp.at 4 rfl, hp.old0 hQ, hp.old0 hW, hp.old0 hC, trivial⟩ fun hS0 => ?_
    refine WD.nil (by kernel_rfl) ?_
    refine X.thenN ?_
    refine W.ret ?_
    refine W.done hp (rs := [.cell 4 135]) (vs := [.agg #[.int .i64 ((objT ws cs a).hd.cls), .int .i64 ((objT ws cs a).hd.age), .int .i64 ((objT ws cs a).hd.fwd), .bool ((objT ws cs a).hd.mark), .bool ((objT ws cs a).hd.final), .bool ((objT ws cs a).hd.done), .int .i64 (gi ws (a + 1)), v9, v10]]) (v := .agg #[.int .i64 ((objT ws cs a).hd.cls), .int .i64 ((objT ws cs a).hd.age), .int .i64 ((objT ws cs a).hd.fwd), .bool ((objT ws cs a).hd.mark), .bool ((objT ws cs a).hd.final), .bool ((objT ws cs a).hd.done), .int .i64 (gi ws (a + 1)), v9, v10]) rfl ⟨⟨_, rfl, run_loadVarB hp 3 rfl tA135 tS135 (vs := [.int .i64 ((objT ws cs a).hd.cls), .int .i64 ((objT ws cs a).hd.age), .int .i64 ((objT ws cs a).hd.fwd), .bool ((objT ws cs a).hd.mark), .bool ((objT ws cs a).hd.final), .bool ((objT ws cs a).hd.done), .int .i64 (gi ws (a + 1)), v9, v10]) rfl⟩, trivial⟩ rfl ?_
    exact ⟨v9, v10, rfl, (hp.sel [1, 0] (by decide))⟩
  refine WO.bsl hp rfl (e := 3) (cs := #[]) rfl (fun _ => by kernel_rfl) rfl ?_
  intro b11 w hp
  refine andS ⟨hp.at 1 rfl, hp.at 3 rfl, hp.old0 hQ, hp.old0 hW, hp.old0 hC, trivial⟩ fun hS0 => ?_
  refine WD.one 10 (by kernel_rfl) ?_
  refine WO.bsl hp rfl (e := 3) (cs := #[]) rfl (fun _ => by kernel_rfl) rfl ?_
  intro b12 w hp
  refine andS ⟨hp.at 2 rfl, hp.at 4 rfl, hp.old0 hQ, hp.old0 hW, hp.old0 hC, trivial⟩ fun hS0 => ?_
  refine WD.one 23 (by kernel_rfl) ?_
  have hp := hp.ofEmpty 0 rfl encI 1 encI_len (by omega)
  refine WO.append hp 0 rfl rfl tL34 (zeroT_ex tZ3) tS3 tY3 rfl rfl (view_sub (hp.old0 hW) (by omega) (by omega)) encI_one (by simp only [List.length_take, List.length_drop, List.length_nil]; omega) rfl ?_
  intro v13 w hp
  refine andS ⟨hp.at 2 rfl, hp.at 4 rfl, hp.old0 hQ, hp.old0 hW, hp.old0 hC, trivial⟩ fun hS0 => ?_
  refine WD.one 41 (by kernel_rfl) ?_
  have hp := hp.ofEmpty 1 rfl encI 1 encI_len (by omega)
  refine WO.append hp 1 rfl rfl tL34 (zeroT_ex tZ3) tS3 tY3 rfl rfl (view_sub (hp.old0 hW) (by omega) (by omega)) encI_one (by simp only [List.length_take, List.length_drop, List.length_nil]; omega) rfl ?_
  intro v14 w hp
  refine andS ⟨hp.at 2 rfl, hp.at 4 rfl, hp.old0 hQ, hp.old0 hW, hp.old0 hC, trivial⟩ fun hS0 => ?_
  refine WD.one 42 (by kernel_rfl) ?_
  refine WO.val rfl rfl rfl (X.bld (v := .agg #[.int .i64 ((objT ws cs a).hd.cls), .int .i64 ((objT ws cs a).hd.age), .int .i64 ((objT ws cs a).hd.fwd), .bool ((objT ws cs a).hd.mark), .bool ((objT ws cs a).hd.final), .bool ((objT ws cs a).hd.done), .int .i64 (gi ws (a + 1)), v13, v14]) rfl (by (obtain ⟨_, _, _, hv_⟩ := view_form (own_view (hp.at 0 rfl)); subst hv_); (obtain ⟨_, _, _, hv_⟩ := view_form (own_view (hp.at 1 rfl)); subst hv_); kernel_rfl)) hS0 ?_
  refine WD.one 43 (by kernel_rfl) ?_
  refine WO.store hp 3 rfl rfl tS135 rfl rfl (vs := [.int .i64 ((objT ws cs a).hd.cls), .int .i64 ((objT ws cs a).hd.age), .int .i64 ((objT ws cs a).hd.fwd), .bool ((objT ws cs a).hd.mark), .bool ((objT ws cs a).hd.final), .bool ((objT ws cs a).hd.done), .int .i64 (gi ws (a + 1)), v13, v14]) rfl (by first | (simp only [List.all_cons, List.all_nil, Bool.and_true, view_one (own_view (hp.at 0 rfl)), view_one (own_view (hp.at 1 rfl))]; done) | (simp only [List.all_cons, List.all_nil, Bool.and_true, one_int, one_bool, one_ptr, one_map, one_sl, view_one (own_view (hp.at 0 rfl)), view_one (own_view (hp.at 1 rfl))]; done) | simp [Value.oneCell', view_one (own_view (hp.at 0 rfl)), view_one (own_view (hp.at 1 rfl))]) rfl (new := #[.int .i64 ((objT ws cs a).hd.cls), .int .i64 ((objT ws cs a).hd.age), .int .i64 ((objT ws cs a).hd.fwd), .bool ((objT ws cs a).hd.mark), .bool ((objT ws cs a).hd.final), .bool ((objT ws cs a).hd.done), .int .i64 (gi ws (a + 1)), v13, v14]) rfl ?_
  intro w hp
  refine andS ⟨hp.at 2 rfl, hp.at 4 rfl, hp.old0 hQ, hp.old0 hW, hp.old0 hC, trivial⟩ fun hS0 => ?_
  refine WD.nil (by kernel_rfl) ?_
  refine X.thenN ?_
  refine W.ret ?_
  refine W.done hp (rs := [.cell 4 135]) (vs := [.agg #[.int .i64 ((objT ws cs a).hd.cls), .int .i64 ((objT ws cs a).hd.age), .int .i64 ((objT ws cs a).hd.fwd), .bool ((objT ws cs a).hd.mark), .bool ((objT ws cs a).hd.final), .bool ((objT ws cs a).hd.done), .int .i64 (gi ws (a + 1)), v13, v14]]) (v := .agg #[.int .i64 ((objT ws cs a).hd.cls), .int .i64 ((objT ws cs a).hd.age), .int .i64 ((objT ws cs a).hd.fwd), .bool ((objT ws cs a).hd.mark), .bool ((objT ws cs a).hd.final), .bool ((objT ws cs a).hd.done), .int .i64 (gi ws (a + 1)), v13, v14]) rfl ⟨⟨_, rfl, run_loadVarB hp 3 rfl tA135 tS135 (vs := [.int .i64 ((objT ws cs a).hd.cls), .int .i64 ((objT ws cs a).hd.age), .int .i64 ((objT ws cs a).hd.fwd), .bool ((objT ws cs a).hd.mark), .bool ((objT ws cs a).hd.final), .bool ((objT ws cs a).hd.done), .int .i64 (gi ws (a + 1)), v13, v14]) rfl⟩, trivial⟩ rfl ?_
  exact ⟨v13, v14, rfl, (hp.sel [0, 1] (by decide))⟩

set_option maxHeartbeats 1000000 in
theorem reach_c {w0 : World} {q : Nat} {wv cv : Value} {ws : List Int} {cs : List Cls} (hQ : (blkR q (.cells (#[wv]) 59 (0, 0))).ok w0)  (hW : (viewR encI 1 wv ws).ok w0) {f : Value} {fr al : List Int} (hC : (viewR clsV 4 cv cs).ok w0) (hcs : ∀ x ∈ cs, clsR x = true) (hF : (viewR encI 1 f fr).ok w0) (hclo : Clo ws cs al) (hfr : ∀ x ∈ fr, x = 0 ∨ x ∈ al) (hal : al.length * 32 ≤ 140737488355328) (hfl : fr.length * 32 ≤ 140737488355328) :
    Calls Tryz.prog 23 #[.agg #[.pointer (some ⟨q, 0, none⟩), cv], f] w0 (Ret [] w0 (fun v w => ∃ q : List Int, RB ws cs al fr q q.length ∧ New w0 w (ownR 3 encI 1 v q))) := by
  have hp : Hp w0 [] [] w0 := Hp.init w0
  have hle := view_len_le hW
  have hle2 := view_len_le hF
  refine enter (vs := [.agg #[.pointer (some ⟨q, 0, none⟩), cv], f]) Tryz.func23 rfl rfl rfl ?_
  refine gen_world hp ?_
  intro w hp
  refine W.sr ?_
  refine WL.box hp rfl (cs := #[.pointer (some ⟨q, 0, none⟩), cv]) rfl rfl ?_
  intro b1 w hp
  refine WL.run 1 rfl ?_
  refine WL.a ?_
  refine WL.run 1 rfl ?_
  refine WL.s ?_
  refine W.seq ?_
  have hp := hp.addNil 3 encI 1 encI_len (by omega)
  refine W.reg ?_
  refine WL.run 1 rfl ?_
  refine WL.v (view_len tL34 (hp.old0 hF) rfl) ?_
  refine WL.run 1 rfl ?_
  refine WL.fin ?_
  refine W.block ?_
  refine W.loop (X := Nat × Value × List Int) (fun x_ => match x_ with | ⟨i, v, out⟩ => fr.length - i) (fun x_ => match x_ with | ⟨i, v, out⟩ => [(1, f), (2, .pointer (some ⟨b1, 0, none⟩)), (5, v), (10, f), (11, .int .i64 (fr.length : Int)), (12, .int .i64 (i : Int))]) (fun x_ w => match x_ with | ⟨i, v, out⟩ => Hp w0 [] [ownR 3 encI 1 v out, blkR b1 (.cells (#[.pointer (some ⟨q, 0, none⟩), cv]) 42 (0, 0))] w ∧ i ≤ fr.length ∧ RA al fr out i) (0, .slice none 0 0, []) ⟨rfl, rfl, rfl, rfl, rfl, rfl, trivial⟩ ?_ ?_
  · exact ⟨hp, by omega, RA.start⟩
  rintro ⟨i, v, out⟩ w ⟨hp, hi, hra⟩
  refine W.sr ?_
  refine WL.run 1 rfl ?_
  refine WL.s ?_
  by_cases hc2 : (i : Int) < (fr.length : Int)
  · refine W.cT rfl (decide_eq_true hc2) ?_
    refine W.k ?_
    refine W.seq ?_
    refine W.block ?_
    refine W.seq ?_
    have hlt : i < fr.length := by omega
    have hol := nodup_len hra.nd hra.sub
    refine W.reg ?_
    refine WL.run 2 rfl ?_
    refine WL.a ?_
    refine WL.run 2 rfl ?_
    refine WL.v (X.idxV (j := i) (r := offOf f + i * 1) tL34 tS3 (hp.old0 hF) rfl rfl (by omega) (by omega) rfl) ?_
    refine WL.v (X.ld1 tA3 rfl (view_cell (j := i) (f := 0) (hp.old0 hF) (get_some (by omega)) rfl (by omega))) ?_
    refine WL.run 2 rfl ?_
    by_cases hc3 : (fr.getD i default) ≠ 0
    · refine WL.g1 rfl rfl (decide_eq_true hc3) ?_
      refine WL.run 1 rfl ?_
      refine WL.g1 rfl rfl (decide_eq_true hc3) ?_
      refine WL.run 1 rfl ?_
      refine WL.g1 rfl rfl (decide_eq_true hc3) ?_
      refine WL.run 1 rfl ?_
      refine WL.g1 rfl rfl (decide_eq_true hc3) ?_
      refine WL.v (X.idxV (j := i) (r := offOf f + i * 1) tL34 tS3 (hp.old0 hF) rfl rfl (by omega) (by omega) rfl) ?_
      refine WL.g1 rfl rfl (decide_eq_true hc3) ?_
      refine WL.v (X.ld1 tA3 rfl (view_cell (j := i) (f := 0) (hp.old0 hF) (get_some (by omega)) rfl (by omega))) ?_
      refine WL.g1 rfl rfl (decide_eq_true hc3) ?_
      refine WL.call isFn64 rfl rfl (place_c (x := (fr.getD i default)) (own_view (hp.at 0 rfl))) ?_
      intro v w hc hr
      obtain rfl := hr
      have hp := hp.ext hc
      refine WL.g1 rfl rfl (decide_eq_true hc3) ?_
      refine WL.run 1 rfl ?_
      refine WL.v (X.pkT rfl (decide_eq_true hc3) rfl) ?_
      refine WL.fin ?_
      by_cases hc4 : (placeF out (fr.getD i default)) < 0
      · refine W.cT rfl (decide_eq_true hc4) ?_
        refine W.reg ?_
        refine WL.run 3 rfl ?_
        refine WL.v (X.idxV (j := i) (r := offOf f + i * 1) tL34 tS3 (hp.old0 hF) rfl rfl (by omega) (by omega) rfl) ?_
        refine WL.v (X.ld1 tA3 rfl (view_cell (j := i) (f := 0) (hp.old0 hF) (get_some (by omega)) rfl (by omega))) ?_
        refine WL.bsl hp (e := 3) (cs := #[.int .i64 (fr.getD i default)]) rfl (fun _ => by kernel_rfl) rfl ?_
        intro b5 w hp
        refine WL.append hp 1 rfl tL34 (zeroT_ex tZ3) tS3 tY3 rfl rfl (view_of_blk (l := [(fr.getD i default)]) hp 0 rfl encI_len (by omega) rfl (by simp) (by simp)) encI_one (by simp only [List.length_append, List.length_cons, List.length_nil]; omega) rfl ?_
        intro v6 w hp
        refine WL.run 1 rfl ?_
        refine WL.nil ?_
        refine X.inN ?_
        refine X.thenN ?_
        refine W.reg ?_
        refine WL.v (X.add rfl rfl (in64 (by omega))) ?_
        refine WL.run 1 rfl ?_
        refine WL.nil ?_
        refine X.again (i + 1, v6, out ++ [(fr.getD i default)]) ⟨rfl, rfl, rfl, rfl, rfl, rfl, trivial⟩ ?_ ?_
        · exact ⟨(hp.sel [1, 2] (by decide)), by omega, hra.add hfr hlt (by assumption) (fun h_ => absurd (placeF_neg.1 (by assumption)) (not_not_intro h_))⟩
        · dsimp only; omega
      refine W.cF rfl (decide_eq_false hc4) ?_
      refine W.skip ?_
      refine X.inN ?_
      refine X.thenN ?_
      refine W.reg ?_
      refine WL.v (X.add rfl rfl (in64 (by omega))) ?_
      refine WL.run 1 rfl ?_
      refine WL.nil ?_
      refine X.again (i + 1, v, out) ⟨rfl, rfl, rfl, rfl, rfl, rfl, trivial⟩ ?_ ?_
      · exact ⟨hp, by omega, hra.skip (by first | exact .inl (Classical.not_not.1 (by assumption)) | exact .inr (Classical.not_not.1 (fun h_ => absurd (placeF_neg.2 h_) (by assumption))))⟩
      · dsimp only; omega
    refine WL.g0 rfl rfl (decide_eq_false hc3) rfl ?_
    refine WL.g0 rfl rfl (decide_eq_false hc3) rfl ?_
    refine WL.g0 rfl rfl (decide_eq_false hc3) rfl ?_
    refine WL.g0 rfl rfl (decide_eq_false hc3) rfl ?_
    refine WL.g0 rfl rfl (decide_eq_false hc3) rfl ?_
    refine WL.g0 rfl rfl (decide_eq_false hc3) rfl ?_
    refine WL.g0 rfl rfl (decide_eq_false hc3) rfl ?_
    refine WL.v (X.pkF rfl (decide_eq_false hc3) rfl) ?_
    refine WL.fin ?_
    refine W.cF rfl rfl ?_
    refine W.skip ?_
    refine X.inN ?_
    refine X.thenN ?_
    refine W.reg ?_
    refine WL.v (X.add rfl rfl (in64 (by omega))) ?_
    refine WL.run 1 rfl ?_
    refine WL.nil ?_
    refine X.again (i + 1, v, out) ⟨rfl, rfl, rfl, rfl, rfl, rfl, trivial⟩ ?_ ?_
    · exact ⟨hp, by omega, hra.skip (by first | exact .inl (Classical.not_not.1 (by assumption)) | exact .inr (Classical.not_not.1 (fun h_ => absurd (placeF_neg.2 h_) (by assumption))))⟩
    · dsimp only; omega
  refine W.cF rfl (decide_eq_false hc2) ?_
  refine W.exit ?_
  refine X.thenE ?_
  refine X.thenE ?_
  refine X.inH ?_
  refine X.thenN ?_
  refine W.seq ?_
  refine W.sr ?_
  refine WL.run 1 rfl ?_
  refine WL.fin ?_
  refine W.block ?_
  refine W.loop (X := Nat × Value × List Int) (fun x_ => match x_ with | ⟨i, v, out⟩ => al.length - i) (fun x_ => match x_ with | ⟨i, v, out⟩ => [(2, .pointer (some ⟨b1, 0, none⟩)), (5, v), (7, .int .i64 (i : Int))]) (fun x_ w => match x_ with | ⟨i, v, out⟩ => Hp w0 [] [ownR 3 encI 1 v out, blkR b1 (.cells (#[.pointer (some ⟨q, 0, none⟩), cv]) 42 (0, 0))] w ∧ RB ws cs al fr out i) (0, v, out) ⟨rfl, rfl, rfl, trivial⟩ ?_ ?_
  · exact ⟨hp, hra.done (by omega)⟩
  rintro ⟨i, v, out⟩ w ⟨hp, hrb⟩
  refine W.seq ?_
  refine W.seq ?_
  have hol := nodup_len hrb.nd hrb.sub
  refine W.reg ?_
  refine WL.run 2 rfl ?_
  refine WL.v (view_len tL34 (own_view (hp.at 0 rfl)) rfl) ?_
  refine WL.run 1 rfl ?_
  refine WL.fin ?_
  by_cases hc7 : (i : Int) < (out.length : Int)
  · refine W.cT rfl (decide_eq_true hc7) ?_
    refine W.k ?_
    refine W.seq ?_
    refine W.block ?_
    refine W.seq ?_
    have hlt : i < out.length := by omega
    have hol := nodup_len hrb.nd hrb.sub
    have hob := (hclo _ (hrb.sub _ (mem_getD hlt))).1
    have hbd := objT_bd hcs hob
    refine W.draw prog_mixed (fun w => (ownR 3 encI 1 v out).ok w ∧ (blkR b1 (.cells (#[.pointer (some ⟨q, 0, none⟩), cv]) 42 (0, 0))).ok w ∧ (blkR q (.cells (#[wv]) 59 (0, 0))).ok w ∧ (viewR encI 1 wv ws).ok w ∧ (viewR clsV 4 cv cs).ok w ∧ (viewR encI 1 f fr).ok w ∧ True) hp ?_
    intro w hp
    refine WD.s ⟨hp.at 0 rfl, hp.at 1 rfl, hp.old0 hQ, hp.old0 hW, hp.old0 hC, hp.old0 hF, trivial⟩ fun hS0 => ?_
    refine WD.v 0 rfl hS0 (fun w hS => (X.ldkA hS.2.1 tA42 tS42 (vs := [.pointer (some ⟨q, 0, none⟩), cv]) rfl rfl)) ?_
    refine WD.v 1 rfl hS0 (fun w hS => (X.mv rfl)) ?_
    refine WD.v 2 rfl hS0 (fun w hS => (X.mv rfl)) ?_
    refine WD.v 3 rfl hS0 (fun w hS => (X.idxV (j := i) (r := offOf v + i * 1) tL34 tS3 (own_view hS.1) rfl rfl (by omega) (by omega) rfl)) ?_
    refine WD.v 4 rfl hS0 (fun w hS => (X.ld1 tA3 rfl (view_cell (j := i) (f := 0) (own_view hS.1) (get_some (by omega)) rfl (by omega)))) ?_
    refine WD.two 5 6 (by kernel_rfl) ?_ ?_
    · refine WO.call rfl isFn65 rfl rfl (at15_c (a := (out.getD i default)) (hp.old0 hQ) (hp.old0 hW) (hp.old0 hC) hcs hob) ?_
      intro v w hc hr
      obtain ⟨rv8, dv9, rfl, hN⟩ := hr
      have hp := hp.adds hN
      refine andS ⟨hp.at 2 rfl, hp.at 3 rfl, hp.old0 hQ, hp.old0 hW, hp.old0 hC, hp.old0 hF, trivial⟩ fun hS0 => ?_
      refine WD.one 6 (by kernel_rfl) ?_
      refine WO.alloc hp rfl tZ135 rfl ?_
      intro b10 w hp
      refine andS ⟨hp.at 3 rfl, hp.at 4 rfl, hp.old0 hQ, hp.old0 hW, hp.old0 hC, hp.old0 hF, trivial⟩ fun hS0 => ?_
      refine WD.one 7 (by kernel_rfl) ?_
      refine WO.store hp 0 rfl rfl tS135 rfl rfl (vs := [.int .i64 ((objT ws cs (out.getD i default)).hd.cls), .int .i64 ((objT ws cs (out.getD i default)).hd.age), .int .i64 ((objT ws cs (out.getD i default)).hd.fwd), .bool ((objT ws cs (out.getD i default)).hd.mark), .bool ((objT ws cs (out.getD i default)).hd.final), .bool ((objT ws cs (out.getD i default)).hd.done), .int .i64 (gi ws ((out.getD i default) + 1)), rv8, dv9]) rfl (by first | (simp only [List.all_cons, List.all_nil, Bool.and_true, view_one (own_view (hp.at 1 rfl)), view_one (own_view (hp.at 2 rfl))]; done) | (simp only [List.all_cons, List.all_nil, Bool.and_true, one_int, one_bool, one_ptr, one_map, one_sl, view_one (own_view (hp.at 1 rfl)), view_one (own_view (hp.at 2 rfl))]; done) | simp [Value.oneCell', view_one (own_view (hp.at 1 rfl)), view_one (own_view (hp.at 2 rfl))]) rfl (new := #[.int .i64 ((objT ws cs (out.getD i default)).hd.cls), .int .i64 ((objT ws cs (out.getD i default)).hd.age), .int .i64 ((objT ws cs (out.getD i default)).hd.fwd), .bool ((objT ws cs (out.getD i default)).hd.mark), .bool ((objT ws cs (out.getD i default)).hd.final), .bool ((objT ws cs (out.getD i default)).hd.done), .int .i64 (gi ws ((out.getD i default) + 1)), rv8, dv9]) rfl ?_
      intro w hp
      refine andS ⟨hp.at 3 rfl, hp.at 4 rfl, hp.old0 hQ, hp.old0 hW, hp.old0 hC, hp.old0 hF, trivial⟩ fun hS0 => ?_
      refine WD.nil (by kernel_rfl) ?_
      refine X.thenN ?_
      refine W.seq ?_
      have hrl : (((ws.drop ((out.getD i default) + 2).toNat).take (((out.getD i default) + 2 + (objT ws cs (out.getD i default)).refs).toNat - ((out.getD i default) + 2).toNat)).length : Int) = (objT ws cs (out.getD i default)).refs := by rw [List.length_take, List.length_drop]; omega
      refine W.reg ?_
      refine WL.run 1 rfl ?_
      refine WL.v (X.ldk (hp.at 0 rfl) tA34 rfl rfl) ?_
      refine WL.v (view_len tL34 (own_view (hp.at 1 rfl)) rfl) ?_
      refine WL.run 1 rfl ?_
      refine WL.fin ?_
      refine W.block ?_
      refine W.loop (X := Nat × Value × List Int) (fun x_ => match x_ with | ⟨j, v2, out2⟩ => (objT ws cs (out.getD i default)).refs.toNat - j) (fun x_ => match x_ with | ⟨j, v2, out2⟩ => [(2, .pointer (some ⟨b1, 0, none⟩)), (5, v2), (7, .int .i64 (i : Int)), (8, .pointer (some ⟨b10, 0, none⟩)), (50, rv8), (51, .int .i64 (((ws.drop ((out.getD i default) + 2).toNat).take (((out.getD i default) + 2 + (objT ws cs (out.getD i default)).refs).toNat - ((out.getD i default) + 2).toNat)).length : Int)), (52, .int .i64 (j : Int))]) (fun x_ w => match x_ with | ⟨j, v2, out2⟩ => Hp w0 [] [ownR 3 encI 1 v2 out2, ownR 3 encI 1 rv8 ((ws.drop ((out.getD i default) + 2).toNat).take (((out.getD i default) + 2 + (objT ws cs (out.getD i default)).refs).toNat - ((out.getD i default) + 2).toNat)), blkR b10 (.cells (#[.int .i64 ((objT ws cs (out.getD i default)).hd.cls), .int .i64 ((objT ws cs (out.getD i default)).hd.age), .int .i64 ((objT ws cs (out.getD i default)).hd.fwd), .bool ((objT ws cs (out.getD i default)).hd.mark), .bool ((objT ws cs (out.getD i default)).hd.final), .bool ((objT ws cs (out.getD i default)).hd.done), .int .i64 (gi ws ((out.getD i default) + 1)), rv8, dv9]) 135 (0, 0)), blkR b1 (.cells (#[.pointer (some ⟨q, 0, none⟩), cv]) 42 (0, 0))] w ∧ (j : Int) ≤ (objT ws cs (out.getD i default)).refs ∧ RC ws cs al fr out2 i (out.getD i default) j) (0, v, out) ⟨rfl, rfl, rfl, rfl, rfl, rfl, rfl, trivial⟩ ?_ ?_
      · exact ⟨(hp.sel [3, 1, 0, 4] (by decide)), by omega, hrb.enter hlt⟩
      rintro ⟨j, v2, out2⟩ w ⟨hp, hj, hrc⟩
      refine W.sr ?_
      refine WL.run 1 rfl ?_
      refine WL.s ?_
      by_cases hc11 : (j : Int) < (((ws.drop ((out.getD i default) + 2).toNat).take (((out.getD i default) + 2 + (objT ws cs (out.getD i default)).refs).toNat - ((out.getD i default) + 2).toNat)).length : Int)
      · refine W.cT rfl (decide_eq_true hc11) ?_
        refine W.k ?_
        refine W.seq ?_
        refine W.block ?_
        refine W.seq ?_
        have hjl : (j : Int) < (objT ws cs (out.getD i default)).refs := by omega
        have hsg : ((ws.drop ((out.getD i default) + 2).toNat).take (((out.getD i default) + 2 + (objT ws cs (out.getD i default)).refs).toNat - ((out.getD i default) + 2).toNat)).getD j default = gi ws ((out.getD i default) + 2 + j) := sub_get (by omega) (by omega) hjl (by omega)
        have hol := nodup_len hrc.rb.nd hrc.rb.sub
        refine W.reg ?_
        refine WL.run 2 rfl ?_
        refine WL.a ?_
        refine WL.run 1 rfl ?_
        refine WL.v (X.ldk (hp.at 2 rfl) tA34 rfl rfl) ?_
        refine WL.run 1 rfl ?_
        refine WL.v (X.idxV (j := j) (r := offOf rv8 + j * 1) tL34 tS3 (own_view (hp.at 1 rfl)) rfl rfl (by omega) (by omega) rfl) ?_
        refine WL.v (X.ld1 tA3 rfl (view_cell (j := j) (f := 0) (own_view (hp.at 1 rfl)) (get_some (by omega)) rfl (by omega))) ?_
        refine WL.run 2 rfl ?_
        by_cases hc12 : (((ws.drop ((out.getD i default) + 2).toNat).take (((out.getD i default) + 2 + (objT ws cs (out.getD i default)).refs).toNat - ((out.getD i default) + 2).toNat)).getD j default) ≠ 0
        · refine WL.g1 rfl rfl (decide_eq_true hc12) ?_
          refine WL.run 1 rfl ?_
          refine WL.g1 rfl rfl (decide_eq_true hc12) ?_
          refine WL.run 1 rfl ?_
          refine WL.g1 rfl rfl (decide_eq_true hc12) ?_
          refine WL.v (X.ldk (hp.at 2 rfl) tA34 rfl rfl) ?_
          refine WL.g1 rfl rfl (decide_eq_true hc12) ?_
          refine WL.run 1 rfl ?_
          refine WL.g1 rfl rfl (decide_eq_true hc12) ?_
          refine WL.v (X.idxV (j := j) (r := offOf rv8 + j * 1) tL34 tS3 (own_view (hp.at 1 rfl)) rfl rfl (by omega) (by omega) rfl) ?_
          refine WL.g1 rfl rfl (decide_eq_true hc12) ?_
          refine WL.v (X.ld1 tA3 rfl (view_cell (j := j) (f := 0) (own_view (hp.at 1 rfl)) (get_some (by omega)) rfl (by omega))) ?_
          refine WL.g1 rfl rfl (decide_eq_true hc12) ?_
          refine WL.call isFn64 rfl rfl (place_c (x := (((ws.drop ((out.getD i default) + 2).toNat).take (((out.getD i default) + 2 + (objT ws cs (out.getD i default)).refs).toNat - ((out.getD i default) + 2).toNat)).getD j default)) (own_view (hp.at 0 rfl))) ?_
          intro v w hc hr
          obtain rfl := hr
          have hp := hp.ext hc
          refine WL.g1 rfl rfl (decide_eq_true hc12) ?_
          refine WL.run 1 rfl ?_
          refine WL.v (X.pkT rfl (decide_eq_true hc12) rfl) ?_
          refine WL.fin ?_
          by_cases hc13 : (placeF out2 (((ws.drop ((out.getD i default) + 2).toNat).take (((out.getD i default) + 2 + (objT ws cs (out.getD i default)).refs).toNat - ((out.getD i default) + 2).toNat)).getD j default)) < 0
          · refine W.cT rfl (decide_eq_true hc13) ?_
            refine W.reg ?_
            refine WL.run 2 rfl ?_
            refine WL.v (X.ldk (hp.at 2 rfl) tA34 rfl rfl) ?_
            refine WL.run 1 rfl ?_
            refine WL.v (X.idxV (j := j) (r := offOf rv8 + j * 1) tL34 tS3 (own_view (hp.at 1 rfl)) rfl rfl (by omega) (by omega) rfl) ?_
            refine WL.v (X.ld1 tA3 rfl (view_cell (j := j) (f := 0) (own_view (hp.at 1 rfl)) (get_some (by omega)) rfl (by omega))) ?_
            refine WL.bsl hp (e := 3) (cs := #[.int .i64 (((ws.drop ((out.getD i default) + 2).toNat).take (((out.getD i default) + 2 + (objT ws cs (out.getD i default)).refs).toNat - ((out.getD i default) + 2).toNat)).getD j default)]) rfl (fun _ => by kernel_rfl) rfl ?_
            intro b14 w hp
            refine WL.append hp 1 rfl tL34 (zeroT_ex tZ3) tS3 tY3 rfl rfl (view_of_blk (l := [(((ws.drop ((out.getD i default) + 2).toNat).take (((out.getD i default) + 2 + (objT ws cs (out.getD i default)).refs).toNat - ((out.getD i default) + 2).toNat)).getD j default)]) hp 0 rfl encI_len (by omega) rfl (by simp) (by simp)) encI_one (by simp only [List.length_append, List.length_cons, List.length_nil]; omega) rfl ?_
            intro v15 w hp
            refine WL.run 1 rfl ?_
            refine WL.nil ?_
            refine X.inN ?_
            refine X.thenN ?_
            refine W.reg ?_
            refine WL.v (X.add rfl rfl (in64 (by omega))) ?_
            refine WL.run 1 rfl ?_
            refine WL.nil ?_
            refine X.again (j + 1, v15, out2 ++ [(((ws.drop ((out.getD i default) + 2).toNat).take (((out.getD i default) + 2 + (objT ws cs (out.getD i default)).refs).toNat - ((out.getD i default) + 2).toNat)).getD j default)]) ⟨rfl, rfl, rfl, rfl, rfl, rfl, rfl, trivial⟩ ?_ ?_
            · exact ⟨(hp.sel [1, 2, 3, 4] (by decide)), by omega, by rw [hsg]; exact hrc.add hclo (by omega) (by rw [← hsg]; assumption) (by rw [← hsg]; exact fun h_ => absurd (placeF_neg.1 (by assumption)) (not_not_intro h_))⟩
            · dsimp only; omega
          refine W.cF rfl (decide_eq_false hc13) ?_
          refine W.skip ?_
          refine X.inN ?_
          refine X.thenN ?_
          refine W.reg ?_
          refine WL.v (X.add rfl rfl (in64 (by omega))) ?_
          refine WL.run 1 rfl ?_
          refine WL.nil ?_
          refine X.again (j + 1, v2, out2) ⟨rfl, rfl, rfl, rfl, rfl, rfl, rfl, trivial⟩ ?_ ?_
          · exact ⟨hp, by omega, hrc.skip (by rw [← hsg]; first | exact .inl (Classical.not_not.1 (by assumption)) | exact .inr (Classical.not_not.1 (fun h_ => absurd (placeF_neg.2 h_) (by assumption))))⟩
          · dsimp only; omega
        refine WL.g0 rfl rfl (decide_eq_false hc12) rfl ?_
        refine WL.g0 rfl rfl (decide_eq_false hc12) rfl ?_
        refine WL.g0 rfl rfl (decide_eq_false hc12) rfl ?_
        refine WL.g0 rfl rfl (decide_eq_false hc12) rfl ?_
        refine WL.g0 rfl rfl (decide_eq_false hc12) rfl ?_
        refine WL.g0 rfl rfl (decide_eq_false hc12) rfl ?_
        refine WL.g0 rfl rfl (decide_eq_false hc12) rfl ?_
        refine WL.g0 rfl rfl (decide_eq_false hc12) rfl ?_
        refine WL.v (X.pkF rfl (decide_eq_false hc12) rfl) ?_
        refine WL.fin ?_
        refine W.cF rfl rfl ?_
        refine W.skip ?_
        refine X.inN ?_
        refine X.thenN ?_
        refine W.reg ?_
        refine WL.v (X.add rfl rfl (in64 (by omega))) ?_
        refine WL.run 1 rfl ?_
        refine WL.nil ?_
        refine X.again (j + 1, v2, out2) ⟨rfl, rfl, rfl, rfl, rfl, rfl, rfl, trivial⟩ ?_ ?_
        · exact ⟨hp, by omega, hrc.skip (by rw [← hsg]; first | exact .inl (Classical.not_not.1 (by assumption)) | exact .inr (Classical.not_not.1 (fun h_ => absurd (placeF_neg.2 h_) (by assumption))))⟩
        · dsimp only; omega
      refine W.cF rfl (decide_eq_false hc11) ?_
      refine W.exit ?_
      refine X.thenE ?_
      refine X.thenE ?_
      refine X.inH ?_
      refine X.inN ?_
      refine X.thenN ?_
      refine W.reg ?_
      refine WL.run 1 rfl ?_
      refine WL.v (X.add rfl rfl (in64 (by omega))) ?_
      refine WL.run 1 rfl ?_
      refine WL.nil ?_
      refine X.again (i + 1, v2, out2) ⟨rfl, rfl, rfl, trivial⟩ ?_ ?_
      · exact ⟨(hp.sel [0, 3] (by decide)), hrc.done (by omega)⟩
      · dsimp only; omega
    refine WO.alloc hp rfl tZ135 rfl ?_
    intro b16 w hp
    refine andS ⟨hp.at 1 rfl, hp.at 2 rfl, hp.old0 hQ, hp.old0 hW, hp.old0 hC, hp.old0 hF, trivial⟩ fun hS0 => ?_
    refine WD.one 5 (by kernel_rfl) ?_
    refine WO.call rfl isFn65 rfl rfl (at15_c (a := (out.getD i default)) (hp.old0 hQ) (hp.old0 hW) (hp.old0 hC) hcs hob) ?_
    intro v w hc hr
    obtain ⟨rv17, dv18, rfl, hN⟩ := hr
    have hp := hp.adds hN
    refine andS ⟨hp.at 3 rfl, hp.at 4 rfl, hp.old0 hQ, hp.old0 hW, hp.old0 hC, hp.old0 hF, trivial⟩ fun hS0 => ?_
    refine WD.one 7 (by kernel_rfl) ?_
    refine WO.store hp 2 rfl rfl tS135 rfl rfl (vs := [.int .i64 ((objT ws cs (out.getD i default)).hd.cls), .int .i64 ((objT ws cs (out.getD i default)).hd.age), .int .i64 ((objT ws cs (out.getD i default)).hd.fwd), .bool ((objT ws cs (out.getD i default)).hd.mark), .bool ((objT ws cs (out.getD i default)).hd.final), .bool ((objT ws cs (out.getD i default)).hd.done), .int .i64 (gi ws ((out.getD i default) + 1)), rv17, dv18]) rfl (by first | (simp only [List.all_cons, List.all_nil, Bool.and_true, view_one (own_view (hp.at 0 rfl)), view_one (own_view (hp.at 1 rfl))]; done) | (simp only [List.all_cons, List.all_nil, Bool.and_true, one_int, one_bool, one_ptr, one_map, one_sl, view_one (own_view (hp.at 0 rfl)), view_one (own_view (hp.at 1 rfl))]; done) | simp [Value.oneCell', view_one (own_view (hp.at 0 rfl)), view_one (own_view (hp.at 1 rfl))]) rfl (new := #[.int .i64 ((objT ws cs (out.getD i default)).hd.cls), .int .i64 ((objT ws cs (out.getD i default)).hd.age), .int .i64 ((objT ws cs (out.getD i default)).hd.fwd), .bool ((objT ws cs (out.getD i default)).hd.mark), .bool ((objT ws cs (out.getD i default)).hd.final), .bool ((objT ws cs (out.getD i default)).hd.done), .int .i64 (gi ws ((out.getD i default) + 1)), rv17, dv18]) rfl ?_
    intro w hp
    refine andS ⟨hp.at 3 rfl, hp.at 4 rfl, hp.old0 hQ, hp.old0 hW, hp.old0 hC, hp.old0 hF, trivial⟩ fun hS0 => ?_
    refine WD.nil (by kernel_rfl) ?_
    refine X.thenN ?_
    refine W.seq ?_
    have hrl : (((ws.drop ((out.getD i default) + 2).toNat).take (((out.getD i default) + 2 + (objT ws cs (out.getD i default)).refs).toNat - ((out.getD i default) + 2).toNat)).length : Int) = (objT ws cs (out.getD i default)).refs := by rw [List.length_take, List.length_drop]; omega
    refine W.reg ?_
    refine WL.run 1 rfl ?_
    refine WL.v (X.ldk (hp.at 2 rfl) tA34 rfl rfl) ?_
    refine WL.v (view_len tL34 (own_view (hp.at 0 rfl)) rfl) ?_
    refine WL.run 1 rfl ?_
    refine WL.fin ?_
    refine W.block ?_
    refine W.loop (X := Nat × Value × List Int) (fun x_ => match x_ with | ⟨j, v2, out2⟩ => (objT ws cs (out.getD i default)).refs.toNat - j) (fun x_ => match x_ with | ⟨j, v2, out2⟩ => [(2, .pointer (some ⟨b1, 0, none⟩)), (5, v2), (7, .int .i64 (i : Int)), (8, .pointer (some ⟨b16, 0, none⟩)), (50, rv17), (51, .int .i64 (((ws.drop ((out.getD i default) + 2).toNat).take (((out.getD i default) + 2 + (objT ws cs (out.getD i default)).refs).toNat - ((out.getD i default) + 2).toNat)).length : Int)), (52, .int .i64 (j : Int))]) (fun x_ w => match x_ with | ⟨j, v2, out2⟩ => Hp w0 [] [ownR 3 encI 1 v2 out2, ownR 3 encI 1 rv17 ((ws.drop ((out.getD i default) + 2).toNat).take (((out.getD i default) + 2 + (objT ws cs (out.getD i default)).refs).toNat - ((out.getD i default) + 2).toNat)), blkR b16 (.cells (#[.int .i64 ((objT ws cs (out.getD i default)).hd.cls), .int .i64 ((objT ws cs (out.getD i default)).hd.age), .int .i64 ((objT ws cs (out.getD i default)).hd.fwd), .bool ((objT ws cs (out.getD i default)).hd.mark), .bool ((objT ws cs (out.getD i default)).hd.final), .bool ((objT ws cs (out.getD i default)).hd.done), .int .i64 (gi ws ((out.getD i default) + 1)), rv17, dv18]) 135 (0, 0)), blkR b1 (.cells (#[.pointer (some ⟨q, 0, none⟩), cv]) 42 (0, 0))] w ∧ (j : Int) ≤ (objT ws cs (out.getD i default)).refs ∧ RC ws cs al fr out2 i (out.getD i default) j) (0, v, out) ⟨rfl, rfl, rfl, rfl, rfl, rfl, rfl, trivial⟩ ?_ ?_
    · exact ⟨(hp.sel [3, 0, 2, 4] (by decide)), by omega, hrb.enter hlt⟩
    rintro ⟨j, v2, out2⟩ w ⟨hp, hj, hrc⟩
    refine W.sr ?_
    refine WL.run 1 rfl ?_
    refine WL.s ?_
    by_cases hc19 : (j : Int) < (((ws.drop ((out.getD i default) + 2).toNat).take (((out.getD i default) + 2 + (objT ws cs (out.getD i default)).refs).toNat - ((out.getD i default) + 2).toNat)).length : Int)
    · refine W.cT rfl (decide_eq_true hc19) ?_
      refine W.k ?_
      refine W.seq ?_
      refine W.block ?_
      refine W.seq ?_
      have hjl : (j : Int) < (objT ws cs (out.getD i default)).refs := by omega
      have hsg : ((ws.drop ((out.getD i default) + 2).toNat).take (((out.getD i default) + 2 + (objT ws cs (out.getD i default)).refs).toNat - ((out.getD i default) + 2).toNat)).getD j default = gi ws ((out.getD i default) + 2 + j) := sub_get (by omega) (by omega) hjl (by omega)
      have hol := nodup_len hrc.rb.nd hrc.rb.sub
      refine W.reg ?_
      refine WL.run 2 rfl ?_
      refine WL.a ?_
      refine WL.run 1 rfl ?_
      refine WL.v (X.ldk (hp.at 2 rfl) tA34 rfl rfl) ?_
      refine WL.run 1 rfl ?_
      refine WL.v (X.idxV (j := j) (r := offOf rv17 + j * 1) tL34 tS3 (own_view (hp.at 1 rfl)) rfl rfl (by omega) (by omega) rfl) ?_
      refine WL.v (X.ld1 tA3 rfl (view_cell (j := j) (f := 0) (own_view (hp.at 1 rfl)) (get_some (by omega)) rfl (by omega))) ?_
      refine WL.run 2 rfl ?_
      by_cases hc20 : (((ws.drop ((out.getD i default) + 2).toNat).take (((out.getD i default) + 2 + (objT ws cs (out.getD i default)).refs).toNat - ((out.getD i default) + 2).toNat)).getD j default) ≠ 0
      · refine WL.g1 rfl rfl (decide_eq_true hc20) ?_
        refine WL.run 1 rfl ?_
        refine WL.g1 rfl rfl (decide_eq_true hc20) ?_
        refine WL.run 1 rfl ?_
        refine WL.g1 rfl rfl (decide_eq_true hc20) ?_
        refine WL.v (X.ldk (hp.at 2 rfl) tA34 rfl rfl) ?_
        refine WL.g1 rfl rfl (decide_eq_true hc20) ?_
        refine WL.run 1 rfl ?_
        refine WL.g1 rfl rfl (decide_eq_true hc20) ?_
        refine WL.v (X.idxV (j := j) (r := offOf rv17 + j * 1) tL34 tS3 (own_view (hp.at 1 rfl)) rfl rfl (by omega) (by omega) rfl) ?_
        refine WL.g1 rfl rfl (decide_eq_true hc20) ?_
        refine WL.v (X.ld1 tA3 rfl (view_cell (j := j) (f := 0) (own_view (hp.at 1 rfl)) (get_some (by omega)) rfl (by omega))) ?_
        refine WL.g1 rfl rfl (decide_eq_true hc20) ?_
        refine WL.call isFn64 rfl rfl (place_c (x := (((ws.drop ((out.getD i default) + 2).toNat).take (((out.getD i default) + 2 + (objT ws cs (out.getD i default)).refs).toNat - ((out.getD i default) + 2).toNat)).getD j default)) (own_view (hp.at 0 rfl))) ?_
        intro v w hc hr
        obtain rfl := hr
        have hp := hp.ext hc
        refine WL.g1 rfl rfl (decide_eq_true hc20) ?_
        refine WL.run 1 rfl ?_
        refine WL.v (X.pkT rfl (decide_eq_true hc20) rfl) ?_
        refine WL.fin ?_
        by_cases hc21 : (placeF out2 (((ws.drop ((out.getD i default) + 2).toNat).take (((out.getD i default) + 2 + (objT ws cs (out.getD i default)).refs).toNat - ((out.getD i default) + 2).toNat)).getD j default)) < 0
        · refine W.cT rfl (decide_eq_true hc21) ?_
          refine W.reg ?_
          refine WL.run 2 rfl ?_
          refine WL.v (X.ldk (hp.at 2 rfl) tA34 rfl rfl) ?_
          refine WL.run 1 rfl ?_
          refine WL.v (X.idxV (j := j) (r := offOf rv17 + j * 1) tL34 tS3 (own_view (hp.at 1 rfl)) rfl rfl (by omega) (by omega) rfl) ?_
          refine WL.v (X.ld1 tA3 rfl (view_cell (j := j) (f := 0) (own_view (hp.at 1 rfl)) (get_some (by omega)) rfl (by omega))) ?_
          refine WL.bsl hp (e := 3) (cs := #[.int .i64 (((ws.drop ((out.getD i default) + 2).toNat).take (((out.getD i default) + 2 + (objT ws cs (out.getD i default)).refs).toNat - ((out.getD i default) + 2).toNat)).getD j default)]) rfl (fun _ => by kernel_rfl) rfl ?_
          intro b22 w hp
          refine WL.append hp 1 rfl tL34 (zeroT_ex tZ3) tS3 tY3 rfl rfl (view_of_blk (l := [(((ws.drop ((out.getD i default) + 2).toNat).take (((out.getD i default) + 2 + (objT ws cs (out.getD i default)).refs).toNat - ((out.getD i default) + 2).toNat)).getD j default)]) hp 0 rfl encI_len (by omega) rfl (by simp) (by simp)) encI_one (by simp only [List.length_append, List.length_cons, List.length_nil]; omega) rfl ?_
          intro v23 w hp
          refine WL.run 1 rfl ?_
          refine WL.nil ?_
          refine X.inN ?_
          refine X.thenN ?_
          refine W.reg ?_
          refine WL.v (X.add rfl rfl (in64 (by omega))) ?_
          refine WL.run 1 rfl ?_
          refine WL.nil ?_
          refine X.again (j + 1, v23, out2 ++ [(((ws.drop ((out.getD i default) + 2).toNat).take (((out.getD i default) + 2 + (objT ws cs (out.getD i default)).refs).toNat - ((out.getD i default) + 2).toNat)).getD j default)]) ⟨rfl, rfl, rfl, rfl, rfl, rfl, rfl, trivial⟩ ?_ ?_
          · exact ⟨(hp.sel [1, 2, 3, 4] (by decide)), by omega, by rw [hsg]; exact hrc.add hclo (by omega) (by rw [← hsg]; assumption) (by rw [← hsg]; exact fun h_ => absurd (placeF_neg.1 (by assumption)) (not_not_intro h_))⟩
          · dsimp only; omega
        refine W.cF rfl (decide_eq_false hc21) ?_
        refine W.skip ?_
        refine X.inN ?_
        refine X.thenN ?_
        refine W.reg ?_
        refine WL.v (X.add rfl rfl (in64 (by omega))) ?_
        refine WL.run 1 rfl ?_
        refine WL.nil ?_
        refine X.again (j + 1, v2, out2) ⟨rfl, rfl, rfl, rfl, rfl, rfl, rfl, trivial⟩ ?_ ?_
        · exact ⟨hp, by omega, hrc.skip (by rw [← hsg]; first | exact .inl (Classical.not_not.1 (by assumption)) | exact .inr (Classical.not_not.1 (fun h_ => absurd (placeF_neg.2 h_) (by assumption))))⟩
        · dsimp only; omega
      refine WL.g0 rfl rfl (decide_eq_false hc20) rfl ?_
      refine WL.g0 rfl rfl (decide_eq_false hc20) rfl ?_
      refine WL.g0 rfl rfl (decide_eq_false hc20) rfl ?_
      refine WL.g0 rfl rfl (decide_eq_false hc20) rfl ?_
      refine WL.g0 rfl rfl (decide_eq_false hc20) rfl ?_
      refine WL.g0 rfl rfl (decide_eq_false hc20) rfl ?_
      refine WL.g0 rfl rfl (decide_eq_false hc20) rfl ?_
      refine WL.g0 rfl rfl (decide_eq_false hc20) rfl ?_
      refine WL.v (X.pkF rfl (decide_eq_false hc20) rfl) ?_
      refine WL.fin ?_
      refine W.cF rfl rfl ?_
      refine W.skip ?_
      refine X.inN ?_
      refine X.thenN ?_
      refine W.reg ?_
      refine WL.v (X.add rfl rfl (in64 (by omega))) ?_
      refine WL.run 1 rfl ?_
      refine WL.nil ?_
      refine X.again (j + 1, v2, out2) ⟨rfl, rfl, rfl, rfl, rfl, rfl, rfl, trivial⟩ ?_ ?_
      · exact ⟨hp, by omega, hrc.skip (by rw [← hsg]; first | exact .inl (Classical.not_not.1 (by assumption)) | exact .inr (Classical.not_not.1 (fun h_ => absurd (placeF_neg.2 h_) (by assumption))))⟩
      · dsimp only; omega
    refine W.cF rfl (decide_eq_false hc19) ?_
    refine W.exit ?_
    refine X.thenE ?_
    refine X.thenE ?_
    refine X.inH ?_
    refine X.inN ?_
    refine X.thenN ?_
    refine W.reg ?_
    refine WL.run 1 rfl ?_
    refine WL.v (X.add rfl rfl (in64 (by omega))) ?_
    refine WL.run 1 rfl ?_
    refine WL.nil ?_
    refine X.again (i + 1, v2, out2) ⟨rfl, rfl, rfl, trivial⟩ ?_ ?_
    · exact ⟨(hp.sel [0, 3] (by decide)), hrc.done (by omega)⟩
    · dsimp only; omega
  refine W.cF rfl (decide_eq_false hc7) ?_
  refine W.exit ?_
  refine X.thenE ?_
  refine X.thenE ?_
  refine X.inH ?_
  refine X.thenN ?_
  refine W.sr ?_
  refine WL.run 2 rfl ?_
  refine WL.fin ?_
  refine W.ret ?_
  refine W.done hp (rs := [.tmp 4]) (vs := [v]) (v := v) rfl ⟨rfl, trivial⟩ rfl ?_
  have hie : i = out.length := by have := hrb.le; omega
  subst hie
  exact ⟨out, hrb, hp.newAt 0 rfl⟩
end Go.Proofs.YtmmmbkmjkpfleaaGreat
