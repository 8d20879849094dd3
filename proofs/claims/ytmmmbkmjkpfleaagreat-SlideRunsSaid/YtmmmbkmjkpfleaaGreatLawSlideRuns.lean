/- The law SlideRuns: the statement as it is given. For whatever input it returns true, and what it was handed reads as before; conditions: none. -/
import Derived.Test.YtmmmbkmjkpfleaaGreatResH
import Derived.Test.YtmmmbkmjkpfleaaGreatWK6
import Derived.Test.YtmmmbkmjkpfleaaGreatRows
import Derived.WalkKit
import Derived.ProofKit
import Derived.OpenShut
import Derived.ShutString
import Derived.ChangeOld
import Derived.Below
import Derived.SizedLaws
namespace Go.Proofs.YtmmmbkmjkpfleaaGreat.slideRunsRow
open Go.ChangeShapes Go.WideShapes Go.ChangeAt Go.RowKit
open Go.Proofs.YtmmmbkmjkpfleaaGreat
set_option linter.unusedVariables false
theorem own : ownKnob Tryz.prog.godebug = none := by kernel_rfl
theorem laidOut : laidOutB Tryz.prog = true := by kernel_rfl
set_option maxRecDepth 100000 in
theorem lifted (os : Os) (started : os.Started) (H : Type) (enc : TypeId × Value → H) :
    ReturnsInHanded {} Tryz.checked os 3 .any (Rows.slideRunsSpec.pre6 enc Tryz.prog Tryz.f3 Rows.slideRunsRow.domain false) (Rows.slideRunsSpec.post enc Tryz.prog Tryz.f3 false true false false) := by
  refine returnsInHanded_of_change_sized (C := Tryz.checked) own started (by kernel_rfl) Tryz.func3
    (ChangeSpec.witness6 (enc := enc) (C := Tryz.checked) false ⟨#[], #[.agg #[.slice none 0 0, .slice none 0 0, .slice none 0 0, .slice none 0 0, .int .u8 0, .int .u8 0, .int .u8 0]], []⟩ 8 (by kernel_rfl) (by kernel_rfl) (by kernel_rfl) (by kernel_rfl)) ?_
  intro W base args ds gs before hval0 hW hcnd hsz0 _
  have hsz : (DataW.weightsEach Tryz.prog (Tryz.f3.params.toList ++ Rows.slideRunsSpec.plain.varTypes Tryz.prog) (ds ++ gs)).all (· ≤ reachBytes) = true := hsz0
  have hval : ∀ (j : Nat) t v, Tryz.f3.params[j]? = some t → args[j]? = some v → Value.okWide Tryz.prog W .any base t v := hval0
  have hW' := hW
  obtain ⟨p, q, hA0, hV, rfl, hfz, hnd⟩ := hW
  have hA : DataW.TrodAll enc Tryz.prog W 0 (fun _ => true) true Tryz.f3.params.toList args.toList ds p := hA0
  rw [Tryz.params3] at hA hval hsz
  obtain ⟨v0, vs0, d0, ds0, p0, q0, hargs, rfl, rfl, h0, r0⟩ := trodAll_cons hA
  obtain ⟨rfl, rfl, rfl⟩ := trodAll_nil r0
  obtain rfl : args = #[v0] := by cases args; simp_all
  obtain ⟨rfl, rfl⟩ := trodVars_none hV
  have k0 := h0
  have lt0 : ∀ x ∈ p0, x.block < W.heap.size := by obtain ⟨m, hm⟩ := k0; exact DataW.trod_lt m _ _ _ hm
  obtain ⟨fu0, hf0⟩ := h0
  obtain ⟨cs0, rfl, hl0, hcell0, n0, hfld0⟩ := open_struct (P := Tryz.prog) (t := 28) (ts := [22, 23, 24, 25, 5, 5, 5]) (fl := [(22, 0), (23, 1), (24, 2), (25, 3), (26, 4)]) (by kernel_rfl) (by kernel_rfl) (by kernel_rfl) (by kernel_rfl) (hval 0 28 v0 rfl rfl) hf0
  have hl0 : cs0.length = 7 := hl0
  obtain ⟨cv, r0_0, rfl, hr0_0⟩ := list_cons hl0
  obtain ⟨tv, r0_1, rfl, hr0_1⟩ := list_cons hr0_0
  obtain ⟨fv, r0_2, rfl, hr0_2⟩ := list_cons hr0_1
  obtain ⟨ov, r0_3, rfl, hr0_3⟩ := list_cons hr0_2
  obtain ⟨z0, r0_4, rfl, hr0_4⟩ := list_cons hr0_3
  obtain ⟨z1, r0_5, rfl, hr0_5⟩ := list_cons hr0_4
  obtain ⟨z2, r0_6, rfl, hr0_6⟩ := list_cons hr0_5
  obtain rfl := List.length_eq_zero_iff.1 hr0_6
  obtain ⟨y0, hy0, hw0⟩ := hfld0 22 0 (by simp)
  rw [show Tryz.prog.cellsOf 22 = 1 from by kernel_rfl] at hy0
  obtain ⟨l0, hv0, hq0, hB0⟩ := open_view (P := Tryz.prog) (t := 22) (e := 111) (encA := clsV) (ks := [.i .i64, .i .i64, .i .i64, .b]) (by kernel_rfl) (show Tryz.prog.cellsOf 111 = 4 from by kernel_rfl) (by decide) clsV_len (by kernel_rfl) cls_dec (hcell0 0 _ _ rfl rfl) hy0
  obtain ⟨y1, hy1, hw1⟩ := hfld0 23 1 (by simp)
  rw [show Tryz.prog.cellsOf 23 = 1 from by kernel_rfl] at hy1
  obtain ⟨l1, hv1, hq1, hB1⟩ := open_view (P := Tryz.prog) (t := 23) (e := 70) (encA := encTh) (ks := [.i .u8, .i .u8, .i .u8, .b]) (by kernel_rfl) (show Tryz.prog.cellsOf 70 = 4 from by kernel_rfl) (by decide) encTh_len (by kernel_rfl) th_dec (hcell0 1 _ _ rfl rfl) hy1
  obtain ⟨y2, hy2, hw2⟩ := hfld0 24 2 (by simp)
  rw [show Tryz.prog.cellsOf 24 = 1 from by kernel_rfl] at hy2
  obtain ⟨l2, hv2, hq2, hB2⟩ := open_view (P := Tryz.prog) (t := 24) (e := 26) (encA := encR3) (ks := [.i .u8, .i .u8, .i .u8]) (by kernel_rfl) (show Tryz.prog.cellsOf 26 = 3 from by kernel_rfl) (by decide) encR3_len (by kernel_rfl) r3_dec (hcell0 2 _ _ rfl rfl) hy2
  obtain ⟨y3, hy3, hw3⟩ := hfld0 25 3 (by simp)
  rw [show Tryz.prog.cellsOf 25 = 1 from by kernel_rfl] at hy3
  obtain ⟨l3, hv3, hq3, hB3⟩ := open_view (P := Tryz.prog) (t := 25) (e := 5) (encA := encU8) (ks := [.i .u8]) (by kernel_rfl) (show Tryz.prog.cellsOf 5 = 1 from by kernel_rfl) (by decide) encU8_len (by kernel_rfl) u8_dec (hcell0 3 _ _ rfl rfl) hy3
  obtain ⟨z0, rfl, hz0⟩ := cell_int (P := Tryz.prog) (t := 5) (k := .u8) (by kernel_rfl) (hcell0 4 _ _ rfl rfl)
  obtain ⟨z1, rfl, hz1⟩ := cell_int (P := Tryz.prog) (t := 5) (k := .u8) (by kernel_rfl) (hcell0 5 _ _ rfl rfl)
  obtain ⟨z2, rfl, hz2⟩ := cell_int (P := Tryz.prog) (t := 5) (k := .u8) (by kernel_rfl) (hcell0 6 _ _ rfl rfl)
  have hWb : (⟨l0, l1, l2, l3, z0, z1, z2⟩ : Wd).Bd := ⟨fun x hx => hq1 x hx, fun x hx => hq2 x hx, fun x hx => hq3 x hx, hz0, hz1, hz2⟩
  have hws : ∀ n ∈ DataW.weights Tryz.prog 28 d0, n ≤ reachBytes := fun n hn => by
    have := List.all_eq_true.1 hsz n (DataW.weights_mem_each (j := 0) rfl rfl n hn)
    simpa using this
  have hs0 := hB0 reachBytes (fun n hn => hws n (hw0 n hn))
  rw [show Tryz.prog.bytesOf 111 = 32 from by kernel_rfl] at hs0
  unfold reachBytes at hs0
  have hs1 := hB1 reachBytes (fun n hn => hws n (hw1 n hn))
  rw [show Tryz.prog.bytesOf 70 = 4 from by kernel_rfl] at hs1
  unfold reachBytes at hs1
  have hs2 := hB2 reachBytes (fun n hn => hws n (hw2 n hn))
  rw [show Tryz.prog.bytesOf 26 = 3 from by kernel_rfl] at hs2
  unfold reachBytes at hs2
  have hs3 := hB3 reachBytes (fun n hn => hws n (hw3 n hn))
  rw [show Tryz.prog.bytesOf 5 = 1 from by kernel_rfl] at hs3
  unfold reachBytes at hs3
  have hWs : (⟨l0, l1, l2, l3, z0, z1, z2⟩ : Wd).Sz := ⟨show l0.length ≤ _ by omega, show l1.length ≤ _ by omega, show l2.length ≤ _ by omega, show l3.length ≤ _ by omega⟩
  clear hA0 hval0
  refine (SlideRuns_c (Wo := ⟨l0, l1, l2, l3, z0, z1, z2⟩) hv0 hv1 hv2 hv3 hWb).mono fun e W' hret => ?_
  obtain ⟨v, he, hc, hv⟩ := hret
  subst he
  subst hv
  have bel := hc.below
  exact ⟨_, rfl, _, _, _, [], _, [], hW', trodAll_mk1 (shut_bool Tryz.underlying4 _), (trodAll_cons_mk (Below.trod laidOut (by kernel_rfl) (of_decide_eq_true (by kernel_rfl)) k0 bel lt0) trodAll_mk0), rfl, bel.frame _, fun h => by cases h⟩
theorem over : Rows.slideRunsRow.holds Tryz.pinned (OpenSpec.ofChange Rows.slideRunsSpec) :=
  OpenClaim.holds_of_wide 3 Tryz.f3 rfl rfl rfl rfl rfl rfl rfl ⟨rfl, rfl, rfl, rfl, rfl⟩ rfl rfl rfl rfl rfl (by kernel_rfl) Tryz.func3 (by kernel_rfl)
    (of_decide_eq_true (by kernel_rfl)) (by unfold Func.isWrapper; first | (rw [if_pos (by decide +kernel)]; kernel_rfl) | (rw [if_neg (by decide +kernel)]; exact ⟨rfl, rfl⟩))
    (fun os started H enc _ => lifted os started H enc)
end Go.Proofs.YtmmmbkmjkpfleaaGreat.slideRunsRow
namespace Go.Proofs.YtmmmbkmjkpfleaaGreat
/-- The statement. -/
theorem slideRuns_holds : Rows.SlideRunsSaid := slideRunsRow.over
#print axioms slideRuns_holds
end Go.Proofs.YtmmmbkmjkpfleaaGreat
