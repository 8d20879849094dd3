/- Walks, printed by gen.py from the specs J: what each function answers. No statement of the seat is proved here; conditions: each theorem's own. -/
import Derived.Test.YtmmmbkmjkpfleaaGreatResF
import Derived.Test.YtmmmbkmjkpfleaaGreatPureQ
import Derived.Test.YtmmmbkmjkpfleaaGreatWI
namespace Go.Proofs.YtmmmbkmjkpfleaaGreat
open Go Go.RowKit

set_option maxHeartbeats 4000000 in
theorem made16_c {w0 : World} {cv tv fv ov : Value} {z0 z1 z2 : Int} {cs : List Cls} {ths : List Th} {rfs : List R3} {ros : List Int} (hC : (viewR clsV 4 cv cs).ok w0) (hTh : (viewR encTh 4 tv ths).ok w0) (hRf : (viewR encR3 3 fv rfs).ok w0) (hRo : (viewR encU8 1 ov ros).ok w0) (hths : ∀ x ∈ ths, (0 ≤ x.c ∧ x.c ≤ 255) ∧ (0 ≤ x.d ∧ x.d ≤ 255) ∧ (0 ≤ x.u ∧ x.u ≤ 255)) (hrfs : ∀ x ∈ rfs, (0 ≤ x.a ∧ x.a ≤ 255) ∧ (0 ≤ x.b ∧ x.b ≤ 255) ∧ (0 ≤ x.c ∧ x.c ≤ 255)) (hros : ∀ x ∈ ros, 0 ≤ x ∧ x ≤ 255) (hz0 : 0 ≤ z0 ∧ z0 ≤ 255) (hz1 : 0 ≤ z1 ∧ z1 ≤ 255) (hz2 : 0 ≤ z2 ∧ z2 ≤ 255) :
    Calls Tryz.prog 4 #[.agg #[cv, tv, fv, ov, .int .u8 z0, .int .u8 z1, .int .u8 z2]] w0 (Ret [] w0 (fun v w => v = .tuple #[.agg #[.pointer none, .pointer none, .pointer none, .pointer none, .slice none 0 0, .slice none 0 0, .slice none 0 0, .slice none 0 0, .slice none 0 0], .bool false] ∨ ((⟨cs, ths, rfs, ros, z0, z1, z2⟩ : Wd).Ok ∧ ∃ p b t c0 sp at_ sy rt q, (⟨cs, ths, rfs, ros, z0, z1, z2⟩ : Wd).Stay q ∧ v = .tuple #[.agg #[.pointer (some ⟨p, 0, none⟩), .pointer (some ⟨t, 0, none⟩), .pointer (some ⟨p, 0, none⟩), .pointer (some ⟨t, 0, none⟩), sp, at_, sy, rt, cv], .bool true] ∧ Hp w0 [] [arenaR p b ((⟨cs, ths, rfs, ros, z0, z1, z2⟩ : Wd).ws), tableR t c0 cs, ownR 56 encS 3 sp ((⟨cs, ths, rfs, ros, z0, z1, z2⟩ : Wd).sp), ownR 3 encI 1 at_ ((⟨cs, ths, rfs, ros, z0, z1, z2⟩ : Wd).al), ownR 3 encI 1 sy q, ownR 3 encI 1 rt ((⟨cs, ths, rfs, ros, z0, z1, z2⟩ : Wd).roots)] w))) := by
  have hp : Hp w0 [] [] w0 := Hp.init w0
  have hle1 := view_len_le hC
  have hle2 := view_len_le hTh
  have hle3 := view_len_le hRf
  have hle4 := view_len_le hRo
  refine enter (vs := [.agg #[cv, tv, fv, ov, .int .u8 z0, .int .u8 z1, .int .u8 z2]]) Tryz.func4 rfl rfl rfl ?_
  refine gen_world hp ?_
  intro w hp
  refine W.sr ?_
  refine WL.box hp rfl (cs := #[cv, tv, fv, ov, .int .u8 z0, .int .u8 z1, .int .u8 z2]) rfl rfl ?_
  intro b1 w hp
  refine WL.alloc hp tZ36 rfl ?_
  intro b2 w hp
  refine WL.run 1 rfl ?_
  refine WL.s ?_
  refine W.sr ?_
  refine WL.run 1 rfl ?_
  refine WL.v (X.ldk (hp.at 1 rfl) tA23 rfl rfl) ?_
  refine WL.v (view_len tL23 (hp.old0 hTh) rfl) ?_
  refine WL.run 2 rfl ?_
  by_cases hc3 : 60 < (ths.length : Int)
  · refine WL.g0 rfl rfl (decide_eq_true hc3) rfl ?_
    refine WL.g0 rfl rfl (decide_eq_true hc3) rfl ?_
    refine WL.g0 rfl rfl (decide_eq_true hc3) rfl ?_
    refine WL.g0 rfl rfl (decide_eq_true hc3) rfl ?_
    refine WL.v (X.pkT rfl (decide_eq_true hc3) rfl) ?_
    refine WL.run 1 rfl ?_
    refine WL.g0 rfl rfl rfl rfl ?_
    refine WL.g0 rfl rfl rfl rfl ?_
    refine WL.g0 rfl rfl rfl rfl ?_
    refine WL.g0 rfl rfl rfl rfl ?_
    refine WL.v (X.pkT rfl rfl rfl) ?_
    refine WL.run 1 rfl ?_
    refine WL.g0 rfl rfl rfl rfl ?_
    refine WL.g0 rfl rfl rfl rfl ?_
    refine WL.g0 rfl rfl rfl rfl ?_
    refine WL.g0 rfl rfl rfl rfl ?_
    refine WL.v (X.pkT rfl rfl rfl) ?_
    refine WL.run 1 rfl ?_
    refine WL.g0 rfl rfl rfl rfl ?_
    refine WL.g0 rfl rfl rfl rfl ?_
    refine WL.g0 rfl rfl rfl rfl ?_
    refine WL.g0 rfl rfl rfl rfl ?_
    refine WL.v (X.pkT rfl rfl rfl) ?_
    refine WL.run 1 rfl ?_
    refine WL.g0 rfl rfl rfl rfl ?_
    refine WL.g0 rfl rfl rfl rfl ?_
    refine WL.g0 rfl rfl rfl rfl ?_
    refine WL.g0 rfl rfl rfl rfl ?_
    refine WL.v (X.pkT rfl rfl rfl) ?_
    refine WL.fin ?_
    refine W.cT rfl rfl ?_
    refine W.sr ?_
    refine WL.v (X.bld (v := .agg #[.pointer none, .pointer none, .pointer none, .pointer none, .slice none 0 0, .slice none 0 0, .slice none 0 0, .slice none 0 0, .slice none 0 0]) rfl (by kernel_rfl)) ?_
    refine WL.store hp 0 rfl tS36 rfl rfl (vs := [.pointer none, .pointer none, .pointer none, .pointer none, .slice none 0 0, .slice none 0 0, .slice none 0 0, .slice none 0 0, .slice none 0 0]) rfl rfl rfl (new := #[.pointer none, .pointer none, .pointer none, .pointer none, .slice none 0 0, .slice none 0 0, .slice none 0 0, .slice none 0 0, .slice none 0 0]) rfl ?_
    intro w hp
    refine WL.run 1 rfl ?_
    refine WL.fin ?_
    refine W.ret ?_
    refine X.thenR ?_
    refine W.done hp (rs := [.cell 2 36, .tmp 3]) (vs := [.agg #[.pointer none, .pointer none, .pointer none, .pointer none, .slice none 0 0, .slice none 0 0, .slice none 0 0, .slice none 0 0, .slice none 0 0], .bool false]) (v := .tuple #[.agg #[.pointer none, .pointer none, .pointer none, .pointer none, .slice none 0 0, .slice none 0 0, .slice none 0 0, .slice none 0 0, .slice none 0 0], .bool false]) rfl ⟨⟨_, rfl, run_loadVarB hp 0 rfl tA36 tS36 (vs := [.pointer none, .pointer none, .pointer none, .pointer none, .slice none 0 0, .slice none 0 0, .slice none 0 0, .slice none 0 0, .slice none 0 0]) rfl⟩, rfl, trivial⟩ rfl ?_
    exact .inl rfl
  refine WL.g1 rfl rfl (decide_eq_false hc3) ?_
  refine WL.run 1 rfl ?_
  refine WL.g1 rfl rfl (decide_eq_false hc3) ?_
  refine WL.v (X.ldk (hp.at 1 rfl) tA24 rfl rfl) ?_
  refine WL.g1 rfl rfl (decide_eq_false hc3) ?_
  refine WL.v (view_len tL24 (hp.old0 hRf) rfl) ?_
  refine WL.g1 rfl rfl (decide_eq_false hc3) ?_
  refine WL.run 1 rfl ?_
  refine WL.v (X.pkF rfl (decide_eq_false hc3) rfl) ?_
  refine WL.run 1 rfl ?_
  by_cases hc4 : 200 < (rfs.length : Int)
  · refine WL.g0 rfl rfl (decide_eq_true hc4) rfl ?_
    refine WL.g0 rfl rfl (decide_eq_true hc4) rfl ?_
    refine WL.g0 rfl rfl (decide_eq_true hc4) rfl ?_
    refine WL.g0 rfl rfl (decide_eq_true hc4) rfl ?_
    refine WL.v (X.pkT rfl (decide_eq_true hc4) rfl) ?_
    refine WL.run 1 rfl ?_
    refine WL.g0 rfl rfl rfl rfl ?_
    refine WL.g0 rfl rfl rfl rfl ?_
    refine WL.g0 rfl rfl rfl rfl ?_
    refine WL.g0 rfl rfl rfl rfl ?_
    refine WL.v (X.pkT rfl rfl rfl) ?_
    refine WL.run 1 rfl ?_
    refine WL.g0 rfl rfl rfl rfl ?_
    refine WL.g0 rfl rfl rfl rfl ?_
    refine WL.g0 rfl rfl rfl rfl ?_
    refine WL.g0 rfl rfl rfl rfl ?_
    refine WL.v (X.pkT rfl rfl rfl) ?_
    refine WL.run 1 rfl ?_
    refine WL.g0 rfl rfl rfl rfl ?_
    refine WL.g0 rfl rfl rfl rfl ?_
    refine WL.g0 rfl rfl rfl rfl ?_
    refine WL.g0 rfl rfl rfl rfl ?_
    refine WL.v (X.pkT rfl rfl rfl) ?_
    refine WL.fin ?_
    refine W.cT rfl rfl ?_
    refine W.sr ?_
    refine WL.v (X.bld (v := .agg #[.pointer none, .pointer none, .pointer none, .pointer none, .slice none 0 0, .slice none 0 0, .slice none 0 0, .slice none 0 0, .slice none 0 0]) rfl (by kernel_rfl)) ?_
    refine WL.store hp 0 rfl tS36 rfl rfl (vs := [.pointer none, .pointer none, .pointer none, .pointer none, .slice none 0 0, .slice none 0 0, .slice none 0 0, .slice none 0 0, .slice none 0 0]) rfl rfl rfl (new := #[.pointer none, .pointer none, .pointer none, .pointer none, .slice none 0 0, .slice none 0 0, .slice none 0 0, .slice none 0 0, .slice none 0 0]) rfl ?_
    intro w hp
    refine WL.run 1 rfl ?_
    refine WL.fin ?_
    refine W.ret ?_
    refine X.thenR ?_
    refine W.done hp (rs := [.cell 2 36, .tmp 3]) (vs := [.agg #[.pointer none, .pointer none, .pointer none, .pointer none, .slice none 0 0, .slice none 0 0, .slice none 0 0, .slice none 0 0, .slice none 0 0], .bool false]) (v := .tuple #[.agg #[.pointer none, .pointer none, .pointer none, .pointer none, .slice none 0 0, .slice none 0 0, .slice none 0 0, .slice none 0 0, .slice none 0 0], .bool false]) rfl ⟨⟨_, rfl, run_loadVarB hp 0 rfl tA36 tS36 (vs := [.pointer none, .pointer none, .pointer none, .pointer none, .slice none 0 0, .slice none 0 0, .slice none 0 0, .slice none 0 0, .slice none 0 0]) rfl⟩, rfl, trivial⟩ rfl ?_
    exact .inl rfl
  refine WL.g1 rfl rfl (decide_eq_false hc4) ?_
  refine WL.run 1 rfl ?_
  refine WL.g1 rfl rfl (decide_eq_false hc4) ?_
  refine WL.v (X.ldk (hp.at 1 rfl) tA25 rfl rfl) ?_
  refine WL.g1 rfl rfl (decide_eq_false hc4) ?_
  refine WL.v (view_len tL25 (hp.old0 hRo) rfl) ?_
  refine WL.g1 rfl rfl (decide_eq_false hc4) ?_
  refine WL.run 1 rfl ?_
  refine WL.v (X.pkF rfl (decide_eq_false hc4) rfl) ?_
  refine WL.run 1 rfl ?_
  by_cases hc5 : 20 < (ros.length : Int)
  · refine WL.g0 rfl rfl (decide_eq_true hc5) rfl ?_
    refine WL.g0 rfl rfl (decide_eq_true hc5) rfl ?_
    refine WL.g0 rfl rfl (decide_eq_true hc5) rfl ?_
    refine WL.g0 rfl rfl (decide_eq_true hc5) rfl ?_
    refine WL.v (X.pkT rfl (decide_eq_true hc5) rfl) ?_
    refine WL.run 1 rfl ?_
    refine WL.g0 rfl rfl rfl rfl ?_
    refine WL.g0 rfl rfl rfl rfl ?_
    refine WL.g0 rfl rfl rfl rfl ?_
    refine WL.g0 rfl rfl rfl rfl ?_
    refine WL.v (X.pkT rfl rfl rfl) ?_
    refine WL.run 1 rfl ?_
    refine WL.g0 rfl rfl rfl rfl ?_
    refine WL.g0 rfl rfl rfl rfl ?_
    refine WL.g0 rfl rfl rfl rfl ?_
    refine WL.g0 rfl rfl rfl rfl ?_
    refine WL.v (X.pkT rfl rfl rfl) ?_
    refine WL.fin ?_
    refine W.cT rfl rfl ?_
    refine W.sr ?_
    refine WL.v (X.bld (v := .agg #[.pointer none, .pointer none, .pointer none, .pointer none, .slice none 0 0, .slice none 0 0, .slice none 0 0, .slice none 0 0, .slice none 0 0]) rfl (by kernel_rfl)) ?_
    refine WL.store hp 0 rfl tS36 rfl rfl (vs := [.pointer none, .pointer none, .pointer none, .pointer none, .slice none 0 0, .slice none 0 0, .slice none 0 0, .slice none 0 0, .slice none 0 0]) rfl rfl rfl (new := #[.pointer none, .pointer none, .pointer none, .pointer none, .slice none 0 0, .slice none 0 0, .slice none 0 0, .slice none 0 0, .slice none 0 0]) rfl ?_
    intro w hp
    refine WL.run 1 rfl ?_
    refine WL.fin ?_
    refine W.ret ?_
    refine X.thenR ?_
    refine W.done hp (rs := [.cell 2 36, .tmp 3]) (vs := [.agg #[.pointer none, .pointer none, .pointer none, .pointer none, .slice none 0 0, .slice none 0 0, .slice none 0 0, .slice none 0 0, .slice none 0 0], .bool false]) (v := .tuple #[.agg #[.pointer none, .pointer none, .pointer none, .pointer none, .slice none 0 0, .slice none 0 0, .slice none 0 0, .slice none 0 0, .slice none 0 0], .bool false]) rfl ⟨⟨_, rfl, run_loadVarB hp 0 rfl tA36 tS36 (vs := [.pointer none, .pointer none, .pointer none, .pointer none, .slice none 0 0, .slice none 0 0, .slice none 0 0, .slice none 0 0, .slice none 0 0]) rfl⟩, rfl, trivial⟩ rfl ?_
    exact .inl rfl
  refine WL.g1 rfl rfl (decide_eq_false hc5) ?_
  refine WL.run 1 rfl ?_
  refine WL.g1 rfl rfl (decide_eq_false hc5) ?_
  refine WL.v (X.ldk (hp.at 1 rfl) tA22 rfl rfl) ?_
  refine WL.g1 rfl rfl (decide_eq_false hc5) ?_
  refine WL.v (view_len tL22 (hp.old0 hC) rfl) ?_
  refine WL.g1 rfl rfl (decide_eq_false hc5) ?_
  refine WL.run 1 rfl ?_
  refine WL.v (X.pkF rfl (decide_eq_false hc5) rfl) ?_
  refine WL.run 1 rfl ?_
  by_cases hc6 : (cs.length : Int) = 0
  · refine WL.g0 rfl rfl (decide_eq_true hc6) rfl ?_
    refine WL.g0 rfl rfl (decide_eq_true hc6) rfl ?_
    refine WL.g0 rfl rfl (decide_eq_true hc6) rfl ?_
    refine WL.g0 rfl rfl (decide_eq_true hc6) rfl ?_
    refine WL.v (X.pkT rfl (decide_eq_true hc6) rfl) ?_
    refine WL.run 1 rfl ?_
    refine WL.g0 rfl rfl rfl rfl ?_
    refine WL.g0 rfl rfl rfl rfl ?_
    refine WL.g0 rfl rfl rfl rfl ?_
    refine WL.g0 rfl rfl rfl rfl ?_
    refine WL.v (X.pkT rfl rfl rfl) ?_
    refine WL.fin ?_
    refine W.cT rfl rfl ?_
    refine W.sr ?_
    refine WL.v (X.bld (v := .agg #[.pointer none, .pointer none, .pointer none, .pointer none, .slice none 0 0, .slice none 0 0, .slice none 0 0, .slice none 0 0, .slice none 0 0]) rfl (by kernel_rfl)) ?_
    refine WL.store hp 0 rfl tS36 rfl rfl (vs := [.pointer none, .pointer none, .pointer none, .pointer none, .slice none 0 0, .slice none 0 0, .slice none 0 0, .slice none 0 0, .slice none 0 0]) rfl rfl rfl (new := #[.pointer none, .pointer none, .pointer none, .pointer none, .slice none 0 0, .slice none 0 0, .slice none 0 0, .slice none 0 0, .slice none 0 0]) rfl ?_
    intro w hp
    refine WL.run 1 rfl ?_
    refine WL.fin ?_
    refine W.ret ?_
    refine X.thenR ?_
    refine W.done hp (rs := [.cell 2 36, .tmp 3]) (vs := [.agg #[.pointer none, .pointer none, .pointer none, .pointer none, .slice none 0 0, .slice none 0 0, .slice none 0 0, .slice none 0 0, .slice none 0 0], .bool false]) (v := .tuple #[.agg #[.pointer none, .pointer none, .pointer none, .pointer none, .slice none 0 0, .slice none 0 0, .slice none 0 0, .slice none 0 0, .slice none 0 0], .bool false]) rfl ⟨⟨_, rfl, run_loadVarB hp 0 rfl tA36 tS36 (vs := [.pointer none, .pointer none, .pointer none, .pointer none, .slice none 0 0, .slice none 0 0, .slice none 0 0, .slice none 0 0, .slice none 0 0]) rfl⟩, rfl, trivial⟩ rfl ?_
    exact .inl rfl
  refine WL.g1 rfl rfl (decide_eq_false hc6) ?_
  refine WL.run 1 rfl ?_
  refine WL.g1 rfl rfl (decide_eq_false hc6) ?_
  refine WL.v (X.ldk (hp.at 1 rfl) tA22 rfl rfl) ?_
  refine WL.g1 rfl rfl (decide_eq_false hc6) ?_
  refine WL.v (view_len tL22 (hp.old0 hC) rfl) ?_
  refine WL.g1 rfl rfl (decide_eq_false hc6) ?_
  refine WL.run 1 rfl ?_
  refine WL.v (X.pkF rfl (decide_eq_false hc6) rfl) ?_
  refine WL.run 1 rfl ?_
  by_cases hc7 : 63 < (cs.length : Int)
  · refine WL.g0 rfl rfl (decide_eq_true hc7) rfl ?_
    refine WL.g0 rfl rfl (decide_eq_true hc7) rfl ?_
    refine WL.g0 rfl rfl (decide_eq_true hc7) rfl ?_
    refine WL.g0 rfl rfl (decide_eq_true hc7) rfl ?_
    refine WL.v (X.pkT rfl (decide_eq_true hc7) rfl) ?_
    refine WL.fin ?_
    refine W.cT rfl rfl ?_
    refine W.sr ?_
    refine WL.v (X.bld (v := .agg #[.pointer none, .pointer none, .pointer none, .pointer none, .slice none 0 0, .slice none 0 0, .slice none 0 0, .slice none 0 0, .slice none 0 0]) rfl (by kernel_rfl)) ?_
    refine WL.store hp 0 rfl tS36 rfl rfl (vs := [.pointer none, .pointer none, .pointer none, .pointer none, .slice none 0 0, .slice none 0 0, .slice none 0 0, .slice none 0 0, .slice none 0 0]) rfl rfl rfl (new := #[.pointer none, .pointer none, .pointer none, .pointer none, .slice none 0 0, .slice none 0 0, .slice none 0 0, .slice none 0 0, .slice none 0 0]) rfl ?_
    intro w hp
    refine WL.run 1 rfl ?_
    refine WL.fin ?_
    refine W.ret ?_
    refine X.thenR ?_
    refine W.done hp (rs := [.cell 2 36, .tmp 3]) (vs := [.agg #[.pointer none, .pointer none, .pointer none, .pointer none, .slice none 0 0, .slice none 0 0, .slice none 0 0, .slice none 0 0, .slice none 0 0], .bool false]) (v := .tuple #[.agg #[.pointer none, .pointer none, .pointer none, .pointer none, .slice none 0 0, .slice none 0 0, .slice none 0 0, .slice none 0 0, .slice none 0 0], .bool false]) rfl ⟨⟨_, rfl, run_loadVarB hp 0 rfl tA36 tS36 (vs := [.pointer none, .pointer none, .pointer none, .pointer none, .slice none 0 0, .slice none 0 0, .slice none 0 0, .slice none 0 0, .slice none 0 0]) rfl⟩, rfl, trivial⟩ rfl ?_
    exact .inl rfl
  refine WL.g1 rfl rfl (decide_eq_false hc7) ?_
  refine WL.run 1 rfl ?_
  refine WL.g1 rfl rfl (decide_eq_false hc7) ?_
  refine WL.v (X.ldk (hp.at 1 rfl) tA22 rfl rfl) ?_
  refine WL.g1 rfl rfl (decide_eq_false hc7) ?_
  refine WL.call isFn14 rfl rfl (new5_c (hp.old0 hC)) ?_
  intro v w hc hr
  rcases hr with ⟨hn8, hn9, rfl⟩ | ⟨hn8, e10, he11, rfl⟩
  · have hp := hp.ext hc
    refine WL.g1 rfl rfl (decide_eq_false hc7) ?_
    refine WL.run 1 rfl ?_
    refine WL.v (X.pkF rfl (decide_eq_false hc7) rfl) ?_
    refine WL.fin ?_
    refine W.cF rfl (decide_eq_false (by decide)) ?_
    refine W.k ?_
    refine W.seq ?_
    have hne : cs ≠ [] := by rintro rfl; simp at *
    have hallc : cs.all clsR = true := by assumption
    have h64 : cs.length < 64 := by assumption
    refine W.reg ?_
    refine WL.run 1 rfl ?_
    refine WL.v (X.ldk (hp.at 1 rfl) tA22 rfl rfl) ?_
    refine WL.call isFn15 rfl rfl (clsNew_c (hp.old0 hC) hne) ?_
    intro v w hc hr
    rcases hr with ⟨hn15, hn16, t13, c14, rfl, hN⟩ | ⟨hn15, rfl⟩ | ⟨hn15, rfl⟩
    · have hp := hp.newN hc hN
      refine WL.run 5 rfl ?_
      refine WL.s ?_
      have hspn : ∀ x ∈ [z0 % 151, z1 % 151, z2 % 151], 0 ≤ x := by intro x hx; simp only [List.mem_cons, List.not_mem_nil, or_false] at hx; omega
      have hsps : 1 + [z0 % 151, z1 % 151, z2 % 151].sum ≤ 4096 := by simp only [List.sum_cons, List.sum_nil]; omega
      refine W.reg ?_
      refine WL.run 1 rfl ?_
      refine WL.v (X.idxAO (j := 0) (r := 4) tR26 tS5 rfl rfl rfl (by decide) rfl) ?_
      refine WL.v (X.ldk (hp.at 2 rfl) tA5 rfl rfl) ?_
      refine WL.v (X.conv (b := z0) tI5 tI3 rfl (wrap_in64 (in64 (by omega)))) ?_
      refine WL.v (X.rem rfl rfl (by omega)) ?_
      refine WL.run 1 rfl ?_
      refine WL.v (X.idxAO (j := 1) (r := 5) tR26 tS5 rfl rfl rfl (by decide) rfl) ?_
      refine WL.v (X.ldk (hp.at 2 rfl) tA5 rfl rfl) ?_
      refine WL.v (X.conv (b := z1) tI5 tI3 rfl (wrap_in64 (in64 (by omega)))) ?_
      refine WL.v (X.rem rfl rfl (by omega)) ?_
      refine WL.run 1 rfl ?_
      refine WL.v (X.idxAO (j := 2) (r := 6) tR26 tS5 rfl rfl rfl (by decide) rfl) ?_
      refine WL.v (X.ldk (hp.at 2 rfl) tA5 rfl rfl) ?_
      refine WL.v (X.conv (b := z2) tI5 tI3 rfl (wrap_in64 (in64 (by omega)))) ?_
      refine WL.v (X.rem rfl rfl (by omega)) ?_
      refine WL.bsl hp (e := 3) (cs := #[.int .i64 (z0 % 151), .int .i64 (z1 % 151), .int .i64 (z2 % 151)]) rfl (fun _ => by kernel_rfl) rfl ?_
      intro b17 w hp
      refine WL.call isFn16 rfl rfl (split_c (e := 1) (view_of_blk (l := [z0 % 151, z1 % 151, z2 % 151]) hp 0 rfl encI_len (by omega) rfl (by simp) (by simp)) (by simp) (by decide) hspn hsps) ?_
      intro v w hc hr
      obtain ⟨o18, rfl, hN⟩ := hr
      have hp := hp.newN hc hN
      refine WL.run 5 rfl ?_
      refine WL.s ?_
      refine W.sr ?_
      refine WL.run 1 rfl ?_
      refine WL.v (view_len tL33 (own_view (hp.at 0 rfl)) rfl) ?_
      refine WL.run 1 rfl ?_
      refine WL.fin ?_
      have hc19 : ¬ (((splitF 1 ([z0 % 151, z1 % 151, z2 % 151])).length : Int) ≠ 3) := (by simp [splitF])
      refine W.cF rfl (decide_eq_false hc19) ?_
      refine W.k ?_
      refine W.seqCut (X := Nat × Nat × Nat) (fun x_ => match x_ with | ⟨xl, pa, ba⟩ => [(1, .pointer (some ⟨b1, 0, none⟩)), (2, .pointer (some ⟨b2, 0, none⟩)), (4, .pointer (some ⟨t13, 0, none⟩)), (8, .pointer (some ⟨xl, 0, none⟩))]) (fun x_ w => match x_ with | ⟨xl, pa, ba⟩ => Hp w0 [] [blkR xl (.cells (#[.pointer (some ⟨pa, 0, none⟩), .pointer (some ⟨t13, 0, none⟩), .pointer none, .pointer none, o18, .slice none 0 0, .slice none 0 0, .slice none 0 0, cv]) 36 (0, 0)), arenaR pa ba (List.replicate (max 0 (min (500 : Int) 4096)).toNat 0), ownR 56 encS 3 o18 (splitF 1 ([z0 % 151, z1 % 151, z2 % 151])), blkR b17 (.cells (#[.int .i64 (z0 % 151), .int .i64 (z1 % 151), .int .i64 (z2 % 151)]) 3 (0, 0)), tableR t13 c14 cs, blkR b2 (.cells (#[.pointer none, .pointer none, .pointer none, .pointer none, .slice none 0 0, .slice none 0 0, .slice none 0 0, .slice none 0 0, .slice none 0 0]) 36 (0, 0)), blkR b1 (.cells (#[cv, tv, fv, ov, .int .u8 z0, .int .u8 z1, .int .u8 z2]) 28 (0, 0))] w) ?_ ?_
      · refine W.draw prog_mixed (fun w => (ownR 56 encS 3 o18 (splitF 1 ([z0 % 151, z1 % 151, z2 % 151]))).ok w ∧ (blkR b17 (.cells (#[.int .i64 (z0 % 151), .int .i64 (z1 % 151), .int .i64 (z2 % 151)]) 3 (0, 0))).ok w ∧ (tableR t13 c14 cs).ok w ∧ (blkR b2 (.cells (#[.pointer none, .pointer none, .pointer none, .pointer none, .slice none 0 0, .slice none 0 0, .slice none 0 0, .slice none 0 0, .slice none 0 0]) 36 (0, 0))).ok w ∧ (blkR b1 (.cells (#[cv, tv, fv, ov, .int .u8 z0, .int .u8 z1, .int .u8 z2]) 28 (0, 0))).ok w ∧ (viewR clsV 4 cv cs).ok w ∧ (viewR encTh 4 tv ths).ok w ∧ (viewR encR3 3 fv rfs).ok w ∧ (viewR encU8 1 ov ros).ok w ∧ True) hp ?_
        intro w hp
        refine WD.s ⟨hp.at 0 rfl, hp.at 1 rfl, hp.at 2 rfl, hp.at 3 rfl, hp.at 4 rfl, hp.old0 hC, hp.old0 hTh, hp.old0 hRf, hp.old0 hRo, trivial⟩ fun hS0 => ?_
        refine WD.v 1 rfl hS0 (fun w hS => (X.mv rfl)) ?_
        refine WD.v 2 rfl hS0 (fun w hS => (X.mv rfl)) ?_
        refine WD.v 3 rfl hS0 (fun w hS => (X.fa (r := 0) tF28_0 rfl rfl)) ?_
        refine WD.v 4 rfl hS0 (fun w hS => (X.ldk hS.2.2.2.2.1 tA22 rfl rfl)) ?_
        refine WD.two 0 6 (by kernel_rfl) ?_ ?_
        · refine WO.call rfl isFn17 rfl rfl (memnew_c (n := 500)) ?_
          intro v w hc hr
          obtain ⟨p20, b21, rfl, hN⟩ := hr
          have hp := hp.newN hc hN
          refine andS ⟨hp.at 1 rfl, hp.at 2 rfl, hp.at 3 rfl, hp.at 4 rfl, hp.at 5 rfl, hp.old0 hC, hp.old0 hTh, hp.old0 hRf, hp.old0 hRo, trivial⟩ fun hS0 => ?_
          refine WD.v 5 rfl hS0 (fun w hS => (X.bld (v := .agg #[.pointer (some ⟨p20, 0, none⟩), .pointer (some ⟨t13, 0, none⟩), .pointer none, .pointer none, o18, .slice none 0 0, .slice none 0 0, .slice none 0 0, cv]) rfl (by (obtain ⟨_, _, _, hv_⟩ := view_form (own_view hS.1); subst hv_); (obtain ⟨_, _, _, hv_⟩ := view_form hS.2.2.2.2.2.1; subst hv_); kernel_rfl))) ?_
          refine WD.one 6 (by kernel_rfl) ?_
          refine WO.alloc hp rfl tZ36 rfl ?_
          intro b22 w hp
          refine andS ⟨hp.at 2 rfl, hp.at 3 rfl, hp.at 4 rfl, hp.at 5 rfl, hp.at 6 rfl, hp.old0 hC, hp.old0 hTh, hp.old0 hRf, hp.old0 hRo, trivial⟩ fun hS0 => ?_
          refine WD.one 7 (by kernel_rfl) ?_
          refine WO.store hp 0 rfl rfl tS36 rfl rfl (vs := [.pointer (some ⟨p20, 0, none⟩), .pointer (some ⟨t13, 0, none⟩), .pointer none, .pointer none, o18, .slice none 0 0, .slice none 0 0, .slice none 0 0, cv]) rfl (by first | (simp only [List.all_cons, List.all_nil, Bool.and_true, view_one (own_view (hp.at 2 rfl)), view_one (hp.old0 hC)]; done) | (simp only [List.all_cons, List.all_nil, Bool.and_true, one_int, one_bool, one_ptr, one_map, one_sl, view_one (own_view (hp.at 2 rfl)), view_one (hp.old0 hC)]; done) | simp [Value.oneCell', view_one (own_view (hp.at 2 rfl)), view_one (hp.old0 hC)]) rfl (new := #[.pointer (some ⟨p20, 0, none⟩), .pointer (some ⟨t13, 0, none⟩), .pointer none, .pointer none, o18, .slice none 0 0, .slice none 0 0, .slice none 0 0, cv]) rfl ?_
          intro w hp
          refine andS ⟨hp.at 2 rfl, hp.at 3 rfl, hp.at 4 rfl, hp.at 5 rfl, hp.at 6 rfl, hp.old0 hC, hp.old0 hTh, hp.old0 hRf, hp.old0 hRo, trivial⟩ fun hS0 => ?_
          refine WD.nil (by kernel_rfl) ?_
          exact X.here (b22, p20, b21) ⟨rfl, rfl, rfl, rfl, trivial⟩ (by
            exact hp)
        refine WO.alloc hp rfl tZ36 rfl ?_
        intro b23 w hp
        refine andS ⟨hp.at 1 rfl, hp.at 2 rfl, hp.at 3 rfl, hp.at 4 rfl, hp.at 5 rfl, hp.old0 hC, hp.old0 hTh, hp.old0 hRf, hp.old0 hRo, trivial⟩ fun hS0 => ?_
        refine WD.one 0 (by kernel_rfl) ?_
        refine WO.call rfl isFn17 rfl rfl (memnew_c (n := 500)) ?_
        intro v w hc hr
        obtain ⟨p24, b25, rfl, hN⟩ := hr
        have hp := hp.newN hc hN
        refine andS ⟨hp.at 2 rfl, hp.at 3 rfl, hp.at 4 rfl, hp.at 5 rfl, hp.at 6 rfl, hp.old0 hC, hp.old0 hTh, hp.old0 hRf, hp.old0 hRo, trivial⟩ fun hS0 => ?_
        refine WD.v 5 rfl hS0 (fun w hS => (X.bld (v := .agg #[.pointer (some ⟨p24, 0, none⟩), .pointer (some ⟨t13, 0, none⟩), .pointer none, .pointer none, o18, .slice none 0 0, .slice none 0 0, .slice none 0 0, cv]) rfl (by (obtain ⟨_, _, _, hv_⟩ := view_form (own_view hS.1); subst hv_); (obtain ⟨_, _, _, hv_⟩ := view_form hS.2.2.2.2.2.1; subst hv_); kernel_rfl))) ?_
        refine WD.one 7 (by kernel_rfl) ?_
        refine WO.store hp 1 rfl rfl tS36 rfl rfl (vs := [.pointer (some ⟨p24, 0, none⟩), .pointer (some ⟨t13, 0, none⟩), .pointer none, .pointer none, o18, .slice none 0 0, .slice none 0 0, .slice none 0 0, cv]) rfl (by first | (simp only [List.all_cons, List.all_nil, Bool.and_true, view_one (own_view (hp.at 2 rfl)), view_one (hp.old0 hC)]; done) | (simp only [List.all_cons, List.all_nil, Bool.and_true, one_int, one_bool, one_ptr, one_map, one_sl, view_one (own_view (hp.at 2 rfl)), view_one (hp.old0 hC)]; done) | simp [Value.oneCell', view_one (own_view (hp.at 2 rfl)), view_one (hp.old0 hC)]) rfl (new := #[.pointer (some ⟨p24, 0, none⟩), .pointer (some ⟨t13, 0, none⟩), .pointer none, .pointer none, o18, .slice none 0 0, .slice none 0 0, .slice none 0 0, cv]) rfl ?_
        intro w hp
        refine andS ⟨hp.at 2 rfl, hp.at 3 rfl, hp.at 4 rfl, hp.at 5 rfl, hp.at 6 rfl, hp.old0 hC, hp.old0 hTh, hp.old0 hRf, hp.old0 hRo, trivial⟩ fun hS0 => ?_
        refine WD.nil (by kernel_rfl) ?_
        exact X.here (b23, p24, b25) ⟨rfl, rfl, rfl, rfl, trivial⟩ (by
          exact (hp.sel [1, 0, 2, 3, 4, 5, 6] (by decide)))
      rintro ⟨xl, pa, ba⟩ w hp
      refine W.sr ?_
      refine WL.run 1 rfl ?_
      refine WL.v (X.ldk (hp.at 0 rfl) tA29 rfl rfl) ?_
      refine WL.run 1 rfl ?_
      refine WL.call isFn18 rfl rfl on_c ?_
      intro v w hc hr
      obtain rfl := hr
      have hp := hp.ext hc
      refine WL.run 1 rfl ?_
      refine WL.store hp 0 rfl tS32 rfl rfl (vs := [.pointer (some ⟨pa, 0, none⟩), .pointer (some ⟨t13, 0, none⟩)]) rfl rfl rfl (new := #[.pointer (some ⟨pa, 0, none⟩), .pointer (some ⟨t13, 0, none⟩), .pointer (some ⟨pa, 0, none⟩), .pointer (some ⟨t13, 0, none⟩), o18, .slice none 0 0, .slice none 0 0, .slice none 0 0, cv]) rfl ?_
      intro w hp
      refine WL.a ?_
      refine WL.run 1 rfl ?_
      refine WL.s ?_
      refine W.seq ?_
      have hp := hp.addNil 3 encI 1 encI_len (by omega)
      have hp := hp.addNil 3 encI 1 encI_len (by omega)
      have hp : Hp w0 [] [ownR 3 encI 1 (.slice none 0 0) ((laysF cs (made0 z0 z1 z2) (ths.take 0)).al), ownR 3 encI 1 (.slice none 0 0) ((laysF cs (made0 z0 z1 z2) (ths.take 0)).st), blkR xl (.cells (#[.pointer (some ⟨pa, 0, none⟩), .pointer (some ⟨t13, 0, none⟩), .pointer (some ⟨pa, 0, none⟩), .pointer (some ⟨t13, 0, none⟩), o18, .slice none 0 0, .slice none 0 0, .slice none 0 0, cv]) 36 (0, 0)), arenaR pa ba ((laysF cs (made0 z0 z1 z2) (ths.take 0)).ws), ownR 56 encS 3 o18 ((laysF cs (made0 z0 z1 z2) (ths.take 0)).sp), blkR b17 (.cells (#[.int .i64 (z0 % 151), .int .i64 (z1 % 151), .int .i64 (z2 % 151)]) 3 (0, 0)), tableR t13 c14 cs, blkR b2 (.cells (#[.pointer none, .pointer none, .pointer none, .pointer none, .slice none 0 0, .slice none 0 0, .slice none 0 0, .slice none 0 0, .slice none 0 0]) 36 (0, 0)), blkR b1 (.cells (#[cv, tv, fv, ov, .int .u8 z0, .int .u8 z1, .int .u8 z2]) 28 (0, 0))] w := hp
      refine W.reg ?_
      refine WL.run 1 rfl ?_
      refine WL.v (X.ldk (hp.at 8 rfl) tA23 rfl rfl) ?_
      refine WL.v (view_len tL23 (hp.old0 hTh) rfl) ?_
      refine WL.run 1 rfl ?_
      refine WL.fin ?_
      refine W.block ?_
      refine W.loop (X := Nat × Value × Value) (fun x_ => match x_ with | ⟨i, atv, sv⟩ => ths.length - i) (fun x_ => match x_ with | ⟨i, atv, sv⟩ => [(1, .pointer (some ⟨b1, 0, none⟩)), (2, .pointer (some ⟨b2, 0, none⟩)), (4, .pointer (some ⟨t13, 0, none⟩)), (8, .pointer (some ⟨xl, 0, none⟩)), (9, sv), (99, tv), (100, .int .i64 (ths.length : Int)), (101, .int .i64 (i : Int))]) (fun x_ w => match x_ with | ⟨i, atv, sv⟩ => Hp w0 [] [arenaR pa ba ((laysF cs (made0 z0 z1 z2) (ths.take i)).ws), blkR xl (.cells (#[.pointer (some ⟨pa, 0, none⟩), .pointer (some ⟨t13, 0, none⟩), .pointer (some ⟨pa, 0, none⟩), .pointer (some ⟨t13, 0, none⟩), o18, atv, .slice none 0 0, .slice none 0 0, cv]) 36 (0, 0)), ownR 56 encS 3 o18 ((laysF cs (made0 z0 z1 z2) (ths.take i)).sp), ownR 3 encI 1 atv ((laysF cs (made0 z0 z1 z2) (ths.take i)).al), ownR 3 encI 1 sv ((laysF cs (made0 z0 z1 z2) (ths.take i)).st), tableR t13 c14 cs, blkR b1 (.cells (#[cv, tv, fv, ov, .int .u8 z0, .int .u8 z1, .int .u8 z2]) 28 (0, 0)), blkR b2 (.cells (#[.pointer none, .pointer none, .pointer none, .pointer none, .slice none 0 0, .slice none 0 0, .slice none 0 0, .slice none 0 0, .slice none 0 0]) 36 (0, 0))] w ∧ i ≤ ths.length) (0, .slice none 0 0, .slice none 0 0) ⟨rfl, rfl, rfl, rfl, rfl, rfl, rfl, rfl, trivial⟩ ?_ ?_
      · exact ⟨(hp.sel [3, 2, 4, 0, 1, 6, 8, 7] (by decide)), by omega⟩
      rintro ⟨i, atv, sv⟩ w ⟨hp, hi⟩
      refine W.sr ?_
      refine WL.run 1 rfl ?_
      refine WL.s ?_
      by_cases hc26 : (i : Int) < (ths.length : Int)
      · refine W.cT rfl (decide_eq_true hc26) ?_
        refine W.k ?_
        refine W.seq ?_
        refine W.block ?_
        refine W.sr ?_
        refine WL.run 2 rfl ?_
        refine WL.s ?_
        have hlt : i < ths.length := by omega
        have hthb := hths _ (mem_getD hlt)
        have hlin := laysF_inv (List.all_eq_true.1 hallc) h64 (ths.take i) (made0 z0 z1 z2) made0_inv (fun x hx => by have := hths x (List.mem_of_mem_take hx); omega)
        have hly3 := hlin.1.sp3
        have hlyR := rise_all hlin.1.rise
        have hll := laysF_len (cs := cs) (ths.take i) (made0 z0 z1 z2)
        rw [List.length_take] at hll
        have hl0 : (made0 z0 z1 z2).al.length = 0 := rfl
        have hl00 : (made0 z0 z1 z2).st.length = 0 := rfl
        have hlyl : ((laysF cs (made0 z0 z1 z2) (ths.take i)).al.length + 1) * 32 ≤ 140737488355328 := by omega
        have hlyc : 0 ≤ (ths.getD i default).c ∧ (ths.getD i default).c ≤ 255 := by omega
        have hlyd : 0 ≤ (ths.getD i default).d ∧ (ths.getD i default).d ≤ 255 := by omega
        have hlyu : 0 ≤ (ths.getD i default).u ∧ (ths.getD i default).u ≤ 255 := by omega
        refine W.reg ?_
        refine WL.run 1 rfl ?_
        refine WL.v (X.ldk (hp.at 6 rfl) tA23 rfl rfl) ?_
        refine WL.run 1 rfl ?_
        refine WL.v (X.idxV (j := i) (r := offOf tv + i * 4) tL23 tS70 (hp.old0 hTh) rfl rfl (by omega) (by omega) rfl) ?_
        refine WL.v (X.ldA tA70 tS70 rfl (cs := [.int .u8 ((ths.getD i default).c), .int .u8 ((ths.getD i default).d), .int .u8 ((ths.getD i default).u), .bool ((ths.getD i default).s)]) (view_cells (hp.old0 hTh) (get_some (by omega)) (by omega))) ?_
        refine WL.call isFn19 rfl rfl (lay16_c (Hp.give (Rs := [arenaR pa ba ((laysF cs (made0 z0 z1 z2) (ths.take i)).ws), blkR xl (.cells (#[.pointer (some ⟨pa, 0, none⟩), .pointer (some ⟨t13, 0, none⟩), .pointer (some ⟨pa, 0, none⟩), .pointer (some ⟨t13, 0, none⟩), o18, atv, .slice none 0 0, .slice none 0 0, cv]) 36 (0, 0)), ownR 56 encS 3 o18 ((laysF cs (made0 z0 z1 z2) (ths.take i)).sp), ownR 3 encI 1 atv ((laysF cs (made0 z0 z1 z2) (ths.take i)).al)]) (Rs' := [ownR 3 encI 1 sv ((laysF cs (made0 z0 z1 z2) (ths.take i)).st), tableR t13 c14 cs, blkR b1 (.cells (#[cv, tv, fv, ov, .int .u8 z0, .int .u8 z1, .int .u8 z2]) 28 (0, 0)), blkR b2 (.cells (#[.pointer none, .pointer none, .pointer none, .pointer none, .slice none 0 0, .slice none 0 0, .slice none 0 0, .slice none 0 0, .slice none 0 0]) 36 (0, 0))]) hp) (hp.at 5 rfl) (Hp.frontDis (Rs := [arenaR pa ba ((laysF cs (made0 z0 z1 z2) (ths.take i)).ws), blkR xl (.cells (#[.pointer (some ⟨pa, 0, none⟩), .pointer (some ⟨t13, 0, none⟩), .pointer (some ⟨pa, 0, none⟩), .pointer (some ⟨t13, 0, none⟩), o18, atv, .slice none 0 0, .slice none 0 0, cv]) 36 (0, 0)), ownR 56 encS 3 o18 ((laysF cs (made0 z0 z1 z2) (ths.take i)).sp), ownR 3 encI 1 atv ((laysF cs (made0 z0 z1 z2) (ths.take i)).al)]) (Rs' := [ownR 3 encI 1 sv ((laysF cs (made0 z0 z1 z2) (ths.take i)).st), tableR t13 c14 cs, blkR b1 (.cells (#[cv, tv, fv, ov, .int .u8 z0, .int .u8 z1, .int .u8 z2]) 28 (0, 0)), blkR b2 (.cells (#[.pointer none, .pointer none, .pointer none, .pointer none, .slice none 0 0, .slice none 0 0, .slice none 0 0, .slice none 0 0, .slice none 0 0]) 36 (0, 0))]) hp 1 rfl) (foot_dis hp (i := 5) (j := 0) rfl rfl (by decide)) (hp.old0 hC) (Hp.oldFront (Rs := [arenaR pa ba ((laysF cs (made0 z0 z1 z2) (ths.take i)).ws), blkR xl (.cells (#[.pointer (some ⟨pa, 0, none⟩), .pointer (some ⟨t13, 0, none⟩), .pointer (some ⟨pa, 0, none⟩), .pointer (some ⟨t13, 0, none⟩), o18, atv, .slice none 0 0, .slice none 0 0, cv]) 36 (0, 0)), ownR 56 encS 3 o18 ((laysF cs (made0 z0 z1 z2) (ths.take i)).sp), ownR 3 encI 1 atv ((laysF cs (made0 z0 z1 z2) (ths.take i)).al)]) (Rs' := [ownR 3 encI 1 sv ((laysF cs (made0 z0 z1 z2) (ths.take i)).st), tableR t13 c14 cs, blkR b1 (.cells (#[cv, tv, fv, ov, .int .u8 z0, .int .u8 z1, .int .u8 z2]) 28 (0, 0)), blkR b2 (.cells (#[.pointer none, .pointer none, .pointer none, .pointer none, .slice none 0 0, .slice none 0 0, .slice none 0 0, .slice none 0 0, .slice none 0 0]) 36 (0, 0))]) hp hC) hly3 hlyR hlyl hlyc hlyd hlyu) ?_
        intro v w hc hr
        obtain ⟨rfl, atv27, hN⟩ := hr
        have hp := Hp.back (Rs := [arenaR pa ba ((laysF cs (made0 z0 z1 z2) (ths.take i)).ws), blkR xl (.cells (#[.pointer (some ⟨pa, 0, none⟩), .pointer (some ⟨t13, 0, none⟩), .pointer (some ⟨pa, 0, none⟩), .pointer (some ⟨t13, 0, none⟩), o18, atv, .slice none 0 0, .slice none 0 0, cv]) 36 (0, 0)), ownR 56 encS 3 o18 ((laysF cs (made0 z0 z1 z2) (ths.take i)).sp), ownR 3 encI 1 atv ((laysF cs (made0 z0 z1 z2) (ths.take i)).al)]) (Rs' := [ownR 3 encI 1 sv ((laysF cs (made0 z0 z1 z2) (ths.take i)).st), tableR t13 c14 cs, blkR b1 (.cells (#[cv, tv, fv, ov, .int .u8 z0, .int .u8 z1, .int .u8 z2]) 28 (0, 0)), blkR b2 (.cells (#[.pointer none, .pointer none, .pointer none, .pointer none, .slice none 0 0, .slice none 0 0, .slice none 0 0, .slice none 0 0, .slice none 0 0]) 36 (0, 0))]) hp hN
        refine WL.run 1 rfl ?_
        by_cases hc28 : (layS ((laysF cs (made0 z0 z1 z2) (ths.take i)).ws) cs ((laysF cs (made0 z0 z1 z2) (ths.take i)).sp) ((laysF cs (made0 z0 z1 z2) (ths.take i)).al) (ths.getD i default).c (ths.getD i default).d (ths.getD i default).u (ths.getD i default).s).2.2.2 = true
        · refine WL.g1 rfl rfl hc28 ?_
          refine WL.run 1 rfl ?_
          refine WL.g1 rfl rfl hc28 ?_
          refine WL.v (X.ldk (hp.at 6 rfl) tA23 rfl rfl) ?_
          refine WL.g1 rfl rfl hc28 ?_
          refine WL.run 1 rfl ?_
          refine WL.g1 rfl rfl hc28 ?_
          refine WL.v (X.idxV (j := i) (r := offOf tv + i * 4) tL23 tS70 (hp.old0 hTh) rfl rfl (by omega) (by omega) rfl) ?_
          refine WL.g1 rfl rfl hc28 ?_
          refine WL.run 1 rfl ?_
          refine WL.g1 rfl rfl hc28 ?_
          refine WL.v (X.ld1 tA4 rfl (view_cell (j := i) (f := 3) (hp.old0 hTh) (get_some (by omega)) rfl (by omega))) ?_
          refine WL.v (X.pkT rfl hc28 rfl) ?_
          refine WL.fin ?_
          by_cases hc29 : (ths.getD i default).s = true
          · refine W.cT rfl hc29 ?_
            have hmo := layS_mono (ws := (laysF cs (made0 z0 z1 z2) (ths.take i)).ws) (cs := cs) (sp := (laysF cs (made0 z0 z1 z2) (ths.take i)).sp) (al := (laysF cs (made0 z0 z1 z2) (ths.take i)).al) (c := (ths.getD i default).c) (d := (ths.getD i default).d) (u := (ths.getD i default).u) (s := (ths.getD i default).s)
            have hmo2 := hmo.2.1 (by assumption)
            have hmo3 := hmo.2.2
            refine W.reg ?_
            refine WL.run 2 rfl ?_
            refine WL.v (X.ldk (hp.at 1 rfl) tA34 rfl rfl) ?_
            refine WL.run 1 rfl ?_
            refine WL.v (X.ldk (hp.at 1 rfl) tA34 rfl rfl) ?_
            refine WL.v (view_len tL34 (own_view (hp.at 3 rfl)) rfl) ?_
            refine WL.v (X.sub rfl rfl (in64 (by omega))) ?_
            refine WL.v (X.idxV (j := ((((layS ((laysF cs (made0 z0 z1 z2) (ths.take i)).ws) cs ((laysF cs (made0 z0 z1 z2) (ths.take i)).sp) ((laysF cs (made0 z0 z1 z2) (ths.take i)).al) (ths.getD i default).c (ths.getD i default).d (ths.getD i default).u (ths.getD i default).s).2.2.1).length : Int) - 1).toNat) (r := offOf atv27 + (((((layS ((laysF cs (made0 z0 z1 z2) (ths.take i)).ws) cs ((laysF cs (made0 z0 z1 z2) (ths.take i)).sp) ((laysF cs (made0 z0 z1 z2) (ths.take i)).al) (ths.getD i default).c (ths.getD i default).d (ths.getD i default).u (ths.getD i default).s).2.2.1).length : Int) - 1).toNat) * 1) tL34 tS3 (own_view (hp.at 3 rfl)) rfl rfl (by omega) (by omega) rfl) ?_
            refine WL.v (X.ld1 tA3 rfl (view_cell (j := ((((layS ((laysF cs (made0 z0 z1 z2) (ths.take i)).ws) cs ((laysF cs (made0 z0 z1 z2) (ths.take i)).sp) ((laysF cs (made0 z0 z1 z2) (ths.take i)).al) (ths.getD i default).c (ths.getD i default).d (ths.getD i default).u (ths.getD i default).s).2.2.1).length : Int) - 1).toNat) (f := 0) (own_view (hp.at 3 rfl)) (get_some (by omega)) rfl (by omega))) ?_
            refine WL.bsl hp (e := 3) (cs := #[.int .i64 (((layS ((laysF cs (made0 z0 z1 z2) (ths.take i)).ws) cs ((laysF cs (made0 z0 z1 z2) (ths.take i)).sp) ((laysF cs (made0 z0 z1 z2) (ths.take i)).al) (ths.getD i default).c (ths.getD i default).d (ths.getD i default).u (ths.getD i default).s).2.2.1).getD (((((layS ((laysF cs (made0 z0 z1 z2) (ths.take i)).ws) cs ((laysF cs (made0 z0 z1 z2) (ths.take i)).sp) ((laysF cs (made0 z0 z1 z2) (ths.take i)).al) (ths.getD i default).c (ths.getD i default).d (ths.getD i default).u (ths.getD i default).s).2.2.1).length : Int) - 1).toNat) default)]) rfl (fun _ => by kernel_rfl) rfl ?_
            intro b30 w hp
            refine WL.append hp 5 rfl tL34 (zeroT_ex tZ3) tS3 tY3 rfl rfl (view_of_blk (l := [(((layS ((laysF cs (made0 z0 z1 z2) (ths.take i)).ws) cs ((laysF cs (made0 z0 z1 z2) (ths.take i)).sp) ((laysF cs (made0 z0 z1 z2) (ths.take i)).al) (ths.getD i default).c (ths.getD i default).d (ths.getD i default).u (ths.getD i default).s).2.2.1).getD (((((layS ((laysF cs (made0 z0 z1 z2) (ths.take i)).ws) cs ((laysF cs (made0 z0 z1 z2) (ths.take i)).sp) ((laysF cs (made0 z0 z1 z2) (ths.take i)).al) (ths.getD i default).c (ths.getD i default).d (ths.getD i default).u (ths.getD i default).s).2.2.1).length : Int) - 1).toNat) default)]) hp 0 rfl encI_len (by omega) rfl (by simp) (by simp)) encI_one (by simp only [List.length_append, List.length_cons, List.length_nil]; omega) rfl ?_
            intro v31 w hp
            refine WL.run 1 rfl ?_
            refine WL.nil ?_
            refine X.inN ?_
            refine X.thenN ?_
            refine W.reg ?_
            refine WL.v (X.add rfl rfl (in64 (by omega))) ?_
            refine WL.run 1 rfl ?_
            refine WL.nil ?_
            refine X.again (i + 1, atv27, v31) ⟨rfl, rfl, rfl, rfl, rfl, rfl, rfl, rfl, trivial⟩ ?_ ?_
            · exact ⟨by rw [laysF_step hlt, show (layOne cs (laysF cs (made0 z0 z1 z2) (ths.take i)) (ths.getD i default)).st = _ from layOne_yes (by assumption) (by assumption)]; exact (hp.sel [1, 2, 3, 4, 5, 6, 7, 8] (by decide)), by omega⟩
            · dsimp only; omega
          refine W.cF rfl (Bool.eq_false_iff.2 hc29) ?_
          refine W.skip ?_
          refine X.inN ?_
          refine X.thenN ?_
          refine W.reg ?_
          refine WL.v (X.add rfl rfl (in64 (by omega))) ?_
          refine WL.run 1 rfl ?_
          refine WL.nil ?_
          refine X.again (i + 1, atv27, sv) ⟨rfl, rfl, rfl, rfl, rfl, rfl, rfl, rfl, trivial⟩ ?_ ?_
          · exact ⟨by rw [laysF_step hlt, show (layOne cs (laysF cs (made0 z0 z1 z2) (ths.take i)) (ths.getD i default)).st = _ from layOne_no (fun q => by first | exact absurd q.1 (by assumption) | exact absurd q.2 (by assumption))]; exact hp, by omega⟩
          · dsimp only; omega
        refine WL.g0 rfl rfl (Bool.eq_false_iff.2 hc28) rfl ?_
        refine WL.g0 rfl rfl (Bool.eq_false_iff.2 hc28) rfl ?_
        refine WL.g0 rfl rfl (Bool.eq_false_iff.2 hc28) rfl ?_
        refine WL.g0 rfl rfl (Bool.eq_false_iff.2 hc28) rfl ?_
        refine WL.g0 rfl rfl (Bool.eq_false_iff.2 hc28) rfl ?_
        refine WL.g0 rfl rfl (Bool.eq_false_iff.2 hc28) rfl ?_
        refine WL.v (X.pkF rfl (Bool.eq_false_iff.2 hc28) rfl) ?_
        refine WL.fin ?_
        refine W.cF rfl rfl ?_
        refine W.skip ?_
        refine X.inN ?_
        refine X.thenN ?_
        refine W.reg ?_
        refine WL.v (X.add rfl rfl (in64 (by omega))) ?_
        refine WL.run 1 rfl ?_
        refine WL.nil ?_
        refine X.again (i + 1, atv27, sv) ⟨rfl, rfl, rfl, rfl, rfl, rfl, rfl, rfl, trivial⟩ ?_ ?_
        · exact ⟨by rw [laysF_step hlt, show (layOne cs (laysF cs (made0 z0 z1 z2) (ths.take i)) (ths.getD i default)).st = _ from layOne_no (fun q => by first | exact absurd q.1 (by assumption) | exact absurd q.2 (by assumption))]; exact hp, by omega⟩
        · dsimp only; omega
      refine W.cF rfl (decide_eq_false hc26) ?_
      refine W.exit ?_
      refine X.thenE ?_
      refine X.thenE ?_
      refine X.inH ?_
      refine X.thenN ?_
      refine W.seq ?_
      have hti : ths.take i = ths := List.take_of_length_le (by omega)
      rw [hti] at hp
      have hlin := laysF_inv (List.all_eq_true.1 hallc) h64 ths (made0 z0 z1 z2) made0_inv (fun x hx => by have := hths x hx; omega)
      have hll := laysF_len (cs := cs) ths (made0 z0 z1 z2)
      have hl0 : (made0 z0 z1 z2).al.length = 0 := rfl
      have hl00 : (made0 z0 z1 z2).st.length = 0 := rfl
      refine W.reg ?_
      refine WL.run 1 rfl ?_
      refine WL.v (X.ldk (hp.at 1 rfl) tA34 rfl rfl) ?_
      refine WL.v (view_len tL34 (own_view (hp.at 3 rfl)) rfl) ?_
      refine WL.run 1 rfl ?_
      refine WL.fin ?_
      refine W.seqCut (X := Unit) (fun _ => [(1, .pointer (some ⟨b1, 0, none⟩)), (2, .pointer (some ⟨b2, 0, none⟩)), (4, .pointer (some ⟨t13, 0, none⟩)), (8, .pointer (some ⟨xl, 0, none⟩)), (9, sv), (11, .int .i64 (((laysF cs (made0 z0 z1 z2) ths).al).length : Int))]) (fun _ w => Hp w0 [] [arenaR pa ba (refsF cs (laysF cs (made0 z0 z1 z2) ths).al (laysF cs (made0 z0 z1 z2) ths).ws rfs), blkR xl (.cells (#[.pointer (some ⟨pa, 0, none⟩), .pointer (some ⟨t13, 0, none⟩), .pointer (some ⟨pa, 0, none⟩), .pointer (some ⟨t13, 0, none⟩), o18, atv, .slice none 0 0, .slice none 0 0, cv]) 36 (0, 0)), ownR 56 encS 3 o18 ((laysF cs (made0 z0 z1 z2) ths).sp), ownR 3 encI 1 atv ((laysF cs (made0 z0 z1 z2) ths).al), ownR 3 encI 1 sv ((laysF cs (made0 z0 z1 z2) ths).st), tableR t13 c14 cs, blkR b1 (.cells (#[cv, tv, fv, ov, .int .u8 z0, .int .u8 z1, .int .u8 z2]) 28 (0, 0)), blkR b2 (.cells (#[.pointer none, .pointer none, .pointer none, .pointer none, .slice none 0 0, .slice none 0 0, .slice none 0 0, .slice none 0 0, .slice none 0 0]) 36 (0, 0))] w) ?_ ?_
      · refine W.sr ?_
        refine WL.run 1 rfl ?_
        refine WL.v (X.ldk (hp.at 6 rfl) tA24 rfl rfl) ?_
        refine WL.v (view_len tL24 (hp.old0 hRf) rfl) ?_
        refine WL.run 1 rfl ?_
        refine WL.fin ?_
        refine W.block ?_
        refine W.loop (X := Nat) (fun i => rfs.length - i) (fun i => [(1, .pointer (some ⟨b1, 0, none⟩)), (2, .pointer (some ⟨b2, 0, none⟩)), (4, .pointer (some ⟨t13, 0, none⟩)), (8, .pointer (some ⟨xl, 0, none⟩)), (9, sv), (11, .int .i64 (((laysF cs (made0 z0 z1 z2) ths).al).length : Int)), (135, .int .i64 (rfs.length : Int)), (136, .int .i64 (i : Int))]) (fun i w => Hp w0 [] [arenaR pa ba (refsF cs (laysF cs (made0 z0 z1 z2) ths).al (laysF cs (made0 z0 z1 z2) ths).ws (rfs.take i)), blkR xl (.cells (#[.pointer (some ⟨pa, 0, none⟩), .pointer (some ⟨t13, 0, none⟩), .pointer (some ⟨pa, 0, none⟩), .pointer (some ⟨t13, 0, none⟩), o18, atv, .slice none 0 0, .slice none 0 0, cv]) 36 (0, 0)), ownR 56 encS 3 o18 ((laysF cs (made0 z0 z1 z2) ths).sp), ownR 3 encI 1 atv ((laysF cs (made0 z0 z1 z2) ths).al), ownR 3 encI 1 sv ((laysF cs (made0 z0 z1 z2) ths).st), tableR t13 c14 cs, blkR b1 (.cells (#[cv, tv, fv, ov, .int .u8 z0, .int .u8 z1, .int .u8 z2]) 28 (0, 0)), blkR b2 (.cells (#[.pointer none, .pointer none, .pointer none, .pointer none, .slice none 0 0, .slice none 0 0, .slice none 0 0, .slice none 0 0, .slice none 0 0]) 36 (0, 0))] w ∧ i ≤ rfs.length) 0 ⟨rfl, rfl, rfl, rfl, rfl, rfl, rfl, rfl, trivial⟩ ?_ ?_
        · exact ⟨hp, by omega⟩
        rintro i w ⟨hp, hi⟩
        refine W.sr ?_
        refine WL.run 1 rfl ?_
        refine WL.s ?_
        by_cases hc32 : (i : Int) < (rfs.length : Int)
        · refine W.cT rfl (decide_eq_true hc32) ?_
          refine W.k ?_
          refine W.seq ?_
          refine W.block ?_
          refine W.sr ?_
          refine WL.run 2 rfl ?_
          refine WL.s ?_
          refine W.sr ?_
          refine WL.run 2 rfl ?_
          refine WL.fin ?_
          by_cases hc33 : (((laysF cs (made0 z0 z1 z2) ths).al).length : Int) = 0
          · refine W.cT rfl (decide_eq_true hc33) ?_
            refine W.exit ?_
            refine X.thenE ?_
            refine X.inM rfl ?_
            refine X.thenE ?_
            refine X.thenE ?_
            refine X.inH ?_
            exact X.here () ⟨rfl, rfl, rfl, rfl, rfl, rfl, trivial⟩ (by
              have hrw : (refsF cs (laysF cs (made0 z0 z1 z2) ths).al (laysF cs (made0 z0 z1 z2) ths).ws (rfs.take i)) = (refsF cs (laysF cs (made0 z0 z1 z2) ths).al (laysF cs (made0 z0 z1 z2) ths).ws rfs) := by first | rw [List.take_of_length_le (by omega)] | (rw [refsF_nil (by omega), refsF_nil (by omega)])
              rw [hrw] at hp
              exact hp)
          refine W.cF rfl (decide_eq_false hc33) ?_
          refine W.k ?_
          refine W.seq ?_
          have hlt : i < rfs.length := by omega
          have hrb := hrfs _ (mem_getD hlt)
          have hri := refsF_inv (List.all_eq_true.1 hallc) (show 0 < (laysF cs (made0 z0 z1 z2) ths).al.length by omega) (rfs.take i) (laysF cs (made0 z0 z1 z2) ths).ws hlin.1 hlin.2.1 (fun x hx => (hrfs x (List.mem_of_mem_take hx)).1.1)
          have hm1 := Int.emod_nonneg (rfs.getD i default).a (show ((laysF cs (made0 z0 z1 z2) ths).al.length : Int) ≠ 0 by omega)
          have hm2 := Int.emod_lt_of_pos (rfs.getD i default).a (show (0 : Int) < ((laysF cs (made0 z0 z1 z2) ths).al.length : Int) by omega)
          have hm3 := Int.emod_nonneg (rfs.getD i default).c (show ((laysF cs (made0 z0 z1 z2) ths).al.length : Int) + 1 ≠ 0 by omega)
          have hm4 := Int.emod_lt_of_pos (rfs.getD i default).c (show (0 : Int) < ((laysF cs (made0 z0 z1 z2) ths).al.length : Int) + 1 by omega)
          have hfa : ((laysF cs (made0 z0 z1 z2) ths).al.getD ((rfs.getD i default).a % ((laysF cs (made0 z0 z1 z2) ths).al.length : Int)).toNat default) ∈ (laysF cs (made0 z0 z1 z2) ths).al := mem_getD (by omega)
          have hfo := (hri.2.1 _ hfa).1
          have hfb := objT_bd (List.all_eq_true.1 hallc) hfo
          refine W.draw prog_mixed (fun w => (arenaR pa ba (refsF cs (laysF cs (made0 z0 z1 z2) ths).al (laysF cs (made0 z0 z1 z2) ths).ws (rfs.take i))).ok w ∧ (blkR xl (.cells (#[.pointer (some ⟨pa, 0, none⟩), .pointer (some ⟨t13, 0, none⟩), .pointer (some ⟨pa, 0, none⟩), .pointer (some ⟨t13, 0, none⟩), o18, atv, .slice none 0 0, .slice none 0 0, cv]) 36 (0, 0))).ok w ∧ (ownR 56 encS 3 o18 ((laysF cs (made0 z0 z1 z2) ths).sp)).ok w ∧ (ownR 3 encI 1 atv ((laysF cs (made0 z0 z1 z2) ths).al)).ok w ∧ (ownR 3 encI 1 sv ((laysF cs (made0 z0 z1 z2) ths).st)).ok w ∧ (tableR t13 c14 cs).ok w ∧ (blkR b1 (.cells (#[cv, tv, fv, ov, .int .u8 z0, .int .u8 z1, .int .u8 z2]) 28 (0, 0))).ok w ∧ (blkR b2 (.cells (#[.pointer none, .pointer none, .pointer none, .pointer none, .slice none 0 0, .slice none 0 0, .slice none 0 0, .slice none 0 0, .slice none 0 0]) 36 (0, 0))).ok w ∧ (viewR clsV 4 cv cs).ok w ∧ (viewR encTh 4 tv ths).ok w ∧ (viewR encR3 3 fv rfs).ok w ∧ (viewR encU8 1 ov ros).ok w ∧ True) hp ?_
          intro w hp
          refine WD.s ⟨hp.at 0 rfl, hp.at 1 rfl, hp.at 2 rfl, hp.at 3 rfl, hp.at 4 rfl, hp.at 5 rfl, hp.at 6 rfl, hp.at 7 rfl, hp.old0 hC, hp.old0 hTh, hp.old0 hRf, hp.old0 hRo, trivial⟩ fun hS0 => ?_
          refine WD.v 0 rfl hS0 (fun w hS => (X.fa (r := 5) tF36_4 rfl rfl)) ?_
          refine WD.v 1 rfl hS0 (fun w hS => (X.ldk hS.2.1 tA34 rfl rfl)) ?_
          refine WD.v 2 rfl hS0 (fun w hS => (X.fa (r := 2) tF28_2 rfl rfl)) ?_
          refine WD.v 3 rfl hS0 (fun w hS => (X.ldk hS.2.2.2.2.2.2.1 tA24 rfl rfl)) ?_
          refine WD.v 4 rfl hS0 (fun w hS => (X.mv rfl)) ?_
          refine WD.v 5 rfl hS0 (fun w hS => (X.idxV (j := i) (r := offOf fv + i * 3) tL24 tS26 hS.2.2.2.2.2.2.2.2.2.2.1 rfl rfl (by omega) (by omega) rfl)) ?_
          refine WD.v 6 rfl hS0 (fun w hS => (X.idxAO (j := 0) (r := offOf fv + i * 3) tR26 tS5 rfl rfl rfl (by decide) rfl)) ?_
          refine WD.v 7 rfl hS0 (fun w hS => (X.ld1 tA5 rfl (view_cell (j := i) (f := 0) hS.2.2.2.2.2.2.2.2.2.2.1 (get_some (by omega)) rfl (by omega)))) ?_
          refine WD.v 8 rfl hS0 (fun w hS => (X.conv (b := (rfs.getD i default).a) tI5 tI3 rfl (wrap_in64 (in64 (by omega))))) ?_
          refine WD.v 9 rfl hS0 (fun w hS => (X.mv rfl)) ?_
          refine WD.v 10 rfl hS0 (fun w hS => (X.rem rfl rfl (by omega))) ?_
          refine WD.v 11 rfl hS0 (fun w hS => (X.idxV (j := (((rfs.getD i default).a) % (((laysF cs (made0 z0 z1 z2) ths).al).length : Int)).toNat) (r := offOf atv + ((((rfs.getD i default).a) % (((laysF cs (made0 z0 z1 z2) ths).al).length : Int)).toNat) * 1) tL34 tS3 (own_view hS.2.2.2.1) rfl rfl (by omega) (by omega) rfl)) ?_
          refine WD.v 12 rfl hS0 (fun w hS => (X.ld1 tA3 rfl (view_cell (j := (((rfs.getD i default).a) % (((laysF cs (made0 z0 z1 z2) ths).al).length : Int)).toNat) (f := 0) (own_view hS.2.2.2.1) (get_some (by omega)) rfl (by omega)))) ?_
          refine WD.v 13 rfl hS0 (fun w hS => (X.as rfl)) ?_
          refine WD.v 14 rfl hS0 (fun w hS => (X.as rfl)) ?_
          refine WD.nil (by kernel_rfl) ?_
          refine X.thenN ?_
          refine W.seq ?_
          refine W.sr ?_
          refine WL.run 1 rfl ?_
          refine WL.v (X.ldk (hp.at 6 rfl) tA24 rfl rfl) ?_
          refine WL.run 1 rfl ?_
          refine WL.v (X.idxV (j := i) (r := offOf fv + i * 3) tL24 tS26 (hp.old0 hRf) rfl rfl (by omega) (by omega) rfl) ?_
          refine WL.v (X.idxAO (j := 2) (r := offOf fv + i * 3 + 2) tR26 tS5 rfl rfl rfl (by decide) rfl) ?_
          refine WL.v (X.ld1 tA5 rfl (view_cell (j := i) (f := 2) (hp.old0 hRf) (get_some (by omega)) rfl (by omega))) ?_
          refine WL.v (X.conv (b := (rfs.getD i default).c) tI5 tI3 rfl (wrap_in64 (in64 (by omega)))) ?_
          refine WL.run 1 rfl ?_
          refine WL.v (X.add rfl rfl (in64 (by omega))) ?_
          refine WL.v (X.rem rfl rfl (by omega)) ?_
          refine WL.run 1 rfl ?_
          refine WL.a ?_
          refine WL.run 2 rfl ?_
          refine WL.fin ?_
          by_cases hc34 : 0 < (((rfs.getD i default).c) % ((((laysF cs (made0 z0 z1 z2) ths).al).length : Int) + 1))
          · refine W.cT rfl (decide_eq_true hc34) ?_
            refine W.reg ?_
            refine WL.run 1 rfl ?_
            refine WL.v (X.ldk (hp.at 1 rfl) tA34 rfl rfl) ?_
            refine WL.run 1 rfl ?_
            refine WL.v (X.sub rfl rfl (in64 (by omega))) ?_
            refine WL.v (X.idxV (j := ((((rfs.getD i default).c) % ((((laysF cs (made0 z0 z1 z2) ths).al).length : Int) + 1)) - 1).toNat) (r := offOf atv + (((((rfs.getD i default).c) % ((((laysF cs (made0 z0 z1 z2) ths).al).length : Int) + 1)) - 1).toNat) * 1) tL34 tS3 (own_view (hp.at 3 rfl)) rfl rfl (by omega) (by omega) rfl) ?_
            refine WL.v (X.ld1 tA3 rfl (view_cell (j := ((((rfs.getD i default).c) % ((((laysF cs (made0 z0 z1 z2) ths).al).length : Int) + 1)) - 1).toNat) (f := 0) (own_view (hp.at 3 rfl)) (get_some (by omega)) rfl (by omega))) ?_
            refine WL.run 1 rfl ?_
            refine WL.a ?_
            refine WL.run 1 rfl ?_
            refine WL.v (X.ldkA (hp.at 1 rfl) tA32 tS32 (vs := [.pointer (some ⟨pa, 0, none⟩), .pointer (some ⟨t13, 0, none⟩)]) rfl rfl) ?_
            refine WL.run 1 rfl ?_
            refine WL.call isFn20 rfl rfl (shape_c (a := (((laysF cs (made0 z0 z1 z2) ths).al).getD ((((rfs.getD i default).a) % (((laysF cs (made0 z0 z1 z2) ths).al).length : Int)).toNat) default)) (hp.at 0 rfl) (hp.at 5 rfl)) ?_
            intro v w hc hr
            obtain rfl := hr
            have hp := hp.ext hc
            refine WL.run 7 rfl ?_
            refine WL.a ?_
            refine WL.run 2 rfl ?_
            refine WL.fin ?_
            by_cases hc35 : 0 < ((objT (refsF cs (laysF cs (made0 z0 z1 z2) ths).al (laysF cs (made0 z0 z1 z2) ths).ws (rfs.take i)) cs (((laysF cs (made0 z0 z1 z2) ths).al).getD ((((rfs.getD i default).a) % (((laysF cs (made0 z0 z1 z2) ths).al).length : Int)).toNat) default)).refs)
            · refine W.cT rfl (decide_eq_true hc35) ?_
              have hm5 := Int.emod_nonneg (rfs.getD i default).b (show (objT (refsF cs (laysF cs (made0 z0 z1 z2) ths).al (laysF cs (made0 z0 z1 z2) ths).ws (rfs.take i)) cs ((laysF cs (made0 z0 z1 z2) ths).al.getD ((rfs.getD i default).a % ((laysF cs (made0 z0 z1 z2) ths).al.length : Int)).toNat default)).refs ≠ 0 by omega)
              have hm6 := Int.emod_lt_of_pos (rfs.getD i default).b (show 0 < (objT (refsF cs (laysF cs (made0 z0 z1 z2) ths).al (laysF cs (made0 z0 z1 z2) ths).ws (rfs.take i)) cs ((laysF cs (made0 z0 z1 z2) ths).al.getD ((rfs.getD i default).a % ((laysF cs (made0 z0 z1 z2) ths).al.length : Int)).toNat default)).refs by omega)
              have hre : refE (refsF cs (laysF cs (made0 z0 z1 z2) ths).al (laysF cs (made0 z0 z1 z2) ths).ws (rfs.take i)) cs ((laysF cs (made0 z0 z1 z2) ths).al.getD ((rfs.getD i default).a % ((laysF cs (made0 z0 z1 z2) ths).al.length : Int)).toNat default) ((rfs.getD i default).b % (objT (refsF cs (laysF cs (made0 z0 z1 z2) ths).al (laysF cs (made0 z0 z1 z2) ths).ws (rfs.take i)) cs ((laysF cs (made0 z0 z1 z2) ths).al.getD ((rfs.getD i default).a % ((laysF cs (made0 z0 z1 z2) ths).al.length : Int)).toNat default)).refs) = 0 := refE_ok hfo hm5 hm6
              refine W.draw prog_mixed (fun w => (blkR xl (.cells (#[.pointer (some ⟨pa, 0, none⟩), .pointer (some ⟨t13, 0, none⟩), .pointer (some ⟨pa, 0, none⟩), .pointer (some ⟨t13, 0, none⟩), o18, atv, .slice none 0 0, .slice none 0 0, cv]) 36 (0, 0))).ok w ∧ (ownR 56 encS 3 o18 ((laysF cs (made0 z0 z1 z2) ths).sp)).ok w ∧ (ownR 3 encI 1 atv ((laysF cs (made0 z0 z1 z2) ths).al)).ok w ∧ (ownR 3 encI 1 sv ((laysF cs (made0 z0 z1 z2) ths).st)).ok w ∧ (tableR t13 c14 cs).ok w ∧ (blkR b1 (.cells (#[cv, tv, fv, ov, .int .u8 z0, .int .u8 z1, .int .u8 z2]) 28 (0, 0))).ok w ∧ (blkR b2 (.cells (#[.pointer none, .pointer none, .pointer none, .pointer none, .slice none 0 0, .slice none 0 0, .slice none 0 0, .slice none 0 0, .slice none 0 0]) 36 (0, 0))).ok w ∧ (viewR clsV 4 cv cs).ok w ∧ (viewR encTh 4 tv ths).ok w ∧ (viewR encR3 3 fv rfs).ok w ∧ (viewR encU8 1 ov ros).ok w ∧ True) hp ?_
              intro w hp
              refine WD.s ⟨hp.at 1 rfl, hp.at 2 rfl, hp.at 3 rfl, hp.at 4 rfl, hp.at 5 rfl, hp.at 6 rfl, hp.at 7 rfl, hp.old0 hC, hp.old0 hTh, hp.old0 hRf, hp.old0 hRo, trivial⟩ fun hS0 => ?_
              refine WD.v 0 rfl hS0 (fun w hS => (X.fa (r := 2) tF36_2 rfl rfl)) ?_
              refine WD.v 1 rfl hS0 (fun w hS => (X.ldkA hS.1 tA32 tS32 (vs := [.pointer (some ⟨pa, 0, none⟩), .pointer (some ⟨t13, 0, none⟩)]) rfl rfl)) ?_
              refine WD.v 2 rfl hS0 (fun w hS => (X.mv rfl)) ?_
              refine WD.v 3 rfl hS0 (fun w hS => (X.fa (r := 2) tF28_2 rfl rfl)) ?_
              refine WD.v 4 rfl hS0 (fun w hS => (X.ldk hS.2.2.2.2.2.1 tA24 rfl rfl)) ?_
              refine WD.v 5 rfl hS0 (fun w hS => (X.mv rfl)) ?_
              refine WD.v 6 rfl hS0 (fun w hS => (X.idxV (j := i) (r := offOf fv + i * 3) tL24 tS26 hS.2.2.2.2.2.2.2.2.2.1 rfl rfl (by omega) (by omega) rfl)) ?_
              refine WD.v 7 rfl hS0 (fun w hS => (X.idxAO (j := 1) (r := offOf fv + i * 3 + 1) tR26 tS5 rfl rfl rfl (by decide) rfl)) ?_
              refine WD.v 8 rfl hS0 (fun w hS => (X.ld1 tA5 rfl (view_cell (j := i) (f := 1) hS.2.2.2.2.2.2.2.2.2.1 (get_some (by omega)) rfl (by omega)))) ?_
              refine WD.v 9 rfl hS0 (fun w hS => (X.conv (b := (rfs.getD i default).b) tI5 tI3 rfl (wrap_in64 (in64 (by omega))))) ?_
              refine WD.v 10 rfl hS0 (fun w hS => (X.mv rfl)) ?_
              refine WD.v 11 rfl hS0 (fun w hS => (X.rem rfl rfl (by omega))) ?_
              refine WD.v 12 rfl hS0 (fun w hS => (X.mv rfl)) ?_
              refine WD.one 13 (by kernel_rfl) ?_
              refine WO.call rfl isFn21 rfl rfl (setref_c (a := (((laysF cs (made0 z0 z1 z2) ths).al).getD ((((rfs.getD i default).a) % (((laysF cs (made0 z0 z1 z2) ths).al).length : Int)).toNat) default)) (f := ((rfs.getD i default).b) % ((objT (refsF cs (laysF cs (made0 z0 z1 z2) ths).al (laysF cs (made0 z0 z1 z2) ths).ws (rfs.take i)) cs (((laysF cs (made0 z0 z1 z2) ths).al).getD ((((rfs.getD i default).a) % (((laysF cs (made0 z0 z1 z2) ths).al).length : Int)).toNat) default)).refs)) (x := (((laysF cs (made0 z0 z1 z2) ths).al).getD (((((rfs.getD i default).c) % ((((laysF cs (made0 z0 z1 z2) ths).al).length : Int) + 1)) - 1).toNat) default)) (hp.at 0 rfl) (hp.at 5 rfl) (foot_dis hp (i := 5) (j := 0) rfl rfl (by decide))) ?_
              intro v w hc hr
              rcases hr with ⟨hr36, rfl, hA⟩ | ⟨hr36, rfl, hA⟩
              · have hp := hp.arena 0 rfl hc hA
                refine andS ⟨hp.at 1 rfl, hp.at 2 rfl, hp.at 3 rfl, hp.at 4 rfl, hp.at 5 rfl, hp.at 6 rfl, hp.at 7 rfl, hp.old0 hC, hp.old0 hTh, hp.old0 hRf, hp.old0 hRo, trivial⟩ fun hS0 => ?_
                refine WD.nil (by kernel_rfl) ?_
                refine X.inN ?_
                refine X.thenN ?_
                refine W.reg ?_
                refine WL.v (X.add rfl rfl (in64 (by omega))) ?_
                refine WL.run 1 rfl ?_
                refine WL.nil ?_
                refine X.again (i + 1) ⟨rfl, rfl, rfl, rfl, rfl, rfl, rfl, rfl, trivial⟩ ?_ ?_
                · exact ⟨by rw [refsF_step hlt, show refOne cs (laysF cs (made0 z0 z1 z2) ths).al (refsF cs (laysF cs (made0 z0 z1 z2) ths).al (laysF cs (made0 z0 z1 z2) ths).ws (rfs.take i)) (rfs.getD i default) = (refsF cs (laysF cs (made0 z0 z1 z2) ths).al (laysF cs (made0 z0 z1 z2) ths).ws (rfs.take i)).set ((((laysF cs (made0 z0 z1 z2) ths).al).getD ((((rfs.getD i default).a) % (((laysF cs (made0 z0 z1 z2) ths).al).length : Int)).toNat) default) + 2 + (((rfs.getD i default).b) % ((objT (refsF cs (laysF cs (made0 z0 z1 z2) ths).al (laysF cs (made0 z0 z1 z2) ths).ws (rfs.take i)) cs (((laysF cs (made0 z0 z1 z2) ths).al).getD ((((rfs.getD i default).a) % (((laysF cs (made0 z0 z1 z2) ths).al).length : Int)).toNat) default)).refs))).toNat (((laysF cs (made0 z0 z1 z2) ths).al).getD (((((rfs.getD i default).c) % ((((laysF cs (made0 z0 z1 z2) ths).al).length : Int) + 1)) - 1).toNat) default) from by unfold refOne pickA; first | rw [if_neg (by assumption)] | rw [if_pos (by assumption), if_pos (by assumption)] | rw [if_pos (by assumption), if_neg (by assumption)]]; exact hp, by omega⟩
                · omega
              (try simp only [fillW_length, moveW_length, List.length_set] at hr36); first | contradiction | (exfalso; omega) | (exfalso; simp_all; done)
            refine W.cF rfl (decide_eq_false hc35) ?_
            refine W.skip ?_
            refine X.inN ?_
            refine X.thenN ?_
            refine W.reg ?_
            refine WL.v (X.add rfl rfl (in64 (by omega))) ?_
            refine WL.run 1 rfl ?_
            refine WL.nil ?_
            refine X.again (i + 1) ⟨rfl, rfl, rfl, rfl, rfl, rfl, rfl, rfl, trivial⟩ ?_ ?_
            · exact ⟨by rw [refsF_step hlt, show refOne cs (laysF cs (made0 z0 z1 z2) ths).al (refsF cs (laysF cs (made0 z0 z1 z2) ths).al (laysF cs (made0 z0 z1 z2) ths).ws (rfs.take i)) (rfs.getD i default) = (refsF cs (laysF cs (made0 z0 z1 z2) ths).al (laysF cs (made0 z0 z1 z2) ths).ws (rfs.take i)) from by unfold refOne pickA; first | rw [if_neg (by assumption)] | rw [if_pos (by assumption), if_pos (by assumption)] | rw [if_pos (by assumption), if_neg (by assumption)]]; exact hp, by omega⟩
            · omega
          refine W.cF rfl (decide_eq_false hc34) ?_
          refine W.ks ?_
          refine WL.run 1 rfl ?_
          refine WL.v (X.ldkA (hp.at 1 rfl) tA32 tS32 (vs := [.pointer (some ⟨pa, 0, none⟩), .pointer (some ⟨t13, 0, none⟩)]) rfl rfl) ?_
          refine WL.run 1 rfl ?_
          refine WL.call isFn20 rfl rfl (shape_c (a := (((laysF cs (made0 z0 z1 z2) ths).al).getD ((((rfs.getD i default).a) % (((laysF cs (made0 z0 z1 z2) ths).al).length : Int)).toNat) default)) (hp.at 0 rfl) (hp.at 5 rfl)) ?_
          intro v w hc hr
          obtain rfl := hr
          have hp := hp.ext hc
          refine WL.run 7 rfl ?_
          refine WL.a ?_
          refine WL.run 2 rfl ?_
          refine WL.fin ?_
          by_cases hc37 : 0 < ((objT (refsF cs (laysF cs (made0 z0 z1 z2) ths).al (laysF cs (made0 z0 z1 z2) ths).ws (rfs.take i)) cs (((laysF cs (made0 z0 z1 z2) ths).al).getD ((((rfs.getD i default).a) % (((laysF cs (made0 z0 z1 z2) ths).al).length : Int)).toNat) default)).refs)
          · refine W.cT rfl (decide_eq_true hc37) ?_
            have hm5 := Int.emod_nonneg (rfs.getD i default).b (show (objT (refsF cs (laysF cs (made0 z0 z1 z2) ths).al (laysF cs (made0 z0 z1 z2) ths).ws (rfs.take i)) cs ((laysF cs (made0 z0 z1 z2) ths).al.getD ((rfs.getD i default).a % ((laysF cs (made0 z0 z1 z2) ths).al.length : Int)).toNat default)).refs ≠ 0 by omega)
            have hm6 := Int.emod_lt_of_pos (rfs.getD i default).b (show 0 < (objT (refsF cs (laysF cs (made0 z0 z1 z2) ths).al (laysF cs (made0 z0 z1 z2) ths).ws (rfs.take i)) cs ((laysF cs (made0 z0 z1 z2) ths).al.getD ((rfs.getD i default).a % ((laysF cs (made0 z0 z1 z2) ths).al.length : Int)).toNat default)).refs by omega)
            have hre : refE (refsF cs (laysF cs (made0 z0 z1 z2) ths).al (laysF cs (made0 z0 z1 z2) ths).ws (rfs.take i)) cs ((laysF cs (made0 z0 z1 z2) ths).al.getD ((rfs.getD i default).a % ((laysF cs (made0 z0 z1 z2) ths).al.length : Int)).toNat default) ((rfs.getD i default).b % (objT (refsF cs (laysF cs (made0 z0 z1 z2) ths).al (laysF cs (made0 z0 z1 z2) ths).ws (rfs.take i)) cs ((laysF cs (made0 z0 z1 z2) ths).al.getD ((rfs.getD i default).a % ((laysF cs (made0 z0 z1 z2) ths).al.length : Int)).toNat default)).refs) = 0 := refE_ok hfo hm5 hm6
            refine W.draw prog_mixed (fun w => (blkR xl (.cells (#[.pointer (some ⟨pa, 0, none⟩), .pointer (some ⟨t13, 0, none⟩), .pointer (some ⟨pa, 0, none⟩), .pointer (some ⟨t13, 0, none⟩), o18, atv, .slice none 0 0, .slice none 0 0, cv]) 36 (0, 0))).ok w ∧ (ownR 56 encS 3 o18 ((laysF cs (made0 z0 z1 z2) ths).sp)).ok w ∧ (ownR 3 encI 1 atv ((laysF cs (made0 z0 z1 z2) ths).al)).ok w ∧ (ownR 3 encI 1 sv ((laysF cs (made0 z0 z1 z2) ths).st)).ok w ∧ (tableR t13 c14 cs).ok w ∧ (blkR b1 (.cells (#[cv, tv, fv, ov, .int .u8 z0, .int .u8 z1, .int .u8 z2]) 28 (0, 0))).ok w ∧ (blkR b2 (.cells (#[.pointer none, .pointer none, .pointer none, .pointer none, .slice none 0 0, .slice none 0 0, .slice none 0 0, .slice none 0 0, .slice none 0 0]) 36 (0, 0))).ok w ∧ (viewR clsV 4 cv cs).ok w ∧ (viewR encTh 4 tv ths).ok w ∧ (viewR encR3 3 fv rfs).ok w ∧ (viewR encU8 1 ov ros).ok w ∧ True) hp ?_
            intro w hp
            refine WD.s ⟨hp.at 1 rfl, hp.at 2 rfl, hp.at 3 rfl, hp.at 4 rfl, hp.at 5 rfl, hp.at 6 rfl, hp.at 7 rfl, hp.old0 hC, hp.old0 hTh, hp.old0 hRf, hp.old0 hRo, trivial⟩ fun hS0 => ?_
            refine WD.v 0 rfl hS0 (fun w hS => (X.fa (r := 2) tF36_2 rfl rfl)) ?_
            refine WD.v 1 rfl hS0 (fun w hS => (X.ldkA hS.1 tA32 tS32 (vs := [.pointer (some ⟨pa, 0, none⟩), .pointer (some ⟨t13, 0, none⟩)]) rfl rfl)) ?_
            refine WD.v 2 rfl hS0 (fun w hS => (X.mv rfl)) ?_
            refine WD.v 3 rfl hS0 (fun w hS => (X.fa (r := 2) tF28_2 rfl rfl)) ?_
            refine WD.v 4 rfl hS0 (fun w hS => (X.ldk hS.2.2.2.2.2.1 tA24 rfl rfl)) ?_
            refine WD.v 5 rfl hS0 (fun w hS => (X.mv rfl)) ?_
            refine WD.v 6 rfl hS0 (fun w hS => (X.idxV (j := i) (r := offOf fv + i * 3) tL24 tS26 hS.2.2.2.2.2.2.2.2.2.1 rfl rfl (by omega) (by omega) rfl)) ?_
            refine WD.v 7 rfl hS0 (fun w hS => (X.idxAO (j := 1) (r := offOf fv + i * 3 + 1) tR26 tS5 rfl rfl rfl (by decide) rfl)) ?_
            refine WD.v 8 rfl hS0 (fun w hS => (X.ld1 tA5 rfl (view_cell (j := i) (f := 1) hS.2.2.2.2.2.2.2.2.2.1 (get_some (by omega)) rfl (by omega)))) ?_
            refine WD.v 9 rfl hS0 (fun w hS => (X.conv (b := (rfs.getD i default).b) tI5 tI3 rfl (wrap_in64 (in64 (by omega))))) ?_
            refine WD.v 10 rfl hS0 (fun w hS => (X.mv rfl)) ?_
            refine WD.v 11 rfl hS0 (fun w hS => (X.rem rfl rfl (by omega))) ?_
            refine WD.v 12 rfl hS0 (fun w hS => (X.mv rfl)) ?_
            refine WD.one 13 (by kernel_rfl) ?_
            refine WO.call rfl isFn21 rfl rfl (setref_c (a := (((laysF cs (made0 z0 z1 z2) ths).al).getD ((((rfs.getD i default).a) % (((laysF cs (made0 z0 z1 z2) ths).al).length : Int)).toNat) default)) (f := ((rfs.getD i default).b) % ((objT (refsF cs (laysF cs (made0 z0 z1 z2) ths).al (laysF cs (made0 z0 z1 z2) ths).ws (rfs.take i)) cs (((laysF cs (made0 z0 z1 z2) ths).al).getD ((((rfs.getD i default).a) % (((laysF cs (made0 z0 z1 z2) ths).al).length : Int)).toNat) default)).refs)) (x := 0) (hp.at 0 rfl) (hp.at 5 rfl) (foot_dis hp (i := 5) (j := 0) rfl rfl (by decide))) ?_
            intro v w hc hr
            rcases hr with ⟨hr38, rfl, hA⟩ | ⟨hr38, rfl, hA⟩
            · have hp := hp.arena 0 rfl hc hA
              refine andS ⟨hp.at 1 rfl, hp.at 2 rfl, hp.at 3 rfl, hp.at 4 rfl, hp.at 5 rfl, hp.at 6 rfl, hp.at 7 rfl, hp.old0 hC, hp.old0 hTh, hp.old0 hRf, hp.old0 hRo, trivial⟩ fun hS0 => ?_
              refine WD.nil (by kernel_rfl) ?_
              refine X.inN ?_
              refine X.thenN ?_
              refine W.reg ?_
              refine WL.v (X.add rfl rfl (in64 (by omega))) ?_
              refine WL.run 1 rfl ?_
              refine WL.nil ?_
              refine X.again (i + 1) ⟨rfl, rfl, rfl, rfl, rfl, rfl, rfl, rfl, trivial⟩ ?_ ?_
              · exact ⟨by rw [refsF_step hlt, show refOne cs (laysF cs (made0 z0 z1 z2) ths).al (refsF cs (laysF cs (made0 z0 z1 z2) ths).al (laysF cs (made0 z0 z1 z2) ths).ws (rfs.take i)) (rfs.getD i default) = (refsF cs (laysF cs (made0 z0 z1 z2) ths).al (laysF cs (made0 z0 z1 z2) ths).ws (rfs.take i)).set ((((laysF cs (made0 z0 z1 z2) ths).al).getD ((((rfs.getD i default).a) % (((laysF cs (made0 z0 z1 z2) ths).al).length : Int)).toNat) default) + 2 + (((rfs.getD i default).b) % ((objT (refsF cs (laysF cs (made0 z0 z1 z2) ths).al (laysF cs (made0 z0 z1 z2) ths).ws (rfs.take i)) cs (((laysF cs (made0 z0 z1 z2) ths).al).getD ((((rfs.getD i default).a) % (((laysF cs (made0 z0 z1 z2) ths).al).length : Int)).toNat) default)).refs))).toNat 0 from by unfold refOne pickA; first | rw [if_neg (by assumption)] | rw [if_pos (by assumption), if_pos (by assumption)] | rw [if_pos (by assumption), if_neg (by assumption)]]; exact hp, by omega⟩
              · omega
            (try simp only [fillW_length, moveW_length, List.length_set] at hr38); first | contradiction | (exfalso; omega) | (exfalso; simp_all; done)
          refine W.cF rfl (decide_eq_false hc37) ?_
          refine W.skip ?_
          refine X.inN ?_
          refine X.thenN ?_
          refine W.reg ?_
          refine WL.v (X.add rfl rfl (in64 (by omega))) ?_
          refine WL.run 1 rfl ?_
          refine WL.nil ?_
          refine X.again (i + 1) ⟨rfl, rfl, rfl, rfl, rfl, rfl, rfl, rfl, trivial⟩ ?_ ?_
          · exact ⟨by rw [refsF_step hlt, show refOne cs (laysF cs (made0 z0 z1 z2) ths).al (refsF cs (laysF cs (made0 z0 z1 z2) ths).al (laysF cs (made0 z0 z1 z2) ths).ws (rfs.take i)) (rfs.getD i default) = (refsF cs (laysF cs (made0 z0 z1 z2) ths).al (laysF cs (made0 z0 z1 z2) ths).ws (rfs.take i)) from by unfold refOne pickA; first | rw [if_neg (by assumption)] | rw [if_pos (by assumption), if_pos (by assumption)] | rw [if_pos (by assumption), if_neg (by assumption)]]; exact hp, by omega⟩
          · omega
        refine W.cF rfl (decide_eq_false hc32) ?_
        refine W.exit ?_
        refine X.thenE ?_
        refine X.thenE ?_
        refine X.inH ?_
        exact X.here () ⟨rfl, rfl, rfl, rfl, rfl, rfl, trivial⟩ (by
          have hrw : (refsF cs (laysF cs (made0 z0 z1 z2) ths).al (laysF cs (made0 z0 z1 z2) ths).ws (rfs.take i)) = (refsF cs (laysF cs (made0 z0 z1 z2) ths).al (laysF cs (made0 z0 z1 z2) ths).ws rfs) := by first | rw [List.take_of_length_le (by omega)] | (rw [refsF_nil (by omega), refsF_nil (by omega)])
          rw [hrw] at hp
          exact hp)
      rintro _ w hp
      refine W.seq ?_
      refine W.seq ?_
      have hp := hp.addNil 3 encI 1 encI_len (by omega)
      refine W.reg ?_
      refine WL.run 1 rfl ?_
      refine WL.v (X.ldk (hp.at 7 rfl) tA25 rfl rfl) ?_
      refine WL.v (view_len tL25 (hp.old0 hRo) rfl) ?_
      refine WL.run 1 rfl ?_
      refine WL.fin ?_
      refine W.block ?_
      refine W.loop (X := Nat × Value) (fun x_ => match x_ with | ⟨j, rv⟩ => ros.length - j) (fun x_ => match x_ with | ⟨j, rv⟩ => [(1, .pointer (some ⟨b1, 0, none⟩)), (2, .pointer (some ⟨b2, 0, none⟩)), (4, .pointer (some ⟨t13, 0, none⟩)), (8, .pointer (some ⟨xl, 0, none⟩)), (9, sv), (11, .int .i64 (((laysF cs (made0 z0 z1 z2) ths).al).length : Int)), (199, .int .i64 (ros.length : Int)), (200, .int .i64 (j : Int))]) (fun x_ w => match x_ with | ⟨j, rv⟩ => Hp w0 [] [arenaR pa ba (refsF cs (laysF cs (made0 z0 z1 z2) ths).al (laysF cs (made0 z0 z1 z2) ths).ws rfs), blkR xl (.cells (#[.pointer (some ⟨pa, 0, none⟩), .pointer (some ⟨t13, 0, none⟩), .pointer (some ⟨pa, 0, none⟩), .pointer (some ⟨t13, 0, none⟩), o18, atv, .slice none 0 0, rv, cv]) 36 (0, 0)), ownR 56 encS 3 o18 ((laysF cs (made0 z0 z1 z2) ths).sp), ownR 3 encI 1 atv ((laysF cs (made0 z0 z1 z2) ths).al), ownR 3 encI 1 sv ((laysF cs (made0 z0 z1 z2) ths).st), ownR 3 encI 1 rv (rootsF (laysF cs (made0 z0 z1 z2) ths).al (ros.take j)), tableR t13 c14 cs, blkR b1 (.cells (#[cv, tv, fv, ov, .int .u8 z0, .int .u8 z1, .int .u8 z2]) 28 (0, 0)), blkR b2 (.cells (#[.pointer none, .pointer none, .pointer none, .pointer none, .slice none 0 0, .slice none 0 0, .slice none 0 0, .slice none 0 0, .slice none 0 0]) 36 (0, 0))] w ∧ j ≤ ros.length) (0, .slice none 0 0) ⟨rfl, rfl, rfl, rfl, rfl, rfl, rfl, rfl, trivial⟩ ?_ ?_
      · exact ⟨(hp.sel [1, 2, 3, 4, 5, 0, 6, 7, 8] (by decide)), by omega⟩
      rintro ⟨j, rv⟩ w ⟨hp, hj⟩
      refine W.sr ?_
      refine WL.run 1 rfl ?_
      refine WL.s ?_
      by_cases hc39 : (j : Int) < (ros.length : Int)
      · refine W.cT rfl (decide_eq_true hc39) ?_
        refine W.k ?_
        refine W.seq ?_
        refine W.block ?_
        refine W.seq ?_
        have hlt : j < ros.length := by omega
        have hrb2 := hros _ (mem_getD hlt)
        have hm7 := Int.emod_nonneg (ros.getD j default) (show ((laysF cs (made0 z0 z1 z2) ths).al.length : Int) + 1 ≠ 0 by omega)
        have hm8 := Int.emod_lt_of_pos (ros.getD j default) (show (0 : Int) < ((laysF cs (made0 z0 z1 z2) ths).al.length : Int) + 1 by omega)
        have hrl9 : ((rootsF (laysF cs (made0 z0 z1 z2) ths).al (ros.take j))).length = j := by unfold rootsF; rw [List.length_map, List.length_take]; omega
        refine W.reg ?_
        refine WL.run 2 rfl ?_
        refine WL.a ?_
        refine WL.run 1 rfl ?_
        refine WL.s ?_
        refine W.sr ?_
        refine WL.run 1 rfl ?_
        refine WL.v (X.ldk (hp.at 7 rfl) tA25 rfl rfl) ?_
        refine WL.run 1 rfl ?_
        refine WL.v (X.idxV (j := j) (r := offOf ov + j * 1) tL25 tS5 (hp.old0 hRo) rfl rfl (by omega) (by omega) rfl) ?_
        refine WL.v (X.ld1 tA5 rfl (view_cell (j := j) (f := 0) (hp.old0 hRo) (get_some (by omega)) rfl (by omega))) ?_
        refine WL.v (X.conv (b := (ros.getD j default)) tI5 tI3 rfl (wrap_in64 (in64 (by omega)))) ?_
        refine WL.run 1 rfl ?_
        refine WL.v (X.add rfl rfl (in64 (by omega))) ?_
        refine WL.v (X.rem rfl rfl (by omega)) ?_
        refine WL.run 1 rfl ?_
        refine WL.a ?_
        refine WL.run 2 rfl ?_
        refine WL.fin ?_
        by_cases hc40 : 0 < ((ros.getD j default) % ((((laysF cs (made0 z0 z1 z2) ths).al).length : Int) + 1))
        · refine W.cT rfl (decide_eq_true hc40) ?_
          refine W.reg ?_
          refine WL.run 1 rfl ?_
          refine WL.v (X.ldk (hp.at 1 rfl) tA34 rfl rfl) ?_
          refine WL.run 1 rfl ?_
          refine WL.v (X.sub rfl rfl (in64 (by omega))) ?_
          refine WL.v (X.idxV (j := (((ros.getD j default) % ((((laysF cs (made0 z0 z1 z2) ths).al).length : Int) + 1)) - 1).toNat) (r := offOf atv + ((((ros.getD j default) % ((((laysF cs (made0 z0 z1 z2) ths).al).length : Int) + 1)) - 1).toNat) * 1) tL34 tS3 (own_view (hp.at 3 rfl)) rfl rfl (by omega) (by omega) rfl) ?_
          refine WL.v (X.ld1 tA3 rfl (view_cell (j := (((ros.getD j default) % ((((laysF cs (made0 z0 z1 z2) ths).al).length : Int) + 1)) - 1).toNat) (f := 0) (own_view (hp.at 3 rfl)) (get_some (by omega)) rfl (by omega))) ?_
          refine WL.run 1 rfl ?_
          refine WL.b ?_
          refine WL.run 1 rfl ?_
          refine WL.v (X.ldk (hp.at 1 rfl) tA34 rfl rfl) ?_
          refine WL.run 1 rfl ?_
          refine WL.bsl hp (e := 3) (cs := #[.int .i64 (((laysF cs (made0 z0 z1 z2) ths).al).getD ((((ros.getD j default) % ((((laysF cs (made0 z0 z1 z2) ths).al).length : Int) + 1)) - 1).toNat) default)]) rfl (fun _ => by kernel_rfl) rfl ?_
          intro b41 w hp
          refine WL.append hp 6 rfl tL34 (zeroT_ex tZ3) tS3 tY3 rfl rfl (view_of_blk (l := [(((laysF cs (made0 z0 z1 z2) ths).al).getD ((((ros.getD j default) % ((((laysF cs (made0 z0 z1 z2) ths).al).length : Int) + 1)) - 1).toNat) default)]) hp 0 rfl encI_len (by omega) rfl (by simp) (by simp)) encI_one (by simp only [List.length_append, List.length_cons, List.length_nil]; omega) rfl ?_
          intro v42 w hp
          refine WL.run 1 rfl ?_
          refine WL.store hp 2 rfl tS34 rfl rfl (vs := [v42]) (view_cells1 (own_view (hp.at 6 rfl))) (by first | (simp only [List.all_cons, List.all_nil, Bool.and_true, view_one (own_view (hp.at 6 rfl))]; done) | (simp only [List.all_cons, List.all_nil, Bool.and_true, one_int, one_bool, one_ptr, one_map, one_sl, view_one (own_view (hp.at 6 rfl))]; done) | simp [Value.oneCell', view_one (own_view (hp.at 6 rfl))]) rfl (new := #[.pointer (some ⟨pa, 0, none⟩), .pointer (some ⟨t13, 0, none⟩), .pointer (some ⟨pa, 0, none⟩), .pointer (some ⟨t13, 0, none⟩), o18, atv, .slice none 0 0, v42, cv]) rfl ?_
          intro w hp
          refine WL.nil ?_
          refine X.inN ?_
          refine X.thenN ?_
          refine W.reg ?_
          refine WL.v (X.add rfl rfl (in64 (by omega))) ?_
          refine WL.run 1 rfl ?_
          refine WL.nil ?_
          refine X.again (j + 1, v42) ⟨rfl, rfl, rfl, rfl, rfl, rfl, rfl, rfl, trivial⟩ ?_ ?_
          · exact ⟨by rw [take_getD hlt, show rootsF (laysF cs (made0 z0 z1 z2) ths).al (ros.take j ++ [ros.getD j default]) = (rootsF (laysF cs (made0 z0 z1 z2) ths).al (ros.take j)) ++ [(((laysF cs (made0 z0 z1 z2) ths).al).getD ((((ros.getD j default) % ((((laysF cs (made0 z0 z1 z2) ths).al).length : Int) + 1)) - 1).toNat) default)] from by unfold rootsF pickA; rw [List.map_append, List.map_singleton]; first | rw [if_pos (by assumption)] | rw [if_neg (by assumption)]]; exact (hp.sel [1, 2, 3, 4, 5, 6, 7, 8, 9] (by decide)), by omega⟩
          · dsimp only; omega
        refine W.cF rfl (decide_eq_false hc40) ?_
        refine W.kr ?_
        refine WL.run 1 rfl ?_
        refine WL.v (X.ldk (hp.at 1 rfl) tA34 rfl rfl) ?_
        refine WL.run 1 rfl ?_
        refine WL.bsl hp (e := 3) (cs := #[.int .i64 0]) rfl (fun _ => by kernel_rfl) rfl ?_
        intro b43 w hp
        refine WL.append hp 6 rfl tL34 (zeroT_ex tZ3) tS3 tY3 rfl rfl (view_of_blk (l := [0]) hp 0 rfl encI_len (by omega) rfl (by simp) (by simp)) encI_one (by simp only [List.length_append, List.length_cons, List.length_nil]; omega) rfl ?_
        intro v44 w hp
        refine WL.run 1 rfl ?_
        refine WL.store hp 2 rfl tS34 rfl rfl (vs := [v44]) (view_cells1 (own_view (hp.at 6 rfl))) (by first | (simp only [List.all_cons, List.all_nil, Bool.and_true, view_one (own_view (hp.at 6 rfl))]; done) | (simp only [List.all_cons, List.all_nil, Bool.and_true, one_int, one_bool, one_ptr, one_map, one_sl, view_one (own_view (hp.at 6 rfl))]; done) | simp [Value.oneCell', view_one (own_view (hp.at 6 rfl))]) rfl (new := #[.pointer (some ⟨pa, 0, none⟩), .pointer (some ⟨t13, 0, none⟩), .pointer (some ⟨pa, 0, none⟩), .pointer (some ⟨t13, 0, none⟩), o18, atv, .slice none 0 0, v44, cv]) rfl ?_
        intro w hp
        refine WL.nil ?_
        refine X.inN ?_
        refine X.thenN ?_
        refine W.reg ?_
        refine WL.v (X.add rfl rfl (in64 (by omega))) ?_
        refine WL.run 1 rfl ?_
        refine WL.nil ?_
        refine X.again (j + 1, v44) ⟨rfl, rfl, rfl, rfl, rfl, rfl, rfl, rfl, trivial⟩ ?_ ?_
        · exact ⟨by rw [take_getD hlt, show rootsF (laysF cs (made0 z0 z1 z2) ths).al (ros.take j ++ [ros.getD j default]) = (rootsF (laysF cs (made0 z0 z1 z2) ths).al (ros.take j)) ++ [0] from by unfold rootsF pickA; rw [List.map_append, List.map_singleton]; first | rw [if_pos (by assumption)] | rw [if_neg (by assumption)]]; exact (hp.sel [1, 2, 3, 4, 5, 6, 7, 8, 9] (by decide)), by omega⟩
        · dsimp only; omega
      refine W.cF rfl (decide_eq_false hc39) ?_
      refine W.exit ?_
      refine X.thenE ?_
      refine X.thenE ?_
      refine X.inH ?_
      refine X.thenN ?_
      refine W.seqCut (X := Value × List Int) (fun x_ => match x_ with | ⟨syv, qs⟩ => [(2, .pointer (some ⟨b2, 0, none⟩)), (8, .pointer (some ⟨xl, 0, none⟩))]) (fun x_ w => match x_ with | ⟨syv, qs⟩ => Hp w0 [] [arenaR pa ba (refsF cs (laysF cs (made0 z0 z1 z2) ths).al (laysF cs (made0 z0 z1 z2) ths).ws rfs), blkR xl (.cells (#[.pointer (some ⟨pa, 0, none⟩), .pointer (some ⟨t13, 0, none⟩), .pointer (some ⟨pa, 0, none⟩), .pointer (some ⟨t13, 0, none⟩), o18, atv, syv, rv, cv]) 36 (0, 0)), ownR 56 encS 3 o18 ((laysF cs (made0 z0 z1 z2) ths).sp), ownR 3 encI 1 atv ((laysF cs (made0 z0 z1 z2) ths).al), ownR 3 encI 1 sv ((laysF cs (made0 z0 z1 z2) ths).st), ownR 3 encI 1 rv (rootsF (laysF cs (made0 z0 z1 z2) ths).al ros), tableR t13 c14 cs, blkR b1 (.cells (#[cv, tv, fv, ov, .int .u8 z0, .int .u8 z1, .int .u8 z2]) 28 (0, 0)), blkR b2 (.cells (#[.pointer none, .pointer none, .pointer none, .pointer none, .slice none 0 0, .slice none 0 0, .slice none 0 0, .slice none 0 0, .slice none 0 0]) 36 (0, 0)), ownR 3 encI 1 syv qs] w ∧ (⟨cs, ths, rfs, ros, z0, z1, z2⟩ : Wd).Stay qs) ?_ ?_
      · have hcs : ∀ x ∈ cs, clsR x = true := List.all_eq_true.1 hallc
        have hWb : (⟨cs, ths, rfs, ros, z0, z1, z2⟩ : Wd).Bd := ⟨hths, hrfs, hros, hz0, hz1, hz2⟩
        have hWi := Wd.inv hWb hcs h64
        have hlen5 : (refsF cs (laysF cs (made0 z0 z1 z2) ths).al (laysF cs (made0 z0 z1 z2) ths).ws rfs).length = 500 := hWi.1.len
        have htj : ros.take j = ros := List.take_of_length_le (by omega)
        rw [htj] at hp
        have hrl : (rootsF (laysF cs (made0 z0 z1 z2) ths).al ros).length = ros.length := by unfold rootsF; rw [List.length_map]
        have hfrm : ∀ x ∈ ([] ++ rootsF (laysF cs (made0 z0 z1 z2) ths).al ros) ++ (laysF cs (made0 z0 z1 z2) ths).st, x = 0 ∨ x ∈ (laysF cs (made0 z0 z1 z2) ths).al := fun x hx => (List.mem_append.1 hx).elim (fun h => Wd.roots_mem hWb x h) (fun h => .inr (Wd.st_mem hWb hcs h64 x h))
        refine W.draw prog_mixed (fun w => True) hp ?_
        intro w hp
        refine WD.v 2 rfl trivial (fun w hS => (X.fa (r := 7) tF36_6 rfl rfl)) ?_
        refine WD.v 5 rfl trivial (fun w hS => (X.mv rfl)) ?_
        refine WD.three 0 1 3 (by kernel_rfl) ?_ ?_ ?_
        · refine WO.call rfl isFn6 rfl rfl (lstore_c (hp.at 0 rfl) (hp.at 1 rfl) (hp.old0 hC) hlen5) ?_
          intro v w hc hr
          obtain ⟨q45, wv46, rfl, hN⟩ := hr
          have hp := hp.adds hN
          refine ⟨trivial, ?_⟩
          refine WD.two 1 3 (by kernel_rfl) ?_ ?_
          · refine WO.bsl hp rfl (e := 3) (cs := #[]) rfl (fun _ => by kernel_rfl) rfl ?_
            intro b47 w hp
            refine ⟨trivial, ?_⟩
            refine WD.one 3 (by kernel_rfl) ?_
            refine WO.val rfl rfl rfl (X.ldk (hp.at 4 rfl) tA34 rfl rfl) trivial ?_
            refine WD.one 4 (by kernel_rfl) ?_
            have hp := hp.ofEmpty 0 rfl encI 1 encI_len (by omega)
            refine WO.append hp 0 rfl rfl tL34 (zeroT_ex tZ3) tS3 tY3 rfl rfl (own_view (hp.at 8 rfl)) encI_one (by simp only [List.length_append, List.length_cons, List.length_nil]; omega) rfl ?_
            intro v48 w hp
            refine ⟨trivial, ?_⟩
            refine WD.one 6 (by kernel_rfl) ?_
            refine WO.append hp 0 rfl rfl tL34 (zeroT_ex tZ3) tS3 tY3 rfl rfl (own_view (hp.at 7 rfl)) encI_one (by simp only [List.length_append, List.length_cons, List.length_nil]; omega) rfl ?_
            intro v49 w hp
            refine ⟨trivial, ?_⟩
            refine WD.one 7 (by kernel_rfl) ?_
            refine WO.call rfl isFn23 rfl rfl (reach_c (al := (laysF cs (made0 z0 z1 z2) ths).al) (hp.at 1 rfl) (own_view (hp.at 2 rfl)) (hp.old0 hC) hcs (own_view (hp.at 0 rfl)) hWi.2 hfrm (by omega) (by (try simp only [List.length_append, List.length_nil]); omega)) ?_
            intro v52 w hc hr
            obtain ⟨q50, hq51, hN⟩ := hr
            have hp := hp.newN hc hN
            have hrq := nodup_len hq51.nd hq51.sub
            refine ⟨trivial, ?_⟩
            refine WD.one 8 (by kernel_rfl) ?_
            refine WO.call rfl isFn22 rfl rfl (sorted_c (own_view (hp.at 0 rfl)) (by omega)) ?_
            intro v56 w hc hr
            obtain ⟨q53, hs54, hs55, hN⟩ := hr
            have hp := hp.newN hc hN
            refine ⟨trivial, ?_⟩
            refine WD.v 9 rfl trivial (fun w hS => (X.fa (r := 6) tF36_5 rfl rfl)) ?_
            refine WD.one 10 (by kernel_rfl) ?_
            refine WO.store hp 6 rfl rfl tS34 rfl rfl (vs := [v56]) (view_cells1 (own_view (hp.at 0 rfl))) (by first | (simp only [List.all_cons, List.all_nil, Bool.and_true, view_one (own_view (hp.at 0 rfl))]; done) | (simp only [List.all_cons, List.all_nil, Bool.and_true, one_int, one_bool, one_ptr, one_map, one_sl, view_one (own_view (hp.at 0 rfl))]; done) | simp [Value.oneCell', view_one (own_view (hp.at 0 rfl))]) rfl (new := #[.pointer (some ⟨pa, 0, none⟩), .pointer (some ⟨t13, 0, none⟩), .pointer (some ⟨pa, 0, none⟩), .pointer (some ⟨t13, 0, none⟩), o18, atv, v56, rv, cv]) rfl ?_
            intro w hp
            refine ⟨trivial, ?_⟩
            refine WD.nil (by kernel_rfl) ?_
            exact X.here (v56, q53) ⟨rfl, rfl, trivial⟩ (by
              exact ⟨(hp.sel [5, 6, 7, 8, 9, 10, 11, 12, 13, 0] (by decide)), hs55, q50, hs54, hq51⟩)
          refine WO.val rfl rfl rfl (X.ldk (hp.at 3 rfl) tA34 rfl rfl) trivial ?_
          refine WD.one 1 (by kernel_rfl) ?_
          refine WO.bsl hp rfl (e := 3) (cs := #[]) rfl (fun _ => by kernel_rfl) rfl ?_
          intro b57 w hp
          refine ⟨trivial, ?_⟩
          refine WD.one 4 (by kernel_rfl) ?_
          have hp := hp.ofEmpty 0 rfl encI 1 encI_len (by omega)
          refine WO.append hp 0 rfl rfl tL34 (zeroT_ex tZ3) tS3 tY3 rfl rfl (own_view (hp.at 8 rfl)) encI_one (by simp only [List.length_append, List.length_cons, List.length_nil]; omega) rfl ?_
          intro v58 w hp
          refine ⟨trivial, ?_⟩
          refine WD.one 6 (by kernel_rfl) ?_
          refine WO.append hp 0 rfl rfl tL34 (zeroT_ex tZ3) tS3 tY3 rfl rfl (own_view (hp.at 7 rfl)) encI_one (by simp only [List.length_append, List.length_cons, List.length_nil]; omega) rfl ?_
          intro v59 w hp
          refine ⟨trivial, ?_⟩
          refine WD.one 7 (by kernel_rfl) ?_
          refine WO.call rfl isFn23 rfl rfl (reach_c (al := (laysF cs (made0 z0 z1 z2) ths).al) (hp.at 1 rfl) (own_view (hp.at 2 rfl)) (hp.old0 hC) hcs (own_view (hp.at 0 rfl)) hWi.2 hfrm (by omega) (by (try simp only [List.length_append, List.length_nil]); omega)) ?_
          intro v62 w hc hr
          obtain ⟨q60, hq61, hN⟩ := hr
          have hp := hp.newN hc hN
          have hrq := nodup_len hq61.nd hq61.sub
          refine ⟨trivial, ?_⟩
          refine WD.one 8 (by kernel_rfl) ?_
          refine WO.call rfl isFn22 rfl rfl (sorted_c (own_view (hp.at 0 rfl)) (by omega)) ?_
          intro v66 w hc hr
          obtain ⟨q63, hs64, hs65, hN⟩ := hr
          have hp := hp.newN hc hN
          refine ⟨trivial, ?_⟩
          refine WD.v 9 rfl trivial (fun w hS => (X.fa (r := 6) tF36_5 rfl rfl)) ?_
          refine WD.one 10 (by kernel_rfl) ?_
          refine WO.store hp 6 rfl rfl tS34 rfl rfl (vs := [v66]) (view_cells1 (own_view (hp.at 0 rfl))) (by first | (simp only [List.all_cons, List.all_nil, Bool.and_true, view_one (own_view (hp.at 0 rfl))]; done) | (simp only [List.all_cons, List.all_nil, Bool.and_true, one_int, one_bool, one_ptr, one_map, one_sl, view_one (own_view (hp.at 0 rfl))]; done) | simp [Value.oneCell', view_one (own_view (hp.at 0 rfl))]) rfl (new := #[.pointer (some ⟨pa, 0, none⟩), .pointer (some ⟨t13, 0, none⟩), .pointer (some ⟨pa, 0, none⟩), .pointer (some ⟨t13, 0, none⟩), o18, atv, v66, rv, cv]) rfl ?_
          intro w hp
          refine ⟨trivial, ?_⟩
          refine WD.nil (by kernel_rfl) ?_
          exact X.here (v66, q63) ⟨rfl, rfl, trivial⟩ (by
            exact ⟨(hp.sel [5, 6, 7, 8, 9, 10, 11, 12, 13, 0] (by decide)), hs65, q60, hs64, hq61⟩)
        · refine WO.bsl hp rfl (e := 3) (cs := #[]) rfl (fun _ => by kernel_rfl) rfl ?_
          intro b67 w hp
          refine ⟨trivial, ?_⟩
          refine WD.two 0 3 (by kernel_rfl) ?_ ?_
          · refine WO.call rfl isFn6 rfl rfl (lstore_c (hp.at 1 rfl) (hp.at 2 rfl) (hp.old0 hC) hlen5) ?_
            intro v w hc hr
            obtain ⟨q68, wv69, rfl, hN⟩ := hr
            have hp := hp.adds hN
            refine ⟨trivial, ?_⟩
            refine WD.one 3 (by kernel_rfl) ?_
            refine WO.val rfl rfl rfl (X.ldk (hp.at 4 rfl) tA34 rfl rfl) trivial ?_
            refine WD.one 4 (by kernel_rfl) ?_
            have hp := hp.ofEmpty 2 rfl encI 1 encI_len (by omega)
            refine WO.append hp 2 rfl rfl tL34 (zeroT_ex tZ3) tS3 tY3 rfl rfl (own_view (hp.at 8 rfl)) encI_one (by simp only [List.length_append, List.length_cons, List.length_nil]; omega) rfl ?_
            intro v70 w hp
            refine ⟨trivial, ?_⟩
            refine WD.one 6 (by kernel_rfl) ?_
            refine WO.append hp 2 rfl rfl tL34 (zeroT_ex tZ3) tS3 tY3 rfl rfl (own_view (hp.at 7 rfl)) encI_one (by simp only [List.length_append, List.length_cons, List.length_nil]; omega) rfl ?_
            intro v71 w hp
            refine ⟨trivial, ?_⟩
            refine WD.one 7 (by kernel_rfl) ?_
            refine WO.call rfl isFn23 rfl rfl (reach_c (al := (laysF cs (made0 z0 z1 z2) ths).al) (hp.at 0 rfl) (own_view (hp.at 1 rfl)) (hp.old0 hC) hcs (own_view (hp.at 2 rfl)) hWi.2 hfrm (by omega) (by (try simp only [List.length_append, List.length_nil]); omega)) ?_
            intro v74 w hc hr
            obtain ⟨q72, hq73, hN⟩ := hr
            have hp := hp.newN hc hN
            have hrq := nodup_len hq73.nd hq73.sub
            refine ⟨trivial, ?_⟩
            refine WD.one 8 (by kernel_rfl) ?_
            refine WO.call rfl isFn22 rfl rfl (sorted_c (own_view (hp.at 0 rfl)) (by omega)) ?_
            intro v78 w hc hr
            obtain ⟨q75, hs76, hs77, hN⟩ := hr
            have hp := hp.newN hc hN
            refine ⟨trivial, ?_⟩
            refine WD.v 9 rfl trivial (fun w hS => (X.fa (r := 6) tF36_5 rfl rfl)) ?_
            refine WD.one 10 (by kernel_rfl) ?_
            refine WO.store hp 6 rfl rfl tS34 rfl rfl (vs := [v78]) (view_cells1 (own_view (hp.at 0 rfl))) (by first | (simp only [List.all_cons, List.all_nil, Bool.and_true, view_one (own_view (hp.at 0 rfl))]; done) | (simp only [List.all_cons, List.all_nil, Bool.and_true, one_int, one_bool, one_ptr, one_map, one_sl, view_one (own_view (hp.at 0 rfl))]; done) | simp [Value.oneCell', view_one (own_view (hp.at 0 rfl))]) rfl (new := #[.pointer (some ⟨pa, 0, none⟩), .pointer (some ⟨t13, 0, none⟩), .pointer (some ⟨pa, 0, none⟩), .pointer (some ⟨t13, 0, none⟩), o18, atv, v78, rv, cv]) rfl ?_
            intro w hp
            refine ⟨trivial, ?_⟩
            refine WD.nil (by kernel_rfl) ?_
            exact X.here (v78, q75) ⟨rfl, rfl, trivial⟩ (by
              exact ⟨(hp.sel [5, 6, 7, 8, 9, 10, 11, 12, 13, 0] (by decide)), hs77, q72, hs76, hq73⟩)
          refine WO.val rfl rfl rfl (X.ldk (hp.at 2 rfl) tA34 rfl rfl) trivial ?_
          refine WD.one 0 (by kernel_rfl) ?_
          refine WO.call rfl isFn6 rfl rfl (lstore_c (hp.at 1 rfl) (hp.at 2 rfl) (hp.old0 hC) hlen5) ?_
          intro v w hc hr
          obtain ⟨q79, wv80, rfl, hN⟩ := hr
          have hp := hp.adds hN
          refine ⟨trivial, ?_⟩
          refine WD.one 4 (by kernel_rfl) ?_
          have hp := hp.ofEmpty 2 rfl encI 1 encI_len (by omega)
          refine WO.append hp 2 rfl rfl tL34 (zeroT_ex tZ3) tS3 tY3 rfl rfl (own_view (hp.at 8 rfl)) encI_one (by simp only [List.length_append, List.length_cons, List.length_nil]; omega) rfl ?_
          intro v81 w hp
          refine ⟨trivial, ?_⟩
          refine WD.one 6 (by kernel_rfl) ?_
          refine WO.append hp 2 rfl rfl tL34 (zeroT_ex tZ3) tS3 tY3 rfl rfl (own_view (hp.at 7 rfl)) encI_one (by simp only [List.length_append, List.length_cons, List.length_nil]; omega) rfl ?_
          intro v82 w hp
          refine ⟨trivial, ?_⟩
          refine WD.one 7 (by kernel_rfl) ?_
          refine WO.call rfl isFn23 rfl rfl (reach_c (al := (laysF cs (made0 z0 z1 z2) ths).al) (hp.at 0 rfl) (own_view (hp.at 1 rfl)) (hp.old0 hC) hcs (own_view (hp.at 2 rfl)) hWi.2 hfrm (by omega) (by (try simp only [List.length_append, List.length_nil]); omega)) ?_
          intro v85 w hc hr
          obtain ⟨q83, hq84, hN⟩ := hr
          have hp := hp.newN hc hN
          have hrq := nodup_len hq84.nd hq84.sub
          refine ⟨trivial, ?_⟩
          refine WD.one 8 (by kernel_rfl) ?_
          refine WO.call rfl isFn22 rfl rfl (sorted_c (own_view (hp.at 0 rfl)) (by omega)) ?_
          intro v89 w hc hr
          obtain ⟨q86, hs87, hs88, hN⟩ := hr
          have hp := hp.newN hc hN
          refine ⟨trivial, ?_⟩
          refine WD.v 9 rfl trivial (fun w hS => (X.fa (r := 6) tF36_5 rfl rfl)) ?_
          refine WD.one 10 (by kernel_rfl) ?_
          refine WO.store hp 6 rfl rfl tS34 rfl rfl (vs := [v89]) (view_cells1 (own_view (hp.at 0 rfl))) (by first | (simp only [List.all_cons, List.all_nil, Bool.and_true, view_one (own_view (hp.at 0 rfl))]; done) | (simp only [List.all_cons, List.all_nil, Bool.and_true, one_int, one_bool, one_ptr, one_map, one_sl, view_one (own_view (hp.at 0 rfl))]; done) | simp [Value.oneCell', view_one (own_view (hp.at 0 rfl))]) rfl (new := #[.pointer (some ⟨pa, 0, none⟩), .pointer (some ⟨t13, 0, none⟩), .pointer (some ⟨pa, 0, none⟩), .pointer (some ⟨t13, 0, none⟩), o18, atv, v89, rv, cv]) rfl ?_
          intro w hp
          refine ⟨trivial, ?_⟩
          refine WD.nil (by kernel_rfl) ?_
          exact X.here (v89, q86) ⟨rfl, rfl, trivial⟩ (by
            exact ⟨(hp.sel [5, 6, 7, 8, 9, 10, 11, 12, 13, 0] (by decide)), hs88, q83, hs87, hq84⟩)
        refine WO.val rfl rfl rfl (X.ldk (hp.at 1 rfl) tA34 rfl rfl) trivial ?_
        refine WD.two 0 1 (by kernel_rfl) ?_ ?_
        · refine WO.call rfl isFn6 rfl rfl (lstore_c (hp.at 0 rfl) (hp.at 1 rfl) (hp.old0 hC) hlen5) ?_
          intro v w hc hr
          obtain ⟨q90, wv91, rfl, hN⟩ := hr
          have hp := hp.adds hN
          refine ⟨trivial, ?_⟩
          refine WD.one 1 (by kernel_rfl) ?_
          refine WO.bsl hp rfl (e := 3) (cs := #[]) rfl (fun _ => by kernel_rfl) rfl ?_
          intro b92 w hp
          refine ⟨trivial, ?_⟩
          refine WD.one 4 (by kernel_rfl) ?_
          have hp := hp.ofEmpty 0 rfl encI 1 encI_len (by omega)
          refine WO.append hp 0 rfl rfl tL34 (zeroT_ex tZ3) tS3 tY3 rfl rfl (own_view (hp.at 8 rfl)) encI_one (by simp only [List.length_append, List.length_cons, List.length_nil]; omega) rfl ?_
          intro v93 w hp
          refine ⟨trivial, ?_⟩
          refine WD.one 6 (by kernel_rfl) ?_
          refine WO.append hp 0 rfl rfl tL34 (zeroT_ex tZ3) tS3 tY3 rfl rfl (own_view (hp.at 7 rfl)) encI_one (by simp only [List.length_append, List.length_cons, List.length_nil]; omega) rfl ?_
          intro v94 w hp
          refine ⟨trivial, ?_⟩
          refine WD.one 7 (by kernel_rfl) ?_
          refine WO.call rfl isFn23 rfl rfl (reach_c (al := (laysF cs (made0 z0 z1 z2) ths).al) (hp.at 1 rfl) (own_view (hp.at 2 rfl)) (hp.old0 hC) hcs (own_view (hp.at 0 rfl)) hWi.2 hfrm (by omega) (by (try simp only [List.length_append, List.length_nil]); omega)) ?_
          intro v97 w hc hr
          obtain ⟨q95, hq96, hN⟩ := hr
          have hp := hp.newN hc hN
          have hrq := nodup_len hq96.nd hq96.sub
          refine ⟨trivial, ?_⟩
          refine WD.one 8 (by kernel_rfl) ?_
          refine WO.call rfl isFn22 rfl rfl (sorted_c (own_view (hp.at 0 rfl)) (by omega)) ?_
          intro v101 w hc hr
          obtain ⟨q98, hs99, hs100, hN⟩ := hr
          have hp := hp.newN hc hN
          refine ⟨trivial, ?_⟩
          refine WD.v 9 rfl trivial (fun w hS => (X.fa (r := 6) tF36_5 rfl rfl)) ?_
          refine WD.one 10 (by kernel_rfl) ?_
          refine WO.store hp 6 rfl rfl tS34 rfl rfl (vs := [v101]) (view_cells1 (own_view (hp.at 0 rfl))) (by first | (simp only [List.all_cons, List.all_nil, Bool.and_true, view_one (own_view (hp.at 0 rfl))]; done) | (simp only [List.all_cons, List.all_nil, Bool.and_true, one_int, one_bool, one_ptr, one_map, one_sl, view_one (own_view (hp.at 0 rfl))]; done) | simp [Value.oneCell', view_one (own_view (hp.at 0 rfl))]) rfl (new := #[.pointer (some ⟨pa, 0, none⟩), .pointer (some ⟨t13, 0, none⟩), .pointer (some ⟨pa, 0, none⟩), .pointer (some ⟨t13, 0, none⟩), o18, atv, v101, rv, cv]) rfl ?_
          intro w hp
          refine ⟨trivial, ?_⟩
          refine WD.nil (by kernel_rfl) ?_
          exact X.here (v101, q98) ⟨rfl, rfl, trivial⟩ (by
            exact ⟨(hp.sel [5, 6, 7, 8, 9, 10, 11, 12, 13, 0] (by decide)), hs100, q95, hs99, hq96⟩)
        refine WO.bsl hp rfl (e := 3) (cs := #[]) rfl (fun _ => by kernel_rfl) rfl ?_
        intro b102 w hp
        refine ⟨trivial, ?_⟩
        refine WD.one 0 (by kernel_rfl) ?_
        refine WO.call rfl isFn6 rfl rfl (lstore_c (hp.at 1 rfl) (hp.at 2 rfl) (hp.old0 hC) hlen5) ?_
        intro v w hc hr
        obtain ⟨q103, wv104, rfl, hN⟩ := hr
        have hp := hp.adds hN
        refine ⟨trivial, ?_⟩
        refine WD.one 4 (by kernel_rfl) ?_
        have hp := hp.ofEmpty 2 rfl encI 1 encI_len (by omega)
        refine WO.append hp 2 rfl rfl tL34 (zeroT_ex tZ3) tS3 tY3 rfl rfl (own_view (hp.at 8 rfl)) encI_one (by simp only [List.length_append, List.length_cons, List.length_nil]; omega) rfl ?_
        intro v105 w hp
        refine ⟨trivial, ?_⟩
        refine WD.one 6 (by kernel_rfl) ?_
        refine WO.append hp 2 rfl rfl tL34 (zeroT_ex tZ3) tS3 tY3 rfl rfl (own_view (hp.at 7 rfl)) encI_one (by simp only [List.length_append, List.length_cons, List.length_nil]; omega) rfl ?_
        intro v106 w hp
        refine ⟨trivial, ?_⟩
        refine WD.one 7 (by kernel_rfl) ?_
        refine WO.call rfl isFn23 rfl rfl (reach_c (al := (laysF cs (made0 z0 z1 z2) ths).al) (hp.at 0 rfl) (own_view (hp.at 1 rfl)) (hp.old0 hC) hcs (own_view (hp.at 2 rfl)) hWi.2 hfrm (by omega) (by (try simp only [List.length_append, List.length_nil]); omega)) ?_
        intro v109 w hc hr
        obtain ⟨q107, hq108, hN⟩ := hr
        have hp := hp.newN hc hN
        have hrq := nodup_len hq108.nd hq108.sub
        refine ⟨trivial, ?_⟩
        refine WD.one 8 (by kernel_rfl) ?_
        refine WO.call rfl isFn22 rfl rfl (sorted_c (own_view (hp.at 0 rfl)) (by omega)) ?_
        intro v113 w hc hr
        obtain ⟨q110, hs111, hs112, hN⟩ := hr
        have hp := hp.newN hc hN
        refine ⟨trivial, ?_⟩
        refine WD.v 9 rfl trivial (fun w hS => (X.fa (r := 6) tF36_5 rfl rfl)) ?_
        refine WD.one 10 (by kernel_rfl) ?_
        refine WO.store hp 6 rfl rfl tS34 rfl rfl (vs := [v113]) (view_cells1 (own_view (hp.at 0 rfl))) (by first | (simp only [List.all_cons, List.all_nil, Bool.and_true, view_one (own_view (hp.at 0 rfl))]; done) | (simp only [List.all_cons, List.all_nil, Bool.and_true, one_int, one_bool, one_ptr, one_map, one_sl, view_one (own_view (hp.at 0 rfl))]; done) | simp [Value.oneCell', view_one (own_view (hp.at 0 rfl))]) rfl (new := #[.pointer (some ⟨pa, 0, none⟩), .pointer (some ⟨t13, 0, none⟩), .pointer (some ⟨pa, 0, none⟩), .pointer (some ⟨t13, 0, none⟩), o18, atv, v113, rv, cv]) rfl ?_
        intro w hp
        refine ⟨trivial, ?_⟩
        refine WD.nil (by kernel_rfl) ?_
        exact X.here (v113, q110) ⟨rfl, rfl, trivial⟩ (by
          exact ⟨(hp.sel [5, 6, 7, 8, 9, 10, 11, 12, 13, 0] (by decide)), hs112, q107, hs111, hq108⟩)
      rintro ⟨syv, qs⟩ w ⟨hp, hstay⟩
      refine W.sr ?_
      refine WL.v (X.ldkA (hp.at 1 rfl) tA36 tS36 (vs := [.pointer (some ⟨pa, 0, none⟩), .pointer (some ⟨t13, 0, none⟩), .pointer (some ⟨pa, 0, none⟩), .pointer (some ⟨t13, 0, none⟩), o18, atv, syv, rv, cv]) rfl rfl) ?_
      refine WL.store hp 8 rfl tS36 rfl rfl (vs := [.pointer (some ⟨pa, 0, none⟩), .pointer (some ⟨t13, 0, none⟩), .pointer (some ⟨pa, 0, none⟩), .pointer (some ⟨t13, 0, none⟩), o18, atv, syv, rv, cv]) rfl (by first | (simp only [List.all_cons, List.all_nil, Bool.and_true, view_one (own_view (hp.at 2 rfl)), view_one (own_view (hp.at 3 rfl)), view_one (own_view (hp.at 9 rfl)), view_one (own_view (hp.at 5 rfl)), view_one (hp.old0 hC)]; done) | (simp only [List.all_cons, List.all_nil, Bool.and_true, one_int, one_bool, one_ptr, one_map, one_sl, view_one (own_view (hp.at 2 rfl)), view_one (own_view (hp.at 3 rfl)), view_one (own_view (hp.at 9 rfl)), view_one (own_view (hp.at 5 rfl)), view_one (hp.old0 hC)]; done) | simp [Value.oneCell', view_one (own_view (hp.at 2 rfl)), view_one (own_view (hp.at 3 rfl)), view_one (own_view (hp.at 9 rfl)), view_one (own_view (hp.at 5 rfl)), view_one (hp.old0 hC)]) rfl (new := #[.pointer (some ⟨pa, 0, none⟩), .pointer (some ⟨t13, 0, none⟩), .pointer (some ⟨pa, 0, none⟩), .pointer (some ⟨t13, 0, none⟩), o18, atv, syv, rv, cv]) rfl ?_
      intro w hp
      refine WL.run 1 rfl ?_
      refine WL.fin ?_
      refine W.ret ?_
      refine W.done hp (rs := [.cell 2 36, .tmp 3]) (vs := [.agg #[.pointer (some ⟨pa, 0, none⟩), .pointer (some ⟨t13, 0, none⟩), .pointer (some ⟨pa, 0, none⟩), .pointer (some ⟨t13, 0, none⟩), o18, atv, syv, rv, cv], .bool true]) (v := .tuple #[.agg #[.pointer (some ⟨pa, 0, none⟩), .pointer (some ⟨t13, 0, none⟩), .pointer (some ⟨pa, 0, none⟩), .pointer (some ⟨t13, 0, none⟩), o18, atv, syv, rv, cv], .bool true]) rfl ⟨⟨_, rfl, run_loadVarB hp 8 rfl tA36 tS36 (vs := [.pointer (some ⟨pa, 0, none⟩), .pointer (some ⟨t13, 0, none⟩), .pointer (some ⟨pa, 0, none⟩), .pointer (some ⟨t13, 0, none⟩), o18, atv, syv, rv, cv]) rfl⟩, rfl, trivial⟩ rfl ?_
      exact .inr ⟨⟨hne, hallc, h64, by show ths.length ≤ 60; omega, by show rfs.length ≤ 200; omega, by show ros.length ≤ 20; omega⟩, pa, ba, t13, c14, o18, atv, syv, rv, qs, hstay, rfl, (hp.sel [0, 6, 2, 3, 9, 5] (by decide))⟩
    · exact absurd hallc hn15
    exact absurd h64 hn15
  have hp := hp.ext hc
  refine WL.g1 rfl rfl (decide_eq_false hc7) ?_
  refine WL.run 1 rfl ?_
  refine WL.v (X.pkF rfl (decide_eq_false hc7) rfl) ?_
  refine WL.fin ?_
  refine W.cT rfl (decide_eq_true he11) ?_
  refine W.sr ?_
  refine WL.v (X.bld (v := .agg #[.pointer none, .pointer none, .pointer none, .pointer none, .slice none 0 0, .slice none 0 0, .slice none 0 0, .slice none 0 0, .slice none 0 0]) rfl (by kernel_rfl)) ?_
  refine WL.store hp 0 rfl tS36 rfl rfl (vs := [.pointer none, .pointer none, .pointer none, .pointer none, .slice none 0 0, .slice none 0 0, .slice none 0 0, .slice none 0 0, .slice none 0 0]) rfl rfl rfl (new := #[.pointer none, .pointer none, .pointer none, .pointer none, .slice none 0 0, .slice none 0 0, .slice none 0 0, .slice none 0 0, .slice none 0 0]) rfl ?_
  intro w hp
  refine WL.run 1 rfl ?_
  refine WL.fin ?_
  refine W.ret ?_
  refine X.thenR ?_
  refine W.done hp (rs := [.cell 2 36, .tmp 3]) (vs := [.agg #[.pointer none, .pointer none, .pointer none, .pointer none, .slice none 0 0, .slice none 0 0, .slice none 0 0, .slice none 0 0, .slice none 0 0], .bool false]) (v := .tuple #[.agg #[.pointer none, .pointer none, .pointer none, .pointer none, .slice none 0 0, .slice none 0 0, .slice none 0 0, .slice none 0 0, .slice none 0 0], .bool false]) rfl ⟨⟨_, rfl, run_loadVarB hp 0 rfl tA36 tS36 (vs := [.pointer none, .pointer none, .pointer none, .pointer none, .slice none 0 0, .slice none 0 0, .slice none 0 0, .slice none 0 0, .slice none 0 0]) rfl⟩, rfl, trivial⟩ rfl ?_
  exact .inl rfl
end Go.Proofs.YtmmmbkmjkpfleaaGreat
