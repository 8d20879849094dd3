/- Walks, printed by gen.py from the specs A: what each function answers. No statement of the seat is proved here; conditions: each theorem's own. -/
import Derived.Test.YtmmmbkmjkpfleaaGreatResB
namespace Go.Proofs.YtmmmbkmjkpfleaaGreat
open Go Go.RowKit

theorem len_c {w0 : World} {p b : Nat} {ws : List Int} (hA : (arenaR p b ws).ok w0) :
    Calls Tryz.prog 31 #[.pointer (some ⟨p, 0, none⟩)] w0 (Ret [] w0 (fun v _ => v = .int .i64 ws.length)) := by
  have hp : Hp w0 [] [] w0 := Hp.init w0
  refine enter (vs := [.pointer (some ⟨p, 0, none⟩)]) Tryz.func31 rfl rfl rfl ?_
  refine gen_world hp ?_
  intro w hp
  refine W.sr ?_
  refine WL.run 1 rfl ?_
  refine WL.s ?_
  refine W.sr ?_
  refine WL.run 1 rfl ?_
  refine WL.v (X.eqPn tP29 rfl rfl) ?_
  refine WL.fin ?_
  refine W.cF rfl rfl ?_
  refine W.ks ?_
  refine WL.run 3 rfl ?_
  refine WL.v (X.ld1 tA34 rfl (arena_head (hp.old0 hA))) ?_
  refine WL.v (X.len tL34 rfl) ?_
  refine WL.run 1 rfl ?_
  refine WL.fin ?_
  refine W.ret ?_
  refine W.done hp (rs := [.tmp 2]) (vs := [.int .i64 (ws.length : Int)]) (v := .int .i64 (ws.length : Int)) rfl ⟨rfl, trivial⟩ rfl ?_
  exact rfl

theorem stretch_c {w0 : World} {p b : Nat} {ws : List Int} {a k : Int} (hA : (arenaR p b ws).ok w0) :
    Calls Tryz.prog 47 #[.pointer (some ⟨p, 0, none⟩), .int .i64 a, .int .i64 k] w0 (Ret [] w0 (fun v _ => (0 ≤ a ∧ 0 < k ∧ a + k ≤ ws.length ∧ v = .tuple #[.slice (some ⟨b, a.toNat, none⟩) k.toNat (ws.length - a.toNat), .bool true]) ∨ (0 ≤ a ∧ k = 0 ∧ a ≤ ws.length ∧ v = .tuple #[.slice none 0 0, .bool true]) ∨ (¬ (0 ≤ a ∧ 0 ≤ k ∧ a + k ≤ ws.length) ∧ v = .tuple #[.slice none 0 0, .bool false]))) := by
  have hp : Hp w0 [] [] w0 := Hp.init w0
  have hsm := arena_small hA
  refine enter (vs := [.pointer (some ⟨p, 0, none⟩), .int .i64 a, .int .i64 k]) Tryz.func47 rfl rfl rfl ?_
  refine gen_world hp ?_
  intro w hp
  refine W.sr ?_
  refine WL.run 2 rfl ?_
  refine WL.a ?_
  refine WL.run 1 rfl ?_
  refine WL.call isFn31 rfl rfl (len_c (hp.old0 hA)) ?_
  intro v w hc hr
  obtain rfl := hr
  have hp := hp.ext hc
  refine WL.run 1 rfl ?_
  refine WL.s ?_
  refine W.sr ?_
  refine WL.run 3 rfl ?_
  by_cases hc1 : k < 0
  · refine WL.g0 rfl rfl (decide_eq_true hc1) rfl ?_
    refine WL.g0 rfl rfl (decide_eq_true hc1) rfl ?_
    refine WL.v (X.pkT rfl (decide_eq_true hc1) rfl) ?_
    refine WL.run 1 rfl ?_
    refine WL.g0 rfl rfl rfl rfl ?_
    refine WL.g0 rfl rfl rfl rfl ?_
    refine WL.g0 rfl rfl rfl rfl ?_
    refine WL.v (X.pkT rfl rfl rfl) ?_
    refine WL.run 1 rfl ?_
    refine WL.g0 rfl rfl rfl rfl ?_
    refine WL.g0 rfl rfl rfl rfl ?_
    refine WL.g0 rfl rfl rfl rfl ?_
    refine WL.g0 rfl rfl rfl rfl ?_
    refine WL.g0 rfl rfl rfl rfl ?_
    refine WL.v (X.pkT rfl rfl rfl) ?_
    refine WL.fin ?_
    refine W.cT rfl rfl ?_
    refine W.sr ?_
    refine WL.run 2 rfl ?_
    refine WL.fin ?_
    refine W.ret ?_
    refine X.thenR ?_
    refine W.done hp (rs := [.tmp 6, .tmp 7]) (vs := [.slice none 0 0, .bool false]) (v := .tuple #[.slice none 0 0, .bool false]) rfl ⟨rfl, rfl, trivial⟩ rfl ?_
    first | exact .inl ⟨by omega, by omega, by omega, rfl⟩ | exact .inr (.inl ⟨by omega, by omega, by omega, rfl⟩) | exact .inr (.inr ⟨by omega, rfl⟩)
  refine WL.g1 rfl rfl (decide_eq_false hc1) ?_
  refine WL.run 1 rfl ?_
  refine WL.g1 rfl rfl (decide_eq_false hc1) ?_
  refine WL.run 1 rfl ?_
  refine WL.v (X.pkF rfl (decide_eq_false hc1) rfl) ?_
  refine WL.run 1 rfl ?_
  by_cases hc2 : a < 0
  · refine WL.g0 rfl rfl (decide_eq_true hc2) rfl ?_
    refine WL.g0 rfl rfl (decide_eq_true hc2) rfl ?_
    refine WL.g0 rfl rfl (decide_eq_true hc2) rfl ?_
    refine WL.v (X.pkT rfl (decide_eq_true hc2) rfl) ?_
    refine WL.run 1 rfl ?_
    refine WL.g0 rfl rfl rfl rfl ?_
    refine WL.g0 rfl rfl rfl rfl ?_
    refine WL.g0 rfl rfl rfl rfl ?_
    refine WL.g0 rfl rfl rfl rfl ?_
    refine WL.g0 rfl rfl rfl rfl ?_
    refine WL.v (X.pkT rfl rfl rfl) ?_
    refine WL.fin ?_
    refine W.cT rfl rfl ?_
    refine W.sr ?_
    refine WL.run 2 rfl ?_
    refine WL.fin ?_
    refine W.ret ?_
    refine X.thenR ?_
    refine W.done hp (rs := [.tmp 6, .tmp 7]) (vs := [.slice none 0 0, .bool false]) (v := .tuple #[.slice none 0 0, .bool false]) rfl ⟨rfl, rfl, trivial⟩ rfl ?_
    first | exact .inl ⟨by omega, by omega, by omega, rfl⟩ | exact .inr (.inl ⟨by omega, by omega, by omega, rfl⟩) | exact .inr (.inr ⟨by omega, rfl⟩)
  refine WL.g1 rfl rfl (decide_eq_false hc2) ?_
  refine WL.run 1 rfl ?_
  refine WL.g1 rfl rfl (decide_eq_false hc2) ?_
  refine WL.run 1 rfl ?_
  refine WL.g1 rfl rfl (decide_eq_false hc2) ?_
  refine WL.run 1 rfl ?_
  refine WL.v (X.pkF rfl (decide_eq_false hc2) rfl) ?_
  refine WL.run 1 rfl ?_
  by_cases hc3 : (ws.length : Int) < a
  · refine WL.g0 rfl rfl (decide_eq_true hc3) rfl ?_
    refine WL.g0 rfl rfl (decide_eq_true hc3) rfl ?_
    refine WL.g0 rfl rfl (decide_eq_true hc3) rfl ?_
    refine WL.g0 rfl rfl (decide_eq_true hc3) rfl ?_
    refine WL.g0 rfl rfl (decide_eq_true hc3) rfl ?_
    refine WL.v (X.pkT rfl (decide_eq_true hc3) rfl) ?_
    refine WL.fin ?_
    refine W.cT rfl rfl ?_
    refine W.sr ?_
    refine WL.run 2 rfl ?_
    refine WL.fin ?_
    refine W.ret ?_
    refine X.thenR ?_
    refine W.done hp (rs := [.tmp 6, .tmp 7]) (vs := [.slice none 0 0, .bool false]) (v := .tuple #[.slice none 0 0, .bool false]) rfl ⟨rfl, rfl, trivial⟩ rfl ?_
    first | exact .inl ⟨by omega, by omega, by omega, rfl⟩ | exact .inr (.inl ⟨by omega, by omega, by omega, rfl⟩) | exact .inr (.inr ⟨by omega, rfl⟩)
  refine WL.g1 rfl rfl (decide_eq_false hc3) ?_
  refine WL.run 1 rfl ?_
  refine WL.g1 rfl rfl (decide_eq_false hc3) ?_
  refine WL.run 1 rfl ?_
  refine WL.g1 rfl rfl (decide_eq_false hc3) ?_
  refine WL.run 1 rfl ?_
  refine WL.g1 rfl rfl (decide_eq_false hc3) ?_
  refine WL.v (X.sub rfl rfl (in64 (by omega))) ?_
  refine WL.g1 rfl rfl (decide_eq_false hc3) ?_
  refine WL.run 1 rfl ?_
  refine WL.v (X.pkF rfl (decide_eq_false hc3) rfl) ?_
  refine WL.fin ?_
  by_cases hc4 : ((ws.length : Int) - a) < k
  · refine W.cT rfl (decide_eq_true hc4) ?_
    refine W.sr ?_
    refine WL.run 2 rfl ?_
    refine WL.fin ?_
    refine W.ret ?_
    refine X.thenR ?_
    refine W.done hp (rs := [.tmp 6, .tmp 7]) (vs := [.slice none 0 0, .bool false]) (v := .tuple #[.slice none 0 0, .bool false]) rfl ⟨rfl, rfl, trivial⟩ rfl ?_
    first | exact .inl ⟨by omega, by omega, by omega, rfl⟩ | exact .inr (.inl ⟨by omega, by omega, by omega, rfl⟩) | exact .inr (.inr ⟨by omega, rfl⟩)
  refine W.cF rfl (decide_eq_false hc4) ?_
  refine W.k ?_
  refine W.seq ?_
  refine W.sr ?_
  refine WL.run 2 rfl ?_
  refine WL.fin ?_
  by_cases hc5 : k = 0
  · refine W.cT rfl (decide_eq_true hc5) ?_
    refine W.sr ?_
    refine WL.run 2 rfl ?_
    refine WL.fin ?_
    refine W.ret ?_
    refine X.thenR ?_
    refine W.done hp (rs := [.tmp 6, .tmp 7]) (vs := [.slice none 0 0, .bool true]) (v := .tuple #[.slice none 0 0, .bool true]) rfl ⟨rfl, rfl, trivial⟩ rfl ?_
    first | exact .inl ⟨by omega, by omega, by omega, rfl⟩ | exact .inr (.inl ⟨by omega, by omega, by omega, rfl⟩) | exact .inr (.inr ⟨by omega, rfl⟩)
  refine W.cF rfl (decide_eq_false hc5) ?_
  refine W.ks ?_
  refine WL.run 3 rfl ?_
  refine WL.v (X.ld1 tA34 rfl (arena_head (hp.old0 hA))) ?_
  refine WL.run 3 rfl ?_
  refine WL.v (X.add rfl rfl (in64 (by omega))) ?_
  refine WL.v (X.slc (lo := a.toNat) (hi := ((a + k).toNat)) (r := .slice (some ⟨b, a.toNat, none⟩) k.toNat (ws.length - a.toNat)) tL34 tS3 rfl rfl rfl (by omega) (by omega) (by omega) (by omega) (by omega) (slice_eq (by omega) (by omega) rfl)) ?_
  refine WL.run 2 rfl ?_
  refine WL.fin ?_
  refine W.ret ?_
  refine W.done hp (rs := [.tmp 6, .tmp 7]) (vs := [.slice (some ⟨b, a.toNat, none⟩) k.toNat (ws.length - a.toNat), .bool true]) (v := .tuple #[.slice (some ⟨b, a.toNat, none⟩) k.toNat (ws.length - a.toNat), .bool true]) rfl ⟨rfl, rfl, trivial⟩ rfl ?_
  first | exact .inl ⟨by omega, by omega, by omega, rfl⟩ | exact .inr (.inl ⟨by omega, by omega, by omega, rfl⟩) | exact .inr (.inr ⟨by omega, rfl⟩)

theorem load_c {w0 : World} {p b : Nat} {ws : List Int} {a : Int} (hA : (arenaR p b ws).ok w0) :
    Calls Tryz.prog 99 #[.pointer (some ⟨p, 0, none⟩), .int .i64 a] w0 (Ret [] w0 (fun v _ => (0 ≤ a ∧ a < ws.length ∧ v = .tuple #[.int .i64 (gi ws a), .int .i64 0]) ∨ (¬ (0 ≤ a ∧ a < ws.length) ∧ v = .tuple #[.int .i64 0, .int .i64 2]))) := by
  have hp : Hp w0 [] [] w0 := Hp.init w0
  have hsm := arena_small hA
  refine enter (vs := [.pointer (some ⟨p, 0, none⟩), .int .i64 a]) Tryz.func99 rfl rfl rfl ?_
  refine gen_world hp ?_
  intro w hp
  refine W.sr ?_
  refine WL.run 2 rfl ?_
  refine WL.a ?_
  refine WL.run 2 rfl ?_
  refine WL.call isFn47 rfl rfl (stretch_c (a := a) (k := 1) (hp.old0 hA)) ?_
  intro v w hc hr
  rcases hr with ⟨hs1, hs2, hs3, rfl⟩ | ⟨hs1, hs2, hs3, rfl⟩ | ⟨hs4, rfl⟩
  · have hp := hp.ext hc
    refine WL.run 5 rfl ?_
    refine WL.s ?_
    refine W.sr ?_
    refine WL.run 2 rfl ?_
    refine WL.fin ?_
    refine W.cF rfl rfl ?_
    refine W.ks ?_
    refine WL.run 1 rfl ?_
    refine WL.v (X.idxS (j := 0) (r := a.toNat) tL34 tS3 rfl rfl (by omega) (by omega) (by omega)) ?_
    refine WL.v (X.ld1 tA3 rfl (arena_cell (j := a.toNat) (hp.old0 hA) (by omega) (by omega))) ?_
    refine WL.run 2 rfl ?_
    refine WL.fin ?_
    refine W.ret ?_
    refine W.done hp (rs := [.tmp 4, .tmp 5]) (vs := [.int .i64 (ws.getD a.toNat 0), .int .i64 0]) (v := .tuple #[.int .i64 (ws.getD a.toNat 0), .int .i64 0]) rfl ⟨rfl, rfl, trivial⟩ rfl ?_
    first | exact .inl ⟨by omega, by omega, rfl⟩ | exact .inr ⟨by omega, rfl⟩
  · (try simp only [fillW_length, moveW_length, List.length_set] at hs1 hs2 hs3); first | contradiction | (exfalso; omega) | (exfalso; simp_all; done)
  have hp := hp.ext hc
  refine WL.run 5 rfl ?_
  refine WL.s ?_
  refine W.sr ?_
  refine WL.run 2 rfl ?_
  refine WL.fin ?_
  refine W.cT rfl rfl ?_
  refine W.sr ?_
  refine WL.run 2 rfl ?_
  refine WL.fin ?_
  refine W.ret ?_
  refine X.thenR ?_
  refine W.done hp (rs := [.tmp 4, .tmp 5]) (vs := [.int .i64 0, .int .i64 2]) (v := .tuple #[.int .i64 0, .int .i64 2]) rfl ⟨rfl, rfl, trivial⟩ rfl ?_
  first | exact .inl ⟨by omega, by omega, rfl⟩ | exact .inr ⟨by omega, rfl⟩

theorem fill_c {w0 : World} {p b : Nat} {ws : List Int} {a k x : Int} (hA : (arenaR p b ws).ok w0) :
    Calls Tryz.prog 86 #[.pointer (some ⟨p, 0, none⟩), .int .i64 a, .int .i64 k, .int .i64 x] w0 (Ret [p, b] w0 (fun v w => (0 ≤ a ∧ 0 ≤ k ∧ a + k ≤ ws.length ∧ v = .int .i64 0 ∧ (arenaR p b (fillW ws a.toNat k.toNat x)).ok w) ∨ (¬ (0 ≤ a ∧ 0 ≤ k ∧ a + k ≤ ws.length) ∧ v = .int .i64 2 ∧ (arenaR p b ws).ok w))) := by
  have hp : Hp w0 [p, b] [arenaR p b ws] w0 := Hp.one hA (arena_nd hA)
  have hsm := arena_small hA
  refine enter (vs := [.pointer (some ⟨p, 0, none⟩), .int .i64 a, .int .i64 k, .int .i64 x]) Tryz.func86 rfl rfl rfl ?_
  refine gen_world hp ?_
  intro w hp
  refine W.sr ?_
  refine WL.run 1 rfl ?_
  refine WL.a ?_
  refine WL.run 3 rfl ?_
  refine WL.call isFn47 rfl rfl (stretch_c (a := a) (k := k) (hp.at 0 rfl)) ?_
  intro v w hc hr
  rcases hr with ⟨hs1, hs2, hs3, rfl⟩ | ⟨hs1, hs2, hs3, rfl⟩ | ⟨hs4, rfl⟩
  · have hp := hp.ext hc
    refine WL.run 5 rfl ?_
    refine WL.s ?_
    refine W.sr ?_
    refine WL.run 2 rfl ?_
    refine WL.fin ?_
    refine W.cF rfl rfl ?_
    refine W.k ?_
    refine W.seq ?_
    refine W.sr ?_
    refine WL.run 1 rfl ?_
    refine WL.v (X.len tL34 rfl) ?_
    refine WL.run 1 rfl ?_
    refine WL.fin ?_
    refine W.block ?_
    refine W.loop (X := Nat) (fun i => k.toNat - i) (fun i => [(3, .int .i64 x), (9, .slice (some ⟨b, a.toNat, none⟩) k.toNat (ws.length - a.toNat)), (22, .int .i64 (k.toNat : Int)), (23, .int .i64 (i : Int))]) (fun i w => Hp w0 [p, b] [arenaR p b (fillW ws a.toNat i x)] w ∧ i ≤ k.toNat) 0 ⟨rfl, rfl, rfl, rfl, trivial⟩ ?_ ?_
    · exact ⟨by rw [fillW_zero]; exact hp, by omega⟩
    rintro i w ⟨hp, hi⟩
    refine W.sr ?_
    refine WL.run 1 rfl ?_
    refine WL.s ?_
    by_cases hc5 : (i : Int) < (k.toNat : Int)
    · refine W.cT rfl (decide_eq_true hc5) ?_
      refine W.k ?_
      refine W.seq ?_
      refine W.block ?_
      refine W.sr ?_
      refine WL.run 2 rfl ?_
      refine WL.b ?_
      refine WL.run 3 rfl ?_
      refine WL.v (X.idxS (j := i) (r := a.toNat + i) tL34 tS3 rfl rfl (by omega) (by omega) (by omega)) ?_
      refine WL.stArena (j := a.toNat + i) hp 0 rfl tS3 rfl rfl (by simp only [fillW_length]; omega) (by omega) ?_
      intro w hp
      refine WL.nil ?_
      refine X.inN ?_
      refine X.thenN ?_
      refine W.reg ?_
      refine WL.v (X.add rfl rfl (in64 (by omega))) ?_
      refine WL.run 1 rfl ?_
      refine WL.nil ?_
      refine X.again (i + 1) ⟨rfl, rfl, rfl, rfl, trivial⟩ ?_ ?_
      · exact ⟨by rw [← fillW_succ]; exact hp, by omega⟩
      · omega
    refine W.cF rfl (decide_eq_false hc5) ?_
    refine W.exit ?_
    refine X.thenE ?_
    refine X.thenE ?_
    refine X.inH ?_
    refine X.thenN ?_
    refine W.sr ?_
    refine WL.run 1 rfl ?_
    refine WL.fin ?_
    refine W.ret ?_
    refine W.done hp (rs := [.tmp 8]) (vs := [.int .i64 0]) (v := .int .i64 0) rfl ⟨rfl, trivial⟩ rfl ?_
    first | exact .inr ⟨by omega, rfl, hp.at 0 rfl⟩ | exact .inl ⟨by omega, by omega, by omega, rfl, by have hik : k.toNat = i := (by omega); rw [hik]; exact hp.at 0 rfl⟩
  · have hp := hp.ext hc
    refine WL.run 5 rfl ?_
    refine WL.s ?_
    refine W.sr ?_
    refine WL.run 2 rfl ?_
    refine WL.fin ?_
    refine W.cF rfl rfl ?_
    refine W.k ?_
    refine W.seq ?_
    refine W.sr ?_
    refine WL.run 1 rfl ?_
    refine WL.v (X.len tL34 rfl) ?_
    refine WL.run 1 rfl ?_
    refine WL.fin ?_
    refine W.block ?_
    refine W.loop (X := Nat) (fun i => k.toNat - i) (fun i => [(3, .int .i64 x), (9, .slice none 0 0), (22, .int .i64 0), (23, .int .i64 (i : Int))]) (fun i w => Hp w0 [p, b] [arenaR p b (fillW ws a.toNat i x)] w ∧ i ≤ k.toNat) 0 ⟨rfl, rfl, rfl, rfl, trivial⟩ ?_ ?_
    · exact ⟨by rw [fillW_zero]; exact hp, by omega⟩
    rintro i w ⟨hp, hi⟩
    refine W.sr ?_
    refine WL.run 1 rfl ?_
    refine WL.s ?_
    have hc6 : ¬ ((i : Int) < 0) := by omega
    refine W.cF rfl (decide_eq_false hc6) ?_
    refine W.exit ?_
    refine X.thenE ?_
    refine X.thenE ?_
    refine X.inH ?_
    refine X.thenN ?_
    refine W.sr ?_
    refine WL.run 1 rfl ?_
    refine WL.fin ?_
    refine W.ret ?_
    refine W.done hp (rs := [.tmp 8]) (vs := [.int .i64 0]) (v := .int .i64 0) rfl ⟨rfl, trivial⟩ rfl ?_
    first | exact .inr ⟨by omega, rfl, hp.at 0 rfl⟩ | exact .inl ⟨by omega, by omega, by omega, rfl, by have hik : k.toNat = i := (by omega); rw [hik]; exact hp.at 0 rfl⟩
  have hp := hp.ext hc
  refine WL.run 5 rfl ?_
  refine WL.s ?_
  refine W.sr ?_
  refine WL.run 2 rfl ?_
  refine WL.fin ?_
  refine W.cT rfl rfl ?_
  refine W.sr ?_
  refine WL.run 1 rfl ?_
  refine WL.fin ?_
  refine W.ret ?_
  refine X.thenR ?_
  refine W.done hp (rs := [.tmp 8]) (vs := [.int .i64 2]) (v := .int .i64 2) rfl ⟨rfl, trivial⟩ rfl ?_
  first | exact .inr ⟨by omega, rfl, hp.at 0 rfl⟩ | exact .inl ⟨by omega, by omega, by omega, rfl, by have hik : k.toNat = i := (by omega); rw [hik]; exact hp.at 0 rfl⟩

theorem store_c {w0 : World} {p b : Nat} {ws : List Int} {a x : Int} (hA : (arenaR p b ws).ok w0) :
    Calls Tryz.prog 83 #[.pointer (some ⟨p, 0, none⟩), .int .i64 a, .int .i64 x] w0 (Ret [p, b] w0 (fun v w => (0 ≤ a ∧ a < ws.length ∧ v = .int .i64 0 ∧ (arenaR p b (ws.set a.toNat x)).ok w) ∨ (¬ (0 ≤ a ∧ a < ws.length) ∧ v = .int .i64 2 ∧ (arenaR p b ws).ok w))) := by
  have hp : Hp w0 [p, b] [arenaR p b ws] w0 := Hp.one hA (arena_nd hA)
  refine enter (vs := [.pointer (some ⟨p, 0, none⟩), .int .i64 a, .int .i64 x]) Tryz.func83 rfl rfl rfl ?_
  refine gen_world hp ?_
  intro w hp
  refine W.sr ?_
  refine WL.run 1 rfl ?_
  refine WL.a ?_
  refine WL.run 3 rfl ?_
  refine WL.call isFn86 rfl rfl (fill_c (a := a) (k := 1) (x := x) (hp.at 0 rfl)) ?_
  intro v w hc hr
  rcases hr with ⟨hf1, hf2, hf3, rfl, hA⟩ | ⟨hf4, rfl, hA⟩
  · have hp := hp.arena 0 rfl hc hA
    refine WL.run 1 rfl ?_
    refine WL.fin ?_
    refine W.ret ?_
    refine W.done hp (rs := [.tmp 6]) (vs := [.int .i64 0]) (v := .int .i64 0) rfl ⟨rfl, trivial⟩ rfl ?_
    first | exact .inr ⟨by omega, rfl, hp.at 0 rfl⟩ | exact .inl ⟨by omega, by omega, rfl, by rw [← fillW_one]; exact hp.at 0 rfl⟩
  have hp := hp.arena 0 rfl hc hA
  refine WL.run 1 rfl ?_
  refine WL.fin ?_
  refine W.ret ?_
  refine W.done hp (rs := [.tmp 6]) (vs := [.int .i64 2]) (v := .int .i64 2) rfl ⟨rfl, trivial⟩ rfl ?_
  first | exact .inr ⟨by omega, rfl, hp.at 0 rfl⟩ | exact .inl ⟨by omega, by omega, rfl, by rw [← fillW_one]; exact hp.at 0 rfl⟩

theorem move_c {w0 : World} {p b : Nat} {ws : List Int} {to a k : Int} (hA : (arenaR p b ws).ok w0) :
    Calls Tryz.prog 75 #[.pointer (some ⟨p, 0, none⟩), .int .i64 to, .int .i64 a, .int .i64 k] w0 (Ret [p, b] w0 (fun v w => (0 ≤ to ∧ 0 ≤ a ∧ 0 ≤ k ∧ to + k ≤ ws.length ∧ a + k ≤ ws.length ∧ v = .int .i64 0 ∧ (arenaR p b (moveW ws to.toNat a.toNat k.toNat)).ok w) ∨ (¬ (0 ≤ to ∧ 0 ≤ a ∧ 0 ≤ k ∧ to + k ≤ ws.length ∧ a + k ≤ ws.length) ∧ v = .int .i64 2 ∧ (arenaR p b ws).ok w))) := by
  have hp : Hp w0 [p, b] [arenaR p b ws] w0 := Hp.one hA (arena_nd hA)
  have hsm := arena_small hA
  refine enter (vs := [.pointer (some ⟨p, 0, none⟩), .int .i64 to, .int .i64 a, .int .i64 k]) Tryz.func75 rfl rfl rfl ?_
  refine gen_world hp ?_
  intro w hp
  refine W.sr ?_
  refine WL.run 1 rfl ?_
  refine WL.a ?_
  refine WL.run 3 rfl ?_
  refine WL.call isFn47 rfl rfl (stretch_c (a := to) (k := k) (hp.at 0 rfl)) ?_
  intro v w hc hr
  rcases hr with ⟨hs1, hs2, hs3, rfl⟩ | ⟨hs1, hs2, hs3, rfl⟩ | ⟨hs4, rfl⟩
  · have hp := hp.ext hc
    refine WL.run 5 rfl ?_
    refine WL.a ?_
    refine WL.run 3 rfl ?_
    refine WL.call isFn47 rfl rfl (stretch_c (a := a) (k := k) (hp.at 0 rfl)) ?_
    intro v w hc hr
    rcases hr with ⟨hs5, hs6, hs7, rfl⟩ | ⟨hs5, hs6, hs7, rfl⟩ | ⟨hs8, rfl⟩
    · have hp := hp.ext hc
      refine WL.run 5 rfl ?_
      refine WL.s ?_
      refine W.sr ?_
      refine WL.run 3 rfl ?_
      refine WL.g1 rfl rfl rfl ?_
      refine WL.run 1 rfl ?_
      refine WL.g1 rfl rfl rfl ?_
      refine WL.run 1 rfl ?_
      refine WL.v (X.pkF rfl rfl rfl) ?_
      refine WL.fin ?_
      refine W.cF rfl rfl ?_
      refine W.ks ?_
      refine WL.run 2 rfl ?_
      refine WL.copyArena hp 0 rfl tL34 tS3 rfl rfl ⟨by omega, by omega⟩ rfl ?_
      intro w hp
      refine WL.a ?_
      refine WL.run 1 rfl ?_
      refine WL.fin ?_
      refine W.ret ?_
      refine W.done hp (rs := [.tmp 8]) (vs := [.int .i64 0]) (v := .int .i64 0) rfl ⟨rfl, trivial⟩ rfl ?_
      first | exact .inr ⟨by omega, rfl, hp.at 0 rfl⟩ | exact .inl ⟨by omega, by omega, by omega, by omega, by omega, rfl, hp.at 0 rfl⟩ | exact .inl ⟨by omega, by omega, by omega, by omega, by omega, rfl, by have hk : k = 0 := (by omega); subst hk; rw [show (0 : Int).toNat = 0 from rfl, moveW_zero]; exact hp.at 0 rfl⟩
    · (try simp only [fillW_length, moveW_length, List.length_set] at hs5 hs6 hs7); first | contradiction | (exfalso; omega) | (exfalso; simp_all; done)
    have hp := hp.ext hc
    refine WL.run 5 rfl ?_
    refine WL.s ?_
    refine W.sr ?_
    refine WL.run 3 rfl ?_
    refine WL.g1 rfl rfl rfl ?_
    refine WL.run 1 rfl ?_
    refine WL.g1 rfl rfl rfl ?_
    refine WL.run 1 rfl ?_
    refine WL.v (X.pkF rfl rfl rfl) ?_
    refine WL.fin ?_
    refine W.cT rfl rfl ?_
    refine W.sr ?_
    refine WL.run 1 rfl ?_
    refine WL.fin ?_
    refine W.ret ?_
    refine X.thenR ?_
    refine W.done hp (rs := [.tmp 8]) (vs := [.int .i64 2]) (v := .int .i64 2) rfl ⟨rfl, trivial⟩ rfl ?_
    first | exact .inr ⟨by omega, rfl, hp.at 0 rfl⟩ | exact .inl ⟨by omega, by omega, by omega, by omega, by omega, rfl, hp.at 0 rfl⟩ | exact .inl ⟨by omega, by omega, by omega, by omega, by omega, rfl, by have hk : k = 0 := (by omega); subst hk; rw [show (0 : Int).toNat = 0 from rfl, moveW_zero]; exact hp.at 0 rfl⟩
  · have hp := hp.ext hc
    refine WL.run 5 rfl ?_
    refine WL.a ?_
    refine WL.run 3 rfl ?_
    refine WL.call isFn47 rfl rfl (stretch_c (a := a) (k := k) (hp.at 0 rfl)) ?_
    intro v w hc hr
    rcases hr with ⟨hs9, hs10, hs11, rfl⟩ | ⟨hs9, hs10, hs11, rfl⟩ | ⟨hs12, rfl⟩
    · (try simp only [fillW_length, moveW_length, List.length_set] at hs9 hs10 hs11); first | contradiction | (exfalso; omega) | (exfalso; simp_all; done)
    · have hp := hp.ext hc
      refine WL.run 5 rfl ?_
      refine WL.s ?_
      refine W.sr ?_
      refine WL.run 3 rfl ?_
      refine WL.g1 rfl rfl rfl ?_
      refine WL.run 1 rfl ?_
      refine WL.g1 rfl rfl rfl ?_
      refine WL.run 1 rfl ?_
      refine WL.v (X.pkF rfl rfl rfl) ?_
      refine WL.fin ?_
      refine W.cF rfl rfl ?_
      refine W.ks ?_
      refine WL.run 2 rfl ?_
      refine WL.v (X.copyNil tL34 tS3 rfl rfl) ?_
      refine WL.a ?_
      refine WL.run 1 rfl ?_
      refine WL.fin ?_
      refine W.ret ?_
      refine W.done hp (rs := [.tmp 8]) (vs := [.int .i64 0]) (v := .int .i64 0) rfl ⟨rfl, trivial⟩ rfl ?_
      first | exact .inr ⟨by omega, rfl, hp.at 0 rfl⟩ | exact .inl ⟨by omega, by omega, by omega, by omega, by omega, rfl, hp.at 0 rfl⟩ | exact .inl ⟨by omega, by omega, by omega, by omega, by omega, rfl, by have hk : k = 0 := (by omega); subst hk; rw [show (0 : Int).toNat = 0 from rfl, moveW_zero]; exact hp.at 0 rfl⟩
    have hp := hp.ext hc
    refine WL.run 5 rfl ?_
    refine WL.s ?_
    refine W.sr ?_
    refine WL.run 3 rfl ?_
    refine WL.g1 rfl rfl rfl ?_
    refine WL.run 1 rfl ?_
    refine WL.g1 rfl rfl rfl ?_
    refine WL.run 1 rfl ?_
    refine WL.v (X.pkF rfl rfl rfl) ?_
    refine WL.fin ?_
    refine W.cT rfl rfl ?_
    refine W.sr ?_
    refine WL.run 1 rfl ?_
    refine WL.fin ?_
    refine W.ret ?_
    refine X.thenR ?_
    refine W.done hp (rs := [.tmp 8]) (vs := [.int .i64 2]) (v := .int .i64 2) rfl ⟨rfl, trivial⟩ rfl ?_
    first | exact .inr ⟨by omega, rfl, hp.at 0 rfl⟩ | exact .inl ⟨by omega, by omega, by omega, by omega, by omega, rfl, hp.at 0 rfl⟩ | exact .inl ⟨by omega, by omega, by omega, by omega, by omega, rfl, by have hk : k = 0 := (by omega); subst hk; rw [show (0 : Int).toNat = 0 from rfl, moveW_zero]; exact hp.at 0 rfl⟩
  have hp := hp.ext hc
  refine WL.run 5 rfl ?_
  refine WL.a ?_
  refine WL.run 3 rfl ?_
  refine WL.call isFn47 rfl rfl (stretch_c (a := a) (k := k) (hp.at 0 rfl)) ?_
  intro v w hc hr
  rcases hr with ⟨hs13, hs14, hs15, rfl⟩ | ⟨hs13, hs14, hs15, rfl⟩ | ⟨hs16, rfl⟩
  · have hp := hp.ext hc
    refine WL.run 5 rfl ?_
    refine WL.s ?_
    refine W.sr ?_
    refine WL.run 3 rfl ?_
    refine WL.g0 rfl rfl rfl rfl ?_
    refine WL.g0 rfl rfl rfl rfl ?_
    refine WL.v (X.pkT rfl rfl rfl) ?_
    refine WL.fin ?_
    refine W.cT rfl rfl ?_
    refine W.sr ?_
    refine WL.run 1 rfl ?_
    refine WL.fin ?_
    refine W.ret ?_
    refine X.thenR ?_
    refine W.done hp (rs := [.tmp 8]) (vs := [.int .i64 2]) (v := .int .i64 2) rfl ⟨rfl, trivial⟩ rfl ?_
    first | exact .inr ⟨by omega, rfl, hp.at 0 rfl⟩ | exact .inl ⟨by omega, by omega, by omega, by omega, by omega, rfl, hp.at 0 rfl⟩ | exact .inl ⟨by omega, by omega, by omega, by omega, by omega, rfl, by have hk : k = 0 := (by omega); subst hk; rw [show (0 : Int).toNat = 0 from rfl, moveW_zero]; exact hp.at 0 rfl⟩
  · have hp := hp.ext hc
    refine WL.run 5 rfl ?_
    refine WL.s ?_
    refine W.sr ?_
    refine WL.run 3 rfl ?_
    refine WL.g0 rfl rfl rfl rfl ?_
    refine WL.g0 rfl rfl rfl rfl ?_
    refine WL.v (X.pkT rfl rfl rfl) ?_
    refine WL.fin ?_
    refine W.cT rfl rfl ?_
    refine W.sr ?_
    refine WL.run 1 rfl ?_
    refine WL.fin ?_
    refine W.ret ?_
    refine X.thenR ?_
    refine W.done hp (rs := [.tmp 8]) (vs := [.int .i64 2]) (v := .int .i64 2) rfl ⟨rfl, trivial⟩ rfl ?_
    first | exact .inr ⟨by omega, rfl, hp.at 0 rfl⟩ | exact .inl ⟨by omega, by omega, by omega, by omega, by omega, rfl, hp.at 0 rfl⟩ | exact .inl ⟨by omega, by omega, by omega, by omega, by omega, rfl, by have hk : k = 0 := (by omega); subst hk; rw [show (0 : Int).toNat = 0 from rfl, moveW_zero]; exact hp.at 0 rfl⟩
  have hp := hp.ext hc
  refine WL.run 5 rfl ?_
  refine WL.s ?_
  refine W.sr ?_
  refine WL.run 3 rfl ?_
  refine WL.g0 rfl rfl rfl rfl ?_
  refine WL.g0 rfl rfl rfl rfl ?_
  refine WL.v (X.pkT rfl rfl rfl) ?_
  refine WL.fin ?_
  refine W.cT rfl rfl ?_
  refine W.sr ?_
  refine WL.run 1 rfl ?_
  refine WL.fin ?_
  refine W.ret ?_
  refine X.thenR ?_
  refine W.done hp (rs := [.tmp 8]) (vs := [.int .i64 2]) (v := .int .i64 2) rfl ⟨rfl, trivial⟩ rfl ?_
  first | exact .inr ⟨by omega, rfl, hp.at 0 rfl⟩ | exact .inl ⟨by omega, by omega, by omega, by omega, by omega, rfl, hp.at 0 rfl⟩ | exact .inl ⟨by omega, by omega, by omega, by omega, by omega, rfl, by have hk : k = 0 := (by omega); subst hk; rw [show (0 : Int).toNat = 0 from rfl, moveW_zero]; exact hp.at 0 rfl⟩

theorem cloneI_c {w0 : World} {s : Value} {l : List Int} (hV : (viewR encI 1 s l).ok w0) (hl : l.length * 32 ≤ 140737488355328) :
    Calls Tryz.prog 27 #[s] w0 (Ret [] w0 (fun v w => New w0 w (ownR 3 encI 1 v l))) := by
  have hp : Hp w0 [] [] w0 := Hp.init w0
  refine enter (vs := [s]) Tryz.func27 rfl rfl rfl ?_
  refine gen_world hp ?_
  intro w hp
  refine W.sr ?_
  refine WL.run 1 rfl ?_
  refine WL.s ?_
  refine W.sr ?_
  refine WL.run 1 rfl ?_
  refine WL.v (X.eqNilV tL34 (hp.old0 hV) rfl rfl) ?_
  refine WL.fin ?_
  by_cases hc1 : isNilV s = true
  · have hl0 := view_nil hV hc1
    refine W.cT rfl hc1 ?_
    refine W.sr ?_
    refine WL.run 1 rfl ?_
    refine WL.fin ?_
    refine W.ret ?_
    refine X.thenR ?_
    refine W.done hp (rs := [.tmp 2]) (vs := [.slice none 0 0]) (v := .slice none 0 0) rfl ⟨rfl, trivial⟩ rfl ?_
    first | exact hp.newAt 0 rfl | exact hp.newAt 1 rfl | (rw [hl0]; exact (hp.addNil _ encI 1 encI_len (by omega)).newAt 0 rfl)
  refine W.cF rfl (Bool.eq_false_iff.2 hc1) ?_
  refine W.ks ?_
  refine WL.bsl hp (e := 3) (cs := #[]) rfl (fun _ => by kernel_rfl) rfl ?_
  intro b2 w hp
  refine WL.run 1 rfl ?_
  have hp := hp.ofEmpty 0 rfl encI 1 encI_len (by omega)
  refine WL.append hp 0 rfl tL34 (zeroT_ex tZ3) tS3 tY3 rfl rfl (hp.old0 hV) encI_one (by simp only [List.length_append, List.length_cons, List.length_nil]; omega) rfl ?_
  intro v3 w hp
  refine WL.run 1 rfl ?_
  refine WL.fin ?_
  refine W.ret ?_
  refine W.done hp (rs := [.tmp 2]) (vs := [v3]) (v := v3) rfl ⟨rfl, trivial⟩ rfl ?_
  first | exact hp.newAt 0 rfl | exact hp.newAt 1 rfl | (rw [hl0]; exact (hp.addNil _ encI 1 encI_len (by omega)).newAt 0 rfl)

theorem words_c {w0 : World} {p b : Nat} {ws : List Int} {a k : Int} (hA : (arenaR p b ws).ok w0) :
    Calls Tryz.prog 12 #[.pointer (some ⟨p, 0, none⟩), .int .i64 a, .int .i64 k] w0 (Ret [] w0 (fun v w => (0 ≤ a ∧ 0 ≤ k ∧ a + k ≤ ws.length ∧ ∃ s, v = .tuple #[s, .int .i64 0] ∧ New w0 w (ownR 3 encI 1 s ((ws.drop a.toNat).take k.toNat))) ∨ (¬ (0 ≤ a ∧ 0 ≤ k ∧ a + k ≤ ws.length) ∧ v = .tuple #[.slice none 0 0, .int .i64 2]))) := by
  have hp : Hp w0 [] [] w0 := Hp.init w0
  have hsm := arena_small hA
  refine enter (vs := [.pointer (some ⟨p, 0, none⟩), .int .i64 a, .int .i64 k]) Tryz.func12 rfl rfl rfl ?_
  refine gen_world hp ?_
  intro w hp
  refine W.sr ?_
  refine WL.run 2 rfl ?_
  refine WL.a ?_
  refine WL.run 3 rfl ?_
  refine WL.call isFn47 rfl rfl (stretch_c (a := a) (k := k) (hp.old0 hA)) ?_
  intro v w hc hr
  rcases hr with ⟨hs1, hs2, hs3, rfl⟩ | ⟨hs1, hs2, hs3, rfl⟩ | ⟨hs4, rfl⟩
  · have hp := hp.ext hc
    refine WL.run 5 rfl ?_
    refine WL.s ?_
    refine W.sr ?_
    refine WL.run 2 rfl ?_
    refine WL.fin ?_
    refine W.cF rfl rfl ?_
    refine W.ks ?_
    refine WL.run 1 rfl ?_
    refine WL.call isFn27 rfl rfl (cloneI_c (arena_view (n := k.toNat) (o := a.toNat) (hp.old0 hA) (by omega) (by omega) (by omega)) (by simp only [List.length_take, List.length_drop, List.length_nil]; omega)) ?_
    intro v5 w hc hr
    have hp := hp.newN hc hr
    refine WL.run 2 rfl ?_
    refine WL.fin ?_
    refine W.ret ?_
    refine W.done hp (rs := [.tmp 6, .tmp 7]) (vs := [v5, .int .i64 0]) (v := .tuple #[v5, .int .i64 0]) rfl ⟨rfl, rfl, trivial⟩ rfl ?_
    first | exact .inr ⟨by omega, rfl⟩ | exact .inl ⟨by omega, by omega, by omega, _, rfl, hp.newAt 0 rfl⟩ | exact .inl ⟨by omega, by omega, by omega, _, rfl, by have hk : k = 0 := (by omega); subst hk; exact hp.newAt 0 rfl⟩
  · have hp := hp.ext hc
    refine WL.run 5 rfl ?_
    refine WL.s ?_
    refine W.sr ?_
    refine WL.run 2 rfl ?_
    refine WL.fin ?_
    refine W.cF rfl rfl ?_
    refine W.ks ?_
    refine WL.run 1 rfl ?_
    refine WL.call isFn27 rfl rfl (cloneI_c (view_none encI_len (by omega)) (by simp only [List.length_take, List.length_drop, List.length_nil]; omega)) ?_
    intro v6 w hc hr
    have hp := hp.newN hc hr
    refine WL.run 2 rfl ?_
    refine WL.fin ?_
    refine W.ret ?_
    refine W.done hp (rs := [.tmp 6, .tmp 7]) (vs := [v6, .int .i64 0]) (v := .tuple #[v6, .int .i64 0]) rfl ⟨rfl, rfl, trivial⟩ rfl ?_
    first | exact .inr ⟨by omega, rfl⟩ | exact .inl ⟨by omega, by omega, by omega, _, rfl, hp.newAt 0 rfl⟩ | exact .inl ⟨by omega, by omega, by omega, _, rfl, by have hk : k = 0 := (by omega); subst hk; exact hp.newAt 0 rfl⟩
  have hp := hp.ext hc
  refine WL.run 5 rfl ?_
  refine WL.s ?_
  refine W.sr ?_
  refine WL.run 2 rfl ?_
  refine WL.fin ?_
  refine W.cT rfl rfl ?_
  refine W.sr ?_
  refine WL.run 2 rfl ?_
  refine WL.fin ?_
  refine W.ret ?_
  refine X.thenR ?_
  refine W.done hp (rs := [.tmp 6, .tmp 7]) (vs := [.slice none 0 0, .int .i64 2]) (v := .tuple #[.slice none 0 0, .int .i64 2]) rfl ⟨rfl, rfl, trivial⟩ rfl ?_
  first | exact .inr ⟨by omega, rfl⟩ | exact .inl ⟨by omega, by omega, by omega, _, rfl, hp.newAt 0 rfl⟩ | exact .inl ⟨by omega, by omega, by omega, _, rfl, by have hk : k = 0 := (by omega); subst hk; exact hp.newAt 0 rfl⟩

theorem memnew_c {w0 : World} {n : Int} :
    Calls Tryz.prog 17 #[.int .i64 n] w0 (Ret [] w0 (fun v w => ∃ p b, v = .pointer (some ⟨p, 0, none⟩) ∧ New w0 w (arenaR p b (List.replicate (max 0 (min n 4096)).toNat 0)))) := by
  have hp : Hp w0 [] [] w0 := Hp.init w0
  refine enter (vs := [.int .i64 n]) Tryz.func17 rfl rfl rfl ?_
  refine gen_world hp ?_
  intro w hp
  refine W.sr ?_
  refine WL.run 1 rfl ?_
  refine WL.a ?_
  refine WL.run 1 rfl ?_
  refine WL.v (X.mn rfl rfl) ?_
  refine WL.v (X.mx rfl rfl) ?_
  refine WL.mks (m := (max (0 : Int) (min n (4096 : Int))).toNat) hp tL34 tS3 tZ3 tY3 rfl rfl (by omega) (by omega) rfl ?_
  intro b1 w hp
  refine WL.v (X.bld (v := .agg #[.slice (some ⟨b1, 0, none⟩) ((max (0 : Int) (min n (4096 : Int))).toNat) ((max (0 : Int) (min n (4096 : Int))).toNat)]) rfl (by kernel_rfl)) ?_
  refine WL.box hp rfl (cs := #[.slice (some ⟨b1, 0, none⟩) ((max (0 : Int) (min n (4096 : Int))).toNat) ((max (0 : Int) (min n (4096 : Int))).toNat)]) rfl rfl ?_
  intro b2 w hp
  refine WL.run 1 rfl ?_
  refine WL.fin ?_
  refine W.ret ?_
  refine W.done hp (rs := [.tmp 2]) (vs := [.pointer (some ⟨b2, 0, none⟩)]) (v := .pointer (some ⟨b2, 0, none⟩)) rfl ⟨rfl, trivial⟩ rfl ?_
  exact ⟨_, _, rfl, arena_new hp 0 1 rfl rfl (by decide) (by omega)⟩
end Go.Proofs.YtmmmbkmjkpfleaaGreat
