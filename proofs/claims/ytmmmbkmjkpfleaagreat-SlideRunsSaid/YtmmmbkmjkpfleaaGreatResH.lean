/- What a law of a slide is handed. No statement of the seat is proved here; conditions: none. -/
import Derived.Test.YtmmmbkmjkpfleaaGreatResG
import Derived.Test.YtmmmbkmjkpfleaaGreatPureO
namespace Go.Proofs.YtmmmbkmjkpfleaaGreat
open Go Go.RowKit
theorem cls_dec (cs : List Value) (h : Fits [.i .i64, .i .i64, .i .i64, .b] cs) : ∃ a : Cls, cs = clsV a ∧ True := by
  obtain ⟨a, _, rfl, _, h1⟩ := h.int
  obtain ⟨b, _, rfl, _, h2⟩ := h1.int
  obtain ⟨c, _, rfl, _, h3⟩ := h2.int
  obtain ⟨d, _, rfl, h4⟩ := h3.bool
  cases h4.nil
  exact ⟨⟨a, b, c, d⟩, rfl, trivial⟩
theorem th_dec (cs : List Value) (h : Fits [.i .u8, .i .u8, .i .u8, .b] cs) : ∃ a : Th, cs = encTh a ∧ ((0 ≤ a.c ∧ a.c ≤ 255) ∧ (0 ≤ a.d ∧ a.d ≤ 255) ∧ (0 ≤ a.u ∧ a.u ≤ 255)) := by
  obtain ⟨a, _, rfl, ha, h1⟩ := h.int
  obtain ⟨b, _, rfl, hb, h2⟩ := h1.int
  obtain ⟨c, _, rfl, hc, h3⟩ := h2.int
  obtain ⟨d, _, rfl, h4⟩ := h3.bool
  cases h4.nil
  exact ⟨⟨a, b, c, d⟩, rfl, Go.bounds_u8 ha, Go.bounds_u8 hb, Go.bounds_u8 hc⟩
theorem r3_dec (cs : List Value) (h : Fits [.i .u8, .i .u8, .i .u8] cs) : ∃ a : R3, cs = encR3 a ∧ ((0 ≤ a.a ∧ a.a ≤ 255) ∧ (0 ≤ a.b ∧ a.b ≤ 255) ∧ (0 ≤ a.c ∧ a.c ≤ 255)) := by
  obtain ⟨a, _, rfl, ha, h1⟩ := h.int
  obtain ⟨b, _, rfl, hb, h2⟩ := h1.int
  obtain ⟨c, _, rfl, hc, h3⟩ := h2.int
  cases h3.nil
  exact ⟨⟨a, b, c⟩, rfl, Go.bounds_u8 ha, Go.bounds_u8 hb, Go.bounds_u8 hc⟩
theorem u8_dec (cs : List Value) (h : Fits [.i .u8] cs) : ∃ a : Int, cs = encU8 a ∧ (0 ≤ a ∧ a ≤ 255) := by
  obtain ⟨a, _, rfl, ha, h1⟩ := h.int
  cases h1.nil
  exact ⟨a, rfl, Go.bounds_u8 ha⟩
end Go.Proofs.YtmmmbkmjkpfleaaGreat
