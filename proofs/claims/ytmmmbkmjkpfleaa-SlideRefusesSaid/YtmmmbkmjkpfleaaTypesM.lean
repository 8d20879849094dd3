/- Facts on maps' types and zero values. No statement of the seat is proved here; conditions: none. -/
import Derived.Test.YtmmmbkmjkpfleaaResC
namespace Go.Proofs.Ytmmmbkmjkpfleaa
open Go Go.RowKit
theorem tV3 (w : World) : (zeroValue 3).run Try.prog w = .ok (.int .i64 0) w := by obtain ⟨v, h1, h2⟩ := run_zeroT (w := w) tZ3; rw [h1]; cases v <;> simp_all [Value.cells]
theorem tV4 (w : World) : (zeroValue 4).run Try.prog w = .ok (.bool false) w := by obtain ⟨v, h1, h2⟩ := run_zeroT (w := w) tZ4; rw [h1]; cases v <;> simp_all [Value.cells]
theorem tV5 (w : World) : (zeroValue 5).run Try.prog w = .ok (.int .u8 0) w := by obtain ⟨v, h1, h2⟩ := run_zeroT (w := w) tZ5; rw [h1]; cases v <;> simp_all [Value.cells]
theorem tV29 (w : World) : (zeroValue 29).run Try.prog w = .ok (.int .u16 0) w := by obtain ⟨v, h1, h2⟩ := run_zeroT (w := w) tZ29; rw [h1]; cases v <;> simp_all [Value.cells]
theorem tV41 (w : World) : (zeroValue 41).run Try.prog w = .ok (.int .i64 0) w := by obtain ⟨v, h1, h2⟩ := run_zeroT (w := w) tZ41; rw [h1]; cases v <;> simp_all [Value.cells]
theorem tM96 : mapT Try.prog 96 = some (.i64, 3) := by kernel_rfl
theorem tM130 : mapT Try.prog 130 = some (.i64, 4) := by kernel_rfl
end Go.Proofs.Ytmmmbkmjkpfleaa
