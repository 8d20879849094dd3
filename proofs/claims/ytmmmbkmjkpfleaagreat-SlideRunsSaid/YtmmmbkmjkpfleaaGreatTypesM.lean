/- Facts on maps' types and zero values. No statement of the seat is proved here; conditions: none. -/
import Derived.Test.YtmmmbkmjkpfleaaGreatResC
namespace Go.Proofs.YtmmmbkmjkpfleaaGreat
open Go Go.RowKit
theorem tV3 (w : World) : (zeroValue 3).run Tryz.prog w = .ok (.int .i64 0) w := by obtain ⟨v, h1, h2⟩ := run_zeroT (w := w) tZ3; rw [h1]; cases v <;> simp_all [Value.cells]
theorem tV4 (w : World) : (zeroValue 4).run Tryz.prog w = .ok (.bool false) w := by obtain ⟨v, h1, h2⟩ := run_zeroT (w := w) tZ4; rw [h1]; cases v <;> simp_all [Value.cells]
theorem tM83 : mapT Tryz.prog 83 = some (.i64, 3) := by kernel_rfl
theorem tM142 : mapT Tryz.prog 142 = some (.i64, 4) := by kernel_rfl
end Go.Proofs.YtmmmbkmjkpfleaaGreat
