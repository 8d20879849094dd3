/- Plain functions: what can't be slid. No statement of the seat is proved here; conditions: none. -/
import Derived.Test.YtmmmbkmjkpfleaaGreatPureT
namespace Go.Proofs.YtmmmbkmjkpfleaaGreat
open Go Go.RowKit

section
variable {ws : List Int} {cs : List Cls} {sp : List Spc} {al fr q rt : List Int}
theorem walksF_mem {ws : List Int} {cs : List Cls} : ∀ (l : List Spc) (acc al : List Int), walksF ws cs acc l = some al → ∀ s ∈ l, (walk ws cs s.from_ s.top).1 = 0
  | [], _, _, _, s, hs => by simp at hs
  | a :: l, acc, al, h, s, hs => by
    rw [walksF] at h
    split at h
    · cases h
    · rename_i h1
      rcases List.mem_cons.1 hs with rfl | hs
      · exact Classical.not_not.1 h1
      · exact walksF_mem l _ _ h s hs
end
end Go.Proofs.YtmmmbkmjkpfleaaGreat
