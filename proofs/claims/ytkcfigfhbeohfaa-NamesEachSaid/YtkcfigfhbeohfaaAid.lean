/- Small lemmas that the printed walks close their ends with. -/
import Derived.WalkKit
namespace Go.Proofs.Ytkcfigfhbeohfaa.Aid
open Go Go.RowKit

theorem ne_nil (l : List UInt8) : (!l.isEmpty) = (l != []) := by cases l <;> rfl
theorem eq_nil (l : List UInt8) : l.isEmpty = (l == []) := by cases l <;> rfl
theorem ret_ne (l : List UInt8) : Ending.returned (.bool (!l.isEmpty)) = .returned (.bool (l != [])) := by rw [ne_nil]
theorem ret_eq (l : List UInt8) : Ending.returned (.bool l.isEmpty) = .returned (.bool (l == [])) := by rw [eq_nil]

end Go.Proofs.Ytkcfigfhbeohfaa.Aid
