/- Plain laws: the book of two entries. No condition. -/
import Derived.Test.YtblfmjackdhajaaPZl
import Derived.KernelRfl
namespace Go.KB
theorem jA1 : jG4 (2 ^ 70) = some true := by kernel_rfl
end Go.KB
