/- Plain laws of chapter 7: the examples. No condition. -/
import Derived.Test.YtalkbgomndhkmaaGreatGPure
import Derived.ProofKit
namespace Go.KB
set_option maxRecDepth 100000
theorem Dl:wK (2 ^ 70)=some true:=by kernel_rfl
end Go.KB
