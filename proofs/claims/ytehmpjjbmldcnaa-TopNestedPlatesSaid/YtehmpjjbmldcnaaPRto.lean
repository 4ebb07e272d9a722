/- Plain laws: ratios of the survey package. No condition. -/
import Derived.Test.YtehmpjjbmldcnaaPZd
import Derived.Test.YtehmpjjbmldcnaaPZh
namespace Go.KB
theorem VK {N:Nat} {a b:Int} (ha0:-9223372036854775808≤a) (ha1:a≤9223372036854775807) (hb0:-9223372036854775808≤b) (hb1:b≤9223372036854775807) (hb:b≠0) (hN:2 ^ 64≤N):vO N a b=some (R ((a:Rat) / (b:Rat)),0):=by
  unfold vO
  rw [lK,dF hb,iT,Of_I ha0 ha1 hN,bS,Of_I hb0 hb1 hN,bS,PY (VL ha0 ha1) (VL hb0 hb1) (by omega) (by omega) (by rw [vI];exact hb) hN,bS,vI,vI]
theorem RJ {N:Nat} {a b:Int} (ha0:-9223372036854775808≤a) (ha1:a≤9223372036854775807) (hb0:-9223372036854775808≤b) (hb1:b≤9223372036854775807) (hb:b≠0) (hN:2 ^ 64≤N):rC N a b=some (R ((a:Rat) / (b:Rat))):=by
  unfold rC
  rw [VK ha0 ha1 hb0 hb1 hb hN];rfl
end Go.KB
