/- Plain laws: the sample is right. No condition. -/
import Derived.Test.YtmkofmfndcoflaaPRq
namespace Go.KB
set_option linter.unusedVariables false
set_option maxRecDepth 100000
theorem KZ:pF (2 ^ 70)=some true:=by kernel_rfl
theorem BK {N:Nat} {p:GPanel} {r:GRule} (h:p.Readings.length<9223372036854775807) (hN:2 ^ 64≤N):jm N p r=some (if eX p=0 then jO r else eX p):=by
  unfold jm
  rw [zq h hN,bS,zY,jw]
  by_cases he:eX p=0
  · rw [dT he,if_pos he];rfl
  · rw [dF he,if_neg he];rfl
theorem Dl {N:Nat} {p:GPanel} {r:GRule} (h:p.Readings.length<9223372036854775807) (hN:2 ^ 64≤N) {z:Int} (hz:(if eX p=0 then jO r else eX p)=z) (hz0:z≠0):iw N p r=some ([],z):=by
  have hg:jq N p r=some ([],z):=by
    rw [Ee h hN]
    by_cases he:eX p=0
    · rw [if_pos he] at hz ⊢
      rw [if_neg (by rw [hz];exact hz0),hz]
    · rw [if_neg he] at hz ⊢
      rw [hz]
  unfold iw
  rw [hg,bS]
  simp only []
  rw [jw,dF hz0];rfl
end Go.KB
