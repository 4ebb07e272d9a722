/- What the translation says of its types. Printed by a program. No condition. -/
import Derived.Test.YtmkofmfndcoflaaGTypes
import Derived.Test.YtmkofmfndcoflaaProg
namespace Go.KB
open Go.Proofs
theorem wM:iM Try.prog 82 jg.rep:=⟨fun _=>by kernel_rfl,fun _=>by kernel_rfl,fun _=>by kernel_rfl⟩
theorem J8:fC Try.prog 82 (fun i=>[(0,1),(1,1),(2,1),(3,1)][i]?):=fC.of (by kernel_rfl)
theorem DN:Try.prog.underlying 83=some (.slice 82):=by kernel_rfl
theorem fZ:iM Try.prog 71 fA.rep:=⟨fun _=>by kernel_rfl,fun _=>by kernel_rfl,fun _=>by kernel_rfl⟩
theorem AA:cu Try.prog 82 0 0:=cu.of (by kernel_rfl)
theorem dD:iM Try.prog 3 aV:=⟨fun _=>by kernel_rfl,fun _=>by kernel_rfl,fun _=>by kernel_rfl⟩
theorem gB:Try.prog.underlying 37=some (.slice 3):=by kernel_rfl
theorem EO:cu Try.prog 82 1 1:=cu.of (by kernel_rfl)
theorem Ie:cu Try.prog 82 2 2:=cu.of (by kernel_rfl)
theorem Ig:cu Try.prog 82 3 3:=cu.of (by kernel_rfl)
theorem vX:iM Try.prog 4 Rep.bool:=⟨fun _=>by kernel_rfl,fun _=>by kernel_rfl,fun _=>by kernel_rfl⟩
theorem un4:Try.prog.underlying 4=some (.bool):=by kernel_rfl
theorem Ia:fC Try.prog 71 (fun i=>[(0,2),(2,2)][i]?):=fC.of (by kernel_rfl)
theorem iJ:iM Try.prog 69 dQ.rep:=⟨fun _=>by kernel_rfl,fun _=>by kernel_rfl,fun _=>by kernel_rfl⟩
theorem Gq:Try.prog.underlying 3=some (.int .i64):=by kernel_rfl
theorem oD:Try.prog.underlying 170=some (.int .u64):=by kernel_rfl
theorem eG:Try.prog.underlying 176=some (.int .u16):=by kernel_rfl
theorem aY:iM Try.prog 176 aW:=⟨fun _=>by kernel_rfl,fun _=>by kernel_rfl,fun _=>by kernel_rfl⟩
theorem bY:Try.prog.underlying 67=some (.slice 176):=by kernel_rfl
theorem rP:sK Try.prog 176 aW:=by unfold sK;kernel_rfl
theorem Ic:fC Try.prog 69 (fun i=>[(0,1),(1,1)][i]?):=fC.of (by kernel_rfl)
theorem pY:cu Try.prog 69 1 1:=cu.of (by kernel_rfl)
theorem zN:iM Try.prog 67 (Rep.slice aW):=⟨fun _=>by kernel_rfl,fun _=>by kernel_rfl,fun _=>by kernel_rfl⟩
theorem iW:Try.prog.underlying 186=some (.int .u32):=by kernel_rfl
theorem un5:Try.prog.underlying 5=some (.int .u8):=by kernel_rfl
theorem Gs:Try.prog.underlying 9=some (.string):=by kernel_rfl
theorem un2:Try.prog.underlying 2=some (.int .i64):=by kernel_rfl
theorem nJ:cu Try.prog 69 0 0:=cu.of (by kernel_rfl)
theorem wY:Try.prog.underlying 135=some (.slice 71):=by kernel_rfl
theorem el71:sK Try.prog 71 fA.rep:=by unfold sK;kernel_rfl
theorem vC:cu Try.prog 71 0 0:=cu.of (by kernel_rfl)
theorem CO:cu Try.prog 71 1 2:=cu.of (by kernel_rfl)
theorem yN:iM Try.prog 39 GPanel.rep:=⟨fun _=>by kernel_rfl,fun _=>by kernel_rfl,fun _=>by kernel_rfl⟩
theorem pl39:fC Try.prog 39 (fun i=>[(0,1),(1,1),(2,1),(3,1),(4,1)][i]?):=fC.of (by kernel_rfl)
theorem CB:iM Try.prog 41 GRule.rep:=⟨fun _=>by kernel_rfl,fun _=>by kernel_rfl,fun _=>by kernel_rfl⟩
theorem pl41:fC Try.prog 41 (fun i=>[(0,1),(1,1)][i]?):=fC.of (by kernel_rfl)
theorem EK:cu Try.prog 39 0 0:=cu.of (by kernel_rfl)
theorem ty9:iM Try.prog 9 Rep.str:=⟨fun _=>by kernel_rfl,fun _=>by kernel_rfl,fun _=>by kernel_rfl⟩
theorem su:cu Try.prog 39 1 1:=cu.of (by kernel_rfl)
theorem jy:cu Try.prog 39 2 2:=cu.of (by kernel_rfl)
theorem vg:cu Try.prog 39 3 3:=cu.of (by kernel_rfl)
theorem qL:cu Try.prog 39 4 4:=cu.of (by kernel_rfl)
theorem Ap:iM Try.prog 37 (Rep.slice aV):=⟨fun _=>by kernel_rfl,fun _=>by kernel_rfl,fun _=>by kernel_rfl⟩
theorem yV:cu Try.prog 41 0 0:=cu.of (by kernel_rfl)
theorem yX:cu Try.prog 41 1 1:=cu.of (by kernel_rfl)
theorem el3:sK Try.prog 3 aV:=by unfold sK;kernel_rfl
theorem el4:sK Try.prog 4 Rep.bool:=by unfold sK;kernel_rfl
theorem wW:Try.prog.underlying 106=some (.slice 4):=by kernel_rfl
theorem iF:iM Try.prog 50 ak.rep:=⟨fun _=>by kernel_rfl,fun _=>by kernel_rfl,fun _=>by kernel_rfl⟩
theorem Ht:fC Try.prog 50 (fun i=>[(0,1),(1,1),(2,1),(3,1)][i]?):=fC.of (by kernel_rfl)
theorem jB:cu Try.prog 50 0 0:=cu.of (by kernel_rfl)
theorem jA:cu Try.prog 50 1 1:=cu.of (by kernel_rfl)
theorem pX:cu Try.prog 50 2 2:=cu.of (by kernel_rfl)
theorem nH:cu Try.prog 50 3 3:=cu.of (by kernel_rfl)
theorem Aq:iM Try.prog 146 (Rep.arr aV 2):=⟨fun _=>by kernel_rfl,fun _=>by kernel_rfl,fun _=>by kernel_rfl⟩
theorem FQ:fC Try.prog 146 (fun i=>some (i * 1,1)):=fC.JM (E:=3) (n:=2) (by kernel_rfl) (fun _=>by kernel_rfl)
theorem ty147:iM Try.prog 147 (Rep.arr (Rep.arr aV 2) 4):=⟨fun _=>by kernel_rfl,fun _=>by kernel_rfl,fun _=>by kernel_rfl⟩
theorem pl147:fC Try.prog 147 (fun i=>some (i * 2,2)):=fC.JM (E:=146) (n:=4) (by kernel_rfl) (fun _=>by kernel_rfl)
theorem un147:Try.prog.underlying 147=some (.array 4 146):=by kernel_rfl
theorem JK:Try.prog.underlying 146=some (.array 2 3):=by kernel_rfl
theorem jZ:Try.prog.underlying 29=some (.slice 50):=by kernel_rfl
theorem Hw:sK Try.prog 50 ak.rep:=by unfold sK;kernel_rfl
theorem Kv:sZ Try.prog 50 3=some (3,3):=by kernel_rfl
theorem Kw:sZ Try.prog 50 2=some (3,2):=by kernel_rfl
theorem Ky:sZ Try.prog 50 1=some (3,1):=by kernel_rfl
theorem Kz:sZ Try.prog 50 0=some (3,0):=by kernel_rfl
theorem eq50:wP Try.prog 9999 50 ak.rep ak.eqb:=wP.struct rfl (by kernel_rfl) (by kernel_rfl) (qY.cons ak.l0 Kz (by kernel_rfl) dD (wP.int Gq) (qY.cons ak.l1 Ky (by kernel_rfl) dD (wP.int Gq) (qY.cons ak.l2 Kw (by kernel_rfl) dD (wP.int Gq) (qY.cons ak.l3 Kv (by kernel_rfl) dD (wP.int Gq) (qY.nil (by kernel_rfl))))))
end Go.KB
