/- What the translation says of its types. Printed by a program. No condition. -/
import Derived.Test.YtdmioehoinnamaaGreatDoorGTypes
import Derived.Test.YtdmioehoinnamaaGreatDoorProg
namespace Go.KB
open Go.Proofs
theorem jD:fU Tryz.prog 28 GWork.rep:=⟨fun _=>by kernel_rfl,fun _=>by kernel_rfl,fun _=>by kernel_rfl⟩
theorem yx:bQ Tryz.prog 28 1 1:=bQ.of (by kernel_rfl)
theorem Gw:fU Tryz.prog 23 (Rep.slice iD.rep):=⟨fun _=>by kernel_rfl,fun _=>by kernel_rfl,fun _=>by kernel_rfl⟩
theorem Dn:Tryz.prog.underlying 23=some (.slice 62):=by kernel_rfl
theorem Aw:bQ Tryz.prog 28 2 2:=bQ.of (by kernel_rfl)
theorem J5:fU Tryz.prog 24 (Rep.slice jF.rep):=⟨fun _=>by kernel_rfl,fun _=>by kernel_rfl,fun _=>by kernel_rfl⟩
theorem Ic:Tryz.prog.underlying 24=some (.slice 86):=by kernel_rfl
theorem IX:bQ Tryz.prog 28 3 3:=bQ.of (by kernel_rfl)
theorem TF:fU Tryz.prog 25 (Rep.slice dL.rep):=⟨fun _=>by kernel_rfl,fun _=>by kernel_rfl,fun _=>by kernel_rfl⟩
theorem NQ:Tryz.prog.underlying 25=some (.slice 89):=by kernel_rfl
theorem IY:bQ Tryz.prog 28 4 4:=bQ.of (by kernel_rfl)
theorem TI:fU Tryz.prog 26 (Rep.slice jH.rep):=⟨fun _=>by kernel_rfl,fun _=>by kernel_rfl,fun _=>by kernel_rfl⟩
theorem NP:Tryz.prog.underlying 26=some (.slice 91):=by kernel_rfl
theorem gu:bQ Tryz.prog 28 0 0:=bQ.of (by kernel_rfl)
theorem oP:fU Tryz.prog 22 (Rep.slice bU.rep):=⟨fun _=>by kernel_rfl,fun _=>by kernel_rfl,fun _=>by kernel_rfl⟩
theorem mV:Tryz.prog.underlying 22=some (.slice 53):=by kernel_rfl
theorem zn:fU Tryz.prog 62 iD.rep:=⟨fun _=>by kernel_rfl,fun _=>by kernel_rfl,fun _=>by kernel_rfl⟩
theorem Fg:bQ Tryz.prog 62 0 0:=bQ.of (by kernel_rfl)
theorem wF:fU Tryz.prog 9 Rep.str:=⟨fun _=>by kernel_rfl,fun _=>by kernel_rfl,fun _=>by kernel_rfl⟩
theorem QB:Tryz.prog.underlying 9=some (.string):=by kernel_rfl
theorem Gg:fU Tryz.prog 86 jF.rep:=⟨fun _=>by kernel_rfl,fun _=>by kernel_rfl,fun _=>by kernel_rfl⟩
theorem IV:bQ Tryz.prog 86 0 0:=bQ.of (by kernel_rfl)
theorem IW:bQ Tryz.prog 86 2 2:=bQ.of (by kernel_rfl)
theorem AQ:fU Tryz.prog 43 (Rep.slice Rep.str):=⟨fun _=>by kernel_rfl,fun _=>by kernel_rfl,fun _=>by kernel_rfl⟩
theorem xh:Tryz.prog.underlying 43=some (.slice 9):=by kernel_rfl
theorem jl:fU Tryz.prog 53 bU.rep:=⟨fun _=>by kernel_rfl,fun _=>by kernel_rfl,fun _=>by kernel_rfl⟩
theorem xk:bQ Tryz.prog 53 0 0:=bQ.of (by kernel_rfl)
theorem Ff:bQ Tryz.prog 53 1 1:=bQ.of (by kernel_rfl)
theorem FD:bQ Tryz.prog 53 3 3:=bQ.of (by kernel_rfl)
theorem tK:bQ Tryz.prog 53 2 2:=bQ.of (by kernel_rfl)
theorem Be:fU Tryz.prog 51 (Rep.slice kJ.rep):=⟨fun _=>by kernel_rfl,fun _=>by kernel_rfl,fun _=>by kernel_rfl⟩
theorem zC:Tryz.prog.underlying 51=some (.slice 64):=by kernel_rfl
theorem FI:bQ Tryz.prog 53 6 6:=bQ.of (by kernel_rfl)
theorem Gv:bQ Tryz.prog 62 1 1:=bQ.of (by kernel_rfl)
theorem jR:fU Tryz.prog 3 aU:=⟨fun _=>by kernel_rfl,fun _=>by kernel_rfl,fun _=>by kernel_rfl⟩
theorem Tq:bQ Tryz.prog 62 2 2:=bQ.of (by kernel_rfl)
theorem NT:fU Tryz.prog 89 dL.rep:=⟨fun _=>by kernel_rfl,fun _=>by kernel_rfl,fun _=>by kernel_rfl⟩
theorem Pz:bQ Tryz.prog 89 0 0:=bQ.of (by kernel_rfl)
theorem PD:bQ Tryz.prog 89 1 1:=bQ.of (by kernel_rfl)
theorem TD:bQ Tryz.prog 89 2 2:=bQ.of (by kernel_rfl)
theorem NU:fU Tryz.prog 91 jH.rep:=⟨fun _=>by kernel_rfl,fun _=>by kernel_rfl,fun _=>by kernel_rfl⟩
theorem MI:bQ Tryz.prog 91 0 0:=bQ.of (by kernel_rfl)
theorem MH:bQ Tryz.prog 91 1 1:=bQ.of (by kernel_rfl)
theorem zZ:fU Tryz.prog 64 kJ.rep:=⟨fun _=>by kernel_rfl,fun _=>by kernel_rfl,fun _=>by kernel_rfl⟩
theorem CJ:bQ Tryz.prog 64 0 0:=bQ.of (by kernel_rfl)
theorem DZ:bQ Tryz.prog 64 1 1:=bQ.of (by kernel_rfl)
theorem CX:bQ Tryz.prog 53 4 4:=bQ.of (by kernel_rfl)
theorem Tj:bQ Tryz.prog 28 5 5:=bQ.of (by kernel_rfl)
theorem Tm:bQ Tryz.prog 28 7 7:=bQ.of (by kernel_rfl)
theorem Tn:bQ Tryz.prog 28 6 6:=bQ.of (by kernel_rfl)
theorem Fq:bQ Tryz.prog 28 8 8:=bQ.of (by kernel_rfl)
theorem el9:zX Tryz.prog 9 Rep.str:=by unfold zX;kernel_rfl
theorem FZ:Tryz.prog.underlying 29=some (.slice 55):=by kernel_rfl
theorem Jh:fU Tryz.prog 55 GSlot.rep:=⟨fun _=>by kernel_rfl,fun _=>by kernel_rfl,fun _=>by kernel_rfl⟩
theorem MG:bQ Tryz.prog 55 0 0:=bQ.of (by kernel_rfl)
theorem Pv:bQ Tryz.prog 55 1 1:=bQ.of (by kernel_rfl)
theorem TA:bQ Tryz.prog 55 2 2:=bQ.of (by kernel_rfl)
theorem pl62:ku Tryz.prog 62 (fun i=>[(0,1),(1,1),(2,1)][i]?):=ku.of (by kernel_rfl)
theorem pl64:ku Tryz.prog 64 (fun i=>[(0,1),(1,1)][i]?):=ku.of (by kernel_rfl)
theorem pl53:ku Tryz.prog 53 (fun i=>[(0,1),(1,1),(2,1),(3,1),(4,1),(5,1),(6,1)][i]?):=ku.of (by kernel_rfl)
theorem pl28:ku Tryz.prog 28 (fun i=>[(0,1),(1,1),(2,1),(3,1),(4,1),(5,1),(6,1),(7,1),(8,1)][i]?):=ku.of (by kernel_rfl)
theorem pl55:ku Tryz.prog 55 (fun i=>[(0,1),(1,1),(2,1)][i]?):=ku.of (by kernel_rfl)
theorem el66:zX Tryz.prog 66 (Rep.slice aU):=by unfold zX;kernel_rfl
theorem yu:fU Tryz.prog 66 (Rep.slice aU):=⟨fun _=>by kernel_rfl,fun _=>by kernel_rfl,fun _=>by kernel_rfl⟩
theorem F6:Tryz.prog.underlying 94=some (.slice 66):=by kernel_rfl
theorem vO:Tryz.prog.underlying 66=some (.slice 3):=by kernel_rfl
theorem el3:zX Tryz.prog 3 aU:=by unfold zX;kernel_rfl
theorem el99:zX Tryz.prog 99 ah.rep:=by unfold zX;kernel_rfl
theorem fJ:fU Tryz.prog 99 ah.rep:=⟨fun _=>by kernel_rfl,fun _=>by kernel_rfl,fun _=>by kernel_rfl⟩
theorem nZ:Tryz.prog.underlying 73=some (.slice 99):=by kernel_rfl
theorem xZ:bQ Tryz.prog 99 2 2:=bQ.of (by kernel_rfl)
theorem JG:fU Tryz.prog 4 Rep.bool:=⟨fun _=>by kernel_rfl,fun _=>by kernel_rfl,fun _=>by kernel_rfl⟩
theorem VF:ku Tryz.prog 99 (fun i=>[(0,1),(1,1),(2,1)][i]?):=ku.of (by kernel_rfl)
theorem Io:fU Tryz.prog 139 dN.rep:=⟨fun _=>by kernel_rfl,fun _=>by kernel_rfl,fun _=>by kernel_rfl⟩
theorem QM:ku Tryz.prog 139 (fun i=>[(0,1)][i]?):=ku.of (by kernel_rfl)
theorem XG:Tryz.prog.underlying 135=some (.slice 139):=by kernel_rfl
theorem Zq:bQ Tryz.prog 139 0 0:=bQ.of (by kernel_rfl)
theorem ty137:fU Tryz.prog 137 Rep.yZ:=⟨fun _=>by kernel_rfl,fun _=>by kernel_rfl,fun _=>by kernel_rfl⟩
theorem xY:bQ Tryz.prog 99 1 1:=bQ.of (by kernel_rfl)
theorem Bd:bQ Tryz.prog 99 0 0:=bQ.of (by kernel_rfl)
theorem Gz:fU Tryz.prog 116 cu.rep:=⟨fun _=>by kernel_rfl,fun _=>by kernel_rfl,fun _=>by kernel_rfl⟩
theorem QN:ku Tryz.prog 116 (fun i=>[(0,1),(1,1),(2,1)][i]?):=ku.of (by kernel_rfl)
theorem Et:Tryz.prog.underlying 112=some (.slice 116):=by kernel_rfl
theorem Og:zX Tryz.prog 116 cu.rep:=by unfold zX;kernel_rfl
theorem un3:Tryz.prog.underlying 3=some (.int .i64):=by kernel_rfl
theorem ko3:zT Tryz.prog 3 aU (FC .i64):=zT.int un3
theorem XM:Tryz.prog.underlying 162=some (.map 3 3):=by kernel_rfl
theorem TG:bQ Tryz.prog 53 5 5:=bQ.of (by kernel_rfl)
theorem Zr:bQ Tryz.prog 116 2 2:=bQ.of (by kernel_rfl)
theorem ty35:fU Tryz.prog 35 aU:=⟨fun _=>by kernel_rfl,fun _=>by kernel_rfl,fun _=>by kernel_rfl⟩
theorem ty97:fU Tryz.prog 97 aB.rep:=⟨fun _=>by kernel_rfl,fun _=>by kernel_rfl,fun _=>by kernel_rfl⟩
theorem pl97:ku Tryz.prog 97 (fun i=>[(0,9),(9,1),(10,1),(11,1),(12,1)][i]?):=ku.of (by kernel_rfl)
theorem XI:Tryz.prog.underlying 106=some (.slice 4):=by kernel_rfl
theorem el4:zX Tryz.prog 4 Rep.bool:=by unfold zX;kernel_rfl
theorem Tf:bQ Tryz.prog 97 2 10:=bQ.of (by kernel_rfl)
theorem ty95:fU Tryz.prog 95 (Rep.slice (Rep.slice Rep.bool)):=⟨fun _=>by kernel_rfl,fun _=>by kernel_rfl,fun _=>by kernel_rfl⟩
theorem XJ:fU Tryz.prog 106 (Rep.slice Rep.bool):=⟨fun _=>by kernel_rfl,fun _=>by kernel_rfl,fun _=>by kernel_rfl⟩
theorem un95:Tryz.prog.underlying 95=some (.slice 106):=by kernel_rfl
theorem el106:zX Tryz.prog 106 (Rep.slice Rep.bool):=by unfold zX;kernel_rfl
theorem wK:bQ Tryz.prog 97 4 12:=bQ.of (by kernel_rfl)
theorem Em:fU Tryz.prog 73 (Rep.slice ah.rep):=⟨fun _=>by kernel_rfl,fun _=>by kernel_rfl,fun _=>by kernel_rfl⟩
theorem zq:bQ Tryz.prog 97 0 0:=bQ.of (by kernel_rfl)
theorem Ph:bQ Tryz.prog 97 3 11:=bQ.of (by kernel_rfl)
theorem Ti:bQ Tryz.prog 97 1 9:=bQ.of (by kernel_rfl)
theorem ty94:fU Tryz.prog 94 (Rep.slice (Rep.slice aU)):=⟨fun _=>by kernel_rfl,fun _=>by kernel_rfl,fun _=>by kernel_rfl⟩
theorem ty104:fU Tryz.prog 104 ay.rep:=⟨fun _=>by kernel_rfl,fun _=>by kernel_rfl,fun _=>by kernel_rfl⟩
theorem pl104:ku Tryz.prog 104 (fun i=>[(0,1),(1,1),(2,1),(3,1),(4,1),(5,1)][i]?):=ku.of (by kernel_rfl)
theorem Zv:bQ Tryz.prog 104 1 1:=bQ.of (by kernel_rfl)
theorem ty93:fU Tryz.prog 93 Rep.yZ:=⟨fun _=>by kernel_rfl,fun _=>by kernel_rfl,fun _=>by kernel_rfl⟩
theorem yN:bQ Tryz.prog 104 0 0:=bQ.of (by kernel_rfl)
theorem Ep:fU Tryz.prog 69 Rep.GH:=⟨fun _=>by kernel_rfl,fun _=>by kernel_rfl,fun _=>by kernel_rfl⟩
theorem Zw:bQ Tryz.prog 104 2 2:=bQ.of (by kernel_rfl)
theorem Ll:bQ Tryz.prog 104 3 3:=bQ.of (by kernel_rfl)
theorem UE:bQ Tryz.prog 104 5 5:=bQ.of (by kernel_rfl)
theorem XE:fU Tryz.prog 102 Rep.TK:=⟨fun _=>by kernel_rfl,fun _=>by kernel_rfl,fun _=>by kernel_rfl⟩
theorem ko9:zT Tryz.prog 9 Rep.str wL:=zT.str QB
theorem un102:Tryz.prog.underlying 102=some (.map 9 4):=by kernel_rfl
theorem Tt:fU Tryz.prog 101 Rep.GH:=⟨fun _=>by kernel_rfl,fun _=>by kernel_rfl,fun _=>by kernel_rfl⟩
theorem Pm:bQ Tryz.prog 104 4 4:=bQ.of (by kernel_rfl)
theorem el55:zX Tryz.prog 55 GSlot.rep:=by unfold zX;kernel_rfl
theorem Ef:fU Tryz.prog 45 dB.rep:=⟨fun _=>by kernel_rfl,fun _=>by kernel_rfl,fun _=>by kernel_rfl⟩
theorem pl45:ku Tryz.prog 45 (fun i=>[(0,1),(1,1),(2,1)][i]?):=ku.of (by kernel_rfl)
theorem JZ:bQ Tryz.prog 45 0 0:=bQ.of (by kernel_rfl)
theorem Xv:bQ Tryz.prog 45 1 1:=bQ.of (by kernel_rfl)
theorem un5:Tryz.prog.underlying 5=some (.int .u8):=by kernel_rfl
theorem un4:Tryz.prog.underlying 4=some (.bool):=by kernel_rfl
end Go.KB
