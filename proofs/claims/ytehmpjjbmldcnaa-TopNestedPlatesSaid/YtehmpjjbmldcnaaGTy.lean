/- What the translation says of its types. Printed by a program. No condition. -/
import Derived.Test.YtehmpjjbmldcnaaGTypes
import Derived.Test.YtehmpjjbmldcnaaProg
namespace Go.KB
open Go.Proofs
theorem yA:iV Try.prog 59 bC.rep:=⟨fun _=>by kernel_rfl,fun _=>by kernel_rfl,fun _=>by kernel_rfl⟩
theorem pl59:iW Try.prog 59 (fun i=>[(0,1),(1,1),(2,1),(3,1)][i]?):=iW.of (by kernel_rfl)
theorem yu:Try.prog.underlying 22=some (.slice 59):=by kernel_rfl
theorem qP:iV Try.prog 28 GPlate.rep:=⟨fun _=>by kernel_rfl,fun _=>by kernel_rfl,fun _=>by kernel_rfl⟩
theorem pl28:iW Try.prog 28 (fun i=>[(0,1),(1,1),(2,1)][i]?):=iW.of (by kernel_rfl)
theorem kZ:iV Try.prog 50 bV.rep:=⟨fun _=>by kernel_rfl,fun _=>by kernel_rfl,fun _=>by kernel_rfl⟩
theorem yt:Try.prog.underlying 23=some (.slice 28):=by kernel_rfl
theorem HY:bK Try.prog 59 0 0:=bK.of (by kernel_rfl)
theorem ty9:iV Try.prog 9 Rep.str:=⟨fun _=>by kernel_rfl,fun _=>by kernel_rfl,fun _=>by kernel_rfl⟩
theorem Sl:Try.prog.underlying 9=some (.string):=by kernel_rfl
theorem ko9:EH Try.prog 9 Rep.str Qr:=EH.str Sl
theorem AP:iV Try.prog 4 Rep.bool:=⟨fun _=>by kernel_rfl,fun _=>by kernel_rfl,fun _=>by kernel_rfl⟩
theorem XO:Try.prog.underlying 100=some (.map 9 4):=by kernel_rfl
theorem Dv:bK Try.prog 59 1 1:=bK.of (by kernel_rfl)
theorem gU:iV Try.prog 3 aU:=⟨fun _=>by kernel_rfl,fun _=>by kernel_rfl,fun _=>by kernel_rfl⟩
theorem Dw:bK Try.prog 59 2 2:=bK.of (by kernel_rfl)
theorem Em:Try.prog.underlying 74=some (.slice 3):=by kernel_rfl
theorem Au:bK Try.prog 28 0 0:=bK.of (by kernel_rfl)
theorem Aw:bK Try.prog 28 1 1:=bK.of (by kernel_rfl)
theorem Hu:bK Try.prog 28 2 2:=bK.of (by kernel_rfl)
theorem SS:iW Try.prog 50 (fun i=>[(0,1),(1,1),(2,1),(3,1),(4,1),(5,1)][i]?):=iW.of (by kernel_rfl)
theorem el103:vX Try.prog 103 (Rep.slice af.rep):=by unfold vX;kernel_rfl
theorem wM:iV Try.prog 103 (Rep.slice af.rep):=⟨fun _=>by kernel_rfl,fun _=>by kernel_rfl,fun _=>by kernel_rfl⟩
theorem OH:Try.prog.underlying 69=some (.slice 103):=by kernel_rfl
theorem JY:iV Try.prog 69 (Rep.slice (Rep.slice af.rep)):=⟨fun _=>by kernel_rfl,fun _=>by kernel_rfl,fun _=>by kernel_rfl⟩
theorem kP:iV Try.prog 105 af.rep:=⟨fun _=>by kernel_rfl,fun _=>by kernel_rfl,fun _=>by kernel_rfl⟩
theorem Rh:iW Try.prog 105 (fun i=>[(0,1),(1,1),(2,1),(3,1),(4,1),(5,1)][i]?):=iW.of (by kernel_rfl)
theorem yc:bK Try.prog 105 0 0:=bK.of (by kernel_rfl)
theorem yg:bK Try.prog 105 1 1:=bK.of (by kernel_rfl)
theorem ug:Try.prog.underlying 103=some (.slice 105):=by kernel_rfl
theorem el105:vX Try.prog 105 af.rep:=by unfold vX;kernel_rfl
theorem Np:bK Try.prog 59 3 3:=bK.of (by kernel_rfl)
theorem JB:Try.prog.underlying 3=some (.int .i64):=by kernel_rfl
theorem FT:Try.prog.underlying 109=some (.int .u64):=by kernel_rfl
theorem vP:Try.prog.underlying 120=some (.int .u64):=by kernel_rfl
theorem Ce:bK Try.prog 105 5 5:=bK.of (by kernel_rfl)
theorem Wy:bK Try.prog 105 2 2:=bK.of (by kernel_rfl)
theorem WA:bK Try.prog 105 3 3:=bK.of (by kernel_rfl)
theorem Nz:bK Try.prog 105 4 4:=bK.of (by kernel_rfl)
theorem zy:Try.prog.underlying 48=some (.slice 50):=by kernel_rfl
theorem EN:bK Try.prog 26 0 0:=bK.of (by kernel_rfl)
theorem Qg:iV Try.prog 22 (Rep.slice bC.rep):=⟨fun _=>by kernel_rfl,fun _=>by kernel_rfl,fun _=>by kernel_rfl⟩
theorem BP:bK Try.prog 26 1 1:=bK.of (by kernel_rfl)
theorem Na:iV Try.prog 23 (Rep.slice GPlate.rep):=⟨fun _=>by kernel_rfl,fun _=>by kernel_rfl,fun _=>by kernel_rfl⟩
theorem G8:bK Try.prog 26 2 2:=bK.of (by kernel_rfl)
theorem Sr:iV Try.prog 24 (Rep.slice dR.rep):=⟨fun _=>by kernel_rfl,fun _=>by kernel_rfl,fun _=>by kernel_rfl⟩
theorem BK:Try.prog.underlying 24=some (.slice 52):=by kernel_rfl
theorem Du:bK Try.prog 26 3 3:=bK.of (by kernel_rfl)
theorem el67:vX Try.prog 67 aN.rep:=by unfold vX;kernel_rfl
theorem ET:iV Try.prog 67 aN.rep:=⟨fun _=>by kernel_rfl,fun _=>by kernel_rfl,fun _=>by kernel_rfl⟩
theorem Lr:Try.prog.underlying 65=some (.slice 67):=by kernel_rfl
theorem Nu:bK Try.prog 67 3 9:=bK.of (by kernel_rfl)
theorem Yw:Try.prog.underlying 68=some (.slice 69):=by kernel_rfl
theorem el69:vX Try.prog 69 (Rep.slice (Rep.slice af.rep)):=by unfold vX;kernel_rfl
theorem Nv:bK Try.prog 67 0 0:=bK.of (by kernel_rfl)
theorem Dj:iV Try.prog 52 dR.rep:=⟨fun _=>by kernel_rfl,fun _=>by kernel_rfl,fun _=>by kernel_rfl⟩
theorem pl52:iW Try.prog 52 (fun i=>[(0,1),(1,6)][i]?):=iW.of (by kernel_rfl)
theorem pl67:iW Try.prog 67 (fun i=>[(0,1),(1,7),(8,1),(9,1)][i]?):=iW.of (by kernel_rfl)
theorem Yy:bK Try.prog 67 1 1:=bK.of (by kernel_rfl)
theorem el52:vX Try.prog 52 dR.rep:=by unfold vX;kernel_rfl
theorem Yz:bK Try.prog 67 2 8:=bK.of (by kernel_rfl)
theorem el28:vX Try.prog 28 GPlate.rep:=by unfold vX;kernel_rfl
theorem el3:vX Try.prog 3 aU:=by unfold vX;kernel_rfl
theorem AL:bK Try.prog 52 0 0:=bK.of (by kernel_rfl)
theorem Nb:bK Try.prog 52 1 1:=bK.of (by kernel_rfl)
theorem BV:bK Try.prog 50 4 4:=bK.of (by kernel_rfl)
theorem BX:iV Try.prog 48 (Rep.slice bV.rep):=⟨fun _=>by kernel_rfl,fun _=>by kernel_rfl,fun _=>by kernel_rfl⟩
theorem BZ:bK Try.prog 50 5 5:=bK.of (by kernel_rfl)
theorem uT:iV Try.prog 81 bg.rep:=⟨fun _=>by kernel_rfl,fun _=>by kernel_rfl,fun _=>by kernel_rfl⟩
theorem Wq:iW Try.prog 81 (fun i=>[(0,1),(1,1),(2,1),(3,1)][i]?):=iW.of (by kernel_rfl)
theorem vk:bK Try.prog 81 2 2:=bK.of (by kernel_rfl)
theorem vw:bK Try.prog 81 3 3:=bK.of (by kernel_rfl)
theorem AQ:bK Try.prog 50 0 0:=bK.of (by kernel_rfl)
theorem rH:bK Try.prog 50 3 3:=bK.of (by kernel_rfl)
theorem JS:bK Try.prog 50 2 2:=bK.of (by kernel_rfl)
theorem JU:bK Try.prog 50 1 1:=bK.of (by kernel_rfl)
theorem JZ:iV Try.prog 83 cO.rep:=⟨fun _=>by kernel_rfl,fun _=>by kernel_rfl,fun _=>by kernel_rfl⟩
theorem pl83:iW Try.prog 83 (fun i=>[(0,1),(1,1),(2,4)][i]?):=iW.of (by kernel_rfl)
theorem EW:Try.prog.underlying 77=some (.slice 83):=by kernel_rfl
theorem AA:bK Try.prog 81 1 1:=bK.of (by kernel_rfl)
theorem Az:bK Try.prog 81 0 0:=bK.of (by kernel_rfl)
theorem YA:vX Try.prog 83 cO.rep:=by unfold vX;kernel_rfl
theorem Qo:bK Try.prog 83 0 0:=bK.of (by kernel_rfl)
theorem J3:bK Try.prog 83 2 2:=bK.of (by kernel_rfl)
theorem Qe:Try.prog.underlying 53=some (.slice 81):=by kernel_rfl
theorem el81:vX Try.prog 81 bg.rep:=by unfold vX;kernel_rfl
theorem Qp:bK Try.prog 83 1 1:=bK.of (by kernel_rfl)
theorem ty129:iV Try.prog 129 (Rep.arr (Rep.slice bV.rep) 2):=⟨fun _=>by kernel_rfl,fun _=>by kernel_rfl,fun _=>by kernel_rfl⟩
theorem pl129:iW Try.prog 129 (fun i=>some (i * 1,1)):=iW.mkArr (E:=48) (n:=2) (by kernel_rfl) (fun _=>by kernel_rfl)
theorem un129:Try.prog.underlying 129=some (.array 2 48):=by kernel_rfl
theorem mg:iV Try.prog 89 ah.rep:=⟨fun _=>by kernel_rfl,fun _=>by kernel_rfl,fun _=>by kernel_rfl⟩
theorem pl89:iW Try.prog 89 (fun i=>[(0,1),(1,1),(2,4)][i]?):=iW.of (by kernel_rfl)
theorem vN:Try.prog.underlying 85=some (.slice 89):=by kernel_rfl
theorem el89:vX Try.prog 89 ah.rep:=by unfold vX;kernel_rfl
theorem EK:bK Try.prog 89 0 0:=bK.of (by kernel_rfl)
theorem Yt:bK Try.prog 89 1 1:=bK.of (by kernel_rfl)
theorem JH:bK Try.prog 89 2 2:=bK.of (by kernel_rfl)
theorem kY:iV Try.prog 43 jq.rep:=⟨fun _=>by kernel_rfl,fun _=>by kernel_rfl,fun _=>by kernel_rfl⟩
theorem Ox:iW Try.prog 43 (fun i=>[(0,2),(2,2)][i]?):=iW.of (by kernel_rfl)
theorem oh:iV Try.prog 41 ig.rep:=⟨fun _=>by kernel_rfl,fun _=>by kernel_rfl,fun _=>by kernel_rfl⟩
theorem mF:Try.prog.underlying 135=some (.int .u16):=by kernel_rfl
theorem fM:iV Try.prog 135 dX:=⟨fun _=>by kernel_rfl,fun _=>by kernel_rfl,fun _=>by kernel_rfl⟩
theorem jm:Try.prog.underlying 39=some (.slice 135):=by kernel_rfl
theorem EF:vX Try.prog 135 dX:=by unfold vX;kernel_rfl
theorem Uh:iW Try.prog 41 (fun i=>[(0,1),(1,1)][i]?):=iW.of (by kernel_rfl)
theorem yO:bK Try.prog 41 1 1:=bK.of (by kernel_rfl)
theorem Ja:iV Try.prog 39 (Rep.slice dX):=⟨fun _=>by kernel_rfl,fun _=>by kernel_rfl,fun _=>by kernel_rfl⟩
theorem xI:Try.prog.underlying 127=some (.int .u32):=by kernel_rfl
theorem un5:Try.prog.underlying 5=some (.int .u8):=by kernel_rfl
theorem un2:Try.prog.underlying 2=some (.int .i64):=by kernel_rfl
theorem vz:bK Try.prog 41 0 0:=bK.of (by kernel_rfl)
theorem un4:Try.prog.underlying 4=some (.bool):=by kernel_rfl
theorem Nl:bK Try.prog 43 0 0:=bK.of (by kernel_rfl)
theorem Ho:bK Try.prog 43 1 2:=bK.of (by kernel_rfl)
theorem jE:Try.prog.underlying 131=some (.slice 3):=by kernel_rfl
theorem Yr:DC Try.prog 43 0=some (41,0):=by kernel_rfl
end Go.KB
