/- What the translation says of its types. Printed by a program. No condition. -/
import Derived.Test.YtjbnolcahodkkaaGreatGTypes
import Derived.Test.YtjbnolcahodkkaaGreatProg
namespace Go.KB
open Go.Proofs
theorem AZ:jw Tryz.prog 28 GWork.rep:=⟨fun _=>by kernel_rfl,fun _=>by kernel_rfl,fun _=>by kernel_rfl⟩
theorem Ls:bT Tryz.prog 28 1 1:=bT.of (by kernel_rfl)
theorem WC:jw Tryz.prog 23 (Rep.slice nT.rep):=⟨fun _=>by kernel_rfl,fun _=>by kernel_rfl,fun _=>by kernel_rfl⟩
theorem Qr:Tryz.prog.underlying 23=some (.slice 59):=by kernel_rfl
theorem Gq:bT Tryz.prog 28 2 2:=bT.of (by kernel_rfl)
theorem Fv:jw Tryz.prog 24 (Rep.slice dK.rep):=⟨fun _=>by kernel_rfl,fun _=>by kernel_rfl,fun _=>by kernel_rfl⟩
theorem BX:Tryz.prog.underlying 24=some (.slice 61):=by kernel_rfl
theorem RF:bT Tryz.prog 28 3 3:=bT.of (by kernel_rfl)
theorem TG:jw Tryz.prog 25 (Rep.slice dH.rep):=⟨fun _=>by kernel_rfl,fun _=>by kernel_rfl,fun _=>by kernel_rfl⟩
theorem OY:Tryz.prog.underlying 25=some (.slice 121):=by kernel_rfl
theorem UX:bT Tryz.prog 28 4 4:=bT.of (by kernel_rfl)
theorem ty26:jw Tryz.prog 26 (Rep.slice nK.rep):=⟨fun _=>by kernel_rfl,fun _=>by kernel_rfl,fun _=>by kernel_rfl⟩
theorem XL:Tryz.prog.underlying 26=some (.slice 207):=by kernel_rfl
theorem uj:bT Tryz.prog 28 0 0:=bT.of (by kernel_rfl)
theorem Dv:jw Tryz.prog 22 (Rep.slice fQ.rep):=⟨fun _=>by kernel_rfl,fun _=>by kernel_rfl,fun _=>by kernel_rfl⟩
theorem BN:Tryz.prog.underlying 22=some (.slice 65):=by kernel_rfl
theorem NI:jw Tryz.prog 59 nT.rep:=⟨fun _=>by kernel_rfl,fun _=>by kernel_rfl,fun _=>by kernel_rfl⟩
theorem UR:bT Tryz.prog 59 0 0:=bT.of (by kernel_rfl)
theorem lV:jw Tryz.prog 9 Rep.str:=⟨fun _=>by kernel_rfl,fun _=>by kernel_rfl,fun _=>by kernel_rfl⟩
theorem VQ:Tryz.prog.underlying 9=some (.string):=by kernel_rfl
theorem sW:jw Tryz.prog 61 dK.rep:=⟨fun _=>by kernel_rfl,fun _=>by kernel_rfl,fun _=>by kernel_rfl⟩
theorem Bh:bT Tryz.prog 61 0 0:=bT.of (by kernel_rfl)
theorem EU:bT Tryz.prog 61 2 2:=bT.of (by kernel_rfl)
theorem Bl:jw Tryz.prog 45 (Rep.slice Rep.str):=⟨fun _=>by kernel_rfl,fun _=>by kernel_rfl,fun _=>by kernel_rfl⟩
theorem lW:Tryz.prog.underlying 45=some (.slice 9):=by kernel_rfl
theorem uz:jw Tryz.prog 65 fQ.rep:=⟨fun _=>by kernel_rfl,fun _=>by kernel_rfl,fun _=>by kernel_rfl⟩
theorem Eb:bT Tryz.prog 65 0 0:=bT.of (by kernel_rfl)
theorem Yn:bT Tryz.prog 65 1 1:=bT.of (by kernel_rfl)
theorem NJ:bT Tryz.prog 65 3 3:=bT.of (by kernel_rfl)
theorem NK:bT Tryz.prog 65 2 2:=bT.of (by kernel_rfl)
theorem Yl:jw Tryz.prog 63 (Rep.slice xX.rep):=⟨fun _=>by kernel_rfl,fun _=>by kernel_rfl,fun _=>by kernel_rfl⟩
theorem TB:Tryz.prog.underlying 63=some (.slice 72):=by kernel_rfl
theorem UY:bT Tryz.prog 65 6 6:=bT.of (by kernel_rfl)
theorem UE:Tryz.prog.underlying 29=some (.slice 67):=by kernel_rfl
theorem Yg:jw Tryz.prog 67 GSlot.rep:=⟨fun _=>by kernel_rfl,fun _=>by kernel_rfl,fun _=>by kernel_rfl⟩
theorem jQ4:bT Tryz.prog 67 0 0:=bT.of (by kernel_rfl)
theorem XU:Cj Tryz.prog 9 Rep.str:=by unfold Cj;kernel_rfl
theorem Yp:bT Tryz.prog 59 1 1:=bT.of (by kernel_rfl)
theorem kT:jw Tryz.prog 3 bG:=⟨fun _=>by kernel_rfl,fun _=>by kernel_rfl,fun _=>by kernel_rfl⟩
theorem fo59_2:bT Tryz.prog 59 2 2:=bT.of (by kernel_rfl)
theorem Ll:jw Tryz.prog 121 dH.rep:=⟨fun _=>by kernel_rfl,fun _=>by kernel_rfl,fun _=>by kernel_rfl⟩
theorem Md:bT Tryz.prog 121 0 0:=bT.of (by kernel_rfl)
theorem Me:bT Tryz.prog 121 1 1:=bT.of (by kernel_rfl)
theorem Om:bT Tryz.prog 121 2 2:=bT.of (by kernel_rfl)
theorem Ug:jw Tryz.prog 207 nK.rep:=⟨fun _=>by kernel_rfl,fun _=>by kernel_rfl,fun _=>by kernel_rfl⟩
theorem UW:bT Tryz.prog 207 0 0:=bT.of (by kernel_rfl)
theorem UU:bT Tryz.prog 207 1 1:=bT.of (by kernel_rfl)
theorem Wu:jw Tryz.prog 72 xX.rep:=⟨fun _=>by kernel_rfl,fun _=>by kernel_rfl,fun _=>by kernel_rfl⟩
theorem Ym:bT Tryz.prog 72 0 0:=bT.of (by kernel_rfl)
theorem Yo:bT Tryz.prog 72 1 1:=bT.of (by kernel_rfl)
theorem Gp:bT Tryz.prog 65 4 4:=bT.of (by kernel_rfl)
theorem fo28_5:bT Tryz.prog 28 5 5:=bT.of (by kernel_rfl)
theorem fo28_7:bT Tryz.prog 28 7 7:=bT.of (by kernel_rfl)
theorem fo28_6:bT Tryz.prog 28 6 6:=bT.of (by kernel_rfl)
theorem jQa:bT Tryz.prog 28 8 8:=bT.of (by kernel_rfl)
theorem el75:Cj Tryz.prog 75 (Rep.slice bG):=by unfold Cj;kernel_rfl
theorem Ik:jw Tryz.prog 75 (Rep.slice bG):=⟨fun _=>by kernel_rfl,fun _=>by kernel_rfl,fun _=>by kernel_rfl⟩
theorem Lr:Tryz.prog.underlying 195=some (.slice 75):=by kernel_rfl
theorem tZ:Tryz.prog.underlying 75=some (.slice 3):=by kernel_rfl
theorem el3:Cj Tryz.prog 3 bG:=by unfold Cj;kernel_rfl
theorem el78:Cj Tryz.prog 78 aK.rep:=by unfold Cj;kernel_rfl
theorem zD:jw Tryz.prog 78 aK.rep:=⟨fun _=>by kernel_rfl,fun _=>by kernel_rfl,fun _=>by kernel_rfl⟩
theorem EH:Tryz.prog.underlying 68=some (.slice 78):=by kernel_rfl
theorem RD:bT Tryz.prog 78 2 2:=bT.of (by kernel_rfl)
theorem VU:jw Tryz.prog 4 Rep.bool:=⟨fun _=>by kernel_rfl,fun _=>by kernel_rfl,fun _=>by kernel_rfl⟩
theorem Yk:bT Tryz.prog 67 1 1:=bT.of (by kernel_rfl)
theorem jQ5:bT Tryz.prog 67 2 2:=bT.of (by kernel_rfl)
theorem pl78:iZ Tryz.prog 78 (fun i=>[(0,1),(1,1),(2,1)][i]?):=iZ.of (by kernel_rfl)
theorem Nr:jw Tryz.prog 141 fM.rep:=⟨fun _=>by kernel_rfl,fun _=>by kernel_rfl,fun _=>by kernel_rfl⟩
theorem WB:iZ Tryz.prog 141 (fun i=>[(0,1)][i]?):=iZ.of (by kernel_rfl)
theorem jQ2:Tryz.prog.underlying 137=some (.slice 141):=by kernel_rfl
theorem jVn:bT Tryz.prog 141 0 0:=bT.of (by kernel_rfl)
theorem ty139:jw Tryz.prog 139 Rep.Qy:=⟨fun _=>by kernel_rfl,fun _=>by kernel_rfl,fun _=>by kernel_rfl⟩
theorem JE:bT Tryz.prog 78 1 1:=bT.of (by kernel_rfl)
theorem jQ6:bT Tryz.prog 78 0 0:=bT.of (by kernel_rfl)
theorem Lm:jw Tryz.prog 116 dU.rep:=⟨fun _=>by kernel_rfl,fun _=>by kernel_rfl,fun _=>by kernel_rfl⟩
theorem Ws:iZ Tryz.prog 116 (fun i=>[(0,1),(1,1),(2,1)][i]?):=iZ.of (by kernel_rfl)
theorem I4:Tryz.prog.underlying 112=some (.slice 116):=by kernel_rfl
theorem Ue:Cj Tryz.prog 116 dU.rep:=by unfold Cj;kernel_rfl
theorem un3:Tryz.prog.underlying 3=some (.int .i64):=by kernel_rfl
theorem ko3:Dz Tryz.prog 3 bG (JG .i64):=Dz.int un3
theorem jQ7:Tryz.prog.underlying 197=some (.map 3 3):=by kernel_rfl
theorem Yq:bT Tryz.prog 65 5 5:=bT.of (by kernel_rfl)
theorem jVp:bT Tryz.prog 116 2 2:=bT.of (by kernel_rfl)
theorem ty32:jw Tryz.prog 32 bG:=⟨fun _=>by kernel_rfl,fun _=>by kernel_rfl,fun _=>by kernel_rfl⟩
theorem pl59:iZ Tryz.prog 59 (fun i=>[(0,1),(1,1),(2,1)][i]?):=iZ.of (by kernel_rfl)
theorem pl72:iZ Tryz.prog 72 (fun i=>[(0,1),(1,1)][i]?):=iZ.of (by kernel_rfl)
theorem pl65:iZ Tryz.prog 65 (fun i=>[(0,1),(1,1),(2,1),(3,1),(4,1),(5,1),(6,1)][i]?):=iZ.of (by kernel_rfl)
theorem pl28:iZ Tryz.prog 28 (fun i=>[(0,1),(1,1),(2,1),(3,1),(4,1),(5,1),(6,1),(7,1),(8,1)][i]?):=iZ.of (by kernel_rfl)
theorem pl67:iZ Tryz.prog 67 (fun i=>[(0,1),(1,1),(2,1)][i]?):=iZ.of (by kernel_rfl)
theorem ty68:jw Tryz.prog 68 (Rep.slice aK.rep):=⟨fun _=>by kernel_rfl,fun _=>by kernel_rfl,fun _=>by kernel_rfl⟩
theorem P9:Tryz.prog.underlying 166=some (.int .u64):=by kernel_rfl
theorem Nc:jw Tryz.prog 49 oV.rep:=⟨fun _=>by kernel_rfl,fun _=>by kernel_rfl,fun _=>by kernel_rfl⟩
theorem pl49:iZ Tryz.prog 49 (fun i=>[(0,1),(1,1),(2,1),(3,1),(4,1)][i]?):=iZ.of (by kernel_rfl)
theorem G6:Tryz.prog.underlying 35=some (.slice 49):=by kernel_rfl
theorem el49:Cj Tryz.prog 49 oV.rep:=by unfold Cj;kernel_rfl
theorem xB:jw Tryz.prog 40 ax.rep:=⟨fun _=>by kernel_rfl,fun _=>by kernel_rfl,fun _=>by kernel_rfl⟩
theorem pl40:iZ Tryz.prog 40 (fun i=>[(0,1),(1,1),(2,1),(3,1)][i]?):=iZ.of (by kernel_rfl)
theorem Ec:bT Tryz.prog 40 0 0:=bT.of (by kernel_rfl)
theorem pl61:iZ Tryz.prog 61 (fun i=>[(0,1),(1,1),(2,1)][i]?):=iZ.of (by kernel_rfl)
theorem el61:Cj Tryz.prog 61 dK.rep:=by unfold Cj;kernel_rfl
theorem zJ:bT Tryz.prog 40 2 2:=bT.of (by kernel_rfl)
theorem IL:jw Tryz.prog 38 (Rep.slice aQ.rep):=⟨fun _=>by kernel_rfl,fun _=>by kernel_rfl,fun _=>by kernel_rfl⟩
theorem O0:bT Tryz.prog 49 0 0:=bT.of (by kernel_rfl)
theorem fo49_2:bT Tryz.prog 49 2 2:=bT.of (by kernel_rfl)
theorem fo49_1:bT Tryz.prog 49 1 1:=bT.of (by kernel_rfl)
theorem UF:bT Tryz.prog 49 3 3:=bT.of (by kernel_rfl)
theorem jQr:bT Tryz.prog 49 4 4:=bT.of (by kernel_rfl)
theorem mQ:jw Tryz.prog 81 aQ.rep:=⟨fun _=>by kernel_rfl,fun _=>by kernel_rfl,fun _=>by kernel_rfl⟩
theorem pl81:iZ Tryz.prog 81 (fun i=>[(0,1),(1,1),(2,1),(3,1),(4,1),(5,1)][i]?):=iZ.of (by kernel_rfl)
theorem Ag:Tryz.prog.underlying 38=some (.slice 81):=by kernel_rfl
theorem el81:Cj Tryz.prog 81 aQ.rep:=by unfold Cj;kernel_rfl
theorem Ru:bT Tryz.prog 40 1 1:=bT.of (by kernel_rfl)
theorem Ye:bT Tryz.prog 40 3 3:=bT.of (by kernel_rfl)
theorem Qv:Dz Tryz.prog 9 Rep.str fG:=Dz.str VQ
theorem Wl:Tryz.prog.underlying 146=some (.map 9 4):=by kernel_rfl
theorem EP:bT Tryz.prog 81 2 2:=bT.of (by kernel_rfl)
theorem ve:bT Tryz.prog 81 0 0:=bT.of (by kernel_rfl)
theorem Bj:bT Tryz.prog 81 1 1:=bT.of (by kernel_rfl)
theorem X5:bT Tryz.prog 81 3 3:=bT.of (by kernel_rfl)
theorem Ya:bT Tryz.prog 81 4 4:=bT.of (by kernel_rfl)
theorem Nz:bT Tryz.prog 81 5 5:=bT.of (by kernel_rfl)
def Oo:Rep (ax×Value×Value):=Rep.uY (Rep.prod Rep.raw (Rep.prod (Rep.slice dH.rep) (Rep.prod Rep.raw (Rep.prod bG Rep.unit)))) (fun s=>(s.2.1,(s.1.aW,(s.2.2,(s.1.gY,()))))) (fun t=>(⟨[],t.2.1,[],t.2.2.2.1⟩,t.1,t.2.2.1)) (fun _=>rfl)
theorem QR:Lens Oo Rep.raw 0 (fun y=>y.2.1) (fun y z=>(y.1,(fun p z=>((z,p.2):Value×Value)) y.2 z)):=(Lens.uY _ _ _ _).comp (Lens.fst _ _)
theorem jVf:Lens Oo (Rep.slice dH.rep) 1 (fun y=>y.1.aW) (fun y z=>((fun x z=>({ x with aW:=z }:ax)) y.1 z,y.2)):=(Lens.uY _ _ _ _).comp ((Lens.snd _ _).comp (Lens.fst _ _))
theorem QS:Lens Oo Rep.raw 2 (fun y=>y.2.2) (fun y z=>(y.1,(fun p z=>((p.1,z):Value×Value)) y.2 z)):=(Lens.uY _ _ _ _).comp ((Lens.snd _ _).comp ((Lens.snd _ _).comp (Lens.fst _ _)))
theorem hh40_l3:Lens Oo bG 3 (fun y=>y.1.gY) (fun y z=>((fun x z=>({ x with gY:=z }:ax)) y.1 z,y.2)):=(Lens.uY _ _ _ _).comp ((Lens.snd _ _).comp ((Lens.snd _ _).comp ((Lens.snd _ _).comp (Lens.fst _ _))))
theorem jVd {h:H} {cs:List Value} {x:ax} (hr:ax.rep.rel h cs x):∃ p,Oo.rel h cs (x,p):=by
  obtain ⟨c0,d0,rfl,k0,c1,d1,rfl,k1,c2,d2,rfl,k2,c3,d3,rfl,k3,kk⟩:=hr
  have f0:=(Rep.slice dK.rep).flat k0
  obtain ⟨v0,rfl,_⟩:=k0
  have f2:=(Rep.slice aQ.rep).flat k2
  obtain ⟨v2,rfl,_⟩:=k2
  exact ⟨(v0,v2),_,_,rfl,⟨rfl,f0 v0 (by simp)⟩,_,_,rfl,k1,_,_,rfl,⟨rfl,f2 v2 (by simp)⟩,_,_,rfl,k3,kk⟩
theorem jQc {x:ax} {v0 v2:Value} {y0:(List dK)} {y2:(List aQ)} (h:H) (cs:List Value) (hr:Oo.rel h cs (x,v0,v2)) (s0:(Rep.slice dK.rep).rel h [v0] y0) (s2:(Rep.slice aQ.rep).rel h [v2] y2):ax.rep.rel h cs ({ x with bP:=y0,aO:=y2 }:ax):=by
  obtain ⟨c0,d0,rfl,⟨rfl,_⟩,c1,d1,rfl,k1,c2,d2,rfl,⟨rfl,_⟩,c3,d3,rfl,k3,kk⟩:=hr
  exact ⟨_,_,rfl,s0,_,_,rfl,k1,_,_,rfl,s2,_,_,rfl,k3,kk⟩
theorem el121:Cj Tryz.prog 121 dH.rep:=by unfold Cj;kernel_rfl
theorem ty89:jw Tryz.prog 89 ah.rep:=⟨fun _=>by kernel_rfl,fun _=>by kernel_rfl,fun _=>by kernel_rfl⟩
theorem pl89:iZ Tryz.prog 89 (fun i=>[(0,4),(4,1),(5,1),(6,1),(7,1),(8,1)][i]?):=iZ.of (by kernel_rfl)
theorem F9:bT Tryz.prog 89 2 5:=bT.of (by kernel_rfl)
theorem KR:jw Tryz.prog 84 Rep.Jv:=⟨fun _=>by kernel_rfl,fun _=>by kernel_rfl,fun _=>by kernel_rfl⟩
theorem KT:jw Tryz.prog 91 ai.rep:=⟨fun _=>by kernel_rfl,fun _=>by kernel_rfl,fun _=>by kernel_rfl⟩
theorem pl91:iZ Tryz.prog 91 (fun i=>[(0,1),(1,1),(2,1)][i]?):=iZ.of (by kernel_rfl)
theorem Ri:Tryz.prog.underlying 84=some (.map 9 91):=by kernel_rfl
theorem yD:bT Tryz.prog 89 0 0:=bT.of (by kernel_rfl)
theorem jQd:Gx Tryz.prog 91 0=some (3,0):=by kernel_rfl
theorem fv91_2:Gx Tryz.prog 91 2=some (3,2):=by kernel_rfl
theorem O4:bT Tryz.prog 89 1 4:=bT.of (by kernel_rfl)
theorem jQf:bT Tryz.prog 91 0 0:=bT.of (by kernel_rfl)
theorem Ba:jw Tryz.prog 42 Rep.kK:=⟨fun _=>by kernel_rfl,fun _=>by kernel_rfl,fun _=>by kernel_rfl⟩
theorem O1:bT Tryz.prog 61 1 1:=bT.of (by kernel_rfl)
theorem jQm:bT Tryz.prog 89 3 6:=bT.of (by kernel_rfl)
theorem tyr85:jw Tryz.prog 85 Rep.Jv:=⟨fun _=>by kernel_rfl,fun _=>by kernel_rfl,fun _=>by kernel_rfl⟩
theorem Zo:jw Tryz.prog 158 au.rep:=⟨fun _=>by kernel_rfl,fun _=>by kernel_rfl,fun _=>by kernel_rfl⟩
theorem un85:Tryz.prog.underlying 85=some (.map 9 158):=by kernel_rfl
theorem jVm:bT Tryz.prog 158 0 0:=bT.of (by kernel_rfl)
theorem Zu:bT Tryz.prog 158 1 1:=bT.of (by kernel_rfl)
theorem Zv:bT Tryz.prog 158 2 2:=bT.of (by kernel_rfl)
theorem XM:jw Tryz.prog 51 cu.rep:=⟨fun _=>by kernel_rfl,fun _=>by kernel_rfl,fun _=>by kernel_rfl⟩
theorem pl51:iZ Tryz.prog 51 (fun i=>[(0,1),(1,1),(2,1),(3,1),(4,1),(5,1),(6,1),(7,1)][i]?):=iZ.of (by kernel_rfl)
theorem KU:jw Tryz.prog 98 bV.rep:=⟨fun _=>by kernel_rfl,fun _=>by kernel_rfl,fun _=>by kernel_rfl⟩
theorem Qz:iZ Tryz.prog 98 (fun i=>[(0,1),(1,1),(2,1),(3,1)][i]?):=iZ.of (by kernel_rfl)
theorem un92:Tryz.prog.underlying 92=some (.slice 98):=by kernel_rfl
theorem Z9:Tryz.prog.underlying 42=some (.pointer (Tryz.prog.pointee 42)):=by kernel_rfl
theorem Rj:bT Tryz.prog 51 1 1:=bT.of (by kernel_rfl)
theorem UG:bT Tryz.prog 51 0 0:=bT.of (by kernel_rfl)
theorem ty42:jw Tryz.prog 42 (Rep.ptr ah.rep):=⟨fun _=>by kernel_rfl,fun _=>by kernel_rfl,fun _=>by kernel_rfl⟩
theorem jQg:bT Tryz.prog 98 2 2:=bT.of (by kernel_rfl)
theorem tye75:jw Tryz.prog 75 (Rep.LC bG):=⟨fun _=>by kernel_rfl,fun _=>by kernel_rfl,fun _=>by kernel_rfl⟩
theorem D9:bT Tryz.prog 51 2 2:=bT.of (by kernel_rfl)
theorem fo98_3:bT Tryz.prog 98 3 3:=bT.of (by kernel_rfl)
theorem ty96:jw Tryz.prog 96 Rep.Qy:=⟨fun _=>by kernel_rfl,fun _=>by kernel_rfl,fun _=>by kernel_rfl⟩
theorem jA:jw Tryz.prog 103 ay.rep:=⟨fun _=>by kernel_rfl,fun _=>by kernel_rfl,fun _=>by kernel_rfl⟩
theorem J5:iZ Tryz.prog 103 (fun i=>[(0,1),(1,1)][i]?):=iZ.of (by kernel_rfl)
theorem F7:bT Tryz.prog 51 4 4:=bT.of (by kernel_rfl)
theorem fo91_1:bT Tryz.prog 91 1 1:=bT.of (by kernel_rfl)
theorem fv91_1:Gx Tryz.prog 91 1=some (9,1):=by kernel_rfl
theorem E8:jw Tryz.prog 156 dG.rep:=⟨fun _=>by kernel_rfl,fun _=>by kernel_rfl,fun _=>by kernel_rfl⟩
theorem VY:iZ Tryz.prog 156 (fun i=>[(0,1),(1,1)][i]?):=iZ.of (by kernel_rfl)
theorem V3:Tryz.prog.underlying 180=some (.slice 156):=by kernel_rfl
theorem Ny:bT Tryz.prog 89 4 7:=bT.of (by kernel_rfl)
theorem Rh:jw Tryz.prog 86 Rep.Jv:=⟨fun _=>by kernel_rfl,fun _=>by kernel_rfl,fun _=>by kernel_rfl⟩
theorem XR:Tryz.prog.underlying 86=some (.map 9 9):=by kernel_rfl
theorem el156:Cj Tryz.prog 156 dG.rep:=by unfold Cj;kernel_rfl
theorem UI:bT Tryz.prog 156 1 1:=bT.of (by kernel_rfl)
theorem Zn:bT Tryz.prog 156 0 0:=bT.of (by kernel_rfl)
theorem Rf:bT Tryz.prog 51 3 3:=bT.of (by kernel_rfl)
theorem X7:bT Tryz.prog 51 5 5:=bT.of (by kernel_rfl)
theorem X8:bT Tryz.prog 51 6 6:=bT.of (by kernel_rfl)
theorem pl158:iZ Tryz.prog 158 (fun i=>[(0,1),(1,1),(2,1)][i]?):=iZ.of (by kernel_rfl)
theorem XV:bT Tryz.prog 51 7 7:=bT.of (by kernel_rfl)
theorem jQu:bT Tryz.prog 91 2 2:=bT.of (by kernel_rfl)
theorem Zm:bT Tryz.prog 103 1 1:=bT.of (by kernel_rfl)
theorem jVb:bT Tryz.prog 103 0 0:=bT.of (by kernel_rfl)
theorem jQb:bT Tryz.prog 89 5 8:=bT.of (by kernel_rfl)
theorem ty87:jw Tryz.prog 87 (Rep.slice cu.rep):=⟨fun _=>by kernel_rfl,fun _=>by kernel_rfl,fun _=>by kernel_rfl⟩
theorem un87:Tryz.prog.underlying 87=some (.slice 51):=by kernel_rfl
theorem el51:Cj Tryz.prog 51 cu.rep:=by unfold Cj;kernel_rfl
theorem un4:Tryz.prog.underlying 4=some (.bool):=by kernel_rfl
end Go.KB
