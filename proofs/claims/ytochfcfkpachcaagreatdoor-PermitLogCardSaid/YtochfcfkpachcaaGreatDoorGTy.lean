/- What the translation says of its types. Printed by a program. No condition. -/
import Derived.Test.YtochfcfkpachcaaGreatDoorGTypes
import Derived.Test.YtochfcfkpachcaaGreatDoorProg
namespace Go.KB
open Go.Proofs
theorem oJ:kG Tryz.prog 26 GPermitPlan.rep:=⟨fun _=>by kernel_rfl,fun _=>by kernel_rfl,fun _=>by kernel_rfl⟩
theorem qO:dL Tryz.prog 26 0 0:=dL.of (by kernel_rfl)
theorem Aw:kG Tryz.prog 22 (Rep.slice dH.rep):=⟨fun _=>by kernel_rfl,fun _=>by kernel_rfl,fun _=>by kernel_rfl⟩
theorem yw:Tryz.prog.underlying 22=some (.slice 100):=by kernel_rfl
theorem ER:dL Tryz.prog 26 1 1:=dL.of (by kernel_rfl)
theorem PY:kG Tryz.prog 23 (Rep.slice cZ.rep):=⟨fun _=>by kernel_rfl,fun _=>by kernel_rfl,fun _=>by kernel_rfl⟩
theorem Jd:Tryz.prog.underlying 23=some (.slice 111):=by kernel_rfl
theorem ng:dL Tryz.prog 26 2 2:=dL.of (by kernel_rfl)
theorem wX:kG Tryz.prog 24 (Rep.slice aP.rep):=⟨fun _=>by kernel_rfl,fun _=>by kernel_rfl,fun _=>by kernel_rfl⟩
theorem qW:Tryz.prog.underlying 24=some (.slice 52):=by kernel_rfl
theorem kW:kG Tryz.prog 100 dH.rep:=⟨fun _=>by kernel_rfl,fun _=>by kernel_rfl,fun _=>by kernel_rfl⟩
theorem Ah:dL Tryz.prog 100 2 2:=dL.of (by kernel_rfl)
theorem zX:kG Tryz.prog 34 (Rep.slice Rep.str):=⟨fun _=>by kernel_rfl,fun _=>by kernel_rfl,fun _=>by kernel_rfl⟩
theorem jo:Tryz.prog.underlying 34=some (.slice 9):=by kernel_rfl
theorem ve:dL Tryz.prog 100 0 0:=dL.of (by kernel_rfl)
theorem kU:kG Tryz.prog 9 Rep.str:=⟨fun _=>by kernel_rfl,fun _=>by kernel_rfl,fun _=>by kernel_rfl⟩
theorem QZ:Tryz.prog.underlying 9=some (.string):=by kernel_rfl
theorem jw:kG Tryz.prog 52 aP.rep:=⟨fun _=>by kernel_rfl,fun _=>by kernel_rfl,fun _=>by kernel_rfl⟩
theorem DZ:dL Tryz.prog 52 5 5:=dL.of (by kernel_rfl)
theorem mW:dL Tryz.prog 52 0 0:=dL.of (by kernel_rfl)
theorem KU:dL Tryz.prog 26 3 3:=dL.of (by kernel_rfl)
theorem oO:kG Tryz.prog 3 lK:=⟨fun _=>by kernel_rfl,fun _=>by kernel_rfl,fun _=>by kernel_rfl⟩
theorem AV:kG Tryz.prog 111 cZ.rep:=⟨fun _=>by kernel_rfl,fun _=>by kernel_rfl,fun _=>by kernel_rfl⟩
theorem Nh:dL Tryz.prog 111 0 0:=dL.of (by kernel_rfl)
theorem Nj:dL Tryz.prog 111 1 1:=dL.of (by kernel_rfl)
theorem JU:dL Tryz.prog 111 2 2:=dL.of (by kernel_rfl)
theorem uI:dL Tryz.prog 52 1 1:=dL.of (by kernel_rfl)
theorem KW:dL Tryz.prog 52 3 3:=dL.of (by kernel_rfl)
theorem Ob:dL Tryz.prog 52 4 4:=dL.of (by kernel_rfl)
theorem zW:dL Tryz.prog 52 2 2:=dL.of (by kernel_rfl)
theorem DR:Tryz.prog.underlying 27=some (.slice 38):=by kernel_rfl
theorem V5:lY Tryz.prog 100 (fun i=>[(0,1),(1,1),(2,1)][i]?):=lY.of (by kernel_rfl)
theorem Qp:lY Tryz.prog 111 (fun i=>[(0,1),(1,1),(2,1)][i]?):=lY.of (by kernel_rfl)
theorem YI:lY Tryz.prog 52 (fun i=>[(0,1),(1,1),(2,1),(3,1),(4,1),(5,1)][i]?):=lY.of (by kernel_rfl)
theorem pl26:lY Tryz.prog 26 (fun i=>[(0,1),(1,1),(2,1),(3,1)][i]?):=lY.of (by kernel_rfl)
theorem IZ:zh Tryz.prog 9 Rep.str bJ:=zh.str QZ
theorem Ym:kG Tryz.prog 4 Rep.bool:=⟨fun _=>by kernel_rfl,fun _=>by kernel_rfl,fun _=>by kernel_rfl⟩
theorem TB:Tryz.prog.underlying 149=some (.map 9 4):=by kernel_rfl
def JW:Rep (GPermitPlan×Value×Value):=Rep.zn (Rep.prod Rep.raw (Rep.prod (Rep.slice cZ.rep) (Rep.prod Rep.raw (Rep.prod lK Rep.unit)))) (fun s=>(s.2.1,(s.1.dQ,(s.2.2,(s.1.dK,()))))) (fun t=>(⟨[],t.2.1,[],t.2.2.2.1⟩,t.1,t.2.2.1)) (fun _=>rfl)
theorem Nk:Lens JW Rep.raw 0 (fun y=>y.2.1) (fun y z=>(y.1,(fun p z=>((z,p.2):Value×Value)) y.2 z)):=(Lens.zn _ _ _ _).comp (Lens.fst _ _)
theorem jJx:Lens JW (Rep.slice cZ.rep) 1 (fun y=>y.1.dQ) (fun y z=>((fun x z=>({ x with dQ:=z }:GPermitPlan)) y.1 z,y.2)):=(Lens.zn _ _ _ _).comp ((Lens.snd _ _).comp (Lens.fst _ _))
theorem Nl:Lens JW Rep.raw 2 (fun y=>y.2.2) (fun y z=>(y.1,(fun p z=>((p.1,z):Value×Value)) y.2 z)):=(Lens.zn _ _ _ _).comp ((Lens.snd _ _).comp ((Lens.snd _ _).comp (Lens.fst _ _)))
theorem hh26_l3:Lens JW lK 3 (fun y=>y.1.dK) (fun y z=>((fun x z=>({ x with dK:=z }:GPermitPlan)) y.1 z,y.2)):=(Lens.zn _ _ _ _).comp ((Lens.snd _ _).comp ((Lens.snd _ _).comp ((Lens.snd _ _).comp (Lens.fst _ _))))
theorem jJq {h:H} {cs:List Value} {x:GPermitPlan} (hr:GPermitPlan.rep.rel h cs x):∃ p,JW.rel h cs (x,p):=by
  obtain ⟨c0,d0,rfl,k0,c1,d1,rfl,k1,c2,d2,rfl,k2,c3,d3,rfl,k3,kk⟩:=hr
  have f0:=(Rep.slice dH.rep).flat k0
  obtain ⟨v0,rfl,_⟩:=k0
  have f2:=(Rep.slice aP.rep).flat k2
  obtain ⟨v2,rfl,_⟩:=k2
  exact ⟨(v0,v2),_,_,rfl,⟨rfl,f0 v0 (by simp)⟩,_,_,rfl,k1,_,_,rfl,⟨rfl,f2 v2 (by simp)⟩,_,_,rfl,k3,kk⟩
theorem YH {x:GPermitPlan} {v0 v2:Value} {y0:(List dH)} {y2:(List aP)} (h:H) (cs:List Value) (hr:JW.rel h cs (x,v0,v2)) (s0:(Rep.slice dH.rep).rel h [v0] y0) (s2:(Rep.slice aP.rep).rel h [v2] y2):GPermitPlan.rep.rel h cs ({ x with dw:=y0,aH:=y2 }:GPermitPlan):=by
  obtain ⟨c0,d0,rfl,⟨rfl,_⟩,c1,d1,rfl,k1,c2,d2,rfl,⟨rfl,_⟩,c3,d3,rfl,k3,kk⟩:=hr
  exact ⟨_,_,rfl,s0,_,_,rfl,k1,_,_,rfl,s2,_,_,rfl,k3,kk⟩
theorem el100:FZ Tryz.prog 100 dH.rep:=by unfold FZ;kernel_rfl
theorem el111:FZ Tryz.prog 111 cZ.rep:=by unfold FZ;kernel_rfl
theorem el52:FZ Tryz.prog 52 aP.rep:=by unfold FZ;kernel_rfl
theorem Qj:FZ Tryz.prog 9 Rep.str:=by unfold FZ;kernel_rfl
theorem Z8:kG Tryz.prog 67 af.rep:=⟨fun _=>by kernel_rfl,fun _=>by kernel_rfl,fun _=>by kernel_rfl⟩
theorem pl67:lY Tryz.prog 67 (fun i=>[(0,4),(4,1),(5,1),(6,1),(7,1),(8,1)][i]?):=lY.of (by kernel_rfl)
theorem yB:dL Tryz.prog 67 2 5:=dL.of (by kernel_rfl)
theorem BI:kG Tryz.prog 63 Rep.FH:=⟨fun _=>by kernel_rfl,fun _=>by kernel_rfl,fun _=>by kernel_rfl⟩
theorem Cm:kG Tryz.prog 69 ah.rep:=⟨fun _=>by kernel_rfl,fun _=>by kernel_rfl,fun _=>by kernel_rfl⟩
theorem pl69:lY Tryz.prog 69 (fun i=>[(0,1),(1,1),(2,1)][i]?):=lY.of (by kernel_rfl)
theorem Ji:Tryz.prog.underlying 63=some (.map 9 69):=by kernel_rfl
theorem oN:dL Tryz.prog 67 0 0:=dL.of (by kernel_rfl)
theorem DY:Tryz.prog.underlying 73=some (.slice 3):=by kernel_rfl
theorem Rh:Eb Tryz.prog 69 0=some (3,0):=by kernel_rfl
theorem fv69_2:Eb Tryz.prog 69 2=some (3,2):=by kernel_rfl
theorem EO:dL Tryz.prog 67 1 4:=dL.of (by kernel_rfl)
theorem Ri:dL Tryz.prog 69 0 0:=dL.of (by kernel_rfl)
theorem qM:kG Tryz.prog 30 Rep.iq:=⟨fun _=>by kernel_rfl,fun _=>by kernel_rfl,fun _=>by kernel_rfl⟩
theorem Ez:dL Tryz.prog 100 1 1:=dL.of (by kernel_rfl)
theorem NH:dL Tryz.prog 67 3 6:=dL.of (by kernel_rfl)
theorem Td:kG Tryz.prog 64 Rep.FH:=⟨fun _=>by kernel_rfl,fun _=>by kernel_rfl,fun _=>by kernel_rfl⟩
theorem NI:kG Tryz.prog 139 ai.rep:=⟨fun _=>by kernel_rfl,fun _=>by kernel_rfl,fun _=>by kernel_rfl⟩
theorem un64:Tryz.prog.underlying 64=some (.map 9 139):=by kernel_rfl
theorem VO:dL Tryz.prog 139 0 0:=dL.of (by kernel_rfl)
theorem MZ:dL Tryz.prog 139 1 1:=dL.of (by kernel_rfl)
theorem Na:dL Tryz.prog 139 2 2:=dL.of (by kernel_rfl)
theorem vP:kG Tryz.prog 38 GEvent.rep:=⟨fun _=>by kernel_rfl,fun _=>by kernel_rfl,fun _=>by kernel_rfl⟩
theorem Tf:lY Tryz.prog 38 (fun i=>[(0,1),(1,1),(2,1),(3,1),(4,1),(5,1),(6,1),(7,1)][i]?):=lY.of (by kernel_rfl)
theorem CB:kG Tryz.prog 77 bn.rep:=⟨fun _=>by kernel_rfl,fun _=>by kernel_rfl,fun _=>by kernel_rfl⟩
theorem MK:lY Tryz.prog 77 (fun i=>[(0,1),(1,1),(2,1),(3,1)][i]?):=lY.of (by kernel_rfl)
theorem Ti:Tryz.prog.underlying 70=some (.slice 77):=by kernel_rfl
theorem Fv:Tryz.prog.underlying 30=some (.pointer (Tryz.prog.pointee 30)):=by kernel_rfl
theorem Hg:dL Tryz.prog 38 1 1:=dL.of (by kernel_rfl)
theorem KY:dL Tryz.prog 38 0 0:=dL.of (by kernel_rfl)
theorem Yr:dL Tryz.prog 77 2 2:=dL.of (by kernel_rfl)
theorem tye73:kG Tryz.prog 73 (Rep.Hq lK):=⟨fun _=>by kernel_rfl,fun _=>by kernel_rfl,fun _=>by kernel_rfl⟩
theorem Ac:dL Tryz.prog 38 2 2:=dL.of (by kernel_rfl)
theorem fo77_3:dL Tryz.prog 77 3 3:=dL.of (by kernel_rfl)
theorem ty75:kG Tryz.prog 75 Rep.Rq:=⟨fun _=>by kernel_rfl,fun _=>by kernel_rfl,fun _=>by kernel_rfl⟩
theorem mF:kG Tryz.prog 82 ax.rep:=⟨fun _=>by kernel_rfl,fun _=>by kernel_rfl,fun _=>by kernel_rfl⟩
theorem MJ:lY Tryz.prog 82 (fun i=>[(0,1),(1,1)][i]?):=lY.of (by kernel_rfl)
theorem CG:dL Tryz.prog 38 4 4:=dL.of (by kernel_rfl)
theorem fo69_1:dL Tryz.prog 69 1 1:=dL.of (by kernel_rfl)
theorem fv69_1:Eb Tryz.prog 69 1=some (9,1):=by kernel_rfl
theorem qx:kG Tryz.prog 106 bD.rep:=⟨fun _=>by kernel_rfl,fun _=>by kernel_rfl,fun _=>by kernel_rfl⟩
theorem I5:lY Tryz.prog 106 (fun i=>[(0,1),(1,1)][i]?):=lY.of (by kernel_rfl)
theorem EP:Tryz.prog.underlying 53=some (.slice 106):=by kernel_rfl
theorem DU:dL Tryz.prog 67 4 7:=dL.of (by kernel_rfl)
theorem G7:kG Tryz.prog 65 Rep.FH:=⟨fun _=>by kernel_rfl,fun _=>by kernel_rfl,fun _=>by kernel_rfl⟩
theorem Q5:Tryz.prog.underlying 65=some (.map 9 9):=by kernel_rfl
theorem VT:FZ Tryz.prog 106 bD.rep:=by unfold FZ;kernel_rfl
theorem Iw:dL Tryz.prog 106 1 1:=dL.of (by kernel_rfl)
theorem Nb:dL Tryz.prog 106 0 0:=dL.of (by kernel_rfl)
theorem Xb:kG Tryz.prog 31 lK:=⟨fun _=>by kernel_rfl,fun _=>by kernel_rfl,fun _=>by kernel_rfl⟩
theorem Ld:dL Tryz.prog 38 3 3:=dL.of (by kernel_rfl)
theorem Rj:dL Tryz.prog 38 5 5:=dL.of (by kernel_rfl)
theorem Rk:dL Tryz.prog 38 6 6:=dL.of (by kernel_rfl)
theorem pl139:lY Tryz.prog 139 (fun i=>[(0,1),(1,1),(2,1)][i]?):=lY.of (by kernel_rfl)
theorem Rl:dL Tryz.prog 38 7 7:=dL.of (by kernel_rfl)
theorem YC:dL Tryz.prog 69 2 2:=dL.of (by kernel_rfl)
theorem Yt:dL Tryz.prog 82 1 1:=dL.of (by kernel_rfl)
theorem fo82_0:dL Tryz.prog 82 0 0:=dL.of (by kernel_rfl)
theorem NU:dL Tryz.prog 67 5 8:=dL.of (by kernel_rfl)
theorem Yu:kG Tryz.prog 27 (Rep.slice GEvent.rep):=⟨fun _=>by kernel_rfl,fun _=>by kernel_rfl,fun _=>by kernel_rfl⟩
theorem ZW:FZ Tryz.prog 38 GEvent.rep:=by unfold FZ;kernel_rfl
theorem Yx:dL Tryz.prog 77 0 0:=dL.of (by kernel_rfl)
theorem Le:dL Tryz.prog 77 1 1:=dL.of (by kernel_rfl)
theorem un85:Tryz.prog.underlying 85=some (.pointer (Tryz.prog.pointee 85)):=by kernel_rfl
theorem ue131:Tryz.prog.underlying 131=some (.interface (Tryz.prog.methodsAt 131)):=by kernel_rfl
theorem ty30:kG Tryz.prog 30 (Rep.ptr af.rep):=⟨fun _=>by kernel_rfl,fun _=>by kernel_rfl,fun _=>by kernel_rfl⟩
theorem Xa:kG Tryz.prog 53 (Rep.slice bD.rep):=⟨fun _=>by kernel_rfl,fun _=>by kernel_rfl,fun _=>by kernel_rfl⟩
theorem un3:Tryz.prog.underlying 3=some (.int .i64):=by kernel_rfl
theorem un4:Tryz.prog.underlying 4=some (.bool):=by kernel_rfl
end Go.KB
