/- What the translation says of its types. Printed by a program. No condition. -/
import Derived.Test.YtochfcfkpachcaaGreatDoorGTypes
import Derived.Test.YtochfcfkpachcaaGreatDoorProg
namespace Go.KB
open Go.Proofs
theorem oJ:kH Tryz.prog 26 GPermitPlan.rep:=⟨fun _=>by kernel_rfl,fun _=>by kernel_rfl,fun _=>by kernel_rfl⟩
theorem qP:dL Tryz.prog 26 0 0:=dL.of (by kernel_rfl)
theorem Aw:kH Tryz.prog 22 (Rep.slice dH.rep):=⟨fun _=>by kernel_rfl,fun _=>by kernel_rfl,fun _=>by kernel_rfl⟩
theorem yw:Tryz.prog.underlying 22=some (.slice 100):=by kernel_rfl
theorem ES:dL Tryz.prog 26 1 1:=dL.of (by kernel_rfl)
theorem P5:kH Tryz.prog 23 (Rep.slice cZ.rep):=⟨fun _=>by kernel_rfl,fun _=>by kernel_rfl,fun _=>by kernel_rfl⟩
theorem Jg:Tryz.prog.underlying 23=some (.slice 111):=by kernel_rfl
theorem ng:dL Tryz.prog 26 2 2:=dL.of (by kernel_rfl)
theorem wX:kH Tryz.prog 24 (Rep.slice aP.rep):=⟨fun _=>by kernel_rfl,fun _=>by kernel_rfl,fun _=>by kernel_rfl⟩
theorem qX:Tryz.prog.underlying 24=some (.slice 52):=by kernel_rfl
theorem kX:kH Tryz.prog 100 dH.rep:=⟨fun _=>by kernel_rfl,fun _=>by kernel_rfl,fun _=>by kernel_rfl⟩
theorem Ah:dL Tryz.prog 100 2 2:=dL.of (by kernel_rfl)
theorem zX:kH Tryz.prog 34 (Rep.slice Rep.str):=⟨fun _=>by kernel_rfl,fun _=>by kernel_rfl,fun _=>by kernel_rfl⟩
theorem jo:Tryz.prog.underlying 34=some (.slice 9):=by kernel_rfl
theorem ve:dL Tryz.prog 100 0 0:=dL.of (by kernel_rfl)
theorem kV:kH Tryz.prog 9 Rep.str:=⟨fun _=>by kernel_rfl,fun _=>by kernel_rfl,fun _=>by kernel_rfl⟩
theorem Q7:Tryz.prog.underlying 9=some (.string):=by kernel_rfl
theorem jw:kH Tryz.prog 52 aP.rep:=⟨fun _=>by kernel_rfl,fun _=>by kernel_rfl,fun _=>by kernel_rfl⟩
theorem D5:dL Tryz.prog 52 5 5:=dL.of (by kernel_rfl)
theorem mW:dL Tryz.prog 52 0 0:=dL.of (by kernel_rfl)
theorem KY:dL Tryz.prog 26 3 3:=dL.of (by kernel_rfl)
theorem oO:kH Tryz.prog 3 lH:=⟨fun _=>by kernel_rfl,fun _=>by kernel_rfl,fun _=>by kernel_rfl⟩
theorem AV:kH Tryz.prog 111 cZ.rep:=⟨fun _=>by kernel_rfl,fun _=>by kernel_rfl,fun _=>by kernel_rfl⟩
theorem Nl:dL Tryz.prog 111 0 0:=dL.of (by kernel_rfl)
theorem Np:dL Tryz.prog 111 1 1:=dL.of (by kernel_rfl)
theorem JX:dL Tryz.prog 111 2 2:=dL.of (by kernel_rfl)
theorem uI:dL Tryz.prog 52 1 1:=dL.of (by kernel_rfl)
theorem KZ:dL Tryz.prog 52 3 3:=dL.of (by kernel_rfl)
theorem Og:dL Tryz.prog 52 4 4:=dL.of (by kernel_rfl)
theorem zW:dL Tryz.prog 52 2 2:=dL.of (by kernel_rfl)
theorem DT:Tryz.prog.underlying 27=some (.slice 38):=by kernel_rfl
theorem V5:lY Tryz.prog 100 (fun i=>[(0,1),(1,1),(2,1)][i]?):=lY.of (by kernel_rfl)
theorem Qu:lY Tryz.prog 111 (fun i=>[(0,1),(1,1),(2,1)][i]?):=lY.of (by kernel_rfl)
theorem YI:lY Tryz.prog 52 (fun i=>[(0,1),(1,1),(2,1),(3,1),(4,1),(5,1)][i]?):=lY.of (by kernel_rfl)
theorem pl26:lY Tryz.prog 26 (fun i=>[(0,1),(1,1),(2,1),(3,1)][i]?):=lY.of (by kernel_rfl)
theorem I7:zh Tryz.prog 9 Rep.str bK:=zh.str Q7
theorem Ym:kH Tryz.prog 4 Rep.bool:=⟨fun _=>by kernel_rfl,fun _=>by kernel_rfl,fun _=>by kernel_rfl⟩
theorem TD:Tryz.prog.underlying 149=some (.map 9 4):=by kernel_rfl
def JZ:Rep (GPermitPlan×Value×Value):=Rep.zn (Rep.prod Rep.raw (Rep.prod (Rep.slice cZ.rep) (Rep.prod Rep.raw (Rep.prod lH Rep.unit)))) (fun s=>(s.2.1,(s.1.dR,(s.2.2,(s.1.dK,()))))) (fun t=>(⟨[],t.2.1,[],t.2.2.2.1⟩,t.1,t.2.2.1)) (fun _=>rfl)
theorem Nq:Lens JZ Rep.raw 0 (fun y=>y.2.1) (fun y z=>(y.1,(fun p z=>((z,p.2):Value×Value)) y.2 z)):=(Lens.zn _ _ _ _).comp (Lens.fst _ _)
theorem jJx:Lens JZ (Rep.slice cZ.rep) 1 (fun y=>y.1.dR) (fun y z=>((fun x z=>({ x with dR:=z }:GPermitPlan)) y.1 z,y.2)):=(Lens.zn _ _ _ _).comp ((Lens.snd _ _).comp (Lens.fst _ _))
theorem Nr:Lens JZ Rep.raw 2 (fun y=>y.2.2) (fun y z=>(y.1,(fun p z=>((p.1,z):Value×Value)) y.2 z)):=(Lens.zn _ _ _ _).comp ((Lens.snd _ _).comp ((Lens.snd _ _).comp (Lens.fst _ _)))
theorem hh26_l3:Lens JZ lH 3 (fun y=>y.1.dK) (fun y z=>((fun x z=>({ x with dK:=z }:GPermitPlan)) y.1 z,y.2)):=(Lens.zn _ _ _ _).comp ((Lens.snd _ _).comp ((Lens.snd _ _).comp ((Lens.snd _ _).comp (Lens.fst _ _))))
theorem jJq {h:H} {cs:List Value} {x:GPermitPlan} (hr:GPermitPlan.rep.rel h cs x):∃ p,JZ.rel h cs (x,p):=by
  obtain ⟨c0,d0,rfl,k0,c1,d1,rfl,k1,c2,d2,rfl,k2,c3,d3,rfl,k3,kk⟩:=hr
  have f0:=(Rep.slice dH.rep).flat k0
  obtain ⟨v0,rfl,_⟩:=k0
  have f2:=(Rep.slice aP.rep).flat k2
  obtain ⟨v2,rfl,_⟩:=k2
  exact ⟨(v0,v2),_,_,rfl,⟨rfl,f0 v0 (by simp)⟩,_,_,rfl,k1,_,_,rfl,⟨rfl,f2 v2 (by simp)⟩,_,_,rfl,k3,kk⟩
theorem YH {x:GPermitPlan} {v0 v2:Value} {y0:(List dH)} {y2:(List aP)} (h:H) (cs:List Value) (hr:JZ.rel h cs (x,v0,v2)) (s0:(Rep.slice dH.rep).rel h [v0] y0) (s2:(Rep.slice aP.rep).rel h [v2] y2):GPermitPlan.rep.rel h cs ({ x with dA:=y0,aH:=y2 }:GPermitPlan):=by
  obtain ⟨c0,d0,rfl,⟨rfl,_⟩,c1,d1,rfl,k1,c2,d2,rfl,⟨rfl,_⟩,c3,d3,rfl,k3,kk⟩:=hr
  exact ⟨_,_,rfl,s0,_,_,rfl,k1,_,_,rfl,s2,_,_,rfl,k3,kk⟩
theorem el100:F5 Tryz.prog 100 dH.rep:=by unfold F5;kernel_rfl
theorem el111:F5 Tryz.prog 111 cZ.rep:=by unfold F5;kernel_rfl
theorem el52:F5 Tryz.prog 52 aP.rep:=by unfold F5;kernel_rfl
theorem Ql:F5 Tryz.prog 9 Rep.str:=by unfold F5;kernel_rfl
theorem Z8:kH Tryz.prog 67 af.rep:=⟨fun _=>by kernel_rfl,fun _=>by kernel_rfl,fun _=>by kernel_rfl⟩
theorem pl67:lY Tryz.prog 67 (fun i=>[(0,4),(4,1),(5,1),(6,1),(7,1),(8,1)][i]?):=lY.of (by kernel_rfl)
theorem yB:dL Tryz.prog 67 2 5:=dL.of (by kernel_rfl)
theorem BJ:kH Tryz.prog 63 Rep.FI:=⟨fun _=>by kernel_rfl,fun _=>by kernel_rfl,fun _=>by kernel_rfl⟩
theorem CB:kH Tryz.prog 69 ah.rep:=⟨fun _=>by kernel_rfl,fun _=>by kernel_rfl,fun _=>by kernel_rfl⟩
theorem pl69:lY Tryz.prog 69 (fun i=>[(0,1),(1,1),(2,1)][i]?):=lY.of (by kernel_rfl)
theorem Jl:Tryz.prog.underlying 63=some (.map 9 69):=by kernel_rfl
theorem oN:dL Tryz.prog 67 0 0:=dL.of (by kernel_rfl)
theorem DZ:Tryz.prog.underlying 73=some (.slice 3):=by kernel_rfl
theorem Rj:Ec Tryz.prog 69 0=some (3,0):=by kernel_rfl
theorem fv69_2:Ec Tryz.prog 69 2=some (3,2):=by kernel_rfl
theorem EP:dL Tryz.prog 67 1 4:=dL.of (by kernel_rfl)
theorem Rk:dL Tryz.prog 69 0 0:=dL.of (by kernel_rfl)
theorem qN:kH Tryz.prog 30 Rep.fM:=⟨fun _=>by kernel_rfl,fun _=>by kernel_rfl,fun _=>by kernel_rfl⟩
theorem EC:dL Tryz.prog 100 1 1:=dL.of (by kernel_rfl)
theorem NK:dL Tryz.prog 67 3 6:=dL.of (by kernel_rfl)
theorem Tf:kH Tryz.prog 64 Rep.FI:=⟨fun _=>by kernel_rfl,fun _=>by kernel_rfl,fun _=>by kernel_rfl⟩
theorem NM:kH Tryz.prog 139 ai.rep:=⟨fun _=>by kernel_rfl,fun _=>by kernel_rfl,fun _=>by kernel_rfl⟩
theorem un64:Tryz.prog.underlying 64=some (.map 9 139):=by kernel_rfl
theorem VO:dL Tryz.prog 139 0 0:=dL.of (by kernel_rfl)
theorem Nc:dL Tryz.prog 139 1 1:=dL.of (by kernel_rfl)
theorem Nh:dL Tryz.prog 139 2 2:=dL.of (by kernel_rfl)
theorem vP:kH Tryz.prog 38 GEvent.rep:=⟨fun _=>by kernel_rfl,fun _=>by kernel_rfl,fun _=>by kernel_rfl⟩
theorem Ti:lY Tryz.prog 38 (fun i=>[(0,1),(1,1),(2,1),(3,1),(4,1),(5,1),(6,1),(7,1)][i]?):=lY.of (by kernel_rfl)
theorem CG:kH Tryz.prog 77 bC.rep:=⟨fun _=>by kernel_rfl,fun _=>by kernel_rfl,fun _=>by kernel_rfl⟩
theorem MO:lY Tryz.prog 77 (fun i=>[(0,1),(1,1),(2,1),(3,1)][i]?):=lY.of (by kernel_rfl)
theorem Tj:Tryz.prog.underlying 70=some (.slice 77):=by kernel_rfl
theorem Fz:Tryz.prog.underlying 30=some (.pointer (Tryz.prog.pointee 30)):=by kernel_rfl
theorem Hl:dL Tryz.prog 38 1 1:=dL.of (by kernel_rfl)
theorem Lc:dL Tryz.prog 38 0 0:=dL.of (by kernel_rfl)
theorem Yr:dL Tryz.prog 77 2 2:=dL.of (by kernel_rfl)
theorem tye73:kH Tryz.prog 73 (Rep.Hr lH):=⟨fun _=>by kernel_rfl,fun _=>by kernel_rfl,fun _=>by kernel_rfl⟩
theorem Ac:dL Tryz.prog 38 2 2:=dL.of (by kernel_rfl)
theorem fo77_3:dL Tryz.prog 77 3 3:=dL.of (by kernel_rfl)
theorem ty75:kH Tryz.prog 75 Rep.PZ:=⟨fun _=>by kernel_rfl,fun _=>by kernel_rfl,fun _=>by kernel_rfl⟩
theorem mF:kH Tryz.prog 82 ax.rep:=⟨fun _=>by kernel_rfl,fun _=>by kernel_rfl,fun _=>by kernel_rfl⟩
theorem MN:lY Tryz.prog 82 (fun i=>[(0,1),(1,1)][i]?):=lY.of (by kernel_rfl)
theorem CJ:dL Tryz.prog 38 4 4:=dL.of (by kernel_rfl)
theorem fo69_1:dL Tryz.prog 69 1 1:=dL.of (by kernel_rfl)
theorem fv69_1:Ec Tryz.prog 69 1=some (9,1):=by kernel_rfl
theorem qx:kH Tryz.prog 106 bg.rep:=⟨fun _=>by kernel_rfl,fun _=>by kernel_rfl,fun _=>by kernel_rfl⟩
theorem I9:lY Tryz.prog 106 (fun i=>[(0,1),(1,1)][i]?):=lY.of (by kernel_rfl)
theorem EQ:Tryz.prog.underlying 53=some (.slice 106):=by kernel_rfl
theorem DV:dL Tryz.prog 67 4 7:=dL.of (by kernel_rfl)
theorem G8:kH Tryz.prog 65 Rep.FI:=⟨fun _=>by kernel_rfl,fun _=>by kernel_rfl,fun _=>by kernel_rfl⟩
theorem Q8:Tryz.prog.underlying 65=some (.map 9 9):=by kernel_rfl
theorem VT:F5 Tryz.prog 106 bg.rep:=by unfold F5;kernel_rfl
theorem Iz:dL Tryz.prog 106 1 1:=dL.of (by kernel_rfl)
theorem Nj:dL Tryz.prog 106 0 0:=dL.of (by kernel_rfl)
theorem Xb:kH Tryz.prog 31 lH:=⟨fun _=>by kernel_rfl,fun _=>by kernel_rfl,fun _=>by kernel_rfl⟩
theorem Lj:dL Tryz.prog 38 3 3:=dL.of (by kernel_rfl)
theorem Rl:dL Tryz.prog 38 5 5:=dL.of (by kernel_rfl)
theorem Rn:dL Tryz.prog 38 6 6:=dL.of (by kernel_rfl)
theorem pl139:lY Tryz.prog 139 (fun i=>[(0,1),(1,1),(2,1)][i]?):=lY.of (by kernel_rfl)
theorem Ro:dL Tryz.prog 38 7 7:=dL.of (by kernel_rfl)
theorem YC:dL Tryz.prog 69 2 2:=dL.of (by kernel_rfl)
theorem Yt:dL Tryz.prog 82 1 1:=dL.of (by kernel_rfl)
theorem fo82_0:dL Tryz.prog 82 0 0:=dL.of (by kernel_rfl)
theorem NY:dL Tryz.prog 67 5 8:=dL.of (by kernel_rfl)
theorem Yu:kH Tryz.prog 27 (Rep.slice GEvent.rep):=⟨fun _=>by kernel_rfl,fun _=>by kernel_rfl,fun _=>by kernel_rfl⟩
theorem ZW:F5 Tryz.prog 38 GEvent.rep:=by unfold F5;kernel_rfl
theorem Yx:dL Tryz.prog 77 0 0:=dL.of (by kernel_rfl)
theorem Ll:dL Tryz.prog 77 1 1:=dL.of (by kernel_rfl)
theorem un85:Tryz.prog.underlying 85=some (.pointer (Tryz.prog.pointee 85)):=by kernel_rfl
theorem ue131:Tryz.prog.underlying 131=some (.interface (Tryz.prog.methodsAt 131)):=by kernel_rfl
theorem ty30:kH Tryz.prog 30 (Rep.ptr af.rep):=⟨fun _=>by kernel_rfl,fun _=>by kernel_rfl,fun _=>by kernel_rfl⟩
theorem Xa:kH Tryz.prog 53 (Rep.slice bg.rep):=⟨fun _=>by kernel_rfl,fun _=>by kernel_rfl,fun _=>by kernel_rfl⟩
theorem un3:Tryz.prog.underlying 3=some (.int .i64):=by kernel_rfl
theorem un4:Tryz.prog.underlying 4=some (.bool):=by kernel_rfl
end Go.KB
