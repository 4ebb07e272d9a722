/- What the translation says of its types. Printed by a program. No condition. -/
import Derived.Test.YtekbfkfjhgfieaaGreatGTypes
import Derived.Test.YtekbfkfjhgfieaaGreatProg
namespace Go.KB
open Go.Proofs
theorem oL:iy Tryz.prog 26 GPermitPlan.rep:=⟨fun _=>by kernel_rfl,fun _=>by kernel_rfl,fun _=>by kernel_rfl⟩
theorem oz:cu Tryz.prog 26 0 0:=cu.of (by kernel_rfl)
theorem yL:iy Tryz.prog 22 (Rep.slice dn.rep):=⟨fun _=>by kernel_rfl,fun _=>by kernel_rfl,fun _=>by kernel_rfl⟩
theorem vK:Tryz.prog.underlying 22=some (.slice 64):=by kernel_rfl
theorem Di:cu Tryz.prog 26 1 1:=cu.of (by kernel_rfl)
theorem Nl:iy Tryz.prog 23 (Rep.slice bT.rep):=⟨fun _=>by kernel_rfl,fun _=>by kernel_rfl,fun _=>by kernel_rfl⟩
theorem Ip:Tryz.prog.underlying 23=some (.slice 56):=by kernel_rfl
theorem lN:cu Tryz.prog 26 2 2:=cu.of (by kernel_rfl)
theorem uD:iy Tryz.prog 24 (Rep.slice aG.rep):=⟨fun _=>by kernel_rfl,fun _=>by kernel_rfl,fun _=>by kernel_rfl⟩
theorem qR:Tryz.prog.underlying 24=some (.slice 58):=by kernel_rfl
theorem oV:iy Tryz.prog 64 dn.rep:=⟨fun _=>by kernel_rfl,fun _=>by kernel_rfl,fun _=>by kernel_rfl⟩
theorem AB:cu Tryz.prog 64 2 2:=cu.of (by kernel_rfl)
theorem xP:iy Tryz.prog 36 (Rep.slice Rep.str):=⟨fun _=>by kernel_rfl,fun _=>by kernel_rfl,fun _=>by kernel_rfl⟩
theorem jK:Tryz.prog.underlying 36=some (.slice 9):=by kernel_rfl
theorem xB:cu Tryz.prog 64 0 0:=cu.of (by kernel_rfl)
theorem kY:iy Tryz.prog 9 Rep.str:=⟨fun _=>by kernel_rfl,fun _=>by kernel_rfl,fun _=>by kernel_rfl⟩
theorem VQ:Tryz.prog.underlying 9=some (.string):=by kernel_rfl
theorem jd:iy Tryz.prog 58 aG.rep:=⟨fun _=>by kernel_rfl,fun _=>by kernel_rfl,fun _=>by kernel_rfl⟩
theorem AA:cu Tryz.prog 58 5 5:=cu.of (by kernel_rfl)
theorem pY:cu Tryz.prog 58 0 0:=cu.of (by kernel_rfl)
theorem TJ:Tryz.prog.underlying 27=some (.slice 45):=by kernel_rfl
theorem Zz:jJ Tryz.prog 64 (fun i=>[(0,1),(1,1),(2,1)][i]?):=jJ.of (by kernel_rfl)
theorem DU:iy Tryz.prog 56 bT.rep:=⟨fun _=>by kernel_rfl,fun _=>by kernel_rfl,fun _=>by kernel_rfl⟩
theorem V3:jJ Tryz.prog 56 (fun i=>[(0,1),(1,1),(2,1)][i]?):=jJ.of (by kernel_rfl)
theorem XJ:jJ Tryz.prog 58 (fun i=>[(0,1),(1,1),(2,1),(3,1),(4,1),(5,1)][i]?):=jJ.of (by kernel_rfl)
theorem pl26:jJ Tryz.prog 26 (fun i=>[(0,1),(1,1),(2,1),(3,1)][i]?):=jJ.of (by kernel_rfl)
theorem Kt:cu Tryz.prog 26 3 3:=cu.of (by kernel_rfl)
theorem jO:iy Tryz.prog 3 bK:=⟨fun _=>by kernel_rfl,fun _=>by kernel_rfl,fun _=>by kernel_rfl⟩
theorem Ns:BG Tryz.prog 9 Rep.str eu:=BG.str VQ
theorem Xb:iy Tryz.prog 4 Rep.bool:=⟨fun _=>by kernel_rfl,fun _=>by kernel_rfl,fun _=>by kernel_rfl⟩
theorem Rw:Tryz.prog.underlying 180=some (.map 9 4):=by kernel_rfl
theorem Ko:cu Tryz.prog 56 0 0:=cu.of (by kernel_rfl)
theorem Kq:cu Tryz.prog 56 1 1:=cu.of (by kernel_rfl)
theorem Kr:cu Tryz.prog 56 2 2:=cu.of (by kernel_rfl)
theorem uh:cu Tryz.prog 58 2 2:=cu.of (by kernel_rfl)
theorem oQ:cu Tryz.prog 58 1 1:=cu.of (by kernel_rfl)
theorem JX:cu Tryz.prog 58 3 3:=cu.of (by kernel_rfl)
theorem Ku:cu Tryz.prog 58 4 4:=cu.of (by kernel_rfl)
def IA:Rep (GPermitPlan×Value×Value):=Rep.uS (Rep.prod Rep.raw (Rep.prod (Rep.slice bT.rep) (Rep.prod Rep.raw (Rep.prod bK Rep.unit)))) (fun s=>(s.2.1,(s.1.dR,(s.2.2,(s.1.fC,()))))) (fun t=>(⟨[],t.2.1,[],t.2.2.2.1⟩,t.1,t.2.2.1)) (fun _=>rfl)
theorem MH:Lens IA Rep.raw 0 (fun y=>y.2.1) (fun y z=>(y.1,(fun p z=>((z,p.2):Value×Value)) y.2 z)):=(Lens.uS _ _ _ _).comp (Lens.fst _ _)
theorem ZB:Lens IA (Rep.slice bT.rep) 1 (fun y=>y.1.dR) (fun y z=>((fun x z=>({ x with dR:=z }:GPermitPlan)) y.1 z,y.2)):=(Lens.uS _ _ _ _).comp ((Lens.snd _ _).comp (Lens.fst _ _))
theorem MI:Lens IA Rep.raw 2 (fun y=>y.2.2) (fun y z=>(y.1,(fun p z=>((p.1,z):Value×Value)) y.2 z)):=(Lens.uS _ _ _ _).comp ((Lens.snd _ _).comp ((Lens.snd _ _).comp (Lens.fst _ _)))
theorem hh26_l3:Lens IA bK 3 (fun y=>y.1.fC) (fun y z=>((fun x z=>({ x with fC:=z }:GPermitPlan)) y.1 z,y.2)):=(Lens.uS _ _ _ _).comp ((Lens.snd _ _).comp ((Lens.snd _ _).comp ((Lens.snd _ _).comp (Lens.fst _ _))))
theorem ZA {h:H} {cs:List Value} {x:GPermitPlan} (hr:GPermitPlan.rep.rel h cs x):∃ p,IA.rel h cs (x,p):=by
  obtain ⟨c0,d0,rfl,k0,c1,d1,rfl,k1,c2,d2,rfl,k2,c3,d3,rfl,k3,kk⟩:=hr
  have f0:=(Rep.slice dn.rep).flat k0
  obtain ⟨v0,rfl,_⟩:=k0
  have f2:=(Rep.slice aG.rep).flat k2
  obtain ⟨v2,rfl,_⟩:=k2
  exact ⟨(v0,v2),_,_,rfl,⟨rfl,f0 v0 (by simp)⟩,_,_,rfl,k1,_,_,rfl,⟨rfl,f2 v2 (by simp)⟩,_,_,rfl,k3,kk⟩
theorem XQ {x:GPermitPlan} {v0 v2:Value} {y0:(List dn)} {y2:(List aG)} (h:H) (cs:List Value) (hr:IA.rel h cs (x,v0,v2)) (s0:(Rep.slice dn.rep).rel h [v0] y0) (s2:(Rep.slice aG.rep).rel h [v2] y2):GPermitPlan.rep.rel h cs ({ x with bG:=y0,aj:=y2 }:GPermitPlan):=by
  obtain ⟨c0,d0,rfl,⟨rfl,_⟩,c1,d1,rfl,k1,c2,d2,rfl,⟨rfl,_⟩,c3,d3,rfl,k3,kk⟩:=hr
  exact ⟨_,_,rfl,s0,_,_,rfl,k1,_,_,rfl,s2,_,_,rfl,k3,kk⟩
theorem el64:AX Tryz.prog 64 dn.rep:=by unfold AX;kernel_rfl
theorem el56:AX Tryz.prog 56 bT.rep:=by unfold AX;kernel_rfl
theorem el58:AX Tryz.prog 58 aG.rep:=by unfold AX;kernel_rfl
theorem PV:AX Tryz.prog 9 Rep.str:=by unfold AX;kernel_rfl
theorem ty110:iy Tryz.prog 110 ai.rep:=⟨fun _=>by kernel_rfl,fun _=>by kernel_rfl,fun _=>by kernel_rfl⟩
theorem pl110:jJ Tryz.prog 110 (fun i=>[(0,4),(4,1),(5,1),(6,1),(7,1),(8,1)][i]?):=jJ.of (by kernel_rfl)
theorem Bg:cu Tryz.prog 110 2 5:=cu.of (by kernel_rfl)
theorem Ej:iy Tryz.prog 106 Rep.FB:=⟨fun _=>by kernel_rfl,fun _=>by kernel_rfl,fun _=>by kernel_rfl⟩
theorem BZ:iy Tryz.prog 112 ah.rep:=⟨fun _=>by kernel_rfl,fun _=>by kernel_rfl,fun _=>by kernel_rfl⟩
theorem pl112:jJ Tryz.prog 112 (fun i=>[(0,1),(1,1),(2,1)][i]?):=jJ.of (by kernel_rfl)
theorem IJ:Tryz.prog.underlying 106=some (.map 9 112):=by kernel_rfl
theorem sQ:cu Tryz.prog 110 0 0:=cu.of (by kernel_rfl)
theorem qX:Tryz.prog.underlying 35=some (.slice 3):=by kernel_rfl
theorem ZF:Dv Tryz.prog 112 0=some (3,0):=by kernel_rfl
theorem Zy:Dv Tryz.prog 112 2=some (3,2):=by kernel_rfl
theorem Fg:cu Tryz.prog 110 1 4:=cu.of (by kernel_rfl)
theorem Vh:cu Tryz.prog 112 0 0:=cu.of (by kernel_rfl)
theorem zM:iy Tryz.prog 30 Rep.jP:=⟨fun _=>by kernel_rfl,fun _=>by kernel_rfl,fun _=>by kernel_rfl⟩
theorem Gm:cu Tryz.prog 64 1 1:=cu.of (by kernel_rfl)
theorem Vp:cu Tryz.prog 110 3 6:=cu.of (by kernel_rfl)
theorem XI:iy Tryz.prog 107 Rep.FB:=⟨fun _=>by kernel_rfl,fun _=>by kernel_rfl,fun _=>by kernel_rfl⟩
theorem Vq:iy Tryz.prog 189 ay.rep:=⟨fun _=>by kernel_rfl,fun _=>by kernel_rfl,fun _=>by kernel_rfl⟩
theorem un107:Tryz.prog.underlying 107=some (.map 9 189):=by kernel_rfl
theorem Zx:cu Tryz.prog 189 0 0:=cu.of (by kernel_rfl)
theorem Vr:cu Tryz.prog 189 1 1:=cu.of (by kernel_rfl)
theorem Vs:cu Tryz.prog 189 2 2:=cu.of (by kernel_rfl)
theorem JW:iy Tryz.prog 45 GEvent.rep:=⟨fun _=>by kernel_rfl,fun _=>by kernel_rfl,fun _=>by kernel_rfl⟩
theorem Zu:jJ Tryz.prog 45 (fun i=>[(0,1),(1,1),(2,1),(3,1),(4,1),(5,1),(6,1),(7,1)][i]?):=jJ.of (by kernel_rfl)
theorem BA:iy Tryz.prog 120 bJ.rep:=⟨fun _=>by kernel_rfl,fun _=>by kernel_rfl,fun _=>by kernel_rfl⟩
theorem FY:jJ Tryz.prog 120 (fun i=>[(0,1),(1,1),(2,1),(3,1)][i]?):=jJ.of (by kernel_rfl)
theorem Vd:Tryz.prog.underlying 115=some (.slice 120):=by kernel_rfl
theorem TL:Tryz.prog.underlying 30=some (.pointer (Tryz.prog.pointee 30)):=by kernel_rfl
theorem yD:cu Tryz.prog 45 1 1:=cu.of (by kernel_rfl)
theorem Gn:cu Tryz.prog 45 0 0:=cu.of (by kernel_rfl)
theorem Ve:cu Tryz.prog 120 2 2:=cu.of (by kernel_rfl)
theorem tye35:iy Tryz.prog 35 (Rep.Gy bK):=⟨fun _=>by kernel_rfl,fun _=>by kernel_rfl,fun _=>by kernel_rfl⟩
theorem Ac:cu Tryz.prog 45 2 2:=cu.of (by kernel_rfl)
theorem Zq:cu Tryz.prog 120 3 3:=cu.of (by kernel_rfl)
theorem ty118:iy Tryz.prog 118 Rep.P5:=⟨fun _=>by kernel_rfl,fun _=>by kernel_rfl,fun _=>by kernel_rfl⟩
theorem iZ:iy Tryz.prog 125 au.rep:=⟨fun _=>by kernel_rfl,fun _=>by kernel_rfl,fun _=>by kernel_rfl⟩
theorem FX:jJ Tryz.prog 125 (fun i=>[(0,1),(1,1)][i]?):=jJ.of (by kernel_rfl)
theorem xw:cu Tryz.prog 45 4 4:=cu.of (by kernel_rfl)
theorem Zv:cu Tryz.prog 112 1 1:=cu.of (by kernel_rfl)
theorem Zw:Dv Tryz.prog 112 1=some (9,1):=by kernel_rfl
theorem wo:iy Tryz.prog 148 bM.rep:=⟨fun _=>by kernel_rfl,fun _=>by kernel_rfl,fun _=>by kernel_rfl⟩
theorem IG:jJ Tryz.prog 148 (fun i=>[(0,1),(1,1)][i]?):=jJ.of (by kernel_rfl)
theorem F7:Tryz.prog.underlying 86=some (.slice 148):=by kernel_rfl
theorem Hw:cu Tryz.prog 110 4 7:=cu.of (by kernel_rfl)
theorem Kv:iy Tryz.prog 108 Rep.FB:=⟨fun _=>by kernel_rfl,fun _=>by kernel_rfl,fun _=>by kernel_rfl⟩
theorem O0:Tryz.prog.underlying 108=some (.map 9 9):=by kernel_rfl
theorem OX:AX Tryz.prog 148 bM.rep:=by unfold AX;kernel_rfl
theorem MF:cu Tryz.prog 148 1 1:=cu.of (by kernel_rfl)
theorem PX:cu Tryz.prog 148 0 0:=cu.of (by kernel_rfl)
theorem Xj:iy Tryz.prog 31 bK:=⟨fun _=>by kernel_rfl,fun _=>by kernel_rfl,fun _=>by kernel_rfl⟩
theorem Ei:cu Tryz.prog 45 3 3:=cu.of (by kernel_rfl)
theorem J7:cu Tryz.prog 45 5 5:=cu.of (by kernel_rfl)
theorem J8:cu Tryz.prog 45 6 6:=cu.of (by kernel_rfl)
theorem pl189:jJ Tryz.prog 189 (fun i=>[(0,1),(1,1),(2,1)][i]?):=jJ.of (by kernel_rfl)
theorem J3:cu Tryz.prog 45 7 7:=cu.of (by kernel_rfl)
theorem Vb:cu Tryz.prog 112 2 2:=cu.of (by kernel_rfl)
theorem Vf:cu Tryz.prog 125 1 1:=cu.of (by kernel_rfl)
theorem Zt:cu Tryz.prog 125 0 0:=cu.of (by kernel_rfl)
theorem Vg:cu Tryz.prog 110 5 8:=cu.of (by kernel_rfl)
theorem ty27:iy Tryz.prog 27 (Rep.slice GEvent.rep):=⟨fun _=>by kernel_rfl,fun _=>by kernel_rfl,fun _=>by kernel_rfl⟩
theorem el45:AX Tryz.prog 45 GEvent.rep:=by unfold AX;kernel_rfl
theorem iO:iy Tryz.prog 40 af.rep:=⟨fun _=>by kernel_rfl,fun _=>by kernel_rfl,fun _=>by kernel_rfl⟩
theorem el3:AX Tryz.prog 3 bK:=by unfold AX;kernel_rfl
theorem Xo:AX Tryz.prog 155 dL.rep:=by unfold AX;kernel_rfl
theorem II:iy Tryz.prog 155 dL.rep:=⟨fun _=>by kernel_rfl,fun _=>by kernel_rfl,fun _=>by kernel_rfl⟩
theorem TV:Tryz.prog.underlying 37=some (.slice 155):=by kernel_rfl
theorem pl40:jJ Tryz.prog 40 (fun i=>[(0,4),(4,1),(5,1),(6,1),(7,1),(8,1),(9,1)][i]?):=jJ.of (by kernel_rfl)
theorem Ff:cu Tryz.prog 40 4 7:=cu.of (by kernel_rfl)
theorem xQ:iy Tryz.prog 35 (Rep.slice bK):=⟨fun _=>by kernel_rfl,fun _=>by kernel_rfl,fun _=>by kernel_rfl⟩
theorem lK:iy Tryz.prog 47 aO.rep:=⟨fun _=>by kernel_rfl,fun _=>by kernel_rfl,fun _=>by kernel_rfl⟩
theorem F8:jJ Tryz.prog 47 (fun i=>[(0,1),(1,1)][i]?):=jJ.of (by kernel_rfl)
theorem IV:cu Tryz.prog 40 1 4:=cu.of (by kernel_rfl)
theorem qW:cu Tryz.prog 40 2 5:=cu.of (by kernel_rfl)
theorem JZ:cu Tryz.prog 40 3 6:=cu.of (by kernel_rfl)
theorem J9:cu Tryz.prog 40 5 8:=cu.of (by kernel_rfl)
theorem VT:iy Tryz.prog 37 (Rep.slice dL.rep):=⟨fun _=>by kernel_rfl,fun _=>by kernel_rfl,fun _=>by kernel_rfl⟩
theorem D6:iy Tryz.prog 158 eP.rep:=⟨fun _=>by kernel_rfl,fun _=>by kernel_rfl,fun _=>by kernel_rfl⟩
theorem Dh:Tryz.prog.underlying 38=some (.slice 158):=by kernel_rfl
theorem yN:cu Tryz.prog 40 6 9:=cu.of (by kernel_rfl)
theorem Gp:iy Tryz.prog 38 (Rep.slice eP.rep):=⟨fun _=>by kernel_rfl,fun _=>by kernel_rfl,fun _=>by kernel_rfl⟩
theorem Nk:AX Tryz.prog 158 eP.rep:=by unfold AX;kernel_rfl
def lV:Rep (af×Value×Value×Value×Value):=Rep.uS (Rep.prod GPermitPlan.rep (Rep.prod bK (Rep.prod Rep.raw (Rep.prod Rep.raw (Rep.prod Rep.raw (Rep.prod Rep.raw (Rep.prod (Rep.slice eP.rep) Rep.unit))))))) (fun s=>(s.1.P,(s.1.Now,(s.2.1,(s.2.2.1,(s.2.2.2.1,(s.2.2.2.2,(s.1.nD,())))))))) (fun t=>(⟨t.1,t.2.1,[],[],[],[],t.2.2.2.2.2.2.1⟩,t.2.2.1,t.2.2.2.1,t.2.2.2.2.1,t.2.2.2.2.2.1)) (fun _=>rfl)
theorem qi:Lens lV GPermitPlan.rep 0 (fun y=>y.1.P) (fun y z=>((fun x z=>({ x with P:=z }:af)) y.1 z,y.2)):=(Lens.uS _ _ _ _).comp (Lens.fst _ _)
theorem MC:Lens lV bK 4 (fun y=>y.1.Now) (fun y z=>((fun x z=>({ x with Now:=z }:af)) y.1 z,y.2)):=(Lens.uS _ _ _ _).comp ((Lens.snd _ _).comp (Lens.fst _ _))
theorem nT:Lens lV Rep.raw 5 (fun y=>y.2.1) (fun y z=>(y.1,(fun p z=>((z,p.2.1,p.2.2.1,p.2.2.2):Value×Value×Value×Value)) y.2 z)):=(Lens.uS _ _ _ _).comp ((Lens.snd _ _).comp ((Lens.snd _ _).comp (Lens.fst _ _)))
theorem Fe:Lens lV Rep.raw 6 (fun y=>y.2.2.1) (fun y z=>(y.1,(fun p z=>((p.1,z,p.2.2.1,p.2.2.2):Value×Value×Value×Value)) y.2 z)):=(Lens.uS _ _ _ _).comp ((Lens.snd _ _).comp ((Lens.snd _ _).comp ((Lens.snd _ _).comp (Lens.fst _ _))))
theorem D5:Lens lV Rep.raw 7 (fun y=>y.2.2.2.1) (fun y z=>(y.1,(fun p z=>((p.1,p.2.1,z,p.2.2.2):Value×Value×Value×Value)) y.2 z)):=(Lens.uS _ _ _ _).comp ((Lens.snd _ _).comp ((Lens.snd _ _).comp ((Lens.snd _ _).comp ((Lens.snd _ _).comp (Lens.fst _ _)))))
theorem Fb:Lens lV Rep.raw 8 (fun y=>y.2.2.2.2) (fun y z=>(y.1,(fun p z=>((p.1,p.2.1,p.2.2.1,z):Value×Value×Value×Value)) y.2 z)):=(Lens.uS _ _ _ _).comp ((Lens.snd _ _).comp ((Lens.snd _ _).comp ((Lens.snd _ _).comp ((Lens.snd _ _).comp ((Lens.snd _ _).comp (Lens.fst _ _))))))
theorem xA:Lens lV (Rep.slice eP.rep) 9 (fun y=>y.1.nD) (fun y z=>((fun x z=>({ x with nD:=z }:af)) y.1 z,y.2)):=(Lens.uS _ _ _ _).comp ((Lens.snd _ _).comp ((Lens.snd _ _).comp ((Lens.snd _ _).comp ((Lens.snd _ _).comp ((Lens.snd _ _).comp ((Lens.snd _ _).comp (Lens.fst _ _)))))))
theorem hh40_in {h:H} {cs:List Value} {x:af} (hr:af.rep.rel h cs x):∃ p,lV.rel h cs (x,p):=by
  obtain ⟨c0,d0,rfl,k0,c1,d1,rfl,k1,c2,d2,rfl,k2,c3,d3,rfl,k3,c4,d4,rfl,k4,c5,d5,rfl,k5,c6,d6,rfl,k6,kk⟩:=hr
  have f2:=(Rep.slice bK).flat k2
  obtain ⟨v2,rfl,_⟩:=k2
  have f3:=(Rep.slice Rep.str).flat k3
  obtain ⟨v3,rfl,_⟩:=k3
  have f4:=(Rep.slice bK).flat k4
  obtain ⟨v4,rfl,_⟩:=k4
  have f5:=(Rep.slice dL.rep).flat k5
  obtain ⟨v5,rfl,_⟩:=k5
  exact ⟨(v2,v3,v4,v5),_,_,rfl,k0,_,_,rfl,k1,_,_,rfl,⟨rfl,f2 v2 (by simp)⟩,_,_,rfl,⟨rfl,f3 v3 (by simp)⟩,_,_,rfl,⟨rfl,f4 v4 (by simp)⟩,_,_,rfl,⟨rfl,f5 v5 (by simp)⟩,_,_,rfl,k6,kk⟩
theorem mr {x:af} {v2 v3 v4 v5:Value} {y2:(List Int)} {y3:(List Str)} {y4:(List Int)} {y5:(List dL)} (h:H) (cs:List Value) (hr:lV.rel h cs (x,v2,v3,v4,v5)) (s2:(Rep.slice bK).rel h [v2] y2) (s3:(Rep.slice Rep.str).rel h [v3] y3) (s4:(Rep.slice bK).rel h [v4] y4) (s5:(Rep.slice dL.rep).rel h [v5] y5):af.rep.rel h cs ({ x with bH:=y2,By:=y3,To:=y4,Tests:=y5 }:af):=by
  obtain ⟨c0,d0,rfl,k0,c1,d1,rfl,k1,c2,d2,rfl,⟨rfl,_⟩,c3,d3,rfl,⟨rfl,_⟩,c4,d4,rfl,⟨rfl,_⟩,c5,d5,rfl,⟨rfl,_⟩,c6,d6,rfl,k6,kk⟩:=hr
  exact ⟨_,_,rfl,k0,_,_,rfl,k1,_,_,rfl,s2,_,_,rfl,s3,_,_,rfl,s4,_,_,rfl,s5,_,_,rfl,k6,kk⟩
def U4 (x:af) (p:Value×Value×Value×Value) (h:H):Prop:=(Rep.slice bK).rel h [p.1] x.bH∧(Rep.slice Rep.str).rel h [p.2.1] x.By∧(Rep.slice bK).rel h [p.2.2.1] x.To∧(Rep.slice dL.rep).rel h [p.2.2.2] x.Tests
theorem Xq {x:af} (h:H) (cs:List Value) (hr:af.rep.rel h cs x):∃ p,lV.rel h cs (x,p)∧U4 x p h:=by
  obtain ⟨c0,d0,rfl,k0,c1,d1,rfl,k1,c2,d2,rfl,k2,c3,d3,rfl,k3,c4,d4,rfl,k4,c5,d5,rfl,k5,c6,d6,rfl,k6,kk⟩:=hr
  have f2:=(Rep.slice bK).flat k2
  have m2:=k2
  obtain ⟨v2,rfl,_⟩:=k2
  have f3:=(Rep.slice Rep.str).flat k3
  have m3:=k3
  obtain ⟨v3,rfl,_⟩:=k3
  have f4:=(Rep.slice bK).flat k4
  have m4:=k4
  obtain ⟨v4,rfl,_⟩:=k4
  have f5:=(Rep.slice dL.rep).flat k5
  have m5:=k5
  obtain ⟨v5,rfl,_⟩:=k5
  exact ⟨(v2,v3,v4,v5),⟨_,_,rfl,k0,_,_,rfl,k1,_,_,rfl,⟨rfl,f2 v2 (by simp)⟩,_,_,rfl,⟨rfl,f3 v3 (by simp)⟩,_,_,rfl,⟨rfl,f4 v4 (by simp)⟩,_,_,rfl,⟨rfl,f5 v5 (by simp)⟩,_,_,rfl,k6,kk⟩,m2,m3,m4,m5⟩
theorem Ud {x:af} (p:Value×Value×Value×Value) (h h':H) (hl:oU h h') (k:U4 x p h):U4 x p h':=by
  obtain ⟨m2,m3,m4,m5⟩:=k
  exact ⟨(Rep.slice bK).mono hl m2,(Rep.slice Rep.str).mono hl m3,(Rep.slice bK).mono hl m4,(Rep.slice dL.rep).mono hl m5⟩
theorem yC:iy Tryz.prog 40 lV:=⟨fun _=>by kernel_rfl,fun _=>by kernel_rfl,fun _=>by kernel_rfl⟩
theorem tu:cu Tryz.prog 40 0 0:=cu.of (by kernel_rfl)
theorem Zo:cu Tryz.prog 155 0 0:=cu.of (by kernel_rfl)
theorem Zp:cu Tryz.prog 155 1 1:=cu.of (by kernel_rfl)
theorem U9:cu Tryz.prog 155 2 2:=cu.of (by kernel_rfl)
theorem Va:cu Tryz.prog 155 3 3:=cu.of (by kernel_rfl)
theorem PY:cu Tryz.prog 158 0 0:=cu.of (by kernel_rfl)
theorem pl155:jJ Tryz.prog 155 (fun i=>[(0,1),(1,1),(2,1),(3,1)][i]?):=jJ.of (by kernel_rfl)
theorem pl158:jJ Tryz.prog 158 (fun i=>[(0,1),(1,1)][i]?):=jJ.of (by kernel_rfl)
theorem Zl:cu Tryz.prog 158 1 1:=cu.of (by kernel_rfl)
theorem Xe:cu Tryz.prog 47 0 0:=cu.of (by kernel_rfl)
theorem fo47_1:cu Tryz.prog 47 1 1:=cu.of (by kernel_rfl)
theorem un3:Tryz.prog.underlying 3=some (.int .i64):=by kernel_rfl
theorem un4:Tryz.prog.underlying 4=some (.bool):=by kernel_rfl
end Go.KB
