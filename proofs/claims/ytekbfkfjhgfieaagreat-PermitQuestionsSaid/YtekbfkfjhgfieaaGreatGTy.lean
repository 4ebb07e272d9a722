/- What the translation says of its types. Printed by a program. No condition. -/
import Derived.Test.YtekbfkfjhgfieaaGreatGTypes
import Derived.Test.YtekbfkfjhgfieaaGreatProg
namespace Go.KB
open Go.Proofs
theorem oM:iR Tryz.prog 26 GPermitPlan.rep:=⟨fun _=>by kernel_rfl,fun _=>by kernel_rfl,fun _=>by kernel_rfl⟩
theorem nZ:dI Tryz.prog 26 0 0:=dI.of (by kernel_rfl)
theorem xw:iR Tryz.prog 22 (Rep.slice dH.rep):=⟨fun _=>by kernel_rfl,fun _=>by kernel_rfl,fun _=>by kernel_rfl⟩
theorem vH:Tryz.prog.underlying 22=some (.slice 64):=by kernel_rfl
theorem D9:dI Tryz.prog 26 1 1:=dI.of (by kernel_rfl)
theorem Oy:iR Tryz.prog 23 (Rep.slice cZ.rep):=⟨fun _=>by kernel_rfl,fun _=>by kernel_rfl,fun _=>by kernel_rfl⟩
theorem I4:Tryz.prog.underlying 23=some (.slice 56):=by kernel_rfl
theorem kD:dI Tryz.prog 26 2 2:=dI.of (by kernel_rfl)
theorem uh:iR Tryz.prog 24 (Rep.slice aH.rep):=⟨fun _=>by kernel_rfl,fun _=>by kernel_rfl,fun _=>by kernel_rfl⟩
theorem qI:Tryz.prog.underlying 24=some (.slice 58):=by kernel_rfl
theorem oZ:iR Tryz.prog 64 dH.rep:=⟨fun _=>by kernel_rfl,fun _=>by kernel_rfl,fun _=>by kernel_rfl⟩
theorem Dl:dI Tryz.prog 64 2 2:=dI.of (by kernel_rfl)
theorem yQ:iR Tryz.prog 36 (Rep.slice Rep.str):=⟨fun _=>by kernel_rfl,fun _=>by kernel_rfl,fun _=>by kernel_rfl⟩
theorem ji:Tryz.prog.underlying 36=some (.slice 9):=by kernel_rfl
theorem wG:dI Tryz.prog 64 0 0:=dI.of (by kernel_rfl)
theorem kM:iR Tryz.prog 9 Rep.str:=⟨fun _=>by kernel_rfl,fun _=>by kernel_rfl,fun _=>by kernel_rfl⟩
theorem XW:Tryz.prog.underlying 9=some (.string):=by kernel_rfl
theorem iV:iR Tryz.prog 58 aH.rep:=⟨fun _=>by kernel_rfl,fun _=>by kernel_rfl,fun _=>by kernel_rfl⟩
theorem Cj:dI Tryz.prog 58 5 5:=dI.of (by kernel_rfl)
theorem pW:dI Tryz.prog 58 0 0:=dI.of (by kernel_rfl)
theorem KR:dI Tryz.prog 26 3 3:=dI.of (by kernel_rfl)
theorem jT:iR Tryz.prog 3 bZ:=⟨fun _=>by kernel_rfl,fun _=>by kernel_rfl,fun _=>by kernel_rfl⟩
theorem FP:iR Tryz.prog 56 cZ.rep:=⟨fun _=>by kernel_rfl,fun _=>by kernel_rfl,fun _=>by kernel_rfl⟩
theorem Nj:dI Tryz.prog 56 0 0:=dI.of (by kernel_rfl)
theorem Nk:dI Tryz.prog 56 1 1:=dI.of (by kernel_rfl)
theorem Nl:dI Tryz.prog 56 2 2:=dI.of (by kernel_rfl)
theorem pX:dI Tryz.prog 58 1 1:=dI.of (by kernel_rfl)
theorem KG:dI Tryz.prog 58 3 3:=dI.of (by kernel_rfl)
theorem Nq:dI Tryz.prog 58 4 4:=dI.of (by kernel_rfl)
theorem uS:dI Tryz.prog 58 2 2:=dI.of (by kernel_rfl)
theorem VD:Tryz.prog.underlying 27=some (.slice 45):=by kernel_rfl
theorem pl64:kU Tryz.prog 64 (fun i=>[(0,1),(1,1),(2,1)][i]?):=kU.of (by kernel_rfl)
theorem X8:kU Tryz.prog 56 (fun i=>[(0,1),(1,1),(2,1)][i]?):=kU.of (by kernel_rfl)
theorem Zr:kU Tryz.prog 58 (fun i=>[(0,1),(1,1),(2,1),(3,1),(4,1),(5,1)][i]?):=kU.of (by kernel_rfl)
theorem pl26:kU Tryz.prog 26 (fun i=>[(0,1),(1,1),(2,1),(3,1)][i]?):=kU.of (by kernel_rfl)
theorem NT:DY Tryz.prog 9 Rep.str fO:=DY.str XW
theorem VA:iR Tryz.prog 4 Rep.bool:=⟨fun _=>by kernel_rfl,fun _=>by kernel_rfl,fun _=>by kernel_rfl⟩
theorem UB:Tryz.prog.underlying 180=some (.map 9 4):=by kernel_rfl
def LV:Rep (GPermitPlan×Value×Value):=Rep.wY (Rep.prod Rep.raw (Rep.prod (Rep.slice cZ.rep) (Rep.prod Rep.raw (Rep.prod bZ Rep.unit)))) (fun s=>(s.2.1,(s.1.dY,(s.2.2,(s.1.gB,()))))) (fun t=>(⟨[],t.2.1,[],t.2.2.2.1⟩,t.1,t.2.2.1)) (fun _=>rfl)
theorem OO:Lens LV Rep.raw 0 (fun y=>y.2.1) (fun y z=>(y.1,(fun p z=>((z,p.2):Value×Value)) y.2 z)):=(Lens.wY _ _ _ _).comp (Lens.fst _ _)
theorem jQm:Lens LV (Rep.slice cZ.rep) 1 (fun y=>y.1.dY) (fun y z=>((fun x z=>({ x with dY:=z }:GPermitPlan)) y.1 z,y.2)):=(Lens.wY _ _ _ _).comp ((Lens.snd _ _).comp (Lens.fst _ _))
theorem OQ:Lens LV Rep.raw 2 (fun y=>y.2.2) (fun y z=>(y.1,(fun p z=>((p.1,z):Value×Value)) y.2 z)):=(Lens.wY _ _ _ _).comp ((Lens.snd _ _).comp ((Lens.snd _ _).comp (Lens.fst _ _)))
theorem hh26_l3:Lens LV bZ 3 (fun y=>y.1.gB) (fun y z=>((fun x z=>({ x with gB:=z }:GPermitPlan)) y.1 z,y.2)):=(Lens.wY _ _ _ _).comp ((Lens.snd _ _).comp ((Lens.snd _ _).comp ((Lens.snd _ _).comp (Lens.fst _ _))))
theorem jQl {h:H} {cs:List Value} {x:GPermitPlan} (hr:GPermitPlan.rep.rel h cs x):∃ p,LV.rel h cs (x,p):=by
  obtain ⟨c0,d0,rfl,k0,c1,d1,rfl,k1,c2,d2,rfl,k2,c3,d3,rfl,k3,kk⟩:=hr
  have f0:=(Rep.slice dH.rep).flat k0
  obtain ⟨v0,rfl,_⟩:=k0
  have f2:=(Rep.slice aH.rep).flat k2
  obtain ⟨v2,rfl,_⟩:=k2
  exact ⟨(v0,v2),_,_,rfl,⟨rfl,f0 v0 (by simp)⟩,_,_,rfl,k1,_,_,rfl,⟨rfl,f2 v2 (by simp)⟩,_,_,rfl,k3,kk⟩
theorem Zq {x:GPermitPlan} {v0 v2:Value} {y0:(List dH)} {y2:(List aH)} (h:H) (cs:List Value) (hr:LV.rel h cs (x,v0,v2)) (s0:(Rep.slice dH.rep).rel h [v0] y0) (s2:(Rep.slice aH.rep).rel h [v2] y2):GPermitPlan.rep.rel h cs ({ x with bM:=y0,ak:=y2 }:GPermitPlan):=by
  obtain ⟨c0,d0,rfl,⟨rfl,_⟩,c1,d1,rfl,k1,c2,d2,rfl,⟨rfl,_⟩,c3,d3,rfl,k3,kk⟩:=hr
  exact ⟨_,_,rfl,s0,_,_,rfl,k1,_,_,rfl,s2,_,_,rfl,k3,kk⟩
theorem el64:Du Tryz.prog 64 dH.rep:=by unfold Du;kernel_rfl
theorem el56:Du Tryz.prog 56 cZ.rep:=by unfold Du;kernel_rfl
theorem el58:Du Tryz.prog 58 aH.rep:=by unfold Du;kernel_rfl
theorem MR:Du Tryz.prog 9 Rep.str:=by unfold Du;kernel_rfl
theorem ty110:iR Tryz.prog 110 ai.rep:=⟨fun _=>by kernel_rfl,fun _=>by kernel_rfl,fun _=>by kernel_rfl⟩
theorem pl110:kU Tryz.prog 110 (fun i=>[(0,4),(4,1),(5,1),(6,1),(7,1),(8,1)][i]?):=kU.of (by kernel_rfl)
theorem BD:dI Tryz.prog 110 2 5:=dI.of (by kernel_rfl)
theorem D7:iR Tryz.prog 106 Rep.Ic:=⟨fun _=>by kernel_rfl,fun _=>by kernel_rfl,fun _=>by kernel_rfl⟩
theorem BM:iR Tryz.prog 112 ah.rep:=⟨fun _=>by kernel_rfl,fun _=>by kernel_rfl,fun _=>by kernel_rfl⟩
theorem pl112:kU Tryz.prog 112 (fun i=>[(0,1),(1,1),(2,1)][i]?):=kU.of (by kernel_rfl)
theorem IC:Tryz.prog.underlying 106=some (.map 9 112):=by kernel_rfl
theorem sW:dI Tryz.prog 110 0 0:=dI.of (by kernel_rfl)
theorem qL:Tryz.prog.underlying 35=some (.slice 3):=by kernel_rfl
theorem Xc:Fb Tryz.prog 112 0=some (3,0):=by kernel_rfl
theorem jQf:Fb Tryz.prog 112 2=some (3,2):=by kernel_rfl
theorem JO:dI Tryz.prog 110 1 4:=dI.of (by kernel_rfl)
theorem Sr:dI Tryz.prog 112 0 0:=dI.of (by kernel_rfl)
theorem Aa:iR Tryz.prog 30 Rep.kC:=⟨fun _=>by kernel_rfl,fun _=>by kernel_rfl,fun _=>by kernel_rfl⟩
theorem ER:dI Tryz.prog 64 1 1:=dI.of (by kernel_rfl)
theorem Xq:dI Tryz.prog 110 3 6:=dI.of (by kernel_rfl)
theorem Y9:iR Tryz.prog 107 Rep.Ic:=⟨fun _=>by kernel_rfl,fun _=>by kernel_rfl,fun _=>by kernel_rfl⟩
theorem Xr:iR Tryz.prog 189 au.rep:=⟨fun _=>by kernel_rfl,fun _=>by kernel_rfl,fun _=>by kernel_rfl⟩
theorem un107:Tryz.prog.underlying 107=some (.map 9 189):=by kernel_rfl
theorem jQr:dI Tryz.prog 189 0 0:=dI.of (by kernel_rfl)
theorem Xv:dI Tryz.prog 189 1 1:=dI.of (by kernel_rfl)
theorem Xw:dI Tryz.prog 189 2 2:=dI.of (by kernel_rfl)
theorem MW:iR Tryz.prog 45 GEvent.rep:=⟨fun _=>by kernel_rfl,fun _=>by kernel_rfl,fun _=>by kernel_rfl⟩
theorem pl45:kU Tryz.prog 45 (fun i=>[(0,1),(1,1),(2,1),(3,1),(4,1),(5,1),(6,1),(7,1)][i]?):=kU.of (by kernel_rfl)
theorem DN:iR Tryz.prog 120 bT.rep:=⟨fun _=>by kernel_rfl,fun _=>by kernel_rfl,fun _=>by kernel_rfl⟩
theorem IG:kU Tryz.prog 120 (fun i=>[(0,1),(1,1),(2,1),(3,1)][i]?):=kU.of (by kernel_rfl)
theorem Xf:Tryz.prog.underlying 115=some (.slice 120):=by kernel_rfl
theorem QT:Tryz.prog.underlying 30=some (.pointer (Tryz.prog.pointee 30)):=by kernel_rfl
theorem zV:dI Tryz.prog 45 1 1:=dI.of (by kernel_rfl)
theorem Je:dI Tryz.prog 45 0 0:=dI.of (by kernel_rfl)
theorem Xg:dI Tryz.prog 120 2 2:=dI.of (by kernel_rfl)
theorem tye35:iR Tryz.prog 35 (Rep.Jl bZ):=⟨fun _=>by kernel_rfl,fun _=>by kernel_rfl,fun _=>by kernel_rfl⟩
theorem Cf:dI Tryz.prog 45 2 2:=dI.of (by kernel_rfl)
theorem jQy:dI Tryz.prog 120 3 3:=dI.of (by kernel_rfl)
theorem ty118:iR Tryz.prog 118 Rep.Sv:=⟨fun _=>by kernel_rfl,fun _=>by kernel_rfl,fun _=>by kernel_rfl⟩
theorem jI:iR Tryz.prog 125 ay.rep:=⟨fun _=>by kernel_rfl,fun _=>by kernel_rfl,fun _=>by kernel_rfl⟩
theorem IE:kU Tryz.prog 125 (fun i=>[(0,1),(1,1)][i]?):=kU.of (by kernel_rfl)
theorem y9:dI Tryz.prog 45 4 4:=dI.of (by kernel_rfl)
theorem jQh:dI Tryz.prog 112 1 1:=dI.of (by kernel_rfl)
theorem jQd:Fb Tryz.prog 112 1=some (9,1):=by kernel_rfl
theorem qN:iR Tryz.prog 148 bD.rep:=⟨fun _=>by kernel_rfl,fun _=>by kernel_rfl,fun _=>by kernel_rfl⟩
theorem ES:kU Tryz.prog 148 (fun i=>[(0,1),(1,1)][i]?):=kU.of (by kernel_rfl)
theorem zu:Tryz.prog.underlying 86=some (.slice 148):=by kernel_rfl
theorem Hr:dI Tryz.prog 110 4 7:=dI.of (by kernel_rfl)
theorem KC:iR Tryz.prog 108 Rep.Ic:=⟨fun _=>by kernel_rfl,fun _=>by kernel_rfl,fun _=>by kernel_rfl⟩
theorem O8:Tryz.prog.underlying 108=some (.map 9 9):=by kernel_rfl
theorem IB:Du Tryz.prog 148 bD.rep:=by unfold Du;kernel_rfl
theorem JK:dI Tryz.prog 148 1 1:=dI.of (by kernel_rfl)
theorem Lr:dI Tryz.prog 148 0 0:=dI.of (by kernel_rfl)
theorem VE:iR Tryz.prog 31 bZ:=⟨fun _=>by kernel_rfl,fun _=>by kernel_rfl,fun _=>by kernel_rfl⟩
theorem Gs:dI Tryz.prog 45 3 3:=dI.of (by kernel_rfl)
theorem Nc:dI Tryz.prog 45 5 5:=dI.of (by kernel_rfl)
theorem Nh:dI Tryz.prog 45 6 6:=dI.of (by kernel_rfl)
theorem pl189:kU Tryz.prog 189 (fun i=>[(0,1),(1,1),(2,1)][i]?):=kU.of (by kernel_rfl)
theorem MZ:dI Tryz.prog 45 7 7:=dI.of (by kernel_rfl)
theorem Xt:dI Tryz.prog 112 2 2:=dI.of (by kernel_rfl)
theorem Xh:dI Tryz.prog 125 1 1:=dI.of (by kernel_rfl)
theorem jQg:dI Tryz.prog 125 0 0:=dI.of (by kernel_rfl)
theorem Xi:dI Tryz.prog 110 5 8:=dI.of (by kernel_rfl)
theorem ty27:iR Tryz.prog 27 (Rep.slice GEvent.rep):=⟨fun _=>by kernel_rfl,fun _=>by kernel_rfl,fun _=>by kernel_rfl⟩
theorem el45:Du Tryz.prog 45 GEvent.rep:=by unfold Du;kernel_rfl
theorem ja:iR Tryz.prog 40 af.rep:=⟨fun _=>by kernel_rfl,fun _=>by kernel_rfl,fun _=>by kernel_rfl⟩
theorem el3:Du Tryz.prog 3 bZ:=by unfold Du;kernel_rfl
theorem Y5:Du Tryz.prog 155 dQ.rep:=by unfold Du;kernel_rfl
theorem F6:iR Tryz.prog 155 dQ.rep:=⟨fun _=>by kernel_rfl,fun _=>by kernel_rfl,fun _=>by kernel_rfl⟩
theorem Ut:Tryz.prog.underlying 37=some (.slice 155):=by kernel_rfl
theorem pl40:kU Tryz.prog 40 (fun i=>[(0,4),(4,1),(5,1),(6,1),(7,1),(8,1),(9,1)][i]?):=kU.of (by kernel_rfl)
theorem H8:dI Tryz.prog 40 4 7:=dI.of (by kernel_rfl)
theorem wP:iR Tryz.prog 35 (Rep.slice bZ):=⟨fun _=>by kernel_rfl,fun _=>by kernel_rfl,fun _=>by kernel_rfl⟩
theorem nS:iR Tryz.prog 47 bg.rep:=⟨fun _=>by kernel_rfl,fun _=>by kernel_rfl,fun _=>by kernel_rfl⟩
theorem IV:kU Tryz.prog 47 (fun i=>[(0,1),(1,1)][i]?):=kU.of (by kernel_rfl)
theorem Jd:dI Tryz.prog 40 1 4:=dI.of (by kernel_rfl)
theorem qp:dI Tryz.prog 40 2 5:=dI.of (by kernel_rfl)
theorem MX:dI Tryz.prog 40 3 6:=dI.of (by kernel_rfl)
theorem KL:dI Tryz.prog 40 5 8:=dI.of (by kernel_rfl)
theorem VR:iR Tryz.prog 37 (Rep.slice dQ.rep):=⟨fun _=>by kernel_rfl,fun _=>by kernel_rfl,fun _=>by kernel_rfl⟩
theorem BN:iR Tryz.prog 158 eU.rep:=⟨fun _=>by kernel_rfl,fun _=>by kernel_rfl,fun _=>by kernel_rfl⟩
theorem CY:Tryz.prog.underlying 38=some (.slice 158):=by kernel_rfl
theorem wV:dI Tryz.prog 40 6 9:=dI.of (by kernel_rfl)
theorem FM:iR Tryz.prog 38 (Rep.slice eU.rep):=⟨fun _=>by kernel_rfl,fun _=>by kernel_rfl,fun _=>by kernel_rfl⟩
theorem Pq:Du Tryz.prog 158 eU.rep:=by unfold Du;kernel_rfl
def oJ:Rep (af×Value×Value×Value×Value):=Rep.wY (Rep.prod GPermitPlan.rep (Rep.prod bZ (Rep.prod Rep.raw (Rep.prod Rep.raw (Rep.prod Rep.raw (Rep.prod Rep.raw (Rep.prod (Rep.slice eU.rep) Rep.unit))))))) (fun s=>(s.1.P,(s.1.Now,(s.2.1,(s.2.2.1,(s.2.2.2.1,(s.2.2.2.2,(s.1.oV,())))))))) (fun t=>(⟨t.1,t.2.1,[],[],[],[],t.2.2.2.2.2.2.1⟩,t.2.2.1,t.2.2.2.1,t.2.2.2.2.1,t.2.2.2.2.2.1)) (fun _=>rfl)
theorem rU:Lens oJ GPermitPlan.rep 0 (fun y=>y.1.P) (fun y z=>((fun x z=>({ x with P:=z }:af)) y.1 z,y.2)):=(Lens.wY _ _ _ _).comp (Lens.fst _ _)
theorem OJ:Lens oJ bZ 4 (fun y=>y.1.Now) (fun y z=>((fun x z=>({ x with Now:=z }:af)) y.1 z,y.2)):=(Lens.wY _ _ _ _).comp ((Lens.snd _ _).comp (Lens.fst _ _))
theorem qf:Lens oJ Rep.raw 5 (fun y=>y.2.1) (fun y z=>(y.1,(fun p z=>((z,p.2.1,p.2.2.1,p.2.2.2):Value×Value×Value×Value)) y.2 z)):=(Lens.wY _ _ _ _).comp ((Lens.snd _ _).comp ((Lens.snd _ _).comp (Lens.fst _ _)))
theorem H7:Lens oJ Rep.raw 6 (fun y=>y.2.2.1) (fun y z=>(y.1,(fun p z=>((p.1,z,p.2.2.1,p.2.2.2):Value×Value×Value×Value)) y.2 z)):=(Lens.wY _ _ _ _).comp ((Lens.snd _ _).comp ((Lens.snd _ _).comp ((Lens.snd _ _).comp (Lens.fst _ _))))
theorem FZ:Lens oJ Rep.raw 7 (fun y=>y.2.2.2.1) (fun y z=>(y.1,(fun p z=>((p.1,p.2.1,z,p.2.2.2):Value×Value×Value×Value)) y.2 z)):=(Lens.wY _ _ _ _).comp ((Lens.snd _ _).comp ((Lens.snd _ _).comp ((Lens.snd _ _).comp ((Lens.snd _ _).comp (Lens.fst _ _)))))
theorem H6:Lens oJ Rep.raw 8 (fun y=>y.2.2.2.2) (fun y z=>(y.1,(fun p z=>((p.1,p.2.1,p.2.2.1,z):Value×Value×Value×Value)) y.2 z)):=(Lens.wY _ _ _ _).comp ((Lens.snd _ _).comp ((Lens.snd _ _).comp ((Lens.snd _ _).comp ((Lens.snd _ _).comp ((Lens.snd _ _).comp (Lens.fst _ _))))))
theorem zf:Lens oJ (Rep.slice eU.rep) 9 (fun y=>y.1.oV) (fun y z=>((fun x z=>({ x with oV:=z }:af)) y.1 z,y.2)):=(Lens.wY _ _ _ _).comp ((Lens.snd _ _).comp ((Lens.snd _ _).comp ((Lens.snd _ _).comp ((Lens.snd _ _).comp ((Lens.snd _ _).comp ((Lens.snd _ _).comp (Lens.fst _ _)))))))
theorem hh40_in {h:H} {cs:List Value} {x:af} (hr:af.rep.rel h cs x):∃ p,oJ.rel h cs (x,p):=by
  obtain ⟨c0,d0,rfl,k0,c1,d1,rfl,k1,c2,d2,rfl,k2,c3,d3,rfl,k3,c4,d4,rfl,k4,c5,d5,rfl,k5,c6,d6,rfl,k6,kk⟩:=hr
  have f2:=(Rep.slice bZ).flat k2
  obtain ⟨v2,rfl,_⟩:=k2
  have f3:=(Rep.slice Rep.str).flat k3
  obtain ⟨v3,rfl,_⟩:=k3
  have f4:=(Rep.slice bZ).flat k4
  obtain ⟨v4,rfl,_⟩:=k4
  have f5:=(Rep.slice dQ.rep).flat k5
  obtain ⟨v5,rfl,_⟩:=k5
  exact ⟨(v2,v3,v4,v5),_,_,rfl,k0,_,_,rfl,k1,_,_,rfl,⟨rfl,f2 v2 (by simp)⟩,_,_,rfl,⟨rfl,f3 v3 (by simp)⟩,_,_,rfl,⟨rfl,f4 v4 (by simp)⟩,_,_,rfl,⟨rfl,f5 v5 (by simp)⟩,_,_,rfl,k6,kk⟩
theorem og {x:af} {v2 v3 v4 v5:Value} {y2:(List Int)} {y3:(List Str)} {y4:(List Int)} {y5:(List dQ)} (h:H) (cs:List Value) (hr:oJ.rel h cs (x,v2,v3,v4,v5)) (s2:(Rep.slice bZ).rel h [v2] y2) (s3:(Rep.slice Rep.str).rel h [v3] y3) (s4:(Rep.slice bZ).rel h [v4] y4) (s5:(Rep.slice dQ.rep).rel h [v5] y5):af.rep.rel h cs ({ x with cO:=y2,By:=y3,To:=y4,Tests:=y5 }:af):=by
  obtain ⟨c0,d0,rfl,k0,c1,d1,rfl,k1,c2,d2,rfl,⟨rfl,_⟩,c3,d3,rfl,⟨rfl,_⟩,c4,d4,rfl,⟨rfl,_⟩,c5,d5,rfl,⟨rfl,_⟩,c6,d6,rfl,k6,kk⟩:=hr
  exact ⟨_,_,rfl,k0,_,_,rfl,k1,_,_,rfl,s2,_,_,rfl,s3,_,_,rfl,s4,_,_,rfl,s5,_,_,rfl,k6,kk⟩
def Xj (x:af) (p:Value×Value×Value×Value) (h:H):Prop:=(Rep.slice bZ).rel h [p.1] x.cO∧(Rep.slice Rep.str).rel h [p.2.1] x.By∧(Rep.slice bZ).rel h [p.2.2.1] x.To∧(Rep.slice dQ.rep).rel h [p.2.2.2] x.Tests
theorem Y7 {x:af} (h:H) (cs:List Value) (hr:af.rep.rel h cs x):∃ p,oJ.rel h cs (x,p)∧Xj x p h:=by
  obtain ⟨c0,d0,rfl,k0,c1,d1,rfl,k1,c2,d2,rfl,k2,c3,d3,rfl,k3,c4,d4,rfl,k4,c5,d5,rfl,k5,c6,d6,rfl,k6,kk⟩:=hr
  have f2:=(Rep.slice bZ).flat k2
  have m2:=k2
  obtain ⟨v2,rfl,_⟩:=k2
  have f3:=(Rep.slice Rep.str).flat k3
  have m3:=k3
  obtain ⟨v3,rfl,_⟩:=k3
  have f4:=(Rep.slice bZ).flat k4
  have m4:=k4
  obtain ⟨v4,rfl,_⟩:=k4
  have f5:=(Rep.slice dQ.rep).flat k5
  have m5:=k5
  obtain ⟨v5,rfl,_⟩:=k5
  exact ⟨(v2,v3,v4,v5),⟨_,_,rfl,k0,_,_,rfl,k1,_,_,rfl,⟨rfl,f2 v2 (by simp)⟩,_,_,rfl,⟨rfl,f3 v3 (by simp)⟩,_,_,rfl,⟨rfl,f4 v4 (by simp)⟩,_,_,rfl,⟨rfl,f5 v5 (by simp)⟩,_,_,rfl,k6,kk⟩,m2,m3,m4,m5⟩
theorem VZ {x:af} (p:Value×Value×Value×Value) (h h':H) (hl:qJ h h') (k:Xj x p h):Xj x p h':=by
  obtain ⟨m2,m3,m4,m5⟩:=k
  exact ⟨(Rep.slice bZ).mono hl m2,(Rep.slice Rep.str).mono hl m3,(Rep.slice bZ).mono hl m4,(Rep.slice dQ.rep).mono hl m5⟩
theorem zU:iR Tryz.prog 40 oJ:=⟨fun _=>by kernel_rfl,fun _=>by kernel_rfl,fun _=>by kernel_rfl⟩
theorem oN:dI Tryz.prog 40 0 0:=dI.of (by kernel_rfl)
theorem Xo:dI Tryz.prog 155 0 0:=dI.of (by kernel_rfl)
theorem Xp:dI Tryz.prog 155 1 1:=dI.of (by kernel_rfl)
theorem OL:dI Tryz.prog 155 2 2:=dI.of (by kernel_rfl)
theorem OM:dI Tryz.prog 155 3 3:=dI.of (by kernel_rfl)
theorem Lu:dI Tryz.prog 158 0 0:=dI.of (by kernel_rfl)
theorem pl155:kU Tryz.prog 155 (fun i=>[(0,1),(1,1),(2,1),(3,1)][i]?):=kU.of (by kernel_rfl)
theorem pl158:kU Tryz.prog 158 (fun i=>[(0,1),(1,1)][i]?):=kU.of (by kernel_rfl)
theorem OI:dI Tryz.prog 158 1 1:=dI.of (by kernel_rfl)
theorem fo47_0:dI Tryz.prog 47 0 0:=dI.of (by kernel_rfl)
theorem ty86:iR Tryz.prog 86 (Rep.slice bD.rep):=⟨fun _=>by kernel_rfl,fun _=>by kernel_rfl,fun _=>by kernel_rfl⟩
theorem un4:Tryz.prog.underlying 4=some (.bool):=by kernel_rfl
theorem un3:Tryz.prog.underlying 3=some (.int .i64):=by kernel_rfl
end Go.KB
