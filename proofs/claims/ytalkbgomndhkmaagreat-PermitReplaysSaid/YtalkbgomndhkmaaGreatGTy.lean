/- What the translation says of its types. Printed by a program. No condition. -/
import Derived.Test.YtalkbgomndhkmaaGreatGTypes
import Derived.Test.YtalkbgomndhkmaaGreatProg
namespace Go.KB
open Go.Proofs
theorem oO:iJ Tryz.prog 26 GPermitPlan.rep:=⟨fun _=>by kernel_rfl,fun _=>by kernel_rfl,fun _=>by kernel_rfl⟩
theorem oW:dA Tryz.prog 26 0 0:=dA.of (by kernel_rfl)
theorem zB:iJ Tryz.prog 22 (Rep.slice dG.rep):=⟨fun _=>by kernel_rfl,fun _=>by kernel_rfl,fun _=>by kernel_rfl⟩
theorem wQ:Tryz.prog.underlying 22=some (.slice 71):=by kernel_rfl
theorem En:dA Tryz.prog 26 1 1:=dA.of (by kernel_rfl)
theorem Oy:iJ Tryz.prog 23 (Rep.slice cu.rep):=⟨fun _=>by kernel_rfl,fun _=>by kernel_rfl,fun _=>by kernel_rfl⟩
theorem JD:Tryz.prog.underlying 23=some (.slice 80):=by kernel_rfl
theorem lW:dA Tryz.prog 26 2 2:=dA.of (by kernel_rfl)
theorem uX:iJ Tryz.prog 24 (Rep.slice aH.rep):=⟨fun _=>by kernel_rfl,fun _=>by kernel_rfl,fun _=>by kernel_rfl⟩
theorem qO:Tryz.prog.underlying 24=some (.slice 68):=by kernel_rfl
theorem pW:iJ Tryz.prog 71 dG.rep:=⟨fun _=>by kernel_rfl,fun _=>by kernel_rfl,fun _=>by kernel_rfl⟩
theorem BR:dA Tryz.prog 71 2 2:=dA.of (by kernel_rfl)
theorem zl:iJ Tryz.prog 36 (Rep.slice Rep.str):=⟨fun _=>by kernel_rfl,fun _=>by kernel_rfl,fun _=>by kernel_rfl⟩
theorem jS:Tryz.prog.underlying 36=some (.slice 9):=by kernel_rfl
theorem yC:dA Tryz.prog 71 0 0:=dA.of (by kernel_rfl)
theorem kV:iJ Tryz.prog 9 Rep.str:=⟨fun _=>by kernel_rfl,fun _=>by kernel_rfl,fun _=>by kernel_rfl⟩
theorem U0:Tryz.prog.underlying 9=some (.string):=by kernel_rfl
theorem jk:iJ Tryz.prog 68 aH.rep:=⟨fun _=>by kernel_rfl,fun _=>by kernel_rfl,fun _=>by kernel_rfl⟩
theorem BO:dA Tryz.prog 68 5 5:=dA.of (by kernel_rfl)
theorem pU:dA Tryz.prog 68 0 0:=dA.of (by kernel_rfl)
theorem Ie:Tryz.prog.underlying 27=some (.slice 47):=by kernel_rfl
theorem pl71:jW Tryz.prog 71 (fun i=>[(0,1),(1,1),(2,1)][i]?):=jW.of (by kernel_rfl)
theorem EU:iJ Tryz.prog 80 cu.rep:=⟨fun _=>by kernel_rfl,fun _=>by kernel_rfl,fun _=>by kernel_rfl⟩
theorem XA:jW Tryz.prog 80 (fun i=>[(0,1),(1,1),(2,1)][i]?):=jW.of (by kernel_rfl)
theorem YX:jW Tryz.prog 68 (fun i=>[(0,1),(1,1),(2,1),(3,1),(4,1),(5,1)][i]?):=jW.of (by kernel_rfl)
theorem pl26:jW Tryz.prog 26 (fun i=>[(0,1),(1,1),(2,1),(3,1)][i]?):=jW.of (by kernel_rfl)
theorem L8:dA Tryz.prog 26 3 3:=dA.of (by kernel_rfl)
theorem jT:iJ Tryz.prog 3 bY:=⟨fun _=>by kernel_rfl,fun _=>by kernel_rfl,fun _=>by kernel_rfl⟩
theorem NK:Dj Tryz.prog 9 Rep.str dD:=Dj.str U0
theorem Yn:iJ Tryz.prog 4 Rep.bool:=⟨fun _=>by kernel_rfl,fun _=>by kernel_rfl,fun _=>by kernel_rfl⟩
theorem TL:Tryz.prog.underlying 172=some (.map 9 4):=by kernel_rfl
theorem LX:dA Tryz.prog 80 0 0:=dA.of (by kernel_rfl)
theorem LY:dA Tryz.prog 80 1 1:=dA.of (by kernel_rfl)
theorem LZ:dA Tryz.prog 80 2 2:=dA.of (by kernel_rfl)
theorem uY:dA Tryz.prog 68 2 2:=dA.of (by kernel_rfl)
theorem pV:dA Tryz.prog 68 1 1:=dA.of (by kernel_rfl)
theorem LG:dA Tryz.prog 68 3 3:=dA.of (by kernel_rfl)
theorem L9:dA Tryz.prog 68 4 4:=dA.of (by kernel_rfl)
def KN:Rep (GPermitPlan×Value×Value):=Rep.vW (Rep.prod Rep.raw (Rep.prod (Rep.slice cu.rep) (Rep.prod Rep.raw (Rep.prod bY Rep.unit)))) (fun s=>(s.2.1,(s.1.eG,(s.2.2,(s.1.fU,()))))) (fun t=>(⟨[],t.2.1,[],t.2.2.2.1⟩,t.1,t.2.2.1)) (fun _=>rfl)
theorem NR:Lens KN Rep.raw 0 (fun y=>y.2.1) (fun y z=>(y.1,(fun p z=>((z,p.2):Value×Value)) y.2 z)):=(Lens.vW _ _ _ _).comp (Lens.fst _ _)
theorem jJ7:Lens KN (Rep.slice cu.rep) 1 (fun y=>y.1.eG) (fun y z=>((fun x z=>({ x with eG:=z }:GPermitPlan)) y.1 z,y.2)):=(Lens.vW _ _ _ _).comp ((Lens.snd _ _).comp (Lens.fst _ _))
theorem NS:Lens KN Rep.raw 2 (fun y=>y.2.2) (fun y z=>(y.1,(fun p z=>((p.1,z):Value×Value)) y.2 z)):=(Lens.vW _ _ _ _).comp ((Lens.snd _ _).comp ((Lens.snd _ _).comp (Lens.fst _ _)))
theorem hh26_l3:Lens KN bY 3 (fun y=>y.1.fU) (fun y z=>((fun x z=>({ x with fU:=z }:GPermitPlan)) y.1 z,y.2)):=(Lens.vW _ _ _ _).comp ((Lens.snd _ _).comp ((Lens.snd _ _).comp ((Lens.snd _ _).comp (Lens.fst _ _))))
theorem jJ6 {h:H} {cs:List Value} {x:GPermitPlan} (hr:GPermitPlan.rep.rel h cs x):∃ p,KN.rel h cs (x,p):=by
  obtain ⟨c0,d0,rfl,k0,c1,d1,rfl,k1,c2,d2,rfl,k2,c3,d3,rfl,k3,kk⟩:=hr
  have f0:=(Rep.slice dG.rep).flat k0
  obtain ⟨v0,rfl,_⟩:=k0
  have f2:=(Rep.slice aH.rep).flat k2
  obtain ⟨v2,rfl,_⟩:=k2
  exact ⟨(v0,v2),_,_,rfl,⟨rfl,f0 v0 (by simp)⟩,_,_,rfl,k1,_,_,rfl,⟨rfl,f2 v2 (by simp)⟩,_,_,rfl,k3,kk⟩
theorem Y2 {x:GPermitPlan} {v0 v2:Value} {y0:(List dG)} {y2:(List aH)} (h:H) (cs:List Value) (hr:KN.rel h cs (x,v0,v2)) (s0:(Rep.slice dG.rep).rel h [v0] y0) (s2:(Rep.slice aH.rep).rel h [v2] y2):GPermitPlan.rep.rel h cs ({ x with bM:=y0,aj:=y2 }:GPermitPlan):=by
  obtain ⟨c0,d0,rfl,⟨rfl,_⟩,c1,d1,rfl,k1,c2,d2,rfl,⟨rfl,_⟩,c3,d3,rfl,k3,kk⟩:=hr
  exact ⟨_,_,rfl,s0,_,_,rfl,k1,_,_,rfl,s2,_,_,rfl,k3,kk⟩
theorem el71:BZ Tryz.prog 71 dG.rep:=by unfold BZ;kernel_rfl
theorem el80:BZ Tryz.prog 80 cu.rep:=by unfold BZ;kernel_rfl
theorem el68:BZ Tryz.prog 68 aH.rep:=by unfold BZ;kernel_rfl
theorem Qe:BZ Tryz.prog 9 Rep.str:=by unfold BZ;kernel_rfl
theorem ty90:iJ Tryz.prog 90 af.rep:=⟨fun _=>by kernel_rfl,fun _=>by kernel_rfl,fun _=>by kernel_rfl⟩
theorem pl90:jW Tryz.prog 90 (fun i=>[(0,4),(4,1),(5,1),(6,1),(7,1),(8,1)][i]?):=jW.of (by kernel_rfl)
theorem BL:dA Tryz.prog 90 2 5:=dA.of (by kernel_rfl)
theorem F5:iJ Tryz.prog 86 Rep.Gl:=⟨fun _=>by kernel_rfl,fun _=>by kernel_rfl,fun _=>by kernel_rfl⟩
theorem Iq:iJ Tryz.prog 98 ah.rep:=⟨fun _=>by kernel_rfl,fun _=>by kernel_rfl,fun _=>by kernel_rfl⟩
theorem pl98:jW Tryz.prog 98 (fun i=>[(0,1),(1,1),(2,1)][i]?):=jW.of (by kernel_rfl)
theorem Oc:Tryz.prog.underlying 86=some (.map 9 98):=by kernel_rfl
theorem wR:dA Tryz.prog 90 0 0:=dA.of (by kernel_rfl)
theorem qW:Tryz.prog.underlying 35=some (.slice 3):=by kernel_rfl
theorem Yt:vJ Tryz.prog 98 0=some (3,0):=by kernel_rfl
theorem fv98_2:vJ Tryz.prog 98 2=some (3,2):=by kernel_rfl
theorem JU:dA Tryz.prog 90 1 4:=dA.of (by kernel_rfl)
theorem YT:dA Tryz.prog 98 0 0:=dA.of (by kernel_rfl)
theorem AU:iJ Tryz.prog 30 Rep.lF:=⟨fun _=>by kernel_rfl,fun _=>by kernel_rfl,fun _=>by kernel_rfl⟩
theorem Iy:dA Tryz.prog 71 1 1:=dA.of (by kernel_rfl)
theorem Rn:dA Tryz.prog 90 3 6:=dA.of (by kernel_rfl)
theorem WE:iJ Tryz.prog 87 Rep.Gl:=⟨fun _=>by kernel_rfl,fun _=>by kernel_rfl,fun _=>by kernel_rfl⟩
theorem WN:iJ Tryz.prog 128 au.rep:=⟨fun _=>by kernel_rfl,fun _=>by kernel_rfl,fun _=>by kernel_rfl⟩
theorem un87:Tryz.prog.underlying 87=some (.map 9 128):=by kernel_rfl
theorem jJ5:dA Tryz.prog 128 0 0:=dA.of (by kernel_rfl)
theorem WO:dA Tryz.prog 128 1 1:=dA.of (by kernel_rfl)
theorem WQ:dA Tryz.prog 128 2 2:=dA.of (by kernel_rfl)
theorem BF:iJ Tryz.prog 47 GEvent.rep:=⟨fun _=>by kernel_rfl,fun _=>by kernel_rfl,fun _=>by kernel_rfl⟩
theorem pl47:jW Tryz.prog 47 (fun i=>[(0,1),(1,1),(2,1),(3,1),(4,1),(5,1),(6,1),(7,1)][i]?):=jW.of (by kernel_rfl)
theorem Dc:iJ Tryz.prog 104 bQ.rep:=⟨fun _=>by kernel_rfl,fun _=>by kernel_rfl,fun _=>by kernel_rfl⟩
theorem H9:jW Tryz.prog 104 (fun i=>[(0,1),(1,1),(2,1),(3,1)][i]?):=jW.of (by kernel_rfl)
theorem un99:Tryz.prog.underlying 99=some (.slice 104):=by kernel_rfl
theorem Rf:Tryz.prog.underlying 30=some (.pointer (Tryz.prog.pointee 30)):=by kernel_rfl
theorem zi:dA Tryz.prog 47 1 1:=dA.of (by kernel_rfl)
theorem Ip:dA Tryz.prog 47 0 0:=dA.of (by kernel_rfl)
theorem WB:dA Tryz.prog 104 2 2:=dA.of (by kernel_rfl)
theorem tye35:iJ Tryz.prog 35 (Rep.II bY):=⟨fun _=>by kernel_rfl,fun _=>by kernel_rfl,fun _=>by kernel_rfl⟩
theorem Bh:dA Tryz.prog 47 2 2:=dA.of (by kernel_rfl)
theorem jJ1:dA Tryz.prog 104 3 3:=dA.of (by kernel_rfl)
theorem ty102:iJ Tryz.prog 102 Rep.Ro:=⟨fun _=>by kernel_rfl,fun _=>by kernel_rfl,fun _=>by kernel_rfl⟩
theorem jo:iJ Tryz.prog 109 ax.rep:=⟨fun _=>by kernel_rfl,fun _=>by kernel_rfl,fun _=>by kernel_rfl⟩
theorem H8:jW Tryz.prog 109 (fun i=>[(0,1),(1,1)][i]?):=jW.of (by kernel_rfl)
theorem yB:dA Tryz.prog 47 4 4:=dA.of (by kernel_rfl)
theorem fo98_1:dA Tryz.prog 98 1 1:=dA.of (by kernel_rfl)
theorem fv98_1:vJ Tryz.prog 98 1=some (9,1):=by kernel_rfl
theorem xE:iJ Tryz.prog 137 bV.rep:=⟨fun _=>by kernel_rfl,fun _=>by kernel_rfl,fun _=>by kernel_rfl⟩
theorem JM:jW Tryz.prog 137 (fun i=>[(0,1),(1,1)][i]?):=jW.of (by kernel_rfl)
theorem BI:Tryz.prog.underlying 134=some (.slice 137):=by kernel_rfl
theorem IA:dA Tryz.prog 90 4 7:=dA.of (by kernel_rfl)
theorem MX:iJ Tryz.prog 88 Rep.Gl:=⟨fun _=>by kernel_rfl,fun _=>by kernel_rfl,fun _=>by kernel_rfl⟩
theorem Xt:Tryz.prog.underlying 88=some (.map 9 9):=by kernel_rfl
theorem Qu:BZ Tryz.prog 137 bV.rep:=by unfold BZ;kernel_rfl
theorem NP:dA Tryz.prog 137 1 1:=dA.of (by kernel_rfl)
theorem Rk:dA Tryz.prog 137 0 0:=dA.of (by kernel_rfl)
theorem YC:iJ Tryz.prog 31 bY:=⟨fun _=>by kernel_rfl,fun _=>by kernel_rfl,fun _=>by kernel_rfl⟩
theorem FB:dA Tryz.prog 47 3 3:=dA.of (by kernel_rfl)
theorem LU:dA Tryz.prog 47 5 5:=dA.of (by kernel_rfl)
theorem LV:dA Tryz.prog 47 6 6:=dA.of (by kernel_rfl)
theorem pl128:jW Tryz.prog 128 (fun i=>[(0,1),(1,1),(2,1)][i]?):=jW.of (by kernel_rfl)
theorem LK:dA Tryz.prog 47 7 7:=dA.of (by kernel_rfl)
theorem YM:dA Tryz.prog 98 2 2:=dA.of (by kernel_rfl)
theorem WC:dA Tryz.prog 109 1 1:=dA.of (by kernel_rfl)
theorem jJ3:dA Tryz.prog 109 0 0:=dA.of (by kernel_rfl)
theorem Ob:dA Tryz.prog 90 5 8:=dA.of (by kernel_rfl)
theorem Yr:iJ Tryz.prog 27 (Rep.slice GEvent.rep):=⟨fun _=>by kernel_rfl,fun _=>by kernel_rfl,fun _=>by kernel_rfl⟩
theorem el47:BZ Tryz.prog 47 GEvent.rep:=by unfold BZ;kernel_rfl
theorem jf:iJ Tryz.prog 40 ai.rep:=⟨fun _=>by kernel_rfl,fun _=>by kernel_rfl,fun _=>by kernel_rfl⟩
theorem el3:BZ Tryz.prog 3 bY:=by unfold BZ;kernel_rfl
theorem YI:BZ Tryz.prog 166 dZ.rep:=by unfold BZ;kernel_rfl
theorem JO:iJ Tryz.prog 166 dZ.rep:=⟨fun _=>by kernel_rfl,fun _=>by kernel_rfl,fun _=>by kernel_rfl⟩
theorem Vh:Tryz.prog.underlying 37=some (.slice 166):=by kernel_rfl
theorem pl40:jW Tryz.prog 40 (fun i=>[(0,4),(4,1),(5,1),(6,1),(7,1),(8,1),(9,1)][i]?):=jW.of (by kernel_rfl)
theorem GX:dA Tryz.prog 40 4 7:=dA.of (by kernel_rfl)
theorem yj:iJ Tryz.prog 35 (Rep.slice bY):=⟨fun _=>by kernel_rfl,fun _=>by kernel_rfl,fun _=>by kernel_rfl⟩
theorem mM:iJ Tryz.prog 43 bf.rep:=⟨fun _=>by kernel_rfl,fun _=>by kernel_rfl,fun _=>by kernel_rfl⟩
theorem Ih:jW Tryz.prog 43 (fun i=>[(0,1),(1,1)][i]?):=jW.of (by kernel_rfl)
theorem JS:dA Tryz.prog 40 1 4:=dA.of (by kernel_rfl)
theorem qP:dA Tryz.prog 40 2 5:=dA.of (by kernel_rfl)
theorem LJ:dA Tryz.prog 40 3 6:=dA.of (by kernel_rfl)
theorem LW:dA Tryz.prog 40 5 8:=dA.of (by kernel_rfl)
theorem Xr:iJ Tryz.prog 37 (Rep.slice dZ.rep):=⟨fun _=>by kernel_rfl,fun _=>by kernel_rfl,fun _=>by kernel_rfl⟩
theorem Fa:iJ Tryz.prog 168 fD.rep:=⟨fun _=>by kernel_rfl,fun _=>by kernel_rfl,fun _=>by kernel_rfl⟩
theorem Ei:Tryz.prog.underlying 38=some (.slice 168):=by kernel_rfl
theorem zC:dA Tryz.prog 40 6 9:=dA.of (by kernel_rfl)
theorem Iw:iJ Tryz.prog 38 (Rep.slice fD.rep):=⟨fun _=>by kernel_rfl,fun _=>by kernel_rfl,fun _=>by kernel_rfl⟩
theorem Ox:BZ Tryz.prog 168 fD.rep:=by unfold BZ;kernel_rfl
def nN:Rep (ai×Value×Value×Value×Value):=Rep.vW (Rep.prod GPermitPlan.rep (Rep.prod bY (Rep.prod Rep.raw (Rep.prod Rep.raw (Rep.prod Rep.raw (Rep.prod Rep.raw (Rep.prod (Rep.slice fD.rep) Rep.unit))))))) (fun s=>(s.1.P,(s.1.Now,(s.2.1,(s.2.2.1,(s.2.2.2.1,(s.2.2.2.2,(s.1.oC,())))))))) (fun t=>(⟨t.1,t.2.1,[],[],[],[],t.2.2.2.2.2.2.1⟩,t.2.2.1,t.2.2.2.1,t.2.2.2.2.1,t.2.2.2.2.2.1)) (fun _=>rfl)
theorem qL:Lens nN GPermitPlan.rep 0 (fun y=>y.1.P) (fun y z=>((fun x z=>({ x with P:=z }:ai)) y.1 z,y.2)):=(Lens.vW _ _ _ _).comp (Lens.fst _ _)
theorem NM:Lens nN bY 4 (fun y=>y.1.Now) (fun y z=>((fun x z=>({ x with Now:=z }:ai)) y.1 z,y.2)):=(Lens.vW _ _ _ _).comp ((Lens.snd _ _).comp (Lens.fst _ _))
theorem oG:Lens nN Rep.raw 5 (fun y=>y.2.1) (fun y z=>(y.1,(fun p z=>((z,p.2.1,p.2.2.1,p.2.2.2):Value×Value×Value×Value)) y.2 z)):=(Lens.vW _ _ _ _).comp ((Lens.snd _ _).comp ((Lens.snd _ _).comp (Lens.fst _ _)))
theorem GV:Lens nN Rep.raw 6 (fun y=>y.2.2.1) (fun y z=>(y.1,(fun p z=>((p.1,z,p.2.2.1,p.2.2.2):Value×Value×Value×Value)) y.2 z)):=(Lens.vW _ _ _ _).comp ((Lens.snd _ _).comp ((Lens.snd _ _).comp ((Lens.snd _ _).comp (Lens.fst _ _))))
theorem Fb:Lens nN Rep.raw 7 (fun y=>y.2.2.2.1) (fun y z=>(y.1,(fun p z=>((p.1,p.2.1,z,p.2.2.2):Value×Value×Value×Value)) y.2 z)):=(Lens.vW _ _ _ _).comp ((Lens.snd _ _).comp ((Lens.snd _ _).comp ((Lens.snd _ _).comp ((Lens.snd _ _).comp (Lens.fst _ _)))))
theorem GU:Lens nN Rep.raw 8 (fun y=>y.2.2.2.2) (fun y z=>(y.1,(fun p z=>((p.1,p.2.1,p.2.2.1,z):Value×Value×Value×Value)) y.2 z)):=(Lens.vW _ _ _ _).comp ((Lens.snd _ _).comp ((Lens.snd _ _).comp ((Lens.snd _ _).comp ((Lens.snd _ _).comp ((Lens.snd _ _).comp (Lens.fst _ _))))))
theorem yx:Lens nN (Rep.slice fD.rep) 9 (fun y=>y.1.oC) (fun y z=>((fun x z=>({ x with oC:=z }:ai)) y.1 z,y.2)):=(Lens.vW _ _ _ _).comp ((Lens.snd _ _).comp ((Lens.snd _ _).comp ((Lens.snd _ _).comp ((Lens.snd _ _).comp ((Lens.snd _ _).comp ((Lens.snd _ _).comp (Lens.fst _ _)))))))
theorem hh40_in {h:H} {cs:List Value} {x:ai} (hr:ai.rep.rel h cs x):∃ p,nN.rel h cs (x,p):=by
  obtain ⟨c0,d0,rfl,k0,c1,d1,rfl,k1,c2,d2,rfl,k2,c3,d3,rfl,k3,c4,d4,rfl,k4,c5,d5,rfl,k5,c6,d6,rfl,k6,kk⟩:=hr
  have f2:=(Rep.slice bY).flat k2
  obtain ⟨v2,rfl,_⟩:=k2
  have f3:=(Rep.slice Rep.str).flat k3
  obtain ⟨v3,rfl,_⟩:=k3
  have f4:=(Rep.slice bY).flat k4
  obtain ⟨v4,rfl,_⟩:=k4
  have f5:=(Rep.slice dZ.rep).flat k5
  obtain ⟨v5,rfl,_⟩:=k5
  exact ⟨(v2,v3,v4,v5),_,_,rfl,k0,_,_,rfl,k1,_,_,rfl,⟨rfl,f2 v2 (by simp)⟩,_,_,rfl,⟨rfl,f3 v3 (by simp)⟩,_,_,rfl,⟨rfl,f4 v4 (by simp)⟩,_,_,rfl,⟨rfl,f5 v5 (by simp)⟩,_,_,rfl,k6,kk⟩
theorem ng {x:ai} {v2 v3 v4 v5:Value} {y2:(List Int)} {y3:(List Str)} {y4:(List Int)} {y5:(List dZ)} (h:H) (cs:List Value) (hr:nN.rel h cs (x,v2,v3,v4,v5)) (s2:(Rep.slice bY).rel h [v2] y2) (s3:(Rep.slice Rep.str).rel h [v3] y3) (s4:(Rep.slice bY).rel h [v4] y4) (s5:(Rep.slice dZ.rep).rel h [v5] y5):ai.rep.rel h cs ({ x with cO:=y2,By:=y3,To:=y4,Tests:=y5 }:ai):=by
  obtain ⟨c0,d0,rfl,k0,c1,d1,rfl,k1,c2,d2,rfl,⟨rfl,_⟩,c3,d3,rfl,⟨rfl,_⟩,c4,d4,rfl,⟨rfl,_⟩,c5,d5,rfl,⟨rfl,_⟩,c6,d6,rfl,k6,kk⟩:=hr
  exact ⟨_,_,rfl,k0,_,_,rfl,k1,_,_,rfl,s2,_,_,rfl,s3,_,_,rfl,s4,_,_,rfl,s5,_,_,rfl,k6,kk⟩
def Wp (x:ai) (p:Value×Value×Value×Value) (h:H):Prop:=(Rep.slice bY).rel h [p.1] x.cO∧(Rep.slice Rep.str).rel h [p.2.1] x.By∧(Rep.slice bY).rel h [p.2.2.1] x.To∧(Rep.slice dZ.rep).rel h [p.2.2.2] x.Tests
theorem YK {x:ai} (h:H) (cs:List Value) (hr:ai.rep.rel h cs x):∃ p,nN.rel h cs (x,p)∧Wp x p h:=by
  obtain ⟨c0,d0,rfl,k0,c1,d1,rfl,k1,c2,d2,rfl,k2,c3,d3,rfl,k3,c4,d4,rfl,k4,c5,d5,rfl,k5,c6,d6,rfl,k6,kk⟩:=hr
  have f2:=(Rep.slice bY).flat k2
  have m2:=k2
  obtain ⟨v2,rfl,_⟩:=k2
  have f3:=(Rep.slice Rep.str).flat k3
  have m3:=k3
  obtain ⟨v3,rfl,_⟩:=k3
  have f4:=(Rep.slice bY).flat k4
  have m4:=k4
  obtain ⟨v4,rfl,_⟩:=k4
  have f5:=(Rep.slice dZ.rep).flat k5
  have m5:=k5
  obtain ⟨v5,rfl,_⟩:=k5
  exact ⟨(v2,v3,v4,v5),⟨_,_,rfl,k0,_,_,rfl,k1,_,_,rfl,⟨rfl,f2 v2 (by simp)⟩,_,_,rfl,⟨rfl,f3 v3 (by simp)⟩,_,_,rfl,⟨rfl,f4 v4 (by simp)⟩,_,_,rfl,⟨rfl,f5 v5 (by simp)⟩,_,_,rfl,k6,kk⟩,m2,m3,m4,m5⟩
theorem Vp {x:ai} (p:Value×Value×Value×Value) (h h':H) (hl:pI h h') (k:Wp x p h):Wp x p h':=by
  obtain ⟨m2,m3,m4,m5⟩:=k
  exact ⟨(Rep.slice bY).mono hl m2,(Rep.slice Rep.str).mono hl m3,(Rep.slice bY).mono hl m4,(Rep.slice dZ.rep).mono hl m5⟩
theorem zk:iJ Tryz.prog 40 nN:=⟨fun _=>by kernel_rfl,fun _=>by kernel_rfl,fun _=>by kernel_rfl⟩
theorem ug:dA Tryz.prog 40 0 0:=dA.of (by kernel_rfl)
theorem jJe:dA Tryz.prog 166 0 0:=dA.of (by kernel_rfl)
theorem jJ0:dA Tryz.prog 166 1 1:=dA.of (by kernel_rfl)
theorem Wx:dA Tryz.prog 166 2 2:=dA.of (by kernel_rfl)
theorem Wy:dA Tryz.prog 166 3 3:=dA.of (by kernel_rfl)
theorem Rh:dA Tryz.prog 168 0 0:=dA.of (by kernel_rfl)
theorem pl166:jW Tryz.prog 166 (fun i=>[(0,1),(1,1),(2,1),(3,1)][i]?):=jW.of (by kernel_rfl)
theorem pl168:jW Tryz.prog 168 (fun i=>[(0,1),(1,1)][i]?):=jW.of (by kernel_rfl)
theorem jJc:dA Tryz.prog 168 1 1:=dA.of (by kernel_rfl)
theorem Yq:dA Tryz.prog 43 0 0:=dA.of (by kernel_rfl)
theorem un3:Tryz.prog.underlying 3=some (.int .i64):=by kernel_rfl
theorem fv47_7:vJ Tryz.prog 47 7=some (3,7):=by kernel_rfl
theorem fv47_6:vJ Tryz.prog 47 6=some (3,6):=by kernel_rfl
theorem fv47_5:vJ Tryz.prog 47 5=some (3,5):=by kernel_rfl
theorem fv47_4:vJ Tryz.prog 47 4=some (9,4):=by kernel_rfl
theorem fv47_3:vJ Tryz.prog 47 3=some (9,3):=by kernel_rfl
theorem fv47_2:vJ Tryz.prog 47 2=some (9,2):=by kernel_rfl
theorem fv47_1:vJ Tryz.prog 47 1=some (3,1):=by kernel_rfl
theorem fv47_0:vJ Tryz.prog 47 0=some (3,0):=by kernel_rfl
theorem eq47:Gn Tryz.prog 9999 47 GEvent.rep GEvent.eqb:=Gn.struct rfl (by kernel_rfl) (by kernel_rfl) (AB.cons GEvent.l0 fv47_0 (by kernel_rfl) jT (Gn.int un3) (AB.cons GEvent.l1 fv47_1 (by kernel_rfl) jT (Gn.int un3) (AB.cons GEvent.l2 fv47_2 (by kernel_rfl) kV (Gn.str U0) (AB.cons GEvent.l3 fv47_3 (by kernel_rfl) kV (Gn.str U0) (AB.cons GEvent.l4 fv47_4 (by kernel_rfl) kV (Gn.str U0) (AB.cons GEvent.l5 fv47_5 (by kernel_rfl) jT (Gn.int un3) (AB.cons GEvent.l6 fv47_6 (by kernel_rfl) jT (Gn.int un3) (AB.cons GEvent.l7 fv47_7 (by kernel_rfl) jT (Gn.int un3) (AB.nil (by kernel_rfl))))))))))
theorem un4:Tryz.prog.underlying 4=some (.bool):=by kernel_rfl
end Go.KB
