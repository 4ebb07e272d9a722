/- What the translation says of its types. Printed by a program. No condition. -/
import Derived.Test.YtalkbgomndhkmaaGreatGTypes
import Derived.Test.YtalkbgomndhkmaaGreatProg
namespace Go.KB
open Go.Proofs
theorem kK:ji Tryz.prog 26 GPermitPlan.rep:=⟨fun _=>by kernel_rfl,fun _=>by kernel_rfl,fun _=>by kernel_rfl⟩
theorem nY:cZ Tryz.prog 26 0 0:=cZ.of (by kernel_rfl)
theorem xB:ji Tryz.prog 22 (Rep.slice bV.rep):=⟨fun _=>by kernel_rfl,fun _=>by kernel_rfl,fun _=>by kernel_rfl⟩
theorem vP:Tryz.prog.underlying 22=some (.slice 71):=by kernel_rfl
theorem Af:cZ Tryz.prog 26 1 1:=cZ.of (by kernel_rfl)
theorem IZ:ji Tryz.prog 23 (Rep.slice bG.rep):=⟨fun _=>by kernel_rfl,fun _=>by kernel_rfl,fun _=>by kernel_rfl⟩
theorem EN:Tryz.prog.underlying 23=some (.slice 80):=by kernel_rfl
theorem jq:cZ Tryz.prog 26 2 2:=cZ.of (by kernel_rfl)
theorem rC:ji Tryz.prog 24 (Rep.slice aF.rep):=⟨fun _=>by kernel_rfl,fun _=>by kernel_rfl,fun _=>by kernel_rfl⟩
theorem lX:Tryz.prog.underlying 24=some (.slice 68):=by kernel_rfl
theorem mD:ji Tryz.prog 71 bV.rep:=⟨fun _=>by kernel_rfl,fun _=>by kernel_rfl,fun _=>by kernel_rfl⟩
theorem yu:cZ Tryz.prog 71 2 2:=cZ.of (by kernel_rfl)
theorem vS:ji Tryz.prog 36 (Rep.slice Rep.str):=⟨fun _=>by kernel_rfl,fun _=>by kernel_rfl,fun _=>by kernel_rfl⟩
theorem jy:Tryz.prog.underlying 36=some (.slice 9):=by kernel_rfl
theorem vV:cZ Tryz.prog 71 0 0:=cZ.of (by kernel_rfl)
theorem jO:ji Tryz.prog 9 Rep.str:=⟨fun _=>by kernel_rfl,fun _=>by kernel_rfl,fun _=>by kernel_rfl⟩
theorem QX:Tryz.prog.underlying 9=some (.string):=by kernel_rfl
theorem iw:ji Tryz.prog 68 aF.rep:=⟨fun _=>by kernel_rfl,fun _=>by kernel_rfl,fun _=>by kernel_rfl⟩
theorem yt:cZ Tryz.prog 68 5 5:=cZ.of (by kernel_rfl)
theorem mX:cZ Tryz.prog 68 0 0:=cZ.of (by kernel_rfl)
theorem Je:cZ Tryz.prog 26 3 3:=cZ.of (by kernel_rfl)
theorem lU:ji Tryz.prog 3 gY:=⟨fun _=>by kernel_rfl,fun _=>by kernel_rfl,fun _=>by kernel_rfl⟩
theorem AY:ji Tryz.prog 80 bG.rep:=⟨fun _=>by kernel_rfl,fun _=>by kernel_rfl,fun _=>by kernel_rfl⟩
theorem GX:cZ Tryz.prog 80 0 0:=cZ.of (by kernel_rfl)
theorem GY:cZ Tryz.prog 80 1 1:=cZ.of (by kernel_rfl)
theorem GZ:cZ Tryz.prog 80 2 2:=cZ.of (by kernel_rfl)
theorem qx:cZ Tryz.prog 68 1 1:=cZ.of (by kernel_rfl)
theorem Jd:cZ Tryz.prog 68 3 3:=cZ.of (by kernel_rfl)
theorem Jb:cZ Tryz.prog 68 4 4:=cZ.of (by kernel_rfl)
theorem wV:cZ Tryz.prog 68 2 2:=cZ.of (by kernel_rfl)
theorem Vr:jw Tryz.prog 71 (fun i=>[(0,1),(1,1),(2,1)][i]?):=jw.of (by kernel_rfl)
theorem Ri:jw Tryz.prog 80 (fun i=>[(0,1),(1,1),(2,1)][i]?):=jw.of (by kernel_rfl)
theorem TI:jw Tryz.prog 68 (fun i=>[(0,1),(1,1),(2,1),(3,1),(4,1),(5,1)][i]?):=jw.of (by kernel_rfl)
theorem pl26:jw Tryz.prog 26 (fun i=>[(0,1),(1,1),(2,1),(3,1)][i]?):=jw.of (by kernel_rfl)
theorem I4:zf Tryz.prog 9 Rep.str dV:=zf.str QX
theorem Lc:ji Tryz.prog 4 Rep.bool:=⟨fun _=>by kernel_rfl,fun _=>by kernel_rfl,fun _=>by kernel_rfl⟩
theorem Ny:Tryz.prog.underlying 172=some (.map 9 4):=by kernel_rfl
def Gj:Rep (GPermitPlan×Value×Value):=Rep.wQ (Rep.prod Rep.raw (Rep.prod (Rep.slice bG.rep) (Rep.prod Rep.raw (Rep.prod gY Rep.unit)))) (fun s=>(s.2.1,(s.1.dm,(s.2.2,(s.1.dX,()))))) (fun t=>(⟨[],t.2.1,[],t.2.2.2.1⟩,t.1,t.2.2.1)) (fun _=>rfl)
theorem IG:Lens Gj Rep.raw 0 (fun y=>y.2.1) (fun y z=>(y.1,(fun p z=>((z,p.2):Value×Value)) y.2 z)):=(Lens.wQ _ _ _ _).comp (Lens.fst _ _)
theorem Vm:Lens Gj (Rep.slice bG.rep) 1 (fun y=>y.1.dm) (fun y z=>((fun x z=>({ x with dm:=z }:GPermitPlan)) y.1 z,y.2)):=(Lens.wQ _ _ _ _).comp ((Lens.snd _ _).comp (Lens.fst _ _))
theorem II:Lens Gj Rep.raw 2 (fun y=>y.2.2) (fun y z=>(y.1,(fun p z=>((p.1,z):Value×Value)) y.2 z)):=(Lens.wQ _ _ _ _).comp ((Lens.snd _ _).comp ((Lens.snd _ _).comp (Lens.fst _ _)))
theorem hh26_l3:Lens Gj gY 3 (fun y=>y.1.dX) (fun y z=>((fun x z=>({ x with dX:=z }:GPermitPlan)) y.1 z,y.2)):=(Lens.wQ _ _ _ _).comp ((Lens.snd _ _).comp ((Lens.snd _ _).comp ((Lens.snd _ _).comp (Lens.fst _ _))))
theorem Vl {h:H} {cs:List Value} {x:GPermitPlan} (hr:GPermitPlan.rep.rel h cs x):∃ p,Gj.rel h cs (x,p):=by
  obtain ⟨c0,d0,rfl,k0,c1,d1,rfl,k1,c2,d2,rfl,k2,c3,d3,rfl,k3,kk⟩:=hr
  have f0:=(Rep.slice bV.rep).flat k0
  obtain ⟨v0,rfl,_⟩:=k0
  have f2:=(Rep.slice aF.rep).flat k2
  obtain ⟨v2,rfl,_⟩:=k2
  exact ⟨(v0,v2),_,_,rfl,⟨rfl,f0 v0 (by simp)⟩,_,_,rfl,k1,_,_,rfl,⟨rfl,f2 v2 (by simp)⟩,_,_,rfl,k3,kk⟩
theorem TG {x:GPermitPlan} {v0 v2:Value} {y0:(List bV)} {y2:(List aF)} (h:H) (cs:List Value) (hr:Gj.rel h cs (x,v0,v2)) (s0:(Rep.slice bV.rep).rel h [v0] y0) (s2:(Rep.slice aF.rep).rel h [v2] y2):GPermitPlan.rep.rel h cs ({ x with bU:=y0,ay:=y2 }:GPermitPlan):=by
  obtain ⟨c0,d0,rfl,⟨rfl,_⟩,c1,d1,rfl,k1,c2,d2,rfl,⟨rfl,_⟩,c3,d3,rfl,k3,kk⟩:=hr
  exact ⟨_,_,rfl,s0,_,_,rfl,k1,_,_,rfl,s2,_,_,rfl,k3,kk⟩
theorem el71:xK Tryz.prog 71 bV.rep:=by unfold xK;kernel_rfl
theorem el80:xK Tryz.prog 80 bG.rep:=by unfold xK;kernel_rfl
theorem el68:xK Tryz.prog 68 aF.rep:=by unfold xK;kernel_rfl
theorem Sz:xK Tryz.prog 9 Rep.str:=by unfold xK;kernel_rfl
theorem ty90:ji Tryz.prog 90 af.rep:=⟨fun _=>by kernel_rfl,fun _=>by kernel_rfl,fun _=>by kernel_rfl⟩
theorem pl90:jw Tryz.prog 90 (fun i=>[(0,4),(4,1),(5,1),(6,1),(7,1),(8,1)][i]?):=jw.of (by kernel_rfl)
theorem BD:cZ Tryz.prog 90 2 5:=cZ.of (by kernel_rfl)
theorem EX:ji Tryz.prog 86 Rep.Dh:=⟨fun _=>by kernel_rfl,fun _=>by kernel_rfl,fun _=>by kernel_rfl⟩
theorem ET:ji Tryz.prog 98 ah.rep:=⟨fun _=>by kernel_rfl,fun _=>by kernel_rfl,fun _=>by kernel_rfl⟩
theorem pl98:jw Tryz.prog 98 (fun i=>[(0,1),(1,1),(2,1)][i]?):=jw.of (by kernel_rfl)
theorem JR:Tryz.prog.underlying 86=some (.map 9 98):=by kernel_rfl
theorem tV:cZ Tryz.prog 90 0 0:=cZ.of (by kernel_rfl)
theorem pX:Tryz.prog.underlying 35=some (.slice 3):=by kernel_rfl
theorem WU:Aw Tryz.prog 98 0=some (3,0):=by kernel_rfl
theorem WN:Aw Tryz.prog 98 2=some (3,2):=by kernel_rfl
theorem GR:cZ Tryz.prog 90 1 4:=cZ.of (by kernel_rfl)
theorem Tt:cZ Tryz.prog 98 0 0:=cZ.of (by kernel_rfl)
theorem xh:ji Tryz.prog 30 Rep.iW:=⟨fun _=>by kernel_rfl,fun _=>by kernel_rfl,fun _=>by kernel_rfl⟩
theorem I9:cZ Tryz.prog 71 1 1:=cZ.of (by kernel_rfl)
theorem S9:cZ Tryz.prog 90 3 6:=cZ.of (by kernel_rfl)
theorem VS:ji Tryz.prog 87 Rep.Dh:=⟨fun _=>by kernel_rfl,fun _=>by kernel_rfl,fun _=>by kernel_rfl⟩
theorem Qp:ji Tryz.prog 128 ak.rep:=⟨fun _=>by kernel_rfl,fun _=>by kernel_rfl,fun _=>by kernel_rfl⟩
theorem un87:Tryz.prog.underlying 87=some (.map 9 128):=by kernel_rfl
theorem Vq:cZ Tryz.prog 128 0 0:=cZ.of (by kernel_rfl)
theorem Qv:cZ Tryz.prog 128 1 1:=cZ.of (by kernel_rfl)
theorem Qw:cZ Tryz.prog 128 2 2:=cZ.of (by kernel_rfl)
theorem OO:ji Tryz.prog 47 bQ.rep:=⟨fun _=>by kernel_rfl,fun _=>by kernel_rfl,fun _=>by kernel_rfl⟩
theorem Vd:jw Tryz.prog 47 (fun i=>[(0,1),(1,1),(2,1),(3,1),(4,1),(5,1),(6,1),(7,1)][i]?):=jw.of (by kernel_rfl)
theorem yU:ji Tryz.prog 104 bC.rep:=⟨fun _=>by kernel_rfl,fun _=>by kernel_rfl,fun _=>by kernel_rfl⟩
theorem DR:jw Tryz.prog 104 (fun i=>[(0,1),(1,1),(2,1),(3,1)][i]?):=jw.of (by kernel_rfl)
theorem U7:Tryz.prog.underlying 99=some (.slice 104):=by kernel_rfl
theorem un30:Tryz.prog.underlying 30=some (.pointer (Tryz.prog.pointee 30)):=by kernel_rfl
theorem IW:cZ Tryz.prog 47 1 1:=cZ.of (by kernel_rfl)
theorem KZ:cZ Tryz.prog 47 0 0:=cZ.of (by kernel_rfl)
theorem Qh:cZ Tryz.prog 104 2 2:=cZ.of (by kernel_rfl)
theorem VP:ji Tryz.prog 35 (Rep.Ed gY):=⟨fun _=>by kernel_rfl,fun _=>by kernel_rfl,fun _=>by kernel_rfl⟩
theorem yj:cZ Tryz.prog 47 2 2:=cZ.of (by kernel_rfl)
theorem U8:cZ Tryz.prog 104 3 3:=cZ.of (by kernel_rfl)
theorem ty102:ji Tryz.prog 102 Rep.Lj:=⟨fun _=>by kernel_rfl,fun _=>by kernel_rfl,fun _=>by kernel_rfl⟩
theorem fP:ji Tryz.prog 109 aj.rep:=⟨fun _=>by kernel_rfl,fun _=>by kernel_rfl,fun _=>by kernel_rfl⟩
theorem DN:jw Tryz.prog 109 (fun i=>[(0,1),(1,1)][i]?):=jw.of (by kernel_rfl)
theorem Ah:cZ Tryz.prog 47 4 4:=cZ.of (by kernel_rfl)
theorem WT:cZ Tryz.prog 98 1 1:=cZ.of (by kernel_rfl)
theorem WE:Aw Tryz.prog 98 1=some (9,1):=by kernel_rfl
theorem zD:ji Tryz.prog 137 dH.rep:=⟨fun _=>by kernel_rfl,fun _=>by kernel_rfl,fun _=>by kernel_rfl⟩
theorem Nv:jw Tryz.prog 137 (fun i=>[(0,1),(1,1)][i]?):=jw.of (by kernel_rfl)
theorem Nw:Tryz.prog.underlying 134=some (.slice 137):=by kernel_rfl
theorem G6:cZ Tryz.prog 90 4 7:=cZ.of (by kernel_rfl)
theorem Ko:ji Tryz.prog 88 Rep.Dh:=⟨fun _=>by kernel_rfl,fun _=>by kernel_rfl,fun _=>by kernel_rfl⟩
theorem Q9:Tryz.prog.underlying 88=some (.map 9 9):=by kernel_rfl
theorem el137:xK Tryz.prog 137 dH.rep:=by unfold xK;kernel_rfl
theorem Ld:cZ Tryz.prog 137 1 1:=cZ.of (by kernel_rfl)
theorem Qk:cZ Tryz.prog 137 0 0:=cZ.of (by kernel_rfl)
theorem Va:ji Tryz.prog 31 gY:=⟨fun _=>by kernel_rfl,fun _=>by kernel_rfl,fun _=>by kernel_rfl⟩
theorem Ja:cZ Tryz.prog 47 3 3:=cZ.of (by kernel_rfl)
theorem OW:cZ Tryz.prog 47 5 5:=cZ.of (by kernel_rfl)
theorem OX:cZ Tryz.prog 47 6 6:=cZ.of (by kernel_rfl)
theorem pl128:jw Tryz.prog 128 (fun i=>[(0,1),(1,1),(2,1)][i]?):=jw.of (by kernel_rfl)
theorem OZ:cZ Tryz.prog 47 7 7:=cZ.of (by kernel_rfl)
theorem Tc:cZ Tryz.prog 98 2 2:=cZ.of (by kernel_rfl)
theorem Qi:cZ Tryz.prog 109 1 1:=cZ.of (by kernel_rfl)
theorem Vb:cZ Tryz.prog 109 0 0:=cZ.of (by kernel_rfl)
theorem SI:cZ Tryz.prog 90 5 8:=cZ.of (by kernel_rfl)
theorem ty27:ji Tryz.prog 27 (Rep.slice bQ.rep):=⟨fun _=>by kernel_rfl,fun _=>by kernel_rfl,fun _=>by kernel_rfl⟩
theorem un27:Tryz.prog.underlying 27=some (.slice 47):=by kernel_rfl
theorem el47:xK Tryz.prog 47 bQ.rep:=by unfold xK;kernel_rfl
theorem el3:xK Tryz.prog 3 gY:=by unfold xK;kernel_rfl
theorem xW:ji Tryz.prog 35 (Rep.slice gY):=⟨fun _=>by kernel_rfl,fun _=>by kernel_rfl,fun _=>by kernel_rfl⟩
theorem wJ:Tryz.prog.underlying 113=some (.slice 35):=by kernel_rfl
theorem U6:xK Tryz.prog 35 (Rep.slice gY):=by unfold xK;kernel_rfl
theorem KY:Tryz.prog.underlying 61=some (.slice 36):=by kernel_rfl
theorem el36:xK Tryz.prog 36 (Rep.slice Rep.str):=by unfold xK;kernel_rfl
theorem el4:xK Tryz.prog 4 Rep.bool:=by unfold xK;kernel_rfl
theorem J7:Tryz.prog.underlying 154=some (.slice 4):=by kernel_rfl
theorem un3:Tryz.prog.underlying 3=some (.int .i64):=by kernel_rfl
theorem un4:Tryz.prog.underlying 4=some (.bool):=by kernel_rfl
end Go.KB
