/- What the translation says of its types. Printed by a program. No condition. -/
import Derived.Test.YtalkbgomndhkmaaGreatGTypes
import Derived.Test.YtalkbgomndhkmaaGreatProg
namespace Go.KB
open Go.Proofs
theorem mZ:jT Tryz.prog 26 GPermitPlan.rep:=⟨fun _=>by kernel_rfl,fun _=>by kernel_rfl,fun _=>by kernel_rfl⟩
theorem pM:cO Tryz.prog 26 0 0:=cO.of (by kernel_rfl)
theorem xO:jT Tryz.prog 22 (Rep.slice bV.rep):=⟨fun _=>by kernel_rfl,fun _=>by kernel_rfl,fun _=>by kernel_rfl⟩
theorem vO:Tryz.prog.underlying 22=some (.slice 71):=by kernel_rfl
theorem Bf:cO Tryz.prog 26 1 1:=cO.of (by kernel_rfl)
theorem La:jT Tryz.prog 23 (Rep.slice bF.rep):=⟨fun _=>by kernel_rfl,fun _=>by kernel_rfl,fun _=>by kernel_rfl⟩
theorem Fq:Tryz.prog.underlying 23=some (.slice 80):=by kernel_rfl
theorem l9:cO Tryz.prog 26 2 2:=cO.of (by kernel_rfl)
theorem vP:jT Tryz.prog 24 (Rep.slice aA.rep):=⟨fun _=>by kernel_rfl,fun _=>by kernel_rfl,fun _=>by kernel_rfl⟩
theorem pR:Tryz.prog.underlying 24=some (.slice 68):=by kernel_rfl
theorem oN:jT Tryz.prog 71 bV.rep:=⟨fun _=>by kernel_rfl,fun _=>by kernel_rfl,fun _=>by kernel_rfl⟩
theorem zV:cO Tryz.prog 71 2 2:=cO.of (by kernel_rfl)
theorem wV:jT Tryz.prog 36 (Rep.slice Rep.str):=⟨fun _=>by kernel_rfl,fun _=>by kernel_rfl,fun _=>by kernel_rfl⟩
theorem kK:Tryz.prog.underlying 36=some (.slice 9):=by kernel_rfl
theorem vT:cO Tryz.prog 71 0 0:=cO.of (by kernel_rfl)
theorem lg:jT Tryz.prog 9 Rep.str:=⟨fun _=>by kernel_rfl,fun _=>by kernel_rfl,fun _=>by kernel_rfl⟩
theorem Tj:Tryz.prog.underlying 9=some (.string):=by kernel_rfl
theorem jk:jT Tryz.prog 68 aA.rep:=⟨fun _=>by kernel_rfl,fun _=>by kernel_rfl,fun _=>by kernel_rfl⟩
theorem zL:cO Tryz.prog 68 5 5:=cO.of (by kernel_rfl)
theorem oM:cO Tryz.prog 68 0 0:=cO.of (by kernel_rfl)
theorem JF:cO Tryz.prog 26 3 3:=cO.of (by kernel_rfl)
theorem pJ:jT Tryz.prog 3 iV:=⟨fun _=>by kernel_rfl,fun _=>by kernel_rfl,fun _=>by kernel_rfl⟩
theorem DR:jT Tryz.prog 80 bF.rep:=⟨fun _=>by kernel_rfl,fun _=>by kernel_rfl,fun _=>by kernel_rfl⟩
theorem Nc:cO Tryz.prog 80 0 0:=cO.of (by kernel_rfl)
theorem Nh:cO Tryz.prog 80 1 1:=cO.of (by kernel_rfl)
theorem JD:cO Tryz.prog 80 2 2:=cO.of (by kernel_rfl)
theorem uw:cO Tryz.prog 68 1 1:=cO.of (by kernel_rfl)
theorem JE:cO Tryz.prog 68 3 3:=cO.of (by kernel_rfl)
theorem JB:cO Tryz.prog 68 4 4:=cO.of (by kernel_rfl)
theorem xZ:cO Tryz.prog 68 2 2:=cO.of (by kernel_rfl)
theorem Tm:Tryz.prog.underlying 27=some (.slice 47):=by kernel_rfl
theorem XB:jV Tryz.prog 71 (fun i=>[(0,1),(1,1),(2,1)][i]?):=jV.of (by kernel_rfl)
theorem TB:jV Tryz.prog 80 (fun i=>[(0,1),(1,1),(2,1)][i]?):=jV.of (by kernel_rfl)
theorem Vr:jV Tryz.prog 68 (fun i=>[(0,1),(1,1),(2,1),(3,1),(4,1),(5,1)][i]?):=jV.of (by kernel_rfl)
theorem pl26:jV Tryz.prog 26 (fun i=>[(0,1),(1,1),(2,1),(3,1)][i]?):=jV.of (by kernel_rfl)
theorem Ju:yQ Tryz.prog 9 Rep.str dK:=yQ.str Tj
theorem Yg:jT Tryz.prog 4 Rep.bool:=⟨fun _=>by kernel_rfl,fun _=>by kernel_rfl,fun _=>by kernel_rfl⟩
theorem OO:Tryz.prog.underlying 172=some (.map 9 4):=by kernel_rfl
def Gv:Rep (GPermitPlan×Value×Value):=Rep.wQ (Rep.prod Rep.raw (Rep.prod (Rep.slice bF.rep) (Rep.prod Rep.raw (Rep.prod iV Rep.unit)))) (fun s=>(s.2.1,(s.1.dh,(s.2.2,(s.1.dS,()))))) (fun t=>(⟨[],t.2.1,[],t.2.2.2.1⟩,t.1,t.2.2.1)) (fun _=>rfl)
theorem Je:Lens Gv Rep.raw 0 (fun y=>y.2.1) (fun y z=>(y.1,(fun p z=>((z,p.2):Value×Value)) y.2 z)):=(Lens.wQ _ _ _ _).comp (Lens.fst _ _)
theorem Xx:Lens Gv (Rep.slice bF.rep) 1 (fun y=>y.1.dh) (fun y z=>((fun x z=>({ x with dh:=z }:GPermitPlan)) y.1 z,y.2)):=(Lens.wQ _ _ _ _).comp ((Lens.snd _ _).comp (Lens.fst _ _))
theorem Jf:Lens Gv Rep.raw 2 (fun y=>y.2.2) (fun y z=>(y.1,(fun p z=>((p.1,z):Value×Value)) y.2 z)):=(Lens.wQ _ _ _ _).comp ((Lens.snd _ _).comp ((Lens.snd _ _).comp (Lens.fst _ _)))
theorem hh26_l3:Lens Gv iV 3 (fun y=>y.1.dS) (fun y z=>((fun x z=>({ x with dS:=z }:GPermitPlan)) y.1 z,y.2)):=(Lens.wQ _ _ _ _).comp ((Lens.snd _ _).comp ((Lens.snd _ _).comp ((Lens.snd _ _).comp (Lens.fst _ _))))
theorem Xw {h:H} {cs:List Value} {x:GPermitPlan} (hr:GPermitPlan.rep.rel h cs x):∃ p,Gv.rel h cs (x,p):=by
  obtain ⟨c0,d0,rfl,k0,c1,d1,rfl,k1,c2,d2,rfl,k2,c3,d3,rfl,k3,kk⟩:=hr
  have f0:=(Rep.slice bV.rep).flat k0
  obtain ⟨v0,rfl,_⟩:=k0
  have f2:=(Rep.slice aA.rep).flat k2
  obtain ⟨v2,rfl,_⟩:=k2
  exact ⟨(v0,v2),_,_,rfl,⟨rfl,f0 v0 (by simp)⟩,_,_,rfl,k1,_,_,rfl,⟨rfl,f2 v2 (by simp)⟩,_,_,rfl,k3,kk⟩
theorem Vq {x:GPermitPlan} {v0 v2:Value} {y0:(List bV)} {y2:(List aA)} (h:H) (cs:List Value) (hr:Gv.rel h cs (x,v0,v2)) (s0:(Rep.slice bV.rep).rel h [v0] y0) (s2:(Rep.slice aA.rep).rel h [v2] y2):GPermitPlan.rep.rel h cs ({ x with bK:=y0,ax:=y2 }:GPermitPlan):=by
  obtain ⟨c0,d0,rfl,⟨rfl,_⟩,c1,d1,rfl,k1,c2,d2,rfl,⟨rfl,_⟩,c3,d3,rfl,k3,kk⟩:=hr
  exact ⟨_,_,rfl,s0,_,_,rfl,k1,_,_,rfl,s2,_,_,rfl,k3,kk⟩
theorem el71:y8 Tryz.prog 71 bV.rep:=by unfold y8;kernel_rfl
theorem el80:y8 Tryz.prog 80 bF.rep:=by unfold y8;kernel_rfl
theorem el68:y8 Tryz.prog 68 aA.rep:=by unfold y8;kernel_rfl
theorem U4:y8 Tryz.prog 9 Rep.str:=by unfold y8;kernel_rfl
theorem ty90:jT Tryz.prog 90 ah.rep:=⟨fun _=>by kernel_rfl,fun _=>by kernel_rfl,fun _=>by kernel_rfl⟩
theorem pl90:jV Tryz.prog 90 (fun i=>[(0,4),(4,1),(5,1),(6,1),(7,1),(8,1)][i]?):=jV.of (by kernel_rfl)
theorem Bd:cO Tryz.prog 90 2 5:=cO.of (by kernel_rfl)
theorem Fe:jT Tryz.prog 86 Rep.CP:=⟨fun _=>by kernel_rfl,fun _=>by kernel_rfl,fun _=>by kernel_rfl⟩
theorem EX:jT Tryz.prog 98 af.rep:=⟨fun _=>by kernel_rfl,fun _=>by kernel_rfl,fun _=>by kernel_rfl⟩
theorem pl98:jV Tryz.prog 98 (fun i=>[(0,1),(1,1),(2,1)][i]?):=jV.of (by kernel_rfl)
theorem KW:Tryz.prog.underlying 86=some (.map 9 98):=by kernel_rfl
theorem ug:cO Tryz.prog 90 0 0:=cO.of (by kernel_rfl)
theorem vI:Tryz.prog.underlying 35=some (.slice 3):=by kernel_rfl
theorem YX:zY Tryz.prog 98 0=some (3,0):=by kernel_rfl
theorem YR:zY Tryz.prog 98 2=some (3,2):=by kernel_rfl
theorem He:cO Tryz.prog 90 1 4:=cO.of (by kernel_rfl)
theorem Vh:cO Tryz.prog 98 0 0:=cO.of (by kernel_rfl)
theorem xq:jT Tryz.prog 30 Rep.jr:=⟨fun _=>by kernel_rfl,fun _=>by kernel_rfl,fun _=>by kernel_rfl⟩
theorem Jz:cO Tryz.prog 71 1 1:=cO.of (by kernel_rfl)
theorem U7:cO Tryz.prog 90 3 6:=cO.of (by kernel_rfl)
theorem Yh:jT Tryz.prog 87 Rep.CP:=⟨fun _=>by kernel_rfl,fun _=>by kernel_rfl,fun _=>by kernel_rfl⟩
theorem RZ:jT Tryz.prog 128 aj.rep:=⟨fun _=>by kernel_rfl,fun _=>by kernel_rfl,fun _=>by kernel_rfl⟩
theorem un87:Tryz.prog.underlying 87=some (.map 9 128):=by kernel_rfl
theorem XA:cO Tryz.prog 128 0 0:=cO.of (by kernel_rfl)
theorem Sl:cO Tryz.prog 128 1 1:=cO.of (by kernel_rfl)
theorem Sm:cO Tryz.prog 128 2 2:=cO.of (by kernel_rfl)
theorem MV:jT Tryz.prog 47 GEvent.rep:=⟨fun _=>by kernel_rfl,fun _=>by kernel_rfl,fun _=>by kernel_rfl⟩
theorem Xm:jV Tryz.prog 47 (fun i=>[(0,1),(1,1),(2,1),(3,1),(4,1),(5,1),(6,1),(7,1)][i]?):=jV.of (by kernel_rfl)
theorem yG:jT Tryz.prog 104 aY.rep:=⟨fun _=>by kernel_rfl,fun _=>by kernel_rfl,fun _=>by kernel_rfl⟩
theorem Dz:jV Tryz.prog 104 (fun i=>[(0,1),(1,1),(2,1),(3,1)][i]?):=jV.of (by kernel_rfl)
theorem Xh:Tryz.prog.underlying 99=some (.slice 104):=by kernel_rfl
theorem UM:Tryz.prog.underlying 30=some (.pointer (Tryz.prog.pointee 30)):=by kernel_rfl
theorem Jr:cO Tryz.prog 47 1 1:=cO.of (by kernel_rfl)
theorem MW:cO Tryz.prog 47 0 0:=cO.of (by kernel_rfl)
theorem RN:cO Tryz.prog 104 2 2:=cO.of (by kernel_rfl)
theorem Ye:jT Tryz.prog 35 (Rep.D9 iV):=⟨fun _=>by kernel_rfl,fun _=>by kernel_rfl,fun _=>by kernel_rfl⟩
theorem xW:cO Tryz.prog 47 2 2:=cO.of (by kernel_rfl)
theorem Xi:cO Tryz.prog 104 3 3:=cO.of (by kernel_rfl)
theorem ty102:jT Tryz.prog 102 Rep.Nb:=⟨fun _=>by kernel_rfl,fun _=>by kernel_rfl,fun _=>by kernel_rfl⟩
theorem gW:jT Tryz.prog 109 ai.rep:=⟨fun _=>by kernel_rfl,fun _=>by kernel_rfl,fun _=>by kernel_rfl⟩
theorem Dy:jV Tryz.prog 109 (fun i=>[(0,1),(1,1)][i]?):=jV.of (by kernel_rfl)
theorem zN:cO Tryz.prog 47 4 4:=cO.of (by kernel_rfl)
theorem YV:cO Tryz.prog 98 1 1:=cO.of (by kernel_rfl)
theorem YK:zY Tryz.prog 98 1=some (9,1):=by kernel_rfl
theorem zh:jT Tryz.prog 137 bT.rep:=⟨fun _=>by kernel_rfl,fun _=>by kernel_rfl,fun _=>by kernel_rfl⟩
theorem OL:jV Tryz.prog 137 (fun i=>[(0,1),(1,1)][i]?):=jV.of (by kernel_rfl)
theorem OM:Tryz.prog.underlying 134=some (.slice 137):=by kernel_rfl
theorem Hr:cO Tryz.prog 90 4 7:=cO.of (by kernel_rfl)
theorem LP:jT Tryz.prog 88 Rep.CP:=⟨fun _=>by kernel_rfl,fun _=>by kernel_rfl,fun _=>by kernel_rfl⟩
theorem Tt:Tryz.prog.underlying 88=some (.map 9 9):=by kernel_rfl
theorem el137:y8 Tryz.prog 137 bT.rep:=by unfold y8;kernel_rfl
theorem MZ:cO Tryz.prog 137 1 1:=cO.of (by kernel_rfl)
theorem RS:cO Tryz.prog 137 0 0:=cO.of (by kernel_rfl)
theorem Xk:jT Tryz.prog 31 iV:=⟨fun _=>by kernel_rfl,fun _=>by kernel_rfl,fun _=>by kernel_rfl⟩
theorem JA:cO Tryz.prog 47 3 3:=cO.of (by kernel_rfl)
theorem Qu:cO Tryz.prog 47 5 5:=cO.of (by kernel_rfl)
theorem Qv:cO Tryz.prog 47 6 6:=cO.of (by kernel_rfl)
theorem pl128:jV Tryz.prog 128 (fun i=>[(0,1),(1,1),(2,1)][i]?):=jV.of (by kernel_rfl)
theorem Qy:cO Tryz.prog 47 7 7:=cO.of (by kernel_rfl)
theorem U8:cO Tryz.prog 98 2 2:=cO.of (by kernel_rfl)
theorem RP:cO Tryz.prog 109 1 1:=cO.of (by kernel_rfl)
theorem Xl:cO Tryz.prog 109 0 0:=cO.of (by kernel_rfl)
theorem UW:cO Tryz.prog 90 5 8:=cO.of (by kernel_rfl)
theorem ty27:jT Tryz.prog 27 (Rep.slice GEvent.rep):=⟨fun _=>by kernel_rfl,fun _=>by kernel_rfl,fun _=>by kernel_rfl⟩
theorem el47:y8 Tryz.prog 47 GEvent.rep:=by unfold y8;kernel_rfl
theorem el3:y8 Tryz.prog 3 iV:=by unfold y8;kernel_rfl
theorem FN:jT Tryz.prog 35 (Rep.slice iV):=⟨fun _=>by kernel_rfl,fun _=>by kernel_rfl,fun _=>by kernel_rfl⟩
theorem Fb:Tryz.prog.underlying 113=some (.slice 35):=by kernel_rfl
theorem el35:y8 Tryz.prog 35 (Rep.slice iV):=by unfold y8;kernel_rfl
theorem Tn:Tryz.prog.underlying 61=some (.slice 36):=by kernel_rfl
theorem el36:y8 Tryz.prog 36 (Rep.slice Rep.str):=by unfold y8;kernel_rfl
theorem un3:Tryz.prog.underlying 3=some (.int .i64):=by kernel_rfl
theorem un4:Tryz.prog.underlying 4=some (.bool):=by kernel_rfl
end Go.KB
