/- What the translation says of its types. Printed by a program. No condition. -/
import Derived.Test.YtalkbgomndhkmaaGreatGTypes
import Derived.Test.YtalkbgomndhkmaaGreatProg
namespace Go.KB
open Go.Proofs
theorem nP:jW Tryz.prog 26 GPermitPlan.rep:=⟨fun _=>by kernel_rfl,fun _=>by kernel_rfl,fun _=>by kernel_rfl⟩
theorem pF:dh Tryz.prog 26 0 0:=dh.of (by kernel_rfl)
theorem xJ:jW Tryz.prog 22 (Rep.slice dm.rep):=⟨fun _=>by kernel_rfl,fun _=>by kernel_rfl,fun _=>by kernel_rfl⟩
theorem vC:Tryz.prog.underlying 22=some (.slice 71):=by kernel_rfl
theorem Be:dh Tryz.prog 26 1 1:=dh.of (by kernel_rfl)
theorem KU:jW Tryz.prog 23 (Rep.slice bK.rep):=⟨fun _=>by kernel_rfl,fun _=>by kernel_rfl,fun _=>by kernel_rfl⟩
theorem Fe:Tryz.prog.underlying 23=some (.slice 80):=by kernel_rfl
theorem nS:dh Tryz.prog 26 2 2:=dh.of (by kernel_rfl)
theorem wU:jW Tryz.prog 24 (Rep.slice aG.rep):=⟨fun _=>by kernel_rfl,fun _=>by kernel_rfl,fun _=>by kernel_rfl⟩
theorem qC:Tryz.prog.underlying 24=some (.slice 68):=by kernel_rfl
theorem pX:jW Tryz.prog 71 dm.rep:=⟨fun _=>by kernel_rfl,fun _=>by kernel_rfl,fun _=>by kernel_rfl⟩
theorem zU:dh Tryz.prog 71 2 2:=dh.of (by kernel_rfl)
theorem yG:jW Tryz.prog 36 (Rep.slice Rep.str):=⟨fun _=>by kernel_rfl,fun _=>by kernel_rfl,fun _=>by kernel_rfl⟩
theorem kZ:Tryz.prog.underlying 36=some (.slice 9):=by kernel_rfl
theorem vI:dh Tryz.prog 71 0 0:=dh.of (by kernel_rfl)
theorem lG:jW Tryz.prog 9 Rep.str:=⟨fun _=>by kernel_rfl,fun _=>by kernel_rfl,fun _=>by kernel_rfl⟩
theorem SE:Tryz.prog.underlying 9=some (.string):=by kernel_rfl
theorem iZ:jW Tryz.prog 68 aG.rep:=⟨fun _=>by kernel_rfl,fun _=>by kernel_rfl,fun _=>by kernel_rfl⟩
theorem zJ:dh Tryz.prog 68 5 5:=dh.of (by kernel_rfl)
theorem nR:dh Tryz.prog 68 0 0:=dh.of (by kernel_rfl)
theorem Jz:dh Tryz.prog 26 3 3:=dh.of (by kernel_rfl)
theorem qA:jW Tryz.prog 3 r_i64:=⟨fun _=>by kernel_rfl,fun _=>by kernel_rfl,fun _=>by kernel_rfl⟩
theorem DU:jW Tryz.prog 80 bK.rep:=⟨fun _=>by kernel_rfl,fun _=>by kernel_rfl,fun _=>by kernel_rfl⟩
theorem MP:dh Tryz.prog 80 0 0:=dh.of (by kernel_rfl)
theorem MQ:dh Tryz.prog 80 1 1:=dh.of (by kernel_rfl)
theorem JA:dh Tryz.prog 80 2 2:=dh.of (by kernel_rfl)
theorem tV:dh Tryz.prog 68 1 1:=dh.of (by kernel_rfl)
theorem Jy:dh Tryz.prog 68 3 3:=dh.of (by kernel_rfl)
theorem Jv:dh Tryz.prog 68 4 4:=dh.of (by kernel_rfl)
theorem x9:dh Tryz.prog 68 2 2:=dh.of (by kernel_rfl)
theorem DX:Tryz.prog.underlying 27=some (.slice 47):=by kernel_rfl
theorem pl71:kG Tryz.prog 71 (fun i=>[(0,1),(1,1),(2,1)][i]?):=kG.of (by kernel_rfl)
theorem Ti:kG Tryz.prog 80 (fun i=>[(0,1),(1,1),(2,1)][i]?):=kG.of (by kernel_rfl)
theorem Yt:kG Tryz.prog 68 (fun i=>[(0,1),(1,1),(2,1),(3,1),(4,1),(5,1)][i]?):=kG.of (by kernel_rfl)
theorem pl26:kG Tryz.prog 26 (fun i=>[(0,1),(1,1),(2,1),(3,1)][i]?):=kG.of (by kernel_rfl)
theorem IX:yP Tryz.prog 9 Rep.str bF:=yP.str SE
theorem Xy:jW Tryz.prog 4 Rep.bool:=⟨fun _=>by kernel_rfl,fun _=>by kernel_rfl,fun _=>by kernel_rfl⟩
theorem OA:Tryz.prog.underlying 172=some (.map 9 4):=by kernel_rfl
def Gl:Rep (GPermitPlan×Value×Value):=Rep.wM (Rep.prod Rep.raw (Rep.prod (Rep.slice bK.rep) (Rep.prod Rep.raw (Rep.prod r_i64 Rep.unit)))) (fun s=>(s.2.1,(s.1.dn,(s.2.2,(s.1.dN,()))))) (fun t=>(⟨[],t.2.1,[],t.2.2.2.1⟩,t.1,t.2.2.1)) (fun _=>rfl)
theorem IY:Lens Gl Rep.raw 0 (fun y=>y.2.1) (fun y z=>(y.1,(fun p z=>((z,p.2):Value×Value)) y.2 z)):=(Lens.wM _ _ _ _).comp (Lens.fst _ _)
theorem WT:Lens Gl (Rep.slice bK.rep) 1 (fun y=>y.1.dn) (fun y z=>((fun x z=>({ x with dn:=z }:GPermitPlan)) y.1 z,y.2)):=(Lens.wM _ _ _ _).comp ((Lens.snd _ _).comp (Lens.fst _ _))
theorem IZ:Lens Gl Rep.raw 2 (fun y=>y.2.2) (fun y z=>(y.1,(fun p z=>((p.1,z):Value×Value)) y.2 z)):=(Lens.wM _ _ _ _).comp ((Lens.snd _ _).comp ((Lens.snd _ _).comp (Lens.fst _ _)))
theorem hh26_l3:Lens Gl r_i64 3 (fun y=>y.1.dN) (fun y z=>((fun x z=>({ x with dN:=z }:GPermitPlan)) y.1 z,y.2)):=(Lens.wM _ _ _ _).comp ((Lens.snd _ _).comp ((Lens.snd _ _).comp ((Lens.snd _ _).comp (Lens.fst _ _))))
theorem WS {h:H} {cs:List Value} {x:GPermitPlan} (hr:GPermitPlan.rep.rel h cs x):∃ p,Gl.rel h cs (x,p):=by
  obtain ⟨c0,d0,rfl,k0,c1,d1,rfl,k1,c2,d2,rfl,k2,c3,d3,rfl,k3,kk⟩:=hr
  have f0:=(Rep.slice dm.rep).flat k0
  obtain ⟨v0,rfl,_⟩:=k0
  have f2:=(Rep.slice aG.rep).flat k2
  obtain ⟨v2,rfl,_⟩:=k2
  exact ⟨(v0,v2),_,_,rfl,⟨rfl,f0 v0 (by simp)⟩,_,_,rfl,k1,_,_,rfl,⟨rfl,f2 v2 (by simp)⟩,_,_,rfl,k3,kk⟩
theorem UW {x:GPermitPlan} {v0 v2:Value} {y0:(List dm)} {y2:(List aG)} (h:H) (cs:List Value) (hr:Gl.rel h cs (x,v0,v2)) (s0:(Rep.slice dm.rep).rel h [v0] y0) (s2:(Rep.slice aG.rep).rel h [v2] y2):GPermitPlan.rep.rel h cs ({ x with bP:=y0,aB:=y2 }:GPermitPlan):=by
  obtain ⟨c0,d0,rfl,⟨rfl,_⟩,c1,d1,rfl,k1,c2,d2,rfl,⟨rfl,_⟩,c3,d3,rfl,k3,kk⟩:=hr
  exact ⟨_,_,rfl,s0,_,_,rfl,k1,_,_,rfl,s2,_,_,rfl,k3,kk⟩
theorem el71:Df Tryz.prog 71 dm.rep:=by unfold Df;kernel_rfl
theorem el80:Df Tryz.prog 80 bK.rep:=by unfold Df;kernel_rfl
theorem el68:Df Tryz.prog 68 aG.rep:=by unfold Df;kernel_rfl
theorem UC:Df Tryz.prog 9 Rep.str:=by unfold Df;kernel_rfl
theorem WN:jW Tryz.prog 90 af.rep:=⟨fun _=>by kernel_rfl,fun _=>by kernel_rfl,fun _=>by kernel_rfl⟩
theorem pl90:kG Tryz.prog 90 (fun i=>[(0,4),(4,1),(5,1),(6,1),(7,1),(8,1)][i]?):=kG.of (by kernel_rfl)
theorem xY:dh Tryz.prog 90 2 5:=dh.of (by kernel_rfl)
theorem BG:jW Tryz.prog 86 Rep.BJ:=⟨fun _=>by kernel_rfl,fun _=>by kernel_rfl,fun _=>by kernel_rfl⟩
theorem D5:jW Tryz.prog 98 ah.rep:=⟨fun _=>by kernel_rfl,fun _=>by kernel_rfl,fun _=>by kernel_rfl⟩
theorem pl98:kG Tryz.prog 98 (fun i=>[(0,1),(1,1),(2,1)][i]?):=kG.of (by kernel_rfl)
theorem Jp:Tryz.prog.underlying 86=some (.map 9 98):=by kernel_rfl
theorem su:dh Tryz.prog 90 0 0:=dh.of (by kernel_rfl)
theorem CO:Tryz.prog.underlying 35=some (.slice 3):=by kernel_rfl
theorem UB:zX Tryz.prog 98 0=some (3,0):=by kernel_rfl
theorem Yk:zX Tryz.prog 98 2=some (3,2):=by kernel_rfl
theorem Fg:dh Tryz.prog 90 1 4:=dh.of (by kernel_rfl)
theorem UN:dh Tryz.prog 98 0 0:=dh.of (by kernel_rfl)
theorem wZ:jW Tryz.prog 30 Rep.jD:=⟨fun _=>by kernel_rfl,fun _=>by kernel_rfl,fun _=>by kernel_rfl⟩
theorem Jt:dh Tryz.prog 71 1 1:=dh.of (by kernel_rfl)
theorem MJ:dh Tryz.prog 90 3 6:=dh.of (by kernel_rfl)
theorem Q9:jW Tryz.prog 87 Rep.BJ:=⟨fun _=>by kernel_rfl,fun _=>by kernel_rfl,fun _=>by kernel_rfl⟩
theorem Rn:jW Tryz.prog 128 ai.rep:=⟨fun _=>by kernel_rfl,fun _=>by kernel_rfl,fun _=>by kernel_rfl⟩
theorem un87:Tryz.prog.underlying 87=some (.map 9 128):=by kernel_rfl
theorem WU:dh Tryz.prog 128 0 0:=dh.of (by kernel_rfl)
theorem Ru:dh Tryz.prog 128 1 1:=dh.of (by kernel_rfl)
theorem Rw:dh Tryz.prog 128 2 2:=dh.of (by kernel_rfl)
theorem KP:Tryz.prog.underlying 30=some (.pointer (Tryz.prog.pointee 30)):=by kernel_rfl
theorem CJ:jW Tryz.prog 47 GEvent.rep:=⟨fun _=>by kernel_rfl,fun _=>by kernel_rfl,fun _=>by kernel_rfl⟩
theorem yF:jW Tryz.prog 104 bn.rep:=⟨fun _=>by kernel_rfl,fun _=>by kernel_rfl,fun _=>by kernel_rfl⟩
theorem DJ:kG Tryz.prog 104 (fun i=>[(0,1),(1,1),(2,1),(3,1)][i]?):=kG.of (by kernel_rfl)
theorem WB:Tryz.prog.underlying 99=some (.slice 104):=by kernel_rfl
theorem Jh:dh Tryz.prog 47 1 1:=dh.of (by kernel_rfl)
theorem MG:dh Tryz.prog 47 0 0:=dh.of (by kernel_rfl)
theorem Q7:dh Tryz.prog 104 2 2:=dh.of (by kernel_rfl)
theorem Xw:jW Tryz.prog 35 (Rep.Ec r_i64):=⟨fun _=>by kernel_rfl,fun _=>by kernel_rfl,fun _=>by kernel_rfl⟩
theorem xW:dh Tryz.prog 47 2 2:=dh.of (by kernel_rfl)
theorem WE:dh Tryz.prog 104 3 3:=dh.of (by kernel_rfl)
theorem ty102:jW Tryz.prog 102 Rep.MN:=⟨fun _=>by kernel_rfl,fun _=>by kernel_rfl,fun _=>by kernel_rfl⟩
theorem iq:jW Tryz.prog 109 aj.rep:=⟨fun _=>by kernel_rfl,fun _=>by kernel_rfl,fun _=>by kernel_rfl⟩
theorem DI:kG Tryz.prog 109 (fun i=>[(0,1),(1,1)][i]?):=kG.of (by kernel_rfl)
theorem zN:dh Tryz.prog 47 4 4:=dh.of (by kernel_rfl)
theorem Yo:dh Tryz.prog 98 1 1:=dh.of (by kernel_rfl)
theorem Yc:zX Tryz.prog 98 1=some (9,1):=by kernel_rfl
theorem y5:jW Tryz.prog 137 bW.rep:=⟨fun _=>by kernel_rfl,fun _=>by kernel_rfl,fun _=>by kernel_rfl⟩
theorem Oy:kG Tryz.prog 137 (fun i=>[(0,1),(1,1)][i]?):=kG.of (by kernel_rfl)
theorem Oz:Tryz.prog.underlying 134=some (.slice 137):=by kernel_rfl
theorem DZ:dh Tryz.prog 90 4 7:=dh.of (by kernel_rfl)
theorem Ic:jW Tryz.prog 88 Rep.BJ:=⟨fun _=>by kernel_rfl,fun _=>by kernel_rfl,fun _=>by kernel_rfl⟩
theorem SV:Tryz.prog.underlying 88=some (.map 9 9):=by kernel_rfl
theorem el137:Df Tryz.prog 137 bW.rep:=by unfold Df;kernel_rfl
theorem MK:dh Tryz.prog 137 1 1:=dh.of (by kernel_rfl)
theorem Rh:dh Tryz.prog 137 0 0:=dh.of (by kernel_rfl)
theorem WH:jW Tryz.prog 31 r_i64:=⟨fun _=>by kernel_rfl,fun _=>by kernel_rfl,fun _=>by kernel_rfl⟩
theorem Ju:dh Tryz.prog 47 3 3:=dh.of (by kernel_rfl)
theorem Qa:dh Tryz.prog 47 5 5:=dh.of (by kernel_rfl)
theorem Qb:dh Tryz.prog 47 6 6:=dh.of (by kernel_rfl)
theorem pl128:kG Tryz.prog 128 (fun i=>[(0,1),(1,1),(2,1)][i]?):=kG.of (by kernel_rfl)
theorem Qd:dh Tryz.prog 47 7 7:=dh.of (by kernel_rfl)
theorem UF:dh Tryz.prog 98 2 2:=dh.of (by kernel_rfl)
theorem Q8:dh Tryz.prog 109 1 1:=dh.of (by kernel_rfl)
theorem WI:dh Tryz.prog 109 0 0:=dh.of (by kernel_rfl)
theorem Jj:dh Tryz.prog 90 5 8:=dh.of (by kernel_rfl)
theorem Ux:jW Tryz.prog 27 (Rep.slice GEvent.rep):=⟨fun _=>by kernel_rfl,fun _=>by kernel_rfl,fun _=>by kernel_rfl⟩
theorem el47:Df Tryz.prog 47 GEvent.rep:=by unfold Df;kernel_rfl
theorem pl47:kG Tryz.prog 47 (fun i=>[(0,1),(1,1),(2,1),(3,1),(4,1),(5,1),(6,1),(7,1)][i]?):=kG.of (by kernel_rfl)
theorem un3:Tryz.prog.underlying 3=some (.int .i64):=by kernel_rfl
theorem un4:Tryz.prog.underlying 4=some (.bool):=by kernel_rfl
end Go.KB
