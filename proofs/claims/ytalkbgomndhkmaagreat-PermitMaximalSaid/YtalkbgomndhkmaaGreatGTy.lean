/- What the translation says of its types. Printed by a program. No condition. -/
import Derived.Test.YtalkbgomndhkmaaGreatGTypes
import Derived.Test.YtalkbgomndhkmaaGreatProg
namespace Go.KB
open Go.Proofs
theorem lH:jk Tryz.prog 26 GPermitPlan.rep:=⟨fun _=>by kernel_rfl,fun _=>by kernel_rfl,fun _=>by kernel_rfl⟩
theorem nX:cu Tryz.prog 26 0 0:=cu.of (by kernel_rfl)
theorem xh:jk Tryz.prog 22 (Rep.slice bW.rep):=⟨fun _=>by kernel_rfl,fun _=>by kernel_rfl,fun _=>by kernel_rfl⟩
theorem uT:Tryz.prog.underlying 22=some (.slice 71):=by kernel_rfl
theorem AB:cu Tryz.prog 26 1 1:=cu.of (by kernel_rfl)
theorem Js:jk Tryz.prog 23 (Rep.slice bG.rep):=⟨fun _=>by kernel_rfl,fun _=>by kernel_rfl,fun _=>by kernel_rfl⟩
theorem Ee:Tryz.prog.underlying 23=some (.slice 80):=by kernel_rfl
theorem jG:cu Tryz.prog 26 2 2:=cu.of (by kernel_rfl)
theorem sK:jk Tryz.prog 24 (Rep.slice aC.rep):=⟨fun _=>by kernel_rfl,fun _=>by kernel_rfl,fun _=>by kernel_rfl⟩
theorem mr:Tryz.prog.underlying 24=some (.slice 68):=by kernel_rfl
theorem nC:jk Tryz.prog 71 bW.rep:=⟨fun _=>by kernel_rfl,fun _=>by kernel_rfl,fun _=>by kernel_rfl⟩
theorem zF:cu Tryz.prog 71 2 2:=cu.of (by kernel_rfl)
theorem uo:jk Tryz.prog 36 (Rep.slice Rep.str):=⟨fun _=>by kernel_rfl,fun _=>by kernel_rfl,fun _=>by kernel_rfl⟩
theorem jb:Tryz.prog.underlying 36=some (.slice 9):=by kernel_rfl
theorem uX:cu Tryz.prog 71 0 0:=cu.of (by kernel_rfl)
theorem jA:jk Tryz.prog 9 Rep.str:=⟨fun _=>by kernel_rfl,fun _=>by kernel_rfl,fun _=>by kernel_rfl⟩
theorem Qg:Tryz.prog.underlying 9=some (.string):=by kernel_rfl
theorem gZ:jk Tryz.prog 68 aC.rep:=⟨fun _=>by kernel_rfl,fun _=>by kernel_rfl,fun _=>by kernel_rfl⟩
theorem wM:cu Tryz.prog 68 5 5:=cu.of (by kernel_rfl)
theorem lU:cu Tryz.prog 68 0 0:=cu.of (by kernel_rfl)
theorem Ik:cu Tryz.prog 26 3 3:=cu.of (by kernel_rfl)
theorem nU:jk Tryz.prog 3 gX:=⟨fun _=>by kernel_rfl,fun _=>by kernel_rfl,fun _=>by kernel_rfl⟩
theorem Df:jk Tryz.prog 80 bG.rep:=⟨fun _=>by kernel_rfl,fun _=>by kernel_rfl,fun _=>by kernel_rfl⟩
theorem Kz:cu Tryz.prog 80 0 0:=cu.of (by kernel_rfl)
theorem KA:cu Tryz.prog 80 1 1:=cu.of (by kernel_rfl)
theorem Ii:cu Tryz.prog 80 2 2:=cu.of (by kernel_rfl)
theorem sV:cu Tryz.prog 68 1 1:=cu.of (by kernel_rfl)
theorem Ij:cu Tryz.prog 68 3 3:=cu.of (by kernel_rfl)
theorem Ig:cu Tryz.prog 68 4 4:=cu.of (by kernel_rfl)
theorem xI:cu Tryz.prog 68 2 2:=cu.of (by kernel_rfl)
theorem UN:jo Tryz.prog 71 (fun i=>[(0,1),(1,1),(2,1)][i]?):=jo.of (by kernel_rfl)
theorem Qr:jo Tryz.prog 80 (fun i=>[(0,1),(1,1),(2,1)][i]?):=jo.of (by kernel_rfl)
theorem Sj:jo Tryz.prog 68 (fun i=>[(0,1),(1,1),(2,1),(3,1),(4,1),(5,1)][i]?):=jo.of (by kernel_rfl)
theorem pl26:jo Tryz.prog 26 (fun i=>[(0,1),(1,1),(2,1),(3,1)][i]?):=jo.of (by kernel_rfl)
theorem H7:yF Tryz.prog 9 Rep.str dQ:=yF.str Qg
theorem Vk:jk Tryz.prog 4 Rep.bool:=⟨fun _=>by kernel_rfl,fun _=>by kernel_rfl,fun _=>by kernel_rfl⟩
theorem MK:Tryz.prog.underlying 172=some (.map 9 4):=by kernel_rfl
def EY:Rep (GPermitPlan×Value×Value):=Rep.vY (Rep.prod Rep.raw (Rep.prod (Rep.slice bG.rep) (Rep.prod Rep.raw (Rep.prod gX Rep.unit)))) (fun s=>(s.2.1,(s.1.cZ,(s.2.2,(s.1.dU,()))))) (fun t=>(⟨[],t.2.1,[],t.2.2.2.1⟩,t.1,t.2.2.1)) (fun _=>rfl)
theorem Hg:Lens EY Rep.raw 0 (fun y=>y.2.1) (fun y z=>(y.1,(fun p z=>((z,p.2):Value×Value)) y.2 z)):=(Lens.vY _ _ _ _).comp (Lens.fst _ _)
theorem UJ:Lens EY (Rep.slice bG.rep) 1 (fun y=>y.1.cZ) (fun y z=>((fun x z=>({ x with cZ:=z }:GPermitPlan)) y.1 z,y.2)):=(Lens.vY _ _ _ _).comp ((Lens.snd _ _).comp (Lens.fst _ _))
theorem Hl:Lens EY Rep.raw 2 (fun y=>y.2.2) (fun y z=>(y.1,(fun p z=>((p.1,z):Value×Value)) y.2 z)):=(Lens.vY _ _ _ _).comp ((Lens.snd _ _).comp ((Lens.snd _ _).comp (Lens.fst _ _)))
theorem hh26_l3:Lens EY gX 3 (fun y=>y.1.dU) (fun y z=>((fun x z=>({ x with dU:=z }:GPermitPlan)) y.1 z,y.2)):=(Lens.vY _ _ _ _).comp ((Lens.snd _ _).comp ((Lens.snd _ _).comp ((Lens.snd _ _).comp (Lens.fst _ _))))
theorem UI {h:H} {cs:List Value} {x:GPermitPlan} (hr:GPermitPlan.rep.rel h cs x):∃ p,EY.rel h cs (x,p):=by
  obtain ⟨c0,d0,rfl,k0,c1,d1,rfl,k1,c2,d2,rfl,k2,c3,d3,rfl,k3,kk⟩:=hr
  have f0:=(Rep.slice bW.rep).flat k0
  obtain ⟨v0,rfl,_⟩:=k0
  have f2:=(Rep.slice aC.rep).flat k2
  obtain ⟨v2,rfl,_⟩:=k2
  exact ⟨(v0,v2),_,_,rfl,⟨rfl,f0 v0 (by simp)⟩,_,_,rfl,k1,_,_,rfl,⟨rfl,f2 v2 (by simp)⟩,_,_,rfl,k3,kk⟩
theorem Si {x:GPermitPlan} {v0 v2:Value} {y0:(List bW)} {y2:(List aC)} (h:H) (cs:List Value) (hr:EY.rel h cs (x,v0,v2)) (s0:(Rep.slice bW.rep).rel h [v0] y0) (s2:(Rep.slice aC.rep).rel h [v2] y2):GPermitPlan.rep.rel h cs ({ x with bU:=y0,ay:=y2 }:GPermitPlan):=by
  obtain ⟨c0,d0,rfl,⟨rfl,_⟩,c1,d1,rfl,k1,c2,d2,rfl,⟨rfl,_⟩,c3,d3,rfl,k3,kk⟩:=hr
  exact ⟨_,_,rfl,s0,_,_,rfl,k1,_,_,rfl,s2,_,_,rfl,k3,kk⟩
theorem el71:yP Tryz.prog 71 bW.rep:=by unfold yP;kernel_rfl
theorem el80:yP Tryz.prog 80 bG.rep:=by unfold yP;kernel_rfl
theorem VX:yP Tryz.prog 68 aC.rep:=by unfold yP;kernel_rfl
theorem Pj:yP Tryz.prog 9 Rep.str:=by unfold yP;kernel_rfl
theorem ty90:jk Tryz.prog 90 af.rep:=⟨fun _=>by kernel_rfl,fun _=>by kernel_rfl,fun _=>by kernel_rfl⟩
theorem pl90:jo Tryz.prog 90 (fun i=>[(0,4),(4,1),(5,1),(6,1),(7,1),(8,1)][i]?):=jo.of (by kernel_rfl)
theorem Az:cu Tryz.prog 90 2 5:=cu.of (by kernel_rfl)
theorem D9:jk Tryz.prog 86 Rep.BP:=⟨fun _=>by kernel_rfl,fun _=>by kernel_rfl,fun _=>by kernel_rfl⟩
theorem D5:jk Tryz.prog 98 ah.rep:=⟨fun _=>by kernel_rfl,fun _=>by kernel_rfl,fun _=>by kernel_rfl⟩
theorem pl98:jo Tryz.prog 98 (fun i=>[(0,1),(1,1),(2,1)][i]?):=jo.of (by kernel_rfl)
theorem Jp:Tryz.prog.underlying 86=some (.map 9 98):=by kernel_rfl
theorem sN:cu Tryz.prog 90 0 0:=cu.of (by kernel_rfl)
theorem uN:Tryz.prog.underlying 35=some (.slice 3):=by kernel_rfl
theorem Wp:zJ Tryz.prog 98 0=some (3,0):=by kernel_rfl
theorem V8:zJ Tryz.prog 98 2=some (3,2):=by kernel_rfl
theorem FM:cu Tryz.prog 90 1 4:=cu.of (by kernel_rfl)
theorem RQ:cu Tryz.prog 98 0 0:=cu.of (by kernel_rfl)
theorem wG:jk Tryz.prog 30 Rep.iU:=⟨fun _=>by kernel_rfl,fun _=>by kernel_rfl,fun _=>by kernel_rfl⟩
theorem Ic:cu Tryz.prog 71 1 1:=cu.of (by kernel_rfl)
theorem Rz:cu Tryz.prog 90 3 6:=cu.of (by kernel_rfl)
theorem Vl:jk Tryz.prog 87 Rep.BP:=⟨fun _=>by kernel_rfl,fun _=>by kernel_rfl,fun _=>by kernel_rfl⟩
theorem PG:jk Tryz.prog 128 ak.rep:=⟨fun _=>by kernel_rfl,fun _=>by kernel_rfl,fun _=>by kernel_rfl⟩
theorem un87:Tryz.prog.underlying 87=some (.map 9 128):=by kernel_rfl
theorem UM:cu Tryz.prog 128 0 0:=cu.of (by kernel_rfl)
theorem PL:cu Tryz.prog 128 1 1:=cu.of (by kernel_rfl)
theorem PN:cu Tryz.prog 128 2 2:=cu.of (by kernel_rfl)
theorem N8:jk Tryz.prog 47 bP.rep:=⟨fun _=>by kernel_rfl,fun _=>by kernel_rfl,fun _=>by kernel_rfl⟩
theorem Uz:jo Tryz.prog 47 (fun i=>[(0,1),(1,1),(2,1),(3,1),(4,1),(5,1),(6,1),(7,1)][i]?):=jo.of (by kernel_rfl)
theorem yg:jk Tryz.prog 104 bg.rep:=⟨fun _=>by kernel_rfl,fun _=>by kernel_rfl,fun _=>by kernel_rfl⟩
theorem CV:jo Tryz.prog 104 (fun i=>[(0,1),(1,1),(2,1),(3,1)][i]?):=jo.of (by kernel_rfl)
theorem Ut:Tryz.prog.underlying 99=some (.slice 104):=by kernel_rfl
theorem un30:Tryz.prog.underlying 30=some (.pointer (Tryz.prog.pointee 30)):=by kernel_rfl
theorem HY:cu Tryz.prog 47 1 1:=cu.of (by kernel_rfl)
theorem Kr:cu Tryz.prog 47 0 0:=cu.of (by kernel_rfl)
theorem Pn:cu Tryz.prog 104 2 2:=cu.of (by kernel_rfl)
theorem Vh:jk Tryz.prog 35 (Rep.Dt gX):=⟨fun _=>by kernel_rfl,fun _=>by kernel_rfl,fun _=>by kernel_rfl⟩
theorem xC:cu Tryz.prog 47 2 2:=cu.of (by kernel_rfl)
theorem Uu:cu Tryz.prog 104 3 3:=cu.of (by kernel_rfl)
theorem ty102:jk Tryz.prog 102 Rep.Ky:=⟨fun _=>by kernel_rfl,fun _=>by kernel_rfl,fun _=>by kernel_rfl⟩
theorem fO:jk Tryz.prog 109 aj.rep:=⟨fun _=>by kernel_rfl,fun _=>by kernel_rfl,fun _=>by kernel_rfl⟩
theorem CU:jo Tryz.prog 109 (fun i=>[(0,1),(1,1)][i]?):=jo.of (by kernel_rfl)
theorem zu:cu Tryz.prog 47 4 4:=cu.of (by kernel_rfl)
theorem Wl:cu Tryz.prog 98 1 1:=cu.of (by kernel_rfl)
theorem VY:zJ Tryz.prog 98 1=some (9,1):=by kernel_rfl
theorem yS:jk Tryz.prog 137 dB.rep:=⟨fun _=>by kernel_rfl,fun _=>by kernel_rfl,fun _=>by kernel_rfl⟩
theorem MI:jo Tryz.prog 137 (fun i=>[(0,1),(1,1)][i]?):=jo.of (by kernel_rfl)
theorem MJ:Tryz.prog.underlying 134=some (.slice 137):=by kernel_rfl
theorem FT:cu Tryz.prog 90 4 7:=cu.of (by kernel_rfl)
theorem JH:jk Tryz.prog 88 Rep.BP:=⟨fun _=>by kernel_rfl,fun _=>by kernel_rfl,fun _=>by kernel_rfl⟩
theorem Qn:Tryz.prog.underlying 88=some (.map 9 9):=by kernel_rfl
theorem el137:yP Tryz.prog 137 dB.rep:=by unfold yP;kernel_rfl
theorem Ku:cu Tryz.prog 137 1 1:=cu.of (by kernel_rfl)
theorem Px:cu Tryz.prog 137 0 0:=cu.of (by kernel_rfl)
theorem Ux:jk Tryz.prog 31 gX:=⟨fun _=>by kernel_rfl,fun _=>by kernel_rfl,fun _=>by kernel_rfl⟩
theorem Ie:cu Tryz.prog 47 3 3:=cu.of (by kernel_rfl)
theorem Ob:cu Tryz.prog 47 5 5:=cu.of (by kernel_rfl)
theorem Oc:cu Tryz.prog 47 6 6:=cu.of (by kernel_rfl)
theorem pl128:jo Tryz.prog 128 (fun i=>[(0,1),(1,1),(2,1)][i]?):=jo.of (by kernel_rfl)
theorem Og:cu Tryz.prog 47 7 7:=cu.of (by kernel_rfl)
theorem RD:cu Tryz.prog 98 2 2:=cu.of (by kernel_rfl)
theorem Pq:cu Tryz.prog 109 1 1:=cu.of (by kernel_rfl)
theorem Uy:cu Tryz.prog 109 0 0:=cu.of (by kernel_rfl)
theorem Ro:cu Tryz.prog 90 5 8:=cu.of (by kernel_rfl)
theorem ty27:jk Tryz.prog 27 (Rep.slice bP.rep):=⟨fun _=>by kernel_rfl,fun _=>by kernel_rfl,fun _=>by kernel_rfl⟩
theorem un27:Tryz.prog.underlying 27=some (.slice 47):=by kernel_rfl
theorem el47:yP Tryz.prog 47 bP.rep:=by unfold yP;kernel_rfl
theorem el3:yP Tryz.prog 3 gX:=by unfold yP;kernel_rfl
theorem Eo:jk Tryz.prog 35 (Rep.slice gX):=⟨fun _=>by kernel_rfl,fun _=>by kernel_rfl,fun _=>by kernel_rfl⟩
theorem D8:Tryz.prog.underlying 113=some (.slice 35):=by kernel_rfl
theorem el35:yP Tryz.prog 35 (Rep.slice gX):=by unfold yP;kernel_rfl
theorem Kq:Tryz.prog.underlying 61=some (.slice 36):=by kernel_rfl
theorem el36:yP Tryz.prog 36 (Rep.slice Rep.str):=by unfold yP;kernel_rfl
theorem un3:Tryz.prog.underlying 3=some (.int .i64):=by kernel_rfl
theorem un4:Tryz.prog.underlying 4=some (.bool):=by kernel_rfl
end Go.KB
