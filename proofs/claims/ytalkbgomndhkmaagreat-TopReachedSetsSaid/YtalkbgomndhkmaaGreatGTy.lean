/- What the translation says of its types. Printed by a program. No condition. -/
import Derived.Test.YtalkbgomndhkmaaGreatGTypes
import Derived.Test.YtalkbgomndhkmaaGreatProg
namespace Go.KB
open Go.Proofs
theorem nO:jJ Tryz.prog 26 GPermitPlan.rep:=⟨fun _=>by kernel_rfl,fun _=>by kernel_rfl,fun _=>by kernel_rfl⟩
theorem pG:bZ Tryz.prog 26 0 0:=bZ.of (by kernel_rfl)
theorem xP:jJ Tryz.prog 22 (Rep.slice dh.rep):=⟨fun _=>by kernel_rfl,fun _=>by kernel_rfl,fun _=>by kernel_rfl⟩
theorem vJ:Tryz.prog.underlying 22=some (.slice 71):=by kernel_rfl
theorem BR:bZ Tryz.prog 26 1 1:=bZ.of (by kernel_rfl)
theorem MI:jJ Tryz.prog 23 (Rep.slice bJ.rep):=⟨fun _=>by kernel_rfl,fun _=>by kernel_rfl,fun _=>by kernel_rfl⟩
theorem F5:Tryz.prog.underlying 23=some (.slice 80):=by kernel_rfl
theorem jR:bZ Tryz.prog 26 2 2:=bZ.of (by kernel_rfl)
theorem rE:jJ Tryz.prog 24 (Rep.slice aA.rep):=⟨fun _=>by kernel_rfl,fun _=>by kernel_rfl,fun _=>by kernel_rfl⟩
theorem mX:Tryz.prog.underlying 24=some (.slice 68):=by kernel_rfl
theorem ql:jJ Tryz.prog 71 dh.rep:=⟨fun _=>by kernel_rfl,fun _=>by kernel_rfl,fun _=>by kernel_rfl⟩
theorem Az:bZ Tryz.prog 71 2 2:=bZ.of (by kernel_rfl)
theorem xR:jJ Tryz.prog 36 (Rep.slice Rep.str):=⟨fun _=>by kernel_rfl,fun _=>by kernel_rfl,fun _=>by kernel_rfl⟩
theorem kQ:Tryz.prog.underlying 36=some (.slice 9):=by kernel_rfl
theorem vK:bZ Tryz.prog 71 0 0:=bZ.of (by kernel_rfl)
theorem lq:jJ Tryz.prog 9 Rep.str:=⟨fun _=>by kernel_rfl,fun _=>by kernel_rfl,fun _=>by kernel_rfl⟩
theorem Ux:Tryz.prog.underlying 9=some (.string):=by kernel_rfl
theorem iJ:jJ Tryz.prog 68 aA.rep:=⟨fun _=>by kernel_rfl,fun _=>by kernel_rfl,fun _=>by kernel_rfl⟩
theorem Aw:bZ Tryz.prog 68 5 5:=bZ.of (by kernel_rfl)
theorem mO:bZ Tryz.prog 68 0 0:=bZ.of (by kernel_rfl)
theorem KD:bZ Tryz.prog 26 3 3:=bZ.of (by kernel_rfl)
theorem qi:jJ Tryz.prog 3 r_i64:=⟨fun _=>by kernel_rfl,fun _=>by kernel_rfl,fun _=>by kernel_rfl⟩
theorem Eo:jJ Tryz.prog 80 bJ.rep:=⟨fun _=>by kernel_rfl,fun _=>by kernel_rfl,fun _=>by kernel_rfl⟩
theorem Oh:bZ Tryz.prog 80 0 0:=bZ.of (by kernel_rfl)
theorem Oi:bZ Tryz.prog 80 1 1:=bZ.of (by kernel_rfl)
theorem KF:bZ Tryz.prog 80 2 2:=bZ.of (by kernel_rfl)
theorem tC:bZ Tryz.prog 68 1 1:=bZ.of (by kernel_rfl)
theorem Io:bZ Tryz.prog 68 3 3:=bZ.of (by kernel_rfl)
theorem Ip:bZ Tryz.prog 68 4 4:=bZ.of (by kernel_rfl)
theorem yJ:bZ Tryz.prog 68 2 2:=bZ.of (by kernel_rfl)
theorem pl71:kG Tryz.prog 71 (fun i=>[(0,1),(1,1),(2,1)][i]?):=kG.of (by kernel_rfl)
theorem UJ:kG Tryz.prog 80 (fun i=>[(0,1),(1,1),(2,1)][i]?):=kG.of (by kernel_rfl)
theorem pl68:kG Tryz.prog 68 (fun i=>[(0,1),(1,1),(2,1),(3,1),(4,1),(5,1)][i]?):=kG.of (by kernel_rfl)
theorem pl26:kG Tryz.prog 26 (fun i=>[(0,1),(1,1),(2,1),(3,1)][i]?):=kG.of (by kernel_rfl)
theorem JQ:zl Tryz.prog 9 Rep.str dV:=zl.str Ux
theorem Zg:jJ Tryz.prog 4 Rep.bool:=⟨fun _=>by kernel_rfl,fun _=>by kernel_rfl,fun _=>by kernel_rfl⟩
theorem P6:Tryz.prog.underlying 172=some (.map 9 4):=by kernel_rfl
theorem Yo:zF Tryz.prog 68 aA.rep:=by unfold zF;kernel_rfl
theorem wR:Tryz.prog.underlying 35=some (.slice 3):=by kernel_rfl
theorem el3:zF Tryz.prog 3 r_i64:=by unfold zF;kernel_rfl
theorem ty35:jJ Tryz.prog 35 (Rep.slice r_i64):=⟨fun _=>by kernel_rfl,fun _=>by kernel_rfl,fun _=>by kernel_rfl⟩
theorem TQ:Tryz.prog.underlying 113=some (.slice 35):=by kernel_rfl
theorem el35:zF Tryz.prog 35 (Rep.slice r_i64):=by unfold zF;kernel_rfl
theorem UA:zF Tryz.prog 9 Rep.str:=by unfold zF;kernel_rfl
theorem VN:Tryz.prog.underlying 61=some (.slice 36):=by kernel_rfl
theorem el36:zF Tryz.prog 36 (Rep.slice Rep.str):=by unfold zF;kernel_rfl
def G6:Rep (GPermitPlan×Value×Value):=Rep.xq (Rep.prod Rep.raw (Rep.prod (Rep.slice bJ.rep) (Rep.prod Rep.raw (Rep.prod r_i64 Rep.unit)))) (fun s=>(s.2.1,(s.1.cZ,(s.2.2,(s.1.dw,()))))) (fun t=>(⟨[],t.2.1,[],t.2.2.2.1⟩,t.1,t.2.2.1)) (fun _=>rfl)
theorem JR:Lens G6 Rep.raw 0 (fun y=>y.2.1) (fun y z=>(y.1,(fun p z=>((z,p.2):Value×Value)) y.2 z)):=(Lens.xq _ _ _ _).comp (Lens.fst _ _)
theorem YB:Lens G6 (Rep.slice bJ.rep) 1 (fun y=>y.1.cZ) (fun y z=>((fun x z=>({ x with cZ:=z }:GPermitPlan)) y.1 z,y.2)):=(Lens.xq _ _ _ _).comp ((Lens.snd _ _).comp (Lens.fst _ _))
theorem JS:Lens G6 Rep.raw 2 (fun y=>y.2.2) (fun y z=>(y.1,(fun p z=>((p.1,z):Value×Value)) y.2 z)):=(Lens.xq _ _ _ _).comp ((Lens.snd _ _).comp ((Lens.snd _ _).comp (Lens.fst _ _)))
theorem hh26_l3:Lens G6 r_i64 3 (fun y=>y.1.dw) (fun y z=>((fun x z=>({ x with dw:=z }:GPermitPlan)) y.1 z,y.2)):=(Lens.xq _ _ _ _).comp ((Lens.snd _ _).comp ((Lens.snd _ _).comp ((Lens.snd _ _).comp (Lens.fst _ _))))
theorem YA {h:H} {cs:List Value} {x:GPermitPlan} (hr:GPermitPlan.rep.rel h cs x):∃ p,G6.rel h cs (x,p):=by
  obtain ⟨c0,d0,rfl,k0,c1,d1,rfl,k1,c2,d2,rfl,k2,c3,d3,rfl,k3,kk⟩:=hr
  have f0:=(Rep.slice dh.rep).flat k0
  obtain ⟨v0,rfl,_⟩:=k0
  have f2:=(Rep.slice aA.rep).flat k2
  obtain ⟨v2,rfl,_⟩:=k2
  exact ⟨(v0,v2),_,_,rfl,⟨rfl,f0 v0 (by simp)⟩,_,_,rfl,k1,_,_,rfl,⟨rfl,f2 v2 (by simp)⟩,_,_,rfl,k3,kk⟩
theorem Wu {x:GPermitPlan} {v0 v2:Value} {y0:(List dh)} {y2:(List aA)} (h:H) (cs:List Value) (hr:G6.rel h cs (x,v0,v2)) (s0:(Rep.slice dh.rep).rel h [v0] y0) (s2:(Rep.slice aA.rep).rel h [v2] y2):GPermitPlan.rep.rel h cs ({ x with bF:=y0,ai:=y2 }:GPermitPlan):=by
  obtain ⟨c0,d0,rfl,⟨rfl,_⟩,c1,d1,rfl,k1,c2,d2,rfl,⟨rfl,_⟩,c3,d3,rfl,k3,kk⟩:=hr
  exact ⟨_,_,rfl,s0,_,_,rfl,k1,_,_,rfl,s2,_,_,rfl,k3,kk⟩
theorem el71:zF Tryz.prog 71 dh.rep:=by unfold zF;kernel_rfl
theorem el80:zF Tryz.prog 80 bJ.rep:=by unfold zF;kernel_rfl
theorem ty90:jJ Tryz.prog 90 ah.rep:=⟨fun _=>by kernel_rfl,fun _=>by kernel_rfl,fun _=>by kernel_rfl⟩
theorem pl90:kG Tryz.prog 90 (fun i=>[(0,4),(4,1),(5,1),(6,1),(7,1),(8,1)][i]?):=kG.of (by kernel_rfl)
theorem Aq:bZ Tryz.prog 90 2 5:=bZ.of (by kernel_rfl)
theorem ED:jJ Tryz.prog 86 Rep.Dv:=⟨fun _=>by kernel_rfl,fun _=>by kernel_rfl,fun _=>by kernel_rfl⟩
theorem Dk:jJ Tryz.prog 98 af.rep:=⟨fun _=>by kernel_rfl,fun _=>by kernel_rfl,fun _=>by kernel_rfl⟩
theorem pl98:kG Tryz.prog 98 (fun i=>[(0,1),(1,1),(2,1)][i]?):=kG.of (by kernel_rfl)
theorem Kt:Tryz.prog.underlying 86=some (.map 9 98):=by kernel_rfl
theorem uy:bZ Tryz.prog 90 0 0:=bZ.of (by kernel_rfl)
theorem Z7:AQ Tryz.prog 98 0=some (3,0):=by kernel_rfl
theorem Z9:AQ Tryz.prog 98 2=some (3,2):=by kernel_rfl
theorem Iw:bZ Tryz.prog 90 1 4:=bZ.of (by kernel_rfl)
theorem Rw:bZ Tryz.prog 98 0 0:=bZ.of (by kernel_rfl)
theorem xJ:jJ Tryz.prog 30 Rep.jB:=⟨fun _=>by kernel_rfl,fun _=>by kernel_rfl,fun _=>by kernel_rfl⟩
theorem Kr:bZ Tryz.prog 71 1 1:=bZ.of (by kernel_rfl)
theorem Wl:bZ Tryz.prog 90 3 6:=bZ.of (by kernel_rfl)
theorem Zi:jJ Tryz.prog 87 Rep.Dv:=⟨fun _=>by kernel_rfl,fun _=>by kernel_rfl,fun _=>by kernel_rfl⟩
theorem TK:jJ Tryz.prog 128 aj.rep:=⟨fun _=>by kernel_rfl,fun _=>by kernel_rfl,fun _=>by kernel_rfl⟩
theorem un87:Tryz.prog.underlying 87=some (.map 9 128):=by kernel_rfl
theorem YG:bZ Tryz.prog 128 0 0:=bZ.of (by kernel_rfl)
theorem TM:bZ Tryz.prog 128 1 1:=bZ.of (by kernel_rfl)
theorem TN:bZ Tryz.prog 128 2 2:=bZ.of (by kernel_rfl)
theorem VP:Tryz.prog.underlying 30=some (.pointer (Tryz.prog.pointee 30)):=by kernel_rfl
theorem Pz:jJ Tryz.prog 47 aU.rep:=⟨fun _=>by kernel_rfl,fun _=>by kernel_rfl,fun _=>by kernel_rfl⟩
theorem VS:kG Tryz.prog 47 (fun i=>[(0,1),(1,1),(2,1),(3,1),(4,1),(5,1),(6,1),(7,1)][i]?):=kG.of (by kernel_rfl)
theorem y7:jJ Tryz.prog 104 bf.rep:=⟨fun _=>by kernel_rfl,fun _=>by kernel_rfl,fun _=>by kernel_rfl⟩
theorem Eb:kG Tryz.prog 104 (fun i=>[(0,1),(1,1),(2,1),(3,1)][i]?):=kG.of (by kernel_rfl)
theorem ZX:Tryz.prog.underlying 99=some (.slice 104):=by kernel_rfl
theorem Ro:bZ Tryz.prog 47 1 1:=bZ.of (by kernel_rfl)
theorem Rq:bZ Tryz.prog 47 0 0:=bZ.of (by kernel_rfl)
theorem Tz:bZ Tryz.prog 104 2 2:=bZ.of (by kernel_rfl)
theorem Zh:jJ Tryz.prog 35 (Rep.EL r_i64):=⟨fun _=>by kernel_rfl,fun _=>by kernel_rfl,fun _=>by kernel_rfl⟩
theorem yK:bZ Tryz.prog 47 2 2:=bZ.of (by kernel_rfl)
theorem Yt:bZ Tryz.prog 104 3 3:=bZ.of (by kernel_rfl)
theorem ty102:jJ Tryz.prog 102 Rep.N8:=⟨fun _=>by kernel_rfl,fun _=>by kernel_rfl,fun _=>by kernel_rfl⟩
theorem ig:jJ Tryz.prog 109 ak.rep:=⟨fun _=>by kernel_rfl,fun _=>by kernel_rfl,fun _=>by kernel_rfl⟩
theorem Ea:kG Tryz.prog 109 (fun i=>[(0,1),(1,1)][i]?):=kG.of (by kernel_rfl)
theorem Aj:bZ Tryz.prog 47 4 4:=bZ.of (by kernel_rfl)
theorem ZY:bZ Tryz.prog 98 1 1:=bZ.of (by kernel_rfl)
theorem Z5:AQ Tryz.prog 98 1=some (9,1):=by kernel_rfl
theorem zI:jJ Tryz.prog 137 bP.rep:=⟨fun _=>by kernel_rfl,fun _=>by kernel_rfl,fun _=>by kernel_rfl⟩
theorem PU:kG Tryz.prog 137 (fun i=>[(0,1),(1,1)][i]?):=kG.of (by kernel_rfl)
theorem PW:Tryz.prog.underlying 134=some (.slice 137):=by kernel_rfl
theorem Ir:bZ Tryz.prog 90 4 7:=bZ.of (by kernel_rfl)
theorem Nc:jJ Tryz.prog 88 Rep.Dv:=⟨fun _=>by kernel_rfl,fun _=>by kernel_rfl,fun _=>by kernel_rfl⟩
theorem UC:Tryz.prog.underlying 88=some (.map 9 9):=by kernel_rfl
theorem el137:zF Tryz.prog 137 bP.rep:=by unfold zF;kernel_rfl
theorem Oa:bZ Tryz.prog 137 1 1:=bZ.of (by kernel_rfl)
theorem TJ:bZ Tryz.prog 137 0 0:=bZ.of (by kernel_rfl)
theorem Yv:jJ Tryz.prog 31 r_i64:=⟨fun _=>by kernel_rfl,fun _=>by kernel_rfl,fun _=>by kernel_rfl⟩
theorem Kq:bZ Tryz.prog 47 3 3:=bZ.of (by kernel_rfl)
theorem Ry:bZ Tryz.prog 47 5 5:=bZ.of (by kernel_rfl)
theorem Rz:bZ Tryz.prog 47 6 6:=bZ.of (by kernel_rfl)
theorem pl128:kG Tryz.prog 128 (fun i=>[(0,1),(1,1),(2,1)][i]?):=kG.of (by kernel_rfl)
theorem Rn:bZ Tryz.prog 47 7 7:=bZ.of (by kernel_rfl)
theorem VW:bZ Tryz.prog 98 2 2:=bZ.of (by kernel_rfl)
theorem TA:bZ Tryz.prog 109 1 1:=bZ.of (by kernel_rfl)
theorem Yw:bZ Tryz.prog 109 0 0:=bZ.of (by kernel_rfl)
theorem V7:bZ Tryz.prog 90 5 8:=bZ.of (by kernel_rfl)
theorem ty27:jJ Tryz.prog 27 (Rep.slice aU.rep):=⟨fun _=>by kernel_rfl,fun _=>by kernel_rfl,fun _=>by kernel_rfl⟩
theorem un27:Tryz.prog.underlying 27=some (.slice 47):=by kernel_rfl
theorem el47:zF Tryz.prog 47 aU.rep:=by unfold zF;kernel_rfl
theorem un4:Tryz.prog.underlying 4=some (.bool):=by kernel_rfl
theorem un3:Tryz.prog.underlying 3=some (.int .i64):=by kernel_rfl
end Go.KB
