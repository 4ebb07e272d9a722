/- What the translation says of its types. Printed by a program. No condition. -/
import Derived.Test.YtmkofmfndcoflaaGTypes
import Derived.Test.YtmkofmfndcoflaaProg
namespace Go.KB
open Go.Proofs
theorem vZ:fQ Try.prog 82 iZ.rep:=⟨fun _=>by kernel_rfl,fun _=>by kernel_rfl,fun _=>by kernel_rfl⟩
theorem KX:eF Try.prog 82 (fun i=>[(0,1),(1,1),(2,1),(3,1)][i]?):=eF.of (by kernel_rfl)
theorem Dw:Try.prog.underlying 83=some (.slice 82):=by kernel_rfl
theorem fZ:fQ Try.prog 71 eu.rep:=⟨fun _=>by kernel_rfl,fun _=>by kernel_rfl,fun _=>by kernel_rfl⟩
theorem zN:bW Try.prog 82 0 0:=bW.of (by kernel_rfl)
theorem dU:fQ Try.prog 3 aP:=⟨fun _=>by kernel_rfl,fun _=>by kernel_rfl,fun _=>by kernel_rfl⟩
theorem iF:Try.prog.underlying 37=some (.slice 3):=by kernel_rfl
theorem EH:bW Try.prog 82 1 1:=bW.of (by kernel_rfl)
theorem Ip:bW Try.prog 82 2 2:=bW.of (by kernel_rfl)
theorem Iq:bW Try.prog 82 3 3:=bW.of (by kernel_rfl)
theorem yX:fQ Try.prog 4 Rep.bool:=⟨fun _=>by kernel_rfl,fun _=>by kernel_rfl,fun _=>by kernel_rfl⟩
theorem un4:Try.prog.underlying 4=some (.bool):=by kernel_rfl
theorem Ik:eF Try.prog 71 (fun i=>[(0,2),(2,2)][i]?):=eF.of (by kernel_rfl)
theorem iH:fQ Try.prog 69 dO.rep:=⟨fun _=>by kernel_rfl,fun _=>by kernel_rfl,fun _=>by kernel_rfl⟩
theorem Jt:Try.prog.underlying 3=some (.int .i64):=by kernel_rfl
theorem nX:Try.prog.underlying 170=some (.int .u64):=by kernel_rfl
theorem dW:Try.prog.underlying 176=some (.int .u16):=by kernel_rfl
theorem aW:fQ Try.prog 176 aQ:=⟨fun _=>by kernel_rfl,fun _=>by kernel_rfl,fun _=>by kernel_rfl⟩
theorem bY:Try.prog.underlying 67=some (.slice 176):=by kernel_rfl
theorem rq:rW Try.prog 176 aQ:=by unfold rW;kernel_rfl
theorem Io:eF Try.prog 69 (fun i=>[(0,1),(1,1)][i]?):=eF.of (by kernel_rfl)
theorem pU:bW Try.prog 69 1 1:=bW.of (by kernel_rfl)
theorem yY:fQ Try.prog 67 (Rep.slice aQ):=⟨fun _=>by kernel_rfl,fun _=>by kernel_rfl,fun _=>by kernel_rfl⟩
theorem iR:Try.prog.underlying 186=some (.int .u32):=by kernel_rfl
theorem un5:Try.prog.underlying 5=some (.int .u8):=by kernel_rfl
theorem Gl:Try.prog.underlying 9=some (.string):=by kernel_rfl
theorem un2:Try.prog.underlying 2=some (.int .i64):=by kernel_rfl
theorem ng:bW Try.prog 69 0 0:=bW.of (by kernel_rfl)
theorem wC:Try.prog.underlying 135=some (.slice 71):=by kernel_rfl
theorem el71:rW Try.prog 71 eu.rep:=by unfold rW;kernel_rfl
theorem uT:bW Try.prog 71 0 0:=bW.of (by kernel_rfl)
theorem BK:bW Try.prog 71 1 2:=bW.of (by kernel_rfl)
theorem wK:fQ Try.prog 39 GPanel.rep:=⟨fun _=>by kernel_rfl,fun _=>by kernel_rfl,fun _=>by kernel_rfl⟩
theorem pl39:eF Try.prog 39 (fun i=>[(0,1),(1,1),(2,1),(3,1),(4,1)][i]?):=eF.of (by kernel_rfl)
theorem BF:fQ Try.prog 41 GRule.rep:=⟨fun _=>by kernel_rfl,fun _=>by kernel_rfl,fun _=>by kernel_rfl⟩
theorem pl41:eF Try.prog 41 (fun i=>[(0,1),(1,1)][i]?):=eF.of (by kernel_rfl)
theorem EG:bW Try.prog 39 0 0:=bW.of (by kernel_rfl)
theorem ty9:fQ Try.prog 9 Rep.str:=⟨fun _=>by kernel_rfl,fun _=>by kernel_rfl,fun _=>by kernel_rfl⟩
theorem rM:bW Try.prog 39 1 1:=bW.of (by kernel_rfl)
theorem kX:bW Try.prog 39 2 2:=bW.of (by kernel_rfl)
theorem zI:bW Try.prog 39 3 3:=bW.of (by kernel_rfl)
theorem mZ:bW Try.prog 39 4 4:=bW.of (by kernel_rfl)
theorem wW:fQ Try.prog 37 (Rep.slice aP):=⟨fun _=>by kernel_rfl,fun _=>by kernel_rfl,fun _=>by kernel_rfl⟩
theorem zJ:bW Try.prog 41 0 0:=bW.of (by kernel_rfl)
theorem zK:bW Try.prog 41 1 1:=bW.of (by kernel_rfl)
theorem el3:rW Try.prog 3 aP:=by unfold rW;kernel_rfl
theorem el4:rW Try.prog 4 Rep.bool:=by unfold rW;kernel_rfl
theorem Dh:Try.prog.underlying 106=some (.slice 4):=by kernel_rfl
theorem jm:fQ Try.prog 50 aA.rep:=⟨fun _=>by kernel_rfl,fun _=>by kernel_rfl,fun _=>by kernel_rfl⟩
theorem KO:eF Try.prog 50 (fun i=>[(0,1),(1,1),(2,1),(3,1)][i]?):=eF.of (by kernel_rfl)
theorem lI:bW Try.prog 50 0 0:=bW.of (by kernel_rfl)
theorem lJ:bW Try.prog 50 1 1:=bW.of (by kernel_rfl)
theorem sZ:bW Try.prog 50 2 2:=bW.of (by kernel_rfl)
theorem tq:bW Try.prog 50 3 3:=bW.of (by kernel_rfl)
theorem zC:fQ Try.prog 146 (Rep.arr aP 2):=⟨fun _=>by kernel_rfl,fun _=>by kernel_rfl,fun _=>by kernel_rfl⟩
theorem FH:eF Try.prog 146 (fun i=>some (i * 1,1)):=eF.J6 (E:=3) (n:=2) (by kernel_rfl) (fun _=>by kernel_rfl)
theorem ty147:fQ Try.prog 147 (Rep.arr (Rep.arr aP 2) 4):=⟨fun _=>by kernel_rfl,fun _=>by kernel_rfl,fun _=>by kernel_rfl⟩
theorem pl147:eF Try.prog 147 (fun i=>some (i * 2,2)):=eF.J6 (E:=146) (n:=4) (by kernel_rfl) (fun _=>by kernel_rfl)
theorem un147:Try.prog.underlying 147=some (.array 4 146):=by kernel_rfl
theorem J3:Try.prog.underlying 146=some (.array 2 3):=by kernel_rfl
theorem jY:Try.prog.underlying 29=some (.slice 50):=by kernel_rfl
theorem el50:rW Try.prog 50 aA.rep:=by unfold rW;kernel_rfl
def BG:Rep (GPanel×Value):=Rep.uZ (Rep.prod Rep.str (Rep.prod aP (Rep.prod aP (Rep.prod aP (Rep.prod Rep.raw Rep.unit))))) (fun s=>(s.1.Name,(s.1.Rows,(s.1.dX,(s.1.ig,(s.2,())))))) (fun t=>(⟨t.1,t.2.1,t.2.2.1,t.2.2.2.1,[]⟩,t.2.2.2.2.1)) (fun _=>rfl)
theorem hh39_l0:Lens BG Rep.str 0 (fun y=>y.1.Name) (fun y z=>((fun x z=>({ x with Name:=z }:GPanel)) y.1 z,y.2)):=(Lens.uZ _ _ _ _).comp (Lens.fst _ _)
theorem hh39_l1:Lens BG aP 1 (fun y=>y.1.Rows) (fun y z=>((fun x z=>({ x with Rows:=z }:GPanel)) y.1 z,y.2)):=(Lens.uZ _ _ _ _).comp ((Lens.snd _ _).comp (Lens.fst _ _))
theorem hh39_l2:Lens BG aP 2 (fun y=>y.1.dX) (fun y z=>((fun x z=>({ x with dX:=z }:GPanel)) y.1 z,y.2)):=(Lens.uZ _ _ _ _).comp ((Lens.snd _ _).comp ((Lens.snd _ _).comp (Lens.fst _ _)))
theorem hh39_l3:Lens BG aP 3 (fun y=>y.1.ig) (fun y z=>((fun x z=>({ x with ig:=z }:GPanel)) y.1 z,y.2)):=(Lens.uZ _ _ _ _).comp ((Lens.snd _ _).comp ((Lens.snd _ _).comp ((Lens.snd _ _).comp (Lens.fst _ _))))
theorem BH:Lens BG Rep.raw 4 (fun y=>y.2) (fun y z=>(y.1,(fun _ z=>((z):Value)) y.2 z)):=(Lens.uZ _ _ _ _).comp ((Lens.snd _ _).comp ((Lens.snd _ _).comp ((Lens.snd _ _).comp ((Lens.snd _ _).comp (Lens.fst _ _)))))
theorem Jy {h:H} {cs:List Value} {x:GPanel} (hr:GPanel.rep.rel h cs x):∃ p,BG.rel h cs (x,p):=by
  obtain ⟨c0,d0,rfl,k0,c1,d1,rfl,k1,c2,d2,rfl,k2,c3,d3,rfl,k3,c4,d4,rfl,k4,kk⟩:=hr
  have f4:=(Rep.slice aP).flat k4
  obtain ⟨v4,rfl,_⟩:=k4
  exact ⟨(v4),_,_,rfl,k0,_,_,rfl,k1,_,_,rfl,k2,_,_,rfl,k3,_,_,rfl,⟨rfl,f4 v4 (by simp)⟩,kk⟩
theorem H8 {x:GPanel} {v4:Value} {y4:(List Int)} (h:H) (cs:List Value) (hr:BG.rel h cs (x,v4)) (s4:(Rep.slice aP).rel h [v4] y4):GPanel.rep.rel h cs ({ x with Readings:=y4 }:GPanel):=by
  obtain ⟨c0,d0,rfl,k0,c1,d1,rfl,k1,c2,d2,rfl,k2,c3,d3,rfl,k3,c4,d4,rfl,⟨rfl,_⟩,kk⟩:=hr
  exact ⟨_,_,rfl,k0,_,_,rfl,k1,_,_,rfl,k2,_,_,rfl,k3,_,_,rfl,s4,kk⟩
end Go.KB
