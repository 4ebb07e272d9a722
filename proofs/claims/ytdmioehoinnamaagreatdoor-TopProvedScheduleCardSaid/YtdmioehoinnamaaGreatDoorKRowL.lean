/- Rows that list package variables. No condition. -/
import Derived.Test.YtdmioehoinnamaaGreatDoorKJoin
import Derived.Deep.DeepHandedRow
import Derived.LaidMore
import Derived.Lay
import Derived.Stop.Joined
import Derived.Stop.LaidErr
import Derived.Lib.LaidTab
namespace Go.KB
open Go.RowKit Go.ChangeShapes
theorem laid_iface {P:Program} {n nm:String} {d:DataW Unit} {r:List (String×DataW Unit)} {W:World} {g:Nat} {ti:TypeId} {ms:Array (String×TypeId)}
    (h:laidMet P ((n,.iface nm d) :: r) W) (hg:P.globalNamed n=some g) (ht:(P.globals[g]?).map (·.type)=some ti) (hi:P.underlying ti=some (.interface ms)):∃ tp p,W.var? P n=some #[.iface tp p]:=by
  obtain ⟨ps,⟨g0,t0,cs0,f0,p0,q0,hg0,ht0,hv0,hd0,_,e0⟩,_,_⟩:=h
  obtain rfl:=Option.some.inj (hg.symm.trans hg0)
  obtain rfl:=Option.some.inj (ht.symm.trans ht0)
  obtain ⟨l0⟩:=cs0
  obtain ⟨_,u,v,rfl,_⟩:=iface_of_trod hi hd0
  exact ⟨u,v,hv0⟩
theorem var_lt {P:Program} {W:World} {n:String} {g:Nat} {cs:Array Value} (hg:P.globalNamed n=some g) (h:W.var? P n=some cs):g<W.heap.size:=by
  unfold World.var? at h
  rw [hg] at h
  simp only [Option.bind_some] at h
  cases hb:W.heap[g]? with
  | none=>rw [hb] at h;simp at h
  | some o=>exact (Array.getElem?_eq_some_iff.1 hb).1
theorem witness_laid {H:Type} {enc:TypeId×Value→H} {C:Checked} {os:Os} {f:FuncId} {fn:Func} {s:OpenSpec} {conds:List PathCond} {apart:Bool} {laid:List (String×DataW Unit)} (args:Array Value) (fuel:Nat) {x:List (DataW H)×List (DataW H)×List MemPlace}
    (hp:(laid.all fun y=>y.2.handleName?.isNone)=true)
    (hv:((World.laidAll C.prog os laid).forCall (fun _ _=>0) ⟨#[],args,[]⟩).variablesZipB C.prog=true)
    (hr : (((World.laidAll C.prog os laid).forCall (fun _ _ => 0) ⟨#[], args, []⟩).heap.toList.drop C.prog.globals.size).take ((begin C.prog (fun _ _ => 0) default).world.heap.size - C.prog.globals.size) =
      (begin C.prog (fun _ _=>0) default).world.heap.toList.drop C.prog.globals.size)
    (hok:Input.okWideB C.prog ((World.laidAll C.prog os laid).forCall (fun _ _=>0) ⟨#[],args,[]⟩) f ⟨#[],args,[]⟩=true)
    (hx:DataW.whole enc C.prog ((World.laidAll C.prog os laid).forCall (fun _ _=>0) ⟨#[],args,[]⟩).memory fn.params.toList s.vars apart args.toList fuel=some x)
    (hconds:conds.all (PathCond.test C.prog ⟨fn.params.toList,x.1,s.bare.plain.varTypes C.prog,x.2.1⟩)=true) (hkk:∀ k,s.cond=some k→k H (x.1 ++ x.2.1)=true)
    (hsz:s.bare.sizedB enc C.prog fn apart ((World.laidAll C.prog os laid).forCall (fun _ _=>0) ⟨#[],args,[]⟩).memory args fuel=true)
    (hf:(World.holding C.prog os ⟨#[],#[],[]⟩).layFits C.prog laid []=true)
    (hi:(World.holding C.prog os ⟨#[],#[],[]⟩).layIfaces C.prog laid (World.laidAll C.prog os laid)=true) :
    ∃ (w:World) (tape:Tape) (i:Input),w.os=os∧(w.forCall tape i).Shaped C.prog∧i.vars=[]∧Input.okWide C.prog (w.forCall tape i) .any w.heap.size f i ∧
      s.preRow enc C.prog fn conds apart laid (w.forCall tape i).memory i.args∧({}:Assume).holds C.prog (lone (Frame.enter C.prog f i.args .normal) [] (w.forCall tape i)):=by
  refine ⟨World.laidAll C.prog os laid,fun _ _=>0,⟨#[],args,[]⟩,World.laidAll_os _ _ _,World.shaped_of_ZipB hv hr,(Input.okWide_of_okWideB (base:=0) hok).1,(Input.okWide_of_okWideB hok).2,?_,?_⟩
  · refine OpenSpec.preRow_of_cond fuel hx hconds hkk hsz ?_
    rw [MakeChecks.laidMetH_plain _ _ _ hp];exact laidMet_laidAll _ hf hi
  · simp only [Assume.holds]
    exact ⟨by simp,by simp,fun _=>Modest.zero,by simp,by simp⟩
end Go.KB
