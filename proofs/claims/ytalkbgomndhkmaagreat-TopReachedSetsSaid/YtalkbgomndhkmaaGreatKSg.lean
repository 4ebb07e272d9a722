/- Go's slices.SortFunc by the library's contract, as a function that writes a row of the caller's. No condition. -/
import Derived.Test.YtalkbgomndhkmaaGreatKSf
import Derived.Shelf.SlSortCmp.NoneTotal
namespace Go.KB
open Go.Sort Go.Proofs Go.Shelf
set_option linter.unusedVariables false
variable {P:Program} {β:Type}
theorem holdsA {α:Type} [Inhabited α] {enc:α→Value} {w:World} {b:Nat} {p q:List Value} {xs:List α} {E:TypeId} (hb:w.heap[b]? = some (.cells (p ++ xs.map enc ++ q).toArray E (0,0))):Holds enc w b p.length xs.toArray:=by
  intro j hj
  have hj':j<xs.length:=by simpa using hj
  constructor
  · rw [vz _ _ _ _ _ _ hb]
    simp only [List.getElem?_toArray]
    rw [List.append_assoc,List.getElem?_append_right (by omega),List.getElem?_append_left (by simp;omega),Nat.add_sub_cancel_left,List.getElem?_map,List.getElem?_eq_getElem hj']
    simp [hj']
  · unfold World.frozen?
    simp [hb]
theorem OX {g:FuncId} {fn:Func} (hf:P.funcs[g]? = some fn) (hbd:rf fn=true) (args:Array Value) (w:World):(callFunc g args).run P w = .ok (.enter g args) w:=by
  simp only [rf,Bool.and_eq_true,Bool.not_eq_true'] at hbd
  have hbody:fn.body≠none:=by
    intro hx;rw [hx] at hbd;cases hbd.1
  have hname:fn.name ≠ "runtime.NumGoroutine":=by simpa using hbd.2
  simp [callFunc,hf,hname,hbody]
theorem RG {f:FuncId} {ρ:Ren} (L:SlLaysF.n6 P ρ) (hf:ρ.f 6=f) {E:TypeId} {r:Rep β} (hr:r.agg=false) (K:Option PL) {c:β→β→Option Int} {xs res:List β} (H:Uf c xs=some res) :
    Nl P f [aZ.qH,fF2 P r r (Rep.int .i64) c] 0 (MF K E r xs) (MF K E r res) Yy:=by
  subst hf
  unfold Uf at H
  by_cases hc:DV c xs∧xs.length≤1000000
  case neg=>rw [if_neg hc] at H;cases H
  rw [if_pos hc] at H;cases H
  obtain ⟨hO,hlen⟩:=hc
  intro κ B Lw h w vs x v hst hl SI hq hargs
  obtain ⟨u,rfl⟩:∃ u,vs=[v,u]:=by
    match vs,hl,SI with
    | [a,b],_,SI=>simp at SI;exact ⟨b,by rw [SI]⟩
  obtain ⟨g,fn,cb,rfl,hfn,hbd,hcmp⟩:=hargs 1 _ u rfl rfl
  have hnone:∀ (p:Option Addr) (cap:Nat),Calls P (ρ.f 6) #[.slice p 0 cap,.func (.func g) #[] cb] w fun e w'=>e = .returned (.tuple #[])∧w'=w:=fun p cap=>AnyF.slices_SortFunc_none ({ L with }:SlLaysF0.n6 P ρ) p cap _ w
  cases xs with
  | nil =>
    have hv:∃ p cap,v = .slice p 0 cap:=by
      cases K with
      | none=>obtain ⟨⟨base,rfl⟩,_⟩:=hq;exact ⟨base,0,rfl⟩
      | some K=>obtain ⟨rfl,_⟩:=hq;exact ⟨_,_,rfl⟩
    obtain ⟨p,cap,rfl⟩:=hv
    refine (hnone p cap).mono ?_
    rintro e w' ⟨rfl,rfl⟩
    exact ⟨_,h,x,rfl,mW.refl h,hst,rfl,hq⟩
  | cons y0 ys =>
    cases K with
    | none=>obtain ⟨_,he,_⟩:=hq;cases he
    | some K =>
      obtain ⟨rfl,hcap,rfl⟩:=hq
      obtain ⟨hcl,cs,hb,hrl⟩:=hst.own (k:=Sum.inl ()) (e:=DN K E r (y0 :: ys)) rfl
      obtain ⟨l,hl1,hl2⟩:=elF_of hrl fun _ z=>z
      generalize hX:y0 :: ys=X at *
      have hne:l≠[]:=by rintro rfl;rw [← hX] at hl2;cases hl2
      haveI:Inhabited (Ug r h X):=⟨l.head hne⟩
      have hone:∀ p:Ug r h X,∃ z,p.1.1=[z]:=fun p=>by
        have:=r.len p.2.1
        rw [r.one hr] at this
        match hp:p.1.1,this with
        | [z],_=>exact ⟨z,rfl⟩
      have hfl:∀ l:List (Ug r h X),(l.map fun p=>p.1.1).flatten=l.map fun p=>pack false p.1.1:=by
        intro l
        induction l with
        | nil=>rfl
        | cons p l ih =>
          obtain ⟨z,hz⟩:=hone p
          simp only [List.map_cons,List.flatten_cons,ih,hz]
          rfl
      have hlx:l.length=X.length:=by have:=congrArg List.length hl2;simpa using this
      have hb':w.heap[K.b]? = some (.cells (K.pre ++ (l.map fun p=>pack false p.1.1) ++ K.post).toArray E (0,0)):=by rw [← hfl,hl1];exact hb
      have hlt:=(Array.getElem?_eq_some_iff.1 hb').1
      have key:=Any.slices_SortFunc L (fun p:Ug r h X=>pack false p.1.1) (fun p=>by
        obtain ⟨z,hz⟩:=hone p
        show (pack false p.1.1).oneCell'=true
        rw [hz]
        exact r.flat p.2.1 z (by rw [hz];exact List.mem_singleton_self _)) (fun x y=>(c x.1.2 y.1.2).getD 0) (swo_of hO) g cb K.b K.pre.length K.cap l.toArray w (OX hfn hbd) (by
          intro m os dk hdk x y
          obtain ⟨n,hn⟩:=hO.dfd _ x.2.2 _ y.2.2
          have hxy := Xt (w1 := sortWorld (fun p : Ug r h X => pack false p.1.1) w K.b K.pre.length m dk os) hst rfl (fun b' hne hlt => Eg hne hlt m os) (x := x.1.2) (y := y.1.2) (n := n) (g := g) (cb := cb) (r := r)
            (fun κ B L h' w vs h1 h2 h3 h4=>hcmp ⟨(x.1.2,y.1.2,n),hn⟩ κ B L h' w vs h1 h2 h3 h4) (u:=pack false x.1.1) (v:=pack false y.1.1) ⟨_,x.2.1,by rw [hr]⟩ ⟨_,y.2.1,by rw [hr]⟩
          refine hxy.mono ?_
          rintro e w' ⟨rfl,hw⟩
          exact ⟨by show Ending.returned (.int .i64 n)=Ending.returned (.int .i64 ((c x.1.2 y.1.2).getD 0));rw [hn];rfl,hw⟩) (holdsA hb') hlt (by simp;omega)
      have e0:(l.toArray.size:Nat)=X.length:=by simpa using hlx
      rw [e0] at key
      refine key.mono ?_
      rintro e w' ⟨rfl,d',n,os,hp,hs,rfl⟩
      rw [← e0] at hp hs
      obtain ⟨hsz,hmap⟩:=Qz hO hl2 hp hs
      have hlr:(yh c X).length=X.length:=(wB c X).length_eq
      refine ⟨_,h,DN K E r (yh c X),rfl,mW.refl h,?_,rfl,?_⟩
      · exact hst.putA rfl rfl hb' (by simp [hsz]) n os fun m hm=>⟨(d'.toList.map fun p=>p.1.1).flatten,by rw [hm,hfl],by rw [← hmap];exact elF_to d'.toList⟩
      · exact ⟨by rw [hlr],by rw [hlr];exact hcap,rfl⟩
end Go.KB
