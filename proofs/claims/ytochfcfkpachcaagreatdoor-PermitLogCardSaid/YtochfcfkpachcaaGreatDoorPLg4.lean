/- An event's text, written and read. No condition. -/
import Derived.Test.YtochfcfkpachcaaGreatDoorPLg3
namespace Go.KB
set_option linter.unusedVariables false
/- the fields of an event by their letters -/
def I4 (x:GEvent) (c:UInt8):Str:=if c=111 then Lib.itoa x.rU else if c=103 then Lib.itoa x.Mc else if c=116 then Lib.itoa x.To else if c=110 then x.Name else if c=112 then x.Person else x.Space
def setF (x y:GEvent) (c:UInt8):GEvent:=if c=111 then { y with rU:=x.rU } else if c=103 then { y with Mc:=x.Mc } else if c=116 then { y with To:=x.To } else if c=110 then { y with Name:=x.Name } else if c=112 then { y with Person:=x.Person } else { y with Space:=x.Space }
def inT (n:Int):Prop:=0≤n∧n≤1000000
def okF (x:GEvent) (c:UInt8):Prop:=(c=111∧inT x.rU)∨(c=103∧inT x.Mc)∨(c=116∧inT x.To)∨(c=110∧iI x.Name=true)∨(c=112∧iI x.Person=true)∨(c=115∧iI x.Space=true)
theorem OW {s:Str} (h:iI s=true):s.length≤12:=by
  unfold iI at h
  cases s with
  | nil=>simp
  | cons c r=>simp at h;simp;omega
theorem RY {s:Str} (h:iI s=true):∀ b ∈ s,b≠32:=by
  have h32:yL 32=false:=by decide
  have h32':ul 32=false:=by decide
  unfold iI at h
  cases s with
  | nil=>intro b hb;cases hb
  | cons c r =>
    simp only [Bool.and_eq_true,List.all_eq_true] at h
    intro b hb e
    subst e
    rcases List.mem_cons.1 hb with rfl | hb
    · rw [h32] at h;exact absurd h.1.2 (by decide)
    · have:=h.2 _ hb;rw [h32'] at this;cases this
theorem val_ok {x:GEvent} {c:UInt8} (h:okF x c):(I4 x c).length≤12∧∀ b ∈ I4 x c,b≠32:=by
  rcases h with ⟨rfl,h⟩ | ⟨rfl,h⟩ | ⟨rfl,h⟩ | ⟨rfl,h⟩ | ⟨rfl,h⟩ | ⟨rfl,h⟩
  · exact ⟨Nat.le_trans (Ia h.1 h.2) (by decide),Ny h.1⟩
  · exact ⟨Nat.le_trans (Ia h.1 h.2) (by decide),Ny h.1⟩
  · exact ⟨Nat.le_trans (Ia h.1 h.2) (by decide),Ny h.1⟩
  · exact ⟨OW h,RY h⟩
  · exact ⟨OW h,RY h⟩
  · exact ⟨OW h,RY h⟩
section
variable {N:Nat} (hN:1000000≤N)
include hN
omit hN in
theorem RZ {x:GEvent} {d:bC} {acc:List Str} {i k:Nat} {n:Int} (hi:i<d.fields.length) (hi2:i<100) (hc:oP N x ((UInt8.toNat d.fields[i]:Nat):Int)=some (some k)) (hk:GEvent.gI x k=some n) (hn:inT n) (hl:acc.length<100) :
    jO N x d (acc,0,(i:Int))=some (.inl (acc ++ [Lib.itoa n],0,((i+1:Nat):Int))):=by
  have hlim:lim ≥ 10000000:=by decide
  have e2:ug N n=some (Lib.itoa n):=OX hn.1 hn.2
  unfold jO
  simp only []
  rw [dw,dT (by omega),ni,jI hi,bS,hc,bS]
  simp only [Option.isSome_some,ni,bS]
  rw [hk,bS,OY,bS,dT hn.1,dT hn.2]
  simp only [Bool.and_self,Bool.not_true,nN]
  rw [bS,e2,bS,FQ (by simp only [List.length_singleton];omega),bS,rJ (by omega)]
theorem OZ {x:GEvent} {d:bC} {acc:List Str} {i k:Nat} {s:Str} (hi:i<d.fields.length) (hi2:i<100) (hc:oP N x ((UInt8.toNat d.fields[i]:Nat):Int)=some none) (hw:uS N x ((UInt8.toNat d.fields[i]:Nat):Int)=some (some k)) (hk:GEvent.gS x k=some s) (hn:iI s=true) (hl:acc.length<100) :
    jO N x d (acc,0,(i:Int))=some (.inl (acc ++ [s],0,((i+1:Nat):Int))):=by
  have hlim:lim ≥ 10000000:=by decide
  unfold jO
  simp only []
  rw [dw,dT (by omega),ni,jI hi,bS,hc,bS]
  simp only [Option.isSome_none,nN]
  rw [bS,hw,bS,bS,hk,bS,Ar (by omega),bS,hn]
  simp only [Bool.not_true,nN]
  rw [FQ (by simp only [List.length_singleton];omega),bS,rJ (by omega)]
theorem Y9 {x:GEvent} {d:bC} {acc:List Str} {i:Nat} (hi:i<d.fields.length) (hi2:i<100) (hc:okF x d.fields[i]) (hl:acc.length<100) :
    jO N x d (acc,0,(i:Int))=some (.inl (acc ++ [I4 x d.fields[i]],0,((i+1:Nat):Int))):=by
  rcases hc with ⟨e,h⟩ | ⟨e,h⟩ | ⟨e,h⟩ | ⟨e,h⟩ | ⟨e,h⟩ | ⟨e,h⟩
  · rw [RZ (k:=5) (n:=x.rU) hi hi2 (by rw [e];rfl) rfl h hl,e];rfl
  · rw [RZ (k:=6) (n:=x.Mc) hi hi2 (by rw [e];rfl) rfl h hl,e];rfl
  · rw [RZ (k:=7) (n:=x.To) hi hi2 (by rw [e];rfl) rfl h hl,e];rfl
  · rw [OZ hN (k:=2) (s:=x.Name) hi hi2 (by rw [e];rfl) (by rw [e];rfl) rfl h hl,e];rfl
  · rw [OZ hN (k:=4) (s:=x.Person) hi hi2 (by rw [e];rfl) (by rw [e];rfl) rfl h hl,e];rfl
  · rw [OZ hN (k:=3) (s:=x.Space) hi hi2 (by rw [e];rfl) (by rw [e];rfl) rfl h hl,e];rfl
end
/- what a deed's text needs -/
structure OkX (x:GEvent):Prop where
  o0:0≤x.Op
  o1:x.Op<12
  at_:inT x.At
  f:∀ c ∈ (lM x.Op).fields,okF x c
def Si (x:GEvent):Str:=Lib.join (Lib.itoa x.At :: (lM x.Op).word :: (lM x.Op).fields.map (I4 x)) [32]
theorem JD {n:Int} (h0:0≤n) (h1:n<12):(lM n).fields.length≤3∧(lM n).word.length≤12∧∀ b ∈ (lM n).word,b≠32:=by
  rcases Xy h0 h1 with rfl | rfl | rfl | rfl | rfl | rfl | rfl | rfl | rfl | rfl | rfl | rfl <;> exact ⟨by decide,by decide,by decide⟩
theorem jJb {l:List Str} {m:Nat} (h:∀ y ∈ l,y.length≤m):Lib.lens l≤m * l.length:=by
  induction l with
  | nil=>simp [Lib.lens]
  | cons y l ih =>
    have h1:=h y List.mem_cons_self
    have h2:=ih fun z hz=>h z (List.mem_cons_of_mem _ hz)
    have e:Lib.lens (y :: l)=y.length+Lib.lens l:=by simp [Lib.lens]
    rw [e,List.length_cons,Nat.mul_add]
    omega
theorem Wy {x:GEvent} (h:OkX x):(Si x).length≤100:=by
  obtain ⟨d1,d2,d3⟩:=JD h.o0 h.o1
  unfold Si
  rw [Lib.join_length]
  have:=jJb (l:=Lib.itoa x.At :: (lM x.Op).word :: (lM x.Op).fields.map (I4 x)) (m:=12) fun y hy=>by
    rcases List.mem_cons.1 hy with rfl | hy
    · exact Nat.le_trans (Ia h.at_.1 h.at_.2) (by decide)
    · rcases List.mem_cons.1 hy with rfl | hy
      · exact d2
      · obtain ⟨c,hc,rfl⟩:=List.mem_map.1 hy;exact (val_ok (h.f c hc)).1
  simp only [List.length_cons,List.length_map,List.length_nil] at this ⊢
  omega
theorem Xz {N:Nat} (hN:1000000≤N) {x:GEvent} (h:OkX x):rQ N x=some (Si x,0):=by
  obtain ⟨d1,d2,d3⟩:=JD h.o0 h.o1
  have ho0:=h.o0
  have ho1:=h.o1
  have hlen:(Bl.length:Int)=12:=by decide
  have e2:ug N x.At=some (Lib.itoa x.At):=OX h.at_.1 h.at_.2
  unfold rQ
  rw [O0,bS,dw,zx,hlen,dF (show ¬ x.Op<0 by omega),dF (show ¬ (12:Int)≤x.Op by omega)]
  simp only [Bool.or_self,Bool.not_false,ni]
  rw [OY,bS,dT h.at_.1,dT h.at_.2]
  simp only [Bool.and_self,Bool.not_true,Bool.or_self,nN]
  rw [Kz ho0 ho1,bS,e2,bS]
  have hl:=Nw (f:=jO N x (lM x.Op)) (N:=N) (lM x.Op).fields [Lib.itoa x.At,(lM x.Op).word] (fun _=>true) (I4 x) (fun a i=>(a,0,i)) (fun a=>Sum.inl (a,0)) (fun i hi acc hacc=>by
    rw [ni]
    exact Y9 hN hi (by omega) (h.f _ (List.getElem_mem hi)) (by simp only [List.length_cons,List.length_nil] at hacc;omega)) (fun t=>by
    unfold jO
    simp only []
    rw [dw,dF (by omega),nN]) (by omega)
  rw [List.filter_eq_self.2 (fun _ _=>rfl)] at hl
  rw [hl,bS]
  simp only [Sum.elim_inl]
  rw [qV,dT rfl,Bool.not_true,nN]
  have ej:Ae N ([Lib.itoa x.At,(lM x.Op).word] ++ (lM x.Op).fields.map (I4 x)) [32]=some (Si x):=by
    unfold Ae Wn
    have ht:=Wy h
    unfold Si at ht ⊢
    rw [show Nat.ble (Lib.join ([Lib.itoa x.At,(lM x.Op).word] ++ (lM x.Op).fields.map (I4 x)) [32]).length 140737488355328=true by rw [Nat.ble_eq];exact Nat.le_trans ht (by decide),show Nat.ble ([Lib.itoa x.At,(lM x.Op).word] ++ (lM x.Op).fields.map (I4 x)).length 140737488355328=true by rw [Nat.ble_eq];simp;omega]
    rfl
  rw [ej];rfl
/- reading -/
section
variable {N:Nat} (hN:1000000≤N)
include hN
omit hN in
theorem Sj {y:GEvent} {d:bC} {vs:List Str} {i k:Nat} {n:Int} {z:GEvent} (hi:i<d.fields.length) (hi2:i<100) (hv:i<vs.length) (hvn:vs[i]=Lib.itoa n) (hc:oP N y ((UInt8.toNat d.fields[i]:Nat):Int)=some (some k)) (hk:GEvent.sI y k n=some z) (hn:inT n) :
    jf N d vs (true,(i:Int),y)=some (.inl (true,((i+1:Nat):Int),z)):=by
  unfold jf
  simp only []
  rw [dw,dT (by omega),ni,jI hv,bS,jI hi,bS,hc,bS]
  simp only [Option.isSome_some,ni,bS]
  rw [hvn,KA hn.1 hn.2,bS]
  simp only []
  rw [hk,bS,rJ (by omega)];rfl
theorem O1 {y:GEvent} {d:bC} {vs:List Str} {i k:Nat} {z:GEvent} (hi:i<d.fields.length) (hi2:i<100) (hv:i<vs.length) (hvn:iI vs[i]=true) (hc:oP N y ((UInt8.toNat d.fields[i]:Nat):Int)=some none) (hw:uS N y ((UInt8.toNat d.fields[i]:Nat):Int)=some (some k)) (hk:GEvent.sS y k vs[i]=some z) :
    jf N d vs (true,(i:Int),y)=some (.inl (true,((i+1:Nat):Int),z)):=by
  unfold jf
  simp only []
  rw [dw,dT (by omega),ni,jI hv,bS,jI hi,bS,hc,bS]
  simp only [Option.isSome_none,nN]
  rw [bS,hw,bS,bS,hk,bS,ni,Ar (by omega),hvn,bS,rJ (by omega)];rfl
theorem Za {x y:GEvent} {d:bC} {vs:List Str} {i:Nat} (hi:i<d.fields.length) (hi2:i<100) (hv:i<vs.length) (hvn:vs[i]=I4 x d.fields[i]) (hc:okF x d.fields[i]) :
    jf N d vs (true,(i:Int),y)=some (.inl (true,((i+1:Nat):Int),setF x y d.fields[i])):=by
  rcases hc with ⟨e,h⟩ | ⟨e,h⟩ | ⟨e,h⟩ | ⟨e,h⟩ | ⟨e,h⟩ | ⟨e,h⟩ <;> rw [e] at hvn
  · exact Sj (k:=5) (n:=x.rU) hi hi2 hv hvn (by rw [e];rfl) (by rw [e];rfl) h
  · exact Sj (k:=6) (n:=x.Mc) hi hi2 hv hvn (by rw [e];rfl) (by rw [e];rfl) h
  · exact Sj (k:=7) (n:=x.To) hi hi2 hv hvn (by rw [e];rfl) (by rw [e];rfl) h
  · have hvn:vs[i]=x.Name:=hvn
    exact O1 hN (k:=2) hi hi2 hv (by rw [hvn];exact h) (by rw [e];rfl) (by rw [e];rfl) (by rw [e,hvn];rfl)
  · have hvn:vs[i]=x.Person:=hvn
    exact O1 hN (k:=4) hi hi2 hv (by rw [hvn];exact h) (by rw [e];rfl) (by rw [e];rfl) (by rw [e,hvn];rfl)
  · have hvn:vs[i]=x.Space:=hvn
    exact O1 hN (k:=3) hi hi2 hv (by rw [hvn];exact h) (by rw [e];rfl) (by rw [e];rfl) (by rw [e,hvn];rfl)
theorem Zb {x:GEvent} {d:bC} (hd:d.fields.length<100) (hf:∀ c ∈ d.fields,okF x c):∀ (k i:Nat) (y:GEvent) (M:Nat),i+k=d.fields.length→k<M →
    eF (jf N d (d.fields.map (I4 x))) M (true,(i:Int),y)=some (true,(d.fields.drop i).foldl (setF x) y):=by
  intro k
  induction k with
  | zero =>
    intro i y M hi hM
    obtain ⟨M,rfl⟩:∃ m,M=m+1:=⟨M - 1,by omega⟩
    have e:jf N d (d.fields.map (I4 x)) (true,(i:Int),y)=some (.inr (true,y)):=by
      unfold jf
      simp only []
      rw [dw,List.length_map,dF (by omega),nN]
    rw [eF,e,List.drop_of_length_le (by omega)];rfl
  | succ k ih =>
    intro i y M hi hM
    obtain ⟨M,rfl⟩:∃ m,M=m+1:=⟨M - 1,by omega⟩
    have hlt:i<d.fields.length:=by omega
    rw [eF,Za hN (x:=x) hlt (by omega) (by rw [List.length_map];exact hlt) (by rw [List.getElem_map]) (hf _ (List.getElem_mem hlt))]
    simp only []
    rw [ih (i+1) _ M (by omega) (by omega),List.drop_eq_getElem_cons hlt,List.foldl_cons]
end
theorem jJd {x:GEvent} (h0:0≤x.Op) (h1:x.Op<12):(lM x.Op).fields.foldl (setF x) ⟨x.At,x.Op,[],[],[],0,0,0⟩=KI x:=by
  obtain ⟨at_,op,nm,sp,pe,ox,ga,wo⟩:=x
  simp only [] at h0 h1
  rcases Xy h0 h1 with rfl | rfl | rfl | rfl | rfl | rfl | rfl | rfl | rfl | rfl | rfl | rfl <;> rfl
theorem Zc:((List.range 12).all fun i=>(List.range 12).all fun j=>decide (i=j) || !decide (Bl[i]!.word=Bl[j]!.word))=true:=by decide
theorem Y6 {N:Nat} (hN:1000000≤N) {x:GEvent} (h:OkX x):sO N (Si x)=some (KI x,0):=by
  obtain ⟨d1,d2,d3⟩:=JD h.o0 h.o1
  have ho0:=h.o0
  have ho1:=h.o1
  have ht:=Wy h
  have es:zq N (Si x) [32]=some (Lib.itoa x.At :: (lM x.Op).word :: (lM x.Op).fields.map (I4 x)):=by
    unfold zq RP
    rw [show Nat.blt (Si x).length 4294967281=true by rw [Nat.blt_eq];omega,show Nat.ble 1 ([32]:Str).length=true by rfl]
    simp only [Bool.and_self,ni]
    unfold Si
    rw [Ui (Ny h.at_.1) fun y hy=>by
      rcases List.mem_cons.1 hy with rfl | hy
      · exact d3
      · obtain ⟨c,hc,rfl⟩:=List.mem_map.1 hy;exact (val_ok (h.f c hc)).2]
  unfold sO
  rw [es,bS,dw,dF (by simp only [List.length_cons];omega),nN]
  generalize hv:(Lib.itoa x.At :: (lM x.Op).word :: (lM x.Op).fields.map (I4 x))=vs at *
  have hvl:vs.length=2+(lM x.Op).fields.length:=by rw [← hv];simp;omega
  have i0:idx vs 0=some (Lib.itoa x.At):=by rw [← hv];rfl
  have i1:idx vs 1=some (lM x.Op).word:=by rw [← hv];rfl
  have i2:UL vs 2 (vs.length:Int)=some ((lM x.Op).fields.map (I4 x)):=by
    have:=Vs (l:=vs) (a:=2) (b:=vs.length) (by omega) (Nat.le_refl _)
    rw [List.take_length] at this
    refine this.trans ?_
    rw [← hv];rfl
  rw [i0,bS,KA h.at_.1 h.at_.2,bS,O0,bS]
  have key:∀ (k i M:Nat),i+k=x.Op.toNat→k<M→eF (lD N vs (x.At,true) Bl) M (((⟨0,0,[],[],[],0,0,0⟩:GEvent),(i:Int)))=some (.inr (KI x,0)):=by
    intro k
    induction k with
    | zero =>
      intro i M hi hM
      obtain ⟨M,rfl⟩:∃ m,M=m+1:=⟨M - 1,by omega⟩
      have hii:(i:Int)=x.Op:=by omega
      have e:lD N vs (x.At,true) Bl (((⟨0,0,[],[],[],0,0,0⟩:GEvent),(i:Int)))=some (.inr (Sum.inr (KI x,0))):=by
        unfold lD
        simp only []
        rw [dw,show ((Bl.length:Int))=12 by decide,dT (by omega),ni,hii,Kz ho0 ho1,bS,i1,bS,KC,dT rfl,qV,hvl,w64 (by omega) (by omega),dT (by omega)]
        simp only [Bool.not_true,Bool.or_self,nN]
        rw [← hvl,i2,bS]
        have hl:=Zb hN (x:=x) (d:=lM x.Op) (by omega) h.f (lM x.Op).fields.length 0 ⟨x.At,x.Op,[],[],[],0,0,0⟩ N (by omega) (by omega)
        rw [List.drop_zero,jJd ho0 ho1] at hl
        have hl:eF (jf N (lM x.Op) ((lM x.Op).fields.map (I4 x))) N (true,0,(⟨x.At,x.Op,[],[],[],0,0,0⟩:GEvent))=some (true,KI x):=hl
        rw [hl];rfl
      rw [eF,e]
    | succ k ih =>
      intro i M hi hM
      obtain ⟨M,rfl⟩:∃ m,M=m+1:=⟨M - 1,by omega⟩
      have hi12:i<12:=by omega
      have hne:¬ (lM (i:Int)).word=(lM x.Op).word:=by
        have:=List.all_eq_true.1 (List.all_eq_true.1 Zc i (List.mem_range.2 hi12)) x.Op.toNat (List.mem_range.2 (by omega))
        rw [dF (show ¬ i=x.Op.toNat by omega),Bool.false_or,Bool.not_eq_true',decide_eq_false_iff_not] at this
        exact this
      have e:lD N vs (x.At,true) Bl (((⟨0,0,[],[],[],0,0,0⟩:GEvent),(i:Int)))=some (.inl (((⟨0,0,[],[],[],0,0,0⟩:GEvent),((i+1:Nat):Int)))):=by
        unfold lD
        simp only []
        rw [dw,show ((Bl.length:Int))=12 by decide,dT (by omega),ni,Kz (by omega) (by omega),bS,i1,bS,KC,dF hne]
        simp only [Bool.not_false,Bool.true_or,ni]
        rw [rJ (by omega)]
      rw [eF,e]
      exact ih (i+1) M (by omega) (by omega)
  have h0:eF (lD N vs (x.At,true) Bl) N (((⟨0,0,[],[],[],0,0,0⟩:GEvent),0))=some (.inr (KI x,0)):=key x.Op.toNat 0 N (by omega) (by omega)
  rw [h0];rfl
end Go.KB
