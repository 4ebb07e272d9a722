/- An event's text, written and read. No condition. -/
import Derived.Test.YtochfcfkpachcaaGreatDoorPLg3
namespace Go.KB
set_option linter.unusedVariables false
/- the fields of an event by their letters -/
def IX (x:GEvent) (c:UInt8):Str:=if c=111 then Lib.itoa x.rQ else if c=103 then Lib.itoa x.L6 else if c=116 then Lib.itoa x.To else if c=110 then x.Name else if c=112 then x.Person else x.Space
def setF (x y:GEvent) (c:UInt8):GEvent:=if c=111 then { y with rQ:=x.rQ } else if c=103 then { y with L6:=x.L6 } else if c=116 then { y with To:=x.To } else if c=110 then { y with Name:=x.Name } else if c=112 then { y with Person:=x.Person } else { y with Space:=x.Space }
def inT (n:Int):Prop:=0≤n∧n≤1000000
def okF (x:GEvent) (c:UInt8):Prop:=(c=111∧inT x.rQ)∨(c=103∧inT x.L6)∨(c=116∧inT x.To)∨(c=110∧iI x.Name=true)∨(c=112∧iI x.Person=true)∨(c=115∧iI x.Space=true)
theorem OT {s:Str} (h:iI s=true):s.length≤12:=by
  unfold iI at h
  cases s with
  | nil=>simp
  | cons c r=>simp at h;simp;omega
theorem RX {s:Str} (h:iI s=true):∀ b ∈ s,b≠32:=by
  have h32:yL 32=false:=by decide
  have h32':ul 32=false:=by decide
  unfold iI at h
  cases s with
  | nil=>intro b hb;cases hb
  | cons c r =>
    simp only [Bool.and_eq_true,List.all_eq_true] at h
    intro b hb e
    subst e
    rcases List.mem_cons.1 hb with rfl | hb
    · rw [h32] at h;exact absurd h.1.2 (by decide)
    · have:=h.2 _ hb;rw [h32'] at this;cases this
theorem val_ok {x:GEvent} {c:UInt8} (h:okF x c):(IX x c).length≤12∧∀ b ∈ IX x c,b≠32:=by
  rcases h with ⟨rfl,h⟩ | ⟨rfl,h⟩ | ⟨rfl,h⟩ | ⟨rfl,h⟩ | ⟨rfl,h⟩ | ⟨rfl,h⟩
  · exact ⟨Nat.le_trans (H9 h.1 h.2) (by decide),Nu h.1⟩
  · exact ⟨Nat.le_trans (H9 h.1 h.2) (by decide),Nu h.1⟩
  · exact ⟨Nat.le_trans (H9 h.1 h.2) (by decide),Nu h.1⟩
  · exact ⟨OT h,RX h⟩
  · exact ⟨OT h,RX h⟩
  · exact ⟨OT h,RX h⟩
section
variable {N:Nat} (hN:1000000≤N)
include hN
omit hN in
theorem RY {x:GEvent} {d:bn} {acc:List Str} {i k:Nat} {n:Int} (hi:i<d.fields.length) (hi2:i<100) (hc:oP N x ((UInt8.toNat d.fields[i]:Nat):Int)=some (some k)) (hk:GEvent.gI x k=some n) (hn:inT n) (hl:acc.length<100) :
    jO N x d (acc,0,(i:Int))=some (.inl (acc ++ [Lib.itoa n],0,((i+1:Nat):Int))):=by
  have hlim:lim ≥ 10000000:=by decide
  have e2:ug N n=some (Lib.itoa n):=OU hn.1 hn.2
  unfold jO
  simp only []
  rw [dn,dT (by omega),ni,jI hi,bS,hc,bS]
  simp only [Option.isSome_some,ni,bS]
  rw [hk,bS,OV,bS,dT hn.1,dT hn.2]
  simp only [Bool.and_self,Bool.not_true,nN]
  rw [bS,e2,bS,FP (by simp only [List.length_singleton];omega),bS,rH (by omega)]
theorem OW {x:GEvent} {d:bn} {acc:List Str} {i k:Nat} {s:Str} (hi:i<d.fields.length) (hi2:i<100) (hc:oP N x ((UInt8.toNat d.fields[i]:Nat):Int)=some none) (hw:uS N x ((UInt8.toNat d.fields[i]:Nat):Int)=some (some k)) (hk:GEvent.gS x k=some s) (hn:iI s=true) (hl:acc.length<100) :
    jO N x d (acc,0,(i:Int))=some (.inl (acc ++ [s],0,((i+1:Nat):Int))):=by
  have hlim:lim ≥ 10000000:=by decide
  unfold jO
  simp only []
  rw [dn,dT (by omega),ni,jI hi,bS,hc,bS]
  simp only [Option.isSome_none,nN]
  rw [bS,hw,bS,bS,hk,bS,Ar (by omega),bS,hn]
  simp only [Bool.not_true,nN]
  rw [FP (by simp only [List.length_singleton];omega),bS,rH (by omega)]
theorem Y9 {x:GEvent} {d:bn} {acc:List Str} {i:Nat} (hi:i<d.fields.length) (hi2:i<100) (hc:okF x d.fields[i]) (hl:acc.length<100) :
    jO N x d (acc,0,(i:Int))=some (.inl (acc ++ [IX x d.fields[i]],0,((i+1:Nat):Int))):=by
  rcases hc with ⟨e,h⟩ | ⟨e,h⟩ | ⟨e,h⟩ | ⟨e,h⟩ | ⟨e,h⟩ | ⟨e,h⟩
  · rw [RY (k:=5) (n:=x.rQ) hi hi2 (by rw [e];rfl) rfl h hl,e];rfl
  · rw [RY (k:=6) (n:=x.L6) hi hi2 (by rw [e];rfl) rfl h hl,e];rfl
  · rw [RY (k:=7) (n:=x.To) hi hi2 (by rw [e];rfl) rfl h hl,e];rfl
  · rw [OW hN (k:=2) (s:=x.Name) hi hi2 (by rw [e];rfl) (by rw [e];rfl) rfl h hl,e];rfl
  · rw [OW hN (k:=4) (s:=x.Person) hi hi2 (by rw [e];rfl) (by rw [e];rfl) rfl h hl,e];rfl
  · rw [OW hN (k:=3) (s:=x.Space) hi hi2 (by rw [e];rfl) (by rw [e];rfl) rfl h hl,e];rfl
end
/- what a deed's text needs -/
structure OkX (x:GEvent):Prop where
  o0:0≤x.Op
  o1:x.Op<12
  at_:inT x.At
  f:∀ c ∈ (lJ x.Op).fields,okF x c
def RZ (x:GEvent):Str:=Lib.join (Lib.itoa x.At :: (lJ x.Op).word :: (lJ x.Op).fields.map (IX x)) [32]
theorem JA {n:Int} (h0:0≤n) (h1:n<12):(lJ n).fields.length≤3∧(lJ n).word.length≤12∧∀ b ∈ (lJ n).word,b≠32:=by
  rcases Xy h0 h1 with rfl | rfl | rfl | rfl | rfl | rfl | rfl | rfl | rfl | rfl | rfl | rfl <;> exact ⟨by decide,by decide,by decide⟩
theorem jJb {l:List Str} {m:Nat} (h:∀ y ∈ l,y.length≤m):Lib.lens l≤m * l.length:=by
  induction l with
  | nil=>simp [Lib.lens]
  | cons y l ih =>
    have h1:=h y List.mem_cons_self
    have h2:=ih fun z hz=>h z (List.mem_cons_of_mem _ hz)
    have e:Lib.lens (y :: l)=y.length+Lib.lens l:=by simp [Lib.lens]
    rw [e,List.length_cons,Nat.mul_add]
    omega
theorem Wy {x:GEvent} (h:OkX x):(RZ x).length≤100:=by
  obtain ⟨d1,d2,d3⟩:=JA h.o0 h.o1
  unfold RZ
  rw [Lib.join_length]
  have:=jJb (l:=Lib.itoa x.At :: (lJ x.Op).word :: (lJ x.Op).fields.map (IX x)) (m:=12) fun y hy=>by
    rcases List.mem_cons.1 hy with rfl | hy
    · exact Nat.le_trans (H9 h.at_.1 h.at_.2) (by decide)
    · rcases List.mem_cons.1 hy with rfl | hy
      · exact d2
      · obtain ⟨c,hc,rfl⟩:=List.mem_map.1 hy;exact (val_ok (h.f c hc)).1
  simp only [List.length_cons,List.length_map,List.length_nil] at this ⊢
  omega
theorem Xz {N:Nat} (hN:1000000≤N) {x:GEvent} (h:OkX x):rP N x=some (RZ x,0):=by
  obtain ⟨d1,d2,d3⟩:=JA h.o0 h.o1
  have ho0:=h.o0
  have ho1:=h.o1
  have hlen:(Bl.length:Int)=12:=by decide
  have e2:ug N x.At=some (Lib.itoa x.At):=OU h.at_.1 h.at_.2
  unfold rP
  rw [OX,bS,dn,zx,hlen,dF (show ¬ x.Op<0 by omega),dF (show ¬ (12:Int)≤x.Op by omega)]
  simp only [Bool.or_self,Bool.not_false,ni]
  rw [OV,bS,dT h.at_.1,dT h.at_.2]
  simp only [Bool.and_self,Bool.not_true,Bool.or_self,nN]
  rw [Kv ho0 ho1,bS,e2,bS]
  have hl:=Ns (f:=jO N x (lJ x.Op)) (N:=N) (lJ x.Op).fields [Lib.itoa x.At,(lJ x.Op).word] (fun _=>true) (IX x) (fun a i=>(a,0,i)) (fun a=>Sum.inl (a,0)) (fun i hi acc hacc=>by
    rw [ni]
    exact Y9 hN hi (by omega) (h.f _ (List.getElem_mem hi)) (by simp only [List.length_cons,List.length_nil] at hacc;omega)) (fun t=>by
    unfold jO
    simp only []
    rw [dn,dF (by omega),nN]) (by omega)
  rw [List.filter_eq_self.2 (fun _ _=>rfl)] at hl
  rw [hl,bS]
  simp only [Sum.elim_inl]
  rw [qU,dT rfl,Bool.not_true,nN]
  have ej:Ae N ([Lib.itoa x.At,(lJ x.Op).word] ++ (lJ x.Op).fields.map (IX x)) [32]=some (RZ x):=by
    unfold Ae Wn
    have ht:=Wy h
    unfold RZ at ht ⊢
    rw [show Nat.ble (Lib.join ([Lib.itoa x.At,(lJ x.Op).word] ++ (lJ x.Op).fields.map (IX x)) [32]).length 140737488355328=true by rw [Nat.ble_eq];exact Nat.le_trans ht (by decide),show Nat.ble ([Lib.itoa x.At,(lJ x.Op).word] ++ (lJ x.Op).fields.map (IX x)).length 140737488355328=true by rw [Nat.ble_eq];simp;omega]
    rfl
  rw [ej];rfl
/- reading -/
section
variable {N:Nat} (hN:1000000≤N)
include hN
omit hN in
theorem Si {y:GEvent} {d:bn} {vs:List Str} {i k:Nat} {n:Int} {z:GEvent} (hi:i<d.fields.length) (hi2:i<100) (hv:i<vs.length) (hvn:vs[i]=Lib.itoa n) (hc:oP N y ((UInt8.toNat d.fields[i]:Nat):Int)=some (some k)) (hk:GEvent.sI y k n=some z) (hn:inT n) :
    jf N d vs (true,(i:Int),y)=some (.inl (true,((i+1:Nat):Int),z)):=by
  unfold jf
  simp only []
  rw [dn,dT (by omega),ni,jI hv,bS,jI hi,bS,hc,bS]
  simp only [Option.isSome_some,ni,bS]
  rw [hvn,Kw hn.1 hn.2,bS]
  simp only []
  rw [hk,bS,rH (by omega)];rfl
theorem OY {y:GEvent} {d:bn} {vs:List Str} {i k:Nat} {z:GEvent} (hi:i<d.fields.length) (hi2:i<100) (hv:i<vs.length) (hvn:iI vs[i]=true) (hc:oP N y ((UInt8.toNat d.fields[i]:Nat):Int)=some none) (hw:uS N y ((UInt8.toNat d.fields[i]:Nat):Int)=some (some k)) (hk:GEvent.sS y k vs[i]=some z) :
    jf N d vs (true,(i:Int),y)=some (.inl (true,((i+1:Nat):Int),z)):=by
  unfold jf
  simp only []
  rw [dn,dT (by omega),ni,jI hv,bS,jI hi,bS,hc,bS]
  simp only [Option.isSome_none,nN]
  rw [bS,hw,bS,bS,hk,bS,ni,Ar (by omega),hvn,bS,rH (by omega)];rfl
theorem Za {x y:GEvent} {d:bn} {vs:List Str} {i:Nat} (hi:i<d.fields.length) (hi2:i<100) (hv:i<vs.length) (hvn:vs[i]=IX x d.fields[i]) (hc:okF x d.fields[i]) :
    jf N d vs (true,(i:Int),y)=some (.inl (true,((i+1:Nat):Int),setF x y d.fields[i])):=by
  rcases hc with ⟨e,h⟩ | ⟨e,h⟩ | ⟨e,h⟩ | ⟨e,h⟩ | ⟨e,h⟩ | ⟨e,h⟩ <;> rw [e] at hvn
  · exact Si (k:=5) (n:=x.rQ) hi hi2 hv hvn (by rw [e];rfl) (by rw [e];rfl) h
  · exact Si (k:=6) (n:=x.L6) hi hi2 hv hvn (by rw [e];rfl) (by rw [e];rfl) h
  · exact Si (k:=7) (n:=x.To) hi hi2 hv hvn (by rw [e];rfl) (by rw [e];rfl) h
  · have hvn:vs[i]=x.Name:=hvn
    exact OY hN (k:=2) hi hi2 hv (by rw [hvn];exact h) (by rw [e];rfl) (by rw [e];rfl) (by rw [e,hvn];rfl)
  · have hvn:vs[i]=x.Person:=hvn
    exact OY hN (k:=4) hi hi2 hv (by rw [hvn];exact h) (by rw [e];rfl) (by rw [e];rfl) (by rw [e,hvn];rfl)
  · have hvn:vs[i]=x.Space:=hvn
    exact OY hN (k:=3) hi hi2 hv (by rw [hvn];exact h) (by rw [e];rfl) (by rw [e];rfl) (by rw [e,hvn];rfl)
theorem Zb {x:GEvent} {d:bn} (hd:d.fields.length<100) (hf:∀ c ∈ d.fields,okF x c):∀ (k i:Nat) (y:GEvent) (M:Nat),i+k=d.fields.length→k<M →
    eF (jf N d (d.fields.map (IX x))) M (true,(i:Int),y)=some (true,(d.fields.drop i).foldl (setF x) y):=by
  intro k
  induction k with
  | zero =>
    intro i y M hi hM
    obtain ⟨M,rfl⟩:∃ m,M=m+1:=⟨M - 1,by omega⟩
    have e:jf N d (d.fields.map (IX x)) (true,(i:Int),y)=some (.inr (true,y)):=by
      unfold jf
      simp only []
      rw [dn,List.length_map,dF (by omega),nN]
    rw [eF,e,List.drop_of_length_le (by omega)];rfl
  | succ k ih =>
    intro i y M hi hM
    obtain ⟨M,rfl⟩:∃ m,M=m+1:=⟨M - 1,by omega⟩
    have hlt:i<d.fields.length:=by omega
    rw [eF,Za hN (x:=x) hlt (by omega) (by rw [List.length_map];exact hlt) (by rw [List.getElem_map]) (hf _ (List.getElem_mem hlt))]
    simp only []
    rw [ih (i+1) _ M (by omega) (by omega),List.drop_eq_getElem_cons hlt,List.foldl_cons]
end
theorem jJd {x:GEvent} (h0:0≤x.Op) (h1:x.Op<12):(lJ x.Op).fields.foldl (setF x) ⟨x.At,x.Op,[],[],[],0,0,0⟩=KF x:=by
  obtain ⟨at_,op,nm,sp,pe,ox,ga,wo⟩:=x
  simp only [] at h0 h1
  rcases Xy h0 h1 with rfl | rfl | rfl | rfl | rfl | rfl | rfl | rfl | rfl | rfl | rfl | rfl <;> rfl
theorem Zc:((List.range 12).all fun i=>(List.range 12).all fun j=>decide (i=j) || !decide (Bl[i]!.word=Bl[j]!.word))=true:=by decide
theorem Y6 {N:Nat} (hN:1000000≤N) {x:GEvent} (h:OkX x):sN N (RZ x)=some (KF x,0):=by
  obtain ⟨d1,d2,d3⟩:=JA h.o0 h.o1
  have ho0:=h.o0
  have ho1:=h.o1
  have ht:=Wy h
  have es:zq N (RZ x) [32]=some (Lib.itoa x.At :: (lJ x.Op).word :: (lJ x.Op).fields.map (IX x)):=by
    unfold zq RN
    rw [show Nat.blt (RZ x).length 4294967281=true by rw [Nat.blt_eq];omega,show Nat.ble 1 ([32]:Str).length=true by rfl]
    simp only [Bool.and_self,ni]
    unfold RZ
    rw [Uh (Nu h.at_.1) fun y hy=>by
      rcases List.mem_cons.1 hy with rfl | hy
      · exact d3
      · obtain ⟨c,hc,rfl⟩:=List.mem_map.1 hy;exact (val_ok (h.f c hc)).2]
  unfold sN
  rw [es,bS,dn,dF (by simp only [List.length_cons];omega),nN]
  generalize hv:(Lib.itoa x.At :: (lJ x.Op).word :: (lJ x.Op).fields.map (IX x))=vs at *
  have hvl:vs.length=2+(lJ x.Op).fields.length:=by rw [← hv];simp;omega
  have i0:idx vs 0=some (Lib.itoa x.At):=by rw [← hv];rfl
  have i1:idx vs 1=some (lJ x.Op).word:=by rw [← hv];rfl
  have i2:UK vs 2 (vs.length:Int)=some ((lJ x.Op).fields.map (IX x)):=by
    have:=Vs (l:=vs) (a:=2) (b:=vs.length) (by omega) (Nat.le_refl _)
    rw [List.take_length] at this
    refine this.trans ?_
    rw [← hv];rfl
  rw [i0,bS,Kw h.at_.1 h.at_.2,bS,OX,bS]
  have key:∀ (k i M:Nat),i+k=x.Op.toNat→k<M→eF (lC N vs (x.At,true) Bl) M (((⟨0,0,[],[],[],0,0,0⟩:GEvent),(i:Int)))=some (.inr (KF x,0)):=by
    intro k
    induction k with
    | zero =>
      intro i M hi hM
      obtain ⟨M,rfl⟩:∃ m,M=m+1:=⟨M - 1,by omega⟩
      have hii:(i:Int)=x.Op:=by omega
      have e:lC N vs (x.At,true) Bl (((⟨0,0,[],[],[],0,0,0⟩:GEvent),(i:Int)))=some (.inr (Sum.inr (KF x,0))):=by
        unfold lC
        simp only []
        rw [dn,show ((Bl.length:Int))=12 by decide,dT (by omega),ni,hii,Kv ho0 ho1,bS,i1,bS,Ky,dT rfl,qU,hvl,w64 (by omega) (by omega),dT (by omega)]
        simp only [Bool.not_true,Bool.or_self,nN]
        rw [← hvl,i2,bS]
        have hl:=Zb hN (x:=x) (d:=lJ x.Op) (by omega) h.f (lJ x.Op).fields.length 0 ⟨x.At,x.Op,[],[],[],0,0,0⟩ N (by omega) (by omega)
        rw [List.drop_zero,jJd ho0 ho1] at hl
        have hl:eF (jf N (lJ x.Op) ((lJ x.Op).fields.map (IX x))) N (true,0,(⟨x.At,x.Op,[],[],[],0,0,0⟩:GEvent))=some (true,KF x):=hl
        rw [hl];rfl
      rw [eF,e]
    | succ k ih =>
      intro i M hi hM
      obtain ⟨M,rfl⟩:∃ m,M=m+1:=⟨M - 1,by omega⟩
      have hi12:i<12:=by omega
      have hne:¬ (lJ (i:Int)).word=(lJ x.Op).word:=by
        have:=List.all_eq_true.1 (List.all_eq_true.1 Zc i (List.mem_range.2 hi12)) x.Op.toNat (List.mem_range.2 (by omega))
        rw [dF (show ¬ i=x.Op.toNat by omega),Bool.false_or,Bool.not_eq_true',decide_eq_false_iff_not] at this
        exact this
      have e:lC N vs (x.At,true) Bl (((⟨0,0,[],[],[],0,0,0⟩:GEvent),(i:Int)))=some (.inl (((⟨0,0,[],[],[],0,0,0⟩:GEvent),((i+1:Nat):Int)))):=by
        unfold lC
        simp only []
        rw [dn,show ((Bl.length:Int))=12 by decide,dT (by omega),ni,Kv (by omega) (by omega),bS,i1,bS,Ky,dF hne]
        simp only [Bool.not_false,Bool.true_or,ni]
        rw [rH (by omega)]
      rw [eF,e]
      exact ih (i+1) M (by omega) (by omega)
  have h0:eF (lC N vs (x.At,true) Bl) N (((⟨0,0,[],[],[],0,0,0⟩:GEvent),0))=some (.inr (KF x,0)):=key x.Op.toNat 0 N (by omega) (by omega)
  rw [h0];rfl
end Go.KB
