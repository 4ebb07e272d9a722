/- The reference's check of sheets that are a chain. Trees of any size: their nodes and their leaves. The program reads a tree of any size. The program's check of sheets: what it says where it finds no fault. Rectangles apart, shares used, sheets checked by the reference. No condition. -/
import Derived.Test.YtehmpjjbmldcnaaPZw
import Derived.Test.YtehmpjjbmldcnaaPRto
namespace Go.KB
set_option linter.unusedVariables false
set_option maxRecDepth 100000
def cnt (i:Nat) (xs:List ah):Nat:=xs.countP fun x=>decide (x.piece=(i:Int))
theorem tq {i:Nat} {xs ys:List ah}:cnt i (xs ++ ys)=cnt i xs+cnt i ys:=List.countP_append
theorem Jr {i:Nat} {x:ah}:cnt i [x]=if x.piece=(i:Int) then 1 else 0:=by
 unfold cnt
 rw [List.countP_singleton]
 by_cases h:x.piece=(i:Int)
 ·rw [dT h,if_pos h];rfl
 ·rw [dF h,if_neg h];rfl
theorem cnt_le {i:Nat} {xs:List ah}:cnt i xs≤xs.length:=List.countP_le_length
theorem Pj {i j:Nat} {xs:List ah} (h:j<xs.length):cnt i (xs.take (j+1))=cnt i (xs.take j)+if xs[j]!.piece=(i:Int) then 1 else 0:=by
 rw [List.take_succ_eq_append_getElem h,tq,Jr,oU h]
def cb (S i:Nat):Nat:=if S.testBit i=true then 1 else 0
theorem RH {a b i:Nat} (h:a &&& b=0):cb (a ||| b) i=cb a i+cb b i:=by
 have h1:(a.testBit i&&b.testBit i)=false:=by rw [← Nat.testBit_and,h,Nat.zero_testBit]
 unfold cb
 rw [Nat.testBit_or]
 cases ha:a.testBit i <;> cases hb:b.testBit i <;> simp_all
theorem U7 {i j:Nat}:cb (2 ^ i) j=if i=j then 1 else 0:=by
 unfold cb
 rw [Nat.testBit_two_pow]
 by_cases h:i=j <;> simp [h]
theorem NW {i:Nat}:cb 0 i=0:=by unfold cb;rw [Nat.zero_testBit];rfl
def DT (l:List bC) (x:ah):Prop:=∃ i,i<l.length∧x.piece=(i:Int)∧((x.turned=true∧l[i]!.Turn=true∧l[i]!.H≤x.xR.W∧l[i]!.W≤x.xR.H)∨(x.turned=false∧l[i]!.W≤x.xR.W∧l[i]!.H≤x.xR.H))
def LvR (l:List bC) (k:Int) (S:Nat) (c:bV) (r:bg):Prop:=∃ xs:List ah,(∀ M,S≤M→jA M c r k=some (xs.map LH,true))∧xs.length≤S∧(∀ x ∈ xs,DT l x)∧∀ i,cnt i xs=cb S i
theorem U8 {l:List bC} {k:Int} {i:Nat} {t:Bool} {r:bg} (hi:i<l.length) (h1:1≤r.W) (h2:1≤r.H) (hf:(t=true∧l[i]!.Turn=true∧l[i]!.H≤r.W∧l[i]!.W≤r.H)∨(t=false∧l[i]!.W≤r.W∧l[i]!.H≤r.H)):LvR l k (2 ^ i) ⟨(i:Int),t,false,0,[],[]⟩ r:=by
  refine ⟨[⟨(i:Int),t,r⟩],fun M hM=>?_,Nat.two_pow_pos i,fun x hx=>?_,fun j=>?_⟩
  · obtain ⟨M, rfl⟩ : ∃ x, M = x + 1 := ⟨M - 1, by have := Nat.two_pow_pos i; omega⟩
    rw [KI h1 h2 (by rw [Bq];simp [Js])]
    simp only []
    rw [if_neg (by omega),if_pos ⟨trivial,trivial⟩,if_neg (by simp),if_neg (by omega)];rfl
  · rw [List.mem_singleton] at hx
    subst hx
    exact ⟨i,hi,rfl,hf⟩
  · rw [Jr,U7]
    by_cases h:i=j
    · subst h;rw [if_pos rfl,if_pos rfl]
    · rw [if_neg (by simp only [];omega),if_neg h]
theorem U9 {l:List bC} {k:Int} {a b:Nat} {c d:bV} {ac:Bool} {at_:Int} {r:bg} (h1:1≤r.W) (h2:1≤r.H) (ha:0<a) (hb:0<b) (ha32:a<32) (EM:b<32) (hd:a &&& b=0) (h3:1≤at_) (h4:at_≤100000) (hn:nT c+1≤2 * a) (hn2:nT d+1≤2 * b)
  (x1:LvR l k a c (DU ⟨-1,false,ac,at_,[c],[d]⟩ r k)) (x2:LvR l k b d (DV ⟨-1,false,ac,at_,[c],[d]⟩ r k)):LvR l k (a ||| b) ⟨-1,false,ac,at_,[c],[d]⟩ r:=by
 have hlim:lim ≥ 10000000:=by decide
 obtain ⟨d1,_⟩:=rX a ha32 b EM hd
 obtain ⟨xs,p1,p2,p3,p4⟩:=x1
 obtain ⟨ys,q1,q2,q3,q4⟩:=x2
 have hT:nT ⟨-1,false,ac,at_,[c],[d]⟩≤1000000:=by
  rw [Bq];simp only [Js];omega
 refine ⟨xs ++ ys,fun M hM=>?_,by rw [List.length_append];omega,fun x hx=>(List.mem_append.1 hx).elim (p3 x) (q3 x),fun i=>by rw [tq,p4,q4,RH hd]⟩
 obtain ⟨M,rfl⟩:∃ x,M=x+1:=⟨M - 1,by omega⟩
 rw [KI h1 h2 hT,if_neg (by simp only [];omega),if_neg (by simp),if_neg (by unfold Bv;simp;omega),show ([c]:List bV)[0]! = c from rfl,show ([d]:List bV)[0]! = d from rfl,p1 M (by omega),bS,q1 M (by omega),bS,qo (by simp only [List.length_map];omega),bS,List.map_append];rfl
theorem Ze {l:List bC} {k:Int} (p:LJ l k) {S:Nat} {t:af} (h:Fv l k S t):∃ c,(∀ M,S≤M→iR M t=some c)∧nT c+1≤2 * S∧∀ r:bg,t.w≤r.W→r.W≤100000→t.h≤r.H→r.H≤100000→LvR l k S c r:=by
  have hn:=uz p.n5;have k0:=p.k0;have k1:=p.k1
  induction h with
  | one i hi =>
    have hw:=p.w i hi
    have h2:=Nat.two_pow_pos i
    refine ⟨⟨(i:Int),false,false,0,[],[]⟩,fun M hM=>?_,by rw [Bq];simp only [Js];omega,fun r r1 r2 r3 r4=>U8 hi (by simp only [] at r1;omega) (by simp only [] at r3;omega) (.inr ⟨rfl,r1,r3⟩)⟩
    obtain ⟨M,rfl⟩:∃ x,M=x+1:=⟨M - 1,by omega⟩
    rfl
  | turn i hi ht =>
    have hw:=p.w i hi
    have h2:=Nat.two_pow_pos i
    refine ⟨⟨(i:Int),true,false,0,[],[]⟩,fun M hM=>?_,by rw [Bq];simp only [Js];omega,fun r r1 r2 r3 r4=>U8 hi (by simp only [] at r1;omega) (by simp only [] at r3;omega) (.inl ⟨rfl,ht,r1,r3⟩)⟩
    obtain ⟨M,rfl⟩:∃ x,M=x+1:=⟨M - 1,by omega⟩
    rfl
  | beside a b x y hx hy hd h1 h2 =>
    obtain ⟨c,hc,nc,lc⟩:=h1
    obtain ⟨d,hd2,nd,ld⟩:=h2
    have pa:=hx.pos p;have pb:=hy.pos p
    obtain ⟨d1,_⟩:=rX a (by omega) b (by omega) hd
    refine ⟨⟨-1,false,false,x.w,[c],[d]⟩,fun M hM=>?_,by rw [Bq];simp only [Js];omega,fun r r1 r2 r3 r4=>?_⟩
    · obtain ⟨M, rfl⟩ : ∃ x, M = x + 1 := ⟨M - 1, by omega⟩
      show iI M (iR M) _=_
      unfold iI
      simp only []
      rw [show aB .eql (([x,y]:List af).length:Int) 0=false from rfl,iT,show idx [x,y] 0=some x from rfl,show idx [x,y] 1=some y from rfl,bS,iT,bS,hc M (by omega),bS,bS,hd2 M (by omega)];rfl
    · simp only [] at r1 r3
      refine U9 (by omega) (by omega) (by omega) (by omega) (by omega) (by omega) hd (by omega) (by omega) nc nd ?_ ?_
      · refine lc _ ?_ ?_ ?_ ?_ <;> · simp only [DU,iT];omega
      · have e : IntKind.i64.wrap (IntKind.i64.wrap (r.W - x.w) - k) = r.W - x.w - k := by rw [yM (n := r.W - x.w) (by omega) (by omega), yM (by omega) (by omega)]
        refine ld _ ?_ ?_ ?_ ?_ <;> · simp only [DV,iT];omega
  | above a b x y hx hy hd h1 h2 =>
    obtain ⟨c,hc,nc,lc⟩:=h1
    obtain ⟨d,hd2,nd,ld⟩:=h2
    have pa:=hx.pos p;have pb:=hy.pos p
    obtain ⟨d1,_⟩:=rX a (by omega) b (by omega) hd
    refine ⟨⟨-1,false,true,x.h,[c],[d]⟩,fun M hM=>?_,by rw [Bq];simp only [Js];omega,fun r r1 r2 r3 r4=>?_⟩
    · obtain ⟨M, rfl⟩ : ∃ x, M = x + 1 := ⟨M - 1, by omega⟩
      show iI M (iR M) _=_
      unfold iI
      simp only []
      rw [show aB .eql (([x,y]:List af).length:Int) 0=false from rfl,iT,show idx [x,y] 0=some x from rfl,show idx [x,y] 1=some y from rfl,bS,iP,bS,bS,hc M (by omega),bS,bS,hd2 M (by omega)];rfl
    · simp only [] at r1 r3
      refine U9 (by omega) (by omega) (by omega) (by omega) (by omega) (by omega) hd (by omega) (by omega) nc nd ?_ ?_
      · refine lc _ ?_ ?_ ?_ ?_ <;> · simp only [DU,iP];omega
      · have e : IntKind.i64.wrap (IntKind.i64.wrap (r.H - x.h) - k) = r.H - x.h - k := by rw [yM (n := r.H - x.h) (by omega) (by omega), yM (by omega) (by omega)]
        refine ld _ ?_ ?_ ?_ ?_ <;> · simp only [DV,iP];omega
def ShR (l:List bC) (k:Int) (ps:List GPlate) (N i:Nat) (c:bV) (xs:List ah):Prop :=
 i<ps.length∧(∃ rs,qL N ps[i]! c k=some (rs,0))∧jA N c ⟨0,0,ps[i]!.W,ps[i]!.H⟩ k=some (xs.map LH,true)∧(∀ x ∈ xs,DT l x)∧xs.length≤1000
theorem Va {N:Nat} {xs:List ah} (hx:xs.length≤1000000 - 1) (hN:4000000≤N):∃ rs,aX (ja N) N (xs.map LH,[])=some rs:=by
 obtain ⟨π,p1,p2⟩:=MN (L0:=xs) (φ:=fun y0 y1=>jk N y0 y1) (fun x y=>cmpC) (fun x y=>by
  by_cases a:x.piece<y.piece
  ·rw [if_pos a,dT a];rfl
  ·by_cases b : y.piece < x.piece
   ·rw [if_neg a,if_pos b,dF a];rfl
   ·rw [if_neg a,if_neg b,dF a];rfl) (by omega) hN
 exact ⟨_,TB (by omega) (by omega) p2⟩
theorem WY {l:List bC} {k:Int} {ps:List GPlate} {N i S:Nat} {c:bV} (p:LJ l k) (st:WZ ps) (hN:2 ^ 64≤N) (hi:i<ps.length) (h:Fit l k ps[i]! S c):∃ xs,ShR l k ps N i c xs∧∀ i,cnt i xs=cb S i:=by
 obtain ⟨t,t1,t2,t3,t4⟩:=h
 have hn:=uz p.n5
 have hok:=st.ok i hi
 obtain ⟨c',c1,c2,c3⟩:=Ze p t1
 have hS:=t1.pos p
 have he:c'=c:=by
  have:=c1 100 (by omega)
  rw [t4 100 (Nat.le_refl _)] at this
  exact (Option.some.inj this).symm
 subst he
 have hok':=hok
 unfold FM at hok'
 obtain ⟨xs,x1,x2,x3,x4⟩:=c3 ⟨0,0,ps[i]!.W,ps[i]!.H⟩ t2 hok'.1.2 t3 hok'.2.1.2
 have hl:=x1 N (by omega)
 refine ⟨xs,⟨hi,?_,hl,x3,by omega⟩,x4⟩
 obtain ⟨rs,hr⟩:=Va (N:=N) (xs:=xs) (by omega) (by omega)
 refine ⟨rs,?_⟩
 unfold qL
 have n1:jQ N c' 200=_:=Vb 200 N (by omega) (by omega) c'
 rw [Ir,if_pos hok,bS,show (!aB .neq (0:Int) 0)=true from rfl,iP,RI,if_pos ⟨p.k0,p.k1⟩,bS,show (aB .neq (0:Int) 0||aB .neq (0:Int) 0)=false from rfl,iT,n1,bS,fE,dF (by omega),iT,hl,bS]
 simp only []
 rw [Bool.not_true,iT,hr];rfl
inductive Shs (l:List bC) (k:Int) (ps:List GPlate) (N:Nat):List dR→List ah→Int→Prop
 | nil:Shs l k ps N [] [] 0
 | cons (i:Nat) (c:bV) (xs:List ah) (sh:List dR) (ys:List ah) (q:Int):ShR l k ps N i c xs→Shs l k ps N sh ys q→Shs l k ps N (⟨(i:Int),c⟩ :: sh) (xs ++ ys) (q+ps[i]!.Price)
theorem pc_or:∀ a,a<32→∀ b,b<32→a &&& b=0→pc (a ||| b)=pc a+pc b:=fun a ha b hb =>
 of_decide_eq_true (zU (zU (p:=fun a=>(List.range 32).all fun b=>decide (a &&& b=0→pc (a ||| b)=pc a+pc b)) (by decide +kernel) a ha) b hb)
theorem Zf:∀ a,a<32→0<a→1≤pc a:=fun a ha =>
 of_decide_eq_true (zU (p:=fun a=>decide (0<a→1≤pc a)) (by decide +kernel) a ha)
theorem pc_le (a:Nat):pc a≤5:=by unfold pc;omega
theorem WV {l:List bC} {k:Int} {ps:List GPlate} {N:Nat} (p:LJ l k) (st:WZ ps) (hN:2 ^ 64≤N) {m:Nat} {sh:List dR} {q:Int} (h:X4 l k ps m sh q):∃ ys,Shs l k ps N sh ys q∧(∀ i,cnt i ys=cb m i)∧sh.length≤pc m∧m<2 ^ l.length∧0≤q∧q≤sh.length * 1000000000:=by
 have hn:=uz p.n5
 induction h with
 | nil=>exact ⟨[],.nil,fun i=>by rw [NW];rfl,Nat.zero_le _,by omega,Int.le_refl _,by simp⟩
 | cons i S r c sh q hi hf hd _ ih =>
  obtain ⟨ys,y1,y2,y3,y4,y5,y6⟩:=ih
  obtain ⟨xs,x1,x2⟩:=WY p st hN hi hf
  obtain ⟨t,t1,_⟩:=hf
  have hS:=t1.pos p
  have hok:=st.ok i hi
  unfold FM at hok
  have:=pc_or S (by omega) r (by omega) hd
  have:=Zf S (by omega) hS.2.2.1
  refine ⟨xs ++ ys,.cons i c xs sh ys q x1 y1,fun j=>by rw [tq,x2,y2,RH hd],by rw [List.length_cons];omega,Pm hS.2.2.2 y4,by omega,by rw [List.length_cons];omega⟩
def yY (cs:List Int) (n:Nat) (f:Nat→Nat):Prop:=cs.length=n∧∀ i,i<n→cs[i]! = ((f i:Nat):Int)
theorem yY.step {cs:List Int} {n p:Nat} {f:Nat→Nat} (h:yY cs n f) (hp:p<n):yY (cs.set p (((f p+1:Nat)):Int)) n (fun i=>f i+if (p:Int)=(i:Int) then 1 else 0):=by
  refine ⟨by simpa using h.1,fun i hi=>?_⟩
  have hl:=h.1
  by_cases e:p=i
  · subst e
    rw [oU (by simpa using (by omega:p<cs.length)),List.getElem_set_self]
    simp
  · rw [oU (by simpa using (by omega : i < cs.length)), List.getElem_set_ne e, ← oU (by omega), h.2 i hi]
    simp only [show ¬ (p:Int)=(i:Int) by omega,if_false,Nat.add_zero]
theorem yY.congr {cs:List Int} {n:Nat} {f g:Nat→Nat} (h:yY cs n f) (e:∀ i,f i=g i):yY cs n g:=⟨h.1,fun i hi=>by rw [← e];exact h.2 i hi⟩
theorem rfit {l:List bC} {N:Nat} {x:ah} {i:Nat} (hf:DT l x) (hx:x.piece=(i:Int)):wZ N l[i]! (LH x)=some true:=by
 obtain ⟨j,hj,hp,hc⟩:=hf
 have:j=i:=by omega
 subst this
 unfold wZ LH
 simp only []
 rw [jD,jD,jD,jD]
 rcases hc with ⟨h1,h2,h3,h4⟩ | ⟨h1,h2,h3⟩
 ·rw [h1,iP,h2,dT h3,dT h4];rfl
 ·rw [h1,iT,dT h2,dT h3];simp
theorem Zg {l:List bC} {N:Nat} {xs:List ah} {b d:Bool} {cs:List Int} {f:Nat→Nat} (hl:l.length≤1000000) (hf:∀ x ∈ xs,DT l x) (hc:yY cs l.length f) (hb:∀ i,f i≤1000000) (hx:xs.length≤1000000) (hN:2 ^ 64≤N) :
  ∃ cs',aX (jG N l (xs.map LH,d)) N (b,cs,0)=some (b,cs')∧yY cs' l.length (fun i=>f i+cnt i xs):=by
 obtain ⟨out,ho,cs',rfl,h⟩:=jb (f:=jG N l (xs.map LH,d)) (I:=fun s=>∃ j:Nat,s.2.2=(j:Int)∧j≤xs.length∧s.1=b∧yY s.2.1 l.length (fun i=>f i+cnt i (xs.take j))) (μ:=fun s=>xs.length - s.2.2.toNat) (post:=fun out=>∃ cs',out=(b,cs')∧yY cs' l.length (fun i=>f i+cnt i xs)) (by
  rintro ⟨b',cs1,sj⟩ ⟨j,hj,hjl,hb',h1⟩
  simp only at hj hb' h1
  subst hj hb'
  by_cases hlt:j<xs.length
  ·left
   have hfx:=hf xs[j]! (by rw [oU hlt];exact List.getElem_mem hlt)
   obtain ⟨i,hi,hp,_⟩:=id hfx
   have hm:(xs.map LH).length=xs.length:=List.length_map _
   have hv:cs1[i]! = ((f i+cnt i (xs.take j):Nat):Int):=h1.2 i hi
   have hcl:cnt i (xs.take j)≤xs.length:=Nat.le_trans cnt_le (by rw [List.length_take];omega)
   have hbi:=hb i
   have hw:IntKind.i64.wrap (cs1[i]! + 1)=((f i+cnt i (xs.take j)+1:Nat):Int):=by rw [hv,lY (by omega)]
   refine ⟨(b',cs1.set i ((f i+cnt i (xs.take j)+1:Nat):Int),((j+1:Nat):Int)),?_,⟨j+1,rfl,by omega,rfl,?_⟩,?_⟩
   ·unfold jG
    simp only []
    have hpc:(LH xs[j]!).Piece=(i:Int):=hp
    rw [hm,aW,dT (by omega),iP,jK (by rw [hm];exact hlt),KJ hlt,bS,hpc,jD,dF (by omega),Bool.not_false,iP,jK hi,bS,iP,bS,iP,rfit hfx hp,bS,Bool.not_true,Bool.or_self,iT,jK (by rw [h1.1];exact hi),bS,bS,hw,Int.toNat_natCast,lY (by omega)]
   ·exact (h1.step hi).congr fun i'=>by rw [Pj hlt,hp,Nat.add_assoc]
   ·show xs.length - ((j+1:Nat):Int).toNat<xs.length - ((j:Nat):Int).toNat
    simp only [Int.toNat_natCast];omega
  ·right
   have:j=xs.length:=by omega
   subst this
   refine ⟨(b',cs1),?_,cs1,rfl,by rw [List.take_length] at h1;exact h1⟩
   unfold jG
   simp only []
   rw [List.length_map,aW,dF (by omega),iT]) N (b,cs,0) ⟨0,rfl,Nat.zero_le _,rfl,by simpa [cnt] using hc⟩ (by simp only [];omega)
 exact ⟨cs',ho,h⟩
theorem TD {α:Type} [Inhabited α] {l:List α} {j:Nat} {x:α} {r:List α} (h:l.drop j=x :: r):j<l.length∧l[j]! = x∧l.drop (j+1)=r:=by
 have hj:j<l.length:=by
  refine Nat.lt_of_not_le fun hle=>?_
  rw [List.drop_eq_nil_of_le hle] at h;cases h
 rw [List.drop_eq_getElem_cons hj] at h
 injection h with h1 h2
 exact ⟨hj,by rw [oU hj,h1],h2⟩
theorem Zh {l:List bC} {k:Int} {ps:List GPlate} {N:Nat} (p:LJ l k) (st:WZ ps) (hN:2 ^ 64≤N) {all:List dR} (hall:all.length≤1000) {sh:List dR} {ys:List ah} {q:Int} (h:Shs l k ps N sh ys q) :
  ∀ (j M:Nat) (pr:Int) (cs:List Int) (f:Nat→Nat),all.drop j=sh→sh.length<M→0≤pr→pr≤j * 1000000000→yY cs l.length f→(∀ i,f i≤j * 1000)→∃ cs',aX (iZ N l ps all k) M (pr,true,cs,(j:Int))=some (.inl (pr+q,true,cs'))∧yY cs' l.length (fun i=>f i+cnt i ys):=by
 have hl:=p.n5
 have hps:=st.n3
 induction h with
 | nil =>
  intro j M pr cs f hd hM h0 h1 hc hf
  obtain ⟨M,rfl⟩:∃ x,M=x+1:=⟨M - 1,by omega⟩
  have hj:all.length≤j:=List.drop_eq_nil_iff.1 hd
  refine ⟨cs,?_,by simpa [cnt] using hc⟩
  rw [aX]
  have:iZ N l ps all k (pr,true,cs,(j:Int))=some (.inr (.inl (pr,true,cs))):=by
   unfold iZ
   simp only []
   rw [aW,dF (by omega),iT]
  rw [this,Int.add_zero]
 | cons i c xs sh ys q hs _ ih =>
  intro j M pr cs f hd hM h0 h1 hc hf
  obtain ⟨M,rfl⟩:∃ x,M=x+1:=⟨M - 1,by omega⟩
  obtain ⟨hj,hat,hd'⟩:=TD hd
  obtain ⟨s1,⟨rs,s2⟩,s3,s4,s5⟩:=hs
  have hok:=st.ok i s1
  unfold FM at hok
  obtain ⟨cs1,e1,e2⟩:=Zg (N:=N) (b:=true) (d:=true) (by omega) s4 hc (fun i=>by have:=hf i;omega) (by omega) hN
  obtain ⟨cs',e3,e4⟩:=ih (j+1) M (pr+ps[i]!.Price) cs1 (fun i=>f i+cnt i xs) hd' (by rw [List.length_cons] at hM;omega) (by omega) (by omega) e2 (fun i'=>by have:=hf i';have:=cnt_le (i:=i') (xs:=xs);omega)
  refine ⟨cs',?_,?_⟩
  ·rw [aX]
   have:iZ N l ps all k (pr,true,cs,(j:Int))=some (.inl (pr+ps[i]!.Price,true,cs1,((j+1:Nat):Int))):=by
    unfold iZ
    simp only []
    rw [aW,dT (by omega),iP,jK hj,hat,bS,aW,dF (by simp only [];omega),Bool.not_false,iP,bS,Bool.false_or,jD,dF (by simp only [];omega),iT,bS]
    simp only []
    rw [jK s1,bS,bS]
    simp only []
    rw [s2,bS]
    simp only []
    rw [show aB .neq (0:Int) 0=false from rfl,iT,bS]
    simp only []
    rw [s3,bS,e1,bS,yM (by omega) (by omega),lY (by omega)]
   rw [this]
   show aX _ M _=_
   rw [e3]
   congr 3
   omega
  ·exact e4.congr fun i'=>by rw [tq,Nat.add_assoc]
end Go.KB
namespace Go.KB
set_option linter.unusedVariables false
set_option maxRecDepth 100000
inductive Tr (k:Int):Nat→bg→List ah→Prop
 | none (r:bg):Tr k 1 r []
 | leaf (r:bg) (i:Int) (t:Bool):0≤i→Tr k 1 r [⟨i,t,r⟩]
 | up (a:Int) (m n:Nat) (r:bg) (xs ys:List ah):1≤a→a+k+1≤r.H→Tr k m ⟨r.X,r.Y,r.W,a⟩ xs→Tr k n ⟨r.X,r.Y+a+k,r.W,r.H - a - k⟩ ys→Tr k (1+m+n) r (xs ++ ys)
 | side (a:Int) (m n:Nat) (r:bg) (xs ys:List ah):1≤a→a+k+1≤r.W→Tr k m ⟨r.X,r.Y,a,r.H⟩ xs→Tr k n ⟨r.X+a+k,r.Y,r.W - a - k,r.H⟩ ys→Tr k (1+m+n) r (xs ++ ys)
theorem NY {W H a k:Int} (hW:1≤W) (hk:0≤k):W * a+W * (H - a - k)≤W * H:=by
 have h1:W * (H - a - k)=W * H - W * a - W * k:=by rw [Int.mul_sub,Int.mul_sub]
 have h2:0≤W * k:=Int.mul_nonneg (by omega) hk
 omega
theorem Iu {W H a k:Int} (hH:1≤H) (hk:0≤k):a * H+(W - a - k) * H≤W * H:=by
 have h1:(W - a - k) * H=W * H - a * H - k * H:=by rw [Int.sub_mul,Int.sub_mul]
 have h2:0≤k * H:=Int.mul_nonneg hk (by omega)
 omega
theorem vY {W H:Int} (hW:1≤W) (hH:1≤H):1≤W * H:=by
 have:=Int.mul_le_mul hW hH (by omega) (by omega)
 simpa using this
theorem tr_n {k:Int} (hk:0≤k) {n:Nat} {r:bg} {xs:List ah} (h:Tr k n r xs):1≤r.W→1≤r.H→(n:Int)+1≤2 * (r.W * r.H):=by
 induction h with
 | none r=>intro h1 h2;have:=vY h1 h2;omega
 | leaf r i t _=>intro h1 h2;have:=vY h1 h2;omega
 | up a m n r xs ys ha hb _ _ ih1 ih2 =>
  intro h1 h2
  have e1:=ih1 h1 ha
  have e2:=ih2 h1 (by simp only [];omega)
  have:=NY (W:=r.W) (H:=r.H) (a:=a) (k:=k) h1 hk
  simp only [] at e1 e2
  omega
 | side a m n r xs ys ha hb _ _ ih1 ih2 =>
  intro h1 h2
  have e1:=ih1 ha h2
  have e2:=ih2 (by simp only [];omega) h2
  have:=Iu (W:=r.W) (H:=r.H) (a:=a) (k:=k) h2 hk
  simp only [] at e1 e2
  omega
theorem QL {k:Int} {n:Nat} {r:bg} {xs:List ah} (h:Tr k n r xs):xs.length≤n:=by
 induction h with
 | none r=>exact Nat.zero_le _
 | leaf r i t _=>exact Nat.le_refl _
 | up a m n r xs ys ha hb _ _ ih1 ih2=>rw [List.length_append];omega
 | side a m n r xs ys ha hb _ _ ih1 ih2=>rw [List.length_append];omega
theorem Vd {k:Int} {n:Nat} {r:bg} {xs:List ah} (h:Tr k n r xs):∀ x ∈ xs,0≤x.piece:=by
 induction h with
 | none r=>intro x hx;cases hx
 | leaf r i t hi=>intro x hx;rw [List.mem_singleton] at hx;subst hx;exact hi
 | up a m n r xs ys ha hb _ _ ih1 ih2=>exact fun x hx=>(List.mem_append.1 hx).elim (ih1 x) (ih2 x)
 | side a m n r xs ys ha hb _ _ ih1 ih2=>exact fun x hx=>(List.mem_append.1 hx).elim (ih1 x) (ih2 x)
def Ins (r x:bg):Prop:=r.X≤x.X∧r.Y≤x.Y∧1≤x.W∧1≤x.H∧x.X+x.W≤r.X+r.W∧x.Y+x.H≤r.Y+r.H
theorem Pn {k:Int} (hk:0≤k) {n:Nat} {r:bg} {xs:List ah} (h:Tr k n r xs):1≤r.W→1≤r.H→∀ x ∈ xs,Ins r x.xR:=by
  induction h with
  | none r=>intro _ _ x hx;cases hx
  | leaf r i t hi=>intro h1 h2 x hx;rw [List.mem_singleton] at hx;subst hx;unfold Ins;simp only [];omega
  | up a m n r xs ys ha hb _ _ ih1 ih2 =>
    intro h1 h2 x hx
    rcases List.mem_append.1 hx with hx | hx
    · have:=ih1 h1 ha x hx
      unfold Ins at *;simp only [] at this;omega
    · have := ih2 h1 (by simp only []; omega) x hx
      unfold Ins at *;simp only [] at this;omega
  | side a m n r xs ys ha hb _ _ ih1 ih2 =>
    intro h1 h2 x hx
    rcases List.mem_append.1 hx with hx | hx
    · have:=ih1 ha h2 x hx
      unfold Ins at *;simp only [] at this;omega
    · have := ih2 (by simp only []; omega) h2 x hx
      unfold Ins at *;simp only [] at this;omega
def W9 (k:Int) (x y:bg):Prop:=x.X+x.W+k≤y.X∨y.X+y.W+k≤x.X∨x.Y+x.H+k≤y.Y∨y.Y+y.H+k≤x.Y
theorem W9.symm {k:Int} {x y:bg} (h:W9 k x y):W9 k y x:=by unfold W9 at *;omega
theorem Zi {k:Int} (hk:0≤k) {n:Nat} {r:bg} {xs:List ah} (h:Tr k n r xs):1≤r.W→1≤r.H→xs.Pairwise fun x y=>W9 k x.xR y.xR:=by
 induction h with
 | none r=>intro _ _;exact List.Pairwise.nil
 | leaf r i t hi=>intro _ _;exact List.pairwise_singleton _ _
 | up a m n r xs ys ha hb t1 t2 ih1 ih2 =>
  intro h1 h2
  rw [List.pairwise_append]
  refine ⟨ih1 h1 ha,ih2 h1 (by simp only [];omega),fun x hx y hy=>?_⟩
  have i1:=Pn hk t1 h1 ha x hx
  have i2:=Pn hk t2 h1 (by simp only [];omega) y hy
  unfold Ins at i1 i2;simp only [] at i1 i2
  unfold W9;omega
 | side a m n r xs ys ha hb t1 t2 ih1 ih2 =>
  intro h1 h2
  rw [List.pairwise_append]
  refine ⟨ih1 ha h2,ih2 (by simp only [];omega) h2,fun x hx y hy=>?_⟩
  have i1:=Pn hk t1 ha h2 x hx
  have i2:=Pn hk t2 (by simp only [];omega) h2 y hy
  unfold Ins at i1 i2;simp only [] at i1 i2
  unfold W9;omega
theorem Zj {l:List bC} {k:Int} (p:LJ l k) {n:Nat} {r:bg} {xs:List ah} (h:Tr k n r xs):(∀ x ∈ xs,DT l x)→(∀ i,cnt i xs≤1)→∃ S,S<2 ^ l.length∧(∀ i,cnt i xs=cb S i)∧(S=0∨∃ t,Fv l k S t∧t.w≤r.W∧t.h≤r.H):=by
 have hn:=uz p.n5
 have comb:∀ {xs ys:List ah} {a b:Nat},a<2 ^ l.length→b<2 ^ l.length→(∀ i,cnt i xs=cb a i)→(∀ i,cnt i ys=cb b i)→(∀ i,cnt i (xs ++ ys)≤1)→a &&& b=0∧a ||| b<2 ^ l.length∧∀ i,cnt i (xs ++ ys)=cb (a ||| b) i:=by
  intro xs ys a b ha hb h1 h2 h3
  have hd:a &&& b=0:=by
   refine Nat.eq_of_testBit_eq fun i=>?_
   rw [Nat.testBit_and,Nat.zero_testBit]
   have:=h3 i
   rw [tq,h1,h2] at this
   unfold cb at this
   cases ha:a.testBit i <;> cases hb:b.testBit i <;> simp_all
  exact ⟨hd,Pm ha hb,fun i=>by rw [tq,h1,h2,RH hd]⟩
 induction h with
 | none r=>intro _ _;exact ⟨0,by omega,fun i=>by rw [NW];rfl,.inl rfl⟩
 | leaf r i t hi =>
  intro hf _
  obtain ⟨j,hj,hp,hc⟩:=hf _ (List.mem_singleton.2 rfl)
  simp only [] at hp hc
  subst hp
  refine ⟨2 ^ j,Nat.pow_lt_pow_right (by decide) hj,fun i=>?_,.inr ?_⟩
  ·rw [Jr,U7]
   by_cases h:j=i
   ·subst h;rw [if_pos rfl,if_pos rfl]
   ·rw [if_neg (by simp only [];omega),if_neg h]
  ·rcases hc with ⟨_,c2,c3,c4⟩ | ⟨_,c2,c3⟩
   ·exact ⟨_,.turn j hj c2,c3,c4⟩
   ·exact ⟨_,.one j hj,c2,c3⟩
 | up a m n r xs ys ha hb _ _ ih1 ih2 =>
  intro hf hc
  obtain ⟨S1,s1,s2,s3⟩:=ih1 (fun x hx=>hf x (List.mem_append_left _ hx)) (fun i=>by have:=hc i;rw [tq] at this;omega)
  obtain ⟨S2,u1,u2,u3⟩:=ih2 (fun x hx=>hf x (List.mem_append_right _ hx)) (fun i=>by have:=hc i;rw [tq] at this;omega)
  obtain ⟨d1,d2,d3⟩:=comb s1 u1 s2 u2 hc
  have hk:=p.k0
  refine ⟨S1 ||| S2,d2,d3,?_⟩
  simp only [] at s3 u3
  rcases s3 with rfl | ⟨x,x1,x2,x3⟩
  ·rw [Nat.zero_or]
   rcases u3 with e | ⟨y,y1,y2,y3⟩
   ·exact .inl e
   ·exact .inr ⟨y,y1,y2,by omega⟩
  ·right
   rcases u3 with rfl | ⟨y,y1,y2,y3⟩
   ·rw [Nat.or_zero];exact ⟨x,x1,x2,by omega⟩
   ·exact ⟨_,.above S1 S2 x y x1 y1 d1,by simp only [];omega,by simp only [];omega⟩
 | side a m n r xs ys ha hb _ _ ih1 ih2 =>
  intro hf hc
  obtain ⟨S1,s1,s2,s3⟩:=ih1 (fun x hx=>hf x (List.mem_append_left _ hx)) (fun i=>by have:=hc i;rw [tq] at this;omega)
  obtain ⟨S2,u1,u2,u3⟩:=ih2 (fun x hx=>hf x (List.mem_append_right _ hx)) (fun i=>by have:=hc i;rw [tq] at this;omega)
  obtain ⟨d1,d2,d3⟩:=comb s1 u1 s2 u2 hc
  have hk:=p.k0
  refine ⟨S1 ||| S2,d2,d3,?_⟩
  simp only [] at s3 u3
  rcases s3 with rfl | ⟨x,x1,x2,x3⟩
  ·rw [Nat.zero_or]
   rcases u3 with e | ⟨y,y1,y2,y3⟩
   ·exact .inl e
   ·exact .inr ⟨y,y1,by omega,y3⟩
  ·right
   rcases u3 with rfl | ⟨y,y1,y2,y3⟩
   ·rw [Nat.or_zero];exact ⟨x,x1,by omega,x3⟩
   ·exact ⟨_,.beside S1 S2 x y x1 y1 d1,by simp only [];omega,by simp only [];omega⟩
def aP (l:List bC) (i:Nat):Int:=l[i]!.W * l[i]!.H
def aL (l:List bC):List ah→Int
 | []=>0
 | x :: xs=>aP l x.piece.toNat+aL l xs
theorem QM {l:List bC} {xs ys:List ah}:aL l (xs ++ ys)=aL l xs+aL l ys:=by
 induction xs with
 | nil=>simp [aL]
 | cons x xs ih=>rw [List.cons_append,aL,aL,ih];omega
theorem Xa {l:List bC} {k:Int} (p:LJ l k) {n:Nat} {r:bg} {xs:List ah} (h:Tr k n r xs):1≤r.W→1≤r.H→(∀ x ∈ xs,DT l x)→aL l xs≤r.W * r.H:=by
 induction h with
 | none r=>intro h1 h2 _;have:=vY h1 h2;unfold aL;omega
 | leaf r i t hi =>
  intro h1 h2 hf
  obtain ⟨j,hj,hp,hc⟩:=hf _ (List.mem_singleton.2 rfl)
  simp only [] at hp hc
  subst hp
  have hw:=p.w j hj
  simp only [aL,aP,Int.toNat_natCast,Int.add_zero]
  rcases hc with ⟨_,_,c3,c4⟩ | ⟨_,c2,c3⟩
  ·rw [Int.mul_comm];exact Int.mul_le_mul c3 c4 (by omega) (by omega)
  ·exact Int.mul_le_mul c2 c3 (by omega) (by omega)
 | up a m n r xs ys ha hb _ _ ih1 ih2 =>
  intro h1 h2 hf
  have e1:=ih1 h1 ha (fun x hx=>hf x (List.mem_append_left _ hx))
  have e2:=ih2 h1 (by simp only [];have:=p.k0;omega) (fun x hx=>hf x (List.mem_append_right _ hx))
  have:=NY (W:=r.W) (H:=r.H) (a:=a) (k:=k) h1 p.k0
  simp only [] at e1 e2
  rw [QM];omega
 | side a m n r xs ys ha hb _ _ ih1 ih2 =>
  intro h1 h2 hf
  have e1:=ih1 ha h2 (fun x hx=>hf x (List.mem_append_left _ hx))
  have e2:=ih2 (by simp only [];have:=p.k0;omega) h2 (fun x hx=>hf x (List.mem_append_right _ hx))
  have:=Iu (W:=r.W) (H:=r.H) (a:=a) (k:=k) h2 p.k0
  simp only [] at e1 e2
  rw [QM];omega
def xw (g:Nat→Int):Nat→Int
 | 0=>0
 | n+1=>xw g n+g n
theorem Pq {g h : Nat → Int} : ∀ n, xw (fun i => g i + h i) n = xw g n + xw h n
  | 0=>rfl
  | n+1=>by simp only [xw,Pq n];omega
theorem zV {g h:Nat→Int}:∀ n,(∀ i,i<n→g i=h i)→xw g n=xw h n
 | 0,_=>rfl
 | n+1,e=>by simp only [xw];rw [zV n (fun i hi=>e i (by omega)),e n (by omega)]
theorem Pv {g : Nat → Int} {j : Nat} : ∀ n, xw (fun i => if j = i then g i else 0) n = if j < n then g j else 0
  | 0=>rfl
  | n+1=>by
    simp only [xw,Pv n]
    by_cases h:j=n
    · subst h;simp
    · by_cases h2 : j < n
      · simp [h,h2,Nat.lt_succ_of_lt h2]
      · simp [h,h2,show ¬ j<n+1 by omega]
theorem Ve {l:List bC}:∀ {xs:List ah},(∀ x ∈ xs,DT l x)→aL l xs=xw (fun i=>(cnt i xs:Int) * aP l i) l.length
 | [],_=>by
  rw [zV (h:=fun _=>0) _ (fun i _=>by simp [cnt])]
  have:∀ n,xw (fun _=>0) n=0:=fun n=>by
   induction n with
   | zero=>rfl
   | succ n ih=>simp [xw,ih]
  rw [this];rfl
 | x :: xs,hf=>by
  obtain ⟨j,hj,hp,_⟩:=hf x List.mem_cons_self
  rw [aL,Ve (fun y hy=>hf y (List.mem_cons_of_mem _ hy)),hp,Int.toNat_natCast]
  have e:∀ i,i<l.length→((cnt i (x :: xs):Nat):Int) * aP l i=(if j=i then aP l i else 0)+(cnt i xs:Int) * aP l i:=fun i _=>by
   rw [show x :: xs=[x] ++ xs from rfl,tq,Jr,hp]
   by_cases h:j=i
   ·subst h;rw [if_pos rfl,if_pos rfl,Int.natCast_add,Int.add_mul];simp
   ·rw [if_neg (by omega),if_neg h];simp
  rw [zV _ e,Pq,Pv,if_pos hj]
end Go.KB
namespace Go.KB
set_option linter.unusedVariables false
set_option maxRecDepth 100000
theorem maxLen_eq:maxLen=9223372036854775807:=by decide
theorem bV.ok.kids {c:bV} (h:c.ok):(c.First.length≤maxLen∧∀ i,i<c.First.length→c.First[i]!.ok)∧c.Rest.length≤maxLen∧∀ i,i<c.Rest.length→c.Rest[i]!.ok:=by
 cases h with
 | mk _ a b d e=>exact ⟨⟨a,fun i hi=>b _ (by rw [oU hi];exact List.getElem_mem hi)⟩,d,fun i hi=>e _ (by rw [oU hi];exact List.getElem_mem hi)⟩
theorem Px {rc:bV→Option Int} {N M:Nat} {l:List bV} {n:Int} (hl:l.length≤maxLen) (hM:l.length<M) (hrc:∀ i,i<l.length→∃ v,rc l[i]! = some v):∃ o,aX (eH N rc l) M (n,0)=some o:=by
 rw [maxLen_eq] at hl
 obtain ⟨o,ho,_⟩:=jb (f:=eH N rc l) (I:=fun s=>∃ i:Nat,s.2=(i:Int)∧i≤l.length) (μ:=fun s=>l.length - s.2.toNat) (post:=fun _=>True) (by
  rintro ⟨n,si⟩ ⟨i,hi,hil⟩
  simp only at hi
  subst hi
  by_cases hlt:i<l.length
  ·by_cases g : 200 < n
   ·right
    refine ⟨.inr n,?_,trivial⟩
    unfold eH
    simp only []
    rw [aW,dT (by omega),iP,jK hlt,bS,fE,dT g,iP]
   ·left
    obtain ⟨v,hv⟩:=hrc i hlt
    refine ⟨(IntKind.i64.wrap (n+v),((i+1:Nat):Int)),?_,⟨i+1,rfl,by omega⟩,?_⟩
    ·unfold eH
     simp only []
     rw [aW,dT (by omega),iP,jK hlt,bS,fE,dF g,iT,hv,bS,lY (by omega)]
    ·show l.length - ((i+1:Nat):Int).toNat<l.length - ((i:Nat):Int).toNat
     simp only [Int.toNat_natCast];omega
  ·right
   refine ⟨.inl n,?_,trivial⟩
   unfold eH
   simp only []
   rw [aW,dF (by omega),iT]) M (n,0) ⟨0,rfl,Nat.zero_le _⟩ (by simp only [];omega)
 exact ⟨o,ho⟩
theorem Vf:∀ (M:Nat) (c:bV),c.ok→nT c+3≤M→∃ v,fG M c=some v:=by
 intro M
 induction M with
 | zero=>intro c _ h;omega
 | succ M ih =>
  intro c hc h
  obtain ⟨⟨k1,k2⟩,k3,k4⟩:=hc.kids
  have hT:=Bq c
  have r1:∀ n,∃ o,aX (eH M (fG M) c.First) M (n,0)=some o:=fun n=>Px k1 (by have:=Ak c.First;omega) (fun i hi=>ih _ (k2 i hi) (by have:=Jt hi;omega))
  have r2:∀ n,∃ o,aX (eH M (fG M) c.Rest) M (n,0)=some o:=fun n=>Px k3 (by have:=Ak c.Rest;omega) (fun i hi=>ih _ (k4 i hi) (by have:=Jt hi;omega))
  obtain ⟨o,ho,_⟩:=jb (f:=fJ M (fG M) c) (I:=fun s=>s.2=0∨s.2=1∨s.2=2) (μ:=fun s=>2 - s.2.toNat) (post:=fun _=>True) (by
   rintro ⟨n,j⟩ hj
   simp only at hj
   rcases hj with rfl | rfl | rfl
   ·obtain ⟨o,ho⟩:=r1 n
    have e:fJ M (fG M) c (n,0)=Sum.elim (fun l10=>some (.inl (l10,1))) (fun r11=>some (.inr (Sum.inr r11))) o:=by
     unfold fJ
     simp only []
     rw [show aB .lss (0:Int) 2=true from rfl,iP,show idx [c.First,c.Rest] 0=some c.First from rfl,bS,ho,bS];rfl
    cases o with
    | inl q=>exact .inl ⟨(q,1),e,.inr (.inl rfl),by simp⟩
    | inr q=>exact .inr ⟨_,e,trivial⟩
   ·obtain ⟨o,ho⟩:=r2 n
    have e:fJ M (fG M) c (n,1)=Sum.elim (fun l10=>some (.inl (l10,2))) (fun r11=>some (.inr (Sum.inr r11))) o:=by
     unfold fJ
     simp only []
     rw [show aB .lss (1:Int) 2=true from rfl,iP,show idx [c.First,c.Rest] 1=some c.Rest from rfl,bS,ho,bS];rfl
    cases o with
    | inl q=>exact .inl ⟨(q,2),e,.inr (.inr rfl),by simp⟩
    | inr q=>exact .inr ⟨_,e,trivial⟩
   ·refine .inr ⟨.inl n,?_,trivial⟩
    unfold fJ
    simp only []
    rw [show aB .lss (2:Int) 2=false from rfl,iT]) M (1,0) (.inl rfl) (by simp only [];have:=KL c;omega)
  show ∃ v,ng M (fG M) c=some v
  unfold ng
  rw [ho,bS]
  cases o with
  | inl q=>exact ⟨q,rfl⟩
  | inr q=>exact ⟨q,rfl⟩
def RB (r:bg):Prop:=0≤r.X∧0≤r.Y∧1≤r.W∧1≤r.H∧r.X+r.W≤100000∧r.Y+r.H≤100000
theorem Zk:∀ (M:Nat) (c:bV) (r:bg) (k:Int),nT c≤M→RB r→0≤k→k≤100→∀ l:List ah,(l.length:Int)+r.W * r.H≤60000000000 →
    ∃ xs b,jM M l c r k=some (l ++ xs,b)∧(xs.length:Int)≤r.W * r.H∧(b=true→Tr k (nT c) r xs):=by
  intro M
  induction M with
  | zero=>intro c r k h;have:=KL c;omega
  | succ M ih =>
    intro c r k h hr k0 k1 l hl
    have hr':=hr
    unfold RB at hr
    have har:=vY hr.2.2.1 hr.2.2.2.1
    rw [Py (M:=M) (c:=c) (by omega) (by omega) (by omega) (by omega) k0 k1 (l:=l) (by omega)]
    by_cases e:c.First=[]∧c.Rest=[]
    · have hT : nT c = 1 := by rw [Bq, e.1, e.2]; rfl
      rw [if_pos e]
      by_cases g:c.At≠0∨c.nS=true∨c.Piece < -1
      · rw [if_pos g];exact ⟨[],false,by rw [List.append_nil],by simp only [List.length_nil];omega,fun x=>by cases x⟩
      · rw [if_neg g]
        by_cases q:0≤c.Piece
        · rw [if_pos q];exact ⟨_,true,rfl,by simp only [List.length_singleton];omega,fun _=>by rw [hT];exact .leaf r _ _ q⟩
        · rw [if_neg q];exact ⟨[],true,by rw [List.append_nil],by simp only [List.length_nil];omega,fun _=>by rw [hT];exact .none r⟩
    · rw [if_neg e]
      by_cases g:Bv c∨(bif c.nS then r.H - k - 1 else r.W - k - 1)<c.At
      · rw [if_pos g];exact ⟨[],false,by rw [List.append_nil],by simp only [List.length_nil];omega,fun x=>by cases x⟩
      · rw [if_neg g]
        have hb:¬ Bv c:=fun x=>g (.inl x)
        have hg:¬ (bif c.nS then r.H - k - 1 else r.W - k - 1)<c.At:=fun x=>g (.inr x)
        have hat:1≤c.At:=by unfold Bv at hb;omega
        have hn:=Xb hb
        cases ha:c.nS with
        | true =>
          rw [ha,iP] at hg
          have eA:DU c r k=⟨r.X,r.Y,r.W,c.At⟩:=by unfold DU;rw [ha];rfl
          have eB:DV c r k=⟨r.X,r.Y+c.At+k,r.W,r.H - c.At - k⟩:=by
            unfold DV;rw [ha,iP,yM (n:=r.Y+c.At) (by omega) (by omega),yM (by omega) (by omega),yM (n:=r.H - c.At) (by omega) (by omega),yM (by omega) (by omega)]
          have hA:=NY (W:=r.W) (H:=r.H) (a:=c.At) (k:=k) hr.2.2.1 k0
          have pA:=vY hr.2.2.1 hat
          have pB:=vY (W:=r.W) (H:=r.H - c.At - k) hr.2.2.1 (by omega)
          rw [eA,eB]
          obtain ⟨xs,b,x1,x2,x3⟩:=ih c.First[0]! ⟨r.X,r.Y,r.W,c.At⟩ k (by omega) (by unfold RB;simp only [];omega) k0 k1 l (by simp only [];omega)
          simp only [] at x2
          rw [x1,bS]
          simp only []
          cases b with
          | false=>exact ⟨xs,false,rfl,by omega,fun x=>by cases x⟩
          | true =>
            obtain ⟨ys,d,y1,y2,y3⟩:=ih c.Rest[0]! ⟨r.X,r.Y+c.At+k,r.W,r.H - c.At - k⟩ k (by omega) (by unfold RB;simp only [];omega) k0 k1 (l ++ xs) (by rw [List.length_append];simp only [];omega)
            simp only [] at y2
            rw [Bool.not_true,iT,y1,bS]
            refine ⟨xs ++ ys,d,by rw [List.append_assoc],by rw [List.length_append];omega,fun hd=>?_⟩
            rw [hn]
            exact .up c.At _ _ r xs ys hat (by omega) (x3 rfl) (y3 hd)
        | false =>
          rw [ha,iT] at hg
          have eA:DU c r k=⟨r.X,r.Y,c.At,r.H⟩:=by unfold DU;rw [ha];rfl
          have eB:DV c r k=⟨r.X+c.At+k,r.Y,r.W - c.At - k,r.H⟩:=by
            unfold DV;rw [ha,iT,yM (n:=r.X+c.At) (by omega) (by omega),yM (by omega) (by omega),yM (n:=r.W - c.At) (by omega) (by omega),yM (by omega) (by omega)]
          have hA:=Iu (W:=r.W) (H:=r.H) (a:=c.At) (k:=k) hr.2.2.2.1 k0
          have pA:=vY hat hr.2.2.2.1
          have pB:=vY (W:=r.W - c.At - k) (H:=r.H) (by omega) hr.2.2.2.1
          rw [eA,eB]
          obtain ⟨xs,b,x1,x2,x3⟩:=ih c.First[0]! ⟨r.X,r.Y,c.At,r.H⟩ k (by omega) (by unfold RB;simp only [];omega) k0 k1 l (by simp only [];omega)
          simp only [] at x2
          rw [x1,bS]
          simp only []
          cases b with
          | false=>exact ⟨xs,false,rfl,by omega,fun x=>by cases x⟩
          | true =>
            obtain ⟨ys,d,y1,y2,y3⟩:=ih c.Rest[0]! ⟨r.X+c.At+k,r.Y,r.W - c.At - k,r.H⟩ k (by omega) (by unfold RB;simp only [];omega) k0 k1 (l ++ xs) (by rw [List.length_append];simp only [];omega)
            simp only [] at y2
            rw [Bool.not_true,iT,y1,bS]
            refine ⟨xs ++ ys,d,by rw [List.append_assoc],by rw [List.length_append];omega,fun hd=>?_⟩
            rw [hn]
            exact .side c.At _ _ r xs ys hat (by omega) (x3 rfl) (y3 hd)
def Good (p:GPlate) (k:Int) (xs:List ah):Prop:=FM p∧(0≤k∧k≤100)∧∃ n,n≤200∧Tr k n ⟨0,0,p.W,p.H⟩ xs
theorem Vg {N:Nat} {p:GPlate} {c:bV} {k:Int} (hc:c.ok) (hN:nT c+2 ^ 64≤N):∃ xs e,lF N p c k=some (xs,e)∧(e=0→Good p k xs):=by
  unfold lF
  rw [Pz (by omega),bS]
  by_cases h:FM p
  · rw [if_pos h, show (!aB .neq (0 : Int) 0) = true from rfl, iP, Bz (by simp) (by simp; omega), bS]
    by_cases g:0≤k∧k≤100
    · have e1 : [k].all (PD 0 100) = true := by simp [PD, g.1, g.2]
      rw [e1,show (aB .neq (0:Int) 0 || !true)=false from rfl,iT]
      obtain ⟨v,hv⟩:=Vf N c hc (by omega)
      rw [hv,bS,fE]
      by_cases q:200<v
      · rw [dT q,iP];exact ⟨[],8,rfl,fun x=>by omega⟩
      · rw [dF q,iT]
        have hp:=h
        unfold FM at hp
        have hA:p.W * p.H≤100000 * 100000:=Int.mul_le_mul hp.1.2 hp.2.1.2 (by omega) (by omega)
        obtain ⟨xs,b,x1,x2,x3⟩:=Zk N c ⟨0,0,p.W,p.H⟩ k (by omega) (by unfold RB;simp only [];omega) g.1 g.2 [] (by simp only [List.length_nil];omega)
        rw [x1,bS]
        cases b with
        | false=>exact ⟨[],3,rfl,fun x=>by omega⟩
        | true =>
          refine ⟨xs,0,rfl,fun _=>⟨h,g,nT c,?_,x3 rfl⟩⟩
          have hn:=tr_n g.1 (x3 rfl) hp.1.1 hp.2.1.1
          simp only [] at hn
          obtain ⟨v',v1,v2⟩:=Xc N c (by omega) (by omega)
          rw [hv] at v1
          have:=Option.some.inj v1
          unfold PM at v2
          omega
    · have e1:[k].all (PD 0 100)=false:=by
        cases t:[k].all (PD 0 100) with
        | false=>rfl
        | true=>simp [PD] at t;exact absurd t g
      rw [e1];exact ⟨[],2,rfl,fun x=>by omega⟩
  · rw [if_neg h];exact ⟨[],2,rfl,fun x=>by omega⟩
end Go.KB
namespace Go.KB
set_option linter.unusedVariables false
set_option maxRecDepth 100000
inductive Pre (k:Int) (ps:List GPlate) (N:Nat):List dR→List ah→Int→Prop
 | nil:Pre k ps N [] [] 0
 | snoc (sh:List dR) (ys:List ah) (q:Int) (s:dR) (i:Nat) (xs:List ah):Pre k ps N sh ys q→s.sF=(i:Int)→i<ps.length→lF N ps[i]! s.wS k=some (xs,0)→Good ps[i]! k xs→Pre k ps N (sh ++ [s]) (ys ++ xs) (q+ps[i]!.Price)
theorem Pre.bound {k:Int} {ps:List GPlate} {N:Nat} {sh:List dR} {ys:List ah} {q:Int} (h:Pre k ps N sh ys q):0≤q∧q≤sh.length * 1000000000∧ys.length≤200 * sh.length∧∀ y ∈ ys,0≤y.piece:=by
 induction h with
 | nil=>exact ⟨Int.le_refl _,Int.le_refl _,Nat.le_refl _,fun y hy=>by cases hy⟩
 | snoc sh ys q s i xs _ h1 h2 h3 h4 ih =>
  obtain ⟨i1,i2,i3,i4⟩:=ih
  obtain ⟨g1,g2,n,g3,g4⟩:=h4
  unfold FM at g1
  have:=QL g4
  refine ⟨by omega,by rw [List.length_append,List.length_singleton];omega,by rw [List.length_append,List.length_append,List.length_singleton];omega,fun y hy=>(List.mem_append.1 hy).elim (i4 y) (Vd g4 y)⟩
theorem Pre.mem {k:Int} {ps:List GPlate} {N:Nat} {sh:List dR} {ys:List ah} {q:Int} (h:Pre k ps N sh ys q):∀ s ∈ sh,∃ (i:Nat) (xs:List ah),s.sF=(i:Int)∧i<ps.length∧lF N ps[i]! s.wS k=some (xs,0)∧Good ps[i]! k xs:=by
 induction h with
 | nil=>intro s hs;cases hs
 | snoc sh ys q s i xs _ h1 h2 h3 h4 ih =>
  intro s' hs'
  rcases List.mem_append.1 hs' with hs' | hs'
  ·exact ih s' hs'
  ·rw [List.mem_singleton] at hs';subst hs';exact ⟨i,xs,h1,h2,h3,h4⟩
section
variable {l:List bC} {k:Int} {ps:List GPlate} {N:Nat} {sh:List dR}
theorem ck_L2 (hps:ps.length≤3) (hs:sh.length≤6) (hN:2 ^ 64≤N) (hT:∀ s ∈ sh,s.wS.ok∧nT s.wS+2 ^ 64≤N):∃ o,aX (iK N ps sh k) N (0,[],0)=some o∧((∃ e:Int,e≠0∧o = .inr (0,e))∨∃ ys q,o = .inl (q,ys)∧Pre k ps N sh ys q):=by
  have hlim:lim ≥ 10000000:=by decide
  exact jb (f:=iK N ps sh k) (I:=fun s=>∃ j:Nat,s.2.2=(j:Int)∧j≤sh.length∧Pre k ps N (sh.take j) s.2.1 s.1) (μ:=fun s=>sh.length - s.2.2.toNat) (post:=fun o=>(∃ e:Int,e≠0∧o = .inr (0,e))∨∃ ys q,o = .inl (q,ys)∧Pre k ps N sh ys q) (by
    rintro ⟨q,ys,sj⟩ ⟨j,hj,hjl,hp⟩
    simp only at hj hp
    subst hj
    by_cases hlt:j<sh.length
    · have hmem : sh[j]! ∈ sh := by rw [oU hlt]; exact List.getElem_mem hlt
      by_cases hpl:sh[j]!.sF<0∨(ps.length:Int)≤sh[j]!.sF
      · right
        refine ⟨.inr (0,6),?_,.inl ⟨6,by omega,rfl⟩⟩
        unfold iK
        simp only []
        have:(decide (sh[j]!.sF<0)||decide ((ps.length:Int)≤sh[j]!.sF))=true:=by
          rcases hpl with h | h
          · rw [dT h];rfl
          · rw [dT h,Bool.or_true]
        rw [aW,dT (by omega),iP,jK hlt,bS,aW,jD,this,iP]
      · obtain ⟨i, hi⟩ : ∃ i : Nat, sh[j]!.sF = (i : Int) := ⟨sh[j]!.sF.toNat, by omega⟩
        have hil:i<ps.length:=by omega
        obtain ⟨xs,e,u1,u2⟩:=Vg (N:=N) (p:=ps[i]!) (c:=sh[j]!.wS) (k:=k) (hT _ hmem).1 (hT _ hmem).2
        by_cases he:e=0
        · subst he
          left
          have hg:=u2 rfl
          obtain ⟨b1,b2,b3,b4⟩:=hp.bound
          rw [List.length_take,Nat.min_eq_left (by omega)] at b2 b3
          obtain ⟨g1,g2,n,g3,g4⟩:=id hg
          unfold FM at g1
          have hxl:=QL g4
          refine ⟨(q+ps[i]!.Price,ys ++ xs,((j+1:Nat):Int)),?_,⟨j+1,rfl,by omega,?_⟩,?_⟩
          · unfold iK
            simp only []
            rw [aW,dT (by omega),iP,jK hlt,bS,hi,aW,dF (by omega),jD,dF (by omega),Bool.or_self,iT,jK hil,bS,u1,bS]
            simp only []
            rw [show aB .neq (0:Int) 0=false from rfl,iT,qo (by omega),bS,bS,yM (by omega) (by omega),lY (by omega)]
          · show Pre k ps N (sh.take (j+1)) (ys ++ xs) (q+ps[i]!.Price)
            rw [List.take_succ_eq_append_getElem hlt,← oU hlt]
            exact .snoc _ _ _ _ i xs hp hi hil u1 hg
          · show sh.length - ((j+1:Nat):Int).toNat<sh.length - ((j:Nat):Int).toNat
            simp only [Int.toNat_natCast];omega
        · right
          refine ⟨.inr (0,e),?_,.inl ⟨e,he,rfl⟩⟩
          unfold iK
          simp only []
          rw [aW,dT (by omega),iP,jK hlt,bS,hi,aW,dF (by omega),jD,dF (by omega),Bool.or_self,iT,jK hil,bS,u1,bS]
          simp only []
          rw [lV,dF he,Bool.not_false,iP]
    · right
      have:j=sh.length:=by omega
      subst this
      refine ⟨.inl (q,ys),?_,.inr ⟨ys,q,rfl,by rw [List.take_length] at hp;exact hp⟩⟩
      unfold iK
      simp only []
      rw [aW,dF (by omega),iT]) N (0,[],0) ⟨0,rfl,Nat.zero_le _,by rw [List.take_zero];exact .nil⟩ (by simp only [];omega)
theorem Xd {x:ah} (h0:0≤x.piece):∃ b,vT N l x=some b∧(b=true→DT l x):=by
  unfold vT
  rw [jD]
  by_cases h:(l.length:Int)≤x.piece
  · rw [dT h,iP];exact ⟨false,rfl,fun x=>by cases x⟩
  · obtain ⟨i, hi⟩ : ∃ i : Nat, x.piece = (i : Int) := ⟨x.piece.toNat, by omega⟩
    have hil:i<l.length:=by omega
    rw [dF h,iT,hi,jK hil,bS,jD,jD,jD,jD]
    cases ht:x.turned with
    | true =>
      rw [iP]
      refine ⟨_,rfl,fun hb=>⟨i,hil,hi,.inl ⟨ht,?_⟩⟩⟩
      rw [Bool.and_eq_true,Bool.and_eq_true,decide_eq_true_eq,decide_eq_true_eq] at hb
      exact ⟨hb.1.1,hb.1.2,hb.2⟩
    | false =>
      rw [iT]
      refine ⟨_,rfl,fun hb=>⟨i,hil,hi,.inr ⟨ht,?_⟩⟩⟩
      rw [Bool.and_eq_true,decide_eq_true_eq,decide_eq_true_eq] at hb
      exact hb
theorem ck_L1 {ys : List ah} {q : Int} {cs : List Int} (hl : l.length ≤ 5) (hy : ys.length ≤ 2000) (hp : ∀ y ∈ ys, 0 ≤ y.piece) (hc : yY cs l.length (fun _ => 0)) (hN : 2 ^ 64 ≤ N) :
    ∃ o,aX (jf N l (q,ys)) N (cs,0)=some o∧(o = .inr (0,24)∨∃ cs',o = .inl cs'∧(∀ y ∈ ys,DT l y)∧yY cs' l.length (fun i=>cnt i ys)):=by
  exact jb (f:=jf N l (q,ys)) (I:=fun s=>∃ j:Nat,s.2=(j:Int)∧j≤ys.length∧(∀ i,i<j→DT l ys[i]!)∧yY s.1 l.length (fun i=>cnt i (ys.take j))) (μ:=fun s=>ys.length - s.2.toNat) (post:=fun o=>o = .inr (0,24)∨∃ cs',o = .inl cs'∧(∀ y ∈ ys,DT l y)∧yY cs' l.length (fun i=>cnt i ys)) (by
    rintro ⟨cs1,sj⟩ ⟨j,hj,hjl,hf,h1⟩
    simp only at hj h1
    subst hj
    by_cases hlt:j<ys.length
    · have hmem : ys[j]! ∈ ys := by rw [oU hlt]; exact List.getElem_mem hlt
      obtain ⟨b,b1,b2⟩:=Xd (N:=N) (l:=l) (hp _ hmem)
      cases b with
      | false =>
        right
        refine ⟨.inr (0,24),?_,.inl rfl⟩
        unfold jf
        simp only []
        rw [aW,dT (by omega),iP,jK hlt,bS,b1,bS,Bool.not_false,iP]
      | true =>
        left
        have hfx:=b2 rfl
        obtain ⟨i,hi,hpc,_⟩:=id hfx
        have hv:cs1[i]! = ((cnt i (ys.take j):Nat):Int):=h1.2 i hi
        have hcl:cnt i (ys.take j)≤ys.length:=Nat.le_trans cnt_le (by rw [List.length_take];omega)
        have hw:IntKind.i64.wrap (cs1[i]! + 1)=((cnt i (ys.take j)+1:Nat):Int):=by rw [hv,lY (by omega)]
        refine ⟨(cs1.set i ((cnt i (ys.take j)+1:Nat):Int),((j+1:Nat):Int)),?_,⟨j+1,rfl,by omega,fun i' hi'=>?_,?_⟩,?_⟩
        · unfold jf
          simp only []
          rw [aW,dT (by omega),iP,jK hlt,bS,b1,bS,Bool.not_true,iT,hpc,jK (by rw [h1.1];exact hi),bS,bS,hw,Int.toNat_natCast,lY (by omega)]
        · by_cases e : i' = j
          · subst e;exact hfx
          · exact hf i' (by omega)
        · exact (h1.step hi).congr fun i'=>by rw [Pj hlt,hpc]
        · show ys.length - ((j+1:Nat):Int).toNat<ys.length - ((j:Nat):Int).toNat
          simp only [Int.toNat_natCast];omega
    · right
      have:j=ys.length:=by omega
      subst this
      refine ⟨.inl cs1,?_,.inr ⟨cs1,rfl,fun y hy=>?_,by rw [List.take_length] at h1;exact h1⟩⟩
      · unfold jf
        simp only []
        rw [aW,dF (by omega),iT]
      · obtain ⟨i,hi,rfl⟩:=List.getElem_of_mem hy
        rw [← oU hi];exact hf i hi) N (cs,0) ⟨0,rfl,Nat.zero_le _,fun i hi=>absurd hi (Nat.not_lt_zero _),hc.congr fun i=>rfl⟩ (by simp only [];omega)
theorem Vh {cs:List Int} (hc:cs.length≤1000) (hN:2 ^ 64≤N):iH N cs (fun y0=>kS N y0)=some (cs.any fun n=>!decide (n=1)):=by
 unfold iH
 rw [GK (p:=fun n=>!decide (n=1)) (fun x=>by unfold kS;rw [lV]) (by omega) (by omega),bS,jD]
 congr 1
 cases hf:cs.findIdx? (fun n=>!decide (n=1)) with
 | none =>
  rw [List.findIdx?_eq_none_iff] at hf
  rw [show decide ((0:Int)≤(match (none:Option Nat) with | some i=>(i:Int) | none=>-1))=false from rfl]
  symm
  rw [List.any_eq_false]
  intro x hx
  have:=hf x hx
  simpa using this
 | some i =>
  rw [List.findIdx?_eq_some_iff_getElem] at hf
  obtain ⟨hi,hp,_⟩:=hf
  simp only []
  rw [dT (by omega)]
  symm
  rw [List.any_eq_true]
  exact ⟨_,List.getElem_mem hi,hp⟩
theorem Zd (hst:Qb l ps k=0) (hl:l.length≤5) (hN:2 ^ 64≤N) (hT:∀ s ∈ sh,s.wS.ok∧nT s.wS+2 ^ 64≤N) (hs10:sh.length≤10) :
    ∃ q e,kC N l ps sh k=some (q,e)∧(e=0→sh.length≤6∧∃ ys,Pre k ps N sh ys q∧(∀ y ∈ ys,DT l y)∧∀ i,i<l.length→cnt i ys=1):=by
  have hps:=(GL.1 hst).2.1
  unfold kC
  rw [Bo hN,hst,bS,show aB .neq (0:Int) 0=false from rfl,iT,fE]
  by_cases h6:6<sh.length
  · rw [dT (by omega),iP];exact ⟨0,8,rfl,fun x=>by omega⟩
  · rw [dF (by omega), iT]
    obtain ⟨o,ho,hc⟩:=ck_L2 (k:=k) hps (by omega) hN hT
    rw [ho,bS]
    rcases hc with ⟨e,he,rfl⟩ | ⟨ys,q,rfl,hp⟩
    · exact ⟨0,e,rfl,fun x=>absurd x he⟩
    · rw [Sum.elim_inl]
      have hlim:lim ≥ 10000000:=by decide
      have hmk:mk (0:Int) (l.length:Int) (l.length:Int)=some (List.replicate l.length 0):=by
        unfold mk
        rw [dT (by omega),dT (by omega),dT (by omega)];rfl
      obtain ⟨b1,b2,b3,b4⟩:=hp.bound
      obtain ⟨o,ho,hc⟩:=ck_L1 (N:=N) (q:=q) (cs:=List.replicate l.length 0) hl (by omega) b4 ⟨by simp,fun i hi=>by rw [oU (by simpa using hi)];simp⟩ hN
      rw [hmk,bS,ho,bS]
      rcases hc with rfl | ⟨cs',rfl,hf,hcn⟩
      · exact ⟨0,24,rfl,fun x=>by omega⟩
      · rw [Sum.elim_inl, Vh (by rw [hcn.1]; omega) hN, bS]
        cases ha:cs'.any (fun n=>!decide (n=1)) with
        | true=>exact ⟨0,24,rfl,fun x=>by omega⟩
        | false =>
          refine ⟨q,0,rfl,fun _=>⟨by omega,ys,hp,hf,fun i hi=>?_⟩⟩
          rw [List.any_eq_false] at ha
          have:=ha cs'[i]! (by rw [oU (by rw [hcn.1];exact hi)];exact List.getElem_mem _)
          have e:cs'[i]! = ((cnt i ys:Nat):Int):=hcn.2 i hi
          by_cases h1:cs'[i]! = 1
          · omega
          · rw [dF h1] at this;exact absurd rfl this
theorem Vj {n:Nat} {xs ys:List ah} {a b:Nat} (ha:a<2 ^ n) (hb:b<2 ^ n) (h1:∀ i,cnt i xs=cb a i) (h2:∀ i,cnt i ys=cb b i) (h3:∀ i,cnt i (xs ++ ys)≤1):a &&& b=0∧a ||| b<2 ^ n∧∀ i,cnt i (xs ++ ys)=cb (a ||| b) i:=by
 have hd:a &&& b=0:=by
  refine Nat.eq_of_testBit_eq fun i=>?_
  rw [Nat.testBit_and,Nat.zero_testBit]
  have:=h3 i
  rw [tq,h1,h2] at this
  unfold cb at this
  cases ha:a.testBit i <;> cases hb:b.testBit i <;> simp_all
 exact ⟨hd,Pm ha hb,fun i=>by rw [tq,h1,h2,RH hd]⟩
theorem Xe (p:LJ l k) {ys:List ah} {q:Int} (h:Pre k ps N sh ys q):(∀ y ∈ ys,DT l y)→(∀ i,cnt i ys≤1)→∃ S q',Cst l k ps S q'∧q'≤q∧S<2 ^ l.length∧∀ i,cnt i ys=cb S i:=by
 have hn:=uz p.n5
 induction h with
 | nil=>exact fun _ _=>⟨0,0,.nil,Int.le_refl _,by omega,fun i=>by rw [NW];rfl⟩
 | snoc sh ys q s i xs _ h1 h2 h3 h4 ih =>
  intro hf hc
  obtain ⟨S,q',c1,c2,c3,c4⟩:=ih (fun y hy=>hf y (List.mem_append_left _ hy)) (fun j=>by have:=hc j;rw [tq] at this;omega)
  obtain ⟨g1,g2,n,g3,g4⟩:=h4
  obtain ⟨T,t1,t2,t3⟩:=Zj p g4 (fun y hy=>hf y (List.mem_append_right _ hy)) (fun j=>by have:=hc j;rw [tq] at this;omega)
  obtain ⟨d1,d2,d3⟩:=Vj c3 t1 c4 t2 hc
  unfold FM at g1
  rcases t3 with rfl | ⟨t,u1,u2,u3⟩
  ·rw [Nat.or_zero] at d2 d3
   exact ⟨S,q',c1,by omega,d2,d3⟩
  ·refine ⟨T ||| S,q'+ps[i]!.Price,.cons i T S t q' h2 u1 u2 u3 (by rw [Nat.and_comm];exact d1) c1,by omega,by rw [Nat.or_comm];exact d2,by rw [Nat.or_comm];exact d3⟩
theorem Vk {i:Nat} {ys:List ah} (hf:∀ y ∈ ys,DT l y) (hi:l.length≤i):cnt i ys=0:=by
 unfold cnt
 rw [List.countP_eq_zero]
 intro y hy
 obtain ⟨j,hj,hp,_⟩:=hf y hy
 simp only [decide_eq_true_eq];omega
theorem Vl {S n:Nat} (hS:S<2 ^ n) (h:∀ i,i<n→cb S i=1):S=2 ^ n - 1:=by
 refine Nat.eq_of_testBit_eq fun i=>?_
 rw [Nat.testBit_two_pow_sub_one]
 by_cases hi:i<n
 ·have:=h i hi
  unfold cb at this
  rw [dT hi]
  cases hb:S.testBit i with
  | true=>rfl
  | false=>rw [hb] at this;simp at this
 ·rw [dF hi]
  exact Nat.testBit_lt_two_pow (Nat.lt_of_lt_of_le hS (Nat.pow_le_pow_right (by decide) (by omega)))
theorem ML (p:LJ l k) {ys:List ah} {q:Int} (h:Pre k ps N sh ys q) (hf:∀ y ∈ ys,DT l y) (hc:∀ i,i<l.length→cnt i ys=1):∃ q',Cst l k ps (2 ^ l.length - 1) q'∧q'≤q:=by
 obtain ⟨S,q',c1,c2,c3,c4⟩:=Xe p h hf (fun i=>by
  by_cases hi:i<l.length
  ·rw [hc i hi];omega
  ·rw [Vk hf (by omega)];omega)
 have:=Vl c3 (fun i hi=>by rw [← c4,hc i hi])
 rw [this] at c1
 exact ⟨q',c1,c2⟩
end
end Go.KB
namespace Go.KB
set_option linter.unusedVariables false
set_option maxRecDepth 100000
theorem Xf {L0:List ah} {π:Nat→Nat} (h:KN L0 π 0 L0.length) {i j:Nat} (hij:i<j) (hj:j<L0.length):π i≠π j:=fun e=>by
 have:=h.so i j (Nat.zero_le _) hij hj
 rw [e] at this
 exact QN this
theorem apart_eq {N:Nat} {p:GPlate} {k:Int} {rs:List bg} (hp:FM p) (k0:0≤k) (k1:k≤100) (hl:rs.length≤1000) (hN:2 ^ 64≤N) (hi:∀ i,i<rs.length→Ins ⟨0,0,p.W,p.H⟩ rs[i]!) (ha:∀ i j,j<i→i<rs.length→W9 k rs[i]! rs[j]!):wK N p rs k=some true:=by
 unfold FM at hp
 have l1:∀ i,i<rs.length→aX (rq N rs k (i:Int) rs[i]!) N 0=some (.inl ()):=by
  intro i hil
  refine uS i _ (fun _=>True) ?_ ?_ trivial N (by omega)
  ·intro j hj _
   refine .inl ⟨?_,trivial⟩
   have a:=ha i j hj hil
   have b1:=hi i hil
   have b2:=hi j (by omega)
   unfold Ins at b1 b2;simp only [] at b1 b2
   unfold rq
   rw [aW,dT (by omega),iP,jK (by omega),bS]
   simp only [fE]
   rw [yM (n:=rs[i]!.X+rs[i]!.W) (by omega) (by omega),yM (n:=rs[j]!.X+rs[j]!.W) (by omega) (by omega),yM (n:=rs[i]!.Y+rs[i]!.H) (by omega) (by omega),yM (n:=rs[j]!.Y+rs[j]!.H) (by omega) (by omega),yM (n:=rs[i]!.X+rs[i]!.W+k) (by omega) (by omega),yM (n:=rs[j]!.X+rs[j]!.W+k) (by omega) (by omega),yM (n:=rs[i]!.Y+rs[i]!.H+k) (by omega) (by omega),yM (n:=rs[j]!.Y+rs[j]!.H+k) (by omega) (by omega),lY (by omega)]
   have:(((decide (rs[j]!.X<rs[i]!.X+rs[i]!.W+k)&&decide (rs[i]!.X<rs[j]!.X+rs[j]!.W+k))&&decide (rs[j]!.Y<rs[i]!.Y+rs[i]!.H+k))&&decide (rs[i]!.Y<rs[j]!.Y+rs[j]!.H+k))=false:=by
    cases hb:(((decide (rs[j]!.X<rs[i]!.X+rs[i]!.W+k)&&decide (rs[i]!.X<rs[j]!.X+rs[j]!.W+k))&&decide (rs[j]!.Y<rs[i]!.Y+rs[i]!.H+k))&&decide (rs[i]!.Y<rs[j]!.Y+rs[j]!.H+k)) with
    | false=>rfl
    | true =>
     simp only [Bool.and_eq_true,decide_eq_true_eq] at hb
     unfold W9 at a;omega
   rw [this,iT]
  ·intro _
   unfold rq
   rw [aW,dF (by omega),iT]
 have l2:aX (rf N p rs k) N 0=some (.inl ()):=by
  refine uS rs.length _ (fun _=>True) ?_ ?_ trivial N (by omega)
  ·intro i hil _
   refine .inl ⟨?_,trivial⟩
   have b1:=hi i hil
   unfold Ins at b1;simp only [] at b1
   unfold rf
   rw [aW,dT (by omega),iP,jK hil,bS,aW,aW,aW,aW,fE,fE,yM (n:=rs[i]!.X+rs[i]!.W) (by omega) (by omega),yM (n:=rs[i]!.Y+rs[i]!.H) (by omega) (by omega),dF (by omega),dF (by omega),dF (by omega),dF (by omega),dF (by omega),dF (by omega),l1 i hil,bS,lY (by omega)];rfl
  ·intro _
   unfold rf
   rw [aW,dF (by omega),iT]
 unfold wK
 rw [l2];rfl
theorem U5 {N:Nat} {p:GPlate} {c:bV} {k:Int} {xs:List ah} (hN:2 ^ 64≤N) (hu:lF N p c k=some (xs,0)) (hg:Good p k xs):∃ rs,qc N p c k=some (rs,0)∧wK N p rs k=some true:=by
  obtain ⟨g1,g2,n,g3,g4⟩:=hg
  have hp:=g1
  unfold FM at hp
  have hxl:=QL g4
  have hin:=Pn g2.1 g4 hp.1.1 hp.2.1.1
  have hap:=Zi g2.1 g4 hp.1.1 hp.2.1.1
  obtain ⟨π,p1,p2⟩:=MN (L0:=xs) (φ:=fun y0 y1=>jk N y0 y1) (fun x y=>cmpC) (fun x y=>by
    by_cases a:x.piece<y.piece
    · rw [if_pos a,dT a];rfl
    · by_cases b : y.piece < x.piece
      · rw [if_neg a,if_pos b,dF a];rfl
      · rw [if_neg a,if_neg b,dF a];rfl) (by omega) (show 4000000≤N by omega)
  have hpl:(bD xs π).length=xs.length:=fZ _ _
  refine ⟨(bD xs π).map fun x=>x.xR,?_,?_⟩
  · unfold qc iC
    rw [hu,bS]
    simp only []
    rw [lV,dT rfl,Bool.not_true,iT,p1,bS,bS,Zl (by rw [fZ];omega) (by omega)];rfl
  · have hml : ((bD xs π).map fun x => x.xR).length = xs.length := by rw [List.length_map, hpl]
    have hat:∀ i,i<xs.length→((bD xs π).map fun x=>x.xR)[i]! = xs[π i]!.xR∧π i<xs.length:=fun i hi=>by
      rw [KJ (by rw [hpl];exact hi),iL hi]
      exact ⟨rfl,(p2.own i (Nat.zero_le _) hi).2⟩
    refine apart_eq g1 g2.1 g2.2 (by rw [hml];omega) hN (fun i hi=>?_) (fun i j hji hi=>?_)
    · rw [hml] at hi
      obtain ⟨e1,e2⟩:=hat i hi
      rw [e1]
      exact hin _ (by rw [oU e2];exact List.getElem_mem e2)
    · rw [hml] at hi
      obtain ⟨e1,e2⟩:=hat i hi
      obtain ⟨f1,f2⟩:=hat j (by omega)
      rw [e1,f1]
      have hne:=Xf p2 hji hi
      rw [List.pairwise_iff_getElem] at hap
      rcases Nat.lt_or_ge (π i) (π j) with h | h
      · have:=hap (π i) (π j) e2 f2 h
        rw [oU e2,oU f2];exact this
      · have := hap (π j) (π i) f2 e2 (by omega)
        rw [oU e2,oU f2];exact this.symm
section
variable {l:List bC} {k:Int} {ps:List GPlate} {N:Nat} {sh:List dR}
theorem KO (p:LJ l k) {i:Nat} (hi:i<l.length):1≤aP l i∧aP l i≤10000000000:=by
 have:=p.w i hi
 unfold aP
 exact ⟨vY this.1 this.2.2.1,Int.mul_le_mul this.2.1 this.2.2.2 (by omega) (by omega)⟩
theorem zW {g:Nat→Int} {b:Int}:∀ n,(∀ i,i<n→0≤g i∧g i≤b)→0≤xw g n∧xw g n≤n * b
 | 0,_=>by simp [xw]
 | n+1,h=>by
  have:=zW n (fun i hi=>h i (by omega))
  have:=h n (by omega)
  have e:((n+1:Nat):Int) * b=n * b+b:=by rw [Int.natCast_add,Int.add_mul];simp
  rw [xw,e];omega
theorem us_L2 (p:LJ l k) (hN:2 ^ 64≤N):aX (nI N l) N (0,0)=some (xw (aP l) l.length):=by
  have h5:=p.n5
  refine xY (f:=nI N l) l.length (fun i=>xw (aP l) i) _ (fun i hi=>?_) ?_ N (by omega)
  · have hb := zW (g := aP l) (b := 10000000000) i (fun j hj => by have := KO p (i := j) (by omega); omega)
    have ha:=KO p hi
    unfold nI
    simp only []
    rw [aW,dT (by omega),iP,jK hi,bS,show l[i]!.W * l[i]!.H=aP l i from rfl,yM (n:=aP l i) (by omega) (by omega),yM (by omega) (by omega),lY (by omega)];rfl
  · unfold nI
    simp only []
    rw [aW,dF (by omega),iT]
def aS (ps:List GPlate) (sh:List dR) (j:Nat):Int:=ps[sh[j]!.sF.toNat]!.W * ps[sh[j]!.sF.toNat]!.H
theorem KP (st:WZ ps) {ys:List ah} {q:Int} (h:Pre k ps N sh ys q) {j:Nat} (hj:j<sh.length):∃ i:Nat,sh[j]!.sF=(i:Int)∧i<ps.length∧1≤aS ps sh j∧aS ps sh j≤10000000000∧aS ps sh j=ps[i]!.W * ps[i]!.H:=by
 obtain ⟨i,xs,h1,h2,h3,h4⟩:=h.mem sh[j]! (by rw [oU hj];exact List.getElem_mem hj)
 have hp:=st.ok i h2
 unfold FM at hp
 have e:aS ps sh j=ps[i]!.W * ps[i]!.H:=by unfold aS;rw [h1,Int.toNat_natCast]
 exact ⟨i,h1,h2,by rw [e];exact vY hp.1.1 hp.2.1.1,by rw [e];exact Int.mul_le_mul hp.1.2 hp.2.1.2 (by omega) (by omega),e⟩
theorem us_L1 (st:WZ ps) {ys:List ah} {q:Int} (h:Pre k ps N sh ys q) (hs:sh.length≤10) (hN:2 ^ 64≤N):aX (nJ N ps sh) N (0,0)=some (xw (aS ps sh) sh.length):=by
  refine xY (f:=nJ N ps sh) sh.length (fun i=>xw (aS ps sh) i) _ (fun i hi=>?_) ?_ N (by omega)
  · have hb := zW (g := aS ps sh) (b := 10000000000) i (fun j hj => by obtain ⟨_, _, _, a, b, _⟩ := KP st h (j := j) (by omega); omega)
    obtain ⟨m,m1,m2,m3,m4,m5⟩:=KP st h hi
    unfold nJ
    simp only []
    rw [aW,dT (by omega),iP,jK hi,bS,m1,jK m2,bS,bS,← m5,yM (n:=aS ps sh i) (by omega) (by omega),yM (by omega) (by omega),lY (by omega)];rfl
  · unfold nJ
    simp only []
    rw [aW,dF (by omega),iT]
theorem Vm (p:LJ l k) {ys:List ah} {q:Int} (h:Pre k ps N sh ys q):(∀ y ∈ ys,DT l y)→aL l ys≤xw (aS ps sh) sh.length:=by
 induction h with
 | nil=>intro _;exact Int.le_refl _
 | snoc sh ys q s i xs _ h1 h2 h3 h4 ih =>
  intro hf
  have e1:=ih (fun y hy=>hf y (List.mem_append_left _ hy))
  obtain ⟨g1,g2,n,g3,g4⟩:=h4
  unfold FM at g1
  have e2:=Xa p g4 g1.1.1 g1.2.1.1 (fun y hy=>hf y (List.mem_append_right _ hy))
  simp only [] at e2
  have e3:xw (aS ps (sh ++ [s])) sh.length=xw (aS ps sh) sh.length:=zV _ fun j hj=>by
   unfold aS
   rw [oU (l:=sh ++ [s]) (by simp;omega),List.getElem_append_left hj,← oU hj]
  have e4:aS ps (sh ++ [s]) sh.length=ps[i]!.W * ps[i]!.H:=by
   unfold aS
   rw [oU (l:=sh ++ [s]) (by simp),List.getElem_concat_length rfl,h1,Int.toNat_natCast]
  rw [QM,List.length_append,List.length_singleton,xw,e3,e4]
  omega
theorem X5 {A B:Int} (hB:0<B) (h:A≤B):¬ ((1:Int):Rat)<(A:Rat) / (B:Rat):=by
 intro this
 have hB':(0:Rat)<(B:Rat):=by exact_mod_cast hB
 rw [Rat.lt_div_iff hB'] at this
 have:((1 * B:Int):Rat)<(A:Rat):=by rw [Rat.intCast_mul];exact this
 have:=Rat.intCast_lt_intCast.1 this
 omega
theorem WX (p:LJ l k) (st:WZ ps) {ys:List ah} {q:Int} (hN:2 ^ 64≤N) (hck:kC N l ps sh k=some (q,0)) (hs:sh.length≤10) (h:Pre k ps N sh ys q) (hf:∀ y ∈ ys,DT l y) (hc:∀ i,i<l.length→cnt i ys=1) :
    ∃ x w:jq,uo N l ps sh k=some (x,0)∧Bc N 1=some w∧∃ v,rG N x w=some v∧¬ 0<v:=by
  have h5:=p.n5
  have hA:=zW (g:=aP l) (b:=10000000000) l.length (fun j hj=>by have:=KO p hj;omega)
  have hB:=zW (g:=aS ps sh) (b:=10000000000) sh.length (fun j hj=>by obtain ⟨_,_,_,a,b,_⟩:=KP st h hj;omega)
  have hle:xw (aP l) l.length≤xw (aS ps sh) sh.length:=by
    have e:=Ve hf
    rw [zV (h:=aP l) _ (fun i hi=>by rw [hc i hi];simp)] at e
    rw [← e];exact Vm p h hf
  obtain ⟨A,hAe⟩:∃ A,A=xw (aP l) l.length:=⟨_,rfl⟩
  obtain ⟨B,hBe⟩:∃ B,B=xw (aS ps sh) sh.length:=⟨_,rfl⟩
  have u2:=us_L2 p hN
  have u1:=us_L1 st h hs hN
  rw [← hAe] at hA hle u2
  rw [← hBe] at hB hle u1
  have hW:=W_R (N:=N) (z:=1) (by omega) (by omega) hN
  have z1:Sz 64 ((1:Int):Rat):=Sz.i64 (by omega) (by omega)
  have zB:∀ z:Int,0≤z→z≤100000000000→Sz 64 (z:Rat):=fun z a b=>Sz.i64 (by omega) (by omega)
  by_cases hz:B=0
  · have hr := RJ (N := N) (a := 0) (b := 1) (by omega) (by omega) (by omega) (by omega) (by omega) hN
    refine ⟨_,_,?_,hW,_,KQ (Qf.R ((zB 0 (by omega) (by omega)).div (zB 1 (by omega) (by omega)))) (Qf.R z1) (by omega) hN,?_⟩
    · unfold uo
      rw [hck,bS]
      simp only []
      rw [show aB .neq (0:Int) 0=false from rfl,iT,u2,bS,u1,bS,lK,dT hz,iP,hr];rfl
    · have:=RN (((0:Int):Rat) / ((1:Int):Rat)) ((1:Int):Rat)
      intro hv
      rw [dT hv] at this
      exact X5 (by omega) (by omega) (of_decide_eq_true this.symm)
  · have hBp : 0 < B := by omega
    have hr:=RJ (N:=N) (a:=A) (b:=B) (by omega) (by omega) (by omega) (by omega) hz hN
    refine ⟨_,_,?_,hW,_,KQ (Qf.R ((zB A (by omega) (by omega)).div (zB B (by omega) (by omega)))) (Qf.R z1) (by omega) hN,?_⟩
    · unfold uo
      rw [hck,bS]
      simp only []
      rw [show aB .neq (0:Int) 0=false from rfl,iT,u2,bS,u1,bS,lK,dF hz,iT,hr];rfl
    · have:=RN ((A:Rat) / (B:Rat)) ((1:Int):Rat)
      intro hv
      rw [dT hv] at this
      exact X5 hBp hle (of_decide_eq_true this.symm)
theorem Zm {pr:Int} {b0:Bool} {cs:List Int} {b:Bool} (hl:cs.length≤1000) (hN:2 ^ 64≤N):∃ b',aX (jH N (pr,b0,cs)) N (b,0)=some b'∧(b=true→(∀ i,i<cs.length→cs[i]! = 1)→b'=true):=by
 exact jb (f:=jH N (pr,b0,cs)) (I:=fun s=>∃ j:Nat,s.2=(j:Int)∧j≤cs.length∧(b=true→(∀ i,i<cs.length→cs[i]! = 1)→s.1=true)) (μ:=fun s=>cs.length - s.2.toNat) (post:=fun b'=>b=true→(∀ i,i<cs.length→cs[i]! = 1)→b'=true) (by
  rintro ⟨b1,sj⟩ ⟨j,hj,hjl,h⟩
  simp only at hj h
  subst hj
  by_cases hlt:j<cs.length
  ·left
   refine ⟨(b1&&decide ((bif b1 then cs[j]! else 0)=1),((j+1:Nat):Int)),?_,⟨j+1,rfl,by omega,fun a1 a2=>?_⟩,?_⟩
   ·unfold jH
    simp only []
    rw [aW,dT (by omega),iP,jK hlt,lY (by omega)]
    cases b1 <;> rfl
   ·show (b1&&decide ((bif b1 then cs[j]! else 0)=1))=true
    rw [h a1 a2,iP,a2 j hlt];rfl
   ·show cs.length - ((j+1:Nat):Int).toNat<cs.length - ((j:Nat):Int).toNat
    simp only [Int.toNat_natCast];omega
  ·right
   refine ⟨b1,?_,h⟩
   unfold jH
   simp only []
   rw [aW,dF (by omega),iT]) N (b,0) ⟨0,rfl,Nat.zero_le _,fun a _=>a⟩ (by simp only [];omega)
theorem RG (hst:Qb l ps k=0) (p:LJ l k) (st:WZ ps) (hN:2 ^ 64≤N) {ys:List ah} {q:Int} (h:Shs l k ps N sh ys q) (hs:sh.length≤6) :
  ∃ o,pq N l ps sh k=some o∧((∀ i,i<l.length→cnt i ys=1)→o.1=q):=by
 have h5:=p.n5
 have hlim:lim ≥ 10000000:=by decide
 have hmk:mk (0:Int) (l.length:Int) (l.length:Int)=some (List.replicate l.length 0):=by
  unfold mk
  rw [dT (by omega),dT (by omega),dT (by omega)];rfl
 obtain ⟨cs',c1,c2⟩:=Zh p st hN (by omega) h 0 N 0 (List.replicate l.length 0) (fun _=>0) rfl (by omega) (by omega) (by omega) ⟨by simp,fun i hi=>by rw [oU (by simpa using hi)];simp⟩ (fun i=>by omega)
 have c1:aX (iZ N l ps sh k) N (0,true,List.replicate l.length 0,0)=some (.inl (0+q,true,cs')):=c1
 obtain ⟨b',b1,b2⟩:=Zm (N:=N) (pr:=0+q) (b0:=true) (cs:=cs') (b:=true) (by rw [c2.1];omega) hN
 unfold pq
 rw [MK hN,hst,bS,show aB .neq (0:Int) 0=false from rfl,iT,fE,dF (by omega),iT,hmk,bS,c1,bS,Sum.elim_inl]
 simp only []
 rw [b1,bS]
 cases hb:b' with
 | false =>
  refine ⟨_,rfl,fun hc=>?_⟩
  have:=b2 rfl (fun i hi=>by
   rw [c2.1] at hi
   have e:cs'[i]! = ((0+cnt i ys:Nat):Int):=c2.2 i hi
   have:=hc i hi
   omega)
  rw [hb] at this;cases this
 | true=>exact ⟨_,rfl,fun _=>by simp⟩
theorem WW {n i:Nat} (hi:i<n):cb (2 ^ n - 1) i=1:=by
 unfold cb
 rw [Nat.testBit_two_pow_sub_one,dT hi];rfl
end
end Go.KB
