/- Plain laws of chapter 8: names, checks of work. Plain laws of chapter 8: the items before each item; the first order ends. Plain laws of chapter 8: the check of work. Plain laws of chapter 8: slots. Plain laws of chapter 8: breaches of order, of outages and of the last day. Plain laws of chapter 8: trades with too few people. Plain laws of chapter 8: pairs that clash. Plain laws of chapter 8: plans. No condition. -/
import Derived.Test.YtjbnolcahodkkaaGreatPZp
import Derived.Test.YtjbnolcahodkkaaGreatPZo
import Derived.Test.YtjbnolcahodkkaaGreatKZg
namespace Go.KB
set_option linter.unusedVariables false
set_option maxRecDepth 100000
instance:Inhabited fQ:=⟨⟨[],[],[],[],0,false,[]⟩⟩
instance:Inhabited nT:=⟨⟨[],0,0⟩⟩
instance:Inhabited xX:=⟨⟨0,0⟩⟩
instance:Inhabited nK:=⟨⟨0,0⟩⟩
instance:Inhabited GSlot:=⟨⟨[],0,0⟩⟩
instance:Inhabited aK:=⟨⟨0,0,false⟩⟩
instance:Inhabited oV:=⟨⟨[],[],0,0,0⟩⟩
instance:Inhabited dU:=⟨⟨[],[],0⟩⟩
theorem OO {n N:Nat} {f:Int→Option (Int ⊕ (Unit ⊕ Int))} (P:Nat→Prop) (hf:∀ i:Nat,i<n→(f (i:Int)=some (.inl ((i+1:Nat):Int))∧P i)∨∃ e:Int,e≠0∧f (i:Int)=some (.inr (.inr e))) (he:f (n:Int)=some (.inr (.inl ()))) (hN:n<N) :
    ∃ o,dh f N 0=some o∧((o = .inl ()∧∀ i,i<n→P i)∨∃ e:Int,e≠0∧o = .inr e):=by
  exact AQ (f:=f) (I:=fun s=>∃ i:Nat,s=(i:Int)∧i≤n∧∀ j,j<i→P j) (μ:=fun s=>n - s.toNat) (post:=fun o=>(o = .inl ()∧∀ i,i<n→P i)∨∃ e:Int,e≠0∧o = .inr e) (by
    rintro s ⟨i,rfl,hi,hp⟩
    by_cases h:i<n
    · rcases hf i h with ⟨e1,e2⟩ | ⟨e,e1,e2⟩
      · left
        refine ⟨_,e1,⟨i+1,rfl,by omega,fun j hj=>?_⟩,?_⟩
        · by_cases e : j = i
          · subst e;exact e2
          · exact hp j (by omega)
        · simp only [Int.toNat_natCast];omega
      · exact .inr ⟨_,e2,.inr ⟨e,e1,rfl⟩⟩
    · have : i = n := by omega
      subst this
      exact .inr ⟨_,he,.inl ⟨rfl,hp⟩⟩) N 0 ⟨0,rfl,Nat.zero_le _,fun j hj=>absurd hj (Nat.not_lt_zero _)⟩ (by simp only [Int.toNat_zero];omega)
theorem jZd {N:Nat} {s:Str} (hN:13≤N):Bd N s=some (lD s):=jZf hN
theorem wQ {N:Nat} {x y:Int}:jg N x y=some (decide (0≤x)&&decide (x≤y)):=by
 unfold jg
 rw [yV,yA]
theorem VD {N:Nat} {l:List Str} {s:Str} (hl:l.length<1000000) (hN:1000000≤N):iU N l s=some (Ku (fun x=>decide (s=x)) l):=by
 unfold iU
 refine xW (fun i hi=>?_) ?_ (by omega)
 ·unfold jB
  rw [bM,dT (by omega),kS,jm hi,bS,rD,oJ (by omega)]
 ·unfold jB
  rw [bM,dF (by omega),kG]
theorem jWu {N:Nat} {l:List Str} {φ:Str→Option Bool} {p:Str→Bool} (hφ:∀ x,φ x=some (p x)) (hl:l.length<1000000) (hN:1000000≤N):lU N l φ=some (l.any p):=by
 unfold lU qi
 have h:((dh (kC N l φ) N 0).bind fun o5=>Sum.elim (fun l7=>some (-1:Int)) (fun r8=>some r8) o5)=some (Ku p l):=by
  refine xW (fun i hi=>?_) ?_ (by omega)
  ·unfold kC
   rw [bM,dT (by omega),kS,jm hi,bS,hφ,bS,oJ (by omega)]
  ·unfold kC
   rw [bM,dF (by omega),kG]
 rw [h,bS,PI]
section
variable {N:Nat} (hN:2 ^ 64≤N)
include hN
theorem Ux {w:GWork} (h:w.fH.length≤1000):rW N w=some (w.fH.map fun x=>x.Name):=by
 have hlim:lim ≥ 1000000:=by decide
 unfold rW uN
 rw [OE (f:=mY N w.fH fun y0=>qy N y0) w.fH (fun x=>x.Name) (fun i hi acc ha=>by
  unfold mY qy
  simp only []
  rw [bM,dT (by omega),kS,jm hi,bS,bS,DW (by rw [List.length_singleton];omega),bS,oJ (by omega)]) (fun acc=>by
  unfold mY
  simp only []
  rw [bM,dF (by omega),kG]) (by omega)];rfl
theorem Uy {w:GWork} (h:w.bP.length≤1000):pY N w=some (w.bP.map fun x=>x.Name):=by
 have hlim:lim ≥ 1000000:=by decide
 unfold pY uO
 rw [OE (f:=mZ N w.bP fun y0=>qA N y0) w.bP (fun x=>x.Name) (fun i hi acc ha=>by
  unfold mZ qA
  simp only []
  rw [bM,dT (by omega),kS,jm hi,bS,bS,DW (by rw [List.length_singleton];omega),bS,oJ (by omega)]) (fun acc=>by
  unfold mZ
  simp only []
  rw [bM,dF (by omega),kG]) (by omega)];rfl
theorem PK {w:GWork} (h:w.Items.length≤1000):nD N w=some (w.Items.map fun x=>x.Name):=by
 have hlim:lim ≥ 1000000:=by decide
 unfold nD vW
 rw [OE (f:=nP N w.Items fun y0=>qU N y0) w.Items (fun x=>x.Name) (fun i hi acc ha=>by
  unfold nP qU
  simp only []
  rw [bM,dT (by omega),kS,jm hi,bS,bS,DW (by rw [List.length_singleton];omega),bS,oJ (by omega)]) (fun acc=>by
  unfold nP
  simp only []
  rw [bM,dF (by omega),kG]) (by omega)];rfl
theorem SN {l:List Str} {most:Int} {φ:Int→Option Int} (hl:l.length≤1000) (P:Nat→Prop) (hφ:∀ i,i<l.length→∃ e,φ (i:Int)=some e∧(e=0→P i)) :
  ∃ e,vN N l most φ=some e∧(e=0→(l.length:Int)≤most∧∀ i,i<l.length→lD l[i]! = true∧BV (l.take i) l[i]! = false∧P i):=by
 unfold vN
 rw [rP]
 by_cases h:most<(l.length:Int)
 ·rw [dT h,kS];exact ⟨8,rfl,fun x=>by omega⟩
 ·rw [dF h,kG]
  obtain ⟨o,ho,hc⟩:=OO (f:=uy N l φ) (N:=N) (n:=l.length) (fun i=>lD l[i]! = true∧BV (l.take i) l[i]! = false∧P i) (fun i hi=>by
   obtain ⟨e,e1,e2⟩:=hφ i hi
   unfold uy
   rw [bM,dT (by omega),kS,rH hi,bS,jZd (by omega),bS]
   cases h1:lD l[i]! with
   | false=>exact .inr ⟨4,by omega,rfl⟩
   | true =>
    rw [Bool.not_true,kG,show TL l 0 (i:Int)=some (l.take i) from PL (a:=0) (Nat.zero_le _) (by omega),bS,CG (by rw [List.length_take];omega) (by omega),bS]
    cases h2:BV (l.take i) l[i]! with
    | true=>exact .inr ⟨5,by omega,rfl⟩
    | false =>
     rw [kG,e1,bS,wP]
     by_cases h3:e=0
     ·rw [dT h3,Bool.not_true,kG,oJ (by omega)];exact .inl ⟨rfl,rfl,rfl,e2 h3⟩
     ·rw [dF h3,Bool.not_false,kS];exact .inr ⟨e,h3,rfl⟩) (by
   unfold uy
   rw [bM,dF (by omega),kG]) (by omega)
  rw [ho,bS]
  rcases hc with ⟨rfl,hp⟩ | ⟨e,he,rfl⟩
  ·exact ⟨0,rfl,fun _=>⟨by omega,hp⟩⟩
  ·exact ⟨e,rfl,fun x=>absurd x he⟩
end
end Go.KB
namespace Go.KB
set_option linter.unusedVariables false
set_option maxRecDepth 100000
structure SmW (w:GWork):Prop where
 t:w.fH.length≤8
 s:w.bP.length≤14
 e:w.aW.length≤32
 o:w.iO.length≤22
 i:w.Items.length≤45
 n:∀ i,i<w.bP.length→w.bP[i]!.Next.length≤20
 m:∀ i,i<w.Items.length→w.Items[i]!.Modes.length≤6
 a:∀ i,i<w.Items.length→w.Items[i]!.After.length≤12
def Jk (n:Nat) (f:Nat→List Int):List (sH Int):=(List.range n).map fun j=>sH.own (f j)
def KL (f:Nat→List Int) (i:Nat) (v:List Int):Nat→List Int:=fun j=>if j=i then v else f j
theorem OQ {n:Nat} {f:Nat→List Int}:(Jk n f).length=n:=by unfold Jk;simp
theorem QZ {n i:Nat} {f:Nat→List Int} (h:i<n):(Jk n f)[i]? = some (sH.own (f i)):=by unfold Jk;simp [h]
theorem jZh {n i:Nat} {f:Nat→List Int} {v:List Int} (h:i<n):(Jk n f).set i (sH.own v)=Jk n (KL f i v):=by
 refine List.ext_getElem? fun j=>?_
 by_cases e:j=i
 ·subst e
  rw [List.getElem?_set_self (by rw [OQ];exact h),QZ h];unfold KL;rw [if_pos rfl]
 ·rw [List.getElem?_set_ne (Ne.symm e)]
  by_cases hj:j<n
  ·rw [QZ hj,QZ hj];unfold KL;rw [if_neg e]
  ·rw [List.getElem?_eq_none (by rw [OQ];omega),List.getElem?_eq_none (by rw [OQ];omega)]
theorem Xp:∀ (l:List (List Int)),allA (l.map sH.own)=some l
 | []=>rfl
 | x :: l=>by
  show (valR (sH.own x)).bind (fun y=>(allA (l.map sH.own)).bind fun ys=>some (y :: ys))=_
  rw [Xp l];rfl
theorem jJ2 {n:Nat} {f:Nat→List Int}:allA (Jk n f)=some ((List.range n).map f):=by
 have:Jk n f=((List.range n).map f).map sH.own:=by unfold Jk;rw [List.map_map];rfl
 rw [this,Xp]
def ixN (w:GWork) (s:Str):Int:=Ku (fun x=>decide (s=x)) (w.Items.map fun x=>x.Name)
def FQ (w:GWork) (i:Nat):List Int:=w.Items[i]!.After.map (ixN w)
section
variable {N:Nat} {w:GWork} (hN:2 ^ 64≤N) (hw:SmW w)
include hN hw
theorem bef_L1 {i:Nat} {f:Nat→List Int} {z:List (sH Int)} (hi:i<w.Items.length) (h0:f i=[]):dh (qI N (w.Items.map fun x=>x.Name) (z,(i:Int)) w.Items[i]!) N (Jk w.Items.length f,0)=some (Jk w.Items.length (KL f i (FQ w i))):=by
 have hlim:lim ≥ 1000000:=by decide
 have ha:=hw.a i hi;have hii:=hw.i
 have:=Eh (f:=qI N (w.Items.map fun x=>x.Name) (z,(i:Int)) w.Items[i]!) (n:=w.Items[i]!.After.length) (N:=N) (fun k=>(Jk w.Items.length (KL f i ((w.Items[i]!.After.take k).map (ixN w))),(k:Int))) (Jk w.Items.length (KL f i (FQ w i))) (fun k hk=>by
  have hv:KL f i ((w.Items[i]!.After.take k).map (ixN w)) i=(w.Items[i]!.After.take k).map (ixN w):=by unfold KL;rw [if_pos rfl]
  have hlen:((w.Items[i]!.After.take k).map (ixN w)).length=k:=by rw [List.length_map,List.length_take];omega
  have e1:tkA (Jk w.Items.length (KL f i ((w.Items[i]!.After.take k).map (ixN w)))) i=some ((w.Items[i]!.After.take k).map (ixN w)):=by
   unfold tkA;rw [QZ hi,hv]
  have hl:=OQ (n:=w.Items.length) (f:=KL f i ((w.Items[i]!.After.take k).map (ixN w)))
  unfold qI
  simp only []
  rw [bM,dT (by omega),kS,jm hk,bS,jm (by rw [hl];exact hi),bS,Int.toNat_natCast,e1,bS,VD (by rw [List.length_map];omega) (by omega),bS,DW (by rw [hlen,List.length_singleton];omega),bS,jm (by rw [List.length_set,hl];exact hi),bS,List.getElem?_set_self (by rw [hl];exact hi),bS,List.set_set,jZh hi,oJ (by omega)]
  have:KL (KL f i ((w.Items[i]!.After.take k).map (ixN w))) i ((w.Items[i]!.After.take k).map (ixN w) ++ [Ku (fun x=>decide (w.Items[i]!.After[k]=x)) (w.Items.map fun x=>x.Name)])=KL f i ((w.Items[i]!.After.take (k+1)).map (ixN w)):=by
   funext j
   unfold KL
   by_cases e:j=i
   ·rw [if_pos e,if_pos e,List.take_succ_eq_append_getElem hk,List.map_append];rfl
   ·rw [if_neg e,if_neg e,if_neg e]
  rw [this]) (by
  unfold qI
  simp only []
  rw [bM,dF (by omega),kG,List.take_length];rfl) (by omega)
 have e0:KL f i (([]:List Str).map (ixN w))=f:=by
  funext j;unfold KL
  by_cases e:j=i
  ·subst e;rw [if_pos rfl,h0];rfl
  ·rw [if_neg e]
 simp only [List.take_zero] at this
 rw [e0] at this
 exact this
theorem Uz:wM N w=some ((List.range w.Items.length).map (FQ w)):=by
 have hii:=hw.i
 have hlim:lim ≥ 1000000:=by decide
 unfold wM
 have hmk:mk (sH.own ([]:List Int)) (w.Items.length:Int) (w.Items.length:Int)=some (Jk w.Items.length fun _=>[]):=by
  unfold mk
  rw [dT (by omega),dT (by omega),dT (by omega)]
  show some (List.replicate w.Items.length (sH.own []))=_
  congr 1
  unfold Jk
  rw [List.map_const',List.length_range]
 have hl2:=Eh (f:=qH N w (w.Items.map fun x=>x.Name)) (n:=w.Items.length) (N:=N) (fun i=>(Jk w.Items.length (fun j=>if j<i then FQ w j else []),(i:Int))) (Jk w.Items.length (FQ w)) (fun i hi=>by
  unfold qH
  simp only []
  rw [bM,dT (by omega),kS,rH hi,bS,bef_L1 hN hw hi (by simp),bS,oJ (by omega)]
  have:KL (fun j=>if j<i then FQ w j else []) i (FQ w i)=fun j=>if j<i+1 then FQ w j else []:=by
   funext j
   unfold KL
   by_cases e:j=i
   ·subst e;rw [if_pos rfl,if_pos (by omega)]
   ·rw [if_neg e]
    show (if j<i then FQ w j else [])=_
    by_cases h:j<i
    ·rw [if_pos h,if_pos (by omega)]
    ·rw [if_neg h,if_neg (by omega)]
  rw [this]) (by
  unfold qH
  simp only []
  rw [bM,dF (by omega),kG]
  congr 2
  unfold Jk
  refine List.map_congr_left fun j hj=>?_
  show sH.own (if j<w.Items.length then FQ w j else [])=_
  rw [if_pos (List.mem_range.1 hj)]) (by omega)
 have e0:(fun j=>if j<0 then FQ w j else ([]:List Int))=fun _=>[]:=by funext j;rw [if_neg (Nat.not_lt_zero _)]
 rw [e0] at hl2
 have hl2:dh (qH N w (w.Items.map fun x=>x.Name)) N (Jk w.Items.length (fun _=>[]),0)=_:=hl2
 rw [PK hN (by omega),bS,List.length_map,hmk,bS,hl2,bS,jJ2];rfl
end
theorem SQ {α:Type} {g:α→Bool} {l:List α}:-1≤Ku g l∧Ku g l<l.length∨Ku g l = -1:=by
 unfold Ku
 split
 ·left;omega
 ·exact .inr rfl
section
variable {N:Nat} (hN:2 ^ 64≤N)
include hN
theorem ord11 {g l:List Int} (hg:g.length≤1000) (hl:l.length≤1000):jO N g l=some (l.any fun k=>!g.contains k):=by
 unfold jO mG
 have h:((dh (iT N g l) N 0).bind fun o5=>Sum.elim (fun l7=>some (-1:Int)) (fun r8=>some r8) o5)=some (Ku (fun k=>!g.contains k) l):=by
  refine xW (fun i hi=>?_) ?_ (by omega)
  ·unfold iT vX
   rw [bM,dT (by omega),kS,jm hi,bS,Jl (by omega) (by omega),bS,bS,oJ (by omega)]
  ·unfold iT
   rw [bM,dF (by omega),kG]
 rw [h,bS,PI]
theorem ord1 {g:List Int} {b:List (List Int)} (hg:g.length≤1000) (hb:b.length≤1000) (hl:∀ l ∈ b,l.length≤1000):kF N g b=some (Ku (fun l=>!l.any fun k=>!g.contains k) b):=by
 unfold kF
 refine xW (fun i hi=>?_) ?_ (by omega)
 ·unfold jP xG
  rw [bM,dT (by omega),kS,jm hi,bS,ord11 hN hg (hl _ (List.getElem_mem hi)),bS,bS,oJ (by omega)]
 ·unfold jP
  rw [bM,dF (by omega),kG]
theorem jWg {w:GWork} (hw:SmW w):∃ l,vK N w=some l:=by
  have hii:=hw.i
  have hlim:lim ≥ 1000000:=by decide
  unfold vK
  rw [Uz hN hw,bS]
  obtain ⟨b,hb⟩:∃ b,b=(List.range w.Items.length).map (FQ w):=⟨_,rfl⟩
  have hbl:b.length=w.Items.length:=by rw [hb];simp
  have hbb:∀ l ∈ b,l.length≤1000:=fun l hl=>by
    rw [hb,List.mem_map] at hl
    obtain ⟨i,hi,rfl⟩:=hl
    unfold FQ
    rw [List.length_map]
    have:=hw.a i (List.mem_range.1 hi);omega
  rw [← hb]
  have l1:∀ (s:List Int) (v:Int),s.length≤1000→v<b.length→∃ o:Int,dh (mD N b s) N v=some o:=by
    intro s v hs hv
    obtain ⟨o,ho,_⟩:=AQ (f:=mD N b s) (I:=fun v=>v<b.length) (μ:=fun v=>if v<0 then 0 else b.length+1 - v.toNat) (post:=fun _=>True) (by
      intro v hv
      by_cases h0:0≤v
      · obtain ⟨i, rfl⟩ : ∃ i : Nat, v = (i : Int) := ⟨v.toNat, by omega⟩
        cases hc:s.contains (i:Int) with
        | false =>
          right
          refine ⟨(i:Int),?_,trivial⟩
          unfold mD
          rw [yV,dT h0,kS,Jl (by omega) (by omega),bS,hc,Bool.and_false,kG]
        | true =>
          left
          have hsl:TL b ((i+1:Nat):Int) (b.length:Int)=some (b.drop (i+1)):=by
            rw [PL (by omega) (Nat.le_refl _),List.take_length]
          have hdl:(b.drop (i+1)).length=b.length - (i+1):=List.length_drop
          have h2:mr N s (b.drop (i+1))=some (Ku (fun l=>!l.any fun k=>!s.contains k) (b.drop (i+1))):=ord1 hN hs (by omega) (fun l hl=>hbb l (List.mem_of_mem_drop hl))
          obtain ⟨r,hr⟩:∃ r,r=Ku (fun l=>!l.any fun k=>!s.contains k) (b.drop (i+1)):=⟨_,rfl⟩
          have hbd:=SQ (g:=fun l:List Int=>!l.any fun k=>!s.contains k) (l:=b.drop (i+1))
          rw [← hr,hdl] at hbd
          rw [← hr] at h2
          have hstep:mD N b s (i:Int)=bif decide (r<0) then some (.inl (-1)) else some (.inl (IntKind.i64.wrap ((i:Int)+IntKind.i64.wrap (1+r)))):=by
            unfold mD
            rw [yV,dT h0,kS,Jl (by omega) (by omega),bS,hc,Bool.and_self,kS,oJ (by omega),hsl,bS,h2,bS,bM]
          by_cases hr0:r<0
          · refine ⟨-1, by rw [hstep, dT hr0]; rfl, by omega, ?_⟩
            rw [if_pos (by omega),if_neg (by omega)]
            simp only [Int.toNat_natCast];omega
          · refine ⟨(i : Int) + (1 + r), by rw [hstep, dF hr0, kG, w64 (n := 1 + r) (by omega) (by omega), w64 (by omega) (by omega)], by omega, ?_⟩
            rw [if_neg (by omega),if_neg (by omega)]
            simp only [Int.toNat_natCast];omega
      · right
        refine ⟨v,?_,trivial⟩
        unfold mD
        rw [yV,dF h0,kG,bS,Bool.false_and,kG]) N v hv (by split <;> omega)
    exact ⟨o,ho⟩
  obtain ⟨o,ho,_⟩:=AQ (f:=pV N b) (I:=fun s=>s.length≤b.length) (μ:=fun s=>b.length - s.length) (post:=fun _=>True) (by
    intro s hs
    by_cases hlt:s.length<b.length
    · have h1 := ord1 hN (g := s) (b := b) (by omega) (by omega) hbb
      have hbd:=SQ (g:=fun l:List Int=>!l.any fun k=>!s.contains k) (l:=b)
      obtain ⟨o,ho⟩:=l1 s (Ku (fun l=>!l.any fun k=>!s.contains k) b) (by omega) (by omega)
      have hstep:pV N b s=bif decide (o<0) then (some (.inr (Sum.inr (s,s)))) else ((app s [o]).bind fun v13=>some (.inl v13)):=by
        unfold pV
        rw [bM,dT (by omega),kS,h1,bS,ho,bS,bM]
      by_cases h0:o<0
      · right;exact ⟨_,by rw [hstep,dT h0,kS],trivial⟩
      · left
        refine ⟨s ++ [o],by rw [hstep,dF h0,kG,DW (by rw [List.length_singleton];omega),bS],by rw [List.length_append,List.length_singleton];omega,by rw [List.length_append,List.length_singleton];omega⟩
    · right
      refine ⟨.inl s,?_,trivial⟩
      unfold pV
      rw [bM,dF (by omega),kG]) N ([]:List Int) (by simp) (by simp only [List.length_nil];omega)
  rw [ho,bS]
  cases o with
  | inl q=>exact ⟨q,rfl⟩
  | inr q=>exact ⟨q.1,rfl⟩
end
end Go.KB
namespace Go.KB
set_option linter.unusedVariables false
set_option maxRecDepth 100000
def KN (w:GWork):List Str:=w.Items.map fun x=>x.Name
def LU (w:GWork):List Str:=w.bP.map fun x=>x.Name
structure ItOk (w:GWork) (x:fQ):Prop where
 m1:1≤x.Modes.length
 md:∀ j,j<x.Modes.length→1≤x.Modes[j]!.LD∧x.Modes[j]!.LD≤60
 k:-1≤x.Kind∧x.Kind≤5
 sp:x.Kind ≠ -1→BV (LU w) x.Space=true
 af:∀ j,j<x.After.length→BV (KN w) x.After[j]! = true
structure OkW (w:GWork):Prop where
 i40:w.Items.length≤40
 s12:w.bP.length≤12
 e30:w.aW.length≤30
 inm:∀ i,i<(KN w).length→lD (KN w)[i]! = true∧BV ((KN w).take i) (KN w)[i]! = false
 snm:∀ i,i<(LU w).length→lD (LU w)[i]! = true∧BV ((LU w).take i) (LU w)[i]! = false
 nx:∀ i,i<w.bP.length→∀ s ∈ w.bP[i]!.Next,BV (LU w) s=true
 ex:∀ i,i<w.aW.length→(0≤w.aW[i]!.A∧w.aW[i]!.A≤5)∧(0≤w.aW[i]!.B∧w.aW[i]!.B≤5)∧0≤w.aW[i]!.Reach∧w.aW[i]!.Reach≤2
 it:∀ i,i<w.Items.length→ItOk w w.Items[i]!
 last:0≤w.Last∧w.Last≤400
theorem wd {a b:Int}:(decide (0≤a)&&decide (a≤b))=decide (0≤a∧a≤b):=by rw [Bool.decide_and]
section
variable {N:Nat} {w:GWork} (hN:2 ^ 64≤N) (hw:SmW w)
include hN hw
theorem Y6 {i:Nat} (hi:i<w.Items.length):∃ e,yj N w w.Items[i]! (KN w)=some e∧(e=0→ItOk w w.Items[i]!):=by
  have ht:=hw.t;have hs:=hw.s;have hii:=hw.i;have hm:=hw.m i hi;have ha:=hw.a i hi
  obtain ⟨x,hx⟩:∃ x,x=w.Items[i]!:=⟨_,rfl⟩
  rw [← hx] at hm ha ⊢
  unfold yj
  rw [Ux hN (by omega),bS,VD (by rw [List.length_map];omega) (by omega),bS,bM]
  obtain ⟨t,ht'⟩:∃ t,t=Ku (fun y=>decide (x.tK=y)) (w.fH.map fun y=>y.Name):=⟨_,rfl⟩
  have hbd:=SQ (g:=fun y:Str=>decide (x.tK=y)) (l:=w.fH.map fun y=>y.Name)
  rw [← ht',List.length_map] at hbd
  rw [← ht']
  by_cases h0:t<0
  · rw [dT h0,kS];exact ⟨6,rfl,fun x=>by omega⟩
  · obtain ⟨tn, rfl⟩ : ∃ tn : Nat, t = (tn : Int) := ⟨t.toNat, by omega⟩
    have htn:tn<w.fH.length:=by omega
    rw [dF h0,kG,bM,rP]
    by_cases h1:(x.Modes.length:Int)<1
    · rw [dT h1];exact ⟨2,rfl,fun x=>by omega⟩
    · by_cases h2 : 3 < (x.Modes.length : Int)
      · rw [dF h1,dT h2];exact ⟨2,rfl,fun x=>by omega⟩
      · rw [dF h1,dF h2,Bool.or_self,kG]
        obtain ⟨o,ho,hc⟩:=OO (f:=rX N w x (tn:Int)) (N:=N) (n:=x.Modes.length) (fun j=>1≤x.Modes[j]!.LD∧x.Modes[j]!.LD≤60) (fun j hj=>by
          unfold rX
          rw [bM,dT (by omega),kS,rH hj,bS,bM,rP,wQ,wd]
          by_cases a1:x.Modes[j]!.LD<1
          · rw [dT a1];exact .inr ⟨2,by omega,rfl⟩
          · by_cases a2 : 60 < x.Modes[j]!.LD
            · rw [dF a1,dT a2];exact .inr ⟨2,by omega,rfl⟩
            · rw [dF a1,dF a2,Bool.or_self,Bool.not_false,kS,bS]
              by_cases a3:0≤x.Modes[j]!.Dy∧x.Modes[j]!.Dy≤1000
              · rw [dT a3,Bool.not_true,Bool.or_self,kG,rH htn,bS,rP]
                by_cases a4:w.fH[tn]!.Dy<x.Modes[j]!.Dy
                · rw [dT a4,kS];exact .inr ⟨23,by omega,rfl⟩
                · rw [dF a4,kG,oJ (by omega)];exact .inl ⟨rfl,by omega,by omega⟩
              · rw [dF a3];exact .inr ⟨2,by omega,rfl⟩) (by
          unfold rX
          rw [bM,dF (by omega),kG]) (by omega)
        rw [ho,bS]
        rcases hc with ⟨rfl,hp⟩ | ⟨e,he,rfl⟩
        · rw [Sum.elim_inl,OT]
          obtain ⟨o2,ho2,hc2⟩:=OO (f:=qc N x (KN w)) (N:=N) (n:=x.After.length) (fun j=>BV (KN w) x.After[j]! = true) (fun j hj=>by
            unfold qc
            rw [bM,dT (by omega),kS,rH hj,bS,CG (by unfold KN;rw [List.length_map];omega) (by omega),bS]
            cases b1:BV (KN w) x.After[j]! with
            | false=>exact .inr ⟨6,by omega,rfl⟩
            | true =>
              rw [Bool.not_true,kG,rD]
              by_cases b2:x.After[j]! = x.Name
              · rw [dT b2,kS];exact .inr ⟨3,by omega,rfl⟩
              · rw [dF b2,kG,oJ (by omega)];exact .inl ⟨rfl,rfl⟩) (by
            unfold qc
            rw [bM,dF (by omega),kG]) (by omega)
          have tail:∀ (b:Bool),(x.Kind ≠ -1→x.Space≠[]→b=true)→(x.Space≠[]→b=true→BV (LU w) x.Space=true)→∃ e:Int,(bif ((!decide (x.Space=([]:Str)))&&(!b)) then (some 6:Option Int) else (bif ((aC .lss x.Kind (-1))||(aC .gtr x.Kind 5)) then (some 2) else (bif ((aC .neq x.Kind (-1))&&(Bf .eql x.Space ([]:Str))) then (some 3) else ((dh (qc N x (KN w)) N 0).bind fun o22=>Sum.elim (fun l24=>some 0) (fun r25=>some r25) o22))))=some e∧(e=0→ItOk w x):=by
            intro b hb1 hb2
            by_cases g:((!decide (x.Space=([]:Str)))&&(!b))=true
            · rw [g,kS];exact ⟨6,rfl,fun x=>by omega⟩
            · rw [Bool.not_eq_true] at g
              rw [g,kG,bM,rP]
              by_cases c1:x.Kind < -1
              · rw [dT c1];exact ⟨2,rfl,fun x=>by omega⟩
              · by_cases c2 : 5 < x.Kind
                · rw [dF c1,dT c2];exact ⟨2,rfl,fun x=>by omega⟩
                · rw [dF c1,dF c2,Bool.or_self,kG,wP,rD]
                  by_cases c3:((!decide (x.Kind = -1))&&decide (x.Space=([]:Str)))=true
                  · rw [c3,kS];exact ⟨3,rfl,fun x=>by omega⟩
                  · rw [Bool.not_eq_true] at c3
                    rw [c3,kG,ho2,bS]
                    rcases hc2 with ⟨rfl,hp2⟩ | ⟨e,he,rfl⟩
                    · refine ⟨0, rfl, fun _ => ⟨by omega, hp, by omega, fun hk => ?_, hp2⟩⟩
                      by_cases c4:x.Space=[]
                      · rw [dF hk,dT c4] at c3;cases c3
                      · refine hb2 c4 ?_
                        rw [dF c4] at g
                        cases b with
                        | true=>rfl
                        | false=>cases g
                    · exact ⟨e,rfl,fun x=>absurd x he⟩
          by_cases hsp:x.Space=[]
          · rw [dT hsp,Bool.not_true,kG,bS,kG,bS]
            have:=tail false (fun _ h=>absurd hsp h) (fun h=>absurd hsp h)
            rw [dT hsp,Bool.not_true] at this
            exact this
          · rw [dF hsp, Bool.not_false, kS, Uy hN (by omega), bS, kS, CG (by rw [List.length_map]; omega) (by omega), bS]
            by_cases hin:BV (LU w) x.Space=true
            · have hin' : BV (w.bP.map fun x => x.Name) x.Space = true := hin
              have:=tail true (fun _ _=>rfl) (fun _ _=>hin)
              rw [dF hsp,Bool.not_false] at this
              rw [hin'];exact this
            · rw [Bool.not_eq_true] at hin
              have hin':BV (w.bP.map fun x=>x.Name) x.Space=false:=hin
              rw [hin'];exact ⟨6,rfl,fun x=>by omega⟩
        · exact ⟨e,rfl,fun x=>absurd x he⟩
theorem jZl:∃ e,xw N w=some e∧(e=0→w.aW.length≤30∧∀ i,i<w.aW.length→(0≤w.aW[i]!.A∧w.aW[i]!.A≤5)∧(0≤w.aW[i]!.B∧w.aW[i]!.B≤5)∧0≤w.aW[i]!.Reach∧w.aW[i]!.Reach≤2):=by
  have he:=hw.e;have ho:=hw.o
  unfold xw
  rw [rP]
  by_cases h:30<(w.aW.length:Int)
  · rw [dT h,kS];exact ⟨8,rfl,fun x=>by omega⟩
  · rw [dF h,kG]
    obtain ⟨o,ho1,hc⟩:=OO (f:=qQ N w) (N:=N) (n:=w.aW.length) (fun i=>(0≤w.aW[i]!.A∧w.aW[i]!.A≤5)∧(0≤w.aW[i]!.B∧w.aW[i]!.B≤5)∧0≤w.aW[i]!.Reach∧w.aW[i]!.Reach≤2) (fun i hi=>by
      unfold qQ
      rw [bM,dT (by omega),kS,rH hi,bS,wQ,wd,wQ,wd,wQ,wd,bS]
      by_cases a:0≤w.aW[i]!.A∧w.aW[i]!.A≤5
      · by_cases b : 0 ≤ w.aW[i]!.B ∧ w.aW[i]!.B ≤ 5
        · by_cases c : 0 ≤ w.aW[i]!.Reach ∧ w.aW[i]!.Reach ≤ 2
          · rw [dT a,dT b,dT c]
            refine .inl ⟨?_,a,b,c⟩
            show some (Sum.inl (IntKind.i64.wrap ((i:Int)+1)))=_
            rw [oJ (by omega)]
          · rw [dT a,dT b,dF c];exact .inr ⟨2,by omega,rfl⟩
        · rw [dT a,dF b];exact .inr ⟨2,by omega,rfl⟩
      · rw [dF a];exact .inr ⟨2,by omega,rfl⟩) (by
      unfold qQ
      rw [bM,dF (by omega),kG]) (by omega)
    rw [ho1,bS]
    rcases hc with ⟨rfl,hp⟩ | ⟨e,he,rfl⟩
    · rw [Sum.elim_inl,rP]
      by_cases h2:20<(w.iO.length:Int)
      · rw [dT h2,kS];exact ⟨8,rfl,fun x=>by omega⟩
      · rw [dF h2,kG]
        obtain ⟨o2,ho2,hc2⟩:=OO (f:=qR N w) (N:=N) (n:=w.iO.length) (fun i=>True) (fun i hi=>by
          unfold qR
          rw [bM,dT (by omega),kS,rH hi,bS,wQ,wd,wQ,wd,bS]
          by_cases a:0≤w.iO[i]!.From∧w.iO[i]!.From≤400
          · by_cases b : 0 ≤ w.iO[i]!.To ∧ w.iO[i]!.To ≤ 400
            · rw [dT a,dT b]
              by_cases c:w.iO[i]!.To≤w.iO[i]!.From
              · refine .inr ⟨10, by omega, ?_⟩
                show (bif (aC .leq w.iO[i]!.To w.iO[i]!.From) then _ else _)=_
                rw [yA,dT c,kS]
              · refine .inl ⟨?_,trivial⟩
                show (bif (aC .leq w.iO[i]!.To w.iO[i]!.From) then _ else _)=_
                rw [yA,dF c,kG,oJ (by omega)]
            · rw [dT a,dF b];exact .inr ⟨2,by omega,rfl⟩
          · rw [dF a];exact .inr ⟨2,by omega,rfl⟩) (by
          unfold qR
          rw [bM,dF (by omega),kG]) (by omega)
        rw [ho2,bS]
        rcases hc2 with ⟨rfl,_⟩ | ⟨e,he,rfl⟩
        · exact ⟨0,rfl,fun _=>⟨by omega,hp⟩⟩
        · exact ⟨e,rfl,fun x=>absurd x he⟩
    · exact ⟨e,rfl,fun x=>absurd x he⟩
theorem jWb:∃ e,wC N w=some e∧(e=0→OkW w):=by
 have ht:=hw.t;have hs:=hw.s;have hii:=hw.i
 unfold wC
 obtain ⟨e1,k1,_⟩:=SN hN (l:=w.fH.map fun x=>x.Name) (most:=6) (φ:=fun y0=>oP N y0 w) (by rw [List.length_map];omega) (fun _=>True) (fun i hi=>by
  rw [List.length_map] at hi
  show ∃ e,oP N (i:Int) w=some e∧_
  unfold oP
  rw [rH hi,bS,wQ,bS]
  cases (decide (0≤w.fH[i]!.Dy)&&decide (w.fH[i]!.Dy≤1000)) with
  | false=>exact ⟨2,rfl,fun _=>trivial⟩
  | true =>
   rw [Bool.not_true,Bool.not_false,kS,bS,kS,wQ,bS]
   cases (decide (0≤w.fH[i]!.Yt)&&decide (w.fH[i]!.Yt≤1000000)) with
   | false=>exact ⟨2,rfl,fun _=>trivial⟩
   | true=>exact ⟨0,rfl,fun _=>trivial⟩)
 obtain ⟨e2,k2,f2⟩:=SN hN (l:=LU w) (most:=12) (φ:=fun y0=>oQ N y0 w (LU w)) (by unfold LU;rw [List.length_map];omega) (fun i=>∀ s ∈ w.bP[i]!.Next,BV (LU w) s=true) (fun i hi=>by
  have hi:i<w.bP.length:=by unfold LU at hi;simpa using hi
  have hn:=hw.n i hi
  show ∃ e,oQ N (i:Int) w (LU w)=some e∧_
  unfold oQ
  rw [rH hi,bS,jWu (p:=fun s=>!BV (LU w) s) (fun s=>by
   unfold sD
   rw [CG (by unfold LU;rw [List.length_map];omega) (by omega)];rfl) (by omega) (by omega),bS]
  cases hb:(w.bP[i]!.Next.any fun s=>!BV (LU w) s) with
  | true=>exact ⟨6,rfl,fun x=>by omega⟩
  | false =>
   refine ⟨0,rfl,fun _ s hs=>?_⟩
   rw [List.any_eq_false] at hb
   have:=hb s hs
   simpa using this)
 obtain ⟨e3,k3,f3⟩:=jZl hN hw
 obtain ⟨e4,k4,f4⟩:=SN hN (l:=KN w) (most:=40) (φ:=fun y0=>oU N y0 w (KN w)) (by unfold KN;rw [List.length_map];omega) (fun i=>ItOk w w.Items[i]!) (fun i hi=>by
  have hi:i<w.Items.length:=by unfold KN at hi;simpa using hi
  obtain ⟨e,g1,g2⟩:=Y6 hN hw hi
  show ∃ e,oU N (i:Int) w (KN w)=some e∧_
  unfold oU
  rw [rH hi,bS,g1]
  exact ⟨e,rfl,g2⟩)
 obtain ⟨l,hl⟩:=jWg hN hw
 have hsn:pY N w=some (LU w):=Uy hN (by omega)
 have hin:nD N w=some (KN w):=PK hN (by omega)
 rw [Ux hN (by omega),bS,k1,bS,wP]
 by_cases h1:e1=0
 ·rw [dT h1,Bool.not_true,kG,hsn,bS,k2,bS,wP]
  by_cases h2:e2=0
  ·rw [dT h2,Bool.not_true,kG,k3,bS,wP]
   by_cases h3:e3=0
   ·rw [dT h3,Bool.not_true,kG,hin,bS,k4,bS,wP]
    by_cases h4:e4=0
    ·rw [dT h4,Bool.not_true,kG,wQ,wQ,wQ,wQ,bS,wd,wd,wd,wd]
     by_cases a:0≤w.Yu∧w.Yu≤1000000000
     ·by_cases b : 0 ≤ w.Late ∧ w.Late ≤ 1000000000
      ·by_cases c : 0 ≤ w.Due ∧ w.Due ≤ 400
       ·by_cases d : 0 ≤ w.Last ∧ w.Last ≤ 400
        ·rw [dT a,dT b,dT c,dT d]
         have hi0:=f4 h4;have hs0:=f2 h2;have he0:=f3 h3
         have hlI:(KN w).length=w.Items.length:=by unfold KN;simp
         have hlW:(LU w).length=w.bP.length:=by unfold LU;simp
         have ok:OkW w:=⟨by omega,by omega,he0.1,fun i hi=>⟨(hi0.2 i hi).1,(hi0.2 i hi).2.1⟩,fun i hi=>⟨(hs0.2 i hi).1,(hs0.2 i hi).2.1⟩,fun i hi=>(hs0.2 i (by omega)).2.2,he0.2,fun i hi=>(hi0.2 i (by omega)).2.2,d⟩
         show ∃ e:Int,((vK N w).bind fun v12=>bif (aC .lss (List.length v12:Int) (List.length w.Items:Int)) then (some 22) else (some 0))=some e∧_
         rw [hl,bS]
         cases aC .lss (List.length l:Int) (List.length w.Items:Int) with
         | true=>exact ⟨22,rfl,fun x=>by omega⟩
         | false=>exact ⟨0,rfl,fun _=>ok⟩
        ·rw [dT a,dT b,dT c,dF d];exact ⟨2,rfl,fun x=>by omega⟩
       ·rw [dT a,dT b,dF c];exact ⟨2,rfl,fun x=>by omega⟩
      ·rw [dT a,dF b];exact ⟨2,rfl,fun x=>by omega⟩
     ·rw [dF a];exact ⟨2,rfl,fun x=>by omega⟩
    ·rw [dF h4];exact ⟨e4,rfl,fun x=>absurd x h4⟩
   ·rw [dF h3];exact ⟨e3,rfl,fun x=>absurd x h3⟩
  ·rw [dF h2];exact ⟨e2,rfl,fun x=>absurd x h2⟩
 ·rw [dF h1];exact ⟨e1,rfl,fun x=>absurd x h1⟩
end
end Go.KB
namespace Go.KB
set_option linter.unusedVariables false
set_option maxRecDepth 100000
def VE (x:fQ) (s:aK):Prop:=0≤s.mode∧s.mode<x.Modes.length∧0≤s.day∧s.day≤400
structure JV (w:GWork) (l:List aK):Prop where
 len:l.length=w.Items.length
 on:∀ i,i<l.length→l[i]!.on=true
 ok:∀ i,i<l.length→VE w.Items[i]! l[i]!
theorem jZm : ∀ {l : List aK} {i : Nat} {v : aK}, i < l.length → l[i]!.on = false → v.on = true → (l.set i v).countP (fun x => x.on) = l.countP (fun x => x.on) + 1
  | [],i,v,h,_,_=>absurd h (Nat.not_lt_zero _)
  | x :: l,0,v,_,h1,h2=>by
    have h1:x.on=false:=h1
    simp [List.set,List.countP_cons,h1,h2]
  | x :: l,i+1,v,h,h1,h2=>by
    have:=jZm (l:=l) (i:=i) (v:=v) (by simpa using h) (by simpa using h1) h2
    simp [List.set,List.countP_cons,this];omega
theorem jZn {l:List aK} (h:l.countP (fun x=>x.on)=l.length):∀ i,i<l.length→l[i]!.on=true:=fun i hi=>by
 rw [List.countP_eq_length] at h
 rw [uX hi];exact h _ (List.getElem_mem hi)
theorem setB {l:List aK} {i j:Nat} {v:aK} (hj:j<l.length):(l.set i v)[j]! = if i=j then v else l[j]!:=by
 rw [uX (by simpa using hj),List.getElem_set]
 by_cases h:i=j
 ·rw [if_pos h,if_pos h]
 ·rw [if_neg h,if_neg h,uX hj]
section
variable {N:Nat} {w:GWork} (hN:2 ^ 64≤N) (hw:SmW w)
include hN hw
theorem jZp {s:List GSlot} (hs:s.length≤1000):∃ l e,rG N w s=some (l,e)∧(e=0→OkW w∧JV w l):=by
  have hii:=hw.i
  have hlim:lim ≥ 1000000:=by decide
  obtain ⟨e,k1,k2⟩:=jWb hN hw
  unfold rG
  rw [k1,bS,wP]
  by_cases h1:e=0
  · rw [dT h1,Bool.not_true,kG,wP]
    by_cases h2:(s.length:Int)=(w.Items.length:Int)
    · have hin : nD N w = some (KN w) := PK hN (by omega)
      have hlI:(KN w).length=w.Items.length:=by unfold KN;simp
      have hmk:mk (⟨0,0,false⟩:aK) ((KN w).length:Int) ((KN w).length:Int)=some (List.replicate w.Items.length ⟨0,0,false⟩):=by
        unfold mk
        rw [dT (by omega),dT (by omega),dT (by omega),hlI];rfl
      rw [dT h2,Bool.not_true,kG,hin,bS,hmk,bS]
      obtain ⟨o,ho,hc⟩:=AQ (f:=lQ N w s (KN w)) (I:=fun q=>∃ j:Nat,q.2=(j:Int)∧j≤s.length∧q.1.length=w.Items.length∧q.1.countP (fun x=>x.on)=j∧∀ i,i<q.1.length→q.1[i]!.on=true→VE w.Items[i]! q.1[i]!) (μ:=fun q=>s.length - q.2.toNat) (post:=fun o=>(∃ e:Int,e≠0∧o = .inr ([],e))∨∃ l,o = .inl l∧JV w l) (by
        rintro ⟨l,sj⟩ ⟨j,hj,hjl,hl,hcn,hok⟩
        simp only at hj hl hcn hok
        subst hj
        by_cases hlt:j<s.length
        · have hbd := SQ (g := fun y : Str => decide (s[j]!.Item = y)) (l := KN w)
          obtain ⟨t,ht⟩:∃ t,t=Ku (fun y:Str=>decide (s[j]!.Item=y)) (KN w):=⟨_,rfl⟩
          rw [← ht] at hbd
          have hidx:iU N (KN w) s[j]!.Item=some t:=by rw [VD (by omega) (by omega),ht]
          by_cases h0:t<0
          · right
            refine ⟨.inr ([],6),?_,.inl ⟨6,by omega,rfl⟩⟩
            unfold lQ
            simp only []
            rw [bM,dT (by omega),kS,rH hlt,bS,hidx,bS,bM,dT h0,kS]
          · obtain ⟨i, rfl⟩ : ∃ i : Nat, t = (i : Int) := ⟨t.toNat, by omega⟩
            have hi:i<w.Items.length:=by omega
            cases hon:l[i]!.on with
            | true =>
              right
              refine ⟨.inr ([],5),?_,.inl ⟨5,by omega,rfl⟩⟩
              unfold lQ
              simp only []
              rw [bM,dT (by omega),kS,rH hlt,bS,hidx,bS,bM,dF (by omega),kG,rH (by omega),bS,hon,kS]
            | false =>
              by_cases hgood:0≤s[j]!.Mode∧s[j]!.Mode<w.Items[i]!.Modes.length∧0≤s[j]!.Day∧s[j]!.Day≤400
              · left
                refine ⟨(l.set i ⟨s[j]!.Mode,s[j]!.Day,true⟩,((j+1:Nat):Int)),?_,⟨j+1,rfl,by omega,by simpa using hl,by rw [jZm (by omega) hon rfl,hcn],fun k hk hkon=>?_⟩,?_⟩
                · unfold lQ
                  simp only []
                  rw [bM,dT (by omega),kS,rH hlt,bS,hidx,bS,bM,dF (by omega),kG,rH (by omega),bS,hon,kG,bM,dF (by omega),Bool.not_false,kS,rH hi,bS,yV,dF (by omega),Bool.or_self,Bool.not_false,kS,wQ,dT (p:=0≤s[j]!.Day) (by omega),dT (p:=s[j]!.Day≤400) (by omega),bS]
                  show (bif false then _ else _)=_
                  rw [kG,bS,Int.toNat_natCast,oJ (by omega)]
                · have hk : k < l.length := by simpa using hk
                  have hkon:(l.set i ⟨s[j]!.Mode,s[j]!.Day,true⟩)[k]!.on=true:=hkon
                  show VE w.Items[k]! (l.set i ⟨s[j]!.Mode,s[j]!.Day,true⟩)[k]!
                  rw [setB hk] at hkon ⊢
                  by_cases e:i=k
                  · subst e;rw [if_pos rfl];exact hgood
                  · rw [if_neg e] at hkon ⊢;exact hok k hk hkon
                · show s.length - ((j+1:Nat):Int).toNat<s.length - ((j:Nat):Int).toNat
                  simp only [Int.toNat_natCast];omega
              · right
                refine ⟨.inr ([],2),?_,.inl ⟨2,by omega,rfl⟩⟩
                unfold lQ
                simp only []
                rw [bM,dT (by omega),kS,rH hlt,bS,hidx,bS,bM,dF (by omega),kG,rH (by omega),bS,hon,kG,bM]
                by_cases a:s[j]!.Mode<0
                · rw [dT a];rfl
                · rw [dF a,Bool.not_false,kS,rH hi,bS,yV]
                  by_cases b:(w.Items[i]!.Modes.length:Int)≤s[j]!.Mode
                  · rw [dT b];rfl
                  · rw [dF b,Bool.or_self,Bool.not_false,kS,wQ,wd,dF (by omega)];rfl
        · right
          have hjn:j=s.length:=by omega
          refine ⟨.inl l,?_,.inr ⟨l,rfl,hl,jZn (by rw [hcn];omega),fun i hi=>hok i hi (jZn (by rw [hcn];omega) i hi)⟩⟩
          unfold lQ
          simp only []
          rw [bM,dF (by omega),kG]) N (List.replicate w.Items.length ⟨0,0,false⟩,0) ⟨0,rfl,Nat.zero_le _,by simp,by
          show (List.replicate w.Items.length (⟨0,0,false⟩:aK)).countP (fun x=>x.on)=0
          rw [List.countP_replicate];rfl,fun i hi hon=>by
          exfalso
          have hi:i<w.Items.length:=by simpa using hi
          have hon:(List.replicate w.Items.length (⟨0,0,false⟩:aK))[i]!.on=true:=hon
          rw [uX (by simpa using hi)] at hon
          simp at hon⟩ (by simp only [];omega)
      rw [ho,bS]
      rcases hc with ⟨e,he,rfl⟩ | ⟨l,rfl,hl⟩
      · exact ⟨[],e,rfl,fun x=>absurd x he⟩
      · exact ⟨l,0,rfl,fun _=>⟨k2 h1,hl⟩⟩
    · rw [dF h2];exact ⟨[],11,rfl,fun x=>by omega⟩
  · rw [dF h1];exact ⟨[],e,rfl,fun x=>absurd x h1⟩
end
end Go.KB
namespace Go.KB
set_option linter.unusedVariables false
set_option maxRecDepth 100000
def GU (s:aK) (x:fQ):Int:=s.day+x.Modes[s.mode.toNat]!.LD
theorem IC {N:Nat} {w:GWork} {s:aK} {x:fQ} (hx:ItOk w x) (hs:VE x s):kL N s x=some (GU s x)∧s.day<GU s x∧GU s x≤460:=by
 obtain ⟨h1,h2,h3,h4⟩:=hs
 obtain ⟨m,hm⟩:∃ m:Nat,s.mode=(m:Int):=⟨s.mode.toNat,by omega⟩
 have hml:m<x.Modes.length:=by omega
 have hd:=hx.md m hml
 have e:GU s x=s.day+x.Modes[m]!.LD:=by unfold GU;rw [hm,Int.toNat_natCast]
 rw [e]
 refine ⟨?_,by omega,by omega⟩
 unfold kL
 rw [hm,rH hml,bS,w64 (by omega) (by omega)]
theorem JW {n m c N:Nat} {f:(List dU×Int)→Option ((List dU×Int) ⊕ List dU)} {a:List dU} (Q:Nat→Prop) (hm:m≤n) (ha:a.length+(n - m) * c≤500000)
  (hf:∀ i:Nat,m≤i→i<n→∀ acc:List dU,acc.length+c≤500000→∃ b:List dU,f (acc,(i:Int))=some (.inl (acc ++ b,((i+1:Nat):Int)))∧b.length≤c∧(∀ x ∈ b,x.Reason≠0)∧(b=[]→Q i)) (he:∀ acc,f (acc,(n:Int))=some (.inr acc)) (hN:n<N) :
  ∃ b:List dU,dh f N (a,(m:Int))=some (a ++ b)∧b.length≤(n - m) * c∧(∀ x ∈ b,x.Reason≠0)∧(b=[]→∀ i,m≤i→i<n→Q i):=by
 have key:∀ k i M,i+k=n→m≤i→k<M→∀ a:List dU,a.length+k * c≤500000→∃ b:List dU,dh f M (a,(i:Int))=some (a ++ b)∧b.length≤k * c∧(∀ x ∈ b,x.Reason≠0)∧(b=[]→∀ j,i≤j→j<n→Q j):=by
  intro k
  induction k with
  | zero =>
   intro i M hi hmi hM a ha
   obtain ⟨M,rfl⟩:∃ x,M=x+1:=⟨M - 1,by omega⟩
   have:i=n:=by omega
   subst this
   exact ⟨[],by rw [dh,he,List.append_nil],by simp,fun x hx=>(by cases hx),fun _ j h1 h2=>by omega⟩
  | succ k ih =>
   intro i M hi hmi hM a ha
   obtain ⟨M,rfl⟩:∃ x,M=x+1:=⟨M - 1,by omega⟩
   have hk:(k+1) * c=k * c+c:=Nat.succ_mul k c
   obtain ⟨b1,e1,e2,e3,e4⟩:=hf i hmi (by omega) a (by omega)
   obtain ⟨b2,g1,g2,g3,g4⟩:=ih (i+1) M (by omega) (by omega) (by omega) (a ++ b1) (by rw [List.length_append];omega)
   refine ⟨b1 ++ b2,?_,by rw [List.length_append];omega,fun x hx=>(List.mem_append.1 hx).elim (e3 x) (g3 x),fun hb j h1 h2=>?_⟩
   ·rw [dh,e1]
    show dh f M (a ++ b1,((i+1:Nat):Int))=_
    rw [g1,List.append_assoc]
   ·obtain ⟨hb1,hb2⟩:=List.append_eq_nil_iff.1 hb
    by_cases e:j=i
    ·subst e;exact e4 hb1
    ·exact g4 hb2 j (by omega) h2
 exact key (n - m) m N (by omega) (Nat.le_refl _) (by omega) a ha
theorem ixI_in {l:List Str} {s:Str} (h:BV l s=true):0≤Ku (fun x=>decide (s=x)) l∧Ku (fun x=>decide (s=x)) l<l.length:=by
 have h1:=PG (g:=fun x=>decide (s=x)) (l:=l)
 have h2:=SQ (g:=fun x=>decide (s=x)) (l:=l)
 unfold BV at h
 rw [h] at h1
 simp at h1
 omega
section
variable {N:Nat} {w:GWork} {l:List aK} (hN:2 ^ 64≤N) (hw:SmW w) (ok:OkW w) (hl:JV w l)
include hN hw ok hl
theorem jZr:∃ b,qE N w l=some b∧b.length≤1000∧∀ x ∈ b,x.Reason≠0:=by
 have hii:=ok.i40;have hll:=hl.len
 have hlim:lim ≥ 1000000:=by decide
 unfold qE
 rw [Uz hN hw,bS]
 obtain ⟨v,hv⟩:∃ v,v=(List.range w.Items.length).map (FQ w):=⟨_,rfl⟩
 have hvl:v.length=w.Items.length:=by rw [hv];simp
 have hva:∀ i,(h:i<v.length)→v[i]=FQ w i:=fun i h=>by subst hv;simp
 rw [← hv]
 obtain ⟨b,b1,b2,b3,_⟩:=JW (n:=v.length) (m:=0) (c:=12) (N:=N) (f:=pX N w l v) (a:=[]) (fun _=>True) (Nat.zero_le _) (by simp only [List.length_nil];omega) (fun i _ hi acc hacc=>by
  have hit:=ok.it i (by omega)
  have haf:=hw.a i (by omega)
  have hbl:(FQ w i).length=w.Items[i]!.After.length:=by unfold FQ;rw [List.length_map]
  obtain ⟨b,b1,b2,b3,_⟩:=JW (n:=(FQ w i).length) (m:=0) (c:=1) (N:=N) (f:=nU N w l (acc,(i:Int)) (FQ w i)) (a:=acc) (fun _=>True) (Nat.zero_le _) (by omega) (fun k _ hk VF hacc2=>by
   have hk':k<w.Items[i]!.After.length:=by omega
   have hin:=ixI_in (hit.af k hk')
   have hlI:(KN w).length=w.Items.length:=by unfold KN;simp
   obtain ⟨t,ht⟩:∃ t:Nat,Ku (fun x=>decide (w.Items[i]!.After[k]! = x)) (KN w)=(t:Int):=⟨_,(Int.toNat_of_nonneg hin.1).symm⟩
   rw [ht] at hin
   have hbk:(FQ w i)[k]=(t:Int):=by
    have e:(FQ w i)[k]=ixN w w.Items[i]!.After[k]:=by simp only [FQ,List.getElem_map]
    rw [e,← uX hk']
    exact ht
   have htl:t<w.Items.length:=by omega
   obtain ⟨e1,e2,e3⟩:=IC (N:=N) (ok.it t htl) (hl.ok t (by omega))
   have hstep:nU N w l (acc,(i:Int)) (FQ w i) (VF,(k:Int))=bif decide (l[i]!.day<GU l[t]! w.Items[t]!) then some (.inl (VF ++ [⟨w.Items[t]!.Name,w.Items[i]!.Name,10⟩],((k+1:Nat):Int))) else some (.inl (VF,((k+1:Nat):Int))):=by
    unfold nU
    simp only []
    rw [bM,dT (by omega),kS,jm hk,bS,hbk,rH (by omega),bS,rH htl,bS,e1,bS,rH (by omega),bS,rP,rH (by omega),bS,bS,DW (by rw [List.length_singleton];omega),bS,oJ (by omega)]
   rw [hstep]
   cases decide (l[i]!.day<GU l[t]! w.Items[t]!) with
   | true=>exact ⟨_,rfl,by simp,fun x hx=>by rw [List.mem_singleton] at hx;subst hx;simp,fun _=>trivial⟩
   | false=>exact ⟨[],by rw [List.append_nil];rfl,by simp,fun x hx=>(by cases hx),fun _=>trivial⟩) (fun VF=>by
   unfold nU
   simp only []
   rw [bM,dF (by omega),kG]) (by omega)
  refine ⟨b,?_,by omega,b3,fun _=>trivial⟩
  unfold pX
  simp only []
  have b1:dh (nU N w l (acc,(i:Int)) (FQ w i)) N (acc,0)=_:=b1
  rw [bM,dT (by omega),kS,jm hi,bS,hva i hi,b1,bS,oJ (by omega)]) (fun acc=>by
  unfold pX
  simp only []
  rw [bM,dF (by omega),kG]) (by omega)
 have b1:dh (pX N w l v) N ([],0)=_:=b1
 rw [b1,bS,List.nil_append]
 exact ⟨b,rfl,by omega,b3⟩
omit hw in
theorem jWd:∃ b,rM N w l=some b∧b.length≤1000∧(∀ x ∈ b,x.Reason≠0)∧(b=[]→∀ i,i<l.length→GU l[i]! w.Items[i]! ≤ w.Last):=by
 have hii:=ok.i40;have hll:=hl.len
 have hlim:lim ≥ 1000000:=by decide
 obtain ⟨b,b1,b2,b3,b4⟩:=JW (n:=l.length) (m:=0) (c:=1) (N:=N) (f:=oH N w l) (a:=[]) (fun i=>GU l[i]! w.Items[i]! ≤ w.Last) (Nat.zero_le _) (by simp only [List.length_nil];omega) (fun i _ hi acc hacc=>by
  obtain ⟨e1,e2,e3⟩:=IC (N:=N) (ok.it i (by omega)) (hl.ok i hi)
  have hstep:oH N w l (acc,(i:Int))=bif decide (w.Last<GU l[i]! w.Items[i]!) then some (.inl (acc ++ [⟨w.Items[i]!.Name,[],16⟩],((i+1:Nat):Int))) else some (.inl (acc,((i+1:Nat):Int))):=by
   unfold oH
   simp only []
   rw [bM,dT (by omega),kS,rH hi,bS,rH (by omega),bS,e1,bS,rP,bS,DW (by rw [List.length_singleton];omega),bS,oJ (by omega)]
  rw [hstep]
  by_cases h:w.Last<GU l[i]! w.Items[i]!
  ·rw [dT h];exact ⟨_,rfl,by simp,fun x hx=>(by rw [List.mem_singleton] at hx;subst hx;simp),fun x=>(by cases x)⟩
  ·rw [dF h];exact ⟨[],by rw [List.append_nil];rfl,by simp,fun x hx=>(by cases hx),fun _=>by omega⟩) (fun acc=>by
  unfold oH
  simp only []
  rw [bM,dF (by omega),kG]) (by omega)
 unfold rM
 have b1:dh (oH N w l) N ([],0)=_:=b1
 rw [b1,bS,List.nil_append]
 exact ⟨b,rfl,by omega,b3,fun h i hi=>b4 h i (Nat.zero_le _) hi⟩
theorem Y7 {i:Nat} (hi:i<l.length):∃ b,yh N w w.Items[i]! l[i]! = some b:=by
 have ho:=hw.o;have hll:=hl.len
 obtain ⟨e1,e2,e3⟩:=IC (N:=N) (ok.it i (by omega)) (hl.ok i hi)
 unfold yh
 have h:jR N w.iO (fun y0=>qG N y0 l[i]! w.Items[i]!)=some (w.iO.any fun y=>decide (l[i]!.day<y.To)&&decide (y.From<GU l[i]! w.Items[i]!)):=by
  unfold jR mF
  have h:((dh (iR N w.iO fun y0=>qG N y0 l[i]! w.Items[i]!) N 0).bind fun o5=>Sum.elim (fun l7=>some (-1:Int)) (fun r8=>some r8) o5)=some (Ku (fun y=>decide (l[i]!.day<y.To)&&decide (y.From<GU l[i]! w.Items[i]!)) w.iO):=by
   refine xW (fun j hj=>?_) ?_ (by omega)
   ·unfold iR qG
    rw [bM,dT (by omega),kS,jm hj,bS,e1,oJ (by omega)]
    simp only [bM]
    cases decide (l[i]!.day<w.iO[j].To) with
    | true=>rfl
    | false=>rfl
   ·unfold iR
    rw [bM,dF (by omega),kG]
  rw [h,bS,PI]
 rw [h]
 cases w.Items[i]!.Gy with
 | true=>exact ⟨_,rfl⟩
 | false=>exact ⟨_,rfl⟩
theorem jJ3:∃ b,pO N w l=some b∧b.length≤1000∧∀ x ∈ b,x.Reason≠0:=by
 have hii:=ok.i40;have hll:=hl.len
 have hlim:lim ≥ 1000000:=by decide
 obtain ⟨b,b1,b2,b3,b4⟩:=JW (n:=l.length) (m:=0) (c:=1) (N:=N) (f:=ng N w l) (a:=[]) (fun i=>True) (Nat.zero_le _) (by simp only [List.length_nil];omega) (fun i _ hi acc hacc=>by
  obtain ⟨c,hc⟩:=Y7 hN hw ok hl hi
  have hstep:ng N w l (acc,(i:Int))=bif c then some (.inl (acc ++ [⟨w.Items[i]!.Name,[],18⟩],((i+1:Nat):Int))) else some (.inl (acc,((i+1:Nat):Int))):=by
   unfold ng
   simp only []
   rw [bM,dT (by omega),kS,rH hi,bS,rH (by omega),bS,hc,bS,bS,DW (by rw [List.length_singleton];omega),bS,oJ (by omega)]
  rw [hstep]
  cases c with
  | true=>exact ⟨_,rfl,by simp,fun x hx=>(by rw [List.mem_singleton] at hx;subst hx;simp),fun _=>trivial⟩
  | false=>exact ⟨[],by rw [List.append_nil];rfl,by simp,fun x hx=>(by cases hx),fun _=>trivial⟩) (fun acc=>by
  unfold ng
  simp only []
  rw [bM,dF (by omega),kG]) (by omega)
 unfold pO
 have b1:dh (ng N w l) N ([],0)=_:=b1
 rw [b1,bS,List.nil_append]
 exact ⟨b,rfl,by omega,b3⟩
end
end Go.KB
namespace Go.KB
set_option linter.unusedVariables false
set_option maxRecDepth 100000
def VG (a:Int) (p:Int×Int):Int:=max a p.2
theorem ZN:∀ {l m:List (Int×Int)},l.Perm m→∀ a,l.foldl VG a=m.foldl VG a:=by
 intro l m h
 induction h with
 | nil=>intro a;rfl
 | cons x _ ih=>intro a;exact ih _
 | swap x y l =>
  intro a
  show l.foldl VG (VG (VG a y) x)=l.foldl VG (VG (VG a x) y)
  have:VG (VG a y) x=VG (VG a x) y:=by unfold VG;omega
  rw [this]
 | trans _ _ h1 h2=>intro a;rw [h1,h2]
theorem Vw {N:Nat}:∀ (l:List (Int×Int)) (a:Int),KI (mM N) l a=some (l.foldl VG a)
 | [],a=>rfl
 | x :: l,a=>by
  show (mM N a x).bind (KI (mM N) l)=_
  rw [show mM N a x=some (VG a x) from rfl,bS]
  exact Vw l _
section
variable {N:Nat} {w:GWork} {l:List aK} (hN:2 ^ 64≤N) (ok:OkW w) (hl:JV w l)
include hN ok hl
theorem jJ4 {nm:Str}:∃ m,wL N w l nm=some m:=by
  have hii:=ok.i40;have hll:=hl.len
  unfold wL
  obtain ⟨o,ho,_⟩:=AQ (f:=qF N w l nm) (I:=fun q=>∃ j:Nat,q.2=(j:Int)∧j≤l.length) (μ:=fun q=>l.length - q.2.toNat) (post:=fun _=>True) (by
    rintro ⟨m,sj⟩ ⟨j,hj,hjl⟩
    simp only at hj
    subst hj
    by_cases hlt:j<l.length
    · left
      have hon:=hl.on j hlt
      obtain ⟨e1,e2,e3⟩:=IC (N:=N) (ok.it j (by omega)) (hl.ok j hlt)
      obtain ⟨h1,h2,h3,h4⟩:=hl.ok j hlt
      obtain ⟨md,hmd⟩:∃ md:Nat,l[j]!.mode=(md:Int):=⟨l[j]!.mode.toNat,by omega⟩
      have step:l.length - ((j+1:Nat):Int).toNat<l.length - ((j:Nat):Int).toNat:=by simp only [Int.toNat_natCast];omega
      by_cases ht:w.Items[j]!.tK=nm
      · obtain ⟨o,ho,_⟩:=AQ (f:=tJ N l[j]! w.Items[j]!) (I:=fun q=>l[j]!.day≤q.2∧q.2≤GU l[j]! w.Items[j]!) (μ:=fun q=>(GU l[j]! w.Items[j]! - q.2).toNat) (post:=fun _=>True) (by
          rintro ⟨m,d⟩ ⟨hd1,hd2⟩
          simp only at hd1 hd2
          by_cases hd:d<GU l[j]! w.Items[j]!
          · left
            refine ⟨(tX m d (IntKind.i64.wrap (jD 0 m d+w.Items[j]!.Modes[md]!.Dy)),d+1),?_,⟨by simp only [];omega,by simp only [];omega⟩,by simp only [];omega⟩
            unfold tJ
            simp only []
            rw [e1,bS,bM,dT hd,kS,hmd,rH (by omega),bS,w64 (n:=d+1) (by omega) (by omega)]
          · right
            refine ⟨m,?_,trivial⟩
            unfold tJ
            simp only []
            rw [e1,bS,bM,dF hd,kG]) N (m,l[j]!.day) ⟨by simp only [];omega,by simp only [];omega⟩ (by simp only [];omega)
        refine ⟨(o,((j+1:Nat):Int)),?_,⟨j+1,rfl,by omega⟩,step⟩
        unfold qF
        simp only []
        rw [bM,dT (by omega),kS,rH hlt,bS,rH (by omega),bS,hon,OT,dT ht,Bool.not_true,Bool.or_self,kG,ho,bS,oJ (by omega)]
      · refine ⟨(m, ((j + 1 : Nat) : Int)), ?_, ⟨j + 1, rfl, by omega⟩, step⟩
        unfold qF
        simp only []
        rw [bM,dT (by omega),kS,rH hlt,bS,rH (by omega),bS,hon,OT,dF ht,Bool.not_true,Bool.not_false,Bool.false_or,kS,oJ (by omega)]
    · right
      refine ⟨m,?_,trivial⟩
      unfold qF
      simp only []
      rw [bM,dF (by omega),kG]) N (([]:List (Int×Int)),0) ⟨0,rfl,Nat.zero_le _⟩ (by simp only [];omega)
  rw [ho]
  exact ⟨o,rfl⟩
theorem Y8 (hw:SmW w):∃ b,nC N w l=some b∧b.length≤1000∧∀ x ∈ b,x.Reason≠0:=by
 have ht:=hw.t
 have hlim:lim ≥ 1000000:=by decide
 obtain ⟨b,b1,b2,b3,b4⟩:=JW (n:=w.fH.length) (m:=0) (c:=1) (N:=N) (f:=jd N w l) (a:=[]) (fun i=>True) (Nat.zero_le _) (by simp only [List.length_nil];omega) (fun i _ hi acc hacc=>by
  obtain ⟨m,hm⟩:=jJ4 hN ok hl (nm:=w.fH[i]!.Name)
  have hstep:jd N w l (acc,(i:Int))=bif decide (w.fH[i]!.Dy<m.foldl VG 0) then some (.inl (acc ++ [⟨w.fH[i]!.Name,[],23⟩],((i+1:Nat):Int))) else some (.inl (acc,((i+1:Nat):Int))):=by
   unfold jd
   simp only []
   rw [bM,dT (by omega),kS,rH hi,bS,hm,bS]
   have:∀ π:List (Int×Int),π.Perm m→((KI (mM N) π 0).bind fun s6=>bif (aC .gtr s6 w.fH[i]!.Dy) then ((app acc [(⟨w.fH[i]!.Name,[],23⟩:dU)]).bind fun v9=>(some (.inl (v9,(IntKind.i64.wrap ((i:Int)+1)))):Option ((List dU×Int) ⊕ List dU))) else (some (.inl (acc,(IntKind.i64.wrap ((i:Int)+1))))))=bif decide (w.fH[i]!.Dy<m.foldl VG 0) then some (.inl (acc ++ [⟨w.fH[i]!.Name,[],23⟩],((i+1:Nat):Int))) else some (.inl (acc,((i+1:Nat):Int))):=by
    intro π hπ
    rw [Vw,bS,ZN hπ,rP,DW (by rw [List.length_singleton];omega),bS,oJ (by omega)]
   cases hc:decide (w.fH[i]!.Dy<m.foldl VG 0) with
   | true =>
    rw [hc] at this
    exact ML this
   | false =>
    rw [hc] at this
    exact ML this
  rw [hstep]
  cases decide (w.fH[i]!.Dy<m.foldl VG 0) with
  | true=>exact ⟨_,rfl,by simp,fun x hx=>(by rw [List.mem_singleton] at hx;subst hx;simp),fun _=>trivial⟩
  | false=>exact ⟨[],by rw [List.append_nil];rfl,by simp,fun x hx=>(by cases hx),fun _=>trivial⟩) (fun acc=>by
  unfold jd
  simp only []
  rw [bM,dF (by omega),kG]) (by omega)
 unfold nC
 have b1:dh (jd N w l) N ([],0)=_:=b1
 rw [b1,bS,List.nil_append]
 exact ⟨b,rfl,by omega,b3⟩
end
end Go.KB
namespace Go.KB
set_option linter.unusedVariables false
set_option maxRecDepth 100000
def OG (a b:Str) (s:dK):Bool:=(decide (s.Name=a)&&BV s.Next b)||(decide (s.Name=b)&&BV s.Next a)
def Kq (w:GWork) (a b:Str):Int:=if a=b then 0 else if (w.bP.any (OG a b))=true then 1 else 2
def TR (e:dH) (a b:Int):Bool:=(decide (e.A=a)&&decide (e.B=b))||(decide (e.A=b)&&decide (e.B=a))
def exW (w:GWork) (x y:fQ):Bool:=!(decide (x.Name=y.Name)||decide (x.Kind<0)||decide (y.Kind<0))&&w.aW.any fun e=>TR e x.Kind y.Kind&&decide (Kq w x.Space y.Space≤e.Reach)
def apW (w:GWork) (x y:fQ):Bool:=(x.Gy&&y.Gy)||exW w x y
def mtW (w:GWork) (l:List aK) (i k:Nat):Bool:=decide (l[i]!.day<GU l[k]! w.Items[k]!)&&decide (l[k]!.day<GU l[i]! w.Items[i]!)
section
variable {N:Nat} {w:GWork} (hN:2 ^ 64≤N) (hw:SmW w)
include hN hw
theorem jZs {a b:Str}:AL N w a b=some (Kq w a b):=by
 have hs:=hw.s
 unfold AL Kq
 rw [rD]
 by_cases h:a=b
 ·rw [dT h,if_pos h];rfl
 ·rw [dF h,if_neg h,kG]
  have hstep:∀ i,i<w.bP.length→sS N w a b (i:Int)=bif OG a b w.bP[i]! then some (.inr (.inr 1)) else some (.inl ((i+1:Nat):Int)):=by
   intro i hi
   have hn:=hw.n i hi
   have c1:=CG (N:=N) (l:=w.bP[i]!.Next) (s:=b) (by omega) (by omega)
   have c2:=CG (N:=N) (l:=w.bP[i]!.Next) (s:=a) (by omega) (by omega)
   unfold sS OG
   rw [bM,dT (by omega),kS,rH hi,bS,rD,rD,c1,oJ (by omega)]
   simp only [c2]
   cases decide (w.bP[i]!.Name=a) <;> cases decide (w.bP[i]!.Name=b) <;> cases BV w.bP[i]!.Next b <;> cases BV w.bP[i]!.Next a <;> rfl
  have hloop:dh (sS N w a b) N 0=some (if (w.bP.any (OG a b))=true then .inr 1 else .inl ()):=by
   refine Ib w.bP.length _ (fun i=>∀ j,j<i→OG a b w.bP[j]! = false) ?_ ?_ (fun j hj=>absurd hj (Nat.not_lt_zero _)) N (by omega)
   ·intro i hi hp
    rw [hstep i hi]
    cases hg:OG a b w.bP[i]! with
    | true =>
     right
     rw [if_pos (List.any_eq_true.2 ⟨w.bP[i]!,by rw [uX hi];exact List.getElem_mem hi,hg⟩)];rfl
    | false =>
     refine .inl ⟨rfl,fun j hj=>?_⟩
     by_cases e:j=i
     ·subst e;exact hg
     ·exact hp j (by omega)
   ·intro hp
    unfold sS
    rw [bM,dF (by omega),kG,if_neg]
    intro hany
    obtain ⟨x,hx,hg⟩:=List.any_eq_true.1 hany
    obtain ⟨j,hj,rfl⟩:=List.getElem_of_mem hx
    have:=hp j hj
    rw [uX hj,hg] at this;cases this
  rw [hloop,bS]
  split <;> rfl
theorem jWf {x y:fQ}:xu N w x y=some (exW w x y):=by
 have he:=hw.e
 unfold xu exW
 rw [rD,bM,bM]
 cases (decide (x.Name=y.Name)||decide (x.Kind<0)||decide (y.Kind<0)) with
 | true=>rfl
 | false =>
  rw [kG,Bool.not_false,Bool.true_and]
  have h:fJ N w.aW (fun y0=>rV N y0 x y w)=some (w.aW.any fun e=>TR e x.Kind y.Kind&&decide (Kq w x.Space y.Space≤e.Reach)):=by
   unfold fJ
   rw [UA (g:=fun e=>TR e x.Kind y.Kind&&decide (Kq w x.Space y.Space≤e.Reach)) (fun e=>by
    unfold rV
    simp only [yX,jZs hN hw,yA]
    show ((bif TR e x.Kind y.Kind then some (Kq w x.Space y.Space) else some 0).bind fun v1=>some (TR e x.Kind y.Kind&&decide (v1≤e.Reach)))=_
    cases TR e x.Kind y.Kind <;> rfl) (by omega) (by omega),bS,PI]
  rw [h];rfl
theorem jZt {i k:Nat} (hi:i<w.Items.length) (hk:k<w.Items.length):zX N w (i:Int) (k:Int)=some (apW w w.Items[i]! w.Items[k]!):=by
 unfold zX apW
 rw [rH hi,bS,rH hk,bS,jWf hN hw]
 cases (w.Items[i]!.Gy&&w.Items[k]!.Gy) with
 | true=>rfl
 | false=>rfl
omit hN hw in
theorem jWh (ok:OkW w) {l:List aK} (hl:JV w l) {i k:Nat} (hi:i<l.length) (hk:k<l.length):AB N w l (i:Int) (k:Int)=some (mtW w l i k):=by
 have hll:=hl.len
 obtain ⟨e1,_,_⟩:=IC (N:=N) (ok.it i (by omega)) (hl.ok i hi)
 obtain ⟨e2,_,_⟩:=IC (N:=N) (ok.it k (by omega)) (hl.ok k hk)
 have o1:=hl.on i hi
 have o2:=hl.on k hk
 unfold AB mtW
 rw [rH hi,bS,o1,kS,rH hk,bS,o2,Bool.and_self,kS,bS,kS,bS,kS,rH (by omega),bS,kS,e2,bS,Bool.true_and,bM]
 cases decide (l[i]!.day<GU l[k]! w.Items[k]!) with
 | false=>rfl
 | true =>
  rw [kS,bS,kS,bS,kS,rH (by omega),bS,kS,e1,bS,bM]
theorem jZc (ok:OkW w) {l:List aK} (hl:JV w l):∃ b,nV N w l=some b∧b.length≤2000∧(∀ x ∈ b,x.Reason≠0)∧(b=[]→∀ i k,i<k→k<l.length→mtW w l i k=true→apW w w.Items[i]! w.Items[k]! = false):=by
 have hii:=ok.i40;have hll:=hl.len
 have hlim:lim ≥ 1000000:=by decide
 obtain ⟨b,b1,b2,b3,b4⟩:=JW (n:=l.length) (m:=0) (c:=40) (N:=N) (f:=nI N w l) (a:=[]) (fun i=>∀ k,i<k→k<l.length→mtW w l i k=true→apW w w.Items[i]! w.Items[k]! = false) (Nat.zero_le _) (by simp only [List.length_nil];omega) (fun i _ hi acc hacc=>by
  obtain ⟨b,b1,b2,b3,b4⟩:=JW (n:=l.length) (m:=i+1) (c:=1) (N:=N) (f:=nJ N w l (acc,(i:Int))) (a:=acc) (fun k=>mtW w l i k=true→apW w w.Items[i]! w.Items[k]! = false) (by omega) (by omega) (fun k hk1 hk VF hacc2=>by
   have hstep:nJ N w l (acc,(i:Int)) (VF,(k:Int))=bif mtW w l i k&&apW w w.Items[i]! w.Items[k]! then some (.inl (VF ++ [⟨w.Items[i]!.Name,w.Items[k]!.Name,17⟩],((k+1:Nat):Int))) else some (.inl (VF,((k+1:Nat):Int))):=by
    unfold nJ
    simp only []
    rw [bM,dT (by omega),kS,jWh ok hl hi hk,bS,jZt hN hw (by omega) (by omega),rH (by omega),rH (by omega),bS,bS,DW (by rw [List.length_singleton];omega),bS,oJ (by omega)]
    cases mtW w l i k with
    | true=>rw [kS,bS]
    | false=>rfl
   rw [hstep]
   cases h1:mtW w l i k with
   | false=>exact ⟨[],by rw [List.append_nil];rfl,by simp,fun x hx=>(by cases hx),fun _ h=>by cases h⟩
   | true =>
    cases h2:apW w w.Items[i]! w.Items[k]! with
    | true=>exact ⟨_,rfl,by simp,fun x hx=>(by rw [List.mem_singleton] at hx;subst hx;simp),fun h=>by cases h⟩
    | false=>exact ⟨[],by rw [List.append_nil];rfl,by simp,fun x hx=>(by cases hx),fun _ _=>rfl⟩) (fun VF=>by
   unfold nJ
   simp only []
   rw [bM,dF (by omega),kG]) (by omega)
  refine ⟨b,?_,by omega,b3,fun hb k hk1 hk=>b4 hb k (by omega) hk⟩
  unfold nI
  simp only []
  rw [bM,dT (by omega),kS,oJ (by omega),b1,bS]) (fun acc=>by
  unfold nI
  simp only []
  rw [bM,dF (by omega),kG]) (by omega)
 unfold nV
 have b1:dh (nI N w l) N ([],0)=_:=b1
 rw [b1,bS,List.nil_append]
 exact ⟨b,rfl,by omega,b3,fun hb i k hik hk=>b4 hb i (Nat.zero_le _) (by omega) k hik hk⟩
end
end Go.KB
namespace Go.KB
set_option linter.unusedVariables false
set_option maxRecDepth 100000
structure YZ (w:GWork) (l:List aK):Prop where
 okw:OkW w
 oks:JV w l
 clash:∀ i k,i<k→k<l.length→mtW w l i k=true→apW w w.Items[i]! w.Items[k]! = false
 last:∀ i,i<l.length→GU l[i]! w.Items[i]! ≤ w.Last
theorem Us {N:Nat} {w:GWork} {l:List aK} {e:Int} {b1 b2 b3 b4 b5:List dU} (hN:2 ^ 64≤N) (h1:qE N w l=some b1) (h2:nC N w l=some b2) (h3:nV N w l=some b3) (h4:pO N w l=some b4) (h5:rM N w l=some b5)
  (hb:b1.length≤2000∧b2.length≤2000∧b3.length≤2000∧b4.length≤2000∧b5.length≤2000) :
  (uV N).bind (fun v2=>(dh (lM N w (l,e) v2) N ([],0)).bind fun o8=>(some (o8,0):Option ((List dU)×Int)))=some ((((b1 ++ b2) ++ b3) ++ b4) ++ b5,0):=by
 have hlim:lim ≥ 1000000:=by decide
 obtain ⟨c,hc⟩:∃ c:List fM,c=[⟨some 98⟩,⟨some 99⟩,⟨some 100⟩,⟨some 101⟩,⟨some 102⟩]:=⟨_,rfl⟩
 have hcol:uV N=some c:=by rw [hc];rfl
 have hcl:c.length=5:=by rw [hc];rfl
 have g1:∀ (i:Nat) (a b:List dU) (hi:i<5),qP N (c[i]'(by omega)).find w l=some b→a.length+b.length≤500000→lM N w (l,e) c (a,(i:Int))=some (.inl (a ++ b,((i+1:Nat):Int))):=by
  intro i a b hi h hab
  unfold lM
  simp only []
  rw [bM,dT (by omega),kS,jm (by omega),bS,h,bS,DW (by omega),bS,oJ (by omega)]
 have a0:qP N (c[0]'(by omega)).find w l=some b1:=by subst hc;show (qE N w l).bind _=_;rw [h1];rfl
 have a1:qP N (c[1]'(by omega)).find w l=some b2:=by subst hc;show (nC N w l).bind _=_;rw [h2];rfl
 have a2:qP N (c[2]'(by omega)).find w l=some b3:=by subst hc;show (nV N w l).bind _=_;rw [h3];rfl
 have a3:qP N (c[3]'(by omega)).find w l=some b4:=by subst hc;show (pO N w l).bind _=_;rw [h4];rfl
 have a4:qP N (c[4]'(by omega)).find w l=some b5:=by subst hc;show (rM N w l).bind _=_;rw [h5];rfl
 have s0:=g1 0 [] b1 (by omega) a0 (by simp only [List.length_nil];omega)
 have s1:=g1 1 b1 b2 (by omega) a1 (by omega)
 have s2:=g1 2 (b1 ++ b2) b3 (by omega) a2 (by rw [List.length_append];omega)
 have s3:=g1 3 ((b1 ++ b2) ++ b3) b4 (by omega) a3 (by rw [List.length_append,List.length_append];omega)
 have s4:=g1 4 (((b1 ++ b2) ++ b3) ++ b4) b5 (by omega) a4 (by rw [List.length_append,List.length_append,List.length_append];omega)
 have s5:lM N w (l,e) c ((((b1 ++ b2) ++ b3) ++ b4) ++ b5,((5:Nat):Int))=some (.inr ((((b1 ++ b2) ++ b3) ++ b4) ++ b5)):=by
  unfold lM
  simp only []
  rw [hcl,bM,dF (by omega),kG]
 rw [hcol,bS]
 generalize hF:lM N w (l,e) c=F at s0 s1 s2 s3 s4 s5
 have s0':F ([],0)=some (.inl ([] ++ b1,((0+1:Nat):Int))):=s0
 obtain ⟨M,rfl⟩:∃ x,N=x+6:=⟨N - 6,by omega⟩
 have:dh F (M+6) ([],0)=some ((((b1 ++ b2) ++ b3) ++ b4) ++ b5):=by
  rw [dh,s0']
  show dh F (M+5) _=_
  rw [List.nil_append,dh,s1]
  show dh F (M+4) _=_
  rw [dh,s2]
  show dh F (M+3) _=_
  rw [dh,s3]
  show dh F (M+2) _=_
  rw [dh,s4]
  show dh F (M+1) _=_
  rw [dh,s5]
 rw [this];rfl
section
variable {N:Nat} {w:GWork} (hN:2 ^ 64≤N) (hw:SmW w)
include hN hw
theorem jV8 {s:List GSlot} (hs:s.length≤1000):∃ l e,qK N w s=some (l,e)∧(e=0→YZ w l):=by
 obtain ⟨l,e,k1,k2⟩:=jZp hN hw hs
 unfold qK uq
 rw [k1,bS]
 simp only []
 rw [wP]
 by_cases h1:e=0
 ·obtain ⟨ok,hl⟩:=k2 h1
  obtain ⟨b1,p1,q1,r1⟩:=jZr hN hw ok hl
  obtain ⟨b2,p2,q2,r2⟩:=Y8 hN ok hl hw
  obtain ⟨b3,p3,q3,r3,t3⟩:=jZc hN hw ok hl
  obtain ⟨b4,p4,q4,r4⟩:=jJ3 hN hw ok hl
  obtain ⟨b5,p5,q5,r5,t5⟩:=jWd hN ok hl
  rw [dT h1,Bool.not_true,kG,Us hN p1 p2 p3 p4 p5 ⟨by omega,by omega,by omega,by omega,by omega⟩,bS]
  simp only []
  rw [show aC .neq (0:Int) 0=false from rfl,kG,rP]
  obtain ⟨b,hb⟩:∃ b,b=(((b1 ++ b2) ++ b3) ++ b4) ++ b5:=⟨_,rfl⟩
  rw [← hb]
  by_cases h2:b=[]
  ·have hz:b3=[]∧b5=[]:=by
    rw [hb] at h2
    simp only [List.append_eq_nil_iff] at h2
    exact ⟨h2.1.1.2,h2.2⟩
   rw [h2,dF (by simp),kG,bS]
   exact ⟨l,e,rfl,fun _=>⟨ok,hl,t3 hz.1,t5 hz.2⟩⟩
  ·have h0:0<b.length:=List.length_pos_iff.2 h2
   rw [dT (by omega),kS,show idx b 0=some b[0] from jm (i:=0) h0,bS]
   refine ⟨[],b[0].Reason,rfl,fun x=>absurd x ?_⟩
   have hm:b[0] ∈ b:=List.getElem_mem h0
   generalize b[0]=y at hm
   rw [hb] at hm
   simp only [List.mem_append] at hm
   rcases hm with (((hm | hm) | hm) | hm) | hm
   ·exact r1 _ hm
   ·exact r2 _ hm
   ·exact r3 _ hm
   ·exact r4 _ hm
   ·exact r5 _ hm
 ·rw [dF h1,Bool.not_false,kS,bS]
  simp only []
  rw [wP,dF h1]
  exact ⟨[],e,rfl,fun x=>absurd x h1⟩
end
end Go.KB
