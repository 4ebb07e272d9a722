/- Plain laws of chapter 8 (proved plans): loops, places, names. Plain laws of chapter 8 (proved plans): the items before each item; the first order ends. Plain laws of chapter 8 (proved plans): what a valid plan is; plans by earliest slots reach the least measure. No program. Plain laws of chapter 8 (proved plans): least plans; the search. No program. Plain laws of chapter 8 (proved plans): places of names; the first order, of the program and of the specification. Plain laws of chapter 8 (proved plans): the first order, of the program and of the specification. Plain laws of chapter 8 (proved plans): the check of work by the specification. Plain laws of chapter 8 (proved plans): the program accepts what the specification accepts; slots. No condition. -/
import Derived.Test.YtdmioehoinnamaaGreatDoorPZl
import Derived.Test.YtdmioehoinnamaaGreatDoorKZg
namespace Go.KB
set_option linter.unusedVariables false
set_option maxRecDepth 100000
theorem YS {O:Type} {n N:Nat} {f:Int→Option (Int ⊕ O)} (R:Nat→O) (hf:∀ i:Nat,i<n→(f (i:Int)=some (.inl ((i+1:Nat):Int))∧R i=R (i+1))∨f (i:Int)=some (.inr (R i))) (he:f (n:Int)=some (.inr (R n))) (hN:n<N):bM f N 0=some (R 0):=by
 have key:∀ k i,i+k=n→∀ M,k<M→bM f M (i:Int)=some (R i):=by
  intro k
  induction k with
  | zero =>
   intro i hi M hM
   obtain ⟨M,rfl⟩:∃ m,M=m+1:=⟨M - 1,by omega⟩
   have:i=n:=by omega
   subst this
   simp only [bM,he]
  | succ k ih =>
   intro i hi M hM
   obtain ⟨M,rfl⟩:∃ m,M=m+1:=⟨M - 1,by omega⟩
   rcases hf i (by omega) with ⟨h1,h2⟩ | h1
   ·simp only [bM,h1];rw [h2];exact ih (i+1) (by omega) M (by omega)
   ·simp only [bM,h1]
 exact key n 0 (by omega) N (by omega)
theorem drop_at {α:Type} {l:List α} {i:Nat} (h:i<l.length):l.drop i=l[i] :: l.drop (i+1):=List.drop_eq_getElem_cons h
theorem YT {α:Type} {l:List α} {N:Nat} {f:Int→Option (Int ⊕ (Unit ⊕ Bool))} {g:α→Bool} (hf:∀ (i:Nat) (h:i<l.length),f (i:Int)=bif g l[i] then some (.inr (.inr true)) else some (.inl ((i+1:Nat):Int))) (he:f (l.length:Int)=some (.inr (.inl ()))) (hN:l.length<N) :
  ((bM f N 0).bind fun o=>Sum.elim (fun _=>some false) (fun r=>some r) o)=some (l.any g):=by
 rw [YS (fun i=>bif (l.drop i).any g then .inr true else .inl ()) (fun i hi=>?_) (by simp [he]) hN]
 ·simp only [List.drop_zero,bS];cases l.any g <;> rfl
 ·rw [hf i hi]
  simp only [drop_at hi,List.any_cons]
  cases g l[i]
  ·exact .inl ⟨rfl,by simp⟩
  ·exact .inr rfl
def DU {α:Type} (g:α→Bool) (l:List α):Int:=if l.findIdx g<l.length then (l.findIdx g:Int) else -1
theorem tC {α:Type} {l:List α} {N:Nat} {f:Int→Option (Int ⊕ (Unit ⊕ Int))} {g:α→Bool} (hf:∀ (i:Nat) (h:i<l.length),f (i:Int)=bif g l[i] then some (.inr (.inr (i:Int))) else some (.inl ((i+1:Nat):Int))) (he:f (l.length:Int)=some (.inr (.inl ()))) (hN:l.length<N) :
  ((bM f N 0).bind fun o=>Sum.elim (fun _=>some (-1:Int)) (fun r=>some r) o)=some (DU g l):=by
 rw [YS (fun i=>if (l.drop i).findIdx g<(l.drop i).length then .inr (((i+(l.drop i).findIdx g:Nat)):Int) else .inl ()) (fun i hi=>?_) (by simp [he]) hN]
 ·simp only [List.drop_zero,Nat.zero_add,bS,DU];split <;> rfl
 ·rw [hf i hi]
  simp only [drop_at hi,List.findIdx_cons]
  cases g l[i]
  ·refine .inl ⟨rfl,?_⟩
   simp only [iP,List.length_cons,Nat.add_lt_add_iff_right]
   split
   ·congr 2;omega
   ·rfl
  ·refine .inr ?_
   simp only [jm,List.length_cons,Nat.zero_lt_succ,if_true,Nat.add_zero]
theorem Vk {α:Type} {g:α→Bool} {l:List α} (h:l.findIdx g<l.length):DU g l=(l.findIdx g:Int):=if_pos h
theorem Vl {α:Type} {g:α→Bool} {l:List α} (h:¬ l.findIdx g<l.length):DU g l = -1:=if_neg h
theorem Qc {α:Type} {g:α→Bool} {l:List α}:decide (DU g l<0) = !l.any g:=by
 have:l.any g=true↔l.findIdx g<l.length:=by
  rw [List.any_eq_true]
  exact List.findIdx_lt_length.symm
 by_cases h:l.findIdx g<l.length
 ·rw [Vk h,this.2 h];simp
 ·rw [Vl h,Bool.eq_false_iff.2 (fun x=>h (this.1 x))];rfl
def EN (l:List Str) (s:Str):Bool:=l.any (fun x=>decide (s=x))
theorem Qd {l:List Str} {s:Str}:EN l s=true↔s ∈ l:=by
 unfold EN;rw [List.any_eq_true]
 constructor
 ·rintro ⟨x,h1,h2⟩;rw [decide_eq_true_eq] at h2;rw [h2];exact h1
 ·intro h;exact ⟨s,h,by simp⟩
theorem GX {α:Type} {xs ys:List α} (h:xs.length+ys.length≤lim):app xs ys=some (xs ++ ys):=by
 unfold app;rw [Nat.ble_eq_true_of_le h];rfl
theorem tu {S O:Type} {n N:Nat} {f:S→Option (S ⊕ O)} (g:Nat→S) (r:O) (h:∀ i:Nat,i<n→f (g i)=some (.inl (g (i+1)))) (he:f (g n)=some (.inr r)) (hN:n<N):bM f N (g 0)=some r:=by
 have key:∀ k i,i+k=n→∀ M,k<M→bM f M (g i)=some r:=by
  intro k
  induction k with
  | zero =>
   intro i hi M hM
   obtain ⟨M,rfl⟩:∃ m,M=m+1:=⟨M - 1,by omega⟩
   have:i=n:=by omega
   subst this
   simp only [bM,he]
  | succ k ih =>
   intro i hi M hM
   obtain ⟨M,rfl⟩:∃ m,M=m+1:=⟨M - 1,by omega⟩
   simp only [bM,h i (by omega)]
   exact ih (i+1) (by omega) M (by omega)
 exact key n 0 (by omega) N (by omega)
theorem Ue {α:Type} {l:List α} {a b:Nat} (h:a≤b) (hb:b≤l.length):WV l (a:Int) (b:Int)=some ((l.take b).drop a):=by
 unfold WV
 rw [dT (by omega),dT (by omega),dT (by omega)];rfl
theorem EO {N:Nat} {l:List Str} {s:Str} (hl:l.length<1000000) (hN:1000000≤N):dZ N l s=some (EN l s):=by
 unfold dZ eG
 have h:((bM (gX N l s) N 0).bind fun o5=>Sum.elim (fun l7=>some (-1:Int)) (fun r8=>some r8) o5)=some (DU (fun x=>decide (s=x)) l):=by
  refine tC (fun i hi=>?_) ?_ (by omega)
  ·unfold gX
   rw [aO,dT (by omega),jm,jX hi,bS,rH,kN (by omega)]
  ·unfold gX
   rw [aO,dF (by omega),iP]
 rw [h,bS,vX]
 have:=Qc (g:=fun x=>decide (s=x)) (l:=l)
 unfold EN
 cases h2:l.any (fun x=>decide (s=x)) with
 | true=>rw [h2] at this;simp at this;rw [dT (by omega)]
 | false=>rw [h2] at this;simp at this;rw [dF (by omega)]
theorem Ba {N:Nat} {l:List Int} {s:Int} (hl:l.length<1000000) (hN:1000000≤N):dI N l s=some (l.contains s):=by
 unfold dI iU
 have h:((bM (iy N l s) N 0).bind fun o5=>Sum.elim (fun l7=>some (-1:Int)) (fun r8=>some r8) o5)=some (DU (fun x=>decide (s=x)) l):=by
  refine tC (fun i hi=>?_) ?_ (by omega)
  ·unfold iy
   rw [aO,dT (by omega),jm,jX hi,bS,yP,kN (by omega)]
  ·unfold iy
   rw [aO,dF (by omega),iP]
 rw [h,bS,vX]
 have:=Qc (g:=fun x=>decide (s=x)) (l:=l)
 have e:l.contains s=l.any (fun x=>decide (s=x)):=by
  rw [Bool.eq_iff_iff,List.contains_iff_mem,List.any_eq_true];simp
 rw [e]
 cases h2:l.any (fun x=>decide (s=x)) with
 | true=>rw [h2] at this;simp at this;rw [dT (by omega)]
 | false=>rw [h2] at this;simp at this;rw [dF (by omega)]
theorem Wu {N:Nat} {l:List dL} {f:dL→Option Bool} {g:dL→Bool} (hf:∀ y,f y=some (g y)) (hl:l.length<1000000) (hN:1000000≤N):gV N l f=some (DU g l):=by
 unfold gV
 refine tC (fun i hi=>?_) ?_ (by omega)
 ·unfold fZ
  rw [aO,dT (by omega),jm,jX hi,bS,hf,bS,kN (by omega)]
 ·unfold fZ
  rw [aO,dF (by omega),iP]
theorem Nv {α:Type} {g:α→Bool} {l:List α}:ax .geq (DU g l) 0=l.any g:=by
 have:=Qc (g:=g) (l:=l)
 rw [vX]
 cases h2:l.any g with
 | true=>rw [h2] at this;simp at this;rw [dT (by omega)]
 | false=>rw [h2] at this;simp at this;rw [dF (by omega)]
instance:Inhabited jF:=⟨⟨[],false,[]⟩⟩
instance:Inhabited dL:=⟨⟨0,0,0⟩⟩
instance:Inhabited bU:=⟨⟨[],[],[],[],0,false,[]⟩⟩
instance:Inhabited iD:=⟨⟨[],0,0⟩⟩
instance:Inhabited kJ:=⟨⟨0,0⟩⟩
instance:Inhabited jH:=⟨⟨0,0⟩⟩
instance:Inhabited GSlot:=⟨⟨[],0,0⟩⟩
instance:Inhabited ah:=⟨⟨0,0,false⟩⟩
instance:Inhabited cu:=⟨⟨[],[],0⟩⟩
theorem AP {n N:Nat} {f:Int→Option (Int ⊕ (Unit ⊕ Int))} (P:Nat→Prop) (hf:∀ i:Nat,i<n→(f (i:Int)=some (.inl ((i+1:Nat):Int))∧P i)∨∃ e:Int,e≠0∧f (i:Int)=some (.inr (.inr e))) (he:f (n:Int)=some (.inr (.inl ()))) (hN:n<N) :
    ∃ o,bM f N 0=some o∧((o = .inl ()∧∀ i,i<n→P i)∨∃ e:Int,e≠0∧o = .inr e):=by
  exact ni (f:=f) (I:=fun s=>∃ i:Nat,s=(i:Int)∧i≤n∧∀ j,j<i→P j) (μ:=fun s=>n - s.toNat) (post:=fun o=>(o = .inl ()∧∀ i,i<n→P i)∨∃ e:Int,e≠0∧o = .inr e) (by
    rintro s ⟨i,rfl,hi,hp⟩
    by_cases h:i<n
    · rcases hf i h with ⟨e1,e2⟩ | ⟨e,e1,e2⟩
      · left
        refine ⟨_,e1,⟨i+1,rfl,by omega,fun j hj=>?_⟩,?_⟩
        · by_cases e : j = i
          · subst e;exact e2
          · exact hp j (by omega)
        · simp only [Int.toNat_natCast];omega
      · exact .inr ⟨_,e2,.inr ⟨e,e1,rfl⟩⟩
    · have : i = n := by omega
      subst this
      exact .inr ⟨_,he,.inl ⟨rfl,hp⟩⟩) N 0 ⟨0,rfl,Nat.zero_le _,fun j hj=>absurd hj (Nat.not_lt_zero _)⟩ (by simp only [Int.toNat_zero];omega)
theorem YU {N:Nat} {s:Str} (hN:13≤N):yh N s=some (vH s):=RQ hN
theorem tH {N:Nat} {x y:Int}:fQ N x y=some (decide (0≤x)&&decide (x≤y)):=by
 unfold fQ
 rw [vX,yt]
theorem JA {N:Nat} {l:List Str} {s:Str} (hl:l.length<1000000) (hN:1000000≤N):eG N l s=some (DU (fun x=>decide (s=x)) l):=by
 unfold eG
 refine tC (fun i hi=>?_) ?_ (by omega)
 ·unfold gX
  rw [aO,dT (by omega),jm,jX hi,bS,rH,kN (by omega)]
 ·unfold gX
  rw [aO,dF (by omega),iP]
theorem Z5 {N:Nat} {l:List Str} {φ:Str→Option Bool} {p:Str→Bool} (hφ:∀ x,φ x=some (p x)) (hl:l.length<1000000) (hN:1000000≤N):jL N l φ=some (l.any p):=by
 unfold jL mZ
 have h:((bM (jc N l φ) N 0).bind fun o5=>Sum.elim (fun l7=>some (-1:Int)) (fun r8=>some r8) o5)=some (DU p l):=by
  refine tC (fun i hi=>?_) ?_ (by omega)
  ·unfold jc
   rw [aO,dT (by omega),jm,jX hi,bS,hφ,bS,kN (by omega)]
  ·unfold jc
   rw [aO,dF (by omega),iP]
 rw [h,bS,Nv]
section
variable {N:Nat} (hN:2 ^ 64≤N)
include hN
theorem WC {w:GWork} (h:w.aY.length≤1000):jw N w=some (w.aY.map fun x=>x.Name):=by
 have hlim:lim ≥ 1000000:=by decide
 unfold jw rq
 rw [GZ (f:=kE N w.aY fun y0=>nD N y0) w.aY (fun x=>x.Name) (fun i hi acc ha=>by
  unfold kE nD
  simp only []
  rw [aO,dT (by omega),jm,jX hi,bS,bS,GX (by rw [List.length_singleton];omega),bS,kN (by omega)]) (fun acc=>by
  unfold kE
  simp only []
  rw [aO,dF (by omega),iP]) (by omega)];rfl
theorem WE {w:GWork} (h:w.dh.length≤1000):mM N w=some (w.dh.map fun x=>x.Name):=by
 have hlim:lim ≥ 1000000:=by decide
 unfold mM ru
 rw [GZ (f:=kF N w.dh fun y0=>nG N y0) w.dh (fun x=>x.Name) (fun i hi acc ha=>by
  unfold kF nG
  simp only []
  rw [aO,dT (by omega),jm,jX hi,bS,bS,GX (by rw [List.length_singleton];omega),bS,kN (by omega)]) (fun acc=>by
  unfold kF
  simp only []
  rw [aO,dF (by omega),iP]) (by omega)];rfl
theorem OG {w:GWork} (h:w.Items.length≤1000):lH N w=some (w.Items.map fun x=>x.Name):=by
 have hlim:lim ≥ 1000000:=by decide
 unfold lH rZ
 rw [GZ (f:=kQ N w.Items fun y0=>oH N y0) w.Items (fun x=>x.Name) (fun i hi acc ha=>by
  unfold kQ oH
  simp only []
  rw [aO,dT (by omega),jm,jX hi,bS,bS,GX (by rw [List.length_singleton];omega),bS,kN (by omega)]) (fun acc=>by
  unfold kQ
  simp only []
  rw [aO,dF (by omega),iP]) (by omega)];rfl
end
end Go.KB
namespace Go.KB
set_option linter.unusedVariables false
set_option maxRecDepth 100000
structure NH (w:GWork):Prop where
 t:w.aY.length≤8
 s:w.dh.length≤14
 e:w.bD.length≤32
 o:w.dm.length≤22
 i:w.Items.length≤45
 n:∀ i,i<w.dh.length→w.dh[i]!.Next.length≤20
 m:∀ i,i<w.Items.length→w.Items[i]!.Modes.length≤6
 a:∀ i,i<w.Items.length→w.Items[i]!.After.length≤12
def EQ (n:Nat) (f:Nat→List Int):List (qp Int):=(List.range n).map fun j=>qp.own (f j)
def Gm (f:Nat→List Int) (i:Nat) (v:List Int):Nat→List Int:=fun j=>if j=i then v else f j
theorem JE {n:Nat} {f:Nat→List Int}:(EQ n f).length=n:=by unfold EQ;simp
theorem Ls {n i:Nat} {f:Nat→List Int} (h:i<n):(EQ n f)[i]? = some (qp.own (f i)):=by unfold EQ;simp [h]
theorem YV {n i:Nat} {f:Nat→List Int} {v:List Int} (h:i<n):(EQ n f).set i (qp.own v)=EQ n (Gm f i v):=by
 refine List.ext_getElem? fun j=>?_
 by_cases e:j=i
 ·subst e
  rw [List.getElem?_set_self (by rw [JE];exact h),Ls h];unfold Gm;rw [if_pos rfl]
 ·rw [List.getElem?_set_ne (Ne.symm e)]
  by_cases hj:j<n
  ·rw [Ls hj,Ls hj];unfold Gm;rw [if_neg e]
  ·rw [List.getElem?_eq_none (by rw [JE];omega),List.getElem?_eq_none (by rw [JE];omega)]
theorem RS:∀ (l:List (List Int)),allA (l.map qp.own)=some l
 | []=>rfl
 | x :: l=>by
  show (V5 (qp.own x)).bind (fun y=>(allA (l.map qp.own)).bind fun ys=>some (y :: ys))=_
  rw [RS l];rfl
theorem WG {n:Nat} {f:Nat→List Int}:allA (EQ n f)=some ((List.range n).map f):=by
 have:EQ n f=((List.range n).map f).map qp.own:=by unfold EQ;rw [List.map_map];rfl
 rw [this,RS]
def Ui (w:GWork) (s:Str):Int:=DU (fun x=>decide (s=x)) (w.Items.map fun x=>x.Name)
def pJ (w:GWork) (i:Nat):List Int:=w.Items[i]!.After.map (Ui w)
section
variable {N:Nat} {w:GWork} (hN:2 ^ 64≤N) (hw:NH w)
include hN hw
theorem bef_L1 {i:Nat} {f:Nat→List Int} {z:List (qp Int)} (hi:i<w.Items.length) (h0:f i=[]):bM (nV N (w.Items.map fun x=>x.Name) (z,(i:Int)) w.Items[i]!) N (EQ w.Items.length f,0)=some (EQ w.Items.length (Gm f i (pJ w i))):=by
 have hlim:lim ≥ 1000000:=by decide
 have ha:=hw.a i hi;have hii:=hw.i
 have:=tu (f:=nV N (w.Items.map fun x=>x.Name) (z,(i:Int)) w.Items[i]!) (n:=w.Items[i]!.After.length) (N:=N) (fun k=>(EQ w.Items.length (Gm f i ((w.Items[i]!.After.take k).map (Ui w))),(k:Int))) (EQ w.Items.length (Gm f i (pJ w i))) (fun k hk=>by
  have hv:Gm f i ((w.Items[i]!.After.take k).map (Ui w)) i=(w.Items[i]!.After.take k).map (Ui w):=by unfold Gm;rw [if_pos rfl]
  have hlen:((w.Items[i]!.After.take k).map (Ui w)).length=k:=by rw [List.length_map,List.length_take];omega
  have e1:tkA (EQ w.Items.length (Gm f i ((w.Items[i]!.After.take k).map (Ui w)))) i=some ((w.Items[i]!.After.take k).map (Ui w)):=by
   unfold tkA;rw [Ls hi,hv]
  have hl:=JE (n:=w.Items.length) (f:=Gm f i ((w.Items[i]!.After.take k).map (Ui w)))
  unfold nV
  simp only []
  rw [aO,dT (by omega),jm,jX hk,bS,jX (by rw [hl];exact hi),bS,Int.toNat_natCast,e1,bS,JA (by rw [List.length_map];omega) (by omega),bS,GX (by rw [hlen,List.length_singleton];omega),bS,jX (by rw [List.length_set,hl];exact hi),bS,List.getElem?_set_self (by rw [hl];exact hi),bS,List.set_set,YV hi,kN (by omega)]
  have:Gm (Gm f i ((w.Items[i]!.After.take k).map (Ui w))) i ((w.Items[i]!.After.take k).map (Ui w) ++ [DU (fun x=>decide (w.Items[i]!.After[k]=x)) (w.Items.map fun x=>x.Name)])=Gm f i ((w.Items[i]!.After.take (k+1)).map (Ui w)):=by
   funext j
   unfold Gm
   by_cases e:j=i
   ·rw [if_pos e,if_pos e,List.take_succ_eq_append_getElem hk,List.map_append];rfl
   ·rw [if_neg e,if_neg e,if_neg e]
  rw [this]) (by
  unfold nV
  simp only []
  rw [aO,dF (by omega),iP,List.take_length];rfl) (by omega)
 have e0:Gm f i (([]:List Str).map (Ui w))=f:=by
  funext j;unfold Gm
  by_cases e:j=i
  ·subst e;rw [if_pos rfl,h0];rfl
  ·rw [if_neg e]
 simp only [List.take_zero] at this
 rw [e0] at this
 exact this
theorem EI:ng N w=some ((List.range w.Items.length).map (pJ w)):=by
 have hii:=hw.i
 have hlim:lim ≥ 1000000:=by decide
 unfold ng
 have hmk:mk (qp.own ([]:List Int)) (w.Items.length:Int) (w.Items.length:Int)=some (EQ w.Items.length fun _=>[]):=by
  unfold mk
  rw [dT (by omega),dT (by omega),dT (by omega)]
  show some (List.replicate w.Items.length (qp.own []))=_
  congr 1
  unfold EQ
  rw [List.map_const',List.length_range]
 have hl2:=tu (f:=nU N w (w.Items.map fun x=>x.Name)) (n:=w.Items.length) (N:=N) (fun i=>(EQ w.Items.length (fun j=>if j<i then pJ w j else []),(i:Int))) (EQ w.Items.length (pJ w)) (fun i hi=>by
  unfold nU
  simp only []
  rw [aO,dT (by omega),jm,iV hi,bS,bef_L1 hN hw hi (by simp),bS,kN (by omega)]
  have:Gm (fun j=>if j<i then pJ w j else []) i (pJ w i)=fun j=>if j<i+1 then pJ w j else []:=by
   funext j
   unfold Gm
   by_cases e:j=i
   ·subst e;rw [if_pos rfl,if_pos (by omega)]
   ·rw [if_neg e]
    show (if j<i then pJ w j else [])=_
    by_cases h:j<i
    ·rw [if_pos h,if_pos (by omega)]
    ·rw [if_neg h,if_neg (by omega)]
  rw [this]) (by
  unfold nU
  simp only []
  rw [aO,dF (by omega),iP]
  congr 2
  unfold EQ
  refine List.map_congr_left fun j hj=>?_
  show qp.own (if j<w.Items.length then pJ w j else [])=_
  rw [if_pos (List.mem_range.1 hj)]) (by omega)
 have e0:(fun j=>if j<0 then pJ w j else ([]:List Int))=fun _=>[]:=by funext j;rw [if_neg (Nat.not_lt_zero _)]
 rw [e0] at hl2
 have hl2:bM (nU N w (w.Items.map fun x=>x.Name)) N (EQ w.Items.length (fun _=>[]),0)=_:=hl2
 rw [OG hN (by omega),bS,List.length_map,hmk,bS,hl2,bS,WG];rfl
end
section
variable {N:Nat} (hN:2 ^ 64≤N)
include hN
theorem ord11 {g l:List Int} (hg:g.length≤1000) (hl:l.length≤1000):iM N g l=some (l.any fun k=>!g.contains k):=by
 unfold iM jW
 have h:((bM (fO N g l) N 0).bind fun o5=>Sum.elim (fun l7=>some (-1:Int)) (fun r8=>some r8) o5)=some (DU (fun k=>!g.contains k) l):=by
  refine tC (fun i hi=>?_) ?_ (by omega)
  ·unfold fO su
   rw [aO,dT (by omega),jm,jX hi,bS,Ba (by omega) (by omega),bS,bS,kN (by omega)]
  ·unfold fO
   rw [aO,dF (by omega),iP]
 rw [h,bS,Nv]
theorem ord1 {g:List Int} {b:List (List Int)} (hg:g.length≤1000) (hb:b.length≤1000) (hl:∀ l ∈ b,l.length≤1000):gJ N g b=some (DU (fun l=>!l.any fun k=>!g.contains k) b):=by
 unfold gJ
 refine tC (fun i hi=>?_) ?_ (by omega)
 ·unfold iO uy
  rw [aO,dT (by omega),jm,jX hi,bS,ord11 hN hg (hl _ (List.getElem_mem hi)),bS,bS,kN (by omega)]
 ·unfold iO
  rw [aO,dF (by omega),iP]
end
end Go.KB
namespace Go.KB
set_option linter.unusedVariables false
def lC (f:Nat→Int):Nat→Int
 | 0=>0
 | n+1=>lC f n+f n
theorem Di {f g:Nat→Int}:∀ {n},(∀ i,i<n→f i=g i)→lC f n=lC g n
 | 0,_=>rfl
 | n+1,h=>by simp only [lC];rw [Di (fun i hi=>h i (by omega)),h n (by omega)]
theorem FV {f g:Nat→Int}:∀ {n},(∀ i,i<n→f i≤g i)→lC f n≤lC g n
 | 0,_=>Int.le_refl _
 | n+1,h=>by
  have h1:=FV (f:=f) (g:=g) (n:=n) (fun i hi=>h i (by omega));have h2:=h n (by omega)
  simp only [lC];omega
theorem EK {f:Nat→Int}:∀ {n},(∀ i,i<n→f i=0)→lC f n=0
 | 0,_=>rfl
 | n+1,h=>by simp only [lC];rw [EK (fun i hi=>h i (by omega)),h n (by omega)];rfl
theorem FU {f:Nat→Int}:∀ {n},(∀ i,i<n→0≤f i)→0≤lC f n
 | 0,_=>Int.le_refl _
 | n+1,h=>by
  have h1:=FU (f:=f) (n:=n) (fun i hi=>h i (by omega));have h2:=h n (by omega)
  simp only [lC];omega
theorem DT {f:Nat→Int} {b:Int}:∀ {n:Nat},(∀ i,i<n→f i≤b)→lC f n≤n * b
 | 0,_=>by simp [lC]
 | n+1,h=>by
  have h1:=DT (f:=f) (b:=b) (n:=n) (fun i hi=>h i (by omega));have h2:=h n (by omega)
  simp only [lC]
  have:((n+1:Nat):Int) * b=n * b+b:=by rw [Int.natCast_add,Int.add_mul];simp
  omega
theorem Nu {f g : Nat → Int} : ∀ {n}, lC (fun i => f i + g i) n = lC f n + lC g n
  | 0=>rfl
  | n+1=>by simp only [lC];rw [Nu];omega
theorem setB {l:List ah} {i j:Nat} {v:ah} (hj:j<l.length):(l.set i v)[j]! = if i=j then v else l[j]!:=by
 rw [uD (by simpa using hj),List.getElem_set]
 by_cases h:i=j
 ·rw [if_pos h,if_pos h]
 ·rw [if_neg h,if_neg h,uD hj]
theorem set_self {l:List ah} {j:Nat} (hj:j<l.length):l.set j l[j]! = l:=by rw [uD hj];exact List.set_getElem_self hj
theorem exMin {p:Nat→Prop} (f:Nat→Int):∀ n,(∃ i,i<n∧p i)→∃ i,i<n∧p i∧∀ k,k<n→p k→f i≤f k:=by
  intro n
  induction n with
  | zero=>rintro ⟨i,hi,_⟩;omega
  | succ n ih =>
    rintro ⟨i,hi,hp⟩
    by_cases h:∃ i,i<n∧p i
    · obtain ⟨j,h1,h2,h3⟩:=ih h
      by_cases hn:p n∧f n<f j
      · refine ⟨n, by omega, hn.1, fun k hk hpk => ?_⟩
        by_cases e:k=n
        · subst e;omega
        · have:=h3 k (by omega) hpk;omega
      · refine ⟨j, by omega, h2, fun k hk hpk => ?_⟩
        by_cases e:k=n
        · subst e
          by_cases h4:f k<f j
          · exact absurd ⟨hpk,h4⟩ hn
          · omega
        · exact h3 k (by omega) hpk
    · have e:i=n:=by
        by_cases e:i=n
        · exact e
        · exact absurd ⟨i,by omega,hp⟩ h
      subst e
      refine ⟨i,hi,hp,fun k hk hpk=>?_⟩
      by_cases e:k=i
      · subst e;omega
      · exact absurd ⟨k,by omega,hpk⟩ h
structure Pb where
 n:Nat
 Rw:Nat→Int→Int
 cr:Nat→Int→Int
 nm:Nat→Nat
 tr:Nat→Str
 cap:Nat→Int
 pri:Nat→Nat→Bool
 ap:Nat→Nat→Bool
 st:Nat→ah→Bool
 last:Int
structure Pb.Ok (P:Pb):Prop where
 Rw:∀ i,i<P.n→∀ m:Int,0≤m→m<P.nm i→1≤P.Rw i m∧P.Rw i m≤60
 cr:∀ i,i<P.n→∀ m:Int,0≤m→m<P.nm i→0≤P.cr i m∧P.cr i m≤1000
 cap:∀ i k,i<P.n→k<P.n→P.tr i=P.tr k→P.cap i=P.cap k
 ap:∀ i k,i<P.n→k<P.n→P.ap i k=P.ap k i
 irr:∀ i,i<P.n→P.pri i i=false
 n8:P.n≤8
 last:P.last≤400
abbrev S0:ah:=⟨0,0,false⟩
def Pb.en (P:Pb) (i:Nat) (s:ah):Int:=s.day+P.Rw i s.mode
structure Pb.EP (P:Pb) (i:Nat) (s:ah):Prop where
 m0:0≤s.mode
 m1:s.mode<P.nm i
 d0:0≤s.day
 d1:s.day≤400
structure Pb.Wf (P:Pb) (l:List ah):Prop where
 len:l.length=P.n
 on:∀ i,i<P.n→l[i]!.on=true→P.EP i l[i]!
 off:∀ i,i<P.n→l[i]!.on=false→l[i]! = S0
def Pb.Full (P:Pb) (l:List ah):Prop:=∀ i,i<P.n→l[i]!.on=true
def Pb.Sub (P:Pb) (l L:List ah):Prop:=∀ i,i<P.n→l[i]!.on=true→L[i]! = l[i]!
def Pb.EJ (P:Pb) (k:Nat) (s:ah) (d:Int) (T:Str):Int:=if s.on=true∧P.tr k=T∧s.day≤d∧d<P.en k s then P.cr k s.mode else 0
def Pb.use (P:Pb) (l:List ah) (d:Int) (T:Str):Int:=lC (fun k=>P.EJ k l[k]! d T) P.n
def Pb.pair (P:Pb) (i k:Nat) (s t:ah):Prop:=(P.pri i k=true→P.en k t≤s.day)∧(P.pri k i=true→P.en i s≤t.day)∧(P.ap i k=true→P.en k t≤s.day∨P.en i s≤t.day)
def Pb.solo (P:Pb) (F:Nat→Int) (i:Nat) (s:ah):Prop:=F i≤s.day∧P.en i s≤P.last∧P.st i s=false
structure Pb.Fits (P:Pb) (F:Nat→Int) (l:List ah) (i:Nat) (s:ah):Prop where
 solo:P.solo F i s
 pair:∀ k,k<P.n→k≠i→l[k]!.on=true→P.pair i k s l[k]!
 use:∀ d,s.day≤d→d<P.en i s→P.use (l.set i s) d (P.tr i)≤P.cap i
def Pb.Valid (P:Pb) (F:Nat→Int) (l:List ah):Prop:=∀ i,i<P.n→l[i]!.on=true→P.Fits F l i l[i]!
structure Pb.Uk (P:Pb) (F:Nat→Int) (l:List ah) (i:Nat) (m:Int) (s:ah):Prop where
 mode:s.mode=m
 on:s.on=true
 fits:P.Fits F l i s
 least:∀ d,F i≤d→d<s.day→¬ P.Fits F l i ⟨m,d,true⟩
def Pb.opn (P:Pb) (l:List ah) (i:Nat):Prop:=l[i]!.on=false∧∀ k,k<P.n→P.pri i k=true→l[k]!.on=true
inductive Pb.Reach (P:Pb) (F:Nat→Int):List ah→List ah→Prop
 | refl (l):P.Reach F l l
 | step {l L i s} {m:Int} (hi:i<P.n) (ho:P.opn l i) (h0:0≤m) (h1:m<P.nm i) (he:P.Uk F l i m s) (h:P.Reach F (l.set i s) L):P.Reach F l L
variable {P:Pb} {F:Nat→Int}
theorem Df {s:ah} {m:Int} (h:s.mode=m) (g:s.on=true):s=⟨m,s.day,true⟩:=by
 cases s;simp only at h g;subst h g;rfl
theorem Pb.Uk.inj {l:List ah} {i:Nat} {m:Int} {s t:ah} (h:P.Uk F l i m s) (g:P.Uk F l i m t):s=t:=by
 have e1:s=⟨m,s.day,true⟩:=Df h.mode h.on
 have e2:t=⟨m,t.day,true⟩:=Df g.mode g.on
 have h1:¬ s.day<t.day:=fun x=>g.least s.day h.fits.solo.1 x (by rw [← e1];exact h.fits)
 have h2:¬ t.day<s.day:=fun x=>h.least t.day g.fits.solo.1 x (by rw [← e2];exact g.fits)
 have e3:s.day=t.day:=by omega
 rw [e1,e2,e3]
theorem Pb.PW (ok:P.Ok) {k:Nat} (hk:k<P.n) {s:ah} (hs:s.on=true→P.EP k s) {d:Int} {T:Str}:0≤P.EJ k s d T:=by
 unfold Pb.EJ
 split
 ·rename_i h;exact (ok.cr k hk s.mode (hs h.1).m0 (hs h.1).m1).1
 ·exact Int.le_refl _
theorem Pb.Lp {k:Nat} {s:ah} {d:Int} {T:Str} (hs:s.on=false):P.EJ k s d T=0:=by
 unfold Pb.EJ;rw [if_neg];rw [hs];simp
theorem Pb.pair.symm (ok:P.Ok) {i k:Nat} {s t:ah} (hi:i<P.n) (hk:k<P.n) (h:P.pair i k s t):P.pair k i t s:=by
 obtain ⟨h1,h2,h3⟩:=h
 refine ⟨h2,h1,fun h=>?_⟩
 rw [ok.ap k i hk hi] at h
 exact (h3 h).symm
theorem Pb.Wf.set {l:List ah} (hl:P.Wf l) {i:Nat} (hi:i<P.n) {s:ah} (hs:s.on=true→P.EP i s) (h0:s.on=false→s=S0):P.Wf (l.set i s):=by
 have hlen:=hl.len
 refine ⟨by rw [List.length_set];exact hlen,fun j hj=>?_,fun j hj=>?_⟩
 all_goals
  rw [setB (by omega)]
  by_cases e:i=j
  ·subst e;rw [if_pos rfl];first | exact hs | exact h0
  ·rw [if_neg e];first | exact hl.on j hj | exact hl.off j hj
theorem Pb.Fits.sub (ok:P.Ok) {l L:List ah} (hl:l.length=P.n) (hL:P.Wf L) (hs:P.Sub l L) {i:Nat} (hi:i<P.n) {s:ah} (h:P.Fits F L i s):P.Fits F l i s:=by
  refine ⟨h.solo,fun k hk hki hon=>?_,fun d h1 h2=>Int.le_trans ?_ (h.use d h1 h2)⟩
  · have := h.pair k hk hki (by rw [hs k hk hon]; exact hon)
    rwa [hs k hk hon] at this
  · refine FV fun k hk => ?_
    rw [setB (by omega),setB (by have:=hL.len;omega)]
    by_cases e:i=k
    · rw [if_pos e,if_pos e];exact Int.le_refl _
    · rw [if_neg e,if_neg e]
      cases hon:l[k]!.on with
      | true=>rw [hs k hk hon];exact Int.le_refl _
      | false=>rw [Pb.Lp hon];exact Pb.PW ok hk (hL.on k hk)
theorem Pb.Valid.sub (ok:P.Ok) {l L:List ah} (hl:l.length=P.n) (hL:P.Wf L) (hs:P.Sub l L) (h:P.Valid F L):P.Valid F l:=fun i hi hon=>by
 have:=(h i hi (by rw [hs i hi hon];exact hon)).sub ok hl hL hs hi
 rwa [hs i hi hon] at this
theorem Pb.Valid.set (ok:P.Ok) {l:List ah} (hl:P.Wf l) (hv:P.Valid F l) {i:Nat} (hi:i<P.n) (hoff:l[i]!.on=false) {s:ah} (hf:P.Fits F l i s):P.Valid F (l.set i s):=fun j hj hon=>by
  have hlen:=hl.len
  rw [setB (by omega)] at hon ⊢
  by_cases e:i=j
  · subst e
    rw [if_pos rfl] at hon ⊢
    refine ⟨hf.solo,fun k hk hki hk2=>?_,fun d h1 h2=>by rw [List.set_set];exact hf.use d h1 h2⟩
    rw [setB (by omega),if_neg (Ne.symm hki)] at hk2 ⊢
    exact hf.pair k hk hki hk2
  · rw [if_neg e] at hon ⊢
    have hj2:=hv j hj hon
    refine ⟨hj2.solo,fun k hk hkj hk2=>?_,fun d h1 h2=>?_⟩
    · rw [setB (by omega)] at hk2 ⊢
      by_cases e2:i=k
      · subst e2
        rw [if_pos rfl]
        exact (hf.pair j hj (Ne.symm e) hon).symm ok hi hj
      · rw [if_neg e2] at hk2 ⊢
        exact hj2.pair k hk hkj hk2
    · have e1:(l.set i s).set j l[j]! = l.set i s:=by
        have:=set_self (l:=l.set i s) (j:=j) (by rw [List.length_set];omega)
        rwa [setB (by omega),if_neg e] at this
      rw [e1]
      by_cases h:P.tr i=P.tr j∧s.day≤d∧d<P.en i s
      · rw [← h.1,← ok.cap i j hi hj h.1];exact hf.use d h.2.1 h.2.2
      · have h3:=hj2.use d h1 h2
        rw [set_self (by omega)] at h3
        refine Int.le_trans (FV fun k hk=>?_) h3
        rw [setB (by omega)]
        by_cases e2:i=k
        · subst e2
          rw [if_pos rfl,Pb.Lp hoff]
          unfold Pb.EJ
          rw [if_neg (fun x=>h x.2)];exact Int.le_refl _
        · rw [if_neg e2];exact Int.le_refl _
def yO (l:List ah):Nat:=l.countP fun x=>!x.on
theorem Jz:∀ {l:List ah} {i:Nat} {v:ah},i<l.length→l[i]!.on=false→v.on=true→yO (l.set i v)+1=yO l
 | [],i,v,h,_,_=>absurd h (Nat.not_lt_zero _)
 | x :: l,0,v,_,h1,h2=>by
  have h1:x.on=false:=h1
  simp [yO,List.set,h1,h2]
 | x :: l,i+1,v,h,h1,h2=>by
  have:=Jz (l:=l) (i:=i) (v:=v) (by simpa using h) (by simpa using h1) h2
  simp only [yO] at this
  simp only [yO,List.set,List.countP_cons];omega
theorem Kz {l:List ah} (h:yO l=0):∀ i,i<l.length→l[i]!.on=true:=fun i hi=>by
 unfold yO at h
 rw [List.countP_eq_zero] at h
 have:=h _ (List.getElem_mem hi)
 rw [uD hi]
 simpa using this
theorem YW {l:List ah} (h:yO l≠0):∃ i,i<l.length∧l[i]!.on=false:=by
 unfold yO at h
 obtain ⟨x,hx,h2⟩:=List.countP_pos_iff.1 (Nat.pos_of_ne_zero h)
 obtain ⟨i,hi,rfl⟩:=List.getElem_of_mem hx
 exact ⟨i,hi,by rw [uD hi];simpa using h2⟩
theorem Z4 (l:List ah):yO l≤l.length:=List.countP_le_length
theorem EL {l L:List ah} (h:l.length=L.length) (he:∀ i,i<l.length→l[i]! = L[i]!):l=L :=
 List.ext_getElem h fun i h1 h2=>by rw [← uD h1,← uD h2];exact he i h1
def Pb.Vf (P:Pb) (L L':List ah):Prop:=∀ i,i<P.n→L[i]!.mode=L'[i]!.mode
def Pb.OB (P:Pb) (L L':List ah):Prop:=∀ i,i<P.n→L[i]!.day≤L'[i]!.day
structure Pb.A8 (P:Pb) (F:Nat→Int) (l L:List ah):Prop where
 wf:P.Wf L
 full:P.Full L
 valid:P.Valid F L
 sub:P.Sub l L
def Pb.Min (P:Pb) (F:Nat→Int) (l L:List ah):Prop:=∀ L',P.A8 F l L'→P.Vf L' L→P.OB L' L→P.OB L L'
theorem Pb.WH (ok:P.Ok) {L:List ah} (hF:∀ i,0≤F i):∀ (c:Nat) (l:List ah),yO l=c→P.Wf l→P.A8 F l L→P.Min F l L→P.Reach F l L:=by
  intro c
  induction c with
  | zero =>
    intro l hc hw h _
    have e:l=L:=EL (by rw [hw.len,h.wf.len]) fun i hi=>(h.sub i (by rw [← hw.len];exact hi) (Kz hc i hi)).symm
    rw [e];exact .refl _
  | succ c ih =>
    intro l hc hw h hm
    have hl:=hw.len;have hLl:=h.wf.len
    obtain ⟨i0,h01,h02⟩:=YW (l:=l) (by omega)
    obtain ⟨i,hi,hoff,hmin⟩:=exMin (p:=fun i=>l[i]!.on=false) (fun i=>L[i]!.day) P.n ⟨i0,by omega,h02⟩
    have hon:L[i]!.on=true:=h.full i hi
    have hsl:=h.wf.on i hi hon
    have hd1:=(ok.Rw i hi _ hsl.m0 hsl.m1).1
    have hfL:P.Fits F L i L[i]!:=h.valid i hi hon
    have hfl:P.Fits F l i L[i]!:=hfL.sub ok hl h.wf h.sub hi
    have YO:P.opn l i:=by
      refine ⟨hoff,fun k hk hp=>?_⟩
      by_cases hki:k=i
      · subst hki
        exfalso
        rw [ok.irr k hk] at hp;cases hp
      · cases hko:l[k]!.on with
        | true=>rfl
        | false =>
          exfalso
          have YX:=h.full k hk
          have hks:=h.wf.on k hk YX
          have:=(ok.Rw k hk _ hks.m0 hks.m1).1
          have h1:=(hfL.pair k hk hki YX).1 hp
          have h2:=hmin k hk hko
          unfold Pb.en at h1
          omega
    have hear:P.Uk F l i L[i]!.mode L[i]!:=by
      refine ⟨rfl,hon,hfl,fun d hd1' hd2 hf=>?_⟩
      obtain ⟨s,hs⟩:∃ s:ah,s=⟨L[i]!.mode,d,true⟩:=⟨_,rfl⟩
      rw [← hs] at hf
      have hsday:s.day=d:=by rw [hs]
      have Ny:s.mode=L[i]!.mode:=by rw [hs]
      have Qb:s.on=true:=by rw [hs]
      have hen:P.en i s=d+P.Rw i L[i]!.mode:=by unfold Pb.en;rw [hsday,Ny]
      have henL:P.en i L[i]! = L[i]!.day+P.Rw i L[i]!.mode:=rfl
      have hd0:=hF i
      have WB:P.EP i s:=⟨by rw [Ny];exact hsl.m0,by rw [Ny];exact hsl.m1,by omega,by have:=hsl.d1;omega⟩
      obtain ⟨L0,hL0⟩:∃ L0,L0=L.set i S0:=⟨_,rfl⟩
      have hL0w:P.Wf L0:=by rw [hL0];exact h.wf.set hi (fun x=>by cases x) (fun _=>rfl)
      have hL0s:P.Sub L0 L:=fun k hk hk2=>by
        rw [hL0,setB (by omega)] at hk2 ⊢
        by_cases e:i=k
        · rw [if_pos e] at hk2;cases hk2
        · rw [if_neg e]
      have hL0v:=h.valid.sub ok hL0w.len h.wf hL0s
      have hL0k:∀ k,k<P.n→k≠i→L0[k]! = L[k]!:=fun k hk e=>by rw [hL0,setB (by omega),if_neg (Ne.symm e)]
      have hf0:P.Fits F L0 i s:=by
        refine ⟨hf.solo,fun k hk hki _=>?_,fun d' h1 h2=>?_⟩
        · rw [hL0k k hk hki]
          cases hko:l[k]!.on with
          | true=>rw [h.sub k hk hko];exact hf.pair k hk hki hko
          | false =>
            have YX:=h.full k hk
            have hks:=h.wf.on k hk YX
            have hkd:=(ok.Rw k hk _ hks.m0 hks.m1).1
            obtain ⟨p1,p2,p3⟩:=hfL.pair k hk hki YX
            have hge:=hmin k hk hko
            have hek:P.en k L[k]! = L[k]!.day+P.Rw k L[k]!.mode:=rfl
            refine ⟨fun x=>?_,fun x=>?_,fun x=>?_⟩
            · have:=p1 x;omega
            · have:=p2 x;omega
            · rcases p3 x with y | y <;> omega
        · have e0 : L0.set i s = L.set i s := by rw [hL0, List.set_set]
          rw [e0]
          by_cases hc2:L[i]!.day≤d'
          · have h3 := hfL.use d' hc2 (by omega)
            rw [set_self (by omega)] at h3
            refine Int.le_trans (FV fun k hk=>?_) h3
            rw [setB (by omega)]
            by_cases e:i=k
            · subst e
              rw [if_pos rfl]
              unfold Pb.EJ
              rw [Qb,hsday,hen,hon,Ny,henL]
              by_cases hh:P.tr i=P.tr i∧d≤d'∧d'<d+P.Rw i L[i]!.mode
              · rw [if_pos ⟨rfl,hh⟩,if_pos ⟨rfl,rfl,hc2,by omega⟩];exact Int.le_refl _
              · rw [if_neg (fun x => hh x.2)]
                split
                · exact (ok.cr i hi _ hsl.m0 hsl.m1).1
                · exact Int.le_refl _
            · rw [if_neg e];exact Int.le_refl _
          · refine Int.le_trans (FV fun k hk => ?_) (hf.use d' h1 h2)
            rw [setB (by omega),setB (by omega)]
            by_cases e:i=k
            · rw [if_pos e,if_pos e];exact Int.le_refl _
            · rw [if_neg e,if_neg e]
              cases hko:l[k]!.on with
              | true=>rw [h.sub k hk hko];exact Int.le_refl _
              | false =>
                have hge:=hmin k hk hko
                rw [Pb.Lp hko]
                unfold Pb.EJ
                rw [if_neg (fun x=>by omega)];exact Int.le_refl _
      have hoff0:L0[i]!.on=false:=by rw [hL0,setB (by omega),if_pos rfl]
      have hv1:=hL0v.set ok hL0w hi hoff0 hf0
      have e0:L0.set i s=L.set i s:=by rw [hL0,List.set_set]
      rw [e0] at hv1
      have hset:∀ k,k<P.n→(L.set i s)[k]! = if i=k then s else L[k]!:=fun k hk=>setB (by omega)
      have:=hm (L.set i s) ⟨h.wf.set hi (fun _=>WB) (fun x=>by rw [Qb] at x;cases x),fun k hk=>by
          rw [hset k hk];split
          · exact Qb
          · exact h.full k hk,hv1,fun k hk hk2=>by
          rw [hset k hk,if_neg]
          · exact h.sub k hk hk2
          · intro e;subst e;rw [hoff] at hk2;cases hk2⟩
        (fun k hk=>by
          rw [hset k hk];split
          · rename_i e;subst e;exact Ny
          · rfl)
        (fun k hk=>by
          rw [hset k hk];split
          · rename_i e;subst e;omega
          · exact Int.le_refl _) i hi
      rw [hset i hi,if_pos rfl] at this
      omega
    refine .step hi YO hsl.m0 hsl.m1 hear ?_
    have hsub:P.Sub (l.set i L[i]!) L:=fun k hk hk2=>by
      rw [setB (by omega)] at hk2 ⊢
      by_cases e:i=k
      · rw [if_pos e,e]
      · rw [if_neg e] at hk2 ⊢;exact h.sub k hk hk2
    refine ih _ (by have:=Jz (l:=l) (i:=i) (v:=L[i]!) (by omega) hoff hon;omega) (hw.set hi (fun _=>hsl) (fun x=>by rw [hon] at x;cases x)) ⟨h.wf,h.full,h.valid,hsub⟩ fun L' hc' hs' hd'=>hm L' ⟨hc'.wf,hc'.full,hc'.valid,fun k hk hk2=>?_⟩ hs' hd'
    have hki:i≠k:=fun e=>by subst e;rw [hoff] at hk2;cases hk2
    have:=hc'.sub k hk (by rw [setB (by omega),if_neg hki];exact hk2)
    rwa [setB (by omega),if_neg hki] at this
end Go.KB
namespace Go.KB
set_option linter.unusedVariables false
variable {P:Pb} {F:Nat→Int}
def FW (f:Nat→Nat):Nat→Nat
 | 0=>0
 | n+1=>FW f n+f n
theorem OH {f g:Nat→Nat}:∀ {n},(∀ i,i<n→f i≤g i)→FW f n≤FW g n
 | 0,_=>Nat.le_refl _
 | n+1,h=>by
  have h1:=OH (f:=f) (g:=g) (n:=n) (fun i hi=>h i (by omega));have h2:=h n (by omega)
  simp only [FW];omega
theorem OI {f g:Nat→Nat}:∀ {n},(∀ i,i<n→f i≤g i)→(∃ i,i<n∧f i<g i)→FW f n<FW g n
  | 0,_,⟨i,hi,_⟩=>absurd hi (Nat.not_lt_zero _)
  | n+1,h,⟨i,hi,hlt⟩=>by
    have h1:=OH (f:=f) (g:=g) (n:=n) (fun i hi=>h i (by omega));have h2:=h n (by omega)
    simp only [FW]
    by_cases e:i=n
    · subst e;omega
    · have := OI (f := f) (g := g) (n := n) (fun i hi => h i (by omega)) ⟨i, by omega, hlt⟩
      omega
theorem Pb.min_ex {l:List ah}:∀ (c:Nat) (L:List ah),FW (fun i=>L[i]!.day.toNat) P.n=c→P.A8 F l L→∃ L',P.A8 F l L'∧P.Vf L' L∧P.OB L' L∧P.Min F l L':=by
 intro c
 induction c using Nat.strongRecOn with
 | _ c ih =>
  intro L hc h
  by_cases hm:P.Min F l L
  ·exact ⟨L,h,fun _ _=>rfl,fun _ _=>Int.le_refl _,hm⟩
  ·unfold Pb.Min at hm
   obtain ⟨L1,h1⟩:=Classical.not_forall.1 hm
   simp only [Classical.not_imp] at h1
   obtain ⟨h1,h2,h3,h4⟩:=h1
   unfold Pb.OB at h4
   obtain ⟨i,h5⟩:=Classical.not_forall.1 h4
   rw [Classical.not_imp] at h5
   obtain ⟨hi,h5⟩:=h5
   have hd1:∀ i,i<P.n→0≤L1[i]!.day:=fun i hi=>(h1.wf.on i hi (h1.full i hi)).d0
   have hd2:∀ i,i<P.n→0≤L[i]!.day:=fun i hi=>(h.wf.on i hi (h.full i hi)).d0
   have hlt:FW (fun i=>L1[i]!.day.toNat) P.n<c:=by
    rw [← hc]
    refine OI (fun k hk=>?_) ⟨i,hi,?_⟩
    ·have:=h3 k hk;have:=hd1 k hk;have:=hd2 k hk;omega
    ·have:=hd1 i hi;have:=hd2 i hi;omega
   obtain ⟨L',g1,g2,g3,g4⟩:=ih _ hlt L1 rfl h1
   exact ⟨L',g1,fun k hk=>(g2 k hk).trans (h2 k hk),fun k hk=>Int.le_trans (g3 k hk) (h3 k hk),g4⟩
structure Pb.Ms (P:Pb) (μ:List ah→Int) (rest:Nat→Int):Prop where
 mono:∀ L L',P.Wf L→P.Wf L'→P.Full L→P.Full L'→P.Vf L' L→P.OB L' L→μ L'≤μ L
 low:∀ l L,P.Wf l→P.Wf L→P.Full L→P.Sub l L→μ l+lC (fun i=>if l[i]!.on=true then 0 else rest i) P.n≤μ L
def Pb.floor (P:Pb) (μ:List ah→Int) (rest:Nat→Int) (l:List ah):Int:=μ l+lC (fun i=>if l[i]!.on=true then 0 else rest i) P.n
theorem Pb.Nw {μ:List ah→Int} {rest:Nat→Int} {l:List ah} (h:P.Full l):P.floor μ rest l=μ l:=by
 unfold Pb.floor
 rw [EK fun i hi=>if_pos (h i hi)];omega
theorem Pb.YQ (ok:P.Ok) (hF:∀ i,0≤F i) {μ:List ah→Int} {rest:Nat→Int} (hμ:P.Ms μ rest) {l L:List ah} (hw:P.Wf l) (h:P.A8 F l L):∃ L',P.A8 F l L'∧P.Reach F l L'∧μ L'≤μ L:=by
 obtain ⟨L',h1,h2,h3,h4⟩:=Pb.min_ex _ L rfl h
 exact ⟨L',h1,Pb.WH ok hF _ l rfl hw h1 h4,hμ.mono L L' h.wf h1.wf h.full h1.full h2 h3⟩
def Pb.Done (P:Pb) (F:Nat→Int) (μ:List ah→Int) (l:List ah) (b:Int):Prop:=∀ L,P.A8 F l L→P.Reach F l L→b≤μ L
theorem Pb.Done.le {μ:List ah→Int} {l:List ah} {b b':Int} (h:P.Done F μ l b) (hb:b'≤b):P.Done F μ l b':=fun L h1 h2=>Int.le_trans hb (h L h1 h2)
end Go.KB
namespace Go.KB
set_option linter.unusedVariables false
set_option maxRecDepth 100000
def JJ (w:GWork):List Str:=w.aY.map fun x=>x.Name
def Ld (w:GWork):List Str:=w.dh.map fun x=>x.Name
def ES (w:GWork):List Str:=w.Items.map fun x=>x.Name
def BV (l:List Str) (s:Str):Int:=DU (fun x=>decide (s=x)) l
theorem yQ {w:GWork}:(JJ w).length=w.aY.length:=by unfold JJ;simp
theorem H9 {w:GWork}:(Ld w).length=w.dh.length:=by unfold Ld;simp
theorem zW {w:GWork}:(ES w).length=w.Items.length:=by unfold ES;simp
theorem Yx {w:GWork} {i:Nat} (h:i<w.aY.length):(JJ w)[i]! = w.aY[i]!.Name:=by rw [uD (by rw [yQ];exact h),uD h];unfold JJ;simp
theorem nmW_at {w:GWork} {i:Nat} (h:i<w.dh.length):(Ld w)[i]! = w.dh[i]!.Name:=by rw [uD (by rw [H9];exact h),uD h];unfold Ld;simp
theorem Uj {w:GWork} {i:Nat} (h:i<w.Items.length):(ES w)[i]! = w.Items[i]!.Name:=by rw [uD (by rw [zW];exact h),uD h];unfold ES;simp
theorem ixI_of {α:Type} {g:α→Bool} {l:List α} {i:Nat} (hi:i<l.length) (h:g l[i]=true) (hb:∀ j,(hj:j<i)→g (l[j]'(by omega))=false):DU g l=(i:Int):=by
 have:l.findIdx g=i:=by
  rw [List.findIdx_eq hi]
  exact ⟨h,hb⟩
 unfold DU
 rw [this,if_pos hi]
theorem YZ {α:Type} {g:α→Bool} {l:List α} (h:∀ x ∈ l,g x=false):DU g l = -1:=by
 unfold DU
 rw [if_neg]
 intro hlt
 obtain ⟨x,hx,hg⟩:=List.findIdx_lt_length.1 hlt
 rw [h x hx] at hg;cases hg
theorem Bc {α:Type} {g:α→Bool} {l:List α}:(DU g l = -1∧∀ x ∈ l,g x=false)∨∃ i:Nat,∃ hi:i<l.length,DU g l=(i:Int)∧g l[i]=true∧∀ j,(hj:j<i)→g (l[j]'(by omega))=false:=by
  by_cases h:l.findIdx g<l.length
  · refine .inr ⟨l.findIdx g, h, Vk h, List.findIdx_getElem, fun j hj => ?_⟩
    have:=List.not_of_lt_findIdx hj
    simpa using this
  · refine .inl ⟨Vl h, fun x hx => ?_⟩
    cases hg:g x with
    | false=>rfl
    | true=>exact absurd (List.findIdx_lt_length.2 ⟨x,hx,hg⟩) h
theorem He {l:List Str} {s:Str}:(BV l s = -1∧EN l s=false)∨∃ i:Nat,i<l.length∧BV l s=(i:Int)∧l[i]! = s∧EN l s=true:=by
  rcases Bc (g:=fun x=>decide (s=x)) (l:=l) with ⟨h1,h2⟩ | ⟨i,hi,h1,h2,_⟩
  · refine .inl ⟨h1,?_⟩
    unfold EN
    rw [List.any_eq_false]
    intro x hx
    rw [h2 x hx];simp
  · have h2 : s = l[i] := by simpa using h2
    exact .inr ⟨i,hi,h1,by rw [uD hi,h2],Qd.2 (by rw [h2];exact List.getElem_mem hi)⟩
theorem GY {l:List Str} {s:Str} (h:EN l s=true):∃ i:Nat,i<l.length∧BV l s=(i:Int)∧l[i]! = s:=by
 rcases He (l:=l) (s:=s) with ⟨_,h2⟩ | ⟨i,h1,h2,h3,_⟩
 ·rw [h] at h2;cases h2
 ·exact ⟨i,h1,h2,h3⟩
theorem Z7 {l:List Str} {i:Nat} (hi:i<l.length) (h:BV l l[i]! = (i:Int)):EN (l.take i) l[i]! = false:=by
  cases hc:EN (l.take i) l[i]! with
  | false=>rfl
  | true =>
    exfalso
    obtain ⟨j,hj,hx⟩:=List.getElem_of_mem (Qd.1 hc)
    rw [List.length_take] at hj
    rw [List.getElem_take] at hx
    rcases Bc (g:=fun x=>decide (l[i]! = x)) (l:=l) with ⟨h1,_⟩ | ⟨k,hk,h1,_,h3⟩
    · unfold BV at h;omega
    · have : k = i := by unfold BV at h; omega
      subst this
      have:=h3 j (by omega)
      rw [hx] at this
      simp at this
theorem JF {O:Type} {n N:Nat} {f:Int→Option (Int ⊕ O)} {r:O} (h:∀ i:Nat,i<n→f (i:Int)=some (.inl ((i+1:Nat):Int))) (he:f (n:Int)=some (.inr r)) (hN:n<N):bM f N 0=some r :=
 tu (f:=f) (fun i:Nat=>(i:Int)) r h he hN
section
variable {N:Nat} (hN:2 ^ 64≤N)
include hN
theorem Y0 {w:GWork} {s:Str} (h:w.aY.length≤1000):vK N w s=some (BV (JJ w) s):=by
 have e:BV (JJ w) s=DU (fun x:iD=>decide (x.Name=s)) w.aY:=by
  unfold BV JJ DU
  rw [List.findIdx_map,List.length_map]
  have:((fun x=>decide (s=x)) ∘ fun x:iD=>x.Name)=fun x=>decide (x.Name=s):=by funext x;simp [eq_comm]
  rw [this]
 rw [e]
 unfold vK
 refine tC (fun i hi=>?_) ?_ (by omega)
 ·unfold uY
  rw [aO,dT (by omega),jm,jX hi,bS,rH,kN (by omega)]
 ·unfold uY
  rw [aO,dF (by omega),iP]
theorem Uo {w:GWork} {s:Str} (h:w.dh.length≤1000):tV N w s=some (BV (Ld w) s):=by
 have e:BV (Ld w) s=DU (fun x:jF=>decide (x.Name=s)) w.dh:=by
  unfold BV Ld DU
  rw [List.findIdx_map,List.length_map]
  have:((fun x=>decide (s=x)) ∘ fun x:jF=>x.Name)=fun x=>decide (x.Name=s):=by funext x;simp [eq_comm]
  rw [this]
 rw [e]
 unfold tV
 refine tC (fun i hi=>?_) ?_ (by omega)
 ·unfold uZ
  rw [aO,dT (by omega),jm,jX hi,bS,rH,kN (by omega)]
 ·unfold uZ
  rw [aO,dF (by omega),iP]
theorem YG {w:GWork} {s:Str} (h:w.Items.length≤1000):ve N w s=some (BV (ES w) s):=by
 have e:BV (ES w) s=DU (fun x:bU=>decide (x.Name=s)) w.Items:=by
  unfold BV ES DU
  rw [List.findIdx_map,List.length_map]
  have:((fun x=>decide (s=x)) ∘ fun x:bU=>x.Name)=fun x=>decide (x.Name=s):=by funext x;simp [eq_comm]
  rw [this]
 rw [e]
 unfold ve
 refine tC (fun i hi=>?_) ?_ (by omega)
 ·unfold vT
  rw [aO,dT (by omega),jm,jX hi,bS,rH,kN (by omega)]
 ·unfold vT
  rw [aO,dF (by omega),iP]
theorem Y1 {l:List Str} {s:Str} (h:l.length≤1000):xU N l s=some (EN l s):=by
 unfold xU
 have:=YT (l:=l) (N:=N) (f:=uN N l s) (g:=fun x=>decide (s=x)) (fun i hi=>by
  unfold uN
  rw [aO,dT (by omega),jm,jX hi,bS,rH,kN (by omega)]
  rw [show decide (l[i]=s)=decide (s=l[i]) by simp [eq_comm]]) (by
  unfold uN
  rw [aO,dF (by omega),iP]) (by omega)
 exact this
end
def Z8 (w:GWork) (g:List Int) (i:Nat):Bool:=!(pJ w i).any fun k=>!g.contains k
def BB (w:GWork) (g:List Int) (i:Nat):Bool:=!g.contains (i:Int)&&Z8 w g i
def Ur (w:GWork) (g:List Int):Int:=DU (BB w g) (List.range w.Items.length)
def Jw (w:GWork):Nat→List Int→List Int
 | 0,g=>g
 | k+1,g=>if Ur w g<0 then g else Jw w k (g ++ [Ur w g])
theorem Y2 {w:GWork} {g:List Int} {i:Nat} (hi:i<w.Items.length) (h:BB w g i=true) (hb:∀ j,j<i→BB w g j=false):Ur w g=(i:Int) :=
 ixI_of (by simpa using hi) (by simpa using h) (fun j hj=>by simpa using hb j hj)
theorem Nz {w:GWork} {g:List Int} (h:∀ i,i<w.Items.length→BB w g i=false):Ur w g = -1 :=
 YZ fun x hx=>h x (List.mem_range.1 hx)
theorem NC {w:GWork} {g:List Int}:(Ur w g = -1∧∀ i,i<w.Items.length→BB w g i=false)∨∃ i:Nat,i<w.Items.length∧Ur w g=(i:Int)∧BB w g i=true:=by
 rcases Bc (g:=BB w g) (l:=List.range w.Items.length) with ⟨h1,h2⟩ | ⟨i,hi,h1,h2,_⟩
 ·exact .inl ⟨h1,fun i hi=>h2 i (List.mem_range.2 hi)⟩
 ·exact .inr ⟨i,by simpa using hi,h1,by simpa using h2⟩
structure G7 (w:GWork) (g:List Int):Prop where
 nd:g.Nodup
 bd:∀ k ∈ g,0≤k∧k<w.Items.length
 top:∀ p,(hp:p<g.length)→∀ k ∈ pJ w g[p].toNat,k ∈ g.take p
theorem G7.nil {w:GWork}:G7 w []:=⟨List.nodup_nil,fun k hk=>(by cases hk),fun p hp=>absurd hp (Nat.not_lt_zero _)⟩
theorem Z9 {w:GWork} {g:List Int} {i:Nat}:Z8 w g i=true↔∀ k ∈ pJ w i,k ∈ g:=by
 unfold Z8
 rw [Bool.not_eq_true',List.any_eq_false]
 constructor
 ·intro h k hk
  have:=h k hk
  simpa using this
 ·intro h k hk
  have:=h k hk
  simpa using this
theorem G7.snoc {w:GWork} {g:List Int} (h:G7 w g) {i:Nat} (hi:i<w.Items.length) (hc:BB w g i=true):G7 w (g ++ [(i:Int)]):=by
  unfold BB at hc
  rw [Bool.and_eq_true,Bool.not_eq_true'] at hc
  obtain ⟨h1,h2⟩:=hc
  have h1:(i:Int) ∉ g:=by
    intro hm
    rw [List.contains_iff_mem.2 hm] at h1;cases h1
  refine ⟨?_,fun k hk=>?_,fun p hp k hk=>?_⟩
  · rw [List.nodup_append]
    refine ⟨h.nd,by simp,fun a ha b hb=>?_⟩
    rw [List.mem_singleton] at hb
    subst hb
    intro e;subst e;exact h1 ha
  · rcases List.mem_append.1 hk with hk | hk
    · exact h.bd k hk
    · rw [List.mem_singleton] at hk;subst hk;omega
  · rw [List.length_append,List.length_singleton] at hp
    by_cases e:p<g.length
    · rw [List.getElem_append_left e] at hk
      rw [List.take_append_of_le_length (by omega)]
      exact h.top p e k hk
    · have e : p = g.length := by omega
      subst e
      rw [List.getElem_append_right (Nat.le_refl _)] at hk
      simp only [Nat.sub_self,List.getElem_cons_zero,Int.toNat_natCast] at hk
      rw [List.take_left]
      exact Z9.1 h2 k hk
theorem U4 {w:GWork}:∀ {k:Nat} {g:List Int},G7 w g→G7 w (Jw w k g)
 | 0,g,h=>h
 | k+1,g,h=>by
  unfold Jw
  split
  ·exact h
  ·rename_i hn
   rcases NC (w:=w) (g:=g) with ⟨h1,_⟩ | ⟨i,hi,h1,h2⟩
   ·omega
   ·rw [h1];exact U4 (h.snoc hi h2)
theorem OJ:∀ {n:Nat} {g:List Int},g.Nodup→(∀ k ∈ g,0≤k∧k<n)→g.length≤n:=by
 intro n
 induction n with
 | zero =>
  intro g _ h
  cases g with
  | nil=>exact Nat.le_refl _
  | cons x r=>have:=h x List.mem_cons_self;omega
 | succ n ih =>
  intro g hg h
  have h1:=ih (g:=g.erase (n:Int)) (hg.erase _) (fun k hk=>by
   have:=h k (List.mem_of_mem_erase hk)
   have hne:k≠(n:Int):=fun e=>by subst e;exact (List.Nodup.not_mem_erase hg) hk
   omega)
  rw [List.length_erase] at h1
  split at h1 <;> omega
theorem Ox {n:Nat} {g:List Int} (hg:g.Nodup) (h:∀ k ∈ g,0≤k∧k<n) (hl:n≤g.length):∀ i,i<n→(i:Int) ∈ g:=by
 intro i hi
 refine Classical.byContradiction fun hm=>?_
 have:=OJ (n:=n) (g:=(i:Int) :: g) (List.nodup_cons.2 ⟨hm,hg⟩) (fun k hk=>by
  rcases List.mem_cons.1 hk with rfl | hk
  ·omega
  ·exact h k hk)
 rw [List.length_cons] at this
 omega
theorem G7.len {w:GWork} {g:List Int} (h:G7 w g):g.length≤w.Items.length:=OJ h.nd h.bd
theorem G7.end {w:GWork} {g:List Int} (h:G7 w g) (hl:w.Items.length≤g.length):Ur w g = -1 :=
 Nz fun i hi=>by
  unfold BB
  rw [List.contains_iff_mem.2 (Ox h.nd h.bd hl i hi)];rfl
end Go.KB
namespace Go.KB
set_option linter.unusedVariables false
set_option maxRecDepth 100000
def JK (w:GWork) (k:Int):Str:=w.Items[k.toNat]!.Name
theorem jJj {α:Type} {l:List α} {f:α→Bool}:(!l.any fun k=>!f k)=l.all f:=by
 rw [Bool.eq_iff_iff]
 simp
section
variable {N:Nat} (hN:2 ^ 64≤N)
include hN
theorem Y3 {w:GWork} (hw:NH w) {g:List Int} (hg:G7 w g):((gJ N g ((List.range w.Items.length).map (pJ w))).bind fun v=>bM (jU N ((List.range w.Items.length).map (pJ w)) g) N v)=some (Ur w g):=by
  have hii:=hw.i
  obtain ⟨b,hb⟩:∃ b,b=(List.range w.Items.length).map (pJ w):=⟨_,rfl⟩
  have hbl:b.length=w.Items.length:=by rw [hb];simp
  have hbat:∀ i,(h:i<b.length)→b[i]=pJ w i:=fun i h=>by subst hb;simp
  have hbb:∀ l ∈ b,l.length≤1000:=fun l hl=>by
    rw [hb,List.mem_map] at hl
    obtain ⟨i,hi,rfl⟩:=hl
    unfold pJ
    rw [List.length_map]
    have:=hw.a i (List.mem_range.1 hi);omega
  have hgl:=hg.len
  rw [← hb,ord1 hN (by omega) (by omega) hbb,bS]
  have hr:∀ i,(h:i<b.length)→(!(b[i]).any fun k=>!g.contains k)=Z8 w g i:=fun i h=>by rw [hbat i h];rfl
  have hI0:(DU (fun l=>!l.any fun k=>!g.contains k) b = -1∧∀ i,i<w.Items.length→Z8 w g i=false)∨∃ i:Nat,i<w.Items.length∧DU (fun l=>!l.any fun k=>!g.contains k) b=(i:Int)∧Z8 w g i=true∧∀ j,j<i→Z8 w g j=false:=by
    rcases Bc (g:=fun l:List Int=>!l.any fun k=>!g.contains k) (l:=b) with ⟨h1,h2⟩ | ⟨i,hi,h1,h2,h3⟩
    · exact .inl ⟨h1,fun i hi=>by rw [← hr i (by omega)];exact h2 _ (List.getElem_mem _)⟩
    · exact .inr ⟨i,by omega,h1,by rw [← hr i hi];exact h2,fun j hj=>by rw [← hr j (by omega)];exact h3 j hj⟩
  refine EM (f:=jU N b g) (I:=fun v=>(v = -1∧∀ i,i<w.Items.length→BB w g i=false)∨∃ i:Nat,i<w.Items.length∧v=(i:Int)∧Z8 w g i=true∧∀ j,j<i→BB w g j=false) (μ:=fun v=>if v<0 then 0 else b.length+1 - v.toNat) (Ur w g) ?_ N _ ?_ (by split <;> omega)
  · rintro v (⟨rfl,h⟩ | ⟨i,hi,rfl,h1,h2⟩)
    · right
      rw [Nz h]
      unfold jU
      rw [vX,dF (by omega),iP,bS,Bool.false_and,iP]
    · cases hc:g.contains (i:Int) with
      | false =>
        right
        rw [Y2 hi (by unfold BB;rw [hc,h1];rfl) h2]
        unfold jU
        rw [vX,dT (by omega),jm,Ba (by omega) (by omega),bS,hc,Bool.and_false,iP]
      | true =>
        left
        have hsl:WV b ((i+1:Nat):Int) (b.length:Int)=some (b.drop (i+1)):=by
          rw [Ue (by omega) (Nat.le_refl _),List.take_length]
        have hdl:(b.drop (i+1)).length=b.length - (i+1):=List.length_drop
        have h4:jT N g (b.drop (i+1))=some (DU (fun l=>!l.any fun k=>!g.contains k) (b.drop (i+1))):=ord1 hN (by omega) (by omega) (fun l hl=>hbb l (List.mem_of_mem_drop hl))
        have hci:BB w g i=false:=by unfold BB;rw [hc];rfl
        rcases Bc (g:=fun l:List Int=>!l.any fun k=>!g.contains k) (l:=b.drop (i+1)) with ⟨e1,e2⟩ | ⟨r,hr1,e1,e2,e3⟩
        · refine ⟨-1, ?_, .inl ⟨rfl, fun j hj => ?_⟩, ?_⟩
          · unfold jU
            rw [vX,dT (by omega),jm,Ba (by omega) (by omega),bS,hc,Bool.and_self,jm,kN (by omega),hsl,bS,h4,bS,e1];rfl
          · by_cases ej : j < i
            · exact h2 j ej
            · by_cases ej2 : j = i
              · rw [ej2];exact hci
              · unfold BB
                rw [← hr j (by omega)]
                have:b[j]'(by omega) ∈ b.drop (i+1):=by
                  rw [List.mem_drop_iff_getElem]
                  exact ⟨j - (i+1),by omega,by congr 1;omega⟩
                rw [e2 _ this,Bool.and_false]
          · rw [if_pos (by omega),if_neg (by omega)];simp only [Int.toNat_natCast];omega
        · rw [hdl] at hr1
          refine ⟨((i+1+r:Nat):Int),?_,.inr ⟨i+1+r,by omega,rfl,?_,fun j hj=>?_⟩,?_⟩
          · unfold jU
            rw [vX,dT (by omega),jm,Ba (by omega) (by omega),bS,hc,Bool.and_self,jm,kN (by omega),hsl,bS,h4,bS,e1,aO,dF (by omega),iP,BU (n:=1+(r:Int)) (by omega) (by omega),BU (by omega) (by omega)]
            congr 2;omega
          · rw [← hr _ (by omega)]
            rw [List.getElem_drop] at e2;exact e2
          · by_cases ej : j < i
            · exact h2 j ej
            · by_cases ej2 : j = i
              · rw [ej2];exact hci
              · have := e3 (j - (i + 1)) (by omega)
                rw [List.getElem_drop] at this
                unfold BB
                rw [← hr j (by omega)]
                have e:b[j]'(by omega)=b[i+1+(j - (i+1))]'(by omega):=by congr 1;omega
                rw [e,this,Bool.and_false]
          · rw [if_neg (by omega),if_neg (by omega)];simp only [Int.toNat_natCast];omega
  · rcases hI0 with ⟨h1,h2⟩ | ⟨i,hi,h1,h2,h3⟩
    · exact .inl ⟨h1,fun i hi=>by unfold BB;rw [h2 i hi,Bool.and_false]⟩
    · exact .inr ⟨i,hi,h1,h2,fun j hj=>by unfold BB;rw [h3 j hj,Bool.and_false]⟩
theorem Ns {w:GWork} (hw:NH w):qB N w=some (Jw w w.Items.length []):=by
 have hii:=hw.i
 have hlim:lim ≥ 1000000:=by decide
 obtain ⟨b,hb⟩:∃ b,b=(List.range w.Items.length).map (pJ w):=⟨_,rfl⟩
 have hbl:b.length=w.Items.length:=by rw [hb];simp
 have key:∀ k g M,G7 w g→w.Items.length≤g.length+k→k<M→(bM (jv N b) M g).bind (fun o=>Sum.elim (fun l=>some l) (fun r=>some r) o)=some (Jw w k g):=by
  intro k
  induction k with
  | zero =>
   intro g M hg hl hM
   obtain ⟨M,rfl⟩:∃ m,M=m+1:=⟨M - 1,by omega⟩
   have:jv N b g=some (.inr (.inl g)):=by
    unfold jv
    rw [aO,dF (by omega),iP]
   simp only [bM,this];rfl
  | succ k ih =>
   intro g M hg hl hM
   obtain ⟨M,rfl⟩:∃ m,M=m+1:=⟨M - 1,by omega⟩
   have hgl:=hg.len
   by_cases hlt:g.length<w.Items.length
   ·have h1:=Y3 hN hw hg
    rw [← hb] at h1
    have hstep:jv N b g=bif decide (Ur w g<0) then some (.inr (.inr g)) else some (.inl (g ++ [Ur w g])):=by
     unfold jv
     rw [aO,dT (by omega),jm]
     obtain ⟨v5,h2,h3⟩:=Option.bind_eq_some_iff.1 h1
     rw [h2,bS,h3,bS,aO,GX (by rw [List.length_singleton];omega),bS]
    unfold Jw
    by_cases h0:Ur w g<0
    ·rw [dT h0,jm] at hstep
     rw [if_pos h0]
     simp only [bM,hstep];rfl
    ·rw [dF h0,iP] at hstep
     rw [if_neg h0]
     simp only [bM,hstep]
     rcases NC (w:=w) (g:=g) with ⟨h1,_⟩ | ⟨i,hi,h1,h2⟩
     ·omega
     ·rw [h1]
      exact ih _ _ (hg.snoc hi h2) (by rw [List.length_append,List.length_singleton];omega) (by omega)
   ·have:jv N b g=some (.inr (.inl g)):=by
     unfold jv
     rw [aO,dF (by omega),iP]
    unfold Jw
    rw [hg.end (by omega),if_pos (by omega)]
    simp only [bM,this];rfl
 unfold qB
 rw [EI hN hw,bS,← hb]
 exact key _ [] N .nil (by simp) (by omega)
omit hN in
theorem Vm {w:GWork} {g:List Int} (hu:∀ i,i<w.Items.length→BV (ES w) w.Items[i]!.Name=(i:Int)) (hg:G7 w g) {s:Str} {k:Nat} (hk:k<w.Items.length) (hs:BV (ES w) s=(k:Int)) (hn:w.Items[k]!.Name=s):EN (g.map (JK w)) s=g.contains (k:Int):=by
 rw [Bool.eq_iff_iff,Qd,List.contains_iff_mem,List.mem_map]
 constructor
 ·rintro ⟨j,hj,e⟩
  have hb:=hg.bd j hj
  have:=hu j.toNat (by omega)
  unfold JK at e
  rw [e,hs] at this
  have:j=(k:Int):=by omega
  rw [← this];exact hj
 ·intro h
  exact ⟨(k:Int),h,by unfold JK;rw [Int.toNat_natCast];exact hn⟩
theorem KA {w:GWork} (hw:NH w) (hu:∀ i,i<w.Items.length→BV (ES w) w.Items[i]!.Name=(i:Int)) (ha:∀ i,i<w.Items.length→∀ j,j<w.Items[i]!.After.length→EN (ES w) w.Items[i]!.After[j]! = true) {g:List Int} (hg:G7 w g):bM (oN N w (g.map (JK w))) N (-1,0)=some (Ur w g):=by
 have hii:=hw.i
 have hgl:=hg.len
 have hml:(g.map (JK w)).length≤1000:=by rw [List.length_map];omega
 have hcan:∀ i,i<w.Items.length→(!EN (g.map (JK w)) w.Items[i]!.Name&&w.Items[i]!.After.all fun s=>EN (g.map (JK w)) s)=BB w g i:=by
  intro i hi
  unfold BB Z8
  rw [Vm hu hg hi (hu i hi) rfl,jJj]
  congr 1
  unfold pJ
  rw [List.all_map]
  rw [Bool.eq_iff_iff,List.all_eq_true,List.all_eq_true]
  have hpt:∀ s ∈ w.Items[i]!.After,EN (g.map (JK w)) s=g.contains (Ui w s):=by
   intro s hs
   obtain ⟨j,hj,rfl⟩:=List.getElem_of_mem hs
   have h1:=ha i hi j hj
   rw [uD hj] at h1
   obtain ⟨k,h2,h3,h4⟩:=GY h1
   rw [zW] at h2
   rw [Uj h2] at h4
   rw [show Ui w w.Items[i]!.After[j]=(k:Int) from h3]
   exact Vm hu hg h2 h3 h4
  constructor
  ·intro h s hs;have:=h s hs;rw [hpt s hs] at this;exact this
  ·intro h s hs;have:=h s hs;rw [hpt s hs];exact this
 have hL1:∀ (i:Nat) (nx:Int),i<w.Items.length→bM (rV N w (g.map (JK w)) (nx,(i:Int))) N (!EN (g.map (JK w)) w.Items[i]!.Name,0)=some (BB w g i):=by
  intro i nx hi
  have hal:=hw.a i hi
  rw [← hcan i hi]
  have:=tu (f:=rV N w (g.map (JK w)) (nx,(i:Int))) (n:=w.Items[i]!.After.length) (N:=N) (fun k=>((!EN (g.map (JK w)) w.Items[i]!.Name)&&(w.Items[i]!.After.take k).all fun s=>EN (g.map (JK w)) s,(k:Int))) ((!EN (g.map (JK w)) w.Items[i]!.Name)&&w.Items[i]!.After.all fun s=>EN (g.map (JK w)) s) (fun k hk=>by
   unfold rV
   simp only []
   rw [iV hi,bS,aO,dT (by omega),jm,List.take_succ_eq_append_getElem hk,List.all_append]
   cases hr:((!EN (g.map (JK w)) w.Items[i]!.Name)&&(w.Items[i]!.After.take k).all fun s=>EN (g.map (JK w)) s) with
   | false =>
    simp only [iP,bS,Bool.false_and]
    rw [kN (by omega),← Bool.and_assoc,hr,Bool.false_and]
   | true =>
    simp only [jm,bS,Bool.true_and]
    rw [iV hk,bS,Y1 hN hml,bS,kN (by omega),← Bool.and_assoc,hr,Bool.true_and,uD hk]
    simp) (by
   unfold rV
   simp only []
   rw [iV hi,bS,aO,dF (by omega),iP,List.take_length]) (by omega)
  simpa using this
 refine EM (f:=oN N w (g.map (JK w))) (I:=fun q=>∃ i:Nat,q.2=(i:Int)∧i≤w.Items.length∧((q.1 = -1∧∀ j,j<i→BB w g j=false)∨(0≤q.1∧q.1=Ur w g))) (μ:=fun q=>w.Items.length - q.2.toNat) (Ur w g) ?_ N _ ⟨0,rfl,Nat.zero_le _,.inl ⟨rfl,fun j hj=>absurd hj (Nat.not_lt_zero _)⟩⟩ (by simp only [Int.toNat_zero];omega)
 rintro ⟨nx,si⟩ ⟨i,hi,hil,h⟩
 simp only at hi h
 subst hi
 by_cases hlt:i<w.Items.length
 ·rcases h with ⟨rfl,h⟩ | ⟨h0,h1⟩
  ·left
   have hstep:oN N w (g.map (JK w)) (-1,(i:Int))=bif BB w g i then some (.inl ((i:Int),((i+1:Nat):Int))) else some (.inl (-1,((i+1:Nat):Int))):=by
    unfold oN
    simp only []
    rw [aO,dT (by omega),aO,dT (by omega),Bool.and_self,jm,iV hlt,bS,Y1 hN hml,bS,hL1 i (-1) hlt,bS,kN (by omega)]
   cases hc:BB w g i with
   | true =>
    rw [hc,jm] at hstep
    exact ⟨_,hstep,⟨i+1,rfl,by omega,.inr ⟨by simp only [];omega,(Y2 hlt hc h).symm⟩⟩,by simp only [Int.toNat_natCast];omega⟩
   | false =>
    rw [hc,iP] at hstep
    refine ⟨_,hstep,⟨i+1,rfl,by omega,.inl ⟨rfl,fun j hj=>?_⟩⟩,by simp only [Int.toNat_natCast];omega⟩
    by_cases e:j=i
    ·subst e;exact hc
    ·exact h j (by omega)
  ·right
   unfold oN
   simp only []
   rw [aO,aO,dF (p:=nx<0) (by omega),Bool.and_false,iP,h1]
 ·right
  have hin:i=w.Items.length:=by omega
  subst hin
  unfold oN
  simp only []
  rw [aO,dF (by omega),Bool.false_and,iP]
  rcases h with ⟨rfl,h⟩ | ⟨h0,h1⟩
  ·rw [Nz h]
  ·rw [h1]
theorem WI {w:GWork} (hw:NH w) (hu:∀ i,i<w.Items.length→BV (ES w) w.Items[i]!.Name=(i:Int)) (ha:∀ i,i<w.Items.length→∀ j,j<w.Items[i]!.After.length→EN (ES w) w.Items[i]!.After[j]! = true):xW N w=some ((Jw w w.Items.length []).map (JK w)):=by
 have hii:=hw.i
 have hlim:lim ≥ 1000000:=by decide
 have key:∀ k g M,G7 w g→w.Items.length≤g.length+k→k<M→bM (kZ N w) M (g.map (JK w))=some ((Jw w k g).map (JK w)):=by
  intro k
  induction k with
  | zero =>
   intro g M hg hl hM
   obtain ⟨M,rfl⟩:∃ m,M=m+1:=⟨M - 1,by omega⟩
   have:kZ N w (g.map (JK w))=some (.inr (g.map (JK w))):=by
    unfold kZ
    rw [KA hN hw hu ha hg,bS,hg.end (by omega)];rfl
   simp only [bM,this];rfl
  | succ k ih =>
   intro g M hg hl hM
   obtain ⟨M,rfl⟩:∃ m,M=m+1:=⟨M - 1,by omega⟩
   have hgl:=hg.len
   rcases NC (w:=w) (g:=g) with ⟨h1,_⟩ | ⟨i,hi,h1,h2⟩
   ·have:kZ N w (g.map (JK w))=some (.inr (g.map (JK w))):=by
     unfold kZ
     rw [KA hN hw hu ha hg,bS,h1];rfl
    unfold Jw
    rw [h1,if_pos (by omega)]
    simp only [bM,this]
   ·have:kZ N w (g.map (JK w))=some (.inl ((g ++ [(i:Int)]).map (JK w))):=by
     unfold kZ
     rw [KA hN hw hu ha hg,bS,h1,aO,dF (by omega),iP,iV hi,bS,GX (by rw [List.length_singleton,List.length_map];omega),bS,List.map_append];rfl
    unfold Jw
    rw [h1,if_neg (by omega)]
    simp only [bM,this]
    exact ih _ _ (hg.snoc hi h2) (by rw [List.length_append,List.length_singleton];omega) (by omega)
 unfold xW
 have:=key w.Items.length [] N .nil (by simp) (by omega)
 have this:bM (kZ N w) N []=_:=this
 rw [this];rfl
end
end Go.KB
namespace Go.KB
set_option linter.unusedVariables false
set_option maxRecDepth 100000
structure ItOk (w:GWork) (x:bU):Prop where
 tr:EN (JJ w) x.iq=true
 m1:1≤x.Modes.length
 m3:x.Modes.length≤3
 md:∀ j,j<x.Modes.length→(1≤x.Modes[j]!.iH∧x.Modes[j]!.iH≤60)∧(0≤x.Modes[j]!.gB∧x.Modes[j]!.gB≤1000)∧x.Modes[j]!.gB≤w.aY[(BV (JJ w) x.iq).toNat]!.gB
 sp:x.Space≠[]→EN (Ld w) x.Space=true
 k:-1≤x.Kind∧x.Kind≤5
 ks:x.Kind ≠ -1→x.Space≠[]
 af:∀ j,j<x.After.length→EN (ES w) x.After[j]! = true∧x.After[j]! ≠ x.Name
structure TT (w:GWork):Prop where
 t6:w.aY.length≤6
 tr:∀ i,i<w.aY.length→vH w.aY[i]!.Name=true∧BV (JJ w) w.aY[i]!.Name=(i:Int)∧(0≤w.aY[i]!.gB∧w.aY[i]!.gB≤1000)∧0≤w.aY[i]!.Ih∧w.aY[i]!.Ih≤1000000
 s12:w.dh.length≤12
 sp:∀ i,i<w.dh.length→vH w.dh[i]!.Name=true∧BV (Ld w) w.dh[i]!.Name=(i:Int)∧∀ j,j<w.dh[i]!.Next.length→EN (Ld w) w.dh[i]!.Next[j]! = true
 e30:w.bD.length≤30
 ex:∀ i,i<w.bD.length→(0≤w.bD[i]!.A∧w.bD[i]!.A≤5)∧(0≤w.bD[i]!.B∧w.bD[i]!.B≤5)∧0≤w.bD[i]!.Reach∧w.bD[i]!.Reach≤2
 SX:w.dm.length≤20
 ou:∀ i,i<w.dm.length→(0≤w.dm[i]!.From∧w.dm[i]!.From≤400)∧(0≤w.dm[i]!.To∧w.dm[i]!.To≤400)∧w.dm[i]!.From<w.dm[i]!.To
 i40:w.Items.length≤40
 it:∀ i,i<w.Items.length→vH w.Items[i]!.Name=true∧BV (ES w) w.Items[i]!.Name=(i:Int)∧ItOk w w.Items[i]!
 hire:0≤w.FN∧w.FN≤1000000000
 late:0≤w.Late∧w.Late≤1000000000
 due:0≤w.Due∧w.Due≤400
 last:0≤w.Last∧w.Last≤400
 ord:w.Items.length≤(Jw w w.Items.length []).length
theorem qY {N:Nat} {x a b:Int}:gW N x a b=some (decide (a≤x∧x≤b)):=by
 unfold gW
 rw [vX,yt,Bool.decide_and]
theorem wd {a b:Int}:(decide (0≤a)&&decide (a≤b))=decide (0≤a∧a≤b):=by rw [Bool.decide_and]
theorem Y4 {l:List Str} {s:Str}:decide (BV l s<0) = !EN l s:=Qc
section
variable {N:Nat} {w:GWork} (hN:2 ^ 64≤N) (hw:NH w)
include hN hw
theorem Us:∃ e,ug N w=some e∧(e=0→w.aY.length≤6∧∀ i,i<w.aY.length→vH w.aY[i]!.Name=true∧BV (JJ w) w.aY[i]!.Name=(i:Int)∧(0≤w.aY[i]!.gB∧w.aY[i]!.gB≤1000)∧0≤w.aY[i]!.Ih∧w.aY[i]!.Ih≤1000000):=by
 have ht:=hw.t
 unfold ug
 rw [jE]
 by_cases h:6<(w.aY.length:Int)
 ·rw [dT h,jm];exact ⟨8,rfl,fun x=>by omega⟩
 ·rw [dF h,iP]
  obtain ⟨o,ho,hc⟩:=AP (f:=oI N w) (N:=N) (n:=w.aY.length) (fun i=>vH w.aY[i]!.Name=true∧BV (JJ w) w.aY[i]!.Name=(i:Int)∧(0≤w.aY[i]!.gB∧w.aY[i]!.gB≤1000)∧0≤w.aY[i]!.Ih∧w.aY[i]!.Ih≤1000000) (fun i hi=>by
   unfold oI
   rw [aO,dT (by omega),jm,iV hi,bS,KC (by omega),bS]
   cases h1:vH w.aY[i]!.Name with
   | false=>exact .inr ⟨4,by omega,rfl⟩
   | true =>
    rw [Bool.not_true,iP,Y0 hN (by omega),bS,rC]
    by_cases h2:BV (JJ w) w.aY[i]!.Name=(i:Int)
    ·rw [dT h2,Bool.not_true,iP,qY,qY,bS]
     by_cases h3:0≤w.aY[i]!.gB∧w.aY[i]!.gB≤1000
     ·by_cases h4 : 0 ≤ w.aY[i]!.Ih ∧ w.aY[i]!.Ih ≤ 1000000
      ·rw [dT h3,dT h4]
       refine .inl ⟨?_,rfl,h2,h3,h4⟩
       show some (Sum.inl (IntKind.i64.wrap ((i:Int)+1)))=_
       rw [kN (by omega)]
      ·rw [dT h3,dF h4];exact .inr ⟨2,by omega,rfl⟩
     ·rw [dF h3];exact .inr ⟨2,by omega,rfl⟩
    ·rw [dF h2];exact .inr ⟨5,by omega,rfl⟩) (by
   unfold oI
   rw [aO,dF (by omega),iP]) (by omega)
  rw [ho,bS]
  rcases hc with ⟨rfl,hp⟩ | ⟨e,he,rfl⟩
  ·exact ⟨0,rfl,fun _=>⟨by omega,hp⟩⟩
  ·exact ⟨e,rfl,fun x=>absurd x he⟩
theorem Ut:∃ e,uh N w=some e∧(e=0→(w.dh.length≤12∧∀ i,i<w.dh.length→vH w.dh[i]!.Name=true∧BV (Ld w) w.dh[i]!.Name=(i:Int)∧∀ j,j<w.dh[i]!.Next.length→EN (Ld w) w.dh[i]!.Next[j]! = true)∧(w.bD.length≤30∧∀ i,i<w.bD.length→(0≤w.bD[i]!.A∧w.bD[i]!.A≤5)∧(0≤w.bD[i]!.B∧w.bD[i]!.B≤5)∧0≤w.bD[i]!.Reach∧w.bD[i]!.Reach≤2)∧w.dm.length≤20∧∀ i,i<w.dm.length→(0≤w.dm[i]!.From∧w.dm[i]!.From≤400)∧(0≤w.dm[i]!.To∧w.dm[i]!.To≤400)∧w.dm[i]!.From<w.dm[i]!.To):=by
  have hs:=hw.s;have he:=hw.e;have ho:=hw.o
  unfold uh
  rw [jE]
  by_cases h:12<(w.dh.length:Int)
  · rw [dT h,jm];exact ⟨8,rfl,fun x=>by omega⟩
  · rw [dF h,iP]
    obtain ⟨o,ho1,hc⟩:=AP (f:=oJ N w) (N:=N) (n:=w.dh.length) (fun i=>vH w.dh[i]!.Name=true∧BV (Ld w) w.dh[i]!.Name=(i:Int)∧∀ j,j<w.dh[i]!.Next.length→EN (Ld w) w.dh[i]!.Next[j]! = true) (fun i hi=>by
      have hn:=hw.n i hi
      unfold oJ
      rw [aO,dT (by omega),jm,iV hi,bS,KC (by omega),bS]
      cases h1:vH w.dh[i]!.Name with
      | false=>exact .inr ⟨4,by omega,rfl⟩
      | true =>
        rw [Bool.not_true,iP,Uo hN (by omega),bS,rC]
        by_cases h2:BV (Ld w) w.dh[i]!.Name=(i:Int)
        · obtain ⟨o,ho2,hc⟩:=AP (f:=oK N w w.dh[i]!) (N:=N) (n:=w.dh[i]!.Next.length) (fun j=>EN (Ld w) w.dh[i]!.Next[j]! = true) (fun j hj=>by
            unfold oK
            rw [aO,dT (by omega),jm,iV hj,bS,Uo hN (by omega),bS,aO,Y4]
            cases EN (Ld w) w.dh[i]!.Next[j]! with
            | false=>exact .inr ⟨6,by omega,rfl⟩
            | true=>rw [Bool.not_true,iP,kN (by omega)];exact .inl ⟨rfl,rfl⟩) (by
            unfold oK
            rw [aO,dF (by omega),iP]) (by omega)
          rw [dT h2,Bool.not_true,iP,ho2,bS]
          rcases hc with ⟨rfl,hp⟩ | ⟨e,he,rfl⟩
          · rw [Sum.elim_inl,kN (by omega)];exact .inl ⟨rfl,rfl,h2,hp⟩
          · exact .inr ⟨e,he,rfl⟩
        · rw [dF h2];exact .inr ⟨5,by omega,rfl⟩) (by
      unfold oJ
      rw [aO,dF (by omega),iP]) (by omega)
    rw [ho1,bS]
    rcases hc with ⟨rfl,hp⟩ | ⟨e,he,rfl⟩
    · rw [Sum.elim_inl,jE]
      by_cases h2:30<(w.bD.length:Int)
      · rw [dT h2,jm];exact ⟨8,rfl,fun x=>by omega⟩
      · rw [dF h2,iP]
        obtain ⟨o,ho1,hc⟩:=AP (f:=oL N w) (N:=N) (n:=w.bD.length) (fun i=>(0≤w.bD[i]!.A∧w.bD[i]!.A≤5)∧(0≤w.bD[i]!.B∧w.bD[i]!.B≤5)∧0≤w.bD[i]!.Reach∧w.bD[i]!.Reach≤2) (fun i hi=>by
          unfold oL
          rw [aO,dT (by omega),jm,iV hi,bS,qY,qY,qY,bS]
          by_cases a:0≤w.bD[i]!.A∧w.bD[i]!.A≤5
          · by_cases b : 0 ≤ w.bD[i]!.B ∧ w.bD[i]!.B ≤ 5
            · by_cases c : 0 ≤ w.bD[i]!.Reach ∧ w.bD[i]!.Reach ≤ 2
              · rw [dT a,dT b,dT c]
                refine .inl ⟨?_,a,b,c⟩
                show some (Sum.inl (IntKind.i64.wrap ((i:Int)+1)))=_
                rw [kN (by omega)]
              · rw [dT a,dT b,dF c];exact .inr ⟨2,by omega,rfl⟩
            · rw [dT a,dF b];exact .inr ⟨2,by omega,rfl⟩
          · rw [dF a];exact .inr ⟨2,by omega,rfl⟩) (by
          unfold oL
          rw [aO,dF (by omega),iP]) (by omega)
        rw [ho1,bS]
        rcases hc with ⟨rfl,hp2⟩ | ⟨e,he,rfl⟩
        · rw [Sum.elim_inl,jE]
          by_cases h3:20<(w.dm.length:Int)
          · rw [dT h3,jm];exact ⟨8,rfl,fun x=>by omega⟩
          · rw [dF h3,iP]
            obtain ⟨o2,ho2,hc2⟩:=AP (f:=oM N w) (N:=N) (n:=w.dm.length) (fun i=>(0≤w.dm[i]!.From∧w.dm[i]!.From≤400)∧(0≤w.dm[i]!.To∧w.dm[i]!.To≤400)∧w.dm[i]!.From<w.dm[i]!.To) (fun i hi=>by
              unfold oM
              rw [aO,dT (by omega),jm,iV hi,bS,qY,qY,bS]
              by_cases a:0≤w.dm[i]!.From∧w.dm[i]!.From≤400
              · by_cases b : 0 ≤ w.dm[i]!.To ∧ w.dm[i]!.To ≤ 400
                · rw [dT a,dT b]
                  by_cases c:w.dm[i]!.To≤w.dm[i]!.From
                  · refine .inr ⟨10, by omega, ?_⟩
                    show (bif (ax .leq w.dm[i]!.To w.dm[i]!.From) then _ else _)=_
                    rw [yt,dT c,jm]
                  · refine .inl ⟨?_, a, b, by omega⟩
                    show (bif (ax .leq w.dm[i]!.To w.dm[i]!.From) then _ else _)=_
                    rw [yt,dF c,iP,kN (by omega)]
                · rw [dT a,dF b];exact .inr ⟨2,by omega,rfl⟩
              · rw [dF a];exact .inr ⟨2,by omega,rfl⟩) (by
              unfold oM
              rw [aO,dF (by omega),iP]) (by omega)
            rw [ho2,bS]
            rcases hc2 with ⟨rfl,hp3⟩ | ⟨e,he,rfl⟩
            · exact ⟨0,rfl,fun _=>⟨⟨by omega,hp⟩,⟨by omega,hp2⟩,by omega,hp3⟩⟩
            · exact ⟨e,rfl,fun x=>absurd x he⟩
        · exact ⟨e,rfl,fun x=>absurd x he⟩
    · exact ⟨e,rfl,fun x=>absurd x he⟩
theorem Y5 {i:Nat} (hi:i<w.Items.length):∃ e,vU N w w.Items[i]! = some e∧(e=0→ItOk w w.Items[i]!):=by
  have ht:=hw.t;have hs:=hw.s;have hii:=hw.i;have hm:=hw.m i hi;have ha:=hw.a i hi
  obtain ⟨x,hx⟩:∃ x,x=w.Items[i]!:=⟨_,rfl⟩
  rw [← hx] at hm ha ⊢
  unfold vU
  rw [Y0 hN (by omega),bS,aO]
  rcases He (l:=JJ w) (s:=x.iq) with ⟨h1,h2⟩ | ⟨t,h1,h2,h3,h4⟩
  · rw [h1];exact ⟨6,rfl,fun x=>by omega⟩
  · rw [yQ] at h1
    rw [h2,dF (by omega),iP,aO,jE]
    by_cases a1:(x.Modes.length:Int)<1
    · rw [dT a1];exact ⟨2,rfl,fun x=>by omega⟩
    · by_cases a2 : 3 < (x.Modes.length : Int)
      · rw [dF a1,dT a2];exact ⟨2,rfl,fun x=>by omega⟩
      · rw [dF a1,dF a2,Bool.or_self,iP]
        obtain ⟨o,ho,hc⟩:=AP (f:=qI N w x (t:Int)) (N:=N) (n:=x.Modes.length) (fun j=>(1≤x.Modes[j]!.iH∧x.Modes[j]!.iH≤60)∧(0≤x.Modes[j]!.gB∧x.Modes[j]!.gB≤1000)∧x.Modes[j]!.gB≤w.aY[t]!.gB) (fun j hj=>by
          unfold qI
          rw [aO,dT (by omega),jm,iV hj,bS,qY,qY,bS]
          by_cases b1:1≤x.Modes[j]!.iH∧x.Modes[j]!.iH≤60
          · by_cases b2 : 0 ≤ x.Modes[j]!.gB ∧ x.Modes[j]!.gB ≤ 1000
            · rw [dT b1, dT b2, iV h1, bS, jE, kN (by omega)]
              by_cases b3:w.aY[t]!.gB<x.Modes[j]!.gB
              · rw [dT b3];exact .inr ⟨23,by omega,rfl⟩
              · rw [dF b3];exact .inl ⟨rfl,b1,b2,by omega⟩
            · rw [dT b1,dF b2];exact .inr ⟨2,by omega,rfl⟩
          · rw [dF b1];exact .inr ⟨2,by omega,rfl⟩) (by
          unfold qI
          rw [aO,dF (by omega),iP]) (by omega)
        rw [ho,bS]
        rcases hc with ⟨rfl,hp⟩ | ⟨e,he,rfl⟩
        · rw [Sum.elim_inl, Jt, Uo hN (by omega)]
          obtain ⟨o2,ho2,hc2⟩:=AP (f:=nX N w x) (N:=N) (n:=x.After.length) (fun j=>EN (ES w) x.After[j]! = true∧x.After[j]! ≠ x.Name) (fun j hj=>by
            unfold nX
            rw [aO,dT (by omega),jm,iV hj,bS,YG hN (by omega),bS,aO,Y4]
            cases EN (ES w) x.After[j]! with
            | false=>exact .inr ⟨6,by omega,rfl⟩
            | true =>
              rw [Bool.not_true,iP,bS,rH,kN (by omega)]
              by_cases c:x.After[j]! = x.Name
              · rw [dT c];exact .inr ⟨3,by omega,rfl⟩
              · rw [dF c];exact .inl ⟨rfl,rfl,c⟩) (by
            unfold nX
            rw [aO,dF (by omega),iP]) (by omega)
          have tail:∀ (sp:Int),(x.Space≠[]→0≤sp→EN (Ld w) x.Space=true)→∃ e:Int,(bif ((!decide (x.Space=([]:Str)))&&(ax .lss sp 0)) then (some 6:Option Int) else ((gW N x.Kind (-1) 5).bind fun v15=>bif (!v15) then (some 2) else (bif ((ax .neq x.Kind (-1))&&(yR .eql x.Space ([]:Str))) then (some 3) else ((bM (nX N w x) N 0).bind fun Zb=>Sum.elim (fun l25=>some 0) (fun r26=>some r26) Zb))))=some e∧(e=0→ItOk w x):=by
            intro sp hsp
            by_cases g:((!decide (x.Space=([]:Str)))&&(ax .lss sp 0))=true
            · rw [g,jm];exact ⟨6,rfl,fun x=>by omega⟩
            · rw [Bool.not_eq_true] at g
              rw [g,iP,qY,bS]
              by_cases c1:-1≤x.Kind∧x.Kind≤5
              · rw [dT c1,Bool.not_true,iP,rC,rH]
                by_cases c3:((!decide (x.Kind = -1))&&decide (x.Space=([]:Str)))=true
                · rw [c3,jm];exact ⟨3,rfl,fun x=>by omega⟩
                · rw [Bool.not_eq_true] at c3
                  rw [c3,iP,ho2,bS]
                  rcases hc2 with ⟨rfl,hp2⟩ | ⟨e,he,rfl⟩
                  · refine ⟨0, rfl, fun _ => ⟨h4, by omega, by omega, ?_, fun hne => hsp hne ?_, c1, fun hk hs => ?_, hp2⟩⟩
                    · rw [h2,Int.toNat_natCast];exact hp
                    · rw [dF hne,aO] at g
                      simp at g;omega
                    · rw [dF hk,dT hs] at c3;cases c3
                  · exact ⟨e,rfl,fun x=>absurd x he⟩
              · rw [dF c1];exact ⟨2,rfl,fun x=>by omega⟩
          by_cases hsp:x.Space=[]
          · rw [dT hsp,Bool.not_true,iP,bS]
            have:=tail 0 (fun h=>absurd hsp h)
            rw [dT hsp,Bool.not_true] at this
            exact this
          · rw [dF hsp,Bool.not_false,jm,bS]
            have:=tail (BV (Ld w) x.Space) (fun _ h=>by
              have h5:=Y4 (l:=Ld w) (s:=x.Space)
              rw [dF (by omega)] at h5
              simpa using h5.symm)
            rw [dF hsp,Bool.not_false] at this
            exact this
        · exact ⟨e,rfl,fun x=>absurd x he⟩
theorem Rl:∃ e,qQ N w=some e∧(e=0→TT w):=by
 have hii:=hw.i
 unfold qQ
 obtain ⟨e1,k1,f1⟩:=Us hN hw
 obtain ⟨e2,k2,f2⟩:=Ut hN hw
 rw [k1,bS,rC]
 by_cases h1:e1=0
 ·rw [dT h1,Bool.not_true,iP,k2,bS,rC]
  by_cases h2:e2=0
  ·rw [dT h2,Bool.not_true,iP,jE]
   by_cases h3:40<(w.Items.length:Int)
   ·rw [dT h3];exact ⟨8,rfl,fun x=>by omega⟩
   ·rw [dF h3,iP]
    obtain ⟨o,ho,hc⟩:=AP (f:=qJ N w) (N:=N) (n:=w.Items.length) (fun i=>vH w.Items[i]!.Name=true∧BV (ES w) w.Items[i]!.Name=(i:Int)∧ItOk w w.Items[i]!) (fun i hi=>by
     obtain ⟨e,g1,g2⟩:=Y5 hN hw hi
     unfold qJ
     rw [aO,dT (by omega),jm,iV hi,bS,KC (by omega),bS]
     cases a1:vH w.Items[i]!.Name with
     | false=>exact .inr ⟨4,by omega,rfl⟩
     | true =>
      rw [Bool.not_true,iP,bS,YG hN (by omega),bS,rC]
      by_cases a2:BV (ES w) w.Items[i]!.Name=(i:Int)
      ·rw [dT a2,Bool.not_true,iP,bS,g1,bS,rC]
       by_cases a3:e=0
       ·rw [dT a3,Bool.not_true,iP,kN (by omega)];exact .inl ⟨rfl,rfl,a2,g2 a3⟩
       ·rw [dF a3];exact .inr ⟨e,a3,rfl⟩
      ·rw [dF a2];exact .inr ⟨5,by omega,rfl⟩) (by
     unfold qJ
     rw [aO,dF (by omega),iP]) (by omega)
    rw [ho,bS]
    rcases hc with ⟨rfl,hp⟩ | ⟨e,he,rfl⟩
    ·rw [Sum.elim_inl,qY,qY,qY,qY,bS]
     by_cases a:0≤w.FN∧w.FN≤1000000000
     ·by_cases b : 0 ≤ w.Late ∧ w.Late ≤ 1000000000
      ·by_cases c : 0 ≤ w.Due ∧ w.Due ≤ 400
       ·by_cases d : 0 ≤ w.Last ∧ w.Last ≤ 400
        ·rw [dT a,dT b,dT c,dT d]
         have hor:=WI hN hw (fun i hi=>(hp i hi).2.1) (fun i hi j hj=>((hp i hi).2.2.af j hj).1)
         show ∃ e:Int,((xW N w).bind fun v22=>bif (ax .lss (List.length v22:Int) (List.length w.Items:Int)) then (some 22) else (some 0))=some e∧_
         rw [hor,bS,aO,List.length_map]
         obtain ⟨q1,q2⟩:=f1 h1
         obtain ⟨⟨r1,r2⟩,⟨r3,r4⟩,r5,r6⟩:=f2 h2
         by_cases g:((Jw w w.Items.length []).length:Int)<(w.Items.length:Int)
         ·rw [dT g];exact ⟨22,rfl,fun x=>by omega⟩
         ·rw [dF g];exact ⟨0,rfl,fun _=>⟨q1,q2,r1,r2,r3,r4,r5,r6,by omega,hp,a,b,c,d,by omega⟩⟩
        ·rw [dT a,dT b,dT c,dF d];exact ⟨2,rfl,fun x=>by omega⟩
       ·rw [dT a,dT b,dF c];exact ⟨2,rfl,fun x=>by omega⟩
      ·rw [dT a,dF b];exact ⟨2,rfl,fun x=>by omega⟩
     ·rw [dF a];exact ⟨2,rfl,fun x=>by omega⟩
    ·exact ⟨e,rfl,fun x=>absurd x he⟩
  ·rw [dF h2];exact ⟨e2,rfl,fun x=>absurd x h2⟩
 ·rw [dF h1];exact ⟨e1,rfl,fun x=>absurd x h1⟩
end
end Go.KB
namespace Go.KB
set_option linter.unusedVariables false
set_option maxRecDepth 100000
theorem Y6 {α:Type} [Inhabited α] {l:List α} {f:α→Bool} (h:∀ j,j<l.length→f l[j]! = false):l.any f=false:=by
 rw [List.any_eq_false]
 intro x hx
 obtain ⟨j,hj,rfl⟩:=List.getElem_of_mem hx
 have:=h j hj
 rw [uD hj] at this
 simp [this]
section
variable {N:Nat} {w:GWork} (hN:2 ^ 64≤N) (hw:NH w) (ok:TT w)
include hN
theorem named_ok {l:List Str} {most:Int} {φ:Int→Option Int} (hl:l.length≤1000) (hm:(l.length:Int)≤most) (h:∀ i,i<l.length→vH l[i]! = true∧BV l l[i]! = (i:Int)∧φ (i:Int)=some 0):rU N l most φ=some 0:=by
 unfold rU
 rw [jE,dF (by omega),iP]
 have:=JF (f:=qX N l φ) (N:=N) (n:=l.length) (r:=.inl ()) (fun i hi=>by
  obtain ⟨h1,h2,h3⟩:=h i hi
  unfold qX
  rw [aO,dT (by omega),jm,iV hi,bS,YU (by omega),bS,h1,Bool.not_true,iP,show WV l 0 (i:Int)=some (l.take i) from Ue (a:=0) (Nat.zero_le _) (by omega),bS,EO (by rw [List.length_take];omega) (by omega),bS,Z7 hi h2,iP,h3,bS,kN (by omega)];rfl) (by
  unfold qX
  rw [aO,dF (by omega),iP]) (by omega)
 rw [this];rfl
include hw ok
theorem Lr:jw N w=some (JJ w):=by
 have _:=ok;have ht:=hw.t
 exact WC hN (by omega)
theorem Vo:mM N w=some (Ld w):=by
 have _:=ok;have hs:=hw.s
 exact WE hN (by omega)
theorem U9:lH N w=some (ES w):=by
 have _:=ok;have hi:=hw.i
 exact OG hN (by omega)
theorem Uu {i:Nat} (hi:i<w.Items.length):uX N w w.Items[i]! (ES w)=some 0:=by
 have ht:=hw.t;have hs:=hw.s;have hii:=hw.i;have hm:=hw.m i hi;have ha:=hw.a i hi
 have hx:=(ok.it i hi).2.2
 generalize w.Items[i]! = x at hm ha hx ⊢
 obtain ⟨t,h1,h2,h3⟩:=GY hx.tr
 rw [yQ] at h1
 have hm1:=hx.m1;have hm3:=hx.m3
 unfold uX
 rw [Lr hN hw ok,bS,JA (by rw [yQ];omega) (by omega),bS,show DU (fun y=>decide (x.iq=y)) (JJ w)=(t:Int) from h2,aO,dF (by omega),iP,aO,dF (by omega),jE,dF (by omega),Bool.or_self,iP]
 have l2:=JF (f:=pX N w x (t:Int)) (N:=N) (n:=x.Modes.length) (r:=.inl ()) (fun j hj=>by
  obtain ⟨b1,b2,b3⟩:=hx.md j hj
  rw [h2,Int.toNat_natCast] at b3
  unfold pX
  rw [aO,dT (by omega),jm,iV hj,bS,aO,dF (by omega),jE,dF (by omega),tH,wd,dT b2,iV h1]
  show (bif ax .gtr x.Modes[j]!.gB w.aY[t]!.gB then _ else _)=_
  rw [jE,dF (by omega),iP,kN (by omega)]) (by
  unfold pX
  rw [aO,dF (by omega),iP]) (by omega)
 have l1:=JF (f:=pY N x (ES w)) (N:=N) (n:=x.After.length) (r:=.inl ()) (fun j hj=>by
  obtain ⟨b1,b2⟩:=hx.af j hj
  unfold pY
  rw [aO,dT (by omega),jm,iV hj,bS,EO (by rw [zW];omega) (by omega),bS,b1,Bool.not_true,iP,rH,dF b2,iP,kN (by omega)]) (by
  unfold pY
  rw [aO,dF (by omega),iP]) (by omega)
 have hk:=hx.k
 have g3:(ax .neq x.Kind (-1)&&yR .eql x.Space ([]:Str))=false:=by
  rw [rC,rH]
  by_cases c:x.Kind = -1
  ·rw [dT c];rfl
  ·rw [dF (hx.ks c),Bool.and_false]
 rw [l2,bS,Sum.elim_inl,Jt,Vo hN hw ok]
 by_cases hsp:x.Space=[]
 ·rw [dT hsp]
  simp only [Bool.not_true,iP,bS,Bool.false_and]
  rw [aO,dF (by omega),jE,dF (by omega),Bool.or_self,iP,g3,iP,l1];rfl
 ·rw [dF hsp]
  simp only [Bool.not_false,jm,bS,Bool.true_and]
  rw [EO (by rw [H9];omega) (by omega),bS,hx.sp hsp,Bool.not_true,iP,aO,dF (by omega),jE,dF (by omega),Bool.or_self,iP,g3,iP,l1];rfl
theorem Y7:uf N w=some 0:=by
 have _:=hw
 have he:=ok.e30;have ho:=ok.SX
 unfold uf
 have l2:=JF (f:=oD N w) (N:=N) (n:=w.bD.length) (r:=.inl ()) (fun i hi=>by
  obtain ⟨a,b,c⟩:=ok.ex i hi
  unfold oD
  rw [aO,dT (by omega),jm,iV hi,bS,tH,wd,tH,wd,tH,wd,bS,dT a,dT b,dT c]
  show some (Sum.inl (IntKind.i64.wrap ((i:Int)+1)))=_
  rw [kN (by omega)]) (by
  unfold oD
  rw [aO,dF (by omega),iP]) (by omega)
 have l1:=JF (f:=oG N w) (N:=N) (n:=w.dm.length) (r:=.inl ()) (fun i hi=>by
  obtain ⟨a,b,c⟩:=ok.ou i hi
  unfold oG
  rw [aO,dT (by omega),jm,iV hi,bS,tH,wd,tH,wd,bS,dT a,dT b]
  show (bif (ax .leq w.dm[i]!.To w.dm[i]!.From) then _ else _)=_
  rw [yt,dF (by omega),iP,kN (by omega)]) (by
  unfold oG
  rw [aO,dF (by omega),iP]) (by omega)
 rw [jE,dF (by omega),iP,l2,bS,Sum.elim_inl,jE,dF (by omega),iP,l1];rfl
theorem P6:nO N w=some 0:=by
 have ht:=ok.t6;have hs:=ok.s12;have hii:=ok.i40
 have k1:=named_ok hN (l:=JJ w) (most:=6) (φ:=fun y0=>lM N y0 w) (by rw [yQ];omega) (by rw [yQ];omega) (fun i hi=>by
  rw [yQ] at hi
  obtain ⟨a,b,c,d⟩:=ok.tr i hi
  rw [Yx hi]
  refine ⟨a,b,?_⟩
  show lM N (i:Int) w=_
  unfold lM
  rw [iV hi,bS,tH,wd,dT c,bS,Bool.not_true,Bool.not_false,jm,bS,jm,tH,wd,dT d];rfl)
 have k2:=named_ok hN (l:=Ld w) (most:=12) (φ:=fun y0=>lN N y0 w (Ld w)) (by rw [H9];omega) (by rw [H9];omega) (fun i hi=>by
  rw [H9] at hi
  obtain ⟨a,b,c⟩:=ok.sp i hi
  have hn:=hw.n i hi
  rw [nmW_at hi]
  refine ⟨a,b,?_⟩
  show lN N (i:Int) w (Ld w)=_
  unfold lN
  rw [iV hi,bS,Z5 (p:=fun s=>!EN (Ld w) s) (fun s=>by
   unfold qi
   rw [EO (by rw [H9];omega) (by omega)];rfl) (by omega) (by omega),bS,Y6 (fun j hj=>by rw [c j hj];rfl)];rfl)
 have k4:=named_ok hN (l:=ES w) (most:=40) (φ:=fun y0=>lQ N y0 w (ES w)) (by rw [zW];omega) (by rw [zW];omega) (fun i hi=>by
  rw [zW] at hi
  obtain ⟨a,b,c⟩:=ok.it i hi
  rw [Uj hi]
  refine ⟨a,b,?_⟩
  show lQ N (i:Int) w (ES w)=_
  unfold lQ
  rw [iV hi,bS,Uu hN hw ok hi];rfl)
 unfold nO
 rw [Lr hN hw ok,bS,k1,bS,show ax .neq (0:Int) 0=false from rfl,iP,Vo hN hw ok,bS,k2,bS,show ax .neq (0:Int) 0=false from rfl,iP,Y7 hN hw ok,bS,show ax .neq (0:Int) 0=false from rfl,iP,U9 hN hw ok,bS,k4,bS,show ax .neq (0:Int) 0=false from rfl,iP,tH,tH,tH,tH,bS,wd,wd,wd,wd,dT ok.hire,dT ok.late,dT ok.due,dT ok.last]
 show ((qB N w).bind fun v12=>bif (ax .lss (List.length v12:Int) (List.length w.Items:Int)) then (some 22) else (some 0))=some 0
 rw [Ns hN hw,bS,aO,dF (by have:=ok.ord;omega)];rfl
theorem Nl (h8:w.Items.length≤8) (h60:w.Last≤60):rQ N w=some 0:=by
 unfold rQ
 rw [P6 hN hw ok,bS,show ax .neq (0:Int) 0=false from rfl,iP,jE,dF (by omega),jE,dF (by omega)];rfl
end
end Go.KB
