/- The library's stable sort: all passes. The library's stable sort: the first blocks, and the whole. Places in order: there is one such order. The reference's selection of the first least piece. The nodes of a tree are counted. No condition. -/
import Derived.Test.YtehmpjjbmldcnaaPZt
namespace Go.KB
set_option linter.unusedVariables false
section
variable {L0:List ah} {φ:GR} {c:ah→ah→Int} (hφ:∀ x y,φ x y=some (c x y)) (hc:∀ x y,decide (c x y<0)=decide (x.piece<y.piece)) (hL:L0.length<1000000)
include hφ hc hL in
theorem TI {N:Nat} (hN:4000000≤N):∀ (w bs M:Nat) (π:Nat→Nat),L0.length - bs≤w→0<bs→bs<2000000→w<M→Iw L0 π bs L0.length 0 →
    ∃ π',aX (di N (L0.length:Int) φ) M (bD L0 π,(bs:Int))=some (bD L0 π')∧KN L0 π' 0 L0.length:=by
  intro w
  induction w with
  | zero =>
    intro bs M π h1 h2 h0 h3 h4
    obtain ⟨M,rfl⟩:∃ x,M=x+1:=⟨M - 1,by omega⟩
    have:di N (L0.length:Int) φ (bD L0 π,(bs:Int))=some (.inr (bD L0 π)):=by
      unfold di
      simp only []
      rw [aW,dF (by omega),iT]
    exact ⟨π,by rw [aX,this],by cases h4 with | last x y z=>exact z | cons x y z=>omega⟩
  | succ w ih =>
    intro bs M π h1 h2 h0 h3 h4
    obtain ⟨M,rfl⟩:∃ x,M=x+1:=⟨M - 1,by omega⟩
    by_cases q:bs<L0.length
    · obtain ⟨ρ, p1, _, p3⟩ := Xm hφ hc hL hN h2 q (bD L0 π) L0.length 0 N π (by omega) (by omega) h4
      have hstep:di N (L0.length:Int) φ (bD L0 π,(bs:Int))=some (.inl (bD L0 ρ,((2 * bs:Nat):Int))):=by
        rw [Nat.zero_add] at p1
        cases ho:aX (cu N (L0.length:Int) φ (bD L0 π,(bs:Int))) N (bD L0 π,((0:Nat):Int),((2 * bs:Nat):Int)) with
        | none=>rw [ho] at p1;cases p1
        | some o =>
          rw [ho,bS] at p1
          have ho:aX (cu N (L0.length:Int) φ (bD L0 π,(bs:Int))) N (bD L0 π,0,((2 * bs:Nat):Int))=some o:=ho
          unfold Eg at p1
          unfold di
          simp only []
          rw [aW,dT (by omega),iP,show (2:Int) * (bs:Int)=((2 * bs:Nat):Int) by omega,jd (n:=((2 * bs:Nat):Int)) (by omega) (by omega),ho,bS,aW,show (bs:Int) * 2=((2 * bs:Nat):Int) by omega,jd (n:=((2 * bs:Nat):Int)) (by omega) (by omega)]
          cases hd:decide (IntKind.i64.wrap (o.2+(bs:Int))<(L0.length:Int)) with
          | true=>rw [hd,iP] at p1;rw [iP,p1];rfl
          | false=>rw [hd,iT] at p1;rw [iT,Option.some.inj p1]
      obtain ⟨π',t1,t2⟩:=ih (2 * bs) M ρ (by omega) (by omega) (by omega) (by omega) p3
      exact ⟨π',by rw [aX,hstep];exact t1,t2⟩
    · have:di N (L0.length:Int) φ (bD L0 π,(bs:Int))=some (.inr (bD L0 π)):=by
        unfold di
        simp only []
        rw [aW,dF (by omega),iT]
      exact ⟨π,by rw [aX,this],by cases h4 with | last x y z=>exact z | cons x y z=>omega⟩
end
end Go.KB
namespace Go.KB
set_option linter.unusedVariables false
theorem MR.blk {L0:List ah} {π ρ:Nat→Nat} {a b:Nat} (h:MR L0 π ρ a b) (hid:∀ k,a≤k→k<b→π k=k):KN L0 ρ a b :=
 ⟨h.so,fun k x y=>by obtain ⟨i,i1,i2,i3⟩:=h.of k x y;rw [i3,hid i i1 i2];exact ⟨i1,i2⟩⟩
section
variable {L0:List ah} {φ:GR} {c:ah→ah→Int} (hφ:∀ x y,φ x y=some (c x y)) (hc:∀ x y,decide (c x y<0)=decide (x.piece<y.piece)) (hL:L0.length<1000000)
include hφ hc hL in
theorem TJ {N:Nat} (hN:4000000≤N):∀ (w a M:Nat) (π:Nat→Nat),L0.length - a≤w→w<M→a≤L0.length→(∀ k,a≤k→π k=k) →
    ∃ π',(aX (bZ N (L0.length:Int) φ) M (bD L0 π,(a:Int),((a+20:Nat):Int))).bind (fun o=>eU N o.1 o.2 (L0.length:Int) φ)=some (bD L0 π')∧(∀ k,k<a→π' k=π k)∧Iw L0 π' 20 L0.length a:=by
  intro w
  induction w with
  | zero =>
    intro a M π h1 h2 h3 h4
    obtain ⟨M,rfl⟩:∃ x,M=x+1:=⟨M - 1,by omega⟩
    have hend:bZ N (L0.length:Int) φ (bD L0 π,(a:Int),((a+20:Nat):Int))=some (.inr (bD L0 π,(a:Int))):=by
      unfold bZ
      simp only []
      rw [nZ,dF (by omega),iT]
    obtain ⟨ρ,p1,p2⟩:=CP hφ hc hL (N:=N) (by omega) (π:=π) h3 (Nat.le_refl _) (fun i j x y z=>by rw [h4 i x,h4 j (by omega)];exact y)
    exact ⟨ρ,by rw [aX,hend];exact p1,fun k hk=>p2.out k (by omega),.last (by omega) h3 (p2.blk fun k x _=>h4 k x)⟩
  | succ w ih =>
    intro a M π h1 h2 h3 h4
    obtain ⟨M,rfl⟩:∃ x,M=x+1:=⟨M - 1,by omega⟩
    by_cases q:a+20≤L0.length
    · obtain ⟨ρ, p1, p2⟩ := CP hφ hc hL (N := N) (by omega) (π := π) (a := a) (b := a + 20) (by omega) q (fun i j x y z => by rw [h4 i x, h4 j (by omega)]; exact y)
      have hstep:bZ N (L0.length:Int) φ (bD L0 π,(a:Int),((a+20:Nat):Int))=some (.inl (bD L0 ρ,((a+20:Nat):Int),((a+20+20:Nat):Int))):=by
        unfold bZ
        simp only []
        rw [nZ,dT (by omega),iP,p1,bS,show ((a+20:Nat):Int)+20=((a+20+20:Nat):Int) by omega,jd (by omega) (by omega)]
      have hb:=p2.blk fun k x _=>h4 k x
      obtain ⟨π',t1,t2,t3⟩:=ih (a+20) M ρ (by omega) (by omega) q (fun k hk=>by rw [p2.out k (by omega)];exact h4 k (by omega))
      have hb':KN L0 π' a (a+20):=hb.congr fun k k1 k2=>t2 k k2
      refine ⟨π',by rw [aX,hstep];exact t1,fun k hk=>by rw [t2 k (by omega)];exact p2.out k (by omega),?_⟩
      by_cases g:a+20<L0.length
      · exact .cons g hb' t3
      · exact .last (by omega) h3 (by rw [show L0.length=a+20 by omega];exact hb')
    · have hend:bZ N (L0.length:Int) φ (bD L0 π,(a:Int),((a+20:Nat):Int))=some (.inr (bD L0 π,(a:Int))):=by
        unfold bZ
        simp only []
        rw [nZ,dF (by omega),iT]
      obtain ⟨ρ,p1,p2⟩:=CP hφ hc hL (N:=N) (by omega) (π:=π) h3 (Nat.le_refl _) (fun i j x y z=>by rw [h4 i x,h4 j (by omega)];exact y)
      exact ⟨ρ,by rw [aX,hend];exact p1,fun k hk=>p2.out k (by omega),.last (by omega) h3 (p2.blk fun k x _=>h4 k x)⟩
include hφ hc hL in
theorem MN {N:Nat} (hN:4000000≤N):∃ π',jg N L0 (L0.length:Int) φ=some (bD L0 π')∧KN L0 π' 0 L0.length:=by
 obtain ⟨ρ,p1,_,p3⟩:=TJ hφ hc hL hN L0.length 0 N (fun k=>k) (by omega) (by omega) (Nat.zero_le _) (fun _ _=>rfl)
 obtain ⟨π',t1,t2⟩:=TI hφ hc hL hN L0.length 20 N ρ (by omega) (by omega) (by omega) (by omega) p3
 rw [DY,Nat.zero_add] at p1
 refine ⟨π',?_,t2⟩
 unfold jg
 cases ho:aX (bZ N (L0.length:Int) φ) N (L0,((0:Nat):Int),((20:Nat):Int)) with
 | none=>rw [ho] at p1;cases p1
 | some o =>
  rw [ho,bS] at p1
  have ho:aX (bZ N (L0.length:Int) φ) N (L0,0,20)=some o:=ho
  have t1:aX (di N (L0.length:Int) φ) N (bD L0 ρ,20)=some (bD L0 π'):=t1
  rw [bS,p1,bS,t1];rfl
end
end Go.KB
namespace Go.KB
set_option linter.unusedVariables false
theorem QN {L0:List ah} {u:Nat}:¬ lx L0 u u:=by unfold lx;omega
theorem Xn {L0:List ah} {u v:Nat} (h:lx L0 u v):¬ lx L0 v u:=by unfold lx at *;omega
end Go.KB
namespace Go.KB
set_option linter.unusedVariables false
theorem Zy {L0:List ah}:∀ {m l:List Nat},l.Pairwise (lx L0)→m.Pairwise (lx L0)→(∀ z,z ∈ l→z ∈ m)→List.Sublist l m:=by
  intro m
  induction m with
  | nil=>intro l _ _ h;cases l with
    | nil=>exact .slnil
    | cons x l=>have:=h x List.mem_cons_self;cases this
  | cons y m ih =>
    intro l hl hm h
    obtain ⟨m1,m2⟩:=List.pairwise_cons.1 hm
    cases l with
    | nil=>exact List.nil_sublist _
    | cons x l =>
      obtain ⟨l1,l2⟩:=List.pairwise_cons.1 hl
      rcases List.mem_cons.1 (h x List.mem_cons_self) with e | e
      · subst e
        refine .cons_cons _ (ih l2 m2 fun z hz=>?_)
        rcases List.mem_cons.1 (h z (List.mem_cons_of_mem _ hz)) with e | e
        · subst e;exact absurd (l1 z hz) QN
        · exact e
      · refine .cons _ (ih hl m2 fun z hz => ?_)
        rcases List.mem_cons.1 (h z hz) with e2 | e2
        · subst e2
          have hx:=m1 x e
          rcases List.mem_cons.1 hz with e3 | e3
          · subst e3;exact absurd hx QN
          · exact absurd (l1 z e3) (Xn hx)
        · exact e2
theorem Xo {L0:List ah} {m l:List Nat} (hl:l.Pairwise (lx L0)) (hm:m.Pairwise (lx L0)) (h:∀ z,z ∈ l→z ∈ m) (hn:l.length=m.length):l=m:=(Zy hl hm h).eq_of_length hn
def LH (x:ah):cO:=⟨x.piece,x.turned,x.xR⟩
instance:Inhabited cO:=⟨⟨0,false,⟨0,0,0,0⟩⟩⟩
instance:Inhabited bg:=⟨⟨0,0,0,0⟩⟩
theorem QR {N:Nat} {l:List cO} {o:List bg} (hl:l.length<1000000):∀ (w i b M:Nat),l.length - i≤w→w<M→i≤l.length→b<l.length→(i≠0→b<i)→(i=0→b=0)→(∀ j,j<i→l[b]!.Piece≤l[j]!.Piece)→(∀ j,j<b→l[b]!.Piece<l[j]!.Piece) →
    ∃ b':Nat,aX (iG N (l,o)) M ((b:Int),(i:Int))=some (b':Int)∧b'<l.length∧(∀ j,j<l.length→l[b']!.Piece≤l[j]!.Piece)∧(∀ j,j<b'→l[b']!.Piece<l[j]!.Piece):=by
  intro w
  induction w with
  | zero =>
    intro i b M h1 h2 h3 h4 _ _ h5 h6
    obtain ⟨M,rfl⟩:∃ x,M=x+1:=⟨M - 1,by omega⟩
    refine ⟨b,?_,h4,fun j hj=>h5 j (by omega),h6⟩
    rw [aX]
    unfold iG
    simp only []
    rw [aW,dF (by omega),iT]
  | succ w ih =>
    intro i b M h1 h2 h3 h4 g1 g2 h5 h6
    obtain ⟨M,rfl⟩:∃ x,M=x+1:=⟨M - 1,by omega⟩
    by_cases q:i<l.length
    · by_cases c : l[i]!.Piece < l[b]!.Piece
      · have hs:iG N (l,o) ((b:Int),(i:Int))=some (.inl ((i:Int),((i+1:Nat):Int))):=by
          unfold iG
          simp only []
          rw [aW,dT (by omega),iP,jK q,bS,jK h4,bS,aW,dT c,iP,lY (by omega)]
        obtain ⟨b',t⟩:=ih (i+1) i M (by omega) (by omega) (by omega) q (fun _=>by omega) (fun x=>by omega) (fun j hj=>by
          by_cases e:j=i
          · subst e;omega
          · have:=h5 j (by omega);omega) (fun j hj=>by have:=h5 j hj;omega)
        exact ⟨b',by rw [aX,hs];exact t.1,t.2⟩
      · have hs:iG N (l,o) ((b:Int),(i:Int))=some (.inl ((b:Int),((i+1:Nat):Int))):=by
          unfold iG
          simp only []
          rw [aW,dT (by omega),iP,jK q,bS,jK h4,bS,aW,dF c,iT,lY (by omega)]
        obtain ⟨b',t⟩:=ih (i+1) b M (by omega) (by omega) (by omega) h4 (fun _=>by by_cases e:i=0 <;> omega) (fun x=>by omega) (fun j hj=>by
          by_cases e:j=i
          · subst e;omega
          · exact h5 j (by omega)) h6
        exact ⟨b',by rw [aX,hs];exact t.1,t.2⟩
    · refine ⟨b, ?_, h4, fun j hj => h5 j (by omega), h6⟩
      rw [aX]
      unfold iG
      simp only []
      rw [aW,dF (by omega),iT]
theorem KJ {α β:Type} [Inhabited α] [Inhabited β] {g:α→β} {I:List α} {j:Nat} (h:j<I.length):(I.map g)[j]! = g I[j]!:=by
 rw [oU (by rw [List.length_map];exact h),List.getElem_map,oU h]
theorem Xp {α:Type} {l:List α} {a b:Nat} (h:a≤b) (hb:b≤l.length):MB l (a:Int) (b:Int)=some ((l.take b).drop a):=by
 unfold MB
 rw [dT (by omega),dT (by omega),dT (by omega)];rfl
theorem Xq:∀ (k:Nat) (I:List Nat),I.Pairwise (· < ·)→(∀ i,i ∈ I→i<k)→I.length≤k:=by
 intro k
 induction k with
 | zero=>intro I _ h;cases I with
  | nil=>exact Nat.le_refl _
  | cons x l=>have:=h x List.mem_cons_self;omega
 | succ k ih =>
  intro I hp h
  have nd:I.Nodup:=hp.imp (fun h=>Nat.ne_of_lt h)
  by_cases hm:k ∈ I
  ·have h5:(I.erase k).length=I.length - 1:=List.length_erase_of_mem hm
   have h6:=ih (I.erase k) (hp.sublist List.erase_sublist) (fun i hi=>by
    have a:=h i (List.mem_of_mem_erase hi)
    have b:i≠k:=by
     intro e;subst e
     exact absurd hi nd.not_mem_erase
    omega)
   omega
  ·have:=ih I hp (fun i hi=>by
    have a:=h i hi
    have b:i≠k:=fun e=>hm (e ▸ hi)
    omega)
   omega
theorem Vw {N:Nat} {L0:List ah} (hL:L0.length<1000000) (hN:1000000≤N):∀ (n:Nat) (I:List Nat) (o:List bg) (M:Nat),I.length=n→n<M→n≤1000000→o.length≤1000000 - n→I.Pairwise (· < ·)→(∀ i,i ∈ I→i<L0.length) →
    ∃ K:List Nat,aX (ja N) M (I.map (fun i=>LH L0[i]!),o)=some (o ++ K.map (fun i=>L0[i]!.xR))∧K.Pairwise (lx L0)∧(∀ z,z ∈ K↔z ∈ I)∧K.length=n:=by
  intro n
  induction n with
  | zero =>
    intro I o M h1 h2 _ _ _ _
    obtain ⟨M,rfl⟩:∃ x,M=x+1:=⟨M - 1,by omega⟩
    obtain rfl:I=[]:=List.length_eq_zero_iff.1 h1
    refine ⟨[],?_,.nil,fun z=>Iff.rfl,rfl⟩
    rw [aX]
    simp [ja]
  | succ n ih =>
    intro I o M h1 h2 hn ho h3 h4
    obtain ⟨M,rfl⟩:∃ x,M=x+1:=⟨M - 1,by omega⟩
    have hIL:I.length≤1000000:=by omega
    have hll:(I.map (fun i=>LH L0[i]!)).length=I.length:=List.length_map _
    have hI0:I.length<1000000:=Nat.lt_of_le_of_lt (Xq L0.length I h3 h4) hL
    obtain ⟨b,b1,b2,b3,b4⟩:=QR (N:=N) (l:=I.map (fun i=>LH L0[i]!)) (o:=o) (by omega) (I.map (fun i=>LH L0[i]!)).length 0 0 N (by omega) (by omega) (Nat.zero_le _) (by omega) (fun h=>absurd rfl h) (fun _=>rfl) (fun j hj=>by omega) (fun j hj=>by omega)
    rw [hll] at b2 b3
    have e1:∀ j,j<I.length→(I.map (fun i=>LH L0[i]!))[j]! = LH L0[I[j]!]!:=fun j hj=>KJ hj
    have b3':∀ j,j<I.length→L0[I[b]!]!.piece≤L0[I[j]!]!.piece:=fun j hj=>by have:=b3 j hj;rw [e1 j hj,e1 b b2] at this;exact this
    have b4':∀ j,j<b→L0[I[b]!]!.piece<L0[I[j]!]!.piece:=fun j hj=>by have:=b4 j hj;rw [e1 j (by omega),e1 b b2] at this;exact this
    have hbn:b<1000000:=by omega
    have hperm:I.take b ++ I.drop (b+1)=I.eraseIdx b:=(List.eraseIdx_eq_take_drop_succ ..).symm
    have hlen:(I.take b ++ I.drop (b+1)).length=n:=by rw [hperm,List.length_eraseIdx];rw [if_pos b2];omega
    have hstep:ja N (I.map (fun i=>LH L0[i]!),o)=some (.inl ((I.take b ++ I.drop (b+1)).map (fun i=>LH L0[i]!),o ++ [L0[I[b]!]!.xR])):=by
      unfold ja
      simp only []
      rw [fE,dT (by omega),iP]
      have b1':aX (iG N (I.map (fun i=>LH L0[i]!),o)) N (0,0)=some (b:Int):=b1
      rw [b1',bS,jK (by omega),bS,qo (by simp only [List.length_singleton,lim];omega),bS,GU (by omega),bS,qo (by simp only [List.length_nil,List.length_take,lim];omega),bS,lY (by omega),Xp (by omega) (by omega),bS,qo (by simp only [List.length_append,List.length_take,List.length_drop,List.length_nil,lim];omega),bS,e1 b b2]
      congr 3
      rw [List.nil_append,List.take_length,List.map_append,List.map_take,List.map_drop]
    obtain ⟨K,k1,k2,k3,k4⟩:=ih (I.take b ++ I.drop (b+1)) (o ++ [L0[I[b]!]!.xR]) M hlen (by omega) (by omega) (by simp only [List.length_append,List.length_singleton];omega) (by rw [hperm];exact h3.sublist (List.eraseIdx_sublist ..)) (fun i hi=>h4 i (by rw [hperm] at hi;exact List.mem_of_mem_eraseIdx hi))
    refine ⟨I[b]! :: K,?_,?_,?_,by rw [List.length_cons,k4]⟩
    · rw [aX,hstep]
      show aX (ja N) M _=_
      rw [k1,List.map_cons,List.append_assoc];rfl
    · refine List.pairwise_cons.2 ⟨fun z hz => ?_, k2⟩
      have hz':=(k3 z).1 hz
      have hI:=List.pairwise_iff_getElem.1 h3
      rcases List.mem_append.1 hz' with hz' | hz'
      · obtain ⟨j,hj,rfl⟩:=List.mem_iff_getElem.1 hz'
        rw [List.length_take] at hj
        rw [List.getElem_take]
        have:=b4' j (by omega)
        rw [oU (show j<I.length by omega)] at this
        exact .inl this
      · obtain ⟨j,hj,rfl⟩:=List.mem_iff_getElem.1 hz'
        rw [List.length_drop] at hj
        rw [List.getElem_drop]
        have t:=b3' (b+1+j) (by omega)
        have u:=hI b (b+1+j) b2 (by omega) (by omega)
        rw [oU (show b+1+j<I.length by omega)] at t
        rw [oU b2] at t ⊢
        unfold lx;omega
    · intro z
      have hd:I=I.take b ++ I[b]! :: I.drop (b+1):=by rw [oU b2,← List.drop_eq_getElem_cons b2,List.take_append_drop]
      constructor
      · intro hz
        rw [hd]
        rcases List.mem_cons.1 hz with e | e
        · exact List.mem_append.2 (.inr (List.mem_cons.2 (.inl e)))
        · rcases List.mem_append.1 ((k3 z).1 e) with e | e
          · exact List.mem_append.2 (.inl e)
          · exact List.mem_append.2 (.inr (List.mem_cons.2 (.inr e)))
      · intro hz
        rw [hd] at hz
        rcases List.mem_append.1 hz with e | e
        · exact List.mem_cons.2 (.inr ((k3 z).2 (List.mem_append.2 (.inl e))))
        · rcases List.mem_cons.1 e with e | e
          · exact List.mem_cons.2 (.inl e)
          · exact List.mem_cons.2 (.inr ((k3 z).2 (List.mem_append.2 (.inr e))))
theorem TB {N:Nat} {L0:List ah} {π:Nat→Nat} (hL:L0.length<1000000) (hN:1000001≤N) (hb:KN L0 π 0 L0.length):aX (ja N) N (L0.map LH,[])=some ((bD L0 π).map (fun x=>x.xR)):=by
 obtain ⟨K,k1,k2,k3,k4⟩:=Vw (N:=N) hL (by omega) L0.length (List.range L0.length) [] N List.length_range (by omega) (by omega) (by simp) List.pairwise_lt_range (fun i hi=>List.mem_range.1 hi)
 have h1:(List.range L0.length).map (fun i=>LH L0[i]!)=L0.map LH:=by
  refine List.ext_getElem (by simp) fun k a b=>?_
  simp only [List.length_map,List.length_range] at a
  simp only [List.getElem_map,List.getElem_range]
  rw [oU a]
 rw [h1,List.nil_append] at k1
 rw [k1]
 congr 1
 have hπ:((List.range L0.length).map π).Pairwise (lx L0):=by
  rw [List.pairwise_map]
  refine List.pairwise_iff_getElem.2 fun i j hi hj hij=>?_
  simp only [List.getElem_range]
  rw [List.length_range] at hi hj
  exact hb.so i j (Nat.zero_le _) hij hj
 have hK:K=(List.range L0.length).map π:=by
  refine (Xo hπ k2 (fun z hz=>?_) (by simp [k4])).symm
  obtain ⟨i,hi,rfl⟩:=List.mem_map.1 hz
  exact (k3 _).2 (List.mem_range.2 (hb.own i (Nat.zero_le _) (List.mem_range.1 hi)).2)
 rw [hK]
 unfold bD
 simp only [List.map_map]
 rfl
end Go.KB
namespace Go.KB
set_option linter.unusedVariables false
instance:Inhabited bV:=⟨⟨0,false,false,0,[],[]⟩⟩
noncomputable def nT (c:bV):Nat:=bV.rec (motive_1:=fun _=>Nat) (motive_2:=fun _=>Nat) (fun _ _ _ _ _ _ a b=>1+a+b) 0 (fun _ _ a b=>a+b) c
noncomputable def Js:List bV→Nat
 | []=>0
 | x :: l=>nT x+Js l
theorem RU (l:List bV):bV.rec_1 (motive_1:=fun _=>Nat) (motive_2:=fun _=>Nat) (fun _ _ _ _ _ _ a b=>1+a+b) 0 (fun _ _ a b=>a+b) l=Js l:=by
 induction l with
 | nil=>rfl
 | cons x l ih =>
  show nT x+_=nT x+Js l
  rw [ih]
theorem Bq (c:bV):nT c=1+Js c.First+Js c.Rest:=by
 cases c with
 | mk p t a at_ f r =>
  show 1+_+_=_
  rw [RU,RU]
theorem KL (c:bV):1≤nT c:=by rw [Bq];omega
theorem PL {l:List bV} {i:Nat} (h:i<l.length):Js (l.drop i)=nT l[i]! + Js (l.drop (i+1)):=by
 rw [List.drop_eq_getElem_cons h,oU h];rfl
theorem Ak (l:List bV):l.length≤Js l:=by
 induction l with
 | nil=>exact Nat.le_refl _
 | cons x l ih=>have:=KL x;show l.length+1≤nT x+Js l;omega
theorem PN {f:Int×Int→Option ((Int×Int) ⊕ Int)} {l:List bV} {m:Nat} (hm:m≤1000000) (hf:∀ n i:Nat,1≤n→i≤n→f ((n:Int),(i:Int))=if i<l.length∧n≤m then (some (.inl ((((n+min (nT l[i]!) (m - n+1)):Nat):Int),((i+1:Nat):Int)))) else some (.inr (n:Int))) :
    ∀ (w s i M:Nat),m+1 - min s (m+1)≤w→w<M→1≤s→i≤min s (m+1)→aX f M (((min s (m+1):Nat):Int),(i:Int))=some ((min (s+Js (l.drop i)) (m+1):Nat):Int):=by
  intro w
  induction w with
  | zero =>
    intro s i M h1 h2 h0 h3
    obtain ⟨M,rfl⟩:∃ x,M=x+1:=⟨M - 1,by omega⟩
    rw [aX,hf _ _ (by omega) h3,if_neg (by omega)]
    show some ((min s (m+1):Nat):Int)=_
    congr 2
    omega
  | succ w ih =>
    intro s i M h1 h2 h0 h3
    obtain ⟨M,rfl⟩:∃ x,M=x+1:=⟨M - 1,by omega⟩
    rw [aX,hf _ _ (by omega) h3]
    by_cases q:i<l.length∧min s (m+1)≤m
    · rw [if_pos q]
      have hp:=KL l[i]!
      have t:=ih (s+nT l[i]!) (i+1) M (by omega) (by omega) (by omega) (by omega)
      rw [show min s (m+1)+min (nT l[i]!) (m - min s (m+1)+1)=min (s+nT l[i]!) (m+1) by omega]
      show aX f M _=_
      rw [t,PL q.1]
      congr 3;omega
    · rw [if_neg q]
      show some ((min s (m+1):Nat):Int)=_
      by_cases e:i<l.length
      · congr 2;omega
      · rw [List.drop_eq_nil_of_le (by omega)]
        rfl
theorem Vb:∀ (m M:Nat),m+2<M→m≤1000000→∀ c,jQ M c (m:Int)=some ((min (nT c) (m+1):Nat):Int):=by
 intro m
 induction m using Nat.strongRecOn with
 | _ m ih =>
  intro M hM hm c
  obtain ⟨M,rfl⟩:∃ x,M=x+1:=⟨M - 1,by omega⟩
  show tZ M (jQ M) c (m:Int)=_
  have hrc:∀ (x:bV) (n:Nat),1≤n→n≤m→jQ M x (IntKind.i64.wrap ((m:Int) - (n:Int)))=some ((min (nT x) (m - n+1):Nat):Int):=fun x n h1 h2=>by
   rw [jd (by omega) (by omega),show (m:Int) - (n:Int)=((m - n:Nat):Int) by omega]
   exact ih (m - n) (by omega) M (by omega) (by omega) x
  have l2:=PN (f:=pV M (jQ M) c (m:Int)) (l:=c.First) (m:=m) hm (fun n i hn hi=>by
   unfold pV
   simp only [aW,nZ]
   by_cases q:i<c.First.length∧n≤m
   ·rw [if_pos q,dT (by omega),dT (by omega),Bool.and_true,iP,jK q.1,bS,hrc _ n hn q.2,bS,lY (by omega),jd (by omega) (by omega)];rfl
   ·rw [if_neg q]
    by_cases q1:i<c.First.length
    ·rw [dF (p:=(n:Int)≤(m:Int)) (by omega),Bool.and_false,iT]
    ·rw [dF (p:=(i:Int)<_) (by omega),Bool.false_and,iT])
  have l1:=PN (f:=pW M (jQ M) c (m:Int)) (l:=c.Rest) (m:=m) hm (fun n i hn hi=>by
   unfold pW
   simp only [aW,nZ]
   by_cases q:i<c.Rest.length∧n≤m
   ·rw [if_pos q,dT (by omega),dT (by omega),Bool.and_true,iP,jK q.1,bS,hrc _ n hn q.2,bS,lY (by omega),jd (by omega) (by omega)];rfl
   ·rw [if_neg q]
    by_cases q1:i<c.Rest.length
    ·rw [dF (p:=(n:Int)≤(m:Int)) (by omega),Bool.and_false,iT]
    ·rw [dF (p:=(i:Int)<_) (by omega),Bool.false_and,iT])
  have a2:=l2 m 1 0 M (by omega) (by omega) (by omega) (by omega)
  have a1:=l1 (m+1) (1+Js c.First) 0 M (by omega) (by omega) (by omega) (by omega)
  rw [show min 1 (m+1)=1 by omega,List.drop_zero] at a2
  rw [List.drop_zero,← Bq] at a1
  have a2:aX (pV M (jQ M) c (m:Int)) M (1,0)=_:=a2
  have a1:aX (pW M (jQ M) c (m:Int)) M (_,0)=_:=a1
  unfold tZ
  rw [a2,bS,a1];rfl
end Go.KB
