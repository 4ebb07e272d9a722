/- The checks of a plate and of a cut's width; the program's order of the rectangles. Shapes: lists of which none is at least as great as another one. Shapes: the least ones of all sets of pieces. Shapes: those of all sets of pieces, computed. Sheets for a set of pieces at the least price: the table. The checks of pieces, plates and width: the program's and the reference's. No condition. -/
import Derived.Test.YtehmpjjbmldcnaaPZv
import Derived.Test.YtehmpjjbmldcnaaPSurvey
import Derived.Test.YtehmpjjbmldcnaaPZa
import Derived.Test.YtehmpjjbmldcnaaKAa
import Derived.Test.YtehmpjjbmldcnaaPZb
namespace Go.KB
set_option linter.unusedVariables false
set_option maxRecDepth 100000
def FM (p:GPlate):Prop:=(1≤p.W∧p.W≤100000)∧(1≤p.H∧p.H≤100000)∧0≤p.Price∧p.Price≤1000000000
instance (p:GPlate):Decidable (FM p):=inferInstanceAs (Decidable ((1≤p.W∧p.W≤100000)∧(1≤p.H∧p.H≤100000)∧0≤p.Price∧p.Price≤1000000000))
theorem Pz {N:Nat} {p:GPlate} (hN:10≤N):mQ N p=some (if FM p then 0 else 2):=by
 unfold mQ
 rw [Bz (by simp) (by simp;omega),bS]
 have e1:[p.W,p.H].all (PD 1 100000)=decide ((1≤p.W∧p.W≤100000)∧(1≤p.H∧p.H≤100000)):=by
  rw [Bool.eq_iff_iff];simp [PD]
 have e2:[p.Price].all (PD 0 1000000000)=decide (0≤p.Price∧p.Price≤1000000000):=by
  rw [Bool.eq_iff_iff];simp [PD]
 rw [e1,Bz (by simp) (by simp;omega),e2]
 by_cases h:(1≤p.W∧p.W≤100000)∧(1≤p.H∧p.H≤100000)
 ·by_cases g : 0 ≤ p.Price ∧ p.Price ≤ 1000000000
  ·rw [dT h,dT g,if_pos ⟨h.1,h.2,g⟩];rfl
  ·rw [dT h,dF g,if_neg (fun x=>g x.2.2)];rfl
 ·rw [dF h,if_neg (fun x=>h ⟨x.1,x.2.1⟩)];rfl
theorem Ir {N:Nat} {p:GPlate}:kK N p=some (if FM p then 0 else 2):=by
 unfold kK kJ
 simp only [jD,nZ,bS,Bool.not_not]
 have e:∀ a b:Prop,[Decidable a]→[Decidable b]→(decide a&&decide b)=decide (a∧b):=fun a b _ _=>by rw [Bool.decide_and]
 simp only [e]
 by_cases h:1≤p.W∧p.W≤100000
 ·by_cases g : 1 ≤ p.H ∧ p.H ≤ 100000
  ·by_cases k : 0 ≤ p.Price ∧ p.Price ≤ 1000000000
   ·rw [dT h,dT g,dT k,if_pos ⟨h,g,k⟩];rfl
   ·rw [dT h,dT g,dF k,if_neg (fun x=>k x.2.2)];rfl
  ·rw [dT h,dF g,if_neg (fun x=>g x.2.1)];rfl
 ·rw [dF h,if_neg (fun x=>h x.1)];rfl
theorem RI {N:Nat} {k:Int}:mJ N k=some (if 0≤k∧k≤100 then 0 else 2):=by
 unfold mJ kJ
 rw [jD,nZ,bS]
 by_cases a:0≤k
 ·by_cases b : k ≤ 100
  ·rw [dT a,dT b,if_pos ⟨a,b⟩];rfl
  ·rw [dT a,dF b,if_neg (fun x=>b x.2)];rfl
 ·rw [dF a,if_neg (fun x=>a x.1)];rfl
theorem cmpC {N:Nat} {x y:ah}:jk N x y=some (if x.piece<y.piece then -1 else if y.piece<x.piece then 1 else 0):=by
 unfold jk
 rw [aW,fE]
 by_cases a:x.piece<y.piece
 ·rw [dT a,if_pos a];rfl
 ·by_cases b : y.piece < x.piece
  ·rw [dF a,dT b,if_neg a,if_pos b];rfl
  ·rw [dF a,dF b,if_neg a,if_neg b];rfl
theorem Zl {N:Nat} {l:List ah} (hl:l.length<1000000) (hN:1000000≤N):aX (lu N l) N ([],0)=some (l.map fun x=>x.xR):=by
 refine PE l (fun x=>x.xR) (fun i hi acc ha=>?_) (fun acc=>?_) (by omega)
 ·unfold lu
  simp only []
  rw [aW,dT (by omega),iP,mO hi,bS,qo (by simp only [List.length_singleton,lim];omega),bS,lY (by omega)]
 ·unfold lu
  simp only []
  rw [aW,dF (by omega),iT]
end Go.KB
namespace Go.KB
set_option linter.unusedVariables false
set_option maxRecDepth 100000
instance:Inhabited af:=⟨⟨0,0,0,false,false,[]⟩⟩
def sle (x y:af):Bool:=decide (x.w≤y.w)&&decide (x.h≤y.h)
theorem Am {x y:af}:sle x y=true↔x.w≤y.w∧x.h≤y.h:=by simp [sle]
theorem Ef {x y z:af} (a:sle x y=true) (b:sle y z=true):sle x z=true:=by
 rw [Am] at *;omega
def keep (l:List af) (s:af):List af:=if (l.any fun x=>sle x s)=true then l else l.filter (fun x=>!sle s x) ++ [s]
def Par (l:List af):Prop:=l.Pairwise fun x y=>sle x y=false∧sle y x=false
theorem Vo {l:List af} {s:af} (h:Par l):Par (keep l s):=by
 unfold keep
 split
 ·exact h
 ·rename_i ha
  unfold Par
  rw [List.pairwise_append]
  refine ⟨h.sublist List.filter_sublist,List.pairwise_singleton _ _,fun x hx y hy=>?_⟩
  rw [List.mem_singleton] at hy
  subst hy
  obtain ⟨h1,h2⟩:=List.mem_filter.1 hx
  refine ⟨?_,by simpa using h2⟩
  cases hs:sle x y with
  | false=>rfl
  | true=>exact absurd (List.any_eq_true.2 ⟨x,h1,hs⟩) ha
theorem Vp {l:List af} {s x:af} (h:x ∈ keep l s):x ∈ l∨x=s:=by
 unfold keep at h
 split at h
 ·exact .inl h
 ·rcases List.mem_append.1 h with h | h
  ·exact .inl (List.mem_filter.1 h).1
  ·exact .inr (List.mem_singleton.1 h)
def FN (l:List af) (s:af):Prop:=∃ x ∈ l,sle x s=true
theorem FN.up {l:List af} {s t:af} (h:FN l s) (k:sle s t=true):FN l t:=let ⟨x,a,b⟩:=h;⟨x,a,Ef b k⟩
theorem PG {l:List af} {s:af}:FN (keep l s) s:=by
 unfold keep
 split
 ·rename_i ha
  obtain ⟨x,h1,h2⟩:=List.any_eq_true.1 ha
  exact ⟨x,h1,h2⟩
 ·exact ⟨s,by simp,by rw [Am];omega⟩
theorem Vq {l:List af} {s t:af} (h:FN l t):FN (keep l s) t:=by
 obtain ⟨x,h1,h2⟩:=h
 by_cases hs:sle s x=true
 ·exact PG.up (Ef hs h2)
 ·unfold keep
  split
  ·exact ⟨x,h1,h2⟩
  ·refine ⟨x,List.mem_append_left _ (List.mem_filter.2 ⟨h1,?_⟩),h2⟩
   cases h:sle s x with
   | false=>rfl
   | true=>exact absurd h hs
theorem Xg {W:Nat}:∀ {l:List af},Par l→(∀ x ∈ l,1≤x.w∧x.w≤W)→l.length≤W:=by
 intro l hp hw
 have h1:(l.map fun x=>x.w.toNat - 1).Nodup:=by
  rw [List.Nodup,List.pairwise_map]
  refine List.Pairwise.imp_of_mem ?_ hp
  intro x y hx hy hxy he
  have h2:=hw x hx;have h3:=hw y hy
  have e:x.w=y.w:=by omega
  have n1:sle x y≠true:=by rw [hxy.1];simp
  have n2:sle y x≠true:=by rw [hxy.2];simp
  rw [Ne,Am] at n1 n2
  omega
 have:=O6 W _ h1 (fun i hi=>by
  obtain ⟨x,hx,rfl⟩:=List.mem_map.1 hi
  have:=hw x hx
  omega)
 simpa using this
theorem sIdx {N:Nat} {l:List af} {φ:af→Option Bool} {p:af→Bool} (hφ:∀ x,φ x=some (p x)) (hl:l.length<1000000) (hN:2 ^ 64≤N) :
    dW N l φ=some (if l.findIdx p<l.length then (l.findIdx p:Int) else -1):=by
  unfold dW
  have hloop:aX (dN N l φ) N 0=some (if l.findIdx p<l.length then Sum.inr (l.findIdx p:Int) else Sum.inl ()):=by
    refine uS l.length _ (fun i=>i≤l.findIdx p) ?_ ?_ (Nat.zero_le _) N (by omega)
    · intro i hi hle
      unfold dN
      rw [aW,dT (by omega),iP,mO hi,bS,hφ,bS]
      by_cases h:p l[i]=true
      · right
        have:l.findIdx p=i:=by
          rcases Nat.lt_or_ge i (l.findIdx p) with h1 | h1
          · rw [List.not_of_lt_findIdx h1] at h;cases h
          · omega
        rw [h,iP,this,if_pos hi]
      · left
        have h:p l[i]=false:=by simpa using h
        refine ⟨by rw [h,iT,lY (by omega)],?_⟩
        rcases Nat.lt_or_ge i (l.findIdx p) with h1 | h1
        · exact h1
        · have : l.findIdx p = i := by omega
          have h2:=List.findIdx_getElem (xs:=l) (p:=p) (w:=by rw [this];exact hi)
          simp only [this] at h2
          rw [h] at h2;cases h2
    · intro hle
      unfold dN
      rw [aW,dF (by omega),iT,if_neg (by omega)]
  rw [hloop,bS]
  split <;> rfl
theorem IX {l:List af} {p:af→Bool}:(l.any p=true)↔l.findIdx p<l.length:=by
 rw [List.findIdx_lt_length,List.any_eq_true]
theorem sCont {N:Nat} {l:List af} {φ:af→Option Bool} {p:af→Bool} (hφ:∀ x,φ x=some (p x)) (hl:l.length<1000000) (hN:2 ^ 64≤N) :
    fA N l φ=some (l.any p):=by
  unfold fA
  rw [sIdx hφ hl hN,bS,jD]
  by_cases h:l.findIdx p<l.length
  · rw [if_pos h,dT (by omega),IX.2 h]
  · rw [if_neg h, dF (by omega)]
    cases ha:l.any p with
    | false=>rfl
    | true=>exact absurd (IX.1 ha) h
theorem NZ {α:Type} {l:List α} {i:Nat} {x:α} (h:i<l.length):(l.set i x).take (i+1)=l.take i ++ [x]:=by
 rw [List.take_set]
 have h2:(l.take (i+1)).length=i+1:=by rw [List.length_take];omega
 rw [List.take_succ_eq_append_getElem h,List.set_append_right _ _ (by rw [List.length_take];omega)]
 rw [List.length_take,Nat.min_eq_left (by omega),Nat.sub_self]
 rfl
theorem sDel {N:Nat} {l:List af} {φ:af→Option Bool} {p:af→Bool} (hφ:∀ x,φ x=some (p x)) (hl:l.length<1000000) (hN:2 ^ 64≤N) :
    gu N l φ=some (l.filter fun x=>!p x):=by
  unfold gu
  rw [sIdx hφ hl hN,bS]
  by_cases h:l.findIdx p<l.length
  · rw [if_pos h, lK, dF (by omega), iT, lY (by omega)]
    -- the state: the first i elements are what is kept of the first j ones,the others are as they were
    have hloop:∃ o,aX (dH N φ) N (l,(l.findIdx p:Int),((l.findIdx p+1:Nat):Int))=some o∧o.1.length=l.length∧∃ i:Nat,o.2=(i:Int)∧i≤l.length∧o.1.take i=l.filter fun x=>!p x:=by
      refine jb (f:=dH N φ) (I:=fun s=>s.1.length=l.length∧∃ i j:Nat,s.2.1=(i:Int)∧s.2.2=(j:Int)∧i<j∧j≤l.length∧s.1.take i=(l.take j).filter (fun x=>!p x)∧∀ m,j≤m→s.1[m]? = l[m]?) (μ:=fun s=>l.length - s.2.2.toNat) (post:=fun o=>o.1.length=l.length∧∃ i:Nat,o.2=(i:Int)∧i≤l.length∧o.1.take i=l.filter fun x=>!p x) ?_ N _ ?_ ?_
      · rintro ⟨s,si,sj⟩ ⟨hs,i,j,hi,hj,hij,hjl,htk,hrest⟩
        simp only at hs hi hj htk hrest
        subst hi;subst hj
        by_cases hjn:j<l.length
        · have hg : s[j]? = some l[j] := by rw [hrest j (Nat.le_refl _), List.getElem?_eq_getElem hjn]
          have hjs:j<s.length:=by omega
          have hgj:s[j]=l[j]:=by rw [List.getElem?_eq_getElem hjs] at hg;exact Option.some.inj hg
          left
          unfold dH
          simp only []
          rw [aW,dT (by omega),iP,mO hjs,bS,hφ,bS,hgj]
          by_cases hp:p l[j]=true
          · refine ⟨(s, (i : Int), ((j + 1 : Nat) : Int)), by rw [hp, Bool.not_true, iT, lY (by omega)], ⟨hs, i, j + 1, rfl, rfl, by omega, by omega, ?_, fun m hm => hrest m (by omega)⟩, ?_⟩
            · rw [List.take_succ_eq_append_getElem hjn,List.filter_append,htk];simp [hp]
            · show l.length - ((j+1:Nat):Int).toNat<l.length - ((j:Nat):Int).toNat
              simp only [Int.toNat_natCast];omega
          · have hp : p l[j] = false := by simpa using hp
            refine ⟨(s.set i l[j],((i+1:Nat):Int),((j+1:Nat):Int)),by rw [hp,Bool.not_false,iP,mO (by omega),bS,lY (by omega),lY (by omega),Int.toNat_natCast],⟨by simpa using hs,i+1,j+1,rfl,rfl,by omega,by omega,?_,fun m hm=>?_⟩,?_⟩
            · show (s.set i l[j]).take (i+1)=_
              rw [NZ (by omega),List.take_succ_eq_append_getElem hjn,List.filter_append,htk];simp [hp]
            · show (s.set i l[j])[m]? = _
              rw [List.getElem?_set_ne (by omega)];exact hrest m (by omega)
            · show l.length - ((j+1:Nat):Int).toNat<l.length - ((j:Nat):Int).toNat
              simp only [Int.toNat_natCast];omega
        · right
          refine ⟨(s,(i:Int)),?_,hs,i,rfl,by omega,?_⟩
          · unfold dH
            simp only []
            rw [aW,dF (by omega),iT]
          · show s.take i=_
            rw [htk,List.take_of_length_le (by omega)]
      · refine ⟨rfl, l.findIdx p, l.findIdx p + 1, rfl, rfl, by omega, by omega, ?_, fun m _ => rfl⟩
        rw [List.take_succ_eq_append_getElem h,List.filter_append]
        have h1:(l.take (l.findIdx p)).filter (fun x=>!p x)=l.take (l.findIdx p):=by
          rw [List.filter_eq_self]
          intro x hx
          obtain ⟨m,hm,rfl⟩:=List.getElem_of_mem hx
          rw [List.length_take] at hm
          rw [List.getElem_take]
          have:=List.not_of_lt_findIdx (xs:=l) (p:=p) (i:=m) (by omega)
          simpa using this
        have h2:p l[l.findIdx p]=true:=List.findIdx_getElem
        rw [h1]
        simp [h2]
      · simp only [];omega
    obtain ⟨⟨o,oi⟩,ho,hol,i,hoi,hi,htk⟩:=hloop
    simp only at hol hoi htk
    subst hoi
    rw [ho,bS]
    simp only []
    have e1:MB o (i:Int) (o.length:Int)=some (o.drop i):=by
      unfold MB
      rw [dT (by omega),dT (by omega),dT (by omega)];simp
    have e2:Nat.beq (Int.toNat (i:Int)+(Int.toNat (o.length:Int) - Int.toNat (i:Int))) o.length=true:=by
      rw [Nat.beq_eq,Int.toNat_natCast,Int.toNat_natCast];omega
    rw [e1,bS,e2,iP,bS,Int.toNat_natCast,Int.toNat_natCast,dT (by omega),dT (by simp;omega),Bool.and_self,iP,bS]
    congr 1
    rw [List.take_append_of_le_length (by simp;omega),List.take_take,Nat.min_self,htk]
  · rw [if_neg h,lK,dT rfl,iP]
    congr 1
    rw [List.filter_eq_self.2]
    intro x hx
    cases hp:p x with
    | false=>rfl
    | true=>exact absurd (List.findIdx_lt_length.2 ⟨x,hx,hp⟩) h
theorem Xh {N:Nat} {l:List af} {s:af} (hl:l.length<1000000) (hN:2 ^ 64≤N):vW N l s=some (keep l s):=by
  have hlim:lim ≥ 10000000:=by decide
  unfold vW keep
  rw [sCont (φ:=fun y0=>oP N y0 s) (p:=fun x=>sle x s) (fun x=>rfl) hl hN,bS]
  by_cases h:(l.any fun x=>sle x s)=true
  · rw [h,iP,if_pos rfl]
  · have h' : (l.any fun x => sle x s) = false := by simpa using h
    rw [h',iT,if_neg (by simp),sDel (φ:=fun y0=>qH N y0 s) (p:=fun x=>sle s x) (fun x=>rfl) hl hN,bS]
    have hf:=List.length_filter_le (fun x=>!sle s x) l
    rw [qo (by rw [List.length_singleton];omega),bS]
end Go.KB
namespace Go.KB
set_option linter.unusedVariables false
set_option maxRecDepth 100000
instance:Inhabited bC:=⟨⟨[],0,0,false⟩⟩
def pc (a:Nat):Nat:=a % 2+a / 2 % 2+a / 4 % 2+a / 8 % 2+a / 16 % 2
theorem zU {p:Nat→Bool} (h:(List.range 32).all p=true) (a:Nat) (ha:a<32):p a=true:=List.all_eq_true.1 h a (List.mem_range.2 ha)
theorem andF (a:Nat) (ha:a<32) (b:Nat) (hb:b<32):iY .and .i64 (a:Int) (b:Int)=((a &&& b:Nat):Int) :=
 of_decide_eq_true (zU (zU (p:=fun a=>(List.range 32).all fun b=>decide (iY .and .i64 (a:Int) (b:Int)=((a &&& b:Nat):Int))) (by decide +kernel) a ha) b hb)
theorem xorF (a:Nat) (ha:a<32) (b:Nat) (hb:b<32):iY .xor .i64 (a:Int) (b:Int)=((a ^^^ b:Nat):Int) :=
 of_decide_eq_true (zU (zU (p:=fun a=>(List.range 32).all fun b=>decide (iY .xor .i64 (a:Int) (b:Int)=((a ^^^ b:Nat):Int))) (by decide +kernel) a ha) b hb)
theorem X6 {N a:Nat} (h:a<32):rP N (IntKind.u64.wrap (a:Int))=some ((pc a:Nat):Int) :=
 of_decide_eq_true (zU (p:=fun a=>decide (rP 0 (IntKind.u64.wrap (a:Int))=some ((pc a:Nat):Int))) (by decide +kernel) a h)
theorem Xi (i:Nat) (h:i<6):yS .i64 1 (i:Int)=some ((2 ^ i:Nat):Int):=by
 match i,h with
 | 0,_=>rfl
 | 1,_=>rfl
 | 2,_=>rfl
 | 3,_=>rfl
 | 4,_=>rfl
 | 5,_=>rfl
theorem KR (m:Nat) (hm:m<32) (x:Nat) (hx:x<32) (y:Nat) (hy:y<32):x &&& m=x→y &&& m=y→y<x→y≤(x - 1) &&& m :=
 of_decide_eq_true (zU (zU (zU (p:=fun m=>(List.range 32).all fun x=>(List.range 32).all fun y=>decide (x &&& m=x→y &&& m=y→y<x→y≤(x - 1) &&& m)) (by decide +kernel) m hm) x hx) y hy)
abbrev SubF (m x:Nat):Prop:=x &&& m=x→x≤m∧(m ^^^ x) &&& x=0∧x &&& (m ^^^ x)=0∧(m ^^^ x) ||| x=m∧x ||| (m ^^^ x)=m∧(m ^^^ x) &&& m=m ^^^ x∧(0<x→m ^^^ x<m)∧(m ^^^ x=0→x=m)∧m ^^^ (m ^^^ x)=x∧(0<x→(x - 1) &&& m<x)∧((x - 1) &&& m) &&& m=(x - 1) &&& m
theorem zx (m:Nat) (hm:m<32) (x:Nat) (hx:x<32):SubF m x :=
 of_decide_eq_true (zU (zU (p:=fun m=>(List.range 32).all fun x=>decide (SubF m x)) (by decide +kernel) m hm) x hx)
abbrev DisF (a b:Nat):Prop:=a &&& b=0→a ||| b=a+b∧b &&& a=0∧(a ||| b) &&& a=a∧a &&& (a ||| b)=a∧(a ||| b) ^^^ a=b∧b ||| a=a ||| b∧(a ||| b) ^^^ b=a∧b &&& (a ||| b)=b∧(0<a→0<b→2≤pc (a ||| b)∧a≠b)
theorem rX (a:Nat) (ha:a<32) (b:Nat) (hb:b<32):DisF a b :=
 of_decide_eq_true (zU (zU (p:=fun a=>(List.range 32).all fun b=>decide (DisF a b)) (by decide +kernel) a ha) b hb)
theorem KT (i:Nat) (h:i<5):pc (2 ^ i)=1∧2 ^ i<32:=by
 match i,h with
 | 0,_=>exact ⟨rfl,by decide⟩
 | 1,_=>exact ⟨rfl,by decide⟩
 | 2,_=>exact ⟨rfl,by decide⟩
 | 3,_=>exact ⟨rfl,by decide⟩
 | 4,_=>exact ⟨rfl,by decide⟩
theorem Pm {n a b:Nat} (ha:a<2 ^ n) (hb:b<2 ^ n):a ||| b<2 ^ n:=Nat.or_lt_two_pow ha hb
inductive Fv (l:List bC) (k:Int):Nat→af→Prop
 | one (i:Nat) (hi:i<l.length):Fv l k (2 ^ i) ⟨l[i]!.W,l[i]!.H,(i:Int),false,false,[]⟩
 | turn (i:Nat) (hi:i<l.length) (ht:l[i]!.Turn=true):Fv l k (2 ^ i) ⟨l[i]!.H,l[i]!.W,(i:Int),true,false,[]⟩
 | beside (a b:Nat) (x y:af):Fv l k a x→Fv l k b y→a &&& b=0→Fv l k (a ||| b) ⟨x.w+k+y.w,max x.h y.h,0,false,false,[x,y]⟩
 | above (a b:Nat) (x y:af):Fv l k a x→Fv l k b y→a &&& b=0→Fv l k (a ||| b) ⟨max x.w y.w,x.h+k+y.h,0,false,true,[x,y]⟩
structure LJ (l:List bC) (k:Int):Prop where
 n5:l.length≤5
 w:∀ i,i<l.length→1≤l[i]!.W∧l[i]!.W≤100000∧1≤l[i]!.H∧l[i]!.H≤100000
 k0:0≤k
 k1:k≤100
theorem uz {n:Nat} (h:n≤5):2 ^ n≤32∧1≤2 ^ n:=⟨Nat.le_trans (Nat.pow_le_pow_right (by decide) h) (by decide),Nat.one_le_two_pow⟩
theorem Fv.pos {l:List bC} {k:Int} (p:LJ l k) {S:Nat} {t:af} (h:Fv l k S t):1≤t.w∧1≤t.h∧0<S∧S<2 ^ l.length:=by
 have hk:=p.k0
 have hn:=uz p.n5
 induction h with
 | one i hi=>have:=p.w i hi;exact ⟨this.1,this.2.2.1,Nat.two_pow_pos i,Nat.pow_lt_pow_right (by decide) hi⟩
 | turn i hi ht=>have:=p.w i hi;exact ⟨this.2.2.1,this.1,Nat.two_pow_pos i,Nat.pow_lt_pow_right (by decide) hi⟩
 | beside a b x y _ _ hd h1 h2 =>
  obtain ⟨d1,_⟩:=rX a (by omega) b (by omega) hd
  exact ⟨by simp only [];omega,by simp only [];omega,by omega,Pm h1.2.2.2 h2.2.2.2⟩
 | above a b x y _ _ hd h1 h2 =>
  obtain ⟨d1,_⟩:=rX a (by omega) b (by omega) hd
  exact ⟨by simp only [];omega,by simp only [];omega,by omega,Pm h1.2.2.2 h2.2.2.2⟩
def N7 (k:Int) (x y:af):af:=⟨x.w+k+y.w,max x.h y.h,0,false,false,[x,y]⟩
def Qc (k:Int) (x y:af):af:=⟨max x.w y.w,x.h+k+y.h,0,false,true,[x,y]⟩
section
variable (l:List bC) (k w h:Int)
def Fz (S:Nat) (r:List af):Prop:=(∀ t ∈ r,Fv l k S t∧t.w≤w∧t.h≤h)∧Par r
def Full (S:Nat) (r:List af):Prop:=Fz l k w h S r∧∀ t,Fv l k S t→t.w≤w→t.h≤h→FN r t
def xZ (r:List af) (s:af):List af:=if s.w≤w∧s.h≤h then keep r s else r
end
section
variable {l:List bC} {k w h:Int}
theorem Fz.len (p:LJ l k) (hw:w≤100000) {S:Nat} {r:List af} (s:Fz l k w h S r):r.length<1000000:=by
 have:=Xg (W:=100000) s.2 (fun x hx=>by have h1:=(s.1 x hx).1.pos p;have h2:=s.1 x hx;omega)
 omega
theorem Fz.add {S:Nat} {r:List af} {s:af} (a:Fz l k w h S r) (b:Fv l k S s):Fz l k w h S (xZ w h r s):=by
 unfold xZ
 split
 ·rename_i hb
  refine ⟨fun t ht=>?_,Vo a.2⟩
  rcases Vp ht with ht | rfl
  ·exact a.1 t ht
  ·exact ⟨b,hb⟩
 ·exact a
theorem yJ {r:List af} {s t:af} (c:FN r t):FN (xZ w h r s) t:=by
 unfold xZ
 split
 ·exact Vq c
 ·exact c
theorem DW {r:List af} {s:af} (a:s.w≤w) (b:s.h≤h):FN (xZ w h r s) s:=by
 unfold xZ
 rw [if_pos ⟨a,b⟩]
 exact PG
theorem Fz.nil {S:Nat}:Fz l k w h S []:=⟨fun t ht=>(by cases ht),List.Pairwise.nil⟩
theorem add_eq {N m:Nat} {g:List (gV af)} {r:List af} {s:af} (hg:g[m]? = some (.own r)) (hr:r.length<1000000) (hN:2 ^ 64≤N) :
    jU N g (m:Int) s w h=some (g.set m (.own (xZ w h r s))):=by
  have hm:=(List.getElem?_eq_some_iff.1 hg).1
  have hgm:g[m] = .own r:=(List.getElem?_eq_some_iff.1 hg).2
  unfold jU xZ
  rw [nZ,nZ]
  by_cases h1:s.w≤w
  · by_cases h2 : s.h ≤ h
    · have e1 : X3 g m = some r := by unfold X3; rw [hg]
      rw [dT h1,dT h2,if_pos ⟨h1,h2⟩,Bool.and_self,iP,mO hm,bS,Int.toNat_natCast,e1,bS,Xh hr hN,bS,mO (by simpa using hm),bS,List.getElem?_set_self hm,bS,List.set_set]
    · rw [dT h1,dF h2,if_neg (fun x=>h2 x.2),Bool.and_false,iT,← hgm,List.set_getElem_self]
  · rw [dF h1,if_neg (fun x=>h1 x.1),Bool.false_and,iT,← hgm,List.set_getElem_self]

def N8 (K m:Nat) (V:Nat→List af) (g:List (gV af)) (r:List af):Prop :=
 g.length=K∧g[m]? = some (.own r)∧∀ s,s<K→s≠m→g[s]? = some (.own (V s))∨(s<m∧g[s]? = some (.fz (V s)))
theorem N8.put {K m:Nat} {V:Nat→List af} {g:List (gV af)} {r r':List af} (x:N8 K m V g r):N8 K m V (g.set m (.own r')) r':=by
 obtain ⟨h1,h2,h3⟩:=x
 have hm:=(List.getElem?_eq_some_iff.1 h2).1
 refine ⟨by simpa using h1,List.getElem?_set_self hm,fun s hs hne=>?_⟩
 rw [List.getElem?_set_ne (Ne.symm hne)];exact h3 s hs hne
theorem N8.read {K m s:Nat} {V:Nat→List af} {g:List (gV af)} {r:List af} (x:N8 K m V g r) (hs:s<m):s<g.length∧rdA g s=some (V s)∧N8 K m V (g.set s (.fz (V s))) r:=by
 obtain ⟨h1,h2,h3⟩:=x
 have hm:=(List.getElem?_eq_some_iff.1 h2).1
 have hsg:s<g.length:=by omega
 refine ⟨hsg,?_,by simpa using h1,?_,fun s' hs' hne=>?_⟩
 ·rw [RD]
  rcases h3 s (by omega) (by omega) with e | ⟨_,e⟩ <;> rw [e] <;> rfl
 ·rw [List.getElem?_set_ne (by omega)];exact h2
 ·by_cases e : s' = s
  ·subst e;right;exact ⟨hs,List.getElem?_set_self hsg⟩
  ·rw [List.getElem?_set_ne (Ne.symm e)];exact h3 s' hs' hne
variable (p:LJ l k) (hw1:w≤100000) (hh1:h≤100000) {N:Nat} (hN:2 ^ 64≤N)
def Cov2 (k w h:Int) (r:List af) (x y:af):Prop:=((N7 k x y).w≤w→(N7 k x y).h≤h→FN r (N7 k x y))∧((Qc k x y).w≤w→(Qc k x y).h≤h→FN r (Qc k x y))
include p hw1 hh1 hN in
theorem sh_L1 {K m a b:Nat} {V:Nat→List af} {g:List (gV af)} {r:List af} {z:List (gV af)} {x:af} {v:List af} (hR:N8 K m V g r) (hs:Fz l k w h m r) (hx:Fv l k a x) (hxb:x.w≤w∧x.h≤h) (hv:Fz l k w h b v) (hd:a &&& b=0) (hm:a ||| b=m) :
    ∃ g' r',aX (lQ N w h k ((m:Int),z) x v) N (0,g)=some g'∧N8 K m V g' r'∧Fz l k w h m r'∧(∀ t,FN r t→FN r' t)∧∀ y ∈ v,Cov2 k w h r' x y:=by
  have hk0:=p.k0;have hk1:=p.k1
  have hvl:=hv.len p hw1
  have hxp:=hx.pos p
  obtain ⟨o, ho, hp⟩ := jb (f := lQ N w h k ((m : Int), z) x v) (I := fun s => ∃ j r1, s.1 = ((j : Nat) : Int) ∧ j ≤ v.length ∧ N8 K m V s.2 r1 ∧ Fz l k w h m r1 ∧ (∀ t, FN r t → FN r1 t) ∧ ∀ i, i < j → Cov2 k w h r1 x v[i]!)
    (μ:=fun s=>v.length - s.1.toNat) (post:=fun g'=>∃ r',N8 K m V g' r'∧Fz l k w h m r'∧(∀ t,FN r t→FN r' t)∧∀ y ∈ v,Cov2 k w h r' x y) (by
    rintro ⟨sj,s⟩ ⟨j,r1,hj,hjl,h1,h2,h3,h4⟩
    simp only at hj h1
    subst hj
    by_cases Zn:j<v.length
    · left
      have hy:Fv l k b v[j]! ∧ v[j]!.w≤w∧v[j]!.h≤h:=hv.1 _ (by rw [oU Zn];exact List.getElem_mem Zn)
      have hyp:=hy.1.pos p
      have e1:IntKind.i64.wrap (IntKind.i64.wrap (x.w+k)+v[j]!.w)=x.w+k+v[j]!.w:=by rw [yM (n:=x.w+k) (by omega) (by omega),yM (by omega) (by omega)]
      have e2:IntKind.i64.wrap (IntKind.i64.wrap (x.h+k)+v[j]!.h)=x.h+k+v[j]!.h:=by rw [yM (n:=x.h+k) (by omega) (by omega),yM (by omega) (by omega)]
      have sb:Fv l k m (N7 k x v[j]!):=by rw [← hm];exact .beside a b _ _ hx hy.1 hd
      have sa:Fv l k m (Qc k x v[j]!):=by rw [← hm];exact .above a b _ _ hx hy.1 hd
      have R1:=h1.put (r':=xZ w h r1 (N7 k x v[j]!))
      have S1:=h2.add sb
      have R2:=R1.put (r':=xZ w h (xZ w h r1 (N7 k x v[j]!)) (Qc k x v[j]!))
      have S2:=S1.add sa
      refine ⟨(((j+1:Nat):Int),(s.set m (gV.own (xZ w h r1 (N7 k x v[j]!)))).set m (gV.own (xZ w h (xZ w h r1 (N7 k x v[j]!)) (Qc k x v[j]!)))),?_,⟨j+1,_,rfl,by omega,R2,S2,fun t c=>yJ (yJ (h3 t c)),fun i hi=>?_⟩,?_⟩
      · unfold lQ
        simp only []
        rw [aW,dT (by omega),iP,jK Zn,bS,e1,e2]
        have q1:=add_eq (s:=N7 k x v[j]!) (w:=w) (h:=h) h1.2.1 (h2.len p hw1) hN
        have q2:=add_eq (s:=Qc k x v[j]!) (w:=w) (h:=h) R1.2.1 (S1.len p hw1) hN
        unfold N7 at q1
        unfold Qc at q2
        rw [q1,bS]
        unfold N7 at q2
        rw [q2,bS,lY (by omega)];rfl
      · by_cases e : i = j
        · subst e;exact ⟨fun c1 c2=>yJ (DW c1 c2),fun c1 c2=>DW c1 c2⟩
        · have := h4 i (by omega)
          exact ⟨fun c1 c2=>yJ (yJ (this.1 c1 c2)),fun c1 c2=>yJ (yJ (this.2 c1 c2))⟩
      · show v.length - ((j+1:Nat):Int).toNat<v.length - ((j:Nat):Int).toNat
        simp only [Int.toNat_natCast];omega
    · right
      refine ⟨s,?_,r1,h1,h2,h3,fun y hy=>?_⟩
      · unfold lQ
        simp only []
        rw [aW,dF (by omega),iT]
      · obtain ⟨i,hi,rfl⟩:=List.getElem_of_mem hy
        have:=h4 i (by omega)
        rwa [oU hi] at this) N (0,g) ⟨0,r,rfl,Nat.zero_le _,hR,hs,fun t c=>c,fun i hi=>absurd hi (Nat.not_lt_zero _)⟩ (by simp only [];omega)
  obtain ⟨r',q1,q2,q3,q4⟩:=hp
  exact ⟨o,r',ho,q1,q2,q3,q4⟩
include p hw1 hh1 hN in
theorem sh_L2 {K m a b:Nat} {V:Nat→List af} {g:List (gV af)} {r:List af} {z z2:List (gV af)} {v:List af} (hR:N8 K m V g r) (hs:Fz l k w h m r) (hv:Fz l k w h a v) (hb:Fz l k w h b (V b)) (hbm:b<m) (hx:iY .xor .i64 (m:Int) (a:Int)=(b:Int)) (hd:a &&& b=0) (hm:a ||| b=m) :
    ∃ g' r',aX (lN N w h k ((m:Int),z) ((a:Int),z2) v) N (0,g)=some g'∧N8 K m V g' r'∧Fz l k w h m r'∧(∀ t,FN r t→FN r' t)∧∀ x ∈ v,∀ y ∈ V b,Cov2 k w h r' x y:=by
  have hvl:=hv.len p hw1
  obtain ⟨o, ho, hp⟩ := jb (f := lN N w h k ((m : Int), z) ((a : Int), z2) v) (I := fun s => ∃ j r1, s.1 = ((j : Nat) : Int) ∧ j ≤ v.length ∧ N8 K m V s.2 r1 ∧ Fz l k w h m r1 ∧ (∀ t, FN r t → FN r1 t) ∧ ∀ i, i < j → ∀ y ∈ V b, Cov2 k w h r1 v[i]! y)
    (μ:=fun s=>v.length - s.1.toNat) (post:=fun g'=>∃ r',N8 K m V g' r'∧Fz l k w h m r'∧(∀ t,FN r t→FN r' t)∧∀ x ∈ v,∀ y ∈ V b,Cov2 k w h r' x y) (by
    rintro ⟨sj,s⟩ ⟨j,r1,hj,hjl,h1,h2,h3,h4⟩
    simp only at hj h1
    subst hj
    by_cases Zn:j<v.length
    · left
      have hxx:Fv l k a v[j]! ∧ v[j]!.w≤w∧v[j]!.h≤h:=hv.1 _ (by rw [oU Zn];exact List.getElem_mem Zn)
      obtain ⟨hbl,hrd,R1⟩:=h1.read hbm
      obtain ⟨g2,r2,k1,k2,k3,k4,k5⟩:=sh_L1 p hw1 hh1 hN (z:=z) R1 h2 hxx.1 hxx.2 hb hd hm
      refine ⟨(((j+1:Nat):Int),g2),?_,⟨j+1,r2,rfl,by omega,k2,k3,fun t c=>k4 t (h3 t c),fun i hi y hy=>?_⟩,?_⟩
      · unfold lN
        simp only []
        rw [aW,dT (by omega),iP,jK Zn,bS,hx,mO hbl,bS,Int.toNat_natCast,hrd,bS,k1,bS,lY (by omega)]
      · by_cases e : i = j
        · subst e;exact k5 y hy
        · have := h4 i (by omega) y hy
          exact ⟨fun c1 c2=>k4 _ (this.1 c1 c2),fun c1 c2=>k4 _ (this.2 c1 c2)⟩
      · show v.length - ((j+1:Nat):Int).toNat<v.length - ((j:Nat):Int).toNat
        simp only [Int.toNat_natCast];omega
    · right
      refine ⟨s,?_,r1,h1,h2,h3,fun x hx y hy=>?_⟩
      · unfold lN
        simp only []
        rw [aW,dF (by omega),iT]
      · obtain ⟨i,hi,rfl⟩:=List.getElem_of_mem hx
        have:=h4 i (by omega) y hy
        rwa [oU hi] at this) N (0,g) ⟨0,r,rfl,Nat.zero_le _,hR,hs,fun t c=>c,fun i hi=>absurd hi (Nat.not_lt_zero _)⟩ (by simp only [];omega)
  obtain ⟨r',q1,q2,q3,q4⟩:=hp
  exact ⟨o,r',ho,q1,q2,q3,q4⟩
include p hw1 hh1 hN in
theorem sh_L3 {K m:Nat} {V:Nat→List af} {g:List (gV af)} {r:List af} {z:List (gV af)} (Jg:m<32) (hm0:0<m) (hR:N8 K m V g r) (hs:Fz l k w h m r) (hV:∀ s,s<m→Fz l k w h s (V s)) :
    ∃ g' r',aX (kH N w h k ((m:Int),z)) N (iY .and .i64 (IntKind.i64.wrap ((m:Int) - 1)) (m:Int),g)=some g'∧N8 K m V g' r'∧Fz l k w h m r'∧(∀ t,FN r t→FN r' t) ∧
      ∀ a,0<a→a<m→a &&& m=a→m ^^^ a<a→∀ x ∈ V a,∀ y ∈ V (m ^^^ a),Cov2 k w h r' x y:=by
  have hnx:∀ x,0<x→x<32→iY .and .i64 (IntKind.i64.wrap ((x:Nat) - 1:Int)) (m:Int)=(((x - 1) &&& m:Nat):Int):=fun x h0 h1=>by
    rw [show ((x:Nat):Int) - 1=((x - 1:Nat):Int) by omega,Zo (by omega),andF _ (by omega) _ Jg]
  have hmm:m &&& m=m:=Nat.and_self m
  obtain ⟨o, ho, hp⟩ := jb (f := kH N w h k ((m : Int), z)) (I := fun s => ∃ a r1, s.1 = ((a : Nat) : Int) ∧ a < m ∧ a &&& m = a ∧ N8 K m V s.2 r1 ∧ Fz l k w h m r1 ∧ (∀ t, FN r t → FN r1 t) ∧ ∀ a', a < a' → a' < m → a' &&& m = a' → m ^^^ a' < a' → ∀ x ∈ V a', ∀ y ∈ V (m ^^^ a'), Cov2 k w h r1 x y)
    (μ:=fun s=>s.1.toNat) (post:=fun g'=>∃ r',N8 K m V g' r'∧Fz l k w h m r'∧(∀ t,FN r t→FN r' t)∧∀ a,0<a→a<m→a &&& m=a→m ^^^ a<a→∀ x ∈ V a,∀ y ∈ V (m ^^^ a),Cov2 k w h r' x y) (by
    rintro ⟨sa,s⟩ ⟨a,r1,ha,ham,hsub,h1,h2,h3,h4⟩
    simp only at ha h1
    subst ha
    by_cases ha0:0<a
    · left
      obtain ⟨f1,f2,f3,f4,f5,f6,f7,f8,f9,f10,f11⟩:=zx m Jg a (by omega) hsub
      have Zp:=xorF m Jg a (by omega)
      have hstep:∀ a',(a - 1) &&& m<a'→a'<m→a' &&& m=a'→a≤a':=fun a' c1 c2 c3=>by
        rcases Nat.lt_or_ge a' a with c | c
        · have := KR m Jg a (by omega) a' (by omega) hsub c3 c
          omega
        · exact c
      by_cases hlt:a<m ^^^ a
      · refine ⟨((((a - 1) &&& m : Nat) : Int), s), ?_, ⟨(a - 1) &&& m, r1, rfl, by have := f10 ha0; omega, f11, h1, h2, h3, fun a' c1 c2 c3 c4 => ?_⟩, ?_⟩
        · unfold kH
          simp only []
          rw [fE,dT (by omega),iP,Zp,aW,dT (by omega),iP,hnx a ha0 (by omega)]
        · have:=hstep a' c1 c2 c3
          by_cases e:a'=a
          · subst e;omega
          · exact h4 a' (by omega) c2 c3 c4
        · show (((a - 1) &&& m:Nat):Int).toNat<((a:Nat):Int).toNat
          have:=f10 ha0
          simp only [Int.toNat_natCast];omega
      · have hne:m ^^^ a≠a:=fun e=>by
          rw [e] at f2
          rw [Nat.and_self] at f2;omega
        obtain ⟨hal,hrd,R1⟩:=h1.read (s:=a) (by omega)
        have hb0:m ^^^ a<m:=f7 ha0
        obtain ⟨g2,r2,k1,k2,k3,k4,k5⟩:=sh_L2 p hw1 hh1 hN (z:=z) (z2:=s) (a:=a) (b:=m ^^^ a) R1 h2 (hV a ham) (hV _ hb0) hb0 Zp f3 f5
        refine ⟨((((a - 1) &&& m:Nat):Int),g2),?_,⟨(a - 1) &&& m,r2,rfl,by have:=f10 ha0;omega,f11,k2,k3,fun t c=>k4 t (h3 t c),fun a' c1 c2 c3 c4 x hx y hy=>?_⟩,?_⟩
        · unfold kH
          simp only []
          rw [fE,dT (by omega),iP,Zp,aW,dF (by omega),iT,mO hal,bS,Int.toNat_natCast,hrd,bS,k1,bS,hnx a ha0 (by omega)]
        · have:=hstep a' c1 c2 c3
          by_cases e:a'=a
          · subst e;exact k5 x hx y hy
          · have := h4 a' (by omega) c2 c3 c4 x hx y hy
            exact ⟨fun c1 c2=>k4 _ (this.1 c1 c2),fun c1 c2=>k4 _ (this.2 c1 c2)⟩
        · show (((a - 1) &&& m:Nat):Int).toNat<((a:Nat):Int).toNat
          have:=f10 ha0
          simp only [Int.toNat_natCast];omega
    · right
      refine ⟨s,?_,r1,h1,h2,h3,fun a' c0 c2 c3 c4=>h4 a' (by omega) c2 c3 c4⟩
      unfold kH
      simp only []
      rw [fE,dF (by omega),iT]) N (iY .and .i64 (IntKind.i64.wrap ((m:Int) - 1)) (m:Int),g) (by
    obtain ⟨f1,f2,f3,f4,f5,f6,f7,f8,f9,f10,f11⟩:=zx m Jg m Jg hmm
    refine ⟨(m - 1) &&& m,r,hnx m hm0 Jg,f10 hm0,f11,hR,hs,fun t c=>c,fun a' c1 c2 c3=>?_⟩
    have:=KR m Jg m Jg a' (by omega) hmm c3 c2
    omega) (by
    show (iY .and .i64 (IntKind.i64.wrap ((m:Int) - 1)) (m:Int)).toNat<N
    rw [hnx m hm0 Jg,Int.toNat_natCast]
    have:=(zx m Jg m Jg hmm).2.2.2.2.2.2.2.2.2.1 hm0
    omega)
  obtain ⟨r',q1,q2,q3,q4⟩:=hp
  exact ⟨o,r',ho,q1,q2,q3,q4⟩
end
end Go.KB
namespace Go.KB
set_option linter.unusedVariables false
set_option maxRecDepth 100000
section
variable {l:List bC} {k w h:Int} (p:LJ l k)
include p in
/- what a set of one piece can be -/
theorem Xj {S:Nat} {t:af} (hs:Fv l k S t) (hp:2≤pc S):∃ a b x y,Fv l k a x∧Fv l k b y∧a &&& b=0∧a ||| b=S∧0<a∧0<b∧a<32∧b<32∧(t=N7 k x y∨t=Qc k x y):=by
 have hn:=uz p.n5
 cases hs with
 | one i hi=>have:=(KT i (by have:=p.n5;omega)).1;omega
 | turn i hi ht=>have:=(KT i (by have:=p.n5;omega)).1;omega
 | beside a b x y h1 h2 hd=>have q1:=h1.pos p;have q2:=h2.pos p;exact ⟨a,b,x,y,h1,h2,hd,rfl,q1.2.2.1,q2.2.2.1,by omega,by omega,.inl rfl⟩
 | above a b x y h1 h2 hd=>have q1:=h1.pos p;have q2:=h2.pos p;exact ⟨a,b,x,y,h1,h2,hd,rfl,q1.2.2.1,q2.2.2.1,by omega,by omega,.inr rfl⟩
include p in
theorem N9 {S:Nat} {t:af} (hs:Fv l k S t) (hp:pc S<2):∃ i,i<l.length∧S=2 ^ i∧(t=⟨l[i]!.W,l[i]!.H,(i:Int),false,false,[]⟩∨l[i]!.Turn=true∧t=⟨l[i]!.H,l[i]!.W,(i:Int),true,false,[]⟩):=by
 have hn:=uz p.n5
 cases hs with
 | one i hi=>exact ⟨i,hi,rfl,.inl rfl⟩
 | turn i hi ht=>exact ⟨i,hi,rfl,.inr ⟨ht,rfl⟩⟩
 | beside a b x y h1 h2 hd =>
  have q1:=h1.pos p;have q2:=h2.pos p
  have:=((rX a (by omega) b (by omega)) hd).2.2.2.2.2.2.2.2 q1.2.2.1 q2.2.2.1
  omega
 | above a b x y h1 h2 hd =>
  have q1:=h1.pos p;have q2:=h2.pos p
  have:=((rX a (by omega) b (by omega)) hd).2.2.2.2.2.2.2.2 q1.2.2.1 q2.2.2.1
  omega
theorem Zq {x y x' y':af} (a:sle x x'=true) (b:sle y y'=true):sle (N7 k x y) (N7 k x' y')=true:=by
 rw [Am] at *;unfold N7;simp only [];omega
theorem Zr {x y x' y':af} (a:sle x x'=true) (b:sle y y'=true):sle (Qc k x y) (Qc k x' y')=true:=by
 rw [Am] at *;unfold Qc;simp only [];omega
theorem Zt {x y:af}:sle (N7 k x y) (N7 k y x)=true:=by
 rw [Am];unfold N7;simp only [];omega
theorem Zu {x y:af}:sle (Qc k x y) (Qc k y x)=true:=by
 rw [Am];unfold Qc;simp only [];omega
include p in
/- a row into which all pairs were put is full -/
theorem full_of {m:Nat} {V:Nat→List af} {r:List af} (hm:m<32) (hp:2≤pc m) (hs:Fz l k w h m r) (hV:∀ s,s<m→Full l k w h s (V s))
  (hc:∀ a,0<a→a<m→a &&& m=a→m ^^^ a<a→∀ x ∈ V a,∀ y ∈ V (m ^^^ a),Cov2 k w h r x y):Full l k w h m r:=by
 refine ⟨hs,fun t ht hw hh=>?_⟩
 have hk:=p.k0
 obtain ⟨a,b,x,y,hx,hy,hd,hm',ha,hb,ha32,EM,ht'⟩:=Xj p ht hp
 obtain ⟨d1,d2,d3,d4,d5,d6,d7,d8,d9⟩:=rX a ha32 b EM hd
 have d9:=(d9 ha hb).2
 have px:=hx.pos p;have py:=hy.pos p
 rw [hm'] at d1 d4 d5 d7 d8
 have bx:x.w≤w∧x.h≤h∧y.w≤w∧y.h≤h:=by
  rcases ht' with rfl | rfl <;> simp only [N7,Qc] at hw hh <;> omega
 obtain ⟨x0,x1,x2⟩:=(hV a (by omega)).2 x hx bx.1 bx.2.1
 obtain ⟨y0,y1,y2⟩:=(hV b (by omega)).2 y hy bx.2.2.1 bx.2.2.2
 have main:Cov2 k w h r x0 y0∨Cov2 k w h r y0 x0:=by
  rcases Nat.lt_or_ge b a with hlt | hge
  ·left
   exact hc a ha (by omega) d4 (by rw [d5];exact hlt) x0 x1 y0 (by rw [d5];exact y1)
  ·right
   exact hc b hb (by omega) d8 (by rw [d7];omega) y0 y1 x0 (by rw [d7];exact x1)
 have key:∀ {u:af},sle u t=true→u.w≤w∧u.h≤h:=fun {u} hu=>by rw [Am] at hu;omega
 rcases ht' with rfl | rfl
 ·have e:=Zq (k:=k) x2 y2
  rcases main with c | c
  ·have g:=key e
   exact (c.1 g.1 g.2).up e
  ·have e:=Ef Zt e
   have g:=key e
   exact (c.1 g.1 g.2).up e
 ·have e:=Zr (k:=k) x2 y2
  rcases main with c | c
  ·have g:=key e
   exact (c.2 g.1 g.2).up e
  ·have e:=Ef Zu e
   have g:=key e
   exact (c.2 g.1 g.2).up e
theorem RP {i j:Nat} (e:2 ^ i=2 ^ j):i=j:=by
 rcases Nat.lt_trichotomy i j with h | h | h
 ·have:=Nat.pow_lt_pow_right (a:=2) (by decide) h;omega
 ·exact h
 ·have:=Nat.pow_lt_pow_right (a:=2) (by decide) h;omega
def Oa (l:List bC) (w h:Int) (i:Nat):List af :=
 if l[i]!.Turn=true then xZ w h (xZ w h [] ⟨l[i]!.W,l[i]!.H,(i:Int),false,false,[]⟩) ⟨l[i]!.H,l[i]!.W,(i:Int),true,false,[]⟩ else xZ w h [] ⟨l[i]!.W,l[i]!.H,(i:Int),false,false,[]⟩
include p in
theorem TF {i:Nat} (hi:i<l.length):Full l k w h (2 ^ i) (Oa l w h i):=by
 have hn:=p.n5
 have s1:Fz l k w h (2 ^ i) (xZ w h [] ⟨l[i]!.W,l[i]!.H,(i:Int),false,false,[]⟩):=Fz.nil.add (.one i hi)
 have hinj:∀ j,j<l.length→2 ^ i=2 ^ j→i=j:=fun j hj e=>RP e
 unfold Oa
 by_cases ht:l[i]!.Turn=true
 ·rw [if_pos ht]
  refine ⟨s1.add (.turn i hi ht),fun t hs hw hh=>?_⟩
  obtain ⟨j,hj,he,hc⟩:=N9 p hs (by have:=(KT i (by omega)).1;omega)
  have:=hinj j hj he
  subst this
  rcases hc with rfl | ⟨_,rfl⟩
  ·exact yJ (DW hw hh)
  ·exact DW hw hh
 ·rw [if_neg ht]
  refine ⟨s1,fun t hs hw hh=>?_⟩
  obtain ⟨j,hj,he,hc⟩:=N9 p hs (by have:=(KT i (by omega)).1;omega)
  have:=hinj j hj he
  subst this
  rcases hc with rfl | ⟨h2,_⟩
  ·exact DW hw hh
  ·exact absurd h2 ht
def PI (K:Nat) (V:Nat→List af) (g:List (gV af)):Prop:=g.length=K∧∀ s,s<K→g[s]? = some (.own (V s))
def upd (V:Nat→List af) (m:Nat) (r:List af):Nat→List af:=fun s=>if s=m then r else V s
theorem PI.set {K m:Nat} {V:Nat→List af} {g:List (gV af)} {r:List af} (x:PI K V g) (hm:m<K):PI K (upd V m r) (g.set m (.own r)):=by
 obtain ⟨h1,h2⟩:=x
 refine ⟨by simpa using h1,fun s hs=>?_⟩
 unfold upd
 by_cases e:s=m
 ·subst e;rw [if_pos rfl,List.getElem?_set_self (by omega)]
 ·rw [if_neg e,List.getElem?_set_ne (Ne.symm e)];exact h2 s hs
def V5 (l:List bC) (w h:Int) (i:Nat):Nat→List af:=fun s=>if ∃ j,j<i∧s=2 ^ j then Oa l w h (Nat.log2 s) else []
theorem RQ {i j:Nat} (hj:j<i):V5 l w h i (2 ^ j)=Oa l w h j:=by
 unfold V5
 rw [if_pos ⟨j,hj,rfl⟩,Nat.log2_two_pow]
theorem MO {i s:Nat} (hs:∀ j,j<i→s≠2 ^ j):V5 l w h i s=[]:=by
 unfold V5
 rw [if_neg]
 rintro ⟨j,hj,e⟩
 exact hs j hj e
theorem RS (i:Nat):upd (V5 l w h i) (2 ^ i) (Oa l w h i)=V5 l w h (i+1):=by
 funext s
 unfold upd
 by_cases e:s=2 ^ i
 ·subst e;rw [if_pos rfl,RQ (Nat.lt_succ_self i)]
 ·rw [if_neg e]
  by_cases c:∃ j,j<i∧s=2 ^ j
  ·obtain ⟨j,hj,rfl⟩:=c
   rw [RQ hj,RQ (by omega)]
  ·rw [MO (fun j hj he=>c ⟨j,hj,he⟩),MO (fun j hj he=>by
    by_cases hji:j=i
    ·subst hji;exact e he
    ·exact c ⟨j,by omega,he⟩)]
variable (hw1:w≤100000) (hh1:h≤100000) {N:Nat} (hN:2 ^ 64≤N)
include p hw1 hN in
theorem sh_L5 {g:List (gV af)} (hg:PI (2 ^ l.length) (V5 l w h 0) g):∃ g',aX (kF N l w h) N (0,g)=some g'∧PI (2 ^ l.length) (V5 l w h l.length) g':=by
  have hn:=p.n5
  have hpow:∀ i,i<l.length→2 ^ i<2 ^ l.length:=fun i hi=>Nat.pow_lt_pow_right (by decide) hi
  obtain ⟨o,ho,hp⟩:=jb (f:=kF N l w h) (I:=fun s=>∃ i,s.1=((i:Nat):Int)∧i≤l.length∧PI (2 ^ l.length) (V5 l w h i) s.2) (μ:=fun s=>l.length - s.1.toNat) (post:=fun g'=>PI (2 ^ l.length) (V5 l w h l.length) g') (by
    rintro ⟨si,s⟩ ⟨i,hi,hil,h1⟩
    simp only at hi h1
    subst hi
    by_cases hlt:i<l.length
    · left
      have hm:=hpow i hlt
      have hg0:s[2 ^ i]? = some (.own []):=by
        rw [h1.2 _ hm,MO (fun j hj e=>by have:=RP e;omega)]
      have e1:=add_eq (s:=⟨l[i]!.W,l[i]!.H,(i:Int),false,false,[]⟩) (w:=w) (h:=h) hg0 (by decide) hN
      have A1:=h1.set (r:=xZ w h [] ⟨l[i]!.W,l[i]!.H,(i:Int),false,false,[]⟩) hm
      have s1:Fz l k w h (2 ^ i) (xZ w h [] ⟨l[i]!.W,l[i]!.H,(i:Int),false,false,[]⟩):=Fz.nil.add (.one i hlt)
      by_cases ht:l[i]!.Turn=true
      · have hg1:=A1.2 _ hm
        unfold upd at hg1
        rw [if_pos rfl] at hg1
        have e2:=add_eq (s:=⟨l[i]!.H,l[i]!.W,(i:Int),true,false,[]⟩) (w:=w) (h:=h) hg1 (s1.len p hw1) hN
        refine ⟨(((i+1:Nat):Int),(s.set (2 ^ i) (gV.own (xZ w h [] ⟨l[i]!.W,l[i]!.H,(i:Int),false,false,[]⟩))).set (2 ^ i) (gV.own (xZ w h (xZ w h [] ⟨l[i]!.W,l[i]!.H,(i:Int),false,false,[]⟩) ⟨l[i]!.H,l[i]!.W,(i:Int),true,false,[]⟩))),?_,⟨i+1,rfl,by omega,?_⟩,?_⟩
        · unfold kF
          simp only []
          rw [aW,dT (by omega),iP,jK hlt,bS,Xi i (by omega),bS,e1,bS,ht,iP,bS,e2,bS,lY (by omega)]
        · rw [List.set_set,← RS]
          have:Oa l w h i=xZ w h (xZ w h [] ⟨l[i]!.W,l[i]!.H,(i:Int),false,false,[]⟩) ⟨l[i]!.H,l[i]!.W,(i:Int),true,false,[]⟩:=by unfold Oa;rw [if_pos ht]
          rw [← this]
          exact h1.set hm
        · show l.length - ((i+1:Nat):Int).toNat<l.length - ((i:Nat):Int).toNat
          simp only [Int.toNat_natCast];omega
      · refine ⟨(((i + 1 : Nat) : Int), s.set (2 ^ i) (gV.own (xZ w h [] ⟨l[i]!.W, l[i]!.H, (i : Int), false, false, []⟩))), ?_, ⟨i + 1, rfl, by omega, ?_⟩, ?_⟩
        · have ht : l[i]!.Turn = false := by simpa using ht
          unfold kF
          simp only []
          rw [aW,dT (by omega),iP,jK hlt,bS,Xi i (by omega),bS,e1,bS,ht,iT,lY (by omega)]
        · rw [← RS]
          have:Oa l w h i=xZ w h [] ⟨l[i]!.W,l[i]!.H,(i:Int),false,false,[]⟩:=by unfold Oa;rw [if_neg ht]
          rw [← this]
          exact h1.set hm
        · show l.length - ((i+1:Nat):Int).toNat<l.length - ((i:Nat):Int).toNat
          simp only [Int.toNat_natCast];omega
    · right
      have:i=l.length:=by omega
      subst this
      refine ⟨s,?_,h1⟩
      unfold kF
      simp only []
      rw [aW,dF (by omega),iT]) N (0,g) ⟨0,rfl,Nat.zero_le _,hg⟩ (by simp only [];omega)
  exact ⟨o,ho,hp⟩
def Wst (l:List bC) (k w h:Int) (K m:Nat) (V:Nat→List af) (g:List (gV af)):Prop :=
 g.length=K∧(∀ s,s<K→g[s]? = some (.own (V s))∨(s<m∧g[s]? = some (.fz (V s))))∧∀ s,s<K→(s<m∨pc s<2→Full l k w h s (V s))∧(m≤s→2≤pc s→V s=[])
include p hw1 hh1 hN in
theorem sh_L4 {g:List (gV af)} {V:Nat→List af} {yZ:List (gV af)} (ho:yZ.length=2 ^ l.length) (hg:Wst l k w h (2 ^ l.length) 0 V g):∃ g' V',aX (kG N w h k yZ) N (0,g)=some g'∧Wst l k w h (2 ^ l.length) (2 ^ l.length) V' g':=by
  have hn:=uz p.n5
  obtain ⟨o,ho,hp⟩:=jb (f:=kG N w h k yZ) (I:=fun s=>∃ m V,s.1=((m:Nat):Int)∧m≤2 ^ l.length∧Wst l k w h (2 ^ l.length) m V s.2) (μ:=fun s=>2 ^ l.length - s.1.toNat) (post:=fun g'=>∃ V',Wst l k w h (2 ^ l.length) (2 ^ l.length) V' g') (by
    rintro ⟨sm,s⟩ ⟨m,V,hm,hml,h1,h2,h3⟩
    simp only at hm h1 h2
    subst hm
    by_cases hlt:m<2 ^ l.length
    · left
      by_cases hpc:pc m<2
      · refine ⟨(((m + 1 : Nat) : Int), s), ?_, ⟨m + 1, V, rfl, by omega, h1, fun s' hs' => ?_, fun s' hs' => ⟨fun c => ?_, fun c1 c2 => ?_⟩⟩, ?_⟩
        · unfold kG
          simp only []
          rw [ho,aW,dT (by omega),iP,X6 (by omega),bS,aW,dT (by omega),iP,lY (by omega)]
        · rcases h2 s' hs' with e | ⟨e1,e2⟩
          · exact .inl e
          · exact .inr ⟨by omega,e2⟩
        · refine (h3 s' hs').1 ?_
          by_cases e:s'=m
          · subst e;exact .inr hpc
          · rcases c with c | c
            · exact .inl (by omega)
            · exact .inr c
        · exact (h3 s' hs').2 (by omega) c2
        · show 2 ^ l.length - ((m+1:Nat):Int).toNat<2 ^ l.length - ((m:Nat):Int).toNat
          simp only [Int.toNat_natCast];omega
      · have hpc : 2 ≤ pc m := by omega
        have hm0:0<m:=by
          rcases Nat.eq_zero_or_pos m with e | e
          · subst e;exact absurd hpc (by decide)
          · exact e
        have hVm:V m=[]:=(h3 m hlt).2 (Nat.le_refl _) hpc
        have hR:N8 (2 ^ l.length) m V s []:=by
          refine ⟨h1,?_,fun s' hs' _=>h2 s' hs'⟩
          rcases h2 m hlt with e | ⟨e,_⟩
          · rw [e,hVm]
          · omega
        obtain ⟨g2,r2,k1,k2,k3,k4,k5⟩:=sh_L3 p hw1 hh1 hN (z:=s) (by omega) hm0 hR Fz.nil (fun s' hs'=>((h3 s' (by omega)).1 (.inl hs')).1)
        have hF:=full_of p (by omega) hpc k3 (fun s' hs'=>(h3 s' (by omega)).1 (.inl hs')) k5
        obtain ⟨q1,q2,q3⟩:=k2
        refine ⟨(((m+1:Nat):Int),g2),?_,⟨m+1,upd V m r2,rfl,by omega,q1,fun s' hs'=>?_,fun s' hs'=>⟨fun c=>?_,fun c1 c2=>?_⟩⟩,?_⟩
        · unfold kG
          simp only []
          rw [ho,aW,dT (by omega),iP,X6 (by omega),bS,aW,dF (by omega),iT,k1,bS,lY (by omega)]
        · unfold upd
          by_cases e:s'=m
          · subst e;rw [if_pos rfl];exact .inl q2
          · rw [if_neg e]
            rcases q3 s' hs' e with c | ⟨c1,c2⟩
            · exact .inl c
            · exact .inr ⟨by omega,c2⟩
        · unfold upd
          by_cases e:s'=m
          · subst e;rw [if_pos rfl];exact hF
          · rw [if_neg e]
            refine (h3 s' hs').1 ?_
            rcases c with c | c
            · exact .inl (by omega)
            · exact .inr c
        · unfold upd
          rw [if_neg (by omega)]
          exact (h3 s' hs').2 (by omega) c2
        · show 2 ^ l.length - ((m+1:Nat):Int).toNat<2 ^ l.length - ((m:Nat):Int).toNat
          simp only [Int.toNat_natCast];omega
    · right
      have:m=2 ^ l.length:=by omega
      subst this
      refine ⟨s,?_,V,h1,h2,h3⟩
      unfold kG
      simp only []
      rw [ho,aW,dF (by omega),iT]) N (0,g) ⟨0,V,rfl,Nat.zero_le _,hg⟩ (by simp only [];omega)
  obtain ⟨V',q⟩:=hp
  exact ⟨o,V',ho,q⟩
theorem Xk:∀ {g:List (gV af)} {V:Nat→List af},(∀ s,s<g.length→g[s]? = some (.own (V s))∨g[s]? = some (.fz (V s)))→allA g=some ((List.range g.length).map V):=by
 intro g
 induction g with
 | nil=>intro V _;rfl
 | cons x g ih =>
  intro V hx
  have h0:=hx 0 (by simp)
  have hv:Tz x=some (V 0):=by
   rcases h0 with e | e <;> · simp at e;subst e;rfl
  have:=ih (V:=fun s=>V (s+1)) (fun s hs=>by
   have:=hx (s+1) (by simpa using hs)
   simpa using this)
  unfold allA
  rw [hv,bS,this,bS,List.length_cons,List.range_succ_eq_map,List.map_cons,List.map_map]
  rfl
include p hw1 hh1 hN in
theorem MJ:∃ V:Nat→List af,oQ N l w h k=some ((List.range (2 ^ l.length)).map V)∧∀ s,s<2 ^ l.length→Full l k w h s (V s):=by
  have hn:=uz p.n5;have h5:=p.n5
  have hlim:lim ≥ 10000000:=by decide
  have hmk:mk (gV.own ([]:List af)) ((2 ^ l.length:Nat):Int) ((2 ^ l.length:Nat):Int)=some (List.replicate (2 ^ l.length) (gV.own [])):=by
    unfold mk
    rw [dT (by omega),dT (by omega),dT (by omega)];rfl
  have hA0:PI (2 ^ l.length) (V5 l w h 0) (List.replicate (2 ^ l.length) (gV.own [])):=by
    refine ⟨by simp,fun s hs=>?_⟩
    rw [List.getElem?_replicate,if_pos hs,MO (fun j hj=>absurd hj (Nat.not_lt_zero _))]
  obtain ⟨g1,e1,A1⟩:=sh_L5 p hw1 hN hA0
  have hW:Wst l k w h (2 ^ l.length) 0 (V5 l w h l.length) g1:=by
    refine ⟨A1.1,fun s hs=>.inl (A1.2 s hs),fun s hs=>⟨fun c=>?_,fun _ c=>?_⟩⟩
    · by_cases e : ∃ j, j < l.length ∧ s = 2 ^ j
      · obtain ⟨j,hj,rfl⟩:=e
        rw [RQ hj];exact TF p hj
      · rw [MO (fun j hj he => e ⟨j, hj, he⟩)]
        refine ⟨Fz.nil,fun t ht _ _=>?_⟩
        have hc:pc s<2:=by
          rcases c with c | c
          · omega
          · exact c
        obtain ⟨i,hi,he,_⟩:=N9 p ht hc
        exact absurd ⟨i,hi,he⟩ e
    · refine MO (fun j hj he => ?_)
      have:=(KT j (by omega)).1
      rw [he] at c;omega
  obtain ⟨g2,V,e2,W2⟩:=sh_L4 p hw1 hh1 hN A1.1 hW
  refine ⟨V,?_,fun s hs=>(W2.2.2 s hs).1 (.inl hs)⟩
  unfold oQ
  rw [Xi _ (by omega),bS,hmk,bS,e1,bS,e2,bS,Xk (V:=V) (fun s hs=>by
    rcases W2.2.1 s (by rw [W2.1] at hs;exact hs) with e | ⟨_,e⟩
    · exact .inl e
    · exact .inr e),bS,W2.1]
end
end Go.KB
namespace Go.KB
set_option linter.unusedVariables false
set_option maxRecDepth 100000
instance:Inhabited GPlate:=⟨⟨0,0,0⟩⟩
instance:Inhabited dR:=⟨⟨0,⟨0,false,false,0,[],[]⟩⟩⟩
instance:Inhabited aN:=⟨⟨0,⟨0,⟨0,false,false,0,[],[]⟩⟩,0,false⟩⟩
def wS (t:af) (c:bV):Prop:=∀ M,100≤M→iR M t=some c
theorem Zv {l:List bC} {k:Int} (p:LJ l k) {S:Nat} {t:af} (h:Fv l k S t):∃ c,∀ M,S≤M→iR M t=some c:=by
 have hn:=uz p.n5
 induction h with
 | one i hi =>
  refine ⟨⟨(i:Int),false,false,0,[],[]⟩,fun M hM=>?_⟩
  obtain ⟨M,rfl⟩:∃ x,M=x+1:=⟨M - 1,by have:=Nat.two_pow_pos i;omega⟩
  rfl
 | turn i hi ht =>
  refine ⟨⟨(i:Int),true,false,0,[],[]⟩,fun M hM=>?_⟩
  obtain ⟨M,rfl⟩:∃ x,M=x+1:=⟨M - 1,by have:=Nat.two_pow_pos i;omega⟩
  rfl
 | beside a b x y hx hy hd h1 h2 =>
  obtain ⟨c,hc⟩:=h1
  obtain ⟨d,hd2⟩:=h2
  have pa:=hx.pos p;have pb:=hy.pos p
  obtain ⟨d1,_⟩:=rX a (by omega) b (by omega) hd
  refine ⟨⟨-1,false,false,x.w,[c],[d]⟩,fun M hM=>?_⟩
  obtain ⟨M,rfl⟩:∃ x,M=x+1:=⟨M - 1,by omega⟩
  show iI M (iR M) _=_
  unfold iI
  simp only []
  rw [show aB .eql (([x,y]:List af).length:Int) 0=false from rfl,iT,show idx [x,y] 0=some x from rfl,show idx [x,y] 1=some y from rfl,bS,iT,bS,hc M (by omega),bS,bS,hd2 M (by omega)];rfl
 | above a b x y hx hy hd h1 h2 =>
  obtain ⟨c,hc⟩:=h1
  obtain ⟨d,hd2⟩:=h2
  have pa:=hx.pos p;have pb:=hy.pos p
  obtain ⟨d1,_⟩:=rX a (by omega) b (by omega) hd
  refine ⟨⟨-1,false,true,x.h,[c],[d]⟩,fun M hM=>?_⟩
  obtain ⟨M,rfl⟩:∃ x,M=x+1:=⟨M - 1,by omega⟩
  show iI M (iR M) _=_
  unfold iI
  simp only []
  rw [show aB .eql (([x,y]:List af).length:Int) 0=false from rfl,iT,show idx [x,y] 0=some x from rfl,show idx [x,y] 1=some y from rfl,bS,iP,bS,bS,hc M (by omega),bS,bS,hd2 M (by omega)];rfl
theorem wS.of {l:List bC} {k:Int} (p:LJ l k) {S:Nat} {t:af} (h:Fv l k S t):∃ c,wS t c:=by
 obtain ⟨c,hc⟩:=Zv p h
 have:=h.pos p;have hn:=uz p.n5
 exact ⟨c,fun M hM=>hc M (by omega)⟩
def Fit (l:List bC) (k:Int) (q:GPlate) (S:Nat) (c:bV):Prop:=∃ t,Fv l k S t∧t.w≤q.W∧t.h≤q.H∧wS t c
inductive X4 (l:List bC) (k:Int) (ps:List GPlate):Nat→List dR→Int→Prop
 | nil:X4 l k ps 0 [] 0
 | cons (i S r:Nat) (c:bV) (sh:List dR) (q:Int):i<ps.length→Fit l k ps[i]! S c→S &&& r=0→X4 l k ps r sh q→X4 l k ps (S ||| r) (⟨(i:Int),c⟩ :: sh) (q+ps[i]!.Price)
inductive Cst (l:List bC) (k:Int) (ps:List GPlate):Nat→Int→Prop
 | nil:Cst l k ps 0 0
 | cons (i S r:Nat) (t:af) (q:Int):i<ps.length→Fv l k S t→t.w≤ps[i]!.W→t.h≤ps[i]!.H→S &&& r=0→Cst l k ps r q→Cst l k ps (S ||| r) (q+ps[i]!.Price)
theorem X4.cst {l:List bC} {k:Int} {ps:List GPlate} {m:Nat} {sh:List dR} {q:Int} (h:X4 l k ps m sh q):Cst l k ps m q:=by
 induction h with
 | nil=>exact .nil
 | cons i S r c sh q hi hf hd _ ih =>
  obtain ⟨t,t1,t2,t3,_⟩:=hf
  exact .cons i S r t q hi t1 t2 t3 hd ih
theorem Cst.more {l:List bC} {k:Int} {ps:List GPlate} {x:GPlate} {m:Nat} {q:Int} (h:Cst l k ps m q):Cst l k (ps ++ [x]) m q:=by
 induction h with
 | nil=>exact .nil
 | cons i S r t q hi t1 t2 t3 hd _ ih =>
  have e:(ps ++ [x])[i]! = ps[i]!:=by rw [oU (by simp;omega),oU hi,List.getElem_append_left]
  rw [← e] at t2 t3 ⊢
  exact .cons i S r t q (by simp;omega) t1 t2 t3 hd ih
theorem ve {b:List aN} {m r:Nat} {e:aN} (h:r≠m):(b.set m e)[r]! = b[r]!:=by
 rw [getElem!_def,getElem!_def,List.getElem?_set_ne (Ne.symm h)]
theorem BA {b:List aN} {m:Nat} {e:aN} (h:m<b.length):(b.set m e)[m]! = e:=by
 rw [getElem!_def,List.getElem?_set_self h]
def Ua (e:aN) (q:Int):Prop:=e.Ah=true∧e.price≤q
def Lk (l:List bC) (k:Int) (ps:List GPlate) (b:List aN) (m:Nat) (e:aN):Prop :=
 e.Ah=true→∃ (i S r:Nat) (c:bV),i<ps.length∧Fit l k ps[i]! S c∧S &&& r=0∧S ||| r=m∧r<m∧b[r]!.Ah=true∧e.LZ=⟨(i:Int),c⟩∧e.rest=(r:Int)∧e.price=b[r]!.price+ps[i]!.Price
def Pri (b:List aN) (m:Nat):Prop:=∀ s,s<m→b[s]!.Ah=true→0≤b[s]!.price∧b[s]!.price≤s * 1000000000
structure WZ (ps:List GPlate):Prop where
 n3:ps.length≤3
 ok:∀ i,i<ps.length→FM ps[i]!
structure QO (l:List bC) (k:Int) (ps:List GPlate) (W:Nat→Nat→List af) (K:Nat) (o:List (List (List af))):Prop where
 len:o.length=ps.length
 at_:∀ i,i<ps.length→o[i]! = (List.range K).map (W i)
 full:∀ i,i<ps.length→∀ s,s<K→Full l k ps[i]!.W ps[i]!.H s (W i s)
section
variable {l:List bC} {k:Int} {ps:List GPlate} {W:Nat→Nat→List af} {o:List (List (List af))} {N:Nat}
variable (p:LJ l k) (st:WZ ps) (ro:QO l k ps W (2 ^ l.length) o) (hN:2 ^ 64≤N)
include p ro hN in
theorem Vr {i S:Nat} (hi:i<ps.length) (hS:0<S) (hK:S<2 ^ l.length):∃ c b,qj N o[i]! (S:Int)=some (c,b)∧(b=true↔W i S≠[])∧(b=true→Fit l k ps[i]! S c):=by
 have hlen:((List.range (2 ^ l.length)).map (W i)).length=2 ^ l.length:=by simp
 have hat:idx ((List.range (2 ^ l.length)).map (W i)) (S:Int)=some (W i S):=by
  rw [mO (by rw [hlen];exact hK)];simp
 unfold qj
 rw [ro.at_ i hi,lK,dF (by omega),iT,hat,bS,lK]
 by_cases h:W i S=[]
 ·rw [h]
  exact ⟨_,_,rfl,by simp,fun x=>by cases x⟩
 ·have h0:0<(W i S).length:=List.length_pos_iff.2 h
  have hF:=(ro.full i hi S hK).1.1 _ (List.getElem_mem h0)
  obtain ⟨c,hc⟩:=wS.of p hF.1
  refine ⟨c,true,?_,by simp [h],fun _=>⟨_,hF.1,hF.2.1,hF.2.2,hc⟩⟩
  rw [dF (by omega),iT,bS,show idx (W i S) 0=some (W i S)[0] from mO (i:=0) h0,bS,hc N (by omega)];rfl
include p st ro hN in
theorem ne_L1 {b:List aN} {m S:Nat} {e:aN} {z z2:List aN} (hm:m<b.length) (Zw:m<2 ^ l.length) (hS:0<S) (hsub:S &&& m=S) (hpr:Pri b m) (hlk:Lk l k ps b m e) (hpe:e.Ah=true→0≤e.price∧e.price≤m * 1000000000) :
    ∃ e',aX (jP N ps o (z,(m:Int)) (z2,(S:Int))) N (b.set m e,0)=some (b.set m e')∧Lk l k ps b m e'∧(e'.Ah=true→0≤e'.price∧e'.price≤m * 1000000000)∧(∀ q,Ua e q→Ua e' q)∧∀ i,i<ps.length→W i S≠[]→b[m ^^^ S]!.Ah=true→Ua e' (b[m ^^^ S]!.price+ps[i]!.Price):=by
  have hn:=uz p.n5
  have h3:=st.n3
  have KC:S≤m:=by rw [← hsub];exact Nat.and_le_right
  obtain ⟨f1,f2,f3,f4,f5,f6,f7,f8,f9,f10,f11⟩:=zx m (by omega) S (by omega) hsub
  have hr:=f7 hS
  obtain ⟨r,hrd⟩:∃ r,r=m ^^^ S:=⟨_,rfl⟩
  rw [← hrd] at hr f2 f3 f4 f5 ⊢
  have hx:iY .xor .i64 (m:Int) (S:Int)=(r:Int):=by rw [hrd];exact xorF m (by omega) S (by omega)
  obtain ⟨out, ho, e', rfl, q1, q2, q3, q4⟩ := jb (f := jP N ps o (z, (m : Int)) (z2, (S : Int))) (I := fun s => ∃ (j : Nat) (e1 : aN), s.2 = (j : Int) ∧ j ≤ ps.length ∧ s.1 = b.set m e1 ∧ Lk l k ps b m e1 ∧ (e1.Ah = true → 0 ≤ e1.price ∧ e1.price ≤ m * 1000000000) ∧ (∀ q, Ua e q → Ua e1 q) ∧ ∀ i, i < j → W i S ≠ [] → b[r]!.Ah = true → Ua e1 (b[r]!.price + ps[i]!.Price))
    (μ:=fun s=>ps.length - s.2.toNat) (post:=fun out=>∃ e',out=b.set m e'∧Lk l k ps b m e'∧(e'.Ah=true→0≤e'.price∧e'.price≤m * 1000000000)∧(∀ q,Ua e q→Ua e' q)∧∀ i,i<ps.length→W i S≠[]→b[r]!.Ah=true→Ua e' (b[r]!.price+ps[i]!.Price)) (by
    rintro ⟨sb,sj⟩ ⟨j,e1,hj,hjl,hsb,h1,h2,h4,h5⟩
    simp only at hj hsb
    subst hj hsb
    by_cases hlt:j<ps.length
    · left
      obtain ⟨c,w,hw1,hw2,hw3⟩:=Vr p ro hN hlt hS (by omega)
      have hok:=st.ok j hlt
      unfold FM at hok
      have i1:idx (b.set m e1) (r:Int)=some b[r]!:=by rw [jK (by simp;omega),ve (by omega)]
      have i2:idx (b.set m e1) (m:Int)=some e1:=by rw [jK (by simp;omega),BA hm]
      have i3:idx o (j:Int)=some o[j]!:=jK (by rw [ro.len];exact hlt)
      have step:ps.length - ((j+1:Nat):Int).toNat<ps.length - ((j:Nat):Int).toNat:=by simp only [Int.toNat_natCast];omega
      cases hq:(!w || !b[r]!.Ah) with
      | true =>
        refine ⟨(b.set m e1,((j+1:Nat):Int)),?_,⟨j+1,e1,rfl,by omega,rfl,h1,h2,h4,fun i hi a1 a2=>?_⟩,step⟩
        · unfold jP
          simp only []
          rw [aW,dT (by omega),iP,jK hlt,bS,hx,i1,bS,i3,bS,hw1,bS]
          simp only []
          rw [hq,Bool.not_true,iT,bS,Bool.false_and,iT,bS,Bool.true_or,iP,lY (by omega)]
        · by_cases hij : i = j
          · subst hij
            rw [hw2.2 a1,a2] at hq;cases hq
          · exact h5 i (by omega) a1 a2
      | false =>
        have hw:w=true:=by cases w;exact absurd hq (by simp);rfl
        have hbr:b[r]!.Ah=true:=by cases h:b[r]!.Ah;rw [h,hw] at hq;exact absurd hq (by simp);rfl
        have hprr:=hpr r hr hbr
        have hwr:IntKind.i64.wrap (b[r]!.price+ps[j]!.Price)=b[r]!.price+ps[j]!.Price:=yM (by omega) (by omega)
        have hnew:Lk l k ps b m ⟨b[r]!.price+ps[j]!.Price,⟨(j:Int),c⟩,(r:Int),true⟩:=fun _=>⟨j,S,r,c,hlt,hw3 hw,f3,f5,hr,hbr,rfl,rfl,rfl⟩
        have pnew:0≤b[r]!.price+ps[j]!.Price∧b[r]!.price+ps[j]!.Price≤m * 1000000000:=by omega
        cases he:e1.Ah with
        | true =>
          by_cases hle:e1.price≤b[r]!.price+ps[j]!.Price
          · refine ⟨(b.set m e1, ((j + 1 : Nat) : Int)), ?_, ⟨j + 1, e1, rfl, by omega, rfl, h1, h2, h4, fun i hi a1 a2 => ?_⟩, step⟩
            · unfold jP
              simp only []
              rw [aW,dT (by omega),iP,jK hlt,bS,hx,i1,bS,i3,bS,hw1,bS]
              simp only []
              rw [hq,Bool.not_false,iP,i2,bS,he,Bool.and_self,iP,bS,hwr,nZ,dT hle,Bool.and_self,Bool.or_true,iP,lY (by omega)]
            · by_cases hij : i = j
              · subst hij;exact ⟨he,hle⟩
              · exact h5 i (by omega) a1 a2
          · refine ⟨(b.set m ⟨b[r]!.price + ps[j]!.Price, ⟨(j : Int), c⟩, (r : Int), true⟩, ((j + 1 : Nat) : Int)), ?_, ⟨j + 1, _, rfl, by omega, rfl, hnew, fun _ => pnew, fun q hq => ?_, fun i hi a1 a2 => ?_⟩, step⟩
            · unfold jP
              simp only []
              rw [aW,dT (by omega),iP,jK hlt,bS,hx,i1,bS,i3,bS,hw1,bS]
              simp only []
              rw [hq,Bool.not_false,iP,i2,bS,he,Bool.and_self,iP,bS,hwr,nZ,dF hle,Bool.and_false,Bool.or_false,iT,bS,lY (by omega),Int.toNat_natCast,List.set_set]
            · obtain ⟨_,hq2⟩:=h4 q hq
              exact ⟨rfl,by show b[r]!.price+ps[j]!.Price≤q;omega⟩
            · by_cases hij : i = j
              · subst hij;exact ⟨rfl,Int.le_refl _⟩
              · obtain ⟨_, hq2⟩ := h5 i (by omega) a1 a2
                exact ⟨rfl,by show b[r]!.price+ps[j]!.Price≤_;omega⟩
        | false =>
          have nob:∀ q,¬ Ua e1 q:=fun q x=>by rw [x.1] at he;cases he
          refine ⟨(b.set m ⟨b[r]!.price+ps[j]!.Price,⟨(j:Int),c⟩,(r:Int),true⟩,((j+1:Nat):Int)),?_,⟨j+1,_,rfl,by omega,rfl,hnew,fun _=>pnew,fun q hq=>absurd (h4 q hq) (nob q),fun i hi a1 a2=>?_⟩,step⟩
          · unfold jP
            simp only []
            rw [aW,dT (by omega),iP,jK hlt,bS,hx,i1,bS,i3,bS,hw1,bS]
            simp only []
            rw [hq,Bool.not_false,iP,i2,bS,he,Bool.and_false,iT,bS,Bool.false_and,Bool.or_false,iT,bS,hwr,lY (by omega),Int.toNat_natCast,List.set_set]
          · by_cases hij : i = j
            · subst hij;exact ⟨rfl,Int.le_refl _⟩
            · exact absurd (h5 i (by omega) a1 a2) (nob _)
    · right
      refine ⟨b.set m e1,?_,e1,rfl,h1,h2,h4,fun i hi=>h5 i (by omega)⟩
      unfold jP
      simp only []
      rw [aW,dF (by omega),iT]) N (b.set m e,0) ⟨0,e,rfl,Nat.zero_le _,rfl,hlk,hpe,fun q x=>x,fun i hi=>absurd hi (Nat.not_lt_zero _)⟩ (by simp only [];omega)
  exact ⟨e',ho,q1,q2,q3,q4⟩
def Dn (ps:List GPlate) (W:Nat→Nat→List af) (b:List aN) (m S:Nat) (e:aN):Prop:=∀ i,i<ps.length→W i S≠[]→b[m ^^^ S]!.Ah=true→Ua e (b[m ^^^ S]!.price+ps[i]!.Price)
include p st ro hN in
theorem ne_L2 {b:List aN} {m:Nat} {e:aN} {z:List aN} (hm:m<b.length) (Zw:m<2 ^ l.length) (hm0:0<m) (hpr:Pri b m) (he:b[m]! = e) (hoff:e.Ah=false) :
    ∃ e',aX (nR N ps o (z,(m:Int))) N (b,(m:Int))=some (b.set m e')∧Lk l k ps b m e'∧(e'.Ah=true→0≤e'.price∧e'.price≤m * 1000000000)∧∀ S,0<S→S &&& m=S→Dn ps W b m S e':=by
  have hn:=uz p.n5
  have hmm:m &&& m=m:=Nat.and_self m
  have hb0:b=b.set m e:=by
    rw [← he,oU hm,List.set_getElem_self]
  have hbig:∀ S',S' &&& m=S'→¬ m<S':=fun S' c2=>by
    have hS':S'≤m:=by rw [← c2];exact Nat.and_le_right
    omega
  obtain ⟨out, ho, e', rfl, q1, q2, q3⟩ := jb (f := nR N ps o (z, (m : Int))) (I := fun s => ∃ (S : Nat) (e1 : aN), s.2 = (S : Int) ∧ S ≤ m ∧ S &&& m = S ∧ s.1 = b.set m e1 ∧ Lk l k ps b m e1 ∧ (e1.Ah = true → 0 ≤ e1.price ∧ e1.price ≤ m * 1000000000) ∧ ∀ S', S < S' → S' &&& m = S' → Dn ps W b m S' e1)
    (μ:=fun s=>s.2.toNat) (post:=fun out=>∃ e',out=b.set m e'∧Lk l k ps b m e'∧(e'.Ah=true→0≤e'.price∧e'.price≤m * 1000000000)∧∀ S,0<S→S &&& m=S→Dn ps W b m S e') (by
    rintro ⟨sb,sS⟩ ⟨S,e1,hS,KC,hsub,hsb,h1,h2,h3⟩
    simp only at hS hsb
    subst hS hsb
    by_cases h0:0<S
    · left
      obtain ⟨f1,f2,f3,f4,f5,f6,f7,f8,f9,f10,f11⟩:=zx m (by omega) S (by omega) hsub
      obtain ⟨e2,k1,k2,k3,k4,k5⟩:=ne_L1 p st ro hN (b:=b) (z:=z) (z2:=b.set m e1) hm Zw h0 hsub hpr h1 h2
      have:=f10 h0
      refine ⟨(b.set m e2,(((S - 1) &&& m:Nat):Int)),?_,⟨(S - 1) &&& m,e2,rfl,by omega,f11,rfl,k2,k3,fun S' c1 c2 i hi a1 a2=>?_⟩,?_⟩
      · unfold nR
        simp only []
        rw [fE,dT (by omega),iP,k1,bS,show ((S:Nat):Int) - 1=((S - 1:Nat):Int) by omega,Zo (by omega),andF _ (by omega) _ (by omega)]
      · by_cases hlt : S < S'
        · exact k4 _ (h3 S' hlt c2 i hi a1 a2)
        · by_cases e : S' = S
          · subst e;exact k5 i hi a1 a2
          · have hS' : S' ≤ m := by rw [← c2]; exact Nat.and_le_right
            have:=KR m (by omega) S (by omega) S' (by omega) hsub c2 (by omega)
            omega
      · show (((S - 1) &&& m:Nat):Int).toNat<((S:Nat):Int).toNat
        simp only [Int.toNat_natCast];omega
    · right
      refine ⟨b.set m e1,?_,e1,rfl,h1,h2,fun S' c1 c2=>h3 S' (by omega) c2⟩
      unfold nR
      simp only []
      rw [fE,dF (by omega),iT]) N (b,(m:Int)) ⟨m,e,rfl,Nat.le_refl _,hmm,hb0,fun x=>(by rw [hoff] at x;cases x),fun x=>(by rw [hoff] at x;cases x),fun S' c1 c2=>absurd c1 (hbig S' c2)⟩ (by simp only [Int.toNat_natCast];omega)
  exact ⟨e',ho,q1,q2,q3⟩
structure Tab (l:List bC) (k:Int) (ps:List GPlate) (W:Nat→Nat→List af) (K m:Nat) (b:List aN):Prop where
 len:b.length=K
 zero:b[0]!.Ah=true∧b[0]!.price=0
 lk:∀ s,0<s→s<m→s<K→Lk l k ps b s b[s]!
 pri:Pri b m
 dn:∀ s,0<s→s<m→s<K→∀ S,0<S→S &&& s=S→Dn ps W b s S b[s]!
 off:∀ s,m≤s→s<K→b[s]!.Ah=false
theorem Lk.set {b:List aN} {m s:Nat} {e x:aN} (h:Lk l k ps b s e) (hs:s≤m):Lk l k ps (b.set m x) s e:=fun he=>by
 obtain ⟨i,S,r,c,h1,h2,h3,h4,h5,h6,h7,h8,h9⟩:=h he
 have e1:(b.set m x)[r]! = b[r]!:=ve (by omega)
 exact ⟨i,S,r,c,h1,h2,h3,h4,h5,by rw [e1];exact h6,h7,h8,by rw [e1];exact h9⟩
theorem Dn.set {b:List aN} {m s S:Nat} {e x:aN} (h:Dn ps W b s S e) (hs:s≤m) (hlt:s ^^^ S<s):Dn ps W (b.set m x) s S e:=fun i hi a1 a2=>by
 have e1:(b.set m x)[s ^^^ S]! = b[s ^^^ S]!:=ve (by omega)
 rw [e1] at a2 ⊢
 exact h i hi a1 a2
include p st ro hN in
theorem ne_L4 {b:List aN} (h:Tab l k ps W (2 ^ l.length) 1 b):∃ b',aX (nP N ps ((2 ^ l.length:Nat):Int) o) N (b,1)=some b'∧Tab l k ps W (2 ^ l.length) (2 ^ l.length) b':=by
 have hn:=uz p.n5
 exact jb (f:=nP N ps ((2 ^ l.length:Nat):Int) o) (I:=fun s=>∃ m:Nat,s.2=(m:Int)∧1≤m∧m≤2 ^ l.length∧Tab l k ps W (2 ^ l.length) m s.1) (μ:=fun s=>2 ^ l.length - s.2.toNat) (post:=fun b'=>Tab l k ps W (2 ^ l.length) (2 ^ l.length) b') (by
  rintro ⟨b,sm⟩ ⟨m,hm,hm1,Zw,T⟩
  simp only at hm T
  subst hm
  have hlast:IntKind.i64.wrap (((2 ^ l.length:Nat):Int) - 1)=((2 ^ l.length:Nat):Int) - 1:=yM (by omega) (by omega)
  by_cases hlt:m<2 ^ l.length
  ·left
   have hml:m<b.length:=by rw [T.len];exact hlt
   obtain ⟨e',k1,k2,k3,k4⟩:=ne_L2 p st ro hN (z:=b) hml hlt (by omega) T.pri rfl (T.off m (Nat.le_refl _) hlt)
   refine ⟨(b.set m e',((m+1:Nat):Int)),?_,⟨m+1,rfl,by omega,by omega,⟨by simpa using T.len,?_,fun s c0 c1 c2=>?_,fun s c1 c2=>?_,fun s c0 c1 c2 S c3 c4=>?_,fun s c1 c2=>?_⟩⟩,?_⟩
   ·unfold nP
    simp only []
    rw [hlast,nZ,dT (by omega),iP,k1,bS,lY (by omega)]
   ·show (b.set m e')[0]!.Ah=true∧(b.set m e')[0]!.price=0
    rw [ve (by omega)];exact T.zero
   ·show Lk l k ps (b.set m e') s (b.set m e')[s]!
    by_cases e:s=m
    ·subst e;rw [BA hml];exact k2.set (Nat.le_refl _)
    ·rw [ve e];exact (T.lk s c0 (by omega) c2).set (by omega)
   ·have c2:(b.set m e')[s]!.Ah=true:=c2
    show 0≤(b.set m e')[s]!.price∧(b.set m e')[s]!.price≤s * 1000000000
    by_cases e:s=m
    ·subst e;rw [BA hml] at c2 ⊢;exact k3 c2
    ·rw [ve e] at c2 ⊢;exact T.pri s (by omega) c2
   ·show Dn ps W (b.set m e') s S (b.set m e')[s]!
    have hle:S≤s:=by rw [← c4];exact Nat.and_le_right
    have hx:s ^^^ S<s:=(zx s (by omega) S (by omega) c4).2.2.2.2.2.2.1 c3
    by_cases e:s=m
    ·subst e;rw [BA hml];exact (k4 S c3 c4).set (Nat.le_refl _) hx
    ·rw [ve e];exact (T.dn s c0 (by omega) c2 S c3 c4).set (by omega) hx
   ·show (b.set m e')[s]!.Ah=false
    rw [ve (by omega)];exact T.off s (by omega) c2
   ·show 2 ^ l.length - ((m+1:Nat):Int).toNat<2 ^ l.length - ((m:Nat):Int).toNat
    simp only [Int.toNat_natCast];omega
  ·right
   have:m=2 ^ l.length:=by omega
   subst this
   refine ⟨b,?_,T⟩
   unfold nP
   simp only []
   rw [hlast,nZ,dF (by omega),iT]) N (b,1) ⟨1,rfl,Nat.le_refl _,hn.2,h⟩ (by simp only [];omega)
include p in
theorem Tab.least {b:List aN} (T:Tab l k ps W (2 ^ l.length) (2 ^ l.length) b) (ro:QO l k ps W (2 ^ l.length) o) {m:Nat} {q:Int} (h:Cst l k ps m q) (hm:m<2 ^ l.length):Ua b[m]! q:=by
 have hn:=uz p.n5
 induction h with
 | nil=>exact ⟨T.zero.1,by rw [T.zero.2];omega⟩
 | cons i S r t q hi h1 h2 h3 hd _ ih =>
  have hS:=h1.pos p
  have hrle:r≤S ||| r:=Nat.right_le_or
  have hsle:S≤S ||| r:=Nat.left_le_or
  have hb:=ih (by omega)
  obtain ⟨d1,d2,d3,d4,d5,d6,d7,d8,d9⟩:=rX S (by omega) r (by omega) hd
  have hne:W i S≠[]:=by
   obtain ⟨x,hx,_⟩:=(ro.full i hi S hS.2.2.2).2 t h1 h2 h3
   intro e;rw [e] at hx;cases hx
  have:=T.dn (S ||| r) (by omega) hm hm S hS.2.2.1 d4 i hi hne (by rw [d5];exact hb.1)
  rw [d5] at this
  exact ⟨this.1,by have:=this.2;have:=hb.2;omega⟩
include p in
theorem ne_L3 {b:List aN} (T:Tab l k ps W (2 ^ l.length) (2 ^ l.length) b):∀ (m M:Nat) (acc:List dR),m<M→m<2 ^ l.length→b[m]!.Ah=true→acc.length+m<1000→∃ sh,aX (kT N b) M (acc,(m:Int))=some (acc ++ sh)∧X4 l k ps m sh b[m]!.price:=by
  have hn:=uz p.n5
  have hlim:lim ≥ 10000000:=by decide
  intro m
  induction m using Nat.strongRecOn with
  | _ m ih =>
    intro M acc hM Zw hok hacc
    obtain ⟨M,rfl⟩:∃ x,M=x+1:=⟨M - 1,by omega⟩
    rw [aX]
    by_cases h0:0<m
    · obtain ⟨i,S,r,c,h1,h2,h3,h4,h5,h6,h7,h8,h9⟩:=T.lk m h0 Zw Zw hok
      obtain ⟨sh,e1,e2⟩:=ih r h5 M (acc ++ [⟨(i:Int),c⟩]) (by omega) (by omega) h6 (by rw [List.length_append,List.length_singleton];omega)
      refine ⟨⟨(i:Int),c⟩ :: sh,?_,by rw [h9,← h4];exact .cons i S r c sh _ h1 h2 h3 e2⟩
      have hs:kT N b (acc,(m:Int))=some (.inl (acc ++ [⟨(i:Int),c⟩],(r:Int))):=by
        unfold kT
        simp only []
        rw [fE,dT (by omega),iP,jK (by rw [T.len];exact Zw),bS,h7,qo (by rw [List.length_singleton];omega),bS,bS,h8]
      rw [hs]
      show aX _ M _=_
      rw [e1,List.append_assoc];rfl
    · have : m = 0 := by omega
      subst this
      refine ⟨[],?_,by rw [T.zero.2];exact .nil⟩
      have hs:kT N b (acc,((0:Nat):Int))=some (.inr acc):=by
        unfold kT
        simp only []
        rw [fE,dF (by omega),iT]
      rw [hs,List.append_nil]
include p st hN in
theorem ne_L5:∃ o W,aX (nO N l ps k) N ([],0)=some o∧QO l k ps W (2 ^ l.length) o:=by
 have hlim:lim ≥ 10000000:=by decide
 have h3:=st.n3
 have key:∀ i,∃ V:Nat→List af,i<ps.length→oQ N l ps[i]!.W ps[i]!.H k=some ((List.range (2 ^ l.length)).map V)∧∀ s,s<2 ^ l.length→Full l k ps[i]!.W ps[i]!.H s (V s):=by
  intro i
  by_cases hi:i<ps.length
  ·have hok:=st.ok i hi
   unfold FM at hok
   obtain ⟨V,h1,h2⟩:=MJ p hok.1.2 hok.2.1.2 hN (l:=l) (k:=k)
   exact ⟨V,fun _=>⟨h1,h2⟩⟩
  ·exact ⟨fun _=>[],fun x=>absurd x hi⟩
 obtain ⟨W,hW⟩:=Classical.axiomOfChoice key
 refine ⟨(List.range ps.length).map fun i=>(List.range (2 ^ l.length)).map (W i),W,?_,⟨by simp,fun i hi=>?_,fun i hi=>(hW i hi).2⟩⟩
 ·have:=PE (f:=nO N l ps k) (N:=N) (List.range ps.length) (fun i=>(List.range (2 ^ l.length)).map (W i)) (fun i hi acc ha=>by
   have hi:i<ps.length:=by simpa using hi
   unfold nO
   simp only []
   rw [aW,dT (by omega),iP,jK hi,bS,(hW i hi).1,bS,qo (by rw [List.length_singleton];omega),bS,lY (by omega),List.getElem_range]) (fun acc=>by
   unfold nO
   simp only []
   rw [List.length_range,aW,dF (by omega),iT]) (by rw [List.length_range];omega)
  exact this
 ·rw [oU (by simpa using hi)];simp
include p st hN in
theorem RF (hc:jS N l ps k=some 0):(lZ N l ps k=some ([],0,29)∧∀ q,¬ Cst l k ps (2 ^ l.length - 1) q)
    ∨ ∃ sh q,lZ N l ps k=some (sh,q,0)∧X4 l k ps (2 ^ l.length - 1) sh q∧∀ q',Cst l k ps (2 ^ l.length - 1) q'→q≤q':=by
  have hn:=uz p.n5;have h5:=p.n5
  have hlim:lim ≥ 10000000:=by decide
  obtain ⟨o,W,ho,ro⟩:=ne_L5 p st hN
  have e1:IntKind.i64.wrap (((2 ^ l.length:Nat):Int) - 1)=((2 ^ l.length - 1:Nat):Int):=by rw [yM (by omega) (by omega)];omega
  have e2:IntKind.i64.wrap (((2 ^ l.length - 1:Nat):Int)+1)=((2 ^ l.length:Nat):Int):=by rw [yM (by omega) (by omega)];omega
  obtain ⟨z,hz⟩:∃ z:aN,z=⟨0,⟨0,⟨0,false,false,0,[],[]⟩⟩,0,false⟩:=⟨_,rfl⟩
  have hmk:mk z ((2 ^ l.length:Nat):Int) ((2 ^ l.length:Nat):Int)=some (List.replicate (2 ^ l.length) z):=by
    unfold mk
    rw [dT (by omega),dT (by omega),dT (by omega)];rfl
  have hr:∀ s,s<2 ^ l.length→(List.replicate (2 ^ l.length) z)[s]! = z:=fun s hs=>by rw [oU (by simpa using hs)];simp
  have hl0:0<(List.replicate (2 ^ l.length) z).length:=by simp;omega
  have T0:Tab l k ps W (2 ^ l.length) 1 ((List.replicate (2 ^ l.length) z).set 0 { z with Ah:=true }):=by
    refine ⟨by simp,by rw [BA hl0,hz];exact ⟨rfl,rfl⟩,fun s c0 c1=>by omega,fun s c1 _=>?_,fun s c0 c1=>by omega,fun s c1 c2=>?_⟩
    · have : s = 0 := by omega
      subst this
      rw [BA hl0,hz];exact ⟨Int.le_refl _,by simp⟩
    · rw [ve (by omega),hr s c2,hz]
  obtain ⟨b,hb,T⟩:=ne_L4 p st ro hN T0
  have hlast:idx b ((2 ^ l.length - 1:Nat):Int)=some b[2 ^ l.length - 1]!:=jK (by rw [T.len];omega)
  have hbase:lZ N l ps k=bif (!b[2 ^ l.length - 1]!.Ah) then (some (([]:List dR),(0:Int),(29:Int))) else ((aX (kT N b) N ([],((2 ^ l.length - 1:Nat):Int))).bind fun o40=>some (o40,b[2 ^ l.length - 1]!.price,0)):=by
    unfold lZ
    rw [hc,bS,show aB .neq (0:Int) 0=false from rfl,iT,Xi _ (by omega),bS,e1,e2,← hz,hmk,bS,show idx (List.replicate (2 ^ l.length) z) 0=some z by rw [show (0:Int)=((0:Nat):Int) from rfl,jK hl0,hr 0 (by omega)],bS,ho,bS,show Int.toNat 0=0 from rfl,hb,bS,hlast,bS];rfl
  cases hok:b[2 ^ l.length - 1]!.Ah with
  | false =>
    left
    refine ⟨by rw [hbase,hok];rfl,fun q hq=>?_⟩
    have:=T.least p ro hq (by omega)
    rw [this.1] at hok;cases hok
  | true =>
    right
    obtain ⟨sh,s1,s2⟩:=ne_L3 p T (2 ^ l.length - 1) N [] (by omega) (by omega) hok (by simp only [List.length_nil];omega)
    refine ⟨sh,_,?_,s2,fun q' hq=>(T.least p ro hq (by omega)).2⟩
    rw [hbase,hok,Bool.not_true,iT,s1,bS,List.nil_append]
end
end Go.KB
namespace Go.KB
set_option linter.unusedVariables false
set_option maxRecDepth 100000
def nmQ (l:List bC) (i:Nat):Str:=l[i]!.Name
def LK (q:bC):Prop:=(1≤q.W∧q.W≤100000)∧1≤q.H∧q.H≤100000
instance (q:bC):Decidable (LK q):=inferInstanceAs (Decidable ((1≤q.W∧q.W≤100000)∧1≤q.H∧q.H≤100000))
def eQ (l:List bC) (i:Nat):Int:=if vH l[i]!.Name=true then (if dup (nmQ l) i l[i]!.Name=true then 5 else if LK l[i]! then 0 else 2) else 4
def eS (ps:List GPlate) (i:Nat):Int:=if FM ps[i]! then 0 else 2
def Qb (l:List bC) (ps:List GPlate) (k:Int):Int :=
 if 6<l.length∨3<ps.length then 8 else if iM (eQ l) l.length 0=0 then (if iM (eS ps) ps.length 0=0 then (if 0≤k∧k≤100 then 0 else 2) else iM (eS ps) ps.length 0) else iM (eQ l) l.length 0
theorem GN {e:Nat→Int} {n:Nat}:iM e n 0=0↔∀ i,i<n→e i=0:=by
 constructor
 ·exact fun h i hi=>EJ h i (Nat.zero_le _) (by omega)
 ·intro h
  refine Classical.byContradiction fun hne=>?_
  obtain ⟨j,_,h2,_,h4,_⟩:=DX hne
  exact h4 (h j (by omega))
theorem GL {l:List bC} {ps:List GPlate} {k:Int}:Qb l ps k=0↔l.length≤6∧ps.length≤3∧(∀ i,i<l.length→eQ l i=0)∧(∀ i,i<ps.length→FM ps[i]!)∧0≤k∧k≤100:=by
 unfold Qb
 have hs:iM (eS ps) ps.length 0=0↔∀ i,i<ps.length→FM ps[i]!:=by
  rw [GN]
  unfold eS
  constructor
  ·intro h i hi
   have:=h i hi
   by_cases g:FM ps[i]!
   ·exact g
   ·rw [if_neg g] at this;omega
  ·intro h i hi;rw [if_pos (h i hi)]
 rw [← hs,← GN]
 by_cases h1:6<l.length∨3<ps.length
 ·rw [if_pos h1]
  constructor
  ·intro h;omega
  ·rintro ⟨a,b,_⟩;omega
 ·rw [if_neg h1]
  by_cases h2:iM (eQ l) l.length 0=0
  ·rw [if_pos h2]
   by_cases h3:iM (eS ps) ps.length 0=0
   ·rw [if_pos h3]
    by_cases h4:0≤k∧k≤100
    ·rw [if_pos h4];exact ⟨fun _=>⟨by omega,by omega,h2,h3,h4⟩,fun _=>rfl⟩
    ·rw [if_neg h4];exact ⟨fun h=>by omega,fun h=>absurd h.2.2.2.2 h4⟩
   ·rw [if_neg h3];exact ⟨fun h=>absurd h h3,fun h=>absurd h.2.2.2.1 h3⟩
  ·rw [if_neg h2];exact ⟨fun h=>absurd h h2,fun h=>absurd h.2.2.1 h2⟩
theorem Zx {l:List bC} {i:Nat} (h:eQ l i=0):LK l[i]!:=by
 unfold eQ at h
 split at h
 ·split at h
  ·omega
  ·split at h
   ·assumption
   ·omega
 ·omega
theorem NV {l:List bC} {ps:List GPlate} {k:Int} (h:Qb l ps k=0) (h5:l.length≤5):LJ l k∧WZ ps:=by
 obtain ⟨_,h2,h3,h4,h6,h7⟩:=GL.1 h
 refine ⟨⟨h5,fun i hi=>?_,h6,h7⟩,⟨h2,h4⟩⟩
 have:=Zx (h3 i hi)
 unfold LK at this
 exact ⟨this.1.1,this.1.2,this.2.1,this.2.2⟩
theorem U6 {l:List bC} {ps:List GPlate} {k:Int} {x:GPlate} (h:Qb l ps k=0) (h3:ps.length<3) (hx:FM x):Qb l (ps ++ [x]) k=0:=by
  obtain ⟨h1,h2,h4,h5,h6⟩:=GL.1 h
  refine GL.2 ⟨h1,by simp;omega,h4,fun i hi=>?_,h6⟩
  have hi:i<ps.length+1:=by simpa using hi
  by_cases e:i<ps.length
  · rw [oU (by simp;omega),List.getElem_append_left e,← oU e];exact h5 i e
  · have : i = ps.length := by omega
    subst this
    rw [oU (by simp)];simpa using hx
section
variable {N:Nat} (hN:2 ^ 64≤N)
include hN in
theorem Bo {l:List bC} {ps:List GPlate} {k:Int}:jS N l ps k=some (Qb l ps k):=by
  unfold jS Qb
  rw [fE,fE]
  by_cases h1:6<l.length∨3<ps.length
  · rw [if_pos h1]
    have:(decide (6<(l.length:Int))||decide (3<(ps.length:Int)))=true:=by
      rcases h1 with h | h
      · rw [dT (p:=6<(l.length:Int)) (by omega)];rfl
      · rw [dT (p:=3<(ps.length:Int)) (by omega),Bool.or_true]
    rw [this,iP]
  · rw [if_neg h1, dF (by omega), dF (by omega), Bool.or_self, iT]
    have hl2:aX (kU N l) N (([]:List (Str×Bool)),0)=some (Df (.inl ()) (fun e=>.inr e) (iM (eQ l) l.length 0)):=by
      refine BB (fun i=>(seen (nmQ l) i,(i:Int))) (fun i hi _=>?_) (fun _=>?_) (by omega)
      · unfold kU
        simp only []
        rw [aW,dT (by omega),iP,jK hi,bS,Xl (by omega),bS,PK,Bz (by simp) (by simp;omega),bS]
        unfold eQ
        cases h2:vH l[i]!.Name with
        | false=>rfl
        | true =>
          rw [Bool.not_true,iT,if_pos rfl]
          cases h3:dup (nmQ l) i l[i]!.Name with
          | true=>rfl
          | false =>
            have e1:[l[i]!.W,l[i]!.H].all (PD 1 100000)=decide (LK l[i]!):=by
              unfold LK
              rw [Bool.eq_iff_iff];simp [PD]
            rw [iT,e1,if_neg (show ¬ (false=true) by decide),lY (by omega)]
            by_cases h4:LK l[i]!
            · rw [dT h4,if_pos h4];rfl
            · rw [dF h4,if_neg h4];rfl
      · unfold kU
        simp only []
        rw [aW,dF (by omega),iT]
    have hl1:aX (kV N ps) N 0=some (Df (.inl ()) (fun e=>.inr e) (iM (eS ps) ps.length 0)):=by
      refine BB (fun i=>(i:Int)) (fun i hi _=>?_) (fun _=>?_) (by omega)
      · unfold kV eS
        rw [aW,dT (by omega),iP,jK hi,bS,Pz (by omega),bS,lY (by omega)]
        by_cases h:FM ps[i]!
        · rw [if_pos h];rfl
        · rw [if_neg h];rfl
      · unfold kV
        rw [aW,dF (by omega),iT]
    rw [hl2,bS,hl1]
    unfold Df
    by_cases h2:iM (eQ l) l.length 0=0
    · rw [if_pos h2,if_pos h2]
      show ((some _).bind _)=_
      rw [bS]
      by_cases h3:iM (eS ps) ps.length 0=0
      · rw [if_pos h3,if_pos h3]
        show ((kN N 0 100 [k]).bind _)=_
        rw [Bz (by simp) (by simp;omega),bS]
        have e1:[k].all (PD 0 100)=decide (0≤k∧k≤100):=by
          rw [Bool.eq_iff_iff];simp [PD]
        rw [e1]
        by_cases h4:0≤k∧k≤100
        · rw [dT h4,if_pos h4];rfl
        · rw [dF h4,if_neg h4];rfl
      · rw [if_neg h3,if_neg h3];rfl
    · rw [if_neg h2,if_neg h2];rfl
include hN in
theorem MK {l:List bC} {ps:List GPlate} {k:Int}:nN N l ps k=some (Qb l ps k):=by
  unfold nN Qb
  rw [fE,fE]
  by_cases h1:6<l.length∨3<ps.length
  · rw [if_pos h1]
    have:(decide (6<(l.length:Int))||decide (3<(ps.length:Int)))=true:=by
      rcases h1 with h | h
      · rw [dT (p:=6<(l.length:Int)) (by omega)];rfl
      · rw [dT (p:=3<(ps.length:Int)) (by omega),Bool.or_true]
    rw [this,iP]
  · rw [if_neg h1, dF (by omega), dF (by omega), Bool.or_self, iT]
    have hdup:∀ i,i<l.length→aX (kX N l (i:Int)) N 0=some (Df (.inl ()) (fun e=>.inr e) (iM (same (nmQ l) l[i]!.Name) i 0)):=by
      intro i hi
      refine BB (fun j=>(j:Int)) (fun j hj _=>?_) (fun _=>?_) (by omega)
      · unfold kX same nmQ
        rw [aW,dT (by omega),iP,jK (by omega),bS,jK hi,bS,Vs,lY (by omega)]
        by_cases h:l[j]!.Name=l[i]!.Name
        · rw [dT h,if_pos h];rfl
        · rw [dF h,if_neg h];rfl
      · unfold kX
        rw [aW,dF (by omega),iT]
    have hl2:pz N l=some (iM (eQ l) l.length 0):=by
      unfold pz
      have:aX (kW N l) N 0=some (Df (.inl ()) (fun e=>.inr e) (iM (eQ l) l.length 0)):=by
        refine BB (fun i=>(i:Int)) (fun i hi _=>?_) (fun _=>?_) (by omega)
        · unfold kW
          rw [aW,dT (by omega),iP,jK hi,bS,TG (by omega),bS,hdup i hi,Vt]
          unfold eQ
          cases h2:vH l[i]!.Name with
          | false=>rfl
          | true =>
            rw [Bool.not_true,iT,if_pos rfl,bS]
            cases h3:dup (nmQ l) i l[i]!.Name with
            | true=>rfl
            | false =>
              rw [if_neg (show ¬ (false=true) by decide),if_neg (show ¬ (false=true) by decide)]
              unfold Df
              rw [if_pos rfl]
              rw [Sum.elim_inl,bS]
              unfold kJ
              rw [jD,nZ,bS,lY (by omega)]
              have e:∀ a b:Prop,[Decidable a]→[Decidable b]→(decide a&&decide b)=decide (a∧b):=fun a b _ _=>by rw [Bool.decide_and]
              rw [e]
              by_cases h4:1≤l[i]!.W∧l[i]!.W≤100000
              · rw [dT h4,Bool.not_true,Bool.not_false,iP,bS,iP,jD,nZ,bS,e]
                by_cases h5:1≤l[i]!.H∧l[i]!.H≤100000
                · rw [dT h5,show (if LK l[i]! then (0:Int) else 2)=0 from if_pos ⟨h4,h5⟩];rfl
                · rw [dF h5,show (if LK l[i]! then (0:Int) else 2)=2 from if_neg (fun x=>h5 x.2)];rfl
              · rw [dF h4,show (if LK l[i]! then (0:Int) else 2)=2 from if_neg (fun x=>h4 x.1)];rfl
        · unfold kW
          rw [aW,dF (by omega),iT]
      rw [this,bS]
      unfold Df
      by_cases h:iM (eQ l) l.length 0=0
      · rw [if_pos h,h];rfl
      · rw [if_neg h];rfl
    have hl1:aX (lC N ps) N 0=some (Df (.inl ()) (fun e=>.inr e) (iM (eS ps) ps.length 0)):=by
      refine BB (fun i=>(i:Int)) (fun i hi _=>?_) (fun _=>?_) (by omega)
      · unfold lC eS
        rw [aW,dT (by omega),iP,jK hi,bS,Ir,bS,lY (by omega)]
        by_cases h:FM ps[i]!
        · rw [if_pos h];rfl
        · rw [if_neg h];rfl
      · unfold lC
        rw [aW,dF (by omega),iT]
    rw [hl2,bS,hl1,lV]
    by_cases h2:iM (eQ l) l.length 0=0
    · rw [if_pos h2,dT h2,Bool.not_true,iT,bS]
      unfold Df
      by_cases h3:iM (eS ps) ps.length 0=0
      · rw [if_pos h3,if_pos h3]
        show ((mJ N k).bind _)=_
        rw [RI];rfl
      · rw [if_neg h3,if_neg h3];rfl
    · rw [if_neg h2,dF h2];rfl
end
end Go.KB
