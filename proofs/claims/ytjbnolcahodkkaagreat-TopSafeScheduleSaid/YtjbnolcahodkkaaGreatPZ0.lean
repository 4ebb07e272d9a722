/- Plain laws of chapter 8: the items by their first days. Plain laws of chapter 8: the permits that a plan asks for. Plain laws of chapter 8: what the permits asked for are. Plain laws of chapter 8: the permit plan of what is asked for. Plain laws of chapter 8: exclusion, air and locks in the office of what is asked for. Plain laws of chapter 8: approving and opening what is asked for. Plain laws of chapter 8: what is asked behind each opening. Plain laws of chapter 8: the open permits are a possible set, nobody is overdue. No condition. -/
import Derived.Test.YtjbnolcahodkkaaGreatPZy
namespace Go.KB
set_option linter.unusedVariables false
set_option maxRecDepth 100000
def SG (l:List aK) (a:Int):Int:=l[a.toNat]!.day
theorem setI {l:List Int} {i j:Nat} {v:Int} (hj:j<l.length):(l.set i v)[j]! = if i=j then v else l[j]!:=by
 rw [uX (by simpa using hj),List.getElem_set]
 by_cases h:i=j
 ·rw [if_pos h,if_pos h]
 ·rw [if_neg h,if_neg h,uX hj]
section
variable {N:Nat} {n:Nat} {φ:Int→Int→Option Int} {κ:Int→Int} (hN:2 ^ 64≤N) (hn:n≤19) (hφ:∀ a b:Int,0≤a→a<n→0≤b→b<n→φ a b=some (κ a - κ b))
include hN hn hφ
theorem ins_L1 {L p:List Int} {i:Nat} (hL:∀ x ∈ L,0≤x∧x<n) (hLl:L.length=n) (hp:p.Perm L) (hi:i<n) (hs:∀ u v,u<v→v<i→κ p[u]! ≤ κ p[v]!) :
    ∃ p',dh (iK N 0 φ) N (p,(i:Int))=some p'∧p'.Perm L∧∀ u v,u<v→v<i+1→κ p'[u]! ≤ κ p'[v]!:=by
  exact AQ (f:=iK N 0 φ) (I:=fun q=>∃ j:Nat,q.2=(j:Int)∧j≤i∧q.1.Perm L∧(∀ u v,u<v→v≤i→u≠j→v≠j→κ q.1[u]! ≤ κ q.1[v]!)∧∀ v,j<v→v≤i→κ q.1[j]! ≤ κ q.1[v]!) (μ:=fun q=>q.2.toNat) (post:=fun p'=>p'.Perm L∧∀ u v,u<v→v<i+1→κ p'[u]! ≤ κ p'[v]!) (by
    rintro ⟨p,sj⟩ ⟨j,hj,hji,hp,h1,h2⟩
    simp only at hj hp h1 h2
    subst hj
    have hpl:p.length=n:=by rw [hp.length_eq,hLl]
    have hel:∀ u,u<n→0≤p[u]! ∧ p[u]! < n:=fun u hu=>hL _ (hp.mem_iff.1 (by rw [uX (by omega)];exact List.getElem_mem _))
    have stop:(j=0∨κ p[j - 1]! ≤ κ p[j]!)→∀ u v,u<v→v<i+1→κ p[u]! ≤ κ p[v]!:=by
      intro hst u v huv hv
      by_cases hu:u=j
      · subst hu;exact h2 v huv (by omega)
      · by_cases hvj : v = j
        · subst hvj
          rcases hst with h | h
          · omega
          · by_cases e : u = v - 1
            · subst e;exact h
            · exact Int.le_trans (h1 u (v - 1) (by omega) (by omega) hu (by omega)) h
        · exact h1 u v huv (by omega) hu hvj
    by_cases h0:j=0
    · right
      refine ⟨p,?_,hp,stop (.inl h0)⟩
      subst h0
      unfold iK
      simp only []
      rw [rP,dF (by omega),kG,kG,bS,bS,kG,bS,Bool.false_and,kG]
    · have hjn : j < p.length := by omega
      have hw:IntKind.i64.wrap ((j:Int) - 1)=((j - 1:Nat):Int):=by rw [w64 (by omega) (by omega)];omega
      have e1:=hel j (by omega)
      have e2:=hel (j - 1) (by omega)
      have hc:=hφ p[j]! p[j - 1]! e1.1 e1.2 e2.1 e2.2
      have hstep:iK N 0 φ (p,(j:Int))=bif decide (κ p[j]! - κ p[j - 1]! < 0) then some (.inl ((p.set j p[j - 1]!).set (j - 1) p[j]!,((j - 1:Nat):Int))) else some (.inr p):=by
        unfold iK
        simp only []
        rw [rP,dT (by omega),kS,kS,hw,rH hjn,rH (by omega),bS,bS,kS,hc,bS,Bool.true_and,bM,Int.toNat_natCast,Int.toNat_natCast,bS,bS,bS,rH (by rw [List.length_set];omega),bS]
      by_cases hlt:κ p[j]! - κ p[j - 1]! < 0
      · left
        have hat:∀ u,u<n→((p.set j p[j - 1]!).set (j - 1) p[j]!)[u]! = if j - 1=u then p[j]! else if j=u then p[j - 1]! else p[u]!:=fun u hu=>by
          rw [setI (by rw [List.length_set];omega),setI (by omega)]
        refine ⟨((p.set j p[j - 1]!).set (j - 1) p[j]!,((j - 1:Nat):Int)),by rw [hstep,dT hlt,kS],⟨j - 1,rfl,by omega,?_,fun u v huv hv hu hvj=>?_,fun v hv ZL=>?_⟩,?_⟩
        · show ((p.set j p[j - 1]!).set (j - 1) p[j]!).Perm L
          rw [uX (by omega),uX hjn]
          exact (List.set_set_perm hjn (by omega)).trans hp
        · show κ ((p.set j p[j - 1]!).set (j - 1) p[j]!)[u]! ≤ κ ((p.set j p[j - 1]!).set (j - 1) p[j]!)[v]!
          rw [hat u (by omega),hat v (by omega),if_neg (show ¬ j - 1=u by omega),if_neg (show ¬ j - 1=v by omega)]
          by_cases a:j=u
          · rw [if_pos a, if_neg (by omega)]
            exact h1 (j - 1) v (by omega) hv (by omega) (by omega)
          · rw [if_neg a]
            by_cases b:j=v
            · rw [if_pos b];exact h1 u (j - 1) (by omega) (by omega) (by omega) (by omega)
            · rw [if_neg b];exact h1 u v huv hv (by omega) (by omega)
        · show κ ((p.set j p[j - 1]!).set (j - 1) p[j]!)[j - 1]! ≤ κ ((p.set j p[j - 1]!).set (j - 1) p[j]!)[v]!
          rw [hat (j - 1) (by omega),hat v (by omega),if_pos rfl,if_neg (show ¬ j - 1=v by omega)]
          by_cases b:j=v
          · rw [if_pos b];omega
          · rw [if_neg b];exact h2 v (by omega) ZL
        · show ((j - 1:Nat):Int).toNat<((j:Nat):Int).toNat
          simp only [Int.toNat_natCast];omega
      · right
        exact ⟨p,by rw [hstep,dF hlt,kG],hp,stop (.inr (by omega))⟩) N (p,(i:Int)) ⟨i,rfl,Nat.le_refl _,hp,fun u v huv hv hu ZL=>hs u v huv (by omega),fun v h1 h2=>by omega⟩ (by simp only [Int.toNat_natCast];omega)
theorem jJc {L:List Int} (hL:∀ x ∈ L,0≤x∧x<n) (hLl:L.length=n):∃ p,nS N L φ=some p∧p.Perm L∧∀ u v,u<v→v<n→κ p[u]! ≤ κ p[v]!:=by
 obtain ⟨p,hp1,hp2,hp3⟩:=AQ (f:=kz N 0 (n:Int) φ) (I:=fun q=>∃ i:Nat,q.2=(i:Int)∧1≤i∧q.1.Perm L∧(i≤n∨n=0)∧∀ u v,u<v→v<i→κ q.1[u]! ≤ κ q.1[v]!) (μ:=fun q=>n - q.2.toNat) (post:=fun p=>p.Perm L∧∀ u v,u<v→v<n→κ p[u]! ≤ κ p[v]!) (by
  rintro ⟨p,si⟩ ⟨i,hi,hi1,hp,hin,hs⟩
  simp only at hi hp hs
  subst hi
  by_cases hlt:i<n
  ·left
   obtain ⟨p',a1,a2,a3⟩:=ins_L1 hN hn hφ hL hLl hp hlt hs
   refine ⟨(p',((i+1:Nat):Int)),?_,⟨i+1,rfl,by omega,a2,.inl (by omega),a3⟩,?_⟩
   ·unfold kz
    simp only []
    rw [bM,dT (by omega),kS,a1,bS,oJ (by omega)]
   ·show n - ((i+1:Nat):Int).toNat<n - ((i:Nat):Int).toNat
    simp only [Int.toNat_natCast];omega
  ·right
   refine ⟨p,?_,hp,fun u v huv hv=>hs u v huv (by omega)⟩
   unfold kz
   simp only []
   rw [bM,dF (by omega),kG]) N (L,1) ⟨1,rfl,Nat.le_refl _,List.Perm.refl _,by omega,fun u v huv hv=>by omega⟩ (by simp only [];omega)
 refine ⟨p,?_,hp2,hp3⟩
 obtain ⟨M,rfl⟩:∃ x,N=x+1:=⟨N - 1,by omega⟩
 unfold nS uM
 have l3:dh (mW (M+1) (n:Int) φ) (M+1) (L,0,20)=some (L,0):=by
  rw [dh]
  have:mW (M+1) (n:Int) φ (L,0,20)=some (.inr (L,0)):=by
   unfold mW
   simp only []
   rw [yA,dF (by omega),kG]
  rw [this]
 have l2:dh (mX (M+1) (n:Int) φ) (M+1) (p,20)=some p:=by
  rw [dh]
  have:mX (M+1) (n:Int) φ (p,20)=some (.inr p):=by
   unfold mX
   simp only []
   rw [bM,dF (by omega),kG]
  rw [this]
 rw [hLl,l3,bS]
 simp only []
 unfold ny
 rw [show IntKind.i64.wrap (0+1)=1 from by decide,hp1,bS,bS,l2];rfl
end
def OD (n:Nat):List Int:=(List.range n).map fun (i:Nat)=>(i:Int)
theorem jZx {N:Nat} {l:List aK} (hN:2 ^ 64≤N) (hl:l.length≤19) (hd:∀ i,i<l.length→0≤l[i]!.day∧l[i]!.day≤1000):∃ p,zQ N l=some p∧p.Perm (OD l.length)∧∀ u v,u<v→v<l.length→SG l p[u]! ≤ SG l p[v]!:=by
 have hlim:lim ≥ 1000000:=by decide
 unfold zQ
 have hL:dh (rF N l) N ([],0)=some (OD l.length):=by
  have:=OE (f:=rF N l) (N:=N) (List.range l.length) (fun (i:Nat)=>(i:Int)) (fun i hi acc ha=>by
   have hi:i<l.length:=by simpa using hi
   unfold rF
   simp only []
   rw [bM,dT (by omega),kS,DW (by rw [List.length_singleton];omega),bS,oJ (by omega),List.getElem_range]) (fun acc=>by
   unfold rF
   simp only []
   rw [List.length_range,bM,dF (by omega),kG]) (by rw [List.length_range];omega)
  exact this
 obtain ⟨p,p1,p2,p3⟩:=jJc (n:=l.length) (φ:=fun y0 y1=>sO N y0 y1 l) (κ:=SG l) hN hl (fun a b a0 a1 b0 b1=>by
  obtain ⟨u,rfl⟩:∃ u:Nat,a=(u:Int):=⟨a.toNat,by omega⟩
  obtain ⟨v,rfl⟩:∃ v:Nat,b=(v:Int):=⟨b.toNat,by omega⟩
  have h1:=hd u (by omega)
  have h2:=hd v (by omega)
  unfold sO SG
  rw [rH (by omega),bS,rH (by omega),bS,w64 (by omega) (by omega),Int.toNat_natCast,Int.toNat_natCast]) (L:=OD l.length) (fun x hx=>by
  unfold OD at hx
  obtain ⟨i,hi,rfl⟩:=List.mem_map.1 hx
  have:=List.mem_range.1 hi
  omega) (by unfold OD;simp)
 rw [hL,bS,p1]
 exact ⟨p,rfl,p2,p3⟩
end Go.KB
namespace Go.KB
set_option linter.unusedVariables false
set_option maxRecDepth 100000
def askI (w:GWork) (l:List aK) (i:Nat):oV:=⟨w.Items[i]!.Name,w.Items[i]!.Space,w.Items[i]!.Kind,l[i]!.day,GU l[i]! w.Items[i]!⟩
def Uu (w:GWork) (l:List aK) (p:List Int):List oV:=(p.filter fun a=>decide (0≤w.Items[a.toNat]!.Kind)).map fun a=>askI w l a.toNat
def JU (x:oV):aQ:=⟨x.Item,x.Kind,x.Space,1440 * x.From,1440 * x.To,[]⟩
def ja (w:GWork) (A:List oV):ax:=⟨w.bP.map fun s=>⟨s.Name,false,s.Next⟩,w.aW,A.map JU,60⟩
section
variable {N:Nat} {w:GWork} (hN:2 ^ 64≤N) (hw:SmW w)
include hN hw
omit hw in
theorem jV9 {s:List GSlot} {l:List aK} (hp:qK N w s=some (l,0)) (ok:YZ w l) (h19:w.Items.length≤19):∃ p:List Int,Az N w s=some (Uu w l p,0)∧p.Perm (OD w.Items.length)∧∀ u v,u<v→v<w.Items.length→SG l p[u]! ≤ SG l p[v]!:=by
 have hll:=ok.oks.len
 have hlim:lim ≥ 1000000:=by decide
 obtain ⟨p,p1,p2,p3⟩:=jZx (N:=N) (l:=l) hN (by omega) (fun i hi=>by
  obtain ⟨_,_,h3,h4⟩:=ok.oks.ok i hi
  omega)
 rw [hll] at p2 p3
 have hpl:p.length=w.Items.length:=by rw [p2.length_eq];unfold OD;simp
 refine ⟨p,?_,p2,p3⟩
 unfold Az
 rw [hp,bS]
 simp only []
 rw [show aC .neq (0:Int) 0=false from rfl,kG,p1,bS]
 have:=Vx (f:=sQ N w (l,0) p) (N:=N) p ([]:List oV) (fun a=>decide (0≤w.Items[a.toNat]!.Kind)) (fun a=>askI w l a.toNat) (fun acc i=>(acc,i)) (fun acc=>acc) (fun i hi acc hacc=>by
  have hm:p[i] ∈ OD w.Items.length:=p2.mem_iff.1 (List.getElem_mem hi)
  unfold OD at hm
  obtain ⟨j,hj,hj2⟩:=List.mem_map.1 hm
  have hj:=List.mem_range.1 hj
  have hji:p[i].toNat=j:=by omega
  obtain ⟨e1,_,_⟩:=IC (N:=N) (ok.okw.it j hj) (ok.oks.ok j (by omega))
  unfold sQ
  simp only []
  rw [bM,dT (by omega),kS,jm hi,bS,hji,← hj2,rH hj,bS,yV,rH (by omega),bS,bS,e1,bS,DW (by rw [List.length_singleton];simp only [List.length_nil] at hacc;omega),bS,oJ (by omega)]
  cases decide (0≤w.Items[j]!.Kind) <;> rfl) (fun acc=>by
  unfold sQ
  simp only []
  rw [bM,dF (by omega),kG]) (by omega)
 have this:dh (sQ N w (l,0) p) N ([],0)=_:=this
 rw [this,bS,List.nil_append];rfl
theorem jJs {A:List oV} (hA:A.length≤1000) (hd:∀ x ∈ A,0≤x.From∧x.From≤1000∧0≤x.To∧x.To≤1000):Dx N w A=some (ja w A):=by
 have hs:=hw.s
 have hlim:lim ≥ 1000000:=by decide
 unfold Dx
 have h2:=Eh (f:=wX N w) (n:=w.bP.length) (N:=N) (fun i=>((⟨(w.bP.take i).map fun s=>⟨s.Name,false,s.Next⟩,w.aW,[],60⟩:ax),(i:Int))) (⟨w.bP.map fun s=>⟨s.Name,false,s.Next⟩,w.aW,[],60⟩:ax) (fun i hi=>by
  unfold wX
  simp only []
  rw [bM,dT (by omega),kS,jm hi,bS,bS,DW (by rw [List.length_map,List.length_take,List.length_singleton];omega),bS,oJ (by omega),List.take_succ_eq_append_getElem hi,List.map_append];rfl) (by
  unfold wX
  simp only []
  rw [bM,dF (by omega),kG,List.take_length]) (by omega)
 have h2:dh (wX N w) N ((⟨[],w.aW,[],60⟩:ax),0)=_:=h2
 have h1:=Eh (f:=wY N A) (n:=A.length) (N:=N) (fun i=>((⟨w.bP.map fun s=>⟨s.Name,false,s.Next⟩,w.aW,(A.take i).map JU,60⟩:ax),(i:Int))) (ja w A) (fun i hi=>by
  have h:=hd A[i] (List.getElem_mem hi)
  unfold wY
  simp only []
  rw [bM,dT (by omega),kS,jm hi,bS,bS,bS,bS,bS,w64 (n:=1440 * A[i].From) (by omega) (by omega),w64 (n:=1440 * A[i].To) (by omega) (by omega),DW (by rw [List.length_map,List.length_take,List.length_singleton];omega),bS,oJ (by omega),List.take_succ_eq_append_getElem hi,List.map_append];rfl) (by
  unfold wY
  simp only []
  rw [bM,dF (by omega),kG,List.take_length];rfl) (by omega)
 have h1:dh (wY N A) N ((⟨w.bP.map fun s=>⟨s.Name,false,s.Next⟩,w.aW,[],60⟩:ax),0)=_:=h1
 rw [h2,bS,h1];rfl
end
end Go.KB
namespace Go.KB
set_option linter.unusedVariables false
set_option maxRecDepth 100000
theorem jJa {a b:Str} {s:dK}:OG a b s=OG b a s:=by unfold OG;rw [Bool.or_comm]
theorem Y0 {w:GWork} {a b:Str}:Kq w a b=Kq w b a:=by
 unfold Kq
 have:OG a b=OG b a:=by funext s;exact jJa
 by_cases h:a=b
 ·subst h;rfl
 ·rw [if_neg h,if_neg (Ne.symm h),this]
theorem jJe {e:dH} {a b:Int}:TR e a b=TR e b a:=by unfold TR;rw [Bool.or_comm]
def exA (w:GWork) (x y:oV):Bool:=w.aW.any fun e=>TR e x.Kind y.Kind&&decide (Kq w x.Space y.Space≤e.Reach)
theorem jZz {w:GWork} {x y:oV}:exA w x y=exA w y x:=by
 unfold exA
 congr 1
 funext e
 rw [jJe,Y0]
structure AskL (w:GWork) (A:List oV):Prop where
 len:A.length≤20
 one:∀ x ∈ A,lD x.Item=true∧0≤x.Kind∧x.Kind≤5∧0≤x.From∧x.From<x.To∧x.To≤400∧BV (LU w) x.Space=true∧∃ i,i<w.Items.length∧w.Items[i]!.Name=x.Item
 two:A.Pairwise fun x y=>x.Item≠y.Item∧x.From≤y.From∧(y.From<x.To→exA w x y=false)
theorem jZv {l:List Str} (h:∀ i,i<l.length→lD l[i]! = true∧BV (l.take i) l[i]! = false) {i j:Nat} (hi:i<l.length) (hj:j<l.length) (e:l[i]! = l[j]!):i=j:=by
 have key:∀ {i j:Nat},i<j→j<l.length→l[i]! ≠ l[j]!:=by
  intro i j hij hj e
  have h2:=(h j hj).2
  have:BV (l.take j) l[j]! = true:=by
   rw [QY,← e,uX (by omega)]
   exact List.mem_of_getElem? (i:=i) (by rw [List.getElem?_take_of_lt hij,List.getElem?_eq_getElem])
  rw [this] at h2;cases h2
 rcases Nat.lt_trichotomy i j with h1 | h1 | h1
 ·exact absurd e (key h1 hj)
 ·exact h1
 ·exact absurd e.symm (key h1 hi)
theorem Y1 (n:Nat):(OD n).Pairwise (· ≠ ·):=by
 unfold OD
 rw [List.pairwise_map]
 exact List.nodup_range.imp fun h e=>h (by omega)
theorem Y2 {w:GWork} {i:Nat} (hi:i<w.Items.length):(KN w)[i]! = w.Items[i]!.Name:=by
 unfold KN
 rw [uX (by simpa using hi),List.getElem_map,uX hi]
theorem jWj {w:GWork} {l:List aK} {p:List Int} (ok:YZ w l) (h19:w.Items.length≤19) (hp:p.Perm (OD w.Items.length)) (hs:∀ u v,u<v→v<w.Items.length→SG l p[u]! ≤ SG l p[v]!):AskL w (Uu w l p):=by
  have hll:=ok.oks.len
  have hpl:p.length=w.Items.length:=by rw [hp.length_eq];unfold OD;simp
  have hel:∀ a ∈ p,∃ i:Nat,a=(i:Int)∧i<w.Items.length:=fun a ha=>by
    have hm:=hp.mem_iff.1 ha
    unfold OD at hm
    obtain ⟨j,hj,rfl⟩:=List.mem_map.1 hm
    exact ⟨j,rfl,List.mem_range.1 hj⟩
  have hnd:p.Pairwise (· ≠ ·):=(hp.pairwise_iff (fun h=>Ne.symm h)).2 (Y1 _)
  have hpw:p.Pairwise fun a b=>a≠b∧SG l a≤SG l b:=by
    rw [List.pairwise_iff_getElem] at hnd ⊢
    intro u v hu hv huv
    refine ⟨hnd u v hu hv huv,?_⟩
    have:=hs u v huv (by omega)
    rw [uX hu,uX hv] at this;exact this
  refine ⟨?_,fun x hx=>?_,?_⟩
  · unfold Uu
    rw [List.length_map]
    have:=List.length_filter_le (fun a:Int=>decide (0≤w.Items[a.toNat]!.Kind)) p
    omega
  · unfold Uu at hx
    obtain ⟨a,ha,rfl⟩:=List.mem_map.1 hx
    obtain ⟨ha1,ha2⟩:=List.mem_filter.1 ha
    obtain ⟨i,rfl,hi⟩:=hel a ha1
    rw [Int.toNat_natCast] at ha2 ⊢
    have hk:=of_decide_eq_true ha2
    have hit:=ok.okw.it i hi
    obtain ⟨_,e2,e3⟩:=IC (N:=0) hit (ok.oks.ok i (by omega))
    obtain ⟨_,_,d1,d2⟩:=ok.oks.ok i (by omega)
    have hla:=ok.last i (by omega)
    have hlast:=ok.okw.last
    have hnm:=(ok.okw.inm i (by unfold KN;simpa using hi)).1
    rw [Y2 hi] at hnm
    exact ⟨hnm,hk,hit.k.2,d1,e2,by show GU l[i]! w.Items[i]! ≤ 400;omega,hit.sp (by omega),i,hi,rfl⟩
  · unfold Uu
    rw [List.pairwise_map]
    refine List.Pairwise.imp_of_mem ?_ (hpw.filter _)
    intro a b ha hb hab
    obtain ⟨i,rfl,hi⟩:=hel a (List.mem_filter.1 ha).1
    obtain ⟨k,rfl,hk⟩:=hel b (List.mem_filter.1 hb).1
    obtain ⟨h1,h2⟩:=hab
    unfold SG at h2
    rw [Int.toNat_natCast,Int.toNat_natCast] at h2 ⊢
    have hik:i≠k:=fun e=>h1 (by rw [e])
    have ki:=of_decide_eq_true (List.mem_filter.1 ha).2
    have kk:=of_decide_eq_true (List.mem_filter.1 hb).2
    rw [Int.toNat_natCast] at ki kk
    have hnl:(KN w).length=w.Items.length:=by unfold KN;simp
    have hne:w.Items[i]!.Name≠w.Items[k]!.Name:=fun e=>hik (jZv ok.okw.inm (by omega) (by omega) (by rw [Y2 hi,Y2 hk,e]))
    obtain ⟨_,ei,_⟩:=IC (N:=0) (ok.okw.it i hi) (ok.oks.ok i (by omega))
    obtain ⟨_,ek,_⟩:=IC (N:=0) (ok.okw.it k hk) (ok.oks.ok k (by omega))
    refine ⟨hne,h2,fun hlt=>?_⟩
    have hlt:l[k]!.day<GU l[i]! w.Items[i]!:=hlt
    have exf:∀ {i k:Nat},i<w.Items.length→k<w.Items.length→0≤w.Items[i]!.Kind→0≤w.Items[k]!.Kind→w.Items[i]!.Name≠w.Items[k]!.Name→apW w w.Items[i]! w.Items[k]! = false→exA w (askI w l i) (askI w l k)=false:=by
      intro i k hi hk ki kk hne h
      unfold apW at h
      rw [Bool.or_eq_false_iff] at h
      have h:=h.2
      unfold exW at h
      rw [dF hne,dF (by omega),dF (by omega)] at h
      exact h
    rcases Nat.lt_or_ge i k with h | h
    · refine exf hi hk ki kk hne (ok.clash i k h (by omega) ?_)
      unfold mtW
      rw [dT (by omega),dT (by omega)];rfl
    · rw [jZz]
      refine exf hk hi kk ki (Ne.symm hne) (ok.clash k i (by omega) (by omega) ?_)
      unfold mtW
      rw [dT (by omega),dT (by omega)];rfl
end Go.KB
namespace Go.KB
set_option linter.unusedVariables false
set_option maxRecDepth 100000
theorem Qi {e:Nat→Int} {Q:Int→Prop} (h0:Q 0):∀ k i,(∀ j,i≤j→j<i+k→Q (e j))→Q (jb e k i)
 | 0,i,_=>h0
 | k+1,i,h=>by
  unfold jb
  by_cases h1:e i=0
  ·rw [if_pos h1];exact Qi h0 k (i+1) fun j a b=>h j (by omega) (by omega)
  ·rw [if_neg h1];exact h i (Nat.le_refl _) (by omega)
section
variable {w:GWork} {A:List oV} (hw:SmW w) (ok:OkW w) (hA:AskL w A)
theorem Vy {i:Nat} (hi:i<w.bP.length):TA (ja w A) i=(LU w)[i]! ∧ (ja w A).bP[i]!.Next=w.bP[i]!.Next∧(ja w A).bP[i]!.Name=w.bP[i]!.Name:=by
 have e:(ja w A).bP[i]! = ⟨w.bP[i]!.Name,false,w.bP[i]!.Next⟩:=by
  unfold ja
  rw [uX (by simpa using hi),List.getElem_map,uX hi]
 have e2:(LU w)[i]! = w.bP[i]!.Name:=by
  unfold LU
  rw [uX (by simpa using hi),List.getElem_map,uX hi]
 unfold TA
 rw [e,e2]
 exact ⟨rfl,rfl,rfl⟩
theorem SH {i:Nat} (hi:i<A.length):(ja w A).aO[i]! = JU A[i]!:=by
 unfold ja
 rw [uX (by simpa using hi),List.getElem_map,uX hi]
theorem SI {s:Str}:DX (ja w A) s=BV (LU w) s:=by
 rw [Bool.eq_iff_iff,jZk,QY]
 unfold ja LU
 simp only [List.mem_map]
 constructor
 ·rintro ⟨y,⟨z,hz,rfl⟩,rfl⟩;exact ⟨z,hz,rfl⟩
 ·rintro ⟨z,hz,rfl⟩;exact ⟨_,⟨z,hz,rfl⟩,rfl⟩
include hA in
theorem OH {i j:Nat} (hi:i<A.length) (hj:j<A.length) (e:A[i]!.Item=A[j]!.Item):i=j:=by
 have h:=hA.two
 rw [List.pairwise_iff_getElem] at h
 rcases Nat.lt_trichotomy i j with h1 | h1 | h1
 ·have:=(h i j hi hj h1).1
  rw [uX hi,uX hj] at e;exact absurd e this
 ·exact h1
 ·have:=(h j i hj hi h1).1
  rw [uX hi,uX hj] at e;exact absurd e.symm this
include hw ok hA in
theorem off_sm:NV (ja w A):=by
 have h1:=ok.s12;have h2:=ok.e30;have h3:=hA.len
 refine ⟨by unfold ja;simp;omega,by unfold ja;simp only [];omega,by unfold ja;simp;omega,fun y hy=>?_,fun y hy=>?_⟩
 ·unfold ja at hy
  simp only [List.mem_map] at hy
  obtain ⟨s,hs,rfl⟩:=hy
  obtain ⟨i,hi,rfl⟩:=List.getElem_of_mem hs
  have:=hw.n i hi
  rw [uX hi] at this
  simp only [];omega
 ·unfold ja at hy
  simp only [List.mem_map] at hy
  obtain ⟨s,hs,rfl⟩:=hy
  simp [JU]
include hw ok hA in
theorem jJt:vP (ja w A)=0∨vP (ja w A)=3:=by
 have h1:=ok.s12;have h2:=ok.e30;have h3:=hA.len
 have l1:(ja w A).bP.length=w.bP.length:=by unfold ja;simp
 have l2:(ja w A).aO.length=A.length:=by unfold ja;simp
 have l3:(LU w).length=w.bP.length:=by unfold LU;simp
 have s1:jb (eSp (ja w A)) (ja w A).bP.length 0=0:=Qi (Q:=fun e=>e=0) rfl _ _ fun j _ hj=>by
  have hj:j<w.bP.length:=by omega
  obtain ⟨e1,e2,e3⟩:=Vy (A:=A) hj
  have hn:=ok.snm j (by omega)
  have hd:dup (TA (ja w A)) j (TA (ja w A) j)=false:=by
   rw [Bool.eq_false_iff]
   intro h
   obtain ⟨m,hm,he⟩:=(OI _ _ _).1 h
   rw [(Vy (A:=A) (show m<w.bP.length by omega)).1,e1] at he
   have:=jZv ok.snm (by omega) (by omega) he
   omega
  have hx:=hw.n j hj
  unfold eSp
  rw [hd,e1,e2,hn.1,if_neg (by simp),if_neg (by simp),if_neg (by omega)]
 have s2:jb (Vz (ja w A)) (ja w A).bP.length 0=0∨jb (Vz (ja w A)) (ja w A).bP.length 0=3:=Qi (Q:=fun e=>e=0∨e=3) (.inl rfl) _ _ fun j _ hj=>by
  have hj:j<w.bP.length:=by omega
  obtain ⟨e1,e2,e3⟩:=Vy (A:=A) hj
  unfold Vz
  refine Qi (Q:=fun e=>e=0∨e=3) (.inl rfl) _ _ fun k _ hk=>?_
  rw [e2] at hk
  have hin:DX (ja w A) w.bP[j]!.Next[k]! = true:=by
   rw [SI]
   exact ok.nx j hj _ (DT (by omega))
  unfold eNx
  rw [e2,hin,if_neg (by simp)]
  split
  ·exact .inr rfl
  ·exact .inl rfl
 have s3:jb (eEx (ja w A)) (ja w A).aW.length 0=0:=Qi (Q:=fun e=>e=0) rfl _ _ fun j _ hj=>by
  have hx:=ok.ex j (by unfold ja at hj;simp only [] at hj;omega)
  unfold eEx
  rw [show (ja w A).aW=w.aW from rfl,if_neg]
  unfold Ei
  rw [dT hx.1.1,dT hx.1.2,dT hx.2.1.1,dT hx.2.1.2]
  rintro (h | h | h | h)
  ·cases h
  ·cases h
  ·omega
  ·omega
 have s4:jb (ePm (ja w A)) (ja w A).aO.length 0=0:=Qi (Q:=fun e=>e=0) rfl _ _ fun j _ hj=>by
  have hj:j<A.length:=by omega
  have e:=SH (w:=w) hj
  have hm:=hA.one A[j]! (by rw [uX hj];exact List.getElem_mem hj)
  have hd:dup (VA (ja w A)) j (VA (ja w A) j)=false:=by
   rw [Bool.eq_false_iff]
   intro h
   obtain ⟨m,hm,he⟩:=(OI _ _ _).1 h
   unfold VA at he
   rw [SH (w:=w) (show m<A.length by omega),e] at he
   have:=OH hA (show m<A.length by omega) hj he
   omega
  obtain ⟨n1,n2,n3,n4,n5,n6,n7,_⟩:=hm
  have hn:VA (ja w A) j=A[j]!.Item:=by unfold VA;rw [e];rfl
  unfold ePm
  rw [hd,hn,n1,e,if_neg (by simp),if_neg (by simp),if_neg,if_neg,if_neg (by simp [JU])]
  ·rw [SI]
   show ¬ BV (LU w) A[j]!.Space=false
   rw [n7];simp
  ·unfold Ei JU
   simp only []
   rw [dT n2,dT n3]
   rintro (h | h | h | h)
   ·cases h
   ·omega
   ·omega
   ·omega
 have s5:jb (Y3 (ja w A)) (ja w A).aO.length 0=0:=Qi (Q:=fun e=>e=0) rfl _ _ fun j _ hj=>by
  have hj:j<A.length:=by omega
  unfold Y3
  rw [SH hj];rfl
 unfold vP
 rw [if_neg (by rw [l1,l2];show ¬ (30<w.bP.length∨30<w.aW.length∨20<A.length);omega),if_neg (by show ¬ ((60:Int)<1∨(10000:Int)<60);omega),s1,s3,s4,s5]
 rcases s2 with h | h
 ·rw [h];exact .inl rfl
 ·rw [h];exact .inr rfl
end
end Go.KB
namespace Go.KB
set_option linter.unusedVariables false
set_option maxRecDepth 100000
section
variable {w:GWork} {A:List oV}
theorem jZw {s:Str}:(Dj (ja w A) s).fU=false:=by
 cases h:DX (ja w A) s with
 | true =>
  have:=(SK h).1
  generalize Dj (ja w A) s=y at this
  unfold ja at this
  simp only [List.mem_map] at this
  obtain ⟨z,_,rfl⟩:=this
  rfl
 | false =>
  unfold Dj D6
  cases hf:(ja w A).bP.find? (isS s) with
  | none=>rfl
  | some y =>
   exfalso
   have h1:=List.find?_some hf
   have h2:=List.mem_of_find?_eq_some hf
   have:DX (ja w A) s=true:=by unfold DX;exact List.any_eq_true.2 ⟨y,h2,h1⟩
   rw [this] at h;cases h
theorem jZy {x:aQ}:Kr (ja w A) x=[]:=by
 unfold Kr
 rw [jZw,Bool.and_false,kG,List.nil_append]
 cases decide (x.Kind=0) with
 | false=>rfl
 | true =>
  rw [kS]
  have:(ja w A).bP.filter (fun s=>s.fU&&decide (rQ (ja w A) s.Name (Dj (ja w A) x.Space).Name=1))=[]:=by
   rw [List.filter_eq_nil_iff]
   intro s hs
   unfold ja at hs
   simp only [List.mem_map] at hs
   obtain ⟨z,_,rfl⟩:=hs
   simp
  rw [this];rfl
theorem Xl {S:AO} {x:aQ}:Kt (ja w A) S x=[]:=by unfold Kt;rw [jZy];rfl
theorem Xm {x:aQ} (hx:x ∈ (ja w A).aO):x.Locks=[]:=by
 unfold ja at hx
 simp only [List.mem_map] at hx
 obtain ⟨z,_,rfl⟩:=hx
 rfl
theorem jWv {S:AO} {x:aQ} (hx:x ∈ (ja w A).aO):DY (ja w A) S x=false:=by
 unfold DY NW
 rw [Xl,Xm hx];rfl
theorem jWk {S:AO}:Ht (ja w A) S=S:=by
 have:(fun s=>bif pF (ja w A) s&&decide (stA S s=2)&&DY (ja w A) S (xK (ja w A) s) then { S.es s with state:=3 } else S.es s)=S.es:=by
  funext s
  cases h:pF (ja w A) s with
  | false=>rfl
  | true=>rw [jWv (CB h).1,Bool.and_false];rfl
 unfold Ht
 rw [this]
theorem GV {S:AO}:iY (ja w A) S=Jh (ja w A) S:=jWk
theorem jZu {a b:Str} (ha:BV (LU w) a=true) (hb:BV (LU w) b=true):Kq w a b≤rQ (ja w A) a b:=by
 unfold Kq rQ
 by_cases h:a=b
 ·rw [if_pos h,if_pos h];exact Int.le_refl _
 ·rw [if_neg h,if_neg h]
  have key:∀ {a b:Str},BV (LU w) a=true→BV (Dj (ja w A) a).Next b=true→∃ s ∈ w.bP,s.Name=a∧BV s.Next b=true:=by
   intro a b ha hn
   have hs:=SK (show DX (ja w A) a=true by rw [SI];exact ha)
   generalize Dj (ja w A) a=y at hs hn
   obtain ⟨h1,h2⟩:=hs
   unfold ja at h1
   simp only [List.mem_map] at h1
   obtain ⟨z,hz,rfl⟩:=h1
   exact ⟨z,hz,h2,hn⟩
  cases h1:(BV (Dj (ja w A) a).Next b||BV (Dj (ja w A) b).Next a) with
  | false =>
   rw [kG]
   split <;> omega
  | true =>
   have hany:(w.bP.any (OG a b))=true:=by
    rw [Bool.or_eq_true] at h1
    rcases h1 with h1 | h1
    ·obtain ⟨s,hs,e1,e2⟩:=key ha h1
     refine List.any_eq_true.2 ⟨s,hs,?_⟩
     unfold OG;rw [dT e1,e2];rfl
    ·obtain ⟨s,hs,e1,e2⟩:=key hb h1
     refine List.any_eq_true.2 ⟨s,hs,?_⟩
     unfold OG;rw [dT e1,e2];simp
   rw [if_pos hany,kS];exact Int.le_refl _
theorem jZg {x y:oV} (hx:BV (LU w) x.Space=true) (hy:BV (LU w) y.Space=true) (h:exA w x y=false):xN (ja w A) (JU x) (JU y)=false:=by
 unfold xN
 cases decide ((JU x).Name=(JU y).Name) with
 | true=>rfl
 | false =>
  rw [kG]
  unfold exA at h
  rw [List.any_eq_false] at h ⊢
  intro e he hc
  refine h e he ?_
  unfold exE at hc
  rw [Bool.and_eq_true,decide_eq_true_eq] at hc
  have:=jZu (A:=A) hx hy
  rw [Bool.and_eq_true,decide_eq_true_eq]
  have hc1:rQ (ja w A) x.Space y.Space≤e.Reach:=hc.1
  exact ⟨hc.2,by omega⟩
end
end Go.KB
namespace Go.KB
set_option linter.unusedVariables false
set_option maxRecDepth 100000
def PE:Str:=[97,110,110]
def bobS:Str:=[98,111,98]
def YX (x:oV):cu:=⟨0,1,x.Item,[],PE,0,0,0⟩
def Ut (x:oV):cu:=⟨1440 * x.From,2,x.Item,[],bobS,0,0,0⟩
section
variable {w:GWork} {A:List oV} (hA:AskL w A) (ho:QG (ja w A))
theorem LV {p:ax} {B:AO} {s:Str} (h:B.now<(B.es s).Es):(Jh p B).es s=B.es s:=by
 unfold Jh QH
 simp only []
 rw [dF (show ¬ (B.es s).Es≤B.now by omega),Bool.and_false,kG]
 cases pF p s <;> rfl
theorem ZO {i:Nat} (hi:i<A.length):JU A[i]! ∈ (ja w A).aO:=by
 unfold ja
 exact List.mem_map.2 ⟨A[i]!,by rw [uX hi];exact List.getElem_mem hi,rfl⟩
theorem OJ {i:Nat} (hi:i<A.length):pF (ja w A) A[i]!.Item=true:=DU.2 ⟨_,ZO hi,rfl⟩
include ho in
theorem Y4 {i:Nat} (hi:i<A.length):xK (ja w A) A[i]!.Item=JU A[i]!:=ho.NY (ZO hi)
include hA in
theorem DR {i:Nat} (hi:i<A.length):0≤A[i]!.From∧A[i]!.From<A[i]!.To∧A[i]!.To≤400∧BV (LU w) A[i]!.Space=true:=by
 obtain ⟨_,_,_,a,b,c,d,_⟩:=hA.one A[i]! (by rw [uX hi];exact List.getElem_mem hi)
 exact ⟨a,b,c,d⟩
include hA in
theorem OL {i j:Nat} (hij:i<j) (hj:j<A.length):A[i]!.From≤A[j]!.From∧(A[j]!.From<A[i]!.To→exA w A[i]! A[j]! = false):=by
 have:=hA.two
 rw [List.pairwise_iff_getElem] at this
 have:=this i j (by omega) hj hij
 rw [uX hj,uX (show i<A.length by omega)]
 exact this.2
structure Ph1 (w:GWork) (A:List oV) (i:Nat) (S:AO):Prop where
 inv:VB (ja w A) S
 now:S.now=0
 pp:S.pp=[]
 dl:S.done.length=i
 es:∀ j,j<A.length→S.es A[j]!.Item=if j<i then ⟨1,PE,1440 * A[j]!.To⟩ else ⟨0,[],1440 * A[j]!.To⟩
include hA ho in
theorem jWq:Ph1 w A 0 (newA (ja w A)):=by
 refine ⟨jWw ho,rfl,rfl,rfl,fun j hj=>?_⟩
 have h:=DR hA hj
 rw [if_neg (Nat.not_lt_zero _)]
 unfold newA
 rw [GV,LV]
 ·simp only []
  rw [OJ hj,kS,Y4 ho hj];rfl
 ·simp only []
  rw [OJ hj,kS,Y4 ho hj]
  show 0<1440 * A[j]!.To
  omega
include hA ho in
theorem jX8 {i:Nat} {S:AO} (h:Ph1 w A i S) (hi:i<A.length):(TQ (ja w A) S (YX A[i]!)).2.2=0∧Ph1 w A (i+1) (TQ (ja w A) S (YX A[i]!)).1:=by
  have hinv:=(jZb (x:=YX A[i]!) ho h.inv).1
  have hS:S.now=0:=h.now
  obtain ⟨S0,hS0⟩:∃ S0,S0=iY (ja w A) { S with now:=0 }:=⟨_,rfl⟩
  have e0:∀ j,j<A.length→S0.es A[j]!.Item=S.es A[j]!.Item:=fun j hj=>by
    have ho1:=DR hA hj
    rw [hS0,GV,LV]
    show 0<(S.es A[j]!.Item).Es
    rw [h.es j hj]
    split <;> · show 0<1440 * A[j]!.To;omega
  have e1:S0.es A[i]!.Item=⟨0,[],1440 * A[i]!.To⟩:=by rw [e0 i hi,h.es i hi,if_neg (Nat.lt_irrefl _)]
  have hdo:TQ (ja w A) S (YX A[i]!)=({ iY (ja w A) (ZP S0 A[i]!.Item ⟨1,PE,1440 * A[i]!.To⟩) with done:=S.done ++ [YX A[i]!] },[],0):=by
    unfold TQ
    have hact:OM (ja w A) S0 (YX A[i]!)=Ji (ZP S0 A[i]!.Item ⟨1,PE,1440 * A[i]!.To⟩):=by
      unfold OM
      rw [show FP (YX A[i]!).Op=some [0] from rfl]
      simp only []
      rw [show (YX A[i]!).Name=A[i]!.Item from rfl,OJ hi,Bool.not_true,kG]
      unfold stA
      rw [e1]
      show Jj S0 (YX A[i]!)=_
      unfold Jj
      rw [show lD (YX A[i]!).Person=true from (by decide:lD PE=true),Bool.not_true,kG,show (YX A[i]!).Name=A[i]!.Item from rfl,e1];rfl
    rw [hS,show (YX A[i]!).At=0 from rfl,show (YX A[i]!).Op=1 from rfl]
    show (let r:=OM (ja w A) (iY (ja w A) { S with now:=0 }) (YX A[i]!);_)=_
    rw [← hS0,hact];rfl
  rw [hdo] at hinv ⊢
  refine ⟨rfl,hinv,?_,?_,by simp [h.dl],fun j hj=>?_⟩
  · show S0.now=0
    rw [hS0];rfl
  · show S0.pp=[]
    rw [hS0];exact h.pp
  · have ho1:=DR hA hj
    have hn0:S0.now=0:=by rw [hS0];rfl
    show (iY (ja w A) (ZP S0 A[i]!.Item ⟨1,PE,1440 * A[i]!.To⟩)).es A[j]!.Item=_
    have hup:(ZP S0 A[i]!.Item ⟨1,PE,1440 * A[i]!.To⟩).es A[j]!.Item=if j<i+1 then ⟨1,PE,1440 * A[j]!.To⟩ else ⟨0,[],1440 * A[j]!.To⟩:=by
      rw [Xn]
      by_cases e:j=i
      · subst e;rw [if_pos rfl,if_pos (by omega)]
      · rw [if_neg (fun x => e (OH hA hj hi x)), e0 j hj, h.es j hj]
        by_cases hlt:j<i
        · rw [if_pos hlt,if_pos (by omega)]
        · rw [if_neg hlt,if_neg (by omega)]
    rw [GV,LV,hup]
    rw [hup]
    show S0.now<_
    rw [hn0]
    split <;> · show 0<1440 * A[j]!.To;omega
structure Ph2 (w:GWork) (A:List oV) (i:Nat) (S:AO):Prop where
 inv:VB (ja w A) S
 now:∀ k,i≤k→k<A.length→S.now≤1440 * A[k]!.From
 pp:S.pp=[]
 dl:S.done.length≤20+i
 es1:∀ j,i≤j→j<A.length→S.es A[j]!.Item=⟨1,PE,1440 * A[j]!.To⟩
 es2:∀ j,j<i→j<A.length→(S.es A[j]!.Item).Es=1440 * A[j]!.To
include hA in
theorem jWx {S:AO} (h:Ph1 w A A.length S):Ph2 w A 0 S:=by
 have hl:=hA.len
 refine ⟨h.inv,fun k _ hk=>?_,h.pp,by rw [h.dl];omega,fun j _ hj=>?_,fun j hj=>absurd hj (Nat.not_lt_zero _)⟩
 ·have:=DR hA hk
  rw [h.now];omega
 ·rw [h.es j hj,if_pos hj]
include hA ho in
theorem jX9 {i:Nat} {S:AO} (h:Ph2 w A i S) (hi:i<A.length):(TQ (ja w A) S (Ut A[i]!)).2.2=0∧Ph2 w A (i+1) (TQ (ja w A) S (Ut A[i]!)).1∧(TQ (ja w A) S (Ut A[i]!)).1.now=1440 * A[i]!.From:=by
 have hinv:=(jZb (x:=Ut A[i]!) ho h.inv).1
 have hone:=DR hA hi
 have WU:=h.now i (Nat.le_refl _) hi
 obtain ⟨T,hT⟩:∃ T,T=1440 * A[i]!.From:=⟨_,rfl⟩
 obtain ⟨S0,hS0⟩:∃ S0,S0=iY (ja w A) { S with now:=T }:=⟨_,rfl⟩
 have hn0:S0.now=T:=by rw [hS0];rfl
 have hp0:S0.pp=[]:=by rw [hS0];exact h.pp
 have hto:∀ s,(S0.es s).Es=(S.es s).Es:=fun s=>by rw [hS0];exact MR
 have e0:∀ j,i≤j→j<A.length→S0.es A[j]!.Item=⟨1,PE,1440 * A[j]!.To⟩:=fun j hij hj=>by
  have ho1:=DR hA hj
  have hle:A[i]!.From≤A[j]!.From:=by
   by_cases e:i=j
   ·subst e;exact Int.le_refl _
   ·exact (OL hA (show i<j by omega) hj).1
  rw [hS0,GV,LV]
  ·exact h.es1 j hij hj
  ·show T<(S.es A[j]!.Item).Es
   rw [h.es1 j hij hj]
   show T<1440 * A[j]!.To
   omega
 have e1:=e0 i (Nat.le_refl _) hi
 -- what is open excludes not
 have hex:rC (ja w A) S0 (fun y=>xN (ja w A) y (JU A[i]!))=[]:=by
  unfold rC
  rw [List.map_eq_nil_iff,List.filter_eq_nil_iff]
  intro y hy hc
  rw [Bool.and_eq_true,decide_eq_true_eq] at hc
  obtain ⟨hc1,hc2⟩:=hc
  have hy2:=hy
  unfold ja at hy2
  simp only [List.mem_map] at hy2
  obtain ⟨z,hz,rfl⟩:=hy2
  obtain ⟨j,hj,rfl⟩:=List.getElem_of_mem hz
  rw [← uX hj] at hc1 hc2
  have hst:stA S0 A[j]!.Item=2:=hc1
  have hji:j<i:=by
   refine Nat.lt_of_not_le fun hle=>?_
   unfold stA at hst
   rw [e0 j hle hj] at hst
   simp at hst
  have hlt:T<1440 * A[j]!.To:=by
   have hli:=Uw (A:={ S with now:=T }) (OJ (w:=w) hj) (by rw [← hS0];omega)
   rw [← hS0,hto] at hli
   rw [h.es2 j hji hj] at hli
   exact hli
  have hoj:=DR hA hj
  have:=(OL hA hji hi).2 (by omega)
  have hc2:xN (ja w A) (JU A[j]!) (JU A[i]!)=true:=hc2
  rw [jZg hoj.2.2.2 hone.2.2.2 this] at hc2
  cases hc2
 have hwhy:QI (ja w A) S0 (JU A[i]!)=[]:=by
  unfold QI
  rw [hex,Xl,show NW S0 (JU A[i]!)=[] from rfl]
  rw [show decide (S0.now<(JU A[i]!).From)=false from dF (by rw [hn0,hT];exact Int.lt_irrefl _),kG,List.nil_append]
  unfold D7
  rw [hp0]
  cases decide ((JU A[i]!).Kind=3) <;> rfl
 have hdo:TQ (ja w A) S (Ut A[i]!)=({ iY (ja w A) (beA S0 A[i]!.Item 2) with done:=S.done ++ [Ut A[i]!] },[],0):=by
  have hact:OM (ja w A) S0 (Ut A[i]!)=Ji (beA S0 A[i]!.Item 2):=by
   unfold OM
   rw [show FP (Ut A[i]!).Op=some [1] from rfl]
   simp only []
   rw [show (Ut A[i]!).Name=A[i]!.Item from rfl,OJ hi,Bool.not_true,kG]
   unfold stA
   rw [e1]
   show IE (ja w A) S0 (Ut A[i]!)=_
   unfold IE
   rw [show lD (Ut A[i]!).Person=true from (by decide:lD bobS=true),Bool.not_true,kG,show (Ut A[i]!).Name=A[i]!.Item from rfl,e1,show decide ((Ut A[i]!).Person=(⟨1,PE,1440 * A[i]!.To⟩:ai).N9)=false from (by decide:decide (bobS=PE)=false),kG,Y4 ho hi,hwhy]
  unfold TQ
  rw [show (Ut A[i]!).At=T from hT.symm,show (Ut A[i]!).Op=2 from rfl,dF (show ¬ (2:Int)<0 by decide),dF (show ¬ (12:Int)≤2 by decide),dF (show ¬ T<0 by omega),dF (show ¬ 1000000<T by omega),Bool.or_self,Bool.or_self,Bool.or_self,kG,dF (show ¬ T<S.now by omega),kG]
  show (let r:=OM (ja w A) (iY (ja w A) { S with now:=T }) (Ut A[i]!);_)=_
  rw [← hS0,hact];rfl
 rw [hdo] at hinv ⊢
 refine ⟨rfl,⟨hinv,fun k hk1 hk=>?_,?_,?_,fun j hj1 hj=>?_,fun j hji hj=>?_⟩,?_⟩
 ·show S0.now≤_
  have:=(OL hA (show i<k by omega) hk).1
  omega
 ·show S0.pp=[]
  exact hp0
 ·show (S.done ++ [Ut A[i]!]).length≤20+(i+1)
  have:=h.dl
  rw [List.length_append,List.length_singleton];omega
 ·show (iY (ja w A) (beA S0 A[i]!.Item 2)).es A[j]!.Item=_
  have ho1:=DR hA hj
  have hle:=(OL hA (show i<j by omega) hj).1
  have hb:(beA S0 A[i]!.Item 2).es A[j]!.Item=⟨1,PE,1440 * A[j]!.To⟩:=by
   unfold beA
   rw [Xn,if_neg (fun x=>(show j≠i by omega) (OH hA hj hi x))]
   exact e0 j (by omega) hj
  rw [GV,LV,hb]
  rw [hb]
  show S0.now<1440 * A[j]!.To
  omega
 ·show ((iY (ja w A) (beA S0 A[i]!.Item 2)).es A[j]!.Item).Es=_
  rw [MR]
  unfold beA
  rw [Xn]
  by_cases e:A[j]!.Item=A[i]!.Item
  ·rw [if_pos e,← e]
   show (S0.es A[j]!.Item).Es=_
   have:=OH hA hj hi e
   subst this
   rw [e1]
  ·rw [if_neg e,hto]
   exact h.es2 j (by
    by_cases e2:j=i
    ·subst e2;exact absurd rfl e
    ·omega) hj
 ·show S0.now=_
  rw [hn0,hT]
end
end Go.KB
namespace Go.KB
set_option linter.unusedVariables false
set_option maxRecDepth 100000
section
variable {N:Nat} {w:GWork} {A:List oV} (hA:AskL w A) (hN:2 ^ 64≤N)
theorem jJ0 {nm:Str} (hw:w.Items.length≤1000) (h:∃ i,i<w.Items.length∧w.Items[i]!.Name=nm) (hN:2 ^ 64≤N):∃ k:Nat,yc N w nm=some (k:Int):=by
 have hix:yc N w nm=some (Ku (fun x=>decide (x.Name=nm)) w.Items):=by
  unfold yc
  refine xW (fun i hi=>?_) ?_ (by omega)
  ·unfold yQ
   rw [bM,dT (by omega),kS,jm hi,bS,rD,oJ (by omega)]
  ·unfold yQ
   rw [bM,dF (by omega),kG]
 obtain ⟨i,hi,he⟩:=h
 have hany:w.Items.any (fun x=>decide (x.Name=nm))=true:=List.any_eq_true.2 ⟨w.Items[i]!,DT hi,dT he⟩
 have h1:=PG (g:=fun x:fQ=>decide (x.Name=nm)) (l:=w.Items)
 rw [hany] at h1
 simp at h1
 exact ⟨_,by rw [hix];exact congrArg some (Int.toNat_of_nonneg h1).symm⟩
include hA hN in
theorem Y5 {j:Nat} {T:Int} (hj:j<A.length) (h1:1440 * A[j]!.From≤T) (h2:T<1440 * A[j]!.To):BI N A A[j]!.Item T=some true:=by
 have hl:=hA.len
 have hloop:dh (yK N A A[j]!.Item T) N 0=some (.inr true):=by
  refine Ib A.length _ (fun i=>i≤j) ?_ ?_ (Nat.zero_le _) N (by omega)
  ·intro i hi hij
   have ho1:=DR hA hi
   by_cases e:i=j
   ·right
    subst e
    unfold yK
    rw [bM,dT (by omega),kS,rH hi,bS,rD,dT rfl,kS,bS,Bool.true_and,yV,w64 (by omega) (by omega),dT h1,kS,bS,Bool.true_and,bM,w64 (by omega) (by omega),dT h2,kS]
   ·left
    refine ⟨?_,by omega⟩
    unfold yK
    rw [bM,dT (by omega),kS,rH hi,bS,rD,dF (fun x=>e (OH hA hi hj x)),kG,bS,Bool.false_and,kG,bS,Bool.false_and,kG,oJ (by omega)]
  ·intro h
   omega
 unfold BI
 rw [hloop];rfl
end
end Go.KB
namespace Go.KB
set_option linter.unusedVariables false
set_option maxRecDepth 100000
section
variable {N:Nat} {w:GWork} {A:List oV} (hA:AskL w A) (ho:QG (ja w A)) (hN:2 ^ 64≤N)
def IB (w:GWork) (A:List oV) (S:AO):List Str:=rC (ja w A) S fun _=>true
include hA in
theorem jWy {i:Nat} {S:AO} (h:Ph2 w A (i+1) S) (hn:S.now=1440 * A[i]!.From) (hi:i<A.length) {s:Str} (hs:s ∈ IB w A S):∃ j,j<A.length∧A[j]!.Item=s∧1440 * A[j]!.From≤S.now∧S.now<1440 * A[j]!.To∧stA S s=2:=by
 unfold IB rC at hs
 obtain ⟨y,hy,rfl⟩:=List.mem_map.1 hs
 obtain ⟨hy1,hy2⟩:=List.mem_filter.1 hy
 rw [Bool.and_true,decide_eq_true_eq] at hy2
 have hyo:=hy1
 unfold ja at hy1
 simp only [List.mem_map] at hy1
 obtain ⟨z,hz,rfl⟩:=hy1
 obtain ⟨j,hj,rfl⟩:=List.getElem_of_mem hz
 have hst:stA S A[j].Item=2:=hy2
 rw [← uX hj] at hst
 have hji:j≤i:=by
  refine Nat.le_of_not_lt fun hlt=>?_
  unfold stA at hst
  rw [h.es1 j hlt hj] at hst
  simp at hst
 have hli:=h.inv.li _ hyo (by show stA S A[j].Item≤3;rw [uX hj] at hst;omega)
 have hto:=h.es2 j (by omega) hj
 have hfr:A[j]!.From≤A[i]!.From:=by
  by_cases e:j=i
  ·subst e;exact Int.le_refl _
  ·exact (OL hA (show j<i by omega) hi).1
 have hli2:S.now<(S.es A[j]!.Item).Es:=by rw [uX hj];exact hli
 refine ⟨j,hj,by rw [uX hj];rfl,by omega,by omega,?_⟩
 show stA S A[j].Item=2
 rw [← uX hj];exact hst
include hA in
theorem opn_ok {i:Nat} {S:AO} (h:Ph2 w A (i+1) S) (hc:vP (ja w A)=0):ZQ (ja w A) (IB w A S)=(true,0):=by
 have hmem:∀ s ∈ IB w A S,∃ y ∈ (ja w A).aO,y.Name=s∧stA S s=2:=fun s hs=>by
  unfold IB rC at hs
  obtain ⟨y,hy,rfl⟩:=List.mem_map.1 hs
  obtain ⟨hy1,hy2⟩:=List.mem_filter.1 hy
  rw [Bool.and_true,decide_eq_true_eq] at hy2
  exact ⟨y,hy1,rfl,hy2⟩
 have hpw:(IB w A S).Pairwise (· ≠ ·):=by
  unfold IB rC
  rw [List.pairwise_map]
  refine List.Pairwise.filter _ ?_
  unfold ja
  rw [List.pairwise_map]
  exact hA.two.imp fun h=>h.1
 have hE:Xo (ja w A) (IB w A S)=0:=by
  unfold Xo
  refine Qi (Q:=fun e=>e=0) rfl _ _ fun j _ hj=>?_
  have hj:j<(IB w A S).length:=by omega
  obtain ⟨y,hy,hyn,_⟩:=hmem _ (DT hj)
  have h1:pF (ja w A) (IB w A S)[j]! = true:=DU.2 ⟨y,hy,hyn⟩
  have h2:BV ((IB w A S).take j) (IB w A S)[j]! = false:=by
   rw [Bool.eq_false_iff]
   intro hin
   rw [QY] at hin
   obtain ⟨m,hm,he⟩:=List.getElem_of_mem hin
   rw [List.length_take] at hm
   rw [List.getElem_take] at he
   rw [List.pairwise_iff_getElem] at hpw
   exact hpw m j (by omega) hj (by omega) (by rw [he,uX hj])
  unfold eC
  rw [h1,h2,if_neg (by simp),if_neg (by simp)]
 have hP:Qj (ja w A) ((IB w A S).map (xK (ja w A)))=true:=by
  rw [jJ1]
  have hat:∀ x ∈ (IB w A S).map (xK (ja w A)),x ∈ (ja w A).aO∧stA S x.Name=2:=fun x hx=>by
   obtain ⟨s,hs,rfl⟩:=List.mem_map.1 hx
   obtain ⟨y,hy,hyn,hst⟩:=hmem s hs
   have:=CB (DU.2 ⟨y,hy,hyn⟩)
   exact ⟨this.1,by rw [this.2];exact hst⟩
  refine ⟨fun x hx y hy=>?_,fun x hx k hk=>?_⟩
  ·exact h.inv.w.ex x (hat x hx).1 y (hat y hy).1 (hat x hx).2 (hat y hy).2
  ·rw [Xm (hat x hx).1] at hk;cases hk
 unfold ZQ
 rw [hc,if_neg (by simp),hE,if_pos rfl,hP]
theorem jZj {g:ah} {st:List (Str×ai)} {ru:List (Str×au)} {pe:List (Str×Str)} {S:AO} (hpe:pe.Perm S.pp) (hp:S.pp=[]):qZ N g st ru pe=some []:=by
 rw [hp] at hpe
 have:pe=[]:=List.Perm.eq_nil hpe
 subst this
 have h:=SL (A:=S) (pe:=[]) (f:=kW N g st ru) (so:=fun _=>false) (by rw [hp]) (by rw [hp];exact List.Pairwise.nil) (by rw [hp];simp) (fun acc q hq=>by cases hq)
 have h2:D7 S (fun _=>false)=[]:=by unfold D7;rw [hp];rfl
 rw [h2] at h
 unfold qZ
 have h3:lI N g st ru []=some []:=h
 rw [h3];rfl
include hA hN in
theorem l4_ok {i:Nat} {S:AO} (h:Ph2 w A (i+1) S) (hn:S.now=1440 * A[i]!.From) (hi:i<A.length) (hw:w.Items.length≤1000):dh (pG N w (A,0) A[i]! (IB w A S)) N 0=some (.inl ()):=by
 have hlen:(IB w A S).length≤20:=by
  have hl:=hA.len
  unfold IB rC
  rw [List.length_map]
  refine Nat.le_trans (List.length_filter_le _ _) ?_
  have l2:(ja w A).aO.length=A.length:=by unfold ja;simp
  omega
 have ho1:=DR hA hi
 refine Ib (IB w A S).length _ (fun _=>True) ?_ ?_ trivial N (by omega)
 ·intro m hm _
  refine .inl ⟨?_,trivial⟩
  obtain ⟨j,hj,he,h1,h2,_⟩:=jWy hA h hn hi (DT hm)
  obtain ⟨_,_,_,_,_,_,_,hx⟩:=hA.one A[j]! (DT hj)
  rw [he] at hx
  obtain ⟨k,hk⟩:=jJ0 (N:=N) hw hx hN
  have hwt:=Y5 hA hN hj (T:=1440 * A[i]!.From) (by omega) (by omega)
  rw [he] at hwt
  unfold pG
  rw [bM,dT (by omega),kS,rH hm,bS,hk,bS,bM,dF (by omega),Bool.not_false,kS,bS,kS,w64 (n:=1440 * A[i]!.From) (by omega) (by omega)]
  simp only []
  rw [hwt,bS,Bool.not_true,Bool.or_self,kG,oJ (by omega)]
 ·intro _
  unfold pG
  rw [bM,dF (by omega),kG]
end
end Go.KB
