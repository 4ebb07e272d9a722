/- The cells that are connected and the rectangle around them. No condition. -/
import Derived.Test.YtmkofmfndcoflaaPRj
namespace Go.KB
set_option linter.unusedVariables false
def ci (l:List Nat):List Int:=l.map fun (i:Nat)=>(i:Int)
theorem xM (l:List Nat):(ci l).length=l.length:=by unfold ci;rw [List.length_map]
def qH (C R c:Nat) (d:Int×Int):Option Nat :=
  if ((c % C:Nat):Int)+d.1<0∨(C:Int)≤((c % C:Nat):Int)+d.1∨((c / C:Nat):Int)+d.2<0∨(R:Int)≤((c / C:Nat):Int)+d.2 then none
  else some ((((c / C:Nat):Int)+d.2) * (C:Int)+(((c % C:Nat):Int)+d.1)).toNat
def zx:List (Int×Int):=[(1,0),(-1,0),(0,1),(0,-1)]
def visit (g:List Int) (s:List Bool×List Nat) (o:Option Nat):List Bool×List Nat :=
  match o with
  | none=>s
  | some d=>bif decide (g[d]! = 3) && !s.1[d]! then (s.1.set d true,s.2 ++ [d]) else s
def lQ (g:List Int) (C R c:Nat) (s:List Bool×List Nat):List Bool×List Nat:=zx.foldl (fun s d=>visit g s (qH C R c d)) s
structure BS where
  seen:List Bool
  q:List Nat
  l:Nat
  r:Nat
  t:Nat
  w:Nat
def jX (g:List Int) (C R:Nat) (s:BS) (c:Nat) (q:List Nat):BS :=
  ⟨(lQ g C R c (s.seen,q)).1,(lQ g C R c (s.seen,q)).2,min s.l (c % C),max s.r (c % C),min s.t (c / C),max s.w (c / C)⟩
def xq (g:List Int) (C R:Nat):Nat→BS→BS
  | 0,s=>s
  | k+1,s=>match s.q with
    | []=>s
    | c :: q=>xq g C R k (jX g C R s c q)
def bx (s:BS):ak:=⟨(s.l:Int),(s.t:Int),(s.r:Int) - s.l+1,(s.w:Int) - s.t+1⟩
def meas (s:BS):Nat:=s.seen.count false+s.q.length
structure Bj (g:List Int) (C R:Nat) (s:BS):Prop where
  len:s.seen.length=R * C
  q:∀ d ∈ s.q,d<R * C∧g[d]! = 3
  lr:s.l≤s.r∧s.r<C
  tw:s.t≤s.w∧s.w<R
theorem Dp {C R c:Nat} {d:Int×Int} {e:Nat} (h:qH C R c d=some e):e<R * C∧(e:Int)=(((c / C:Nat):Int)+d.2) * (C:Int)+(((c % C:Nat):Int)+d.1):=by
  unfold qH at h
  split at h
  · cases h
  rename_i hn
  have he:=Option.some.inj h
  have hy:0≤((c / C:Nat):Int)+d.2:=by omega
  have hx:0≤((c % C:Nat):Int)+d.1:=by omega
  have hm:0≤(((c / C:Nat):Int)+d.2) * (C:Int):=Int.mul_nonneg hy (by omega)
  have hE:(e:Int)=(((c / C:Nat):Int)+d.2) * (C:Int)+(((c % C:Nat):Int)+d.1):=by rw [← he,Int.toNat_of_nonneg (by omega)]
  refine ⟨?_,hE⟩
  have h1:(((c / C:Nat):Int)+d.2) * (C:Int)≤((R:Int) - 1) * (C:Int):=Int.mul_le_mul_of_nonneg_right (by omega) (by omega)
  have h2:((R:Int) - 1) * (C:Int)=(R:Int) * C - C:=by rw [Int.sub_mul,Int.one_mul]
  have:((R * C:Nat):Int)=(R:Int) * C:=Int.natCast_mul _ _
  omega
theorem G8 (g:List Int) (seen:List Bool) (a q:List Nat) (o:Option Nat):visit g (seen,a ++ q) o=((visit g (seen,q) o).1,a ++ (visit g (seen,q) o).2):=by
  unfold visit
  cases o with
  | none=>rfl
  | some d=>simp only [];cases decide (g[d]! = 3) && !seen[d]! <;> simp
theorem Fp (g:List Int) (C R c:Nat) (a:List Nat):∀ (ds:List (Int×Int)) (seen:List Bool) (q:List Nat),ds.foldl (fun s d=>visit g s (qH C R c d)) (seen,a ++ q)=((ds.foldl (fun s d=>visit g s (qH C R c d)) (seen,q)).1,a ++ (ds.foldl (fun s d=>visit g s (qH C R c d)) (seen,q)).2):=by
  intro ds
  induction ds with
  | nil=>intro seen q;rfl
  | cons d ds ih =>
    intro seen q
    rw [List.foldl_cons,List.foldl_cons,G8]
    exact ih _ _
theorem tJ {g:List Int} {s:List Bool×List Nat} {o:Option Nat}:(visit g s o).1.length=s.1.length:=by
  unfold visit
  cases o with
  | none=>rfl
  | some d=>simp only [];cases decide (g[d]! = 3) && !s.1[d]! <;> simp
theorem Fq {g:List Int} {s:List Bool×List Nat} {o:Option Nat} (ho:∀ d,o=some d→d<s.1.length):(visit g s o).1.count false+(visit g s o).2.length=s.1.count false+s.2.length:=by
  unfold visit
  cases o with
  | none=>rfl
  | some d =>
    simp only []
    have hd:=ho d rfl
    cases hb:decide (g[d]! = 3) && !s.1[d]! with
    | false=>rfl
    | true =>
      rw [oC]
      simp only [Bool.and_eq_true,Bool.not_eq_true'] at hb
      have h2:s.1[d]=false:=by rw [← xK hd];exact hb.2
      have h3:0<s.1.count false:=List.count_pos_iff.2 (by rw [← h2];exact List.getElem_mem _)
      rw [List.count_set hd,h2,List.length_append,List.length_singleton]
      simp
      omega
theorem JF {g:List Int} {s:List Bool×List Nat} {o:Option Nat} {n:Nat} (ho:∀ d,o=some d→d<n) (hq:∀ d ∈ s.2,d<n∧g[d]! = 3):∀ d ∈ (visit g s o).2,d<n∧g[d]! = 3:=by
  unfold visit
  cases o with
  | none=>exact hq
  | some e =>
    simp only []
    cases hb:decide (g[e]! = 3) && !s.1[e]! with
    | false=>exact hq
    | true =>
      rw [oC]
      intro d hd
      simp only [Bool.and_eq_true,decide_eq_true_eq] at hb
      rcases List.mem_append.1 hd with h | h
      · exact hq d h
      · rw [List.mem_singleton.1 h];exact ⟨ho e rfl,hb.1⟩
theorem Fv {g:List Int} {C R c:Nat}:∀ (ds:List (Int×Int)) (s:List Bool×List Nat),s.1.length=R * C→(∀ d ∈ s.2,d<R * C∧g[d]! = 3) →
    (ds.foldl (fun s d=>visit g s (qH C R c d)) s).1.length=R * C∧(∀ d ∈ (ds.foldl (fun s d=>visit g s (qH C R c d)) s).2,d<R * C∧g[d]! = 3)∧(ds.foldl (fun s d=>visit g s (qH C R c d)) s).1.count false+(ds.foldl (fun s d=>visit g s (qH C R c d)) s).2.length=s.1.count false+s.2.length:=by
  intro ds
  induction ds with
  | nil=>intro s h1 h2;exact ⟨h1,h2,rfl⟩
  | cons d ds ih =>
    intro s h1 h2
    have hn:∀ e,qH C R c d=some e→e<R * C:=fun e he=>(Dp he).1
    obtain ⟨a1,a2,a3⟩:=ih (visit g s (qH C R c d)) (by rw [tJ];exact h1) (JF hn h2)
    exact ⟨a1,a2,by rw [List.foldl_cons,a3,Fq (fun e he=>by rw [h1];exact hn e he)]⟩
theorem Bj.step {g:List Int} {C R:Nat} {s:BS} (h:Bj g C R s) (hC:0<C) {c:Nat} {q:List Nat} (hq:s.q=c :: q):Bj g C R (jX g C R s c q)∧meas (jX g C R s c q)+1=meas s:=by
  have hc:=h.q c (by rw [hq];exact List.mem_cons_self)
  obtain ⟨a1,a2,a3⟩:=Fv (g:=g) (C:=C) (R:=R) (c:=c) zx (s.seen,q) h.len (fun d hd=>h.q d (by rw [hq];exact List.mem_cons_of_mem _ hd))
  have h1:c % C<C:=Nat.mod_lt _ hC
  have h2:c / C<R:=Nat.div_lt_of_lt_mul (by rw [Nat.mul_comm];exact hc.1)
  have hl:=h.lr
  have ht:=h.tw
  refine ⟨⟨a1,a2,?_,?_⟩,?_⟩
  · show min s.l (c % C)≤max s.r (c % C)∧max s.r (c % C)<C
    omega
  · show min s.t (c / C)≤max s.w (c / C)∧max s.w (c / C)<R
    omega
  · unfold meas
    rw [hq,List.length_cons]
    show (lQ g C R c (s.seen,q)).1.count false+(lQ g C R c (s.seen,q)).2.length+1=_
    unfold lQ
    rw [a3];rfl
theorem Gn {g:List Int} {C R:Nat} (hC:0<C):∀ (k:Nat) (s:BS),Bj g C R s→meas s≤k→Bj g C R (xq g C R k s)∧(xq g C R k s).q=[]:=by
  intro k
  induction k with
  | zero =>
    intro s h hk
    refine ⟨h,?_⟩
    unfold meas at hk
    exact List.length_eq_zero_iff.1 (by show s.q.length=0;omega)
  | succ k ih =>
    intro s h hk
    show Bj g C R (match s.q with | []=>s | c :: q=>xq g C R k (jX g C R s c q))∧(match s.q with | []=>s | c :: q=>xq g C R k (jX g C R s c q)).q=[]
    cases hq:s.q with
    | nil=>exact ⟨h,hq⟩
    | cons c q =>
      obtain ⟨h1,h2⟩:=h.step hC hq
      exact ih _ h1 (by omega)
theorem Bj.bx {g:List Int} {C R:Nat} {s:BS} (h:Bj g C R s):Dy (C:Int) (R:Int) (bx s):=by
  have h1:=h.lr
  have h2:=h.tw
  refine ⟨?_,?_,?_,?_,?_,?_⟩ <;> simp only [Go.KB.bx] <;> omega
section
variable {N:Nat} {p:GPanel} {g:List Int} {C R:Nat} (hC:0<C) (Cc:C≤400) (hR4:R≤400) (hN:1000000≤N) (hpc:p.gW=(C:Int)) (hpr:p.Rows=(R:Int)) (hg:g.length=R * C) (hn:R * C≤400)
include Cc hpc hpr hg hn in
theorem I5 {c:Nat} (hc:c<R * C) {seen:List Bool} (hs:seen.length=R * C) {q:List Nat} (hq:q.length≤5000) {i:Nat} {dx dy:Int} (hd:-1≤dx∧dx≤1 ∧ -1≤dy∧dy≤1) (hi:i<4) (hidx:idx [[(1:Int),0],[(-1),0],[0,1],[0,(-1)]] (i:Int)=some [dx,dy]) :
    eF N p g ((c % C:Nat):Int) ((c / C:Nat):Int) (seen,ci q,(i:Int))=some (.inl ((visit g (seen,q) (qH C R c (dx,dy))).1,ci (visit g (seen,q) (qH C R c (dx,dy))).2,((i+1:Nat):Int))):=by
  have hlim:lim ≥ 10000000:=by decide
  have hx0:(0:Int)≤((c % C:Nat):Int):=Int.natCast_nonneg _
  have hy0:(0:Int)≤((c / C:Nat):Int):=Int.natCast_nonneg _
  have hxb:((c % C:Nat):Int)≤160000:=by have:=Nat.mod_le c C;omega
  have hyb:((c / C:Nat):Int)≤160000:=by have:=Nat.div_le_self c C;omega
  unfold eF
  simp only []
  rw [dh,dT (by omega),oC,hidx,bS,show idx [dx,dy] 0=some dx from rfl,bS,show idx [dx,dy] 1=some dy from rfl,bS,qF (n:=((c % C:Nat):Int)+dx) (by omega) (by omega),qF (n:=((c / C:Nat):Int)+dy) (by omega) (by omega),dh,wG,dh,wG,hpc,hpr,uH (n:=i) (by omega)]
  cases hb:qH C R c (dx,dy) with
  | none =>
    have:(decide (((c % C:Nat):Int)+dx<0)||decide ((C:Int)≤((c % C:Nat):Int)+dx)||decide (((c / C:Nat):Int)+dy<0)||decide ((R:Int)≤((c / C:Nat):Int)+dy))=true:=by
      unfold qH at hb
      split at hb
      · rename_i h;simp only [Bool.or_eq_true,decide_eq_true_eq];simp only [] at h;omega
      · cases hb
    rw [this,oC];rfl
  | some e =>
    obtain ⟨h1,h2⟩:=Dp hb
    simp only [] at h2
    have:(decide (((c % C:Nat):Int)+dx<0)||decide ((C:Int)≤((c % C:Nat):Int)+dx)||decide (((c / C:Nat):Int)+dy<0)||decide ((R:Int)≤((c / C:Nat):Int)+dy))=false:=by
      unfold qH at hb
      split at hb
      · cases hb
      · rename_i h
        simp only [] at h
        simp only [Bool.or_eq_false_iff,decide_eq_false_iff_not];omega
    have hm:0≤(((c / C:Nat):Int)+dy) * (C:Int)∧(((c / C:Nat):Int)+dy) * (C:Int)≤1000000:=by
      simp only [Bool.or_eq_false_iff,decide_eq_false_iff_not] at this
      exact ⟨Int.mul_nonneg (by omega) (by omega),by omega⟩
    have he:IntKind.i64.wrap (IntKind.i64.wrap ((((c / C:Nat):Int)+dy) * (C:Int))+(((c % C:Nat):Int)+dx))=(e:Int):=by
      rw [qF (n:=(((c / C:Nat):Int)+dy) * (C:Int)) (by omega) (by omega),← h2,qF (by omega) (by omega)]
    rw [this,qo,he,xJ (by omega),bS,rY]
    unfold visit
    simp only []
    cases h3:decide (g[e]! = 3) with
    | false=>rfl
    | true =>
      rw [oC,xJ (by omega),bS,Bool.true_and]
      cases h4:seen[e]! with
      | true=>rfl
      | false =>
        simp only [Bool.not_false,oC]
        rw [bS,vU (by rw [xM];simp only [List.length_singleton];omega),bS,Int.toNat_natCast]
        unfold ci
        rw [List.map_append];rfl
include Cc hpc hpr hg hn in
theorem JG {c:Nat} (hc:c<R * C) {seen:List Bool} (hs:seen.length=R * C) {q:List Nat} (hq:q.length≤5000) {i:Nat} {dx dy:Int} (hd:-1≤dx∧dx≤1 ∧ -1≤dy∧dy≤1) (hi:i<4) (hidx:idx [(1:Int),(-1),0,0] (i:Int)=some dx) (hidy:idx [(0:Int),0,1,(-1)] (i:Int)=some dy) :
    fQ N p g ((c % C:Nat):Int) ((c / C:Nat):Int) (seen,ci q,(i:Int))=some (.inl ((visit g (seen,q) (qH C R c (dx,dy))).1,ci (visit g (seen,q) (qH C R c (dx,dy))).2,((i+1:Nat):Int))):=by
  have hlim:lim ≥ 10000000:=by decide
  have hx0:(0:Int)≤((c % C:Nat):Int):=Int.natCast_nonneg _
  have hy0:(0:Int)≤((c / C:Nat):Int):=Int.natCast_nonneg _
  have hxb:((c % C:Nat):Int)≤160000:=by have:=Nat.mod_le c C;omega
  have hyb:((c / C:Nat):Int)≤160000:=by have:=Nat.div_le_self c C;omega
  unfold fQ
  simp only []
  rw [dh,dT (by omega),oC,hidx,bS,hidy,bS,qF (n:=((c % C:Nat):Int)+dx) (by omega) (by omega),qF (n:=((c / C:Nat):Int)+dy) (by omega) (by omega),dh,dh,wG,wG,hpc,hpr,uH (n:=i) (by omega)]
  cases hb:qH C R c (dx,dy) with
  | none =>
    have:(decide (((c % C:Nat):Int)+dx<0)||decide (((c / C:Nat):Int)+dy<0)||decide ((C:Int)≤((c % C:Nat):Int)+dx)||decide ((R:Int)≤((c / C:Nat):Int)+dy))=true:=by
      unfold qH at hb
      split at hb
      · rename_i h;simp only [Bool.or_eq_true,decide_eq_true_eq];simp only [] at h;omega
      · cases hb
    rw [this,oC];rfl
  | some e =>
    obtain ⟨h1,h2⟩:=Dp hb
    simp only [] at h2
    have:(decide (((c % C:Nat):Int)+dx<0)||decide (((c / C:Nat):Int)+dy<0)||decide ((C:Int)≤((c % C:Nat):Int)+dx)||decide ((R:Int)≤((c / C:Nat):Int)+dy))=false:=by
      unfold qH at hb
      split at hb
      · cases hb
      · rename_i h
        simp only [] at h
        simp only [Bool.or_eq_false_iff,decide_eq_false_iff_not];omega
    have hm:0≤(((c / C:Nat):Int)+dy) * (C:Int)∧(((c / C:Nat):Int)+dy) * (C:Int)≤1000000:=by
      simp only [Bool.or_eq_false_iff,decide_eq_false_iff_not] at this
      exact ⟨Int.mul_nonneg (by omega) (by omega),by omega⟩
    have he:IntKind.i64.wrap (IntKind.i64.wrap ((((c / C:Nat):Int)+dy) * (C:Int))+(((c % C:Nat):Int)+dx))=(e:Int):=by
      rw [qF (n:=(((c / C:Nat):Int)+dy) * (C:Int)) (by omega) (by omega),← h2,qF (by omega) (by omega)]
    rw [this,qo,he,xJ (by omega),bS,rY]
    unfold visit
    simp only []
    cases h3:decide (g[e]! = 3) with
    | false=>rfl
    | true =>
      rw [oC,xJ (by omega),bS,Bool.true_and]
      cases h4:seen[e]! with
      | true=>rfl
      | false =>
        simp only [Bool.not_false,oC]
        rw [bS,vU (by rw [xM];simp only [List.length_singleton];omega),bS,Int.toNat_natCast]
        unfold ci
        rw [List.map_append];rfl
include Cc hpc hpr hg hn hN in
theorem Ei {c:Nat} (hc:c<R * C) {seen:List Bool} (hs:seen.length=R * C) {q:List Nat} (hq:q.length≤4000) :
    bD (eF N p g ((c % C:Nat):Int) ((c / C:Nat):Int)) N (seen,ci q,0)=some ((lQ g C R c (seen,q)).1,ci (lQ g C R c (seen,q)).2):=by
  have hlen:∀ (ds:List (Int×Int)) (s:List Bool×List Nat),(ds.foldl (fun s d=>visit g s (qH C R c d)) s).1.length=s.1.length∧(ds.foldl (fun s d=>visit g s (qH C R c d)) s).2.length≤s.2.length+ds.length:=by
    intro ds
    induction ds with
    | nil=>intro s;exact ⟨rfl,Nat.le_refl _⟩
    | cons d ds ih =>
      intro s
      obtain ⟨a1,a2⟩:=ih (visit g s (qH C R c d))
      have:(visit g s (qH C R c d)).2.length≤s.2.length+1:=by
        unfold visit
        cases qH C R c d with
        | none=>simp only [];omega
        | some e=>simp only [];cases decide (g[e]! = 3) && !s.1[e]! <;> simp
      refine ⟨by rw [List.foldl_cons,a1,tJ],?_⟩
      rw [List.foldl_cons,List.length_cons];omega
  refine rD (N:=N) (f:=eF N p g ((c % C:Nat):Int) ((c / C:Nat):Int)) zx (seen,q) (fun s d=>visit g s (qH C R c d)) (fun t i=>(t.1,ci t.2,i)) (fun t=>(t.1,ci t.2)) (fun i hi t ht=>?_) (fun t=>?_) (by show 4<N;omega)
  · have h4:i<4:=hi
    obtain ⟨b1,b2⟩:=hlen (zx.take i) (seen,q)
    rw [← ht] at b1 b2
    have b3:(zx.take i).length≤4:=by rw [List.length_take];show min i 4≤4;omega
    have key:∀ dx dy,-1≤dx∧dx≤1 ∧ -1≤dy∧dy≤1→idx [[(1:Int),0],[(-1),0],[0,1],[0,(-1)]] (i:Int)=some [dx,dy]→eF N p g ((c % C:Nat):Int) ((c / C:Nat):Int) (t.1,ci t.2,(i:Int))=some (.inl ((visit g t (qH C R c (dx,dy))).1,ci (visit g t (qH C R c (dx,dy))).2,((i+1:Nat):Int))):=fun dx dy hd hx =>
      I5 Cc hpc hpr hg hn hc (seen:=t.1) (q:=t.2) (by rw [b1];exact hs) (by simp only [] at b2;omega) hd h4 hx
    match i,hi,key with
    | 0,_,key=>exact key 1 0 (by decide) rfl
    | 1,_,key=>exact key (-1) 0 (by decide) rfl
    | 2,_,key=>exact key 0 1 (by decide) rfl
    | 3,_,key=>exact key 0 (-1) (by decide) rfl
    | i+4,hi,_=>exact absurd hi (by show ¬ i+4<4;omega)
  · unfold eF
    simp only []
    rw [dh,show ((zx.length:Int))=4 from rfl,dF (by decide),qo]
include Cc hpc hpr hg hn hN in
theorem Fz {c:Nat} (hc:c<R * C) {seen:List Bool} (hs:seen.length=R * C) {q:List Nat} (hq:q.length≤4000) :
    bD (fQ N p g ((c % C:Nat):Int) ((c / C:Nat):Int)) N (seen,ci q,0)=some ((lQ g C R c (seen,q)).1,ci (lQ g C R c (seen,q)).2):=by
  have hlen:∀ (ds:List (Int×Int)) (s:List Bool×List Nat),(ds.foldl (fun s d=>visit g s (qH C R c d)) s).1.length=s.1.length∧(ds.foldl (fun s d=>visit g s (qH C R c d)) s).2.length≤s.2.length+ds.length:=by
    intro ds
    induction ds with
    | nil=>intro s;exact ⟨rfl,Nat.le_refl _⟩
    | cons d ds ih =>
      intro s
      obtain ⟨a1,a2⟩:=ih (visit g s (qH C R c d))
      have:(visit g s (qH C R c d)).2.length≤s.2.length+1:=by
        unfold visit
        cases qH C R c d with
        | none=>simp only [];omega
        | some e=>simp only [];cases decide (g[e]! = 3) && !s.1[e]! <;> simp
      refine ⟨by rw [List.foldl_cons,a1,tJ],?_⟩
      rw [List.foldl_cons,List.length_cons];omega
  refine rD (N:=N) (f:=fQ N p g ((c % C:Nat):Int) ((c / C:Nat):Int)) zx (seen,q) (fun s d=>visit g s (qH C R c d)) (fun t i=>(t.1,ci t.2,i)) (fun t=>(t.1,ci t.2)) (fun i hi t ht=>?_) (fun t=>?_) (by show 4<N;omega)
  · have h4:i<4:=hi
    obtain ⟨b1,b2⟩:=hlen (zx.take i) (seen,q)
    rw [← ht] at b1 b2
    have b3:(zx.take i).length≤4:=by rw [List.length_take];show min i 4≤4;omega
    have key:∀ dx dy,-1≤dx∧dx≤1 ∧ -1≤dy∧dy≤1→idx [(1:Int),(-1),0,0] (i:Int)=some dx→idx [(0:Int),0,1,(-1)] (i:Int)=some dy→fQ N p g ((c % C:Nat):Int) ((c / C:Nat):Int) (t.1,ci t.2,(i:Int))=some (.inl ((visit g t (qH C R c (dx,dy))).1,ci (visit g t (qH C R c (dx,dy))).2,((i+1:Nat):Int))):=fun dx dy hd hx hy =>
      JG Cc hpc hpr hg hn hc (seen:=t.1) (q:=t.2) (by rw [b1];exact hs) (by simp only [] at b2;omega) hd h4 hx hy
    match i,hi,key with
    | 0,_,key=>exact key 1 0 (by decide) rfl rfl
    | 1,_,key=>exact key (-1) 0 (by decide) rfl rfl
    | 2,_,key=>exact key 0 1 (by decide) rfl rfl
    | 3,_,key=>exact key 0 (-1) (by decide) rfl rfl
    | i+4,hi,_=>exact absurd hi (by show ¬ i+4<4;omega)
  · unfold fQ
    simp only []
    rw [dh,show ((zx.length:Int))=4 from rfl,dF (by decide),qo]
theorem Ag {a b:Nat} (hb:0<b):zW (a:Int) (b:Int)=some ((a % b:Nat):Int):=by
  unfold zW
  rw [if_neg (by omega),Int.ofNat_tmod]
theorem Ah {a b:Nat} (hb:0<b) (ha:a<1000000):AZ .i64 (a:Int) (b:Int)=some ((a / b:Nat):Int):=by
  unfold AZ
  rw [if_neg (by omega),show (a:Int).tdiv (b:Int)=((a / b:Nat):Int) from rfl,qF (by have:=Int.natCast_nonneg (a / b);omega) (by have:=Nat.div_le_self a b;omega)]
include hC Cc hR4 hpc hpr hg hn hN in
theorem IZ:∀ (k:Nat) (s:BS),Bj g C R s→meas s≤k→k≤3000→∀ M,k<M→bD (dJ N p g) M (s.seen,bx s,ci s.q)=some ((xq g C R k s).seen,bx (xq g C R k s)):=by
  intro k
  induction k with
  | zero =>
    intro s h hk _ M hM
    obtain ⟨M,rfl⟩:∃ m,M=m+1:=⟨M - 1,by omega⟩
    have hq:s.q=[]:=List.length_eq_zero_iff.1 (by unfold meas at hk;omega)
    have e:dJ N p g (s.seen,bx s,ci s.q)=some (.inr (s.seen,bx s)):=by
      unfold dJ
      simp only []
      rw [hq];rfl
    rw [bD,e];rfl
  | succ k ih =>
    intro s h hk hk3 M hM
    obtain ⟨M,rfl⟩:∃ m,M=m+1:=⟨M - 1,by omega⟩
    show _=some ((match s.q with | []=>s | c :: q=>xq g C R k (jX g C R s c q)).seen,bx (match s.q with | []=>s | c :: q=>xq g C R k (jX g C R s c q)))
    cases hq:s.q with
    | nil =>
      have e:dJ N p g (s.seen,bx s,ci [])=some (.inr (s.seen,bx s)):=by
        unfold dJ
        rfl
      rw [bD,e]
    | cons c q =>
      obtain ⟨h1,h2⟩:=h.step hC hq
      have hc:=h.q c (by rw [hq];exact List.mem_cons_self)
      have hql:(c :: q).length≤3001:=by rw [← hq];unfold meas at hk;omega
      have hmod:c % C<C:=Nat.mod_lt _ hC
      have hdiv:c / C<R:=Nat.div_lt_of_lt_mul (by rw [Nat.mul_comm];exact hc.1)
      have hv:=Ei (N:=N) (p:=p) Cc hN hpc hpr hg hn hc.1 (seen:=s.seen) (q:=c :: q) h.len (by omega)
      have hva:lQ g C R c (s.seen,c :: q)=((lQ g C R c (s.seen,q)).1,c :: (lQ g C R c (s.seen,q)).2):=Fp g C R c [c] zx s.seen q
      have har:iU N (bx s) (⟨((c % C:Nat):Int),((c / C:Nat):Int),1,1⟩:ak)=some (bx (jX g C R s c q)):=by
        rw [zy (C:=C) (R:=R) (by omega) (by omega) h.bx ⟨Int.natCast_nonneg _,Int.natCast_nonneg _,by simp only [];omega,by simp only [];omega,by simp only [];omega,by simp only [];omega⟩]
        congr 1
        have q1:=h.lr
        have q2:=h.tw
        unfold Ep bx jX
        simp only [ak.mk.injEq]
        refine ⟨?_,?_,?_,?_⟩ <;> omega
      have e:dJ N p g (s.seen,bx s,ci (c :: q))=some (.inl ((jX g C R s c q).seen,bx (jX g C R s c q),ci (jX g C R s c q).q)):=by
        unfold dJ
        simp only []
        rw [rZ,xM,dT (by simp only [List.length_cons];omega),oC,show idx (ci (c :: q)) 0=some (c:Int) from rfl,bS,hpc,Ag hC,bS,bS,Ah hC (by omega),bS,har,bS,hv,hva,bS]
        simp only []
        have hsl:zV (ci (c :: (lQ g C R c (s.seen,q)).2)) 1 ((ci (c :: (lQ g C R c (s.seen,q)).2)).length:Int)=some (ci (lQ g C R c (s.seen,q)).2):=by
          unfold zV
          rw [dT (by decide),dT (by rw [xM];simp only [List.length_cons];omega),dT (Int.le_refl _),Int.toNat_natCast,List.take_length];rfl
        rw [hsl,bS];rfl
      rw [bD,e]
      exact ih _ h1 (by omega) (by omega) M (by omega)
include hC Cc hpc hpr hg hn hN in
theorem JE:∀ (k:Nat) (s:BS),Bj g C R s→meas s≤k→k≤3000→∀ M,k<M→bD (dV N p g) M (s.seen,ci s.q,(s.l:Int),(s.r:Int),(s.t:Int),(s.w:Int))=some ((xq g C R k s).seen,((xq g C R k s).l:Int),((xq g C R k s).r:Int),((xq g C R k s).t:Int),((xq g C R k s).w:Int)):=by
  intro k
  induction k with
  | zero =>
    intro s h hk _ M hM
    obtain ⟨M,rfl⟩:∃ m,M=m+1:=⟨M - 1,by omega⟩
    have hq:s.q=[]:=List.length_eq_zero_iff.1 (by unfold meas at hk;omega)
    have e:dV N p g (s.seen,ci s.q,(s.l:Int),(s.r:Int),(s.t:Int),(s.w:Int))=some (.inr (s.seen,(s.l:Int),(s.r:Int),(s.t:Int),(s.w:Int))):=by
      unfold dV
      simp only []
      rw [hq];rfl
    rw [bD,e];rfl
  | succ k ih =>
    intro s h hk hk3 M hM
    obtain ⟨M,rfl⟩:∃ m,M=m+1:=⟨M - 1,by omega⟩
    have hb:xq g C R (k+1) s=(match s.q with | []=>s | c :: q=>xq g C R k (jX g C R s c q)):=rfl
    rw [hb]
    cases hq:s.q with
    | nil =>
      have e:dV N p g (s.seen,ci [],(s.l:Int),(s.r:Int),(s.t:Int),(s.w:Int))=some (.inr (s.seen,(s.l:Int),(s.r:Int),(s.t:Int),(s.w:Int))):=by
        unfold dV
        rfl
      rw [bD,e]
    | cons c q =>
      obtain ⟨h1,h2⟩:=h.step hC hq
      have hc:=h.q c (by rw [hq];exact List.mem_cons_self)
      have hql:(c :: q).length≤3001:=by rw [← hq];unfold meas at hk;omega
      rw [List.length_cons] at hql
      have hv:=Fz (N:=N) (p:=p) Cc hN hpc hpr hg hn hc.1 (seen:=s.seen) (q:=q) h.len (by omega)
      have e:dV N p g (s.seen,ci (c :: q),(s.l:Int),(s.r:Int),(s.t:Int),(s.w:Int))=some (.inl ((jX g C R s c q).seen,ci (jX g C R s c q).q,((jX g C R s c q).l:Int),((jX g C R s c q).r:Int),((jX g C R s c q).t:Int),((jX g C R s c q).w:Int))):=by
        unfold dV
        simp only []
        have hsl:zV (ci (c :: q)) 1 ((ci (c :: q)).length:Int)=some (ci q):=by
          unfold zV
          rw [dT (by decide),dT (by rw [xM];simp only [List.length_cons];omega),dT (Int.le_refl _),Int.toNat_natCast,List.take_length];rfl
        have m1:((min s.l (c % C):Nat):Int)=min (s.l:Int) ((c % C:Nat):Int):=by omega
        have m2:((max s.r (c % C):Nat):Int)=max (s.r:Int) ((c % C:Nat):Int):=by omega
        have m3:((min s.t (c / C):Nat):Int)=min (s.t:Int) ((c / C:Nat):Int):=by omega
        have m4:((max s.w (c / C):Nat):Int)=max (s.w:Int) ((c / C:Nat):Int):=by omega
        rw [rZ,xM,dT (by simp only [List.length_cons];omega),oC,show idx (ci (c :: q)) 0=some (c:Int) from rfl,bS,hpc,Ag hC,bS,bS,Ah hC (by omega),bS]
        rw [xM] at hsl
        rw [hsl,bS,hv,bS]
        unfold jX
        simp only []
        rw [m1,m2,m3,m4]
      rw [bD,e]
      exact ih _ h1 (by omega) (by omega) M (by omega)
end
end Go.KB
