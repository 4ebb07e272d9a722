/- The plain law of PermitSets. No condition. -/
import Derived.Test.YtalkbgomndhkmaaGreatPZq
namespace Go.KB
set_option linter.unusedVariables false
theorem DF {N:Nat} {a:List (List Str)} (ha:a.length<1000000) (hm:∀ x ∈ a,x.length<1000000) (hN:1000000≤N):vw N a a=some true:=by
  unfold vw
  rw [pV,dT rfl,Bool.not_true,qg]
  have h:dh (qK N a a) N 0=some (bif (List.range a.length).all (fun _=>true) then Sum.inl () else Sum.inr false):=by
    refine CQ (fun i hi=>?_) ?_ (by omega)
    · unfold qK
      rw [bP,dT (by omega),qZ,iZ hi,bS,bS,RI (hm _ (List.getElem_mem hi)) hN,bS,dT rfl,pI (by omega)];rfl
    · unfold qK
      rw [bP,dF (by omega),qg]
  rw [h,show (List.range a.length).all (fun _=>true)=true by simp,qZ,bS];rfl
theorem UB {α:Type} {l:List α} {N:Nat} {f:(Bool×Int)→Option ((Bool×Int) ⊕ Bool)} {g:α→Bool} (hf:∀ (i:Nat) (h:i<l.length) (b:Bool),f (b,(i:Int))=some (.inl (b&&g l[i],((i+1:Nat):Int)))) (he:∀ b,f (b,(l.length:Int))=some (.inr b)) (hN:l.length<N):dh f N (true,0)=some (l.all g):=by
  rw [yJ (N:=N) (f:=f) l true (fun b x=>b&&g x) (fun b i=>(b,i)) (fun b=>b) (fun i hi t _=>hf i hi t) he hN]
  congr 1
  have:∀ (l:List α) (b:Bool),l.foldl (fun b x=>b&&g x) b=(b&&l.all g):=by
    intro l
    induction l with
    | nil=>intro b;simp
    | cons x l ih=>intro b;rw [List.foldl_cons,ih,List.all_cons,Bool.and_assoc]
  rw [this];rfl
theorem PX {N:Nat} {a b:List Int} (ha:a.length<1000000) (hb:b.length<1000000) (hN:1000000≤N):vU N a b=some (a.all fun i=>b.contains i):=by
  unfold vU
  have h2:dh (pM N a b) N 0=some (bif a.all (fun i=>b.contains i) then Sum.inl () else Sum.inr false):=by
    refine CS (fun i hi=>?_) ?_ (by omega)
    · unfold pM
      have h1:dh (pO N a b (i:Int)) N (false,0)=some (b.any fun t=>decide (a[i]=t)):=by
        refine VI (fun j hj c=>?_) (fun c=>?_) (by omega)
        · unfold pO
          simp only []
          rw [bP,dT (by omega),qZ,pI (by omega)]
          cases c with
          | true=>rfl
          | false=>simp only [Bool.not_false,qZ];rw [iZ hi,bS,iZ hj,bS,uU]
        · unfold pO
          simp only []
          rw [bP,dF (by omega),qg]
      have e:(b.any fun t=>decide (a[i]=t))=b.contains a[i]:=by
        rw [Bool.eq_iff_iff,List.any_eq_true,List.contains_iff_mem]
        constructor
        · rintro ⟨t,ht,h⟩;rw [decide_eq_true_eq] at h;rw [h];exact ht
        · exact fun h=>⟨_,h,by rw [decide_eq_true_eq]⟩
      rw [bP,dT (by omega),qZ,h1,bS,pI (by omega),e]
      cases b.contains a[i] <;> rfl
    · unfold pM
      rw [bP,dF (by omega),qg]
  rw [h2,bS]
  cases a.all (fun i=>b.contains i) <;> rfl
theorem KO {N:Nat} {p:GPermitPlan} (hp:J4 p) (ho:RJ p) (hc:oz p=0) (hn:p.ay.length≤6) (hN:2000000≤N) (mx:Bool):jK N p mx=some (((bif mx then Ij p else mW p).map (UC p)),0):=by
  have hlim:lim ≥ 10000000:=by decide
  have hsl:=Gy (p:=p) (by omega)
  have hel:∀ a ∈ mW p,a.length≤p.ay.length∧∀ i ∈ a,∃ k:Nat,i=(k:Int)∧k<p.ay.length:=fun a ha=>DI (Aa.1 ha)
  unfold jK
  rw [yP hp (by omega),bS,hc,pV,dT rfl,Bool.not_true,qg,rf,dF (by omega),qg]
  have h4:dh (kU N p) N ([],0)=some (mW p):=by
    have hlk:∀ k,k≤6→(((Bd p.ay.length k 0 []).filter (xQ p)).map ci).length≤46656:=fun k hk=>by
      rw [List.length_map]
      exact Nat.le_trans (List.length_filter_le _ _) (Nat.le_trans (Ol hn) (Nat.pow_le_pow_right (n:=6) (by decide) hk))
    have hfl:∀ (l:List Nat) (a:List (List Int)),(∀ k ∈ l,k≤6)→(l.foldl (fun a k=>a ++ ((Bd p.ay.length k 0 []).filter (xQ p)).map ci) a).length≤a.length+l.length * 46656:=by
      intro l
      induction l with
      | nil=>intro a _;simp
      | cons k l ih =>
        intro a hl
        have h1:=ih (a ++ ((Bd p.ay.length k 0 []).filter (xQ p)).map ci) fun x hx=>hl x (List.mem_cons_of_mem _ hx)
        have h2:=hlk k (hl k List.mem_cons_self)
        rw [List.length_append] at h1
        rw [List.foldl_cons,List.length_cons,Nat.succ_mul];omega
    rw [yJ (N:=N) (f:=kU N p) (List.range (p.ay.length+1)) ([]:List (List Int)) (fun a k=>a ++ ((Bd p.ay.length k 0 []).filter (xQ p)).map ci) (fun t i=>(t,i)) (fun t=>t) (fun i hi t ht=>?_) (fun t=>?_) (by rw [List.length_range];omega)]
    · have hfm:∀ (l:List Nat) (a:List (List Int)),l.foldl (fun a k=>a ++ ((Bd p.ay.length k 0 []).filter (xQ p)).map ci) a=a ++ (l.flatMap fun k=>(Bd p.ay.length k 0 []).filter (xQ p)).map ci:=by
        intro l
        induction l with
        | nil=>intro a;simp
        | cons k l ih=>intro a;rw [List.foldl_cons,ih,List.flatMap_cons,List.map_append,List.append_assoc]
      rw [hfm,List.nil_append,← VJ];rfl
    · rw [List.length_range] at hi
      rw [List.getElem_range]
      have htl:=hfl ((List.range (p.ay.length+1)).take i) [] fun k hk=>by
        have:=List.mem_range.1 (List.mem_of_mem_take hk)
        omega
      rw [← ht,List.length_take,List.length_range,List.length_nil] at htl
      have h7:min i (p.ay.length+1) * 46656≤7 * 46656:=Nat.mul_le_mul_right _ (by omega)
      have hi46:=hlk i (by omega)
      have hr:=UD hp ho hn i 0 [] N (by omega) (by omega) (fun x hx=>by cases hx) (by simp;omega)
      have hr:mP N p (i:Int) 0 ([]:List Int)=some (((Bd p.ay.length i 0 []).filter (xQ p)).map ci):=hr
      unfold kU
      simp only []
      rw [DJ,dT (by omega),qZ,hr,bS,Iz (by omega),bS,pI (by omega)]
    · unfold kU
      simp only [List.length_range]
      rw [DJ,dF (by omega),qg]
  rw [h4,bS]
  have h3:dh (kV N p mx (mW p)) N ([],0)=some ((bif mx then Ij p else mW p).map (UC p)):=by
    rw [EK (f:=kV N p mx (mW p)) (mW p) [] (fun a=>bif mx then !(mW p).any (zZ a) else true) (UC p) (fun a i=>(a,i)) (fun a=>a) (fun j hj acc hacc=>?_) (fun acc=>?_) (by omega)]
    · rw [List.nil_append]
      cases mx with
      | true=>rfl
      | false=>simp only [qg];rw [List.filter_eq_self.2 (fun _ _=>rfl)]
    · simp only [List.length_nil] at hacc
      obtain ⟨e1,e2⟩:=hel _ (List.getElem_mem hj)
      have hkeep:dh (jP N mx (mW p) (acc,(j:Int))) N (true,0)=some (bif mx then !(mW p).any (zZ (mW p)[j]) else true):=by
        cases mx with
        | false =>
          obtain ⟨M,rfl⟩:∃ m,N=m+1:=⟨N - 1,by omega⟩
          have e:jP (M+1) false (mW p) (acc,(j:Int)) (true,0)=some (.inr true):=by
            unfold jP
            rw [Bool.and_false,qg]
          rw [dh,e];rfl
        | true =>
          rw [qZ,List.not_any_eq_all_not]
          refine UB (fun i hi c=>?_) (fun c=>?_) (by omega)
          · obtain ⟨q1,_⟩:=hel _ (List.getElem_mem hi)
            unfold jP
            simp only []
            rw [bP,dT (by omega),Bool.true_and,qZ,pI (by omega)]
            cases c with
            | false=>rfl
            | true =>
              simp only [Bool.true_and,qZ]
              rw [iZ hi,bS,iZ hj,bS,DJ]
              unfold zZ
              by_cases hlt:(mW p)[j].length<(mW p)[i].length
              · rw [dF (by omega),dT hlt,Bool.not_false,qZ,qZ,bS,bS,qZ,PX (by omega) (by omega) (by omega),bS,Bool.false_or,Bool.true_and]
              · rw [dT (by omega),dF hlt,Bool.not_true,qg,qg,bS,bS,qg,bS];rfl
          · unfold jP
            simp only []
            rw [bP,dF (by omega),Bool.false_and,qg]
      have hnm:dh (kW N p (mW p) (acc,(j:Int))) N ([],0)=some (UC p (mW p)[j]):=by
        rw [EK (f:=kW N p (mW p) (acc,(j:Int))) (mW p)[j] [] (fun _=>true) (fun i=>p.ay[i.toNat]!.Name) (fun a i=>(a,i)) (fun a=>a) (fun k hk acc2 hacc2=>?_) (fun acc2=>?_) (by omega)]
        · rw [List.filter_eq_self.2 (fun _ _=>rfl)];rfl
        · simp only [List.length_nil] at hacc2
          obtain ⟨m,q4,q5⟩:=e2 _ (List.getElem_mem hk)
          unfold kW
          simp only []
          rw [iZ hj,bS,bP,dT (by omega),qZ,bS,iZ hk,bS,q4,yK q5,bS,Iz (by simp only [List.length_singleton];omega),bS,pI (by omega)];rfl
        · unfold kW
          simp only []
          rw [iZ hj,bS,bP,dF (by omega),qg]
      unfold kV
      simp only []
      rw [bP,dT (by omega),qZ,hkeep,bS,pI (by omega)]
      cases (bif mx then !(mW p).any (zZ (mW p)[j]) else true) with
      | false=>rfl
      | true=>simp only [Bool.not_true,qg,qZ];rw [hnm,bS,Iz (by simp only [List.length_singleton];omega),bS]
    · unfold kV
      simp only []
      rw [bP,dF (by omega),qg]
  rw [h3,bS]
theorem law_PermitSets (x0:GPermitPlan) (h0:x0.ok):uJ (2 ^ 70) x0=some true:=by
  have hN:1000000≤2 ^ 70:=by decide
  have hN2:(2:Nat) ^ 70=1180591620717411303424:=by decide
  unfold uJ
  rcases UE x0 hN with hg | ⟨hg,hp,_⟩
  · rw [hg,AU];rfl
  rw [hg,bS,Bool.not_false,qZ,yP hp hN,bS,Bool.false_or,uU,rf,DJ]
  by_cases hc:oz x0=0
  · rw [dT hc,Bool.true_and]
    by_cases h6:(6:Int)<x0.ay.length
    · rw [dT h6,Bool.true_and]
      by_cases h10:(x0.ay.length:Int)≤10
      · rw [dT h10,qZ,AU];rfl
      · have e1:jV (2 ^ 70) x0=some ([],8):=by
          unfold jV
          rw [Ac hp hN,if_neg (fun e=>e hc),if_pos (by omega),bS];rfl
        have e2:kZ (2 ^ 70) x0=some ([],8):=by
          unfold kZ
          rw [Ac hp hN,if_neg (fun e=>e hc),if_pos (by omega),bS];rfl
        have e3:∀ b,jK (2 ^ 70) x0 b=some ([],8):=fun b=>by
          unfold jK
          rw [yP hp hN,bS,hc,pV,dT rfl,Bool.not_true,qg,rf,dT (by omega),qZ]
        rw [dF h10,qg,e1,bS,e3,bS,e2,bS,e3,bS]
        simp only []
        rw [DF (by simp) (fun x hx=>by cases hx) hN,bS,uU,dT rfl,Bool.true_and,qZ,bS,Bool.true_and,Bool.true_and,qZ,AU];rfl
    · rw [dF h6,Bool.false_and,qg]
      have ho:=okP hc
      have XP:x0.ay.length≤10:=by omega
      have hsl:=Gy XP
      have hml:(Ij x0).length≤(mW x0).length:=List.length_filter_le _ _
      have hel:∀ a ∈ mW x0,(UC x0 a).length<1000000:=fun a ha=>by
        have:=(DI (Aa.1 ha)).1
        unfold UC
        rw [List.length_map];omega
      rw [MH hp hN XP hc,bS,KO hp ho hc (by omega) (by omega),bS,PY hp hN XP hc,bS,KO hp ho hc (by omega) (by omega),bS]
      simp only [qZ,qg]
      rw [DF (by rw [List.length_map];omega) (fun x hx=>by obtain ⟨b,hb,rfl⟩:=List.mem_map.1 hx;exact hel b hb) hN,bS,uU,dT rfl,Bool.true_and,qZ,DF (by rw [List.length_map];omega) (fun x hx=>by obtain ⟨b,hb,rfl⟩:=List.mem_map.1 hx;exact hel b (List.mem_filter.1 hb).1) hN,bS,Bool.true_and,Bool.true_and,qZ,AU];rfl
  · have e1:jV (2 ^ 70) x0=some ([],oz x0):=by
      unfold jV
      rw [Ac hp hN,if_pos hc,bS,pV,dF hc];rfl
    have e2:kZ (2 ^ 70) x0=some ([],oz x0):=by
      unfold kZ
      rw [Ac hp hN,if_pos hc,bS,pV,dF hc];rfl
    have e3:∀ b,jK (2 ^ 70) x0 b=some ([],oz x0):=fun b=>by
      unfold jK
      rw [yP hp hN,bS,pV,dF hc];rfl
    rw [dF hc,Bool.false_and,Bool.false_and,qg,e1,bS,e3,bS,e2,bS,e3,bS]
    simp only []
    rw [DF (by simp) (fun x hx=>by cases hx) hN,bS,uU,dT rfl,Bool.true_and,qZ,bS,Bool.true_and,Bool.true_and,qZ,AU];rfl
end Go.KB
