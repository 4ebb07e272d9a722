/- The plain law of PermitMaximal. No condition. -/
import Derived.Test.YtalkbgomndhkmaaGreatPZq
namespace Go.KB
set_option linter.unusedVariables false
/- a list with what it lacks -/
def Fv (l:List Str) (s:Str):List Str:=bif Di l [s] then l else l ++ [s]
theorem Xt {l:List Str} {s:Str}:Di l [s]=true↔s ∈ l:=by
  unfold Di
  rw [List.all_eq_true]
  constructor
  · intro h
    obtain ⟨t,ht,e⟩:=List.any_eq_true.1 (h s List.mem_cons_self)
    rw [decide_eq_true_eq] at e
    rw [← e];exact ht
  · intro h x hx
    rw [List.mem_singleton.1 hx,List.any_eq_true]
    exact ⟨s,h,by rw [decide_eq_true_eq]⟩
theorem TK {l:List Str} {s t:Str}:t ∈ Fv l s↔t ∈ l∨t=s:=by
  unfold Fv
  cases h:Di l [s] with
  | true =>
    rw [vC]
    exact ⟨.inl,fun q=>q.elim id fun e=>by rw [e];exact Xt.1 h⟩
  | false=>rw [sF,List.mem_append,List.mem_singleton]
theorem OX {l:List Str} {s:Str} (h:l.Nodup):(Fv l s).Nodup:=by
  unfold Fv
  cases hs:Di l [s] with
  | true=>exact h
  | false =>
    rw [sF]
    refine List.nodup_append.2 ⟨h,by simp,fun a ha b hb e=>?_⟩
    rw [List.mem_singleton] at hb
    subst hb
    subst e
    rw [Xt.2 ha] at hs;cases hs
theorem TL {l:List Str} {s:Str}:(Fv l s).length≤l.length+1:=by
  unfold Fv
  cases Di l [s] <;> simp
theorem J4 (ss:List Str):∀ l:List Str,(ss.foldl Fv l).length≤l.length+ss.length:=by
  induction ss with
  | nil=>intro l;exact Nat.le_refl _
  | cons s ss ih =>
    intro l
    have:=ih (Fv l s)
    have:=TL (l:=l) (s:=s)
    rw [List.foldl_cons,List.length_cons];omega
theorem Gj (ss:List Str):∀ {l:List Str} {t:Str},t ∈ ss.foldl Fv l↔t ∈ l∨t ∈ ss:=by
  induction ss with
  | nil=>intro l t;simp
  | cons s ss ih =>
    intro l t
    rw [List.foldl_cons,ih,TK,List.mem_cons]
    constructor
    · rintro ((h | h) | h)
      · exact .inl h
      · exact .inr (.inl h)
      · exact .inr (.inr h)
    · rintro (h | h | h)
      · exact .inl (.inl h)
      · exact .inl (.inr h)
      · exact .inr h
theorem NG (ss:List Str):∀ {l:List Str},l.Nodup→(ss.foldl Fv l).Nodup:=by
  induction ss with
  | nil=>intro l h;exact h
  | cons s ss ih=>intro l h;exact ih (OX h)
theorem law_PermitMaximal (x0:GPermitPlan) (x1:List Str) (h0:x0.ok) (h1:gL gS x1):qC (2 ^ 70) x0 x1=some true:=by
  have hlim:lim ≥ 10000000:=by decide
  have hN:1000000≤2 ^ 70:=by decide
  have hN2:(2:Nat) ^ 70=1180591620717411303424:=by decide
  unfold qC
  rcases Xu x0 hN with hf | ⟨hf,hp,hc,hsl,hpl,hxl⟩
  · rw [hf,zS];rfl
  rw [hf,bS,Bool.not_true,Bool.false_or,rG,rG]
  by_cases Jj:(6:Int)<x0.ay.length
  · rw [dT Jj,Bool.true_or,vC,zS];rfl
  rw [dF Jj,Bool.false_or]
  by_cases hl:(10:Int)<x1.length
  · rw [dT hl,vC,zS];rfl
  rw [dF hl,sF]
  have ho:=okP hc
  have hn10:x0.ay.length≤10:=by omega
  have hsl:=NH hn10
  have hml:(pq x0).length≤(uS x0).length:=List.length_filter_le _ _
  have hne:=QM (p:=x0)
  have hpos:0<(pq x0).length:=List.length_pos_iff.2 hne
  have hel:∀ a ∈ pq x0,(BG x0 a).length≤10:=fun a ha=>by
    have:=(CG (vJ.1 (List.mem_filter.1 ha).1)).1
    unfold BG
    rw [List.length_map];omega
  rw [OY hp hN hn10 hc,bS]
  simp only []
  rw [qG,dT rfl,Ar,List.length_map,dF (by omega)]
  simp only [Bool.not_true,Bool.or_self,sF]
  have h4:dA (jZ (2 ^ 70) x0 ((pq x0).map (BG x0),0)) (2 ^ 70) 0=some (bif (pq x0).all (fun _=>true) then Sum.inl () else Sum.inr false):=by
    refine BH (fun i hi=>?_) ?_ (by omega)
    · have hmi:=List.getElem_mem hi
      have hlen:=hel _ hmi
      obtain ⟨b,b1,b2,b3,_⟩:=J5 hmi
      have hcomp:xA x0 (BG x0 (pq x0)[i])=(true,0):=by rw [b3];exact TM hc b2
      have hidx:idx ((pq x0).map (BG x0)) (i:Int)=some (BG x0 (pq x0)[i]):=by
        rw [jw (by rw [List.length_map];exact hi),List.getElem_map]
      have hnd:(BG x0 (pq x0)[i]).Nodup:=by rw [b3];exact NI ho
      have hhas:∀ s ∈ BG x0 (pq x0)[i],zn x0 s=true:=by rw [b3];exact TN
      have hno:=fun k hk l=>U6 hc hmi (k:=k) hk (l:=l)
      have h2:dA (ku (2 ^ 70) x0 ((pq x0).map (BG x0),0) (i:Int)) (2 ^ 70) 0=some (bif (List.range x0.ay.length).all (fun _=>true) then Sum.inl () else Sum.inr false):=by
        refine J6 (fun k hk=>?_) ?_ (by omega)
        · unfold ku
          rw [bZ,dT (by omega),vC]
          simp only []
          rw [hidx,bS,BI hk,bS,contains_eq (by omega) (by simp) hN,bS,qR (by omega)]
          cases hs:Di (BG x0 (pq x0)[i]) [x0.ay[k]!.Name] with
          | true=>rfl
          | false =>
            rw [sF,bS,JB (by simp only [List.length_nil];omega),bS,List.nil_append,bS,JB (by simp only [List.length_singleton];omega),bS]
            have hkm:x0.ay[k]! ∈ x0.ay:=by rw [AY hk];exact List.getElem_mem _
            have hlk:=hp.l _ hkm
            have h1:dA (jv (2 ^ 70) x0 (k:Int)) (2 ^ 70) (BG x0 (pq x0)[i] ++ [x0.ay[k]!.Name],0)=some (x0.ay[k]!.Locks.foldl Fv (BG x0 (pq x0)[i] ++ [x0.ay[k]!.Name])):=by
              refine CJ (f:=jv (2 ^ 70) x0 (k:Int)) x0.ay[k]!.Locks _ Fv (fun t j=>(t,j)) (fun t=>t) (fun j hj t ht=>?_) (fun t=>?_) (by omega)
              · have htl:t.length≤12+x0.ay[k]!.Locks.length:=by
                  have h5:=J4 (x0.ay[k]!.Locks.take j) (BG x0 (pq x0)[i] ++ [x0.ay[k]!.Name])
                  rw [← ht,List.length_append,List.length_take,List.length_singleton] at h5
                  omega
                unfold jv
                simp only []
                rw [BI hk,bS,bZ,dT (by omega),vC,bS,jw hj,bS,contains_eq (by omega) (by simp) hN,bS,qR (by omega)]
                unfold Fv
                cases Di t [x0.ay[k]!.Locks[j]] with
                | true=>rfl
                | false=>rw [Bool.not_false,vC,sF,bS,jw hj,bS,JB (by simp only [List.length_singleton];omega),bS]
              · unfold jv
                simp only []
                rw [BI hk,bS,bZ,dF (by omega),sF]
            have hkn:x0.ay[k]!.Name ∉ BG x0 (pq x0)[i]:=fun h=>by rw [Xt.2 h] at hs;cases hs
            have hfl:=J4 x0.ay[k]!.Locks (BG x0 (pq x0)[i] ++ [x0.ay[k]!.Name])
            rw [List.length_append,List.length_singleton] at hfl
            have hcno:=hno k hk (x0.ay[k]!.Locks.foldl Fv (BG x0 (pq x0)[i] ++ [x0.ay[k]!.Name])) (fun s h=>(Gj _).2 (.inl (List.mem_append_left _ h))) ((Gj _).2 (.inl (List.mem_append_right _ (List.mem_singleton_self _)))) hkn (fun s h=>by
              rcases (Gj _).1 h with h | h
              · rcases List.mem_append.1 h with h | h
                · exact hhas s h
                · rw [List.mem_singleton.1 h];exact Fz.2 ⟨_,hkm,rfl⟩
              · exact (ho.lk _ hkm s h).1) (NG _ (List.nodup_append.2 ⟨hnd,by simp,fun a ha c hc2 e=>by
                rw [List.mem_singleton] at hc2
                subst hc2
                subst e
                exact hkn ha⟩))
            rw [h1,bS,AZ hp (by omega) hN,hcno,bS,qG,dT rfl];rfl
        · unfold ku
          rw [bZ,dF (by omega),sF]
      unfold jZ
      simp only []
      rw [bZ,List.length_map,dT (by omega),vC,hidx,bS,AZ hp (by omega) hN,hcomp,bS,qG,dT rfl]
      simp only [Bool.not_true,Bool.or_self,sF]
      rw [h2,show (List.range x0.ay.length).all (fun _=>true)=true by simp,vC,bS,qR (by omega)];rfl
    · unfold jZ
      simp only []
      rw [bZ,List.length_map,dF (by omega),sF]
  rw [h4,show (pq x0).all (fun _=>true)=true by simp,vC,bS]
  simp only [Sum.elim_inl]
  rw [AZ hp (by omega) hN,bS]
  by_cases hcr:xA x0 x1=(true,0)
  · rw [hcr,qG,dT rfl]
    simp only [Bool.not_true,Bool.or_self,sF]
    obtain ⟨m,hm,hs⟩:=OZ hc hcr
    have hal:(pq x0).any (fun m=>Di (BG x0 m) x1)=true:=List.any_eq_true.2 ⟨m,hm,hs⟩
    rw [← hal]
    refine TP (f:=kz (2 ^ 70) x1 ((pq x0).map (BG x0),0)) (l:=pq x0) (g:=fun m=>Di (BG x0 m) x1) (fun i hi=>?_) ?_ (by omega)
    · have hlen:=hel _ (List.getElem_mem hi)
      unfold kz
      simp only []
      rw [bZ,List.length_map,dT (by omega),vC,jw (by rw [List.length_map];exact hi),List.getElem_map,bS,contains_eq (by omega) (by omega) hN,bS,zS,qR (by omega)]
      cases Di (BG x0 (pq x0)[i]) x1 <;> rfl
    · unfold kz
      simp only []
      rw [bZ,List.length_map,dF (by omega),sF]
  · have:(aO .neq (xA x0 x1).2 0 || !(xA x0 x1).1)=true:=by
      rw [qG]
      by_cases he:(xA x0 x1).2=0
      · cases hb:(xA x0 x1).1 with
        | true=>exact absurd (Prod.ext hb he) hcr
        | false=>simp
      · rw [dF he];rfl
    rw [this,vC,zS];rfl
end Go.KB
