/- Rows of rows: each row within is owned, or only read from now on, or somebody else's for a while. No condition. -/
import Derived.Test.YtdmioehoinnamaaGreatDoorKZf
namespace Go.KB
set_option linter.unusedVariables false
variable {P:Program} {o:Oper} {N:List (Nat×aQ)} {α β:Type}
inductive qp (α:Type) where
 | own (xs:List α)
 | fz (xs:List α)
 | gone
def I8 (p:α→β→Prop):List α→List β→Prop
 | [],[]=>True
 | x :: xs,y :: ys=>p x y∧I8 p xs ys
 | _,_=>False
theorem I8.len {p:α→β→Prop}:∀ {xs:List α} {ys:List β},I8 p xs ys→xs.length=ys.length:=by
 intro xs
 induction xs with
 | nil=>intro ys h;cases ys with
  | nil=>rfl
  | cons _ _=>exact h.elim
 | cons x xs ih=>intro ys h;cases ys with
  | nil=>exact h.elim
  | cons y ys=>simp [ih h.2]
theorem I8.imp {p q:α→β→Prop} (hpq:∀ x y,p x y→q x y):∀ {xs:List α} {ys:List β},I8 p xs ys→I8 q xs ys:=by
 intro xs
 induction xs with
 | nil=>intro ys h;cases ys with
  | nil=>trivial
  | cons _ _=>exact h.elim
 | cons x xs ih=>intro ys h;cases ys with
  | nil=>exact h.elim
  | cons y ys=>exact ⟨hpq _ _ h.1,ih h.2⟩
theorem I8.get {p:α→β→Prop}:∀ {xs:List α} {ys:List β} {i:Nat} {x:α},I8 p xs ys→xs[i]? = some x →
  ∃ y1 y y2,ys=y1 ++ y :: y2∧y1.length=i∧p x y∧∀ (q:α→β→Prop),(∀ x y,p x y→q x y)→∀ x' y',q x' y'→I8 q (xs.set i x') (y1 ++ y' :: y2):=by
 intro xs
 induction xs with
 | nil=>intro ys i x _ h;simp at h
 | cons x0 xs ih =>
  intro ys i x h hx
  cases ys with
  | nil=>exact h.elim
  | cons y0 ys =>
   cases i with
   | zero=>simp at hx;subst hx;exact ⟨[],y0,ys,rfl,rfl,h.1,fun q hq x' y' k=>⟨k,I8.imp hq h.2⟩⟩
   | succ i =>
    obtain ⟨y1,y,y2,rfl,hl,hp,hs⟩:=ih h.2 (by simpa using hx)
    exact ⟨y0 :: y1,y,y2,rfl,by simp [hl],hp,fun q hq x' y' k=>⟨hq _ _ h.1,hs q hq x' y' k⟩⟩
def rowOk (E:TypeId) (r:Rep α) (h:H):qp α→Value×gq→Prop
 | .own xs,u=>iC E r xs u.1 u.2
 | .fz xs,u=>u.2=oV∧wH r h u.1 xs
 | .gone,u=>u.2=oV∧u.1.oneCell'=true
theorem rowOk.mono {E:TypeId} {r:Rep α} {h h':H} (hl:nI h h'):∀ (x:qp α) (u:Value×gq),rowOk E r h x u→rowOk E r h' x u
 | .own _,_,k=>k
 | .fz _,_,k=>⟨k.1,k.2.mono hl⟩
 | .gone,_,k=>k
theorem rowOk.flat {E:TypeId} {r:Rep α} {h:H}:∀ {x:qp α} {u:Value×gq},rowOk E r h x u→u.1.oneCell'=true
 | .own _,u,k=>by
  rcases k with ⟨⟨base,e⟩,_⟩ | ⟨b,cap,e,_⟩ <;> rw [e] <;> rfl
 | .fz _,u,k=>by
  rcases k.2 with ⟨⟨base,e⟩,_⟩ | ⟨b,off,cap,e,_⟩ <;> rw [e] <;> rfl
 | .gone,_,k=>k.2
def aCl (us:List (Value×gq)):List (Nat×Nat):=us.flatMap (fun u=>u.2.claims)
def I9 (b:Nat) (us:List (Value×gq)):Prop:=(us.map (fun u=>u.2.claims)).Pairwise Gl∧∀ u ∈ us,∀ c ∈ u.2.claims,c.1≠b
def tq (b:Nat) (T E:TypeId) (r:Rep α) (xs:List (qp α)) (us:List (Value×gq)) (cap:Nat):gq where
 claims:=(b,0) :: aCl us
 ok:=fun h m=>(∃ rest,m b=some (.cells (us.map (fun u=>u.1) ++ rest).toArray T (0,0))∧us.length+rest.length=cap)∧I8 (rowOk E r h) xs us∧∀ u ∈ us,u.2.ok h m
 mono:=fun hl ⟨a,b,c⟩=>⟨a,b.imp (rowOk.mono hl),fun u hu=>u.2.mono hl (c u hu)⟩
 frame:=by
  intro h m m' hm ⟨⟨rest,e,l⟩,k,q⟩
  refine ⟨⟨rest,by rw [hm (b,0) (by simp)];exact e,l⟩,k,fun u hu=>u.2.frame (fun c hc=>hm c ?_) (q u hu)⟩
  exact List.mem_cons_of_mem _ (List.mem_flatMap.2 ⟨u,hu,hc⟩)
def Ez (T E:TypeId) (r:Rep α) (xs:List (qp α)):eP:=fun v e=>((∃ base,v = .slice base 0 0)∧xs=[]∧e=oV) ∨
 ∃ b cap us,v = .slice (some ⟨b,0,none⟩) xs.length cap∧xs.length≤cap∧I9 b us∧e=tq b T E r xs us cap
theorem Gl.symm {a b:List (Nat×Nat)} (h:Gl a b):Gl b a:=fun c hc c' hc'=>(h c' hc' c hc).symm
theorem I9.mid {b:Nat} {qj rW:List (Value×gq)} {u:Value×gq} (h:I9 b (qj ++ u :: rW)):(∀ c ∈ u.2.claims,c.1≠b)∧∀ x ∈ qj ++ rW,Gl u.2.claims x.2.claims:=by
 obtain ⟨g1,g2⟩:=h
 rw [List.map_append,List.map_cons,List.pairwise_append,List.pairwise_cons] at g1
 obtain ⟨k1,⟨k2,k3⟩,k4⟩:=g1
 refine ⟨fun c hc=>g2 u (by simp) c hc,fun x hx=>?_⟩
 rcases List.mem_append.1 hx with hx | hx
 ·exact (k4 _ (List.mem_map.2 ⟨x,hx,rfl⟩) _ List.mem_cons_self).symm
 ·exact k2 _ (List.mem_map.2 ⟨x,hx,rfl⟩)
theorem I9.put {b:Nat} {qj rW:List (Value×gq)} {u u':Value×gq} (h:I9 b (qj ++ u :: rW)) (h1:∀ c ∈ u'.2.claims,c.1≠b) (h2:∀ x ∈ qj ++ rW,Gl u'.2.claims x.2.claims):I9 b (qj ++ u' :: rW):=by
 obtain ⟨g1,g2⟩:=h
 rw [List.map_append,List.map_cons,List.pairwise_append,List.pairwise_cons] at g1
 obtain ⟨k1,⟨k2,k3⟩,k4⟩:=g1
 constructor
 ·rw [List.map_append,List.map_cons,List.pairwise_append,List.pairwise_cons]
  refine ⟨k1,⟨fun l hl=>?_,k3⟩,fun x hx y hy=>?_⟩
  ·obtain ⟨z,hz,rfl⟩:=List.mem_map.1 hl
   exact h2 z (List.mem_append_right _ hz)
  ·rcases List.mem_cons.1 hy with rfl | hy
   ·obtain ⟨z,hz,rfl⟩:=List.mem_map.1 hx
    exact (h2 z (List.mem_append_left _ hz)).symm
   ·exact k4 x hx y (List.mem_cons_of_mem _ hy)
 ·intro z hz c hc
  rcases List.mem_append.1 hz with hz | hz
  ·exact g2 z (List.mem_append_left _ hz) c hc
  ·rcases List.mem_cons.1 hz with rfl | hz
   ·exact h1 c hc
   ·exact g2 z (List.mem_append_right _ (List.mem_cons_of_mem _ hz)) c hc
theorem I9.Yi {b:Nat} {qj rW:List (Value×gq)} {u:Value×gq} {v:Value} (h:I9 b (qj ++ u :: rW)):I9 b (qj ++ (v,oV) :: rW) :=
 h.put (fun c hc=>by cases hc) (fun x _ c hc=>by cases hc)
theorem H8 {qj rW:List (Value×gq)} {u:Value×gq} {c:Nat×Nat} (hc:c ∈ aCl (qj ++ u :: rW)):c ∈ u.2.claims∨∃ x ∈ qj ++ rW,c ∈ x.2.claims:=by
 obtain ⟨x,hx,h⟩:=List.mem_flatMap.1 hc
 rcases List.mem_append.1 hx with hx | hx
 ·exact .inr ⟨x,List.mem_append_left _ hx,h⟩
 ·rcases List.mem_cons.1 hx with rfl | hx
  ·exact .inl h
  ·exact .inr ⟨x,List.mem_append_right _ hx,h⟩
theorem PO {qj rW:List (Value×gq)} {u x:Value×gq} (hx:x ∈ qj ++ rW):x ∈ qj ++ u :: rW:=by
 rcases List.mem_append.1 hx with hx | hx
 ·exact List.mem_append_left _ hx
 ·exact List.mem_append_right _ (List.mem_cons_of_mem _ hx)
theorem Na {qj rW:List (Value×gq)} {u x:Value×gq} {c:Nat×Nat} (hx:x ∈ qj ++ rW) (hc:c ∈ x.2.claims):c ∈ aCl (qj ++ u :: rW):=List.mem_flatMap.2 ⟨x,PO hx,hc⟩
def rdA (xs:List (qp α)) (m:Nat):Option (List α):=match xs[m]? with
 | some (.own ys)=>some ys
 | some (.fz ys)=>some ys
 | _=>none
def tkA (xs:List (qp α)) (m:Nat):Option (List α):=match xs[m]? with
 | some (.own ys)=>some ys
 | _=>none
theorem Yj {xs:List (qp α)} {m:Nat} {ys:List α} (h:rdA xs m=some ys):xs[m]? = some (.own ys)∨xs[m]? = some (.fz ys):=by
 unfold rdA at h
 split at h
 ·cases h;exact .inl (by assumption)
 ·cases h;exact .inr (by assumption)
 ·cases h
theorem Yk {xs:List (qp α)} {m:Nat} {ys:List α} (h:tkA xs m=some ys):xs[m]? = some (.own ys):=by
 unfold tkA at h
 split at h
 ·cases h;assumption
 ·cases h
def ElW (N:List (Nat×aQ)) (x:Operand) (W:Wr) (s off:Nat):Prop:=∀ h a,Dl N h a→∃ b len cap,W.v a s = .slice (some ⟨b,0,none⟩) len cap∧a.eval x = .pointer (some ⟨b,off,none⟩)
theorem ElW.slot {x:Operand} {s off:Nat} (hx:bF N x (Zd s off)):ElW N x .slot s off:=fun h a n=>hx h a n
theorem ElW.val {x:Operand} {s off:Nat} {sv:Value} (hx:bF N x (LZ sv off)):ElW N x (.val sv) s off:=fun h a n=>hx h a n
theorem Yl {T T1:TypeId} {b m len cap:Nat} {k:IntKind} {x i:Operand} {n:Int} {w:World} {a:Act} {q:Rep β} (h0:0≤n) (h1:n.toNat<len) (t:fU P T1 (Rep.slice q)) (hT:P.underlying T=some (.slice T1)) (ho:o.op = .indexAddr T x i) (hx:a.eval x = .slice (some ⟨b,0,none⟩) len cap) (hi:a.eval i = .int k n) :
  (execOp a.eval o).run P w = .ok (.value (.pointer (some ⟨b,n.toNat,none⟩))) w:=by
 have hb:0≤n∧n<len:=by omega
 have hsz:(Rep.slice q).sz=1:=rfl
 simp [execOp,ho,hx,hi,Instr.indexAt,asIntOf,run_underlying hT,hb,t.size,Addr.add_mid,hsz]
theorem UH {T T1 T2 E:TypeId} {q:Rep β} {s:Nat} {k:IntKind} {x i:Operand} {xs:List (qp β)} {n:Int} {y:qp β} (hq:idx xs n=some y) (t:fU P T1 (Rep.slice q)) (hT:P.underlying T=some (.slice T1)) (ho:o.op = .indexAddr T x i) (hx:bF N x (Qh s)) (hi:bF N i (fV (Rep.int k) n)) :
  di P o N [(s,Ez T2 E q xs)] (Zd s n.toNat) []:=by
 obtain ⟨h0,h1,_⟩:=iR hq
 intro κ B F L h a w hst hn hk _ next Q hnext _
 obtain ⟨e,_,⟨_,rfl,_⟩ | ⟨b,cap,us,hv,_,_⟩⟩:=hk.1
 ·exact absurd h1 (Nat.not_lt_zero _)
 have hx':a.eval x=a.gt s:=hx h a hn
 have hv':a.gt s=_:=hv
 unfold Oper.rJ
 rw [Yl (m:=0) h0 h1 t hT ho (hx'.trans hv') (eF.1 (hi h a hn))]
 exact hnext _ h w L (nI.refl h) ⟨b,_,cap,hv',rfl⟩ hst nJ
theorem X0 {T T1 E:TypeId} {q:Rep β} {m c:Int} {k k':IntKind} {x y:Operand} {xs:List (qp β)} {d:Nat} (hq:mk (qp.own ([]:List β)) m c=some xs) (el:zX P T1 (Rep.slice q)) (t:fU P T1 (Rep.slice q)) (hT:P.underlying T=some (.slice T1)) (hd:o.dst=some d) (ho:o.op = .makeSlice T x y)
    (hx:bF N x (fV (Rep.int k) m)) (hy:bF N y (fV (Rep.int k') c)):di P o N [] aQ.rD [(d,some (Ez T1 E q xs))]:=by
  obtain ⟨h0,h1,h2,rfl⟩:=OO hq
  intro κ B F L h a w hst hn _ hdn next Q hnext _
  unfold Oper.rJ
  have hrun:=run_makeSlice (k:=k) (k':=k') w el t hT h0 h1 h2
  have hzc:(Rep.slice q).zc=[Bh]:=rfl
  have hfl:∀ n:Nat,(List.replicate n [Bh]).flatten=List.replicate n Bh:=fun n=>by
    induction n with
    | zero=>rfl
    | succ n ih=>rw [List.replicate_succ,List.flatten_cons,ih,List.replicate_succ];rfl
  rw [hzc,hfl] at hrun
  have:(execOp a.eval o).run P w = .ok (.value (.slice (some ⟨w.heap.size,0,none⟩) m.toNat c.toNat)) (w.alloc (.cells (List.replicate c.toNat Bh).toArray T1)):=by
    simp only [execOp,ho,eF.1 (hx h a hn),eF.1 (hy h a hn),Sem.run_bind,hrun,Result.andThen_ok,Sem.run_pure]
  rw [this]
  have hmc:m.toNat≤c.toNat:=by omega
  have hcl:∀ n:Nat,aCl (List.replicate n (Bh,oV))=[]:=fun n=>by
    unfold aCl
    induction n with
    | zero=>rfl
    | succ n ih=>rw [List.replicate_succ,List.flatMap_cons,ih];rfl
  have hme:∀ (n:Nat) (u:Value×gq),u ∈ List.replicate n (Bh,oV)→u=(Bh,oV):=fun n u hu=>(List.mem_replicate.1 hu).2
  have hall:∀ n:Nat,I8 (rowOk E q h) (List.replicate n (qp.own [])) (List.replicate n (Bh,oV)):=fun n=>by
    induction n with
    | zero=>trivial
    | succ n ih=>rw [List.replicate_succ,List.replicate_succ];exact ⟨.inl ⟨⟨none,rfl⟩,rfl,rfl⟩,ih⟩
  refine hnext _ h _ (set1 L d (tq w.heap.size T1 E q (List.replicate m.toNat (qp.own [])) (List.replicate m.toNat (Bh,oV)) c.toNat)) (nI.refl h) trivial (hst.BI _ d _ (fun cc hcc=>by
      rcases List.mem_cons.1 hcc with rfl | hcc
      · rfl
      · rw [hcl] at hcc;cases hcc) ?_) ?_
  · refine ⟨⟨List.replicate (c.toNat - m.toNat) Bh, ?_, by simp; omega⟩, hall _, fun u hu => by rw [hme _ u hu]; trivial⟩
    rw [BJ,List.map_replicate,List.replicate_append_replicate]
    congr 3;congr 1;omega
  · rw [hd]
    refine qL (.inr ⟨_,c.toNat,_,by rw [fG (hdn d hd),List.length_replicate],by rw [List.length_replicate];exact hmc,⟨?_,fun u hu cc hcc=>by rw [hme _ u hu] at hcc;cases hcc⟩,rfl⟩)
    rw [List.map_replicate,List.pairwise_replicate]
    exact .inr (fun cc hcc=>by cases hcc)

theorem VZ {qj rW:List (Value×gq)} {u:Value×gq} {rest:List Value} {w:World} {b:Nat} {T1:TypeId} (hb:w.heap[b]? = some (.cells ((qj ++ u :: rW).map (fun u=>u.1) ++ rest).toArray T1 (0,0))):w.cell? ⟨b,qj.length,none⟩=some u.1:=by
 rw [xI _ _ _ _ _ _ hb]
 simp
theorem V3 {T T1 : TypeId} {q : Rep β} {qj rW : List (Value × gq)} {u : Value × gq} {rest : List Value} {w : World} {a : Act} {b : Nat} {x : Operand} (t : fU P T (Rep.slice q)) (hb : w.heap[b]? = some (.cells ((qj ++ u :: rW).map (fun u => u.1) ++ rest).toArray T1 (0, 0))) (ho : o.op = .load T x) (hx : a.eval x = .pointer (some ⟨b, qj.length, none⟩)) :
    (execOp a.eval o).run P w = .ok (.value u.1) w:=by
  have hrun:=uP (b:=b) (off:=qj.length) (w:=w) (cs:=[u.1]) t rfl (fun j v hj=>by
    match j,hj with
    | 0,hj=>cases hj;exact VZ hb)
  have hrun':(Instr.loadAt T (.pointer (some ⟨b,qj.length,none⟩))).run P w = .ok u.1 w:=hrun
  simp [execOp,ho,hx,hrun']
theorem St.readA {κ:Type} {B:Base} {h:H} {L:Nat→Option gq} {F:κ→Option gq} {w:World} {T1 E:TypeId} {q:Rep β} {b m cap s:Nat} {xs:List (qp β)} {us:List (Value×gq)} {ys:List β} (hst:St B h (Sum.elim L F) w) (hL:L s=some (tq b T1 E q xs us cap)) (Ip:I9 b us) (hq:rdA xs m=some ys) :
  ∃ qj u rW,us=qj ++ u :: rW∧qj.length=m∧∃ h',nI h h'∧wH q h' u.1 ys∧I9 b (qj ++ (u.1,oV) :: rW)∧St B h' (Sum.elim (set1 L s (tq b T1 E q (xs.set m (.fz ys)) (qj ++ (u.1,oV) :: rW) cap)) F) w:=by
 obtain ⟨hcl,⟨rest,hb,hlen⟩,hall,hue⟩:=hst.own (k:=Sum.inl s) hL
 have hsub:∀ {qj rW:List (Value×gq)} {u:Value×gq},∀ c ∈ (b,0) :: aCl (qj ++ (u.1,oV) :: rW),c ∈ (b,0) :: aCl (qj ++ u :: rW):=fun {qj rW u} c hc=>by
  rcases List.mem_cons.1 hc with rfl | hc
  ·exact List.mem_cons_self
  ·rcases H8 hc with hc | ⟨x,hx,hc⟩
   ·cases hc
   ·exact List.mem_cons_of_mem _ (Na hx hc)
 have hmap:∀ {qj rW:List (Value×gq)} {u:Value×gq},(qj ++ (u.1,oV) :: rW).map (fun u=>u.1)=(qj ++ u :: rW).map (fun u=>u.1):=by simp
 have plain:∀ {qj rW:List (Value×gq)} {u:Value×gq},us=qj ++ u :: rW→qj.length=m→wH q h u.1 ys→(∀ (p:qp β→Value×gq→Prop),(∀ x y,rowOk E q h x y→p x y)→∀ x' y',p x' y'→I8 p (xs.set m x') (qj ++ y' :: rW)) →
   ∃ qj u rW,us=qj ++ u :: rW∧qj.length=m∧∃ h',nI h h'∧wH q h' u.1 ys∧I9 b (qj ++ (u.1,oV) :: rW)∧St B h' (Sum.elim (set1 L s (tq b T1 E q (xs.set m (.fz ys)) (qj ++ (u.1,oV) :: rW) cap)) F) w:=by
  intro qj rW u hus hi hsl hset
  subst hus
  refine ⟨qj,u,rW,rfl,hi,h,nI.refl h,hsl,Ip.Yi,hst.swap hL (fun c hc=>⟨c,hsub c hc,rfl,Nat.le_refl _⟩) ⟨⟨rest,by rw [hmap];exact hb,by simpa using hlen⟩,hset _ (fun _ _ k=>k) _ _ ⟨rfl,hsl⟩,fun z hz=>?_⟩⟩
  rcases List.mem_append.1 hz with hz | hz
  ·exact hue z (List.mem_append_left _ hz)
  ·rcases List.mem_cons.1 hz with rfl | hz
   ·trivial
   ·exact hue z (List.mem_append_right _ (List.mem_cons_of_mem _ hz))
 rcases Yj hq with hx | hx
 ·obtain ⟨qj,u,rW,rfl,hi,hru,hset⟩:=hall.get hx
  rcases (show iC E q ys u.1 u.2 from hru) with ⟨⟨base,hv0⟩,rfl,he⟩ | ⟨b2,cap2,hv0,hc2,he⟩
  ·exact plain rfl hi (.inl ⟨⟨base,hv0⟩,rfl⟩) hset
  have hmu:u ∈ qj ++ u :: rW:=by simp
  have hok2:=hue u hmu
  rw [he] at hok2
  obtain ⟨cs,rest2,hb2,hr2,hlen2⟩:=hok2
  have hclu:(b2,0) ∈ u.2.claims:=by rw [he];simp [qM]
  obtain ⟨hn1,hn2⟩:=Ip.mid
  have hnb:b2≠b:=hn1 (b2,0) hclu
  have hcm:(b2,0) ∈ (tq b T1 E q xs (qj ++ u :: rW) cap).claims:=List.mem_cons_of_mem _ (List.mem_flatMap.2 ⟨u,hmu,hclu⟩)
  have hle0:∀ z ∈ qj ++ rW,∀ c ∈ z.2.claims,c.1≠b2:=fun z hz c hc=>(hn2 z hz (b2,0) hclu c hc).symm
  have htk:(cs ++ rest2).toArray.toList.take cs.length=cs:=by simp
  have key:=hst.freeze (Sum.inl s) (e:=tq b T1 E q xs (qj ++ u :: rW) cap) hL (b:=b2) (lo:=0) hcm hb2 cs.length (by simp) (L':=Sum.elim (set1 L s (tq b T1 E q (xs.set m (.fz ys)) (qj ++ (u.1,oV) :: rW) cap)) F) vg
  rw [htk] at key
  have hle:nI h (hadd h b2 cs):=OV (fun o' v' hv' hlt=>by
   have:h b2 o'=none:=(hcl (b2,0) hcm).2.2 o' (Nat.zero_le _)
   rw [this] at hv';cases hv')
  have hsl:wH q (hadd h b2 cs) u.1 ys:=by
   refine .inr ⟨b2,0,cap2,hv0,hc2,(hr2.mono hle).refs fun j v hj=>?_,fun _=>hst.mo (k:=Sum.inl s) hL (c:=(b2,0)) hcm⟩
   have hjl:=(List.getElem?_eq_some_iff.1 hj).1
   rw [Nat.zero_add,zK hjl,← hj,List.getElem?_eq_getElem hjl]
  refine ⟨qj,u,rW,rfl,hi,hadd h b2 cs,hle,hsl,Ip.Yi,(key ?_).2⟩
  intro e' he'
  rw [vk he']
  refine ⟨fun c hc=>⟨⟨c,hsub c hc,rfl,Nat.le_refl _⟩,fun hcb=>?_⟩,⟨rest,by rw [hmap];exact hb,by simpa using hlen⟩,hset _ (rowOk.mono hle) _ _ ⟨rfl,hsl⟩,fun z hz=>?_⟩
  ·exfalso
   rcases List.mem_cons.1 hc with rfl | hc
   ·exact hnb hcb.symm
   ·rcases H8 hc with hc | ⟨z,hz,hc⟩
    ·cases hc
    ·exact hle0 z hz c hc hcb
  ·rcases List.mem_append.1 hz with hz | hz
   ·exact z.2.mono hle (hue z (List.mem_append_left _ hz))
   ·rcases List.mem_cons.1 hz with rfl | hz
    ·trivial
    ·exact z.2.mono hle (hue z (List.mem_append_right _ (List.mem_cons_of_mem _ hz)))
 ·obtain ⟨qj,u,rW,rfl,hi,hru,hset⟩:=hall.get hx
  exact plain rfl hi hru.2 hset
theorem V4 {T T1 E:TypeId} {q:Rep β} {s d m:Nat} {x:Operand} {xs:List (qp β)} {ys:List β} (hq:tkA xs m=some ys) (t:fU P T (Rep.slice q)) (hsd:Nat.beq s d=false) (hd:o.dst=some d) (W:Wr) (ho:o.op = .load T x) (hx:ElW N x W s m) :
  di P o N [(s,W.ap (Ez T1 E q xs))] aQ.rD [(s,some (W.ap (Ez T1 E q (xs.set m .gone)))),(d,some (iC E q ys))]:=by
 have hne:s≠d:=fun x=>by rw [iQ.2 x] at hsd;cases hsd
 intro κ B F L h a w hst hn hk hdn next Q hnext _
 obtain ⟨b,len,cap0,hdv,hxv⟩:=hx h a hn
 obtain ⟨e,hL,Ye⟩:=hk.1
 have hx0:=Yk hq
 rcases Wr.iff.1 Ye with ⟨_,rfl,_⟩ | ⟨b',cap,us,hv,hcap,Ip,rfl⟩
 ·simp at hx0
 have hdv:W.v a s = .slice (some ⟨b,0,none⟩) len cap0:=hdv
 rw [hdv] at hv;cases hv
 obtain ⟨hcl,⟨rest,hb,hlen⟩,hall,hue⟩:=hst.own (k:=Sum.inl s) hL
 obtain ⟨qj,u,rW,rfl,hi,hru,hset⟩:=hall.get hx0
 obtain ⟨hn1,hn2⟩:=Ip.mid
 have hmu:u ∈ qj ++ u :: rW:=by simp
 unfold Oper.rJ
 rw [V3 t hb ho (by rw [hi];exact hxv)]
 have hmap:(qj ++ (u.1,oV) :: rW).map (fun u=>u.1)=(qj ++ u :: rW).map (fun u=>u.1):=by simp
 have hst':=hst.split2 (d:=d) (e1:=tq b T1 E q (xs.set m .gone) (qj ++ (u.1,oV) :: rW) cap0) (e2:=u.2) hL hne (fun c hc=>by
   rcases List.mem_cons.1 hc with rfl | hc
   ·exact List.mem_cons_self
   ·rcases H8 hc with hc | ⟨z,hz,hc⟩
    ·cases hc
    ·exact List.mem_cons_of_mem _ (Na hz hc)) (fun c hc=>List.mem_cons_of_mem _ (List.mem_flatMap.2 ⟨u,hmu,hc⟩)) (fun c hc c' hc'=>by
   rcases List.mem_cons.1 hc with rfl | hc
   ·exact (hn1 c' hc').symm
   ·rcases H8 hc with hc | ⟨z,hz,hc⟩
    ·cases hc
    ·exact (hn2 z hz c' hc' c hc).symm)
  ⟨⟨rest,by rw [hmap];exact hb,by simpa using hlen⟩,hset _ (fun _ _ k=>k) _ _ ⟨rfl,hru.flat⟩,fun z hz=>by
   rcases List.mem_append.1 hz with hz | hz
   ·exact hue z (List.mem_append_left _ hz)
   ·rcases List.mem_cons.1 hz with rfl | hz
    ·trivial
    ·exact hue z (List.mem_append_right _ (List.mem_cons_of_mem _ hz))⟩ (hue u hmu)
 refine hnext _ h w _ (nI.refl h) trivial hst' ?_
 rw [hd]
 exact Rh hne (Wr.iff.2 (by rw [Wr.v_put hne];exact .inr ⟨b,_,_,by rw [List.length_set];exact hdv,by rw [List.length_set];exact hcap,Ip.Yi,rfl⟩)) (by rw [fG (hdn d hd)];exact hru)
theorem X3 {T T1 E:TypeId} {q:Rep β} {s d m:Nat} {x:Operand} {xs:List (qp β)} {ys:List β} (hq:tkA xs m=some ys) (t:fU P T (Rep.slice q)) (hsd:Nat.beq s d=false) (hd:o.dst=some d) (ho:o.op = .load T x) (hx:bF N x (Zd s m)) :
  di P o N [(s,Ez T1 E q xs)] aQ.rD [(s,some (Ez T1 E q (xs.set m .gone))),(d,some (iC E q ys))]:=V4 hq t hsd hd .slot ho (.slot hx)
theorem TQ {T T1 E:TypeId} {q:Rep β} {s d m:Nat} {x:Operand} {xs:List (qp β)} {ys:List β} {y:qp β} (hq:xs[m]? = some y) (t:fU P T (Rep.slice q)) (hsd:Nat.beq s d=false) (hd:o.dst=none) (W:Wr) (ho:o.op = .store T x (.tmp d)) (hx:ElW N x W s m) :
  di P o N [(s,W.ap (Ez T1 E q xs)),(d,iC E q ys)] aQ.rD [(s,some (W.ap (Ez T1 E q (xs.set m (.own ys))))),(d,none)]:=by
 have hne:s≠d:=fun x=>by rw [iQ.2 x] at hsd;cases hsd
 intro κ B F L h a w hst hn hk _ next Q hnext _
 obtain ⟨b,len,cap0,hdv,hxv⟩:=hx h a hn
 obtain ⟨e,hL,Ye⟩:=hk.1
 obtain ⟨e2,hL2,hq2⟩:=hk.2.1
 have hL2:L d=some e2:=hL2
 have hq2:iC E q ys (a.gt d) e2:=hq2
 rcases Wr.iff.1 Ye with ⟨_,rfl,_⟩ | ⟨b',cap,us,hv,hcap,Ip,rfl⟩
 ·simp at hq
 have hdv:W.v a s = .slice (some ⟨b,0,none⟩) len cap0:=hdv
 rw [hdv] at hv;cases hv
 obtain ⟨hcl,⟨rest,hb,hlen⟩,hall,hue⟩:=hst.own (k:=Sum.inl s) hL
 obtain ⟨qj,u,rW,rfl,hi,hru,hset⟩:=hall.get hq
 obtain ⟨hn1,hn2⟩:=Ip.mid
 have hfl:(a.gt d).oneCell'=true:=by rcases hq2 with ⟨⟨base,e⟩,_⟩ | ⟨b3,cap3,e,_⟩ <;> rw [e] <;> rfl
 have hb:w.heap[b]? = some (.cells ((qj ++ u :: rW).map (fun u=>u.1) ++ rest).toArray T1 (0,0)):=hb
 have hshape:(qj ++ u :: rW).map (fun u=>u.1) ++ rest=qj.map (fun u=>u.1) ++ [u.1] ++ (rW.map (fun u=>u.1) ++ rest):=by simp
 have hb0:=hb
 rw [hshape] at hb
 have hrun:=qZ (P:=P) (T:=T) (r:=Rep.raw) (h:=h) (x:=a.gt d) (cs:=[a.gt d]) (fU.raw t) ⟨rfl,hfl⟩ hb rfl
 have hpl:(qj.map (fun u=>u.1)).length=m:=by rw [List.length_map];exact hi
 rw [hpl] at hrun
 unfold Oper.rJ
 have ZG:qj.map (fun u=>u.1) ++ [a.gt d] ++ (rW.map (fun u=>u.1) ++ rest)=(qj ++ (a.gt d,e2) :: rW).map (fun u=>u.1) ++ rest:=by simp
 have:(execOp a.eval o).run P w = .ok .skip (w.setRow b ((qj ++ (a.gt d,e2) :: rW).map (fun u=>u.1) ++ rest).toArray):=by
  rw [← ZG]
  have hrun':(Instr.storeAt T (.pointer (some ⟨b,m,none⟩)) (a.gt d)).run P w = .ok () (w.setRow b (qj.map (fun u=>u.1) ++ [a.gt d] ++ (rW.map (fun u=>u.1) ++ rest)).toArray):=hrun
  have hev:a.eval (.tmp d)=a.gt d:=rfl
  simp only [execOp,ho,hxv,hev,Sem.run_bind,hrun',Result.andThen_ok,Sem.run_pure]
 rw [this]
 have hno:=(hcl (b,0) List.mem_cons_self).2.2
 have hmem:=wY w b _ ((qj ++ (a.gt d,e2) :: rW).map (fun u=>u.1) ++ rest).toArray T1 hb0
 have hdj:Gl ((b,0) :: aCl (qj ++ u :: rW)) e2.claims:=hst.yH (k:=Sum.inl s) (k':=Sum.inl d) hL hL2 (fun x=>hne (Sum.inl.inj x))
 have hoth:∀ i,i≠b→(w.setRow b ((qj ++ (a.gt d,e2) :: rW).map (fun u=>u.1) ++ rest).toArray).heap[i]? = w.heap[i]?:=fun i hi=>setRow_other w b i _ hi
 have ZH:∀ z ∈ qj ++ rW,z.2.ok h (World.mem (w.setRow b ((qj ++ (a.gt d,e2) :: rW).map (fun u=>u.1) ++ rest).toArray)):=fun z hz =>
  z.2.frame (fun c hc=>hoth c.1 (Ip.2 z (PO hz) c hc)) (hue z (PO hz))
 have hmap1:(qj ++ (a.gt d,oV) :: rW).map (fun u=>u.1)=(qj ++ (a.gt d,e2) :: rW).map (fun u=>u.1):=by simp
 have hst1:St B h (Sum.elim (set1 L s (tq b T1 E q (xs.set m .gone) (qj ++ (a.gt d,oV) :: rW) cap0)) F) (w.setRow b ((qj ++ (a.gt d,e2) :: rW).map (fun u=>u.1) ++ rest).toArray):=by
  refine hst.write (Sum.inl s) (e:=tq b T1 E q xs (qj ++ u :: rW) cap0) hL (b:=b) (lo:=0) List.mem_cons_self hmem hoth (by simp [World.setRow]) rfl rfl rfl ?_ vg ?_
  ·intro o' v' hh;rw [hno o' (Nat.zero_le _)] at hh;cases hh
  ·intro e' he
   rw [vk he]
   refine ⟨fun c hc=>?_,⟨rest,by rw [hmap1];exact hmem,by simpa using hlen⟩,hset _ (fun _ _ k=>k) _ _ ⟨rfl,hfl⟩,fun z hz=>?_⟩
   ·rcases List.mem_cons.1 hc with rfl | hc
    ·exact List.mem_cons_self
    ·rcases H8 hc with hc | ⟨z,hz,hc⟩
     ·cases hc
     ·exact List.mem_cons_of_mem _ (Na hz hc)
   ·rcases List.mem_append.1 hz with hz | hz
    ·exact ZH z (List.mem_append_left _ hz)
    ·rcases List.mem_cons.1 hz with rfl | hz
     ·trivial
     ·exact ZH z (List.mem_append_right _ hz)
 have hL2':set1 L s (tq b T1 E q (xs.set m .gone) (qj ++ (a.gt d,oV) :: rW) cap0) d=some e2:=by simp [set1,Ne.symm hne,hL2]
 have hok2:=(hst1.own (k:=Sum.inl d) hL2').2
 have hj:=hst1.vW (e:=tq b T1 E q (xs.set m (.own ys)) (qj ++ (a.gt d,e2) :: rW) cap0) vw hL2' (fun c hc=>by
   rcases List.mem_cons.1 hc with rfl | hc
   ·exact .inl List.mem_cons_self
   ·rcases H8 hc with hc | ⟨z,hz,hc⟩
    ·exact .inr hc
    ·exact .inl (List.mem_cons_of_mem _ (Na hz hc))) ⟨⟨rest,hmem,by simpa using hlen⟩,hset _ (fun _ _ k=>k) _ _ hq2,fun z hz=>by
   rcases List.mem_append.1 hz with hz | hz
   ·exact ZH z (List.mem_append_left _ hz)
   ·rcases List.mem_cons.1 hz with rfl | hz
    ·exact hok2
    ·exact ZH z (List.mem_append_right _ hz)⟩
 have hL':vW (set1 L s (tq b T1 E q (xs.set m .gone) (qj ++ (a.gt d,oV) :: rW) cap0)) s d (tq b T1 E q (xs.set m (.own ys)) (qj ++ (a.gt d,e2) :: rW) cap0)=vW L s d (tq b T1 E q (xs.set m (.own ys)) (qj ++ (a.gt d,e2) :: rW) cap0):=by
  funext k;unfold vW set1
  by_cases h1:k=d
  ·rw [if_pos h1,if_pos h1]
  ·rw [if_neg h1,if_neg h1]
   by_cases h2:k=s
   ·rw [if_pos h2,if_pos h2]
   ·rw [if_neg h2,if_neg h2,if_neg h2]
 rw [hL'] at hj
 refine hnext undef h _ _ (nI.refl h) trivial hj ?_
 rw [hd]
 refine Kr hne (Wr.iff.2 (.inr ⟨b,_,_,by rw [List.length_set];exact hdv,by rw [List.length_set];exact hcap,?_,rfl⟩))
 exact Ip.put (fun c hc=>(hdj (b,0) List.mem_cons_self c hc).symm) (fun z hz c hc c' hc'=>(hdj c' (List.mem_cons_of_mem _ (Na hz hc')) c hc).symm)
theorem VO {T T1 E:TypeId} {q:Rep β} {s d m:Nat} {x:Operand} {xs:List (qp β)} {ys:List β} {y:qp β} (hq:xs[m]? = some y) (t:fU P T (Rep.slice q)) (hsd:Nat.beq s d=false) (hd:o.dst=none) (ho:o.op = .store T x (.tmp d)) (hx:bF N x (Zd s m)) :
  di P o N [(s,Ez T1 E q xs),(d,iC E q ys)] aQ.rD [(s,some (Ez T1 E q (xs.set m (.own ys)))),(d,none)]:=TQ hq t hsd hd .slot ho (.slot hx)
def V5:qp α→Option (List α)
 | .own ys=>some ys
 | .fz ys=>some ys
 | .gone=>none
def allA:List (qp α)→Option (List (List α))
 | []=>some []
 | x :: xs=>(V5 x).bind fun y=>(allA xs).bind fun ys=>some (y :: ys)
theorem ZI {xs:List (qp α)} {m:Nat}:rdA xs m=xs[m]?.bind V5:=by
 unfold rdA
 cases xs[m]? with
 | none=>rfl
 | some x=>cases x <;> rfl
theorem Ri:∀ {xs:List (qp α)} {Kt:List (List α)},allA xs=some Kt→Kt.length=xs.length∧∀ i:Nat,xs[i]?.bind V5=Kt[i]?:=by
 intro xs
 induction xs with
 | nil=>intro Kt h;cases h;exact ⟨rfl,fun i=>by simp⟩
 | cons x xs ih =>
  intro Kt h
  unfold allA at h
  cases hx:V5 x with
  | none=>rw [hx] at h;cases h
  | some y =>
   rw [hx,Option.bind_some] at h
   cases hy:allA xs with
   | none=>rw [hy] at h;cases h
   | some ys =>
    rw [hy] at h;cases h
    obtain ⟨h1,h2⟩:=ih hy
    refine ⟨by simp [h1],fun i=>?_⟩
    cases i with
    | zero=>simp [hx]
    | succ i=>simpa using h2 i
theorem I8.rows {E:TypeId} {q:Rep β} {h:H}:∀ {Kt:List (List β)} {us:List (Value×gq)},I8 (rowOk E q h) (Kt.map qp.fz) us→tJ (Rep.slice q) h (us.map (fun u=>u.1)) Kt:=by
 intro Kt
 induction Kt with
 | nil=>intro us k;cases us with
  | nil=>rfl
  | cons _ _=>exact k.elim
 | cons y ys ih=>intro us k;cases us with
  | nil=>exact k.elim
  | cons u us=>exact ⟨[u.1],us.map (fun u=>u.1),rfl,⟨u.1,rfl,k.1.2⟩,ih k.2⟩
section
variable {κ:Type} {B:Base} {h0:H} {Γ:Ctx} {Λ:Own} {F:κ→Option gq} {n:Nat} {a:Act} {w:World}
theorem St.allFz {h:H} {L:Nat→Option gq} {T1 E:TypeId} {q:Rep β} {b cap s:Nat} {xs:List (qp β)} {us:List (Value×gq)} {Kt:List (List β)} (hst:St B h (Sum.elim L F) w) (hL:L s=some (tq b T1 E q xs us cap)) (Ip:I9 b us) (hy:allA xs=some Kt) :
  ∃ h' PN,nI h h'∧I9 b PN∧St B h' (Sum.elim (set1 L s (tq b T1 E q (Kt.map qp.fz) PN cap)) F) w:=by
 obtain ⟨hyl,hyg⟩:=Ri hy
 have key:∀ k,k≤xs.length→∃ h' PN xs',nI h h'∧I9 b PN∧St B h' (Sum.elim (set1 L s (tq b T1 E q xs' PN cap)) F) w∧xs'.length=xs.length∧(∀ i:Nat,xs'[i]?.bind V5=Kt[i]?)∧∀ i:Nat,i<k→xs'[i]? = Kt[i]?.map qp.fz:=by
  intro k
  induction k with
  | zero=>intro _;exact ⟨h,us,xs,nI.refl h,Ip,by rw [JR hL];exact hst,rfl,hyg,fun i hi=>absurd hi (Nat.not_lt_zero _)⟩
  | succ k ih =>
   intro hk
   obtain ⟨h1,qj,xs1,hle,hb1,hst1,hl1,hg1,hf1⟩:=ih (by omega)
   have hky:k<Kt.length:=by omega
   have hq:rdA xs1 k=some Kt[k]:=by rw [ZI,hg1,List.getElem?_eq_getElem hky]
   obtain ⟨u1,u,u2,rfl,hi,h2,hle2,_,hb2,hst2⟩:=hst1.readA vw hb1 hq
   rw [Oa] at hst2
   refine ⟨h2,_,xs1.set k (.fz Kt[k]),hle.trans hle2,hb2,hst2,by simp [hl1],fun i=>?_,fun i hi=>?_⟩
   ·by_cases hik : i = k
    ·subst hik;rw [List.getElem?_set_self (by omega),List.getElem?_eq_getElem hky];rfl
    ·rw [List.getElem?_set_ne (Ne.symm hik)];exact hg1 i
   ·by_cases hik : i = k
    ·subst hik;rw [List.getElem?_set_self (by omega),List.getElem?_eq_getElem hky];rfl
    ·rw [List.getElem?_set_ne (Ne.symm hik)];exact hf1 i (by omega)
 obtain ⟨h',PN,xs',hle,hb',hst',hl',_,hf⟩:=key xs.length (Nat.le_refl _)
 have:xs'=Kt.map qp.fz:=by
  apply List.ext_getElem?
  intro i
  rw [List.getElem?_map]
  by_cases hi:i<xs.length
  ·exact hf i hi
  ·rw [List.getElem?_eq_none (by omega),List.getElem?_eq_none (by omega)];rfl
 subst this
 exact ⟨h',PN,hle,hb',hst'⟩
theorem St.frzA {h:H} {L:Nat→Option gq} {T1 E:TypeId} {q:Rep β} {s:Nat} {v:Value} {e:gq} {xs:List (qp β)} {Kt:List (List β)} (hst:St B h (Sum.elim L F) w) (hL:L s=some e) (hq:Ez T1 E q xs v e) (hy:allA xs=some Kt) :
  ∃ h',nI h h'∧St B h' (Sum.elim (fun k=>if k=s then none else L k) F) w∧wH (Rep.slice q) h' v Kt:=by
 have hless:∀ {h1:H} {L1:Nat→Option gq},St B h1 (Sum.elim L1 F) w→St B h1 (Sum.elim (fun k=>if k=s then none else L1 k) F) w:=fun {h1 L1} x=>x.less (fun k e he=>by
  cases k with
  | inr k=>exact he
  | inl k =>
   have he:(if k=s then none else L1 k)=some e:=he
   split at he
   ·cases he
   ·exact he)
 obtain ⟨hyl,_⟩:=Ri hy
 rcases hq with ⟨⟨base,hv⟩,rfl,rfl⟩ | ⟨b,cap,us,hv,hcap,Ip,rfl⟩
 ·have:Kt=[]:=List.eq_nil_of_length_eq_zero hyl
  subst this
  exact ⟨h,nI.refl h,hless hst,.inl ⟨⟨base,hv⟩,rfl⟩⟩
 obtain ⟨h1,qj,hle,hb1,hst1⟩:=hst.allFz hL Ip hy
 obtain ⟨hcl,⟨rest,hb,hlen⟩,hall,hue⟩:=hst1.own (k:=Sum.inl s) vw
 have hb:w.heap[b]? = some (.cells (qj.map (fun u=>u.1) ++ rest).toArray T1 (0,0)):=hb
 have hrel:=hall.rows
 have key:=hst1.freeze (Sum.inl s) (e:=tq b T1 E q (Kt.map qp.fz) qj cap) vw (b:=b) (lo:=0) List.mem_cons_self hb (qj.map (fun u=>u.1)).length (by simp) (L':=Sum.elim (fun k=>if k=s then none else L k) F) (by
  intro k' e' hne he
  cases k' with
  | inr k=>exact he
  | inl k =>
   have hks:k≠s:=fun x=>hne (by rw [x])
   have he:(if k=s then none else L k)=some e':=he
   rw [if_neg hks] at he
   show set1 L s _ k=some e'
   simp [set1,hks,he]) (fun e' he=>by simp at he)
 have htk:(qj.map (fun u=>u.1) ++ rest).toArray.toList.take (qj.map (fun u=>u.1)).length=qj.map (fun u=>u.1):=by simp
 rw [htk] at key
 obtain ⟨hl2,hst2⟩:=key
 refine ⟨_,hle.trans hl2,hst2,.inr ⟨b,0,cap,by rw [hyl];exact hv,by omega,(hrel.mono hl2).refs fun j v hj=>?_,fun _=>hst1.mo (k:=Sum.inl s) vw (c:=(b,0)) List.mem_cons_self⟩⟩
 have hjl:=(List.getElem?_eq_some_iff.1 hj).1
 rw [Nat.zero_add,zK hjl,← hj,List.getElem?_eq_getElem hjl]
end
theorem X4 {T1 E:TypeId} {q:Rep β} {s:Nat} {x:Operand} {xs:List (qp β)} {Kt:List (List β)} (hy:allA xs=some Kt) (ho:o.op = .assign x) (hx:bF N x (Qh s)) :
  di P o N [(s,Ez T1 E q xs)] (fV (Rep.slice (Rep.slice q)) Kt) [(s,none)]:=by
 intro κ B F L h a w hst hn hk _ next Q hnext _
 obtain ⟨e,hL,hq⟩:=hk.1
 have hx':a.eval x=a.gt s:=hx h a hn
 unfold Oper.rJ
 have:(execOp a.eval o).run P w = .ok (.value (a.gt s)) w:=by
  rw [← hx'];simp [execOp,ho]
 rw [this]
 obtain ⟨h',hle,hst',hsl⟩:=hst.frzA hL hq hy
 exact hnext _ h' w _ hle (pK.2 hsl) hst' Yh
theorem Zx {c:Value} (ho:o.op = .assign (.const c)):di P o N [] aQ.rD []:=by
 intro κ B F L h a w hst hn hk _ next Q hnext _
 unfold Oper.rJ
 have:(execOp a.eval o).run P w = .ok (.value c) w:=by simp [execOp,ho];rfl
 rw [this]
 exact hnext _ h w L (nI.refl h) trivial hst nJ
def vG (T:TypeId) (q:eP):eP:=fun v e=>∃ b sv e2,v = .pointer (some ⟨b,0,none⟩)∧q sv e2∧Gl [(b,0)] e2.claims∧e=J9 (qK b T Rep.raw sv) e2
theorem VK {T:TypeId} {d:Nat} (t:fU P T Rep.raw) (hd:o.dst=some d) (ho:o.op = .alloc T):di P o N [] aQ.rD [(d,some (dJ T Rep.raw Bh))]:=dQ t hd ho
section
variable {κ:Type} {B:Base} {h0:H} {Γ:Ctx} {Λ:Own} {F:κ→Option gq} {n:Nat} {a:Act} {w:World}
end
end Go.KB
