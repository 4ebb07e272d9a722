/- Rows of rows: each row within is owned, or only read from now on, or somebody else's for a while. No condition. -/
import Derived.Test.YtehmpjjbmldcnaaKZf
namespace Go.KB
set_option linter.unusedVariables false
variable {P:Program} {o:Oper} {N:List (Nat×aO)} {α β:Type}

inductive gV (α:Type) where
  | own (xs:List α)
  | fz (xs:List α)
  | gone
def Fp (p:α→β→Prop):List α→List β→Prop
  | [],[]=>True
  | x :: xs,y :: ys=>p x y∧Fp p xs ys
  | _,_=>False
theorem Fp.len {p:α→β→Prop}:∀ {xs:List α} {ys:List β},Fp p xs ys→xs.length=ys.length:=by
  intro xs
  induction xs with
  | nil=>intro ys h;cases ys with
    | nil=>rfl
    | cons _ _=>exact h.elim
  | cons x xs ih=>intro ys h;cases ys with
    | nil=>exact h.elim
    | cons y ys=>simp [ih h.2]
theorem Fp.imp {p q:α→β→Prop} (hpq:∀ x y,p x y→q x y):∀ {xs:List α} {ys:List β},Fp p xs ys→Fp q xs ys:=by
  intro xs
  induction xs with
  | nil=>intro ys h;cases ys with
    | nil=>trivial
    | cons _ _=>exact h.elim
  | cons x xs ih=>intro ys h;cases ys with
    | nil=>exact h.elim
    | cons y ys=>exact ⟨hpq _ _ h.1,ih h.2⟩
theorem Fp.get {p:α→β→Prop}:∀ {xs:List α} {ys:List β} {i:Nat} {x:α},Fp p xs ys→xs[i]? = some x →
    ∃ y1 y y2,ys=y1 ++ y :: y2∧y1.length=i∧p x y∧∀ (q:α→β→Prop),(∀ x y,p x y→q x y)→∀ x' y',q x' y'→Fp q (xs.set i x') (y1 ++ y' :: y2):=by
  intro xs
  induction xs with
  | nil=>intro ys i x _ h;simp at h
  | cons x0 xs ih =>
    intro ys i x h hx
    cases ys with
    | nil=>exact h.elim
    | cons y0 ys =>
      cases i with
      | zero=>simp at hx;subst hx;exact ⟨[],y0,ys,rfl,rfl,h.1,fun q hq x' y' k=>⟨k,Fp.imp hq h.2⟩⟩
      | succ i =>
        obtain ⟨y1,y,y2,rfl,hl,hp,hs⟩:=ih h.2 (by simpa using hx)
        exact ⟨y0 :: y1,y,y2,rfl,by simp [hl],hp,fun q hq x' y' k=>⟨hq _ _ h.1,hs q hq x' y' k⟩⟩

def rowOk (E:TypeId) (r:Rep α) (h:H):gV α→Value×gQ→Prop
  | .own xs,u=>bU E r xs u.1 u.2
  | .fz xs,u=>u.2=kM∧uh r h u.1 xs
  | .gone,u=>u.2=kM∧u.1.oneCell'=true
theorem rowOk.mono {E:TypeId} {r:Rep α} {h h':H} (hl:lD h h'):∀ (x:gV α) (u:Value×gQ),rowOk E r h x u→rowOk E r h' x u
  | .own _,_,k=>k
  | .fz _,_,k=>⟨k.1,k.2.mono hl⟩
  | .gone,_,k=>k
theorem rowOk.flat {E:TypeId} {r:Rep α} {h:H}:∀ {x:gV α} {u:Value×gQ},rowOk E r h x u→u.1.oneCell'=true
  | .own _,u,k=>by
    rcases k with ⟨⟨base,e⟩,_⟩ | ⟨b,cap,e,_⟩ <;> rw [e] <;> rfl
  | .fz _,u,k=>by
    rcases k.2 with ⟨⟨base,e⟩,_⟩ | ⟨b,off,cap,e,_⟩ <;> rw [e] <;> rfl
  | .gone,_,k=>k.2
def X0 (us:List (Value×gQ)):List (Nat×Nat):=us.flatMap (fun u=>u.2.claims)
def Fq (b:Nat) (us:List (Value×gQ)):Prop:=(us.map (fun u=>u.2.claims)).Pairwise Ff∧∀ u ∈ us,∀ c ∈ u.2.claims,c.1≠b
def oL (b:Nat) (T E:TypeId) (r:Rep α) (xs:List (gV α)) (us:List (Value×gQ)) (cap:Nat):gQ where
  claims:=(b,0) :: X0 us
  ok:=fun h m=>(∃ rest,m b=some (.cells (us.map (fun u=>u.1) ++ rest).toArray T (0,0))∧us.length+rest.length=cap)∧Fp (rowOk E r h) xs us∧∀ u ∈ us,u.2.ok h m
  mono:=fun hl ⟨a,b,c⟩=>⟨a,b.imp (rowOk.mono hl),fun u hu=>u.2.mono hl (c u hu)⟩
  frame:=by
    intro h m m' hm ⟨⟨rest,e,l⟩,k,q⟩
    refine ⟨⟨rest,by rw [hm (b,0) (by simp)];exact e,l⟩,k,fun u hu=>u.2.frame (fun c hc=>hm c ?_) (q u hu)⟩
    exact List.mem_cons_of_mem _ (List.mem_flatMap.2 ⟨u,hu,hc⟩)
def jC (T E:TypeId) (r:Rep α) (xs:List (gV α)):gK:=fun v e=>((∃ base,v = .slice base 0 0)∧xs=[]∧e=kM) ∨
  ∃ b cap us,v = .slice (some ⟨b,0,none⟩) xs.length cap∧xs.length≤cap∧Fq b us∧e=oL b T E r xs us cap

theorem Ff.symm {a b:List (Nat×Nat)} (h:Ff a b):Ff b a:=fun c hc c' hc'=>(h c' hc' c hc).symm
theorem Fq.mid {b:Nat} {lI nD:List (Value×gQ)} {u:Value×gQ} (h:Fq b (lI ++ u :: nD)):(∀ c ∈ u.2.claims,c.1≠b)∧∀ x ∈ lI ++ nD,Ff u.2.claims x.2.claims:=by
  obtain ⟨g1,g2⟩:=h
  rw [List.map_append,List.map_cons,List.pairwise_append,List.pairwise_cons] at g1
  obtain ⟨k1,⟨k2,k3⟩,k4⟩:=g1
  refine ⟨fun c hc=>g2 u (by simp) c hc,fun x hx=>?_⟩
  rcases List.mem_append.1 hx with hx | hx
  · exact (k4 _ (List.mem_map.2 ⟨x,hx,rfl⟩) _ List.mem_cons_self).symm
  · exact k2 _ (List.mem_map.2 ⟨x,hx,rfl⟩)
theorem Fq.put {b:Nat} {lI nD:List (Value×gQ)} {u u':Value×gQ} (h:Fq b (lI ++ u :: nD)) (h1:∀ c ∈ u'.2.claims,c.1≠b) (h2:∀ x ∈ lI ++ nD,Ff u'.2.claims x.2.claims):Fq b (lI ++ u' :: nD):=by
  obtain ⟨g1,g2⟩:=h
  rw [List.map_append,List.map_cons,List.pairwise_append,List.pairwise_cons] at g1
  obtain ⟨k1,⟨k2,k3⟩,k4⟩:=g1
  constructor
  · rw [List.map_append,List.map_cons,List.pairwise_append,List.pairwise_cons]
    refine ⟨k1,⟨fun l hl=>?_,k3⟩,fun x hx y hy=>?_⟩
    · obtain ⟨z,hz,rfl⟩:=List.mem_map.1 hl
      exact h2 z (List.mem_append_right _ hz)
    · rcases List.mem_cons.1 hy with rfl | hy
      · obtain ⟨z,hz,rfl⟩:=List.mem_map.1 hx
        exact (h2 z (List.mem_append_left _ hz)).symm
      · exact k4 x hx y (List.mem_cons_of_mem _ hy)
  · intro z hz c hc
    rcases List.mem_append.1 hz with hz | hz
    · exact g2 z (List.mem_append_left _ hz) c hc
    · rcases List.mem_cons.1 hz with rfl | hz
      · exact h1 c hc
      · exact g2 z (List.mem_append_right _ (List.mem_cons_of_mem _ hz)) c hc
theorem Fq.U0 {b:Nat} {lI nD:List (Value×gQ)} {u:Value×gQ} {v:Value} (h:Fq b (lI ++ u :: nD)):Fq b (lI ++ (v,kM) :: nD) :=
  h.put (fun c hc=>by cases hc) (fun x _ c hc=>by cases hc)
theorem Ed {lI nD:List (Value×gQ)} {u:Value×gQ} {c:Nat×Nat} (hc:c ∈ X0 (lI ++ u :: nD)):c ∈ u.2.claims∨∃ x ∈ lI ++ nD,c ∈ x.2.claims:=by
  obtain ⟨x,hx,h⟩:=List.mem_flatMap.1 hc
  rcases List.mem_append.1 hx with hx | hx
  · exact .inr ⟨x,List.mem_append_left _ hx,h⟩
  · rcases List.mem_cons.1 hx with rfl | hx
    · exact .inl h
    · exact .inr ⟨x,List.mem_append_right _ hx,h⟩
theorem NU {lI nD:List (Value×gQ)} {u x:Value×gQ} (hx:x ∈ lI ++ nD):x ∈ lI ++ u :: nD:=by
  rcases List.mem_append.1 hx with hx | hx
  · exact List.mem_append_left _ hx
  · exact List.mem_append_right _ (List.mem_cons_of_mem _ hx)
theorem KG {lI nD:List (Value×gQ)} {u x:Value×gQ} {c:Nat×Nat} (hx:x ∈ lI ++ nD) (hc:c ∈ x.2.claims):c ∈ X0 (lI ++ u :: nD):=List.mem_flatMap.2 ⟨x,NU hx,hc⟩

/- what is read of such a row -/
def rdA (xs:List (gV α)) (m:Nat):Option (List α):=match xs[m]? with
  | some (.own ys)=>some ys
  | some (.fz ys)=>some ys
  | _=>none
def X3 (xs:List (gV α)) (m:Nat):Option (List α):=match xs[m]? with
  | some (.own ys)=>some ys
  | _=>none
theorem O7 {xs:List (gV α)} {m:Nat} {ys:List α} (h:rdA xs m=some ys):xs[m]? = some (.own ys)∨xs[m]? = some (.fz ys):=by
  unfold rdA at h
  split at h
  · cases h;exact .inl (by assumption)
  · cases h;exact .inr (by assumption)
  · cases h
theorem U1 {xs:List (gV α)} {m:Nat} {ys:List α} (h:X3 xs m=some ys):xs[m]? = some (.own ys):=by
  unfold X3 at h
  split at h
  · cases h;assumption
  · cases h

/- pointers to such a row's cells -/
def Y8 (N:List (Nat×aO)) (x:Operand) (W:Wr) (s off:Nat):Prop:=∀ h a,AU N h a→∃ b len cap,W.v a s = .slice (some ⟨b,0,none⟩) len cap∧a.eval x = .pointer (some ⟨b,off,none⟩)
theorem Y8.slot {x:Operand} {s off:Nat} (hx:bJ N x (Wj s off)):Y8 N x .slot s off:=fun h a n=>hx h a n
theorem Y8.val {x:Operand} {s off:Nat} {sv:Value} (hx:bJ N x (Qw sv off)):Y8 N x (.val sv) s off:=fun h a n=>hx h a n
theorem O8 {T T1:TypeId} {b m len cap:Nat} {k:IntKind} {x i:Operand} {n:Int} {w:World} {a:Act} {q:Rep β} (h0:0≤n) (h1:n.toNat<len) (t:iV P T1 (Rep.slice q)) (hT:P.underlying T=some (.slice T1)) (ho:o.op = .indexAddr T x i) (hx:a.eval x = .slice (some ⟨b,0,none⟩) len cap) (hi:a.eval i = .int k n) :
    (execOp a.eval o).run P w = .ok (.value (.pointer (some ⟨b,n.toNat,none⟩))) w:=by
  have hb:0≤n∧n<len:=by omega
  have hsz:(Rep.slice q).sz=1:=rfl
  simp [execOp,ho,hx,hi,Instr.indexAt,asIntOf,run_underlying hT,hb,t.size,Addr.add_mid,hsz]
theorem ok_idxA {T T1 T2 E:TypeId} {q:Rep β} {s:Nat} {k:IntKind} {x i:Operand} {xs:List (gV β)} {n:Int} {y:gV β} (hq:idx xs n=some y) (t:iV P T1 (Rep.slice q)) (hT:P.underlying T=some (.slice T1)) (ho:o.op = .indexAddr T x i) (hx:bJ N x (Ls s)) (hi:bJ N i (fV (Rep.int k) n)) :
    dw P o N [(s,jC T2 E q xs)] (Wj s n.toNat) []:=by
  obtain ⟨h0,h1,_⟩:=cZ hq
  intro κ B F L h a w hst hn hk _ next Q hnext _
  obtain ⟨e,_,⟨_,rfl,_⟩ | ⟨b,cap,us,hv,_,_⟩⟩:=hk.1
  · exact absurd h1 (Nat.not_lt_zero _)
  have hx':a.eval x=a.gt s:=hx h a hn
  have hv':a.gt s=_:=hv
  unfold Oper.oK
  rw [O8 (m:=0) h0 h1 t hT ho (hx'.trans hv') (eG.1 (hi h a hn))]
  exact hnext _ h w L (lD.refl h) ⟨b,_,cap,hv',rfl⟩ hst lU
theorem Gq {T T1 T2 E:TypeId} {q:Rep β} {g:Nat} {sv:Value} {k:IntKind} {x i:Operand} {xs:List (gV β)} {n:Int} {y:gV β} (hq:idx xs n=some y) (t:iV P T1 (Rep.slice q)) (hT:P.underlying T=some (.slice T1)) (ho:o.op = .indexAddr T x i) (hx:bJ N x (xE sv)) (hi:bJ N i (fV (Rep.int k) n)) :
    dw P o N [(g,vK (jC T2 E q xs) sv)] (Qw sv n.toNat) []:=by
  obtain ⟨h0,h1,_⟩:=cZ hq
  intro κ B F L h a w hst hn hk _ next Q hnext _
  obtain ⟨e,_,⟨_,rfl,_⟩ | ⟨b,cap,us,hv,_,_⟩⟩:=hk.1
  · exact absurd h1 (Nat.not_lt_zero _)
  have hx':a.eval x=sv:=hx h a hn
  unfold Oper.oK
  rw [O8 (m:=0) h0 h1 t hT ho (hx'.trans hv) (eG.1 (hi h a hn))]
  exact hnext _ h w L (lD.refl h) ⟨b,_,cap,hv,rfl⟩ hst lU
theorem O9 {T T1 E E1:TypeId} {q:Rep β} {x:Operand} {xs:List (gV β)} {v:Value} {e:gQ} {w:World} {a:Act} (hT:P.underlying T=some (.slice T1)) (ho:o.op = .call { callee:=.builtin .len,args:=#[x],argTypes:=#[T] }) (hx:a.eval x=v) (hq:jC E E1 q xs v e) :
    (execOp a.eval o).run P w = .ok (.value (.int .i64 (xs.length:Int))) w:=by
  rcases hq with ⟨⟨base,hv⟩,rfl,_⟩ | ⟨b,cap,us,hv,_,_⟩
  · simp [execOp,ho,resolve,invoke,builtin,Builtin.len_,hx,hv,run_underlying hT,goInt]
  · simp [execOp,ho,resolve,invoke,builtin,Builtin.len_,hx,hv,run_underlying hT,goInt]
theorem ok_lenA {T T1 E E1:TypeId} {q:Rep β} {s:Nat} {x:Operand} {xs:List (gV β)} (hT:P.underlying T=some (.slice T1)) (ho:o.op = .call { callee:=.builtin .len,args:=#[x],argTypes:=#[T] }) (hx:bJ N x (Ls s)) :
    dw P o N [(s,jC E E1 q xs)] (fV (Rep.int .i64) (xs.length:Int)) []:=by
  intro κ B F L h a w hst hn hk _ next Q hnext _
  obtain ⟨e,_,hq⟩:=hk.1
  unfold Oper.oK
  rw [O9 hT ho (hx h a hn) hq]
  exact hnext _ h w L (lD.refl h) (eG.2 rfl) hst lU
theorem Uu {T T1 E E1:TypeId} {q:Rep β} {g:Nat} {sv:Value} {x:Operand} {xs:List (gV β)} (hT:P.underlying T=some (.slice T1)) (ho:o.op = .call { callee:=.builtin .len,args:=#[x],argTypes:=#[T] }) (hx:bJ N x (xE sv)) :
    dw P o N [(g,vK (jC E E1 q xs) sv)] (fV (Rep.int .i64) (xs.length:Int)) []:=by
  intro κ B F L h a w hst hn hk _ next Q hnext _
  obtain ⟨e,_,hq⟩:=hk.1
  unfold Oper.oK
  rw [O9 hT ho (hx h a hn) hq]
  exact hnext _ h w L (lD.refl h) (eG.2 rfl) hst lU

/- such a row is made -/
theorem Us {T T1 E:TypeId} {q:Rep β} {m c:Int} {k k':IntKind} {x y:Operand} {xs:List (gV β)} {d:Nat} (hq:mk (gV.own ([]:List β)) m c=some xs) (el:vX P T1 (Rep.slice q)) (t:iV P T1 (Rep.slice q)) (hT:P.underlying T=some (.slice T1)) (hd:o.dst=some d) (ho:o.op = .makeSlice T x y)
    (hx:bJ N x (fV (Rep.int k) m)) (hy:bJ N y (fV (Rep.int k') c)):dw P o N [] aO.pX [(d,some (jC T1 E q xs))]:=by
  obtain ⟨h0,h1,h2,rfl⟩:=Ru hq
  intro κ B F L h a w hst hn _ hdn next Q hnext _
  unfold Oper.oK
  have hrun:=run_makeSlice (k:=k) (k':=k') w el t hT h0 h1 h2
  have hzc:(Rep.slice q).zc=[zL]:=rfl
  have hfl:∀ n:Nat,(List.replicate n [zL]).flatten=List.replicate n zL:=fun n=>by
    induction n with
    | zero=>rfl
    | succ n ih=>rw [List.replicate_succ,List.flatten_cons,ih,List.replicate_succ];rfl
  rw [hzc,hfl] at hrun
  have:(execOp a.eval o).run P w = .ok (.value (.slice (some ⟨w.heap.size,0,none⟩) m.toNat c.toNat)) (w.alloc (.cells (List.replicate c.toNat zL).toArray T1)):=by
    simp only [execOp,ho,eG.1 (hx h a hn),eG.1 (hy h a hn),Sem.run_bind,hrun,Result.andThen_ok,Sem.run_pure]
  rw [this]
  have hmc:m.toNat≤c.toNat:=by omega
  have hcl:∀ n:Nat,X0 (List.replicate n (zL,kM))=[]:=fun n=>by
    unfold X0
    induction n with
    | zero=>rfl
    | succ n ih=>rw [List.replicate_succ,List.flatMap_cons,ih];rfl
  have hme:∀ (n:Nat) (u:Value×gQ),u ∈ List.replicate n (zL,kM)→u=(zL,kM):=fun n u hu=>(List.mem_replicate.1 hu).2
  have hall:∀ n:Nat,Fp (rowOk E q h) (List.replicate n (gV.own [])) (List.replicate n (zL,kM)):=fun n=>by
    induction n with
    | zero=>trivial
    | succ n ih=>rw [List.replicate_succ,List.replicate_succ];exact ⟨.inl ⟨⟨none,rfl⟩,rfl,rfl⟩,ih⟩
  refine hnext _ h _ (set1 L d (oL w.heap.size T1 E q (List.replicate m.toNat (gV.own [])) (List.replicate m.toNat (zL,kM)) c.toNat)) (lD.refl h) trivial (hst.y8 _ d _ (fun cc hcc=>by
      rcases List.mem_cons.1 hcc with rfl | hcc
      · rfl
      · rw [hcl] at hcc;cases hcc) ?_) ?_
  · refine ⟨⟨List.replicate (c.toNat - m.toNat) zL, ?_, by simp; omega⟩, hall _, fun u hu => by rw [hme _ u hu]; trivial⟩
    rw [y9,List.map_replicate,List.replicate_append_replicate]
    congr 3;congr 1;omega
  · rw [hd]
    refine lH (.inr ⟨_,c.toNat,_,by rw [fO (hdn d hd),List.length_replicate],by rw [List.length_replicate];exact hmc,⟨?_,fun u hu cc hcc=>by rw [hme _ u hu] at hcc;cases hcc⟩,rfl⟩)
    rw [List.map_replicate,List.pairwise_replicate]
    exact .inr (fun cc hcc=>by cases hcc)

/- loads -/
theorem Tv {lI nD:List (Value×gQ)} {u:Value×gQ} {rest:List Value} {w:World} {b:Nat} {T1:TypeId} (hb:w.heap[b]? = some (.cells ((lI ++ u :: nD).map (fun u=>u.1) ++ rest).toArray T1 (0,0))):w.cell? ⟨b,lI.length,none⟩=some u.1:=by
  rw [uQ _ _ _ _ _ _ hb]
  simp
theorem MG {T T1 : TypeId} {q : Rep β} {lI nD : List (Value × gQ)} {u : Value × gQ} {rest : List Value} {w : World} {a : Act} {b : Nat} {x : Operand} (t : iV P T (Rep.slice q)) (hb : w.heap[b]? = some (.cells ((lI ++ u :: nD).map (fun u => u.1) ++ rest).toArray T1 (0, 0))) (ho : o.op = .load T x) (hx : a.eval x = .pointer (some ⟨b, lI.length, none⟩)) :
    (execOp a.eval o).run P w = .ok (.value u.1) w:=by
  have hrun:=rW (b:=b) (off:=lI.length) (w:=w) (cs:=[u.1]) t rfl (fun j v hj=>by
    match j,hj with
    | 0,hj=>cases hj;exact Tv hb)
  have hrun':(Instr.loadAt T (.pointer (some ⟨b,lI.length,none⟩))).run P w = .ok u.1 w:=hrun
  simp [execOp,ho,hx,hrun']
/- a row within is only read from now on -/
theorem St.readA {κ:Type} {B:Base} {h:H} {L:Nat→Option gQ} {F:κ→Option gQ} {w:World} {T1 E:TypeId} {q:Rep β} {b m cap s:Nat} {xs:List (gV β)} {us:List (Value×gQ)} {ys:List β} (hst:St B h (Sum.elim L F) w) (hL:L s=some (oL b T1 E q xs us cap)) (Ih:Fq b us) (hq:rdA xs m=some ys) :
    ∃ lI u nD,us=lI ++ u :: nD∧lI.length=m∧∃ h',lD h h'∧uh q h' u.1 ys∧Fq b (lI ++ (u.1,kM) :: nD)∧St B h' (Sum.elim (set1 L s (oL b T1 E q (xs.set m (.fz ys)) (lI ++ (u.1,kM) :: nD) cap)) F) w:=by
  obtain ⟨hcl,⟨rest,hb,hlen⟩,hall,hue⟩:=hst.own (k:=Sum.inl s) hL
  have hsub:∀ {lI nD:List (Value×gQ)} {u:Value×gQ},∀ c ∈ (b,0) :: X0 (lI ++ (u.1,kM) :: nD),c ∈ (b,0) :: X0 (lI ++ u :: nD):=fun {lI nD u} c hc=>by
    rcases List.mem_cons.1 hc with rfl | hc
    · exact List.mem_cons_self
    · rcases Ed hc with hc | ⟨x,hx,hc⟩
      · cases hc
      · exact List.mem_cons_of_mem _ (KG hx hc)
  have hmap:∀ {lI nD:List (Value×gQ)} {u:Value×gQ},(lI ++ (u.1,kM) :: nD).map (fun u=>u.1)=(lI ++ u :: nD).map (fun u=>u.1):=by simp
  have plain:∀ {lI nD:List (Value×gQ)} {u:Value×gQ},us=lI ++ u :: nD→lI.length=m→uh q h u.1 ys→(∀ (p:gV β→Value×gQ→Prop),(∀ x y,rowOk E q h x y→p x y)→∀ x' y',p x' y'→Fp p (xs.set m x') (lI ++ y' :: nD)) →
      ∃ lI u nD,us=lI ++ u :: nD∧lI.length=m∧∃ h',lD h h'∧uh q h' u.1 ys∧Fq b (lI ++ (u.1,kM) :: nD)∧St B h' (Sum.elim (set1 L s (oL b T1 E q (xs.set m (.fz ys)) (lI ++ (u.1,kM) :: nD) cap)) F) w:=by
    intro lI nD u hus hi hsl hset
    subst hus
    refine ⟨lI,u,nD,rfl,hi,h,lD.refl h,hsl,Ih.U0,hst.swap hL (fun c hc=>⟨c,hsub c hc,rfl,Nat.le_refl _⟩) ⟨⟨rest,by rw [hmap];exact hb,by simpa using hlen⟩,hset _ (fun _ _ k=>k) _ _ ⟨rfl,hsl⟩,fun z hz=>?_⟩⟩
    rcases List.mem_append.1 hz with hz | hz
    · exact hue z (List.mem_append_left _ hz)
    · rcases List.mem_cons.1 hz with rfl | hz
      · trivial
      · exact hue z (List.mem_append_right _ (List.mem_cons_of_mem _ hz))
  rcases O7 hq with hx | hx
  · obtain ⟨lI,u,nD,rfl,hi,Y9,hset⟩:=hall.get hx
    rcases (show bU E q ys u.1 u.2 from Y9) with ⟨⟨base,hv0⟩,rfl,he⟩ | ⟨b2,cap2,hv0,hc2,he⟩
    · exact plain rfl hi (.inl ⟨⟨base,hv0⟩,rfl⟩) hset
    have hmu:u ∈ lI ++ u :: nD:=by simp
    have hok2:=hue u hmu
    rw [he] at hok2
    obtain ⟨cs,rest2,hb2,hr2,hlen2⟩:=hok2
    have Za:(b2,0) ∈ u.2.claims:=by rw [he];simp [jJ]
    obtain ⟨hn1,hn2⟩:=Ih.mid
    have hnb:b2≠b:=hn1 (b2,0) Za
    have hcm:(b2,0) ∈ (oL b T1 E q xs (lI ++ u :: nD) cap).claims:=List.mem_cons_of_mem _ (List.mem_flatMap.2 ⟨u,hmu,Za⟩)
    have hle0:∀ z ∈ lI ++ nD,∀ c ∈ z.2.claims,c.1≠b2:=fun z hz c hc=>(hn2 z hz (b2,0) Za c hc).symm
    have htk:(cs ++ rest2).toArray.toList.take cs.length=cs:=by simp
    have key:=hst.freeze (Sum.inl s) (e:=oL b T1 E q xs (lI ++ u :: nD) cap) hL (b:=b2) (lo:=0) hcm hb2 cs.length (by simp) (L':=Sum.elim (set1 L s (oL b T1 E q (xs.set m (.fz ys)) (lI ++ (u.1,kM) :: nD) cap)) F) qw
    rw [htk] at key
    have hle:lD h (hadd h b2 cs):=NK (fun o' v' hv' hlt=>by
      have:h b2 o'=none:=(hcl (b2,0) hcm).2.2 o' (Nat.zero_le _)
      rw [this] at hv';cases hv')
    have hsl:uh q (hadd h b2 cs) u.1 ys:=by
      refine .inr ⟨b2,0,cap2,hv0,hc2,(hr2.mono hle).refs fun j v hj=>?_,fun _=>hst.mo (k:=Sum.inl s) hL (c:=(b2,0)) hcm⟩
      have hjl:=(List.getElem?_eq_some_iff.1 hj).1
      rw [Nat.zero_add,yH hjl,← hj,List.getElem?_eq_getElem hjl]
    refine ⟨lI,u,nD,rfl,hi,hadd h b2 cs,hle,hsl,Ih.U0,(key ?_).2⟩
    intro e' he'
    rw [qx he']
    refine ⟨fun c hc=>⟨⟨c,hsub c hc,rfl,Nat.le_refl _⟩,fun hcb=>?_⟩,⟨rest,by rw [hmap];exact hb,by simpa using hlen⟩,hset _ (rowOk.mono hle) _ _ ⟨rfl,hsl⟩,fun z hz=>?_⟩
    · exfalso
      rcases List.mem_cons.1 hc with rfl | hc
      · exact hnb hcb.symm
      · rcases Ed hc with hc | ⟨z,hz,hc⟩
        · cases hc
        · exact hle0 z hz c hc hcb
    · rcases List.mem_append.1 hz with hz | hz
      · exact z.2.mono hle (hue z (List.mem_append_left _ hz))
      · rcases List.mem_cons.1 hz with rfl | hz
        · trivial
        · exact z.2.mono hle (hue z (List.mem_append_right _ (List.mem_cons_of_mem _ hz)))
  · obtain ⟨lI,u,nD,rfl,hi,Y9,hset⟩:=hall.get hx
    exact plain rfl hi Y9.2 hset
theorem MH {T T1 E:TypeId} {q:Rep β} {s d m:Nat} {x:Operand} {xs:List (gV β)} {ys:List β} (hq:rdA xs m=some ys) (t:iV P T (Rep.slice q)) (hsd:Nat.beq s d=false) (hd:o.dst=some d) (W:Wr) (ho:o.op = .load T x) (hx:Y8 N x W s m) :
    dw P o N [(s,W.ap (jC T1 E q xs))] (fV (Rep.slice q) ys) [(s,some (W.ap (jC T1 E q (xs.set m (.fz ys)))))]:=by
  have hne:s≠d:=fun x=>by rw [kL.2 x] at hsd;cases hsd
  intro κ B F L h a w hst hn hk hdn next Q hnext _
  obtain ⟨b,len,cap0,hdv,hxv⟩:=hx h a hn
  obtain ⟨e,hL,WE⟩:=hk.1
  rcases Wr.iff.1 WE with ⟨_,rfl,_⟩ | ⟨b',cap,us,hv,hcap,Ih,rfl⟩
  · rcases O7 hq with h1 | h1 <;> simp at h1
  have hdv:W.v a s = .slice (some ⟨b,0,none⟩) len cap0:=hdv
  rw [hdv] at hv;cases hv
  obtain ⟨lI,u,nD,rfl,hi,h',hle,hsl,YN,hst'⟩:=hst.readA hL Ih hq
  obtain ⟨hcl,⟨rest,hb,hlen⟩,hall,hue⟩:=hst.own (k:=Sum.inl s) hL
  unfold Oper.oK
  rw [MG t hb ho (by rw [hi];exact hxv)]
  refine hnext _ h' w _ hle (jR.2 hsl) hst' ?_
  rw [hd]
  exact lH (Wr.iff.2 (by rw [Wr.UF hne];exact .inr ⟨b,_,_,by rw [List.length_set];exact hdv,by rw [List.length_set];exact hcap,YN,rfl⟩))
theorem ok_readA {T T1 E:TypeId} {q:Rep β} {s d m:Nat} {x:Operand} {xs:List (gV β)} {ys:List β} (hq:rdA xs m=some ys) (t:iV P T (Rep.slice q)) (hsd:Nat.beq s d=false) (hd:o.dst=some d) (ho:o.op = .load T x) (hx:bJ N x (Wj s m)) :
    dw P o N [(s,jC T1 E q xs)] (fV (Rep.slice q) ys) [(s,some (jC T1 E q (xs.set m (.fz ys))))]:=MH hq t hsd hd .slot ho (.slot hx)
theorem LX {T T1 E:TypeId} {q:Rep β} {s d m:Nat} {sv:Value} {x:Operand} {xs:List (gV β)} {ys:List β} (hq:rdA xs m=some ys) (t:iV P T (Rep.slice q)) (hsd:Nat.beq s d=false) (hd:o.dst=some d) (ho:o.op = .load T x) (hx:bJ N x (Qw sv m)) :
    dw P o N [(s,vK (jC T1 E q xs) sv)] (fV (Rep.slice q) ys) [(s,some (vK (jC T1 E q (xs.set m (.fz ys))) sv))]:=MH hq t hsd hd (.val sv) ho (.val hx)
/- a row within is taken out -/
theorem MI {T T1 E:TypeId} {q:Rep β} {s d m:Nat} {x:Operand} {xs:List (gV β)} {ys:List β} (hq:X3 xs m=some ys) (t:iV P T (Rep.slice q)) (hsd:Nat.beq s d=false) (hd:o.dst=some d) (W:Wr) (ho:o.op = .load T x) (hx:Y8 N x W s m) :
    dw P o N [(s,W.ap (jC T1 E q xs))] aO.pX [(s,some (W.ap (jC T1 E q (xs.set m .gone)))),(d,some (bU E q ys))]:=by
  have hne:s≠d:=fun x=>by rw [kL.2 x] at hsd;cases hsd
  intro κ B F L h a w hst hn hk hdn next Q hnext _
  obtain ⟨b,len,cap0,hdv,hxv⟩:=hx h a hn
  obtain ⟨e,hL,WE⟩:=hk.1
  have hx0:=U1 hq
  rcases Wr.iff.1 WE with ⟨_,rfl,_⟩ | ⟨b',cap,us,hv,hcap,Ih,rfl⟩
  · simp at hx0
  have hdv:W.v a s = .slice (some ⟨b,0,none⟩) len cap0:=hdv
  rw [hdv] at hv;cases hv
  obtain ⟨hcl,⟨rest,hb,hlen⟩,hall,hue⟩:=hst.own (k:=Sum.inl s) hL
  obtain ⟨lI,u,nD,rfl,hi,Y9,hset⟩:=hall.get hx0
  obtain ⟨hn1,hn2⟩:=Ih.mid
  have hmu:u ∈ lI ++ u :: nD:=by simp
  unfold Oper.oK
  rw [MG t hb ho (by rw [hi];exact hxv)]
  have hmap:(lI ++ (u.1,kM) :: nD).map (fun u=>u.1)=(lI ++ u :: nD).map (fun u=>u.1):=by simp
  have hst':=hst.split2 (d:=d) (e1:=oL b T1 E q (xs.set m .gone) (lI ++ (u.1,kM) :: nD) cap0) (e2:=u.2) hL hne (fun c hc=>by
      rcases List.mem_cons.1 hc with rfl | hc
      · exact List.mem_cons_self
      · rcases Ed hc with hc | ⟨z,hz,hc⟩
        · cases hc
        · exact List.mem_cons_of_mem _ (KG hz hc)) (fun c hc=>List.mem_cons_of_mem _ (List.mem_flatMap.2 ⟨u,hmu,hc⟩)) (fun c hc c' hc'=>by
      rcases List.mem_cons.1 hc with rfl | hc
      · exact (hn1 c' hc').symm
      · rcases Ed hc with hc | ⟨z,hz,hc⟩
        · cases hc
        · exact (hn2 z hz c' hc' c hc).symm)
    ⟨⟨rest,by rw [hmap];exact hb,by simpa using hlen⟩,hset _ (fun _ _ k=>k) _ _ ⟨rfl,Y9.flat⟩,fun z hz=>by
      rcases List.mem_append.1 hz with hz | hz
      · exact hue z (List.mem_append_left _ hz)
      · rcases List.mem_cons.1 hz with rfl | hz
        · trivial
        · exact hue z (List.mem_append_right _ (List.mem_cons_of_mem _ hz))⟩ (hue u hmu)
  refine hnext _ h w _ (lD.refl h) trivial hst' ?_
  rw [hd]
  exact OO hne (Wr.iff.2 (by rw [Wr.UF hne];exact .inr ⟨b,_,_,by rw [List.length_set];exact hdv,by rw [List.length_set];exact hcap,Ih.U0,rfl⟩)) (by rw [fO (hdn d hd)];exact Y9)
theorem ok_takeA {T T1 E:TypeId} {q:Rep β} {s d m:Nat} {x:Operand} {xs:List (gV β)} {ys:List β} (hq:X3 xs m=some ys) (t:iV P T (Rep.slice q)) (hsd:Nat.beq s d=false) (hd:o.dst=some d) (ho:o.op = .load T x) (hx:bJ N x (Wj s m)) :
    dw P o N [(s,jC T1 E q xs)] aO.pX [(s,some (jC T1 E q (xs.set m .gone))),(d,some (bU E q ys))]:=MI hq t hsd hd .slot ho (.slot hx)
theorem SI {T T1 E:TypeId} {q:Rep β} {s d m:Nat} {sv:Value} {x:Operand} {xs:List (gV β)} {ys:List β} (hq:X3 xs m=some ys) (t:iV P T (Rep.slice q)) (hsd:Nat.beq s d=false) (hd:o.dst=some d) (ho:o.op = .load T x) (hx:bJ N x (Qw sv m)) :
    dw P o N [(s,vK (jC T1 E q xs) sv)] aO.pX [(s,some (vK (jC T1 E q (xs.set m .gone)) sv)),(d,some (bU E q ys))]:=MI hq t hsd hd (.val sv) ho (.val hx)
/- .. and put back -/
theorem KH {T T1 E:TypeId} {q:Rep β} {s d m:Nat} {x:Operand} {xs:List (gV β)} {ys:List β} {y:gV β} (hq:xs[m]? = some y) (t:iV P T (Rep.slice q)) (hsd:Nat.beq s d=false) (hd:o.dst=none) (W:Wr) (ho:o.op = .store T x (.tmp d)) (hx:Y8 N x W s m) :
    dw P o N [(s,W.ap (jC T1 E q xs)),(d,bU E q ys)] aO.pX [(s,some (W.ap (jC T1 E q (xs.set m (.own ys))))),(d,none)]:=by
  have hne:s≠d:=fun x=>by rw [kL.2 x] at hsd;cases hsd
  intro κ B F L h a w hst hn hk _ next Q hnext _
  obtain ⟨b,len,cap0,hdv,hxv⟩:=hx h a hn
  obtain ⟨e,hL,WE⟩:=hk.1
  obtain ⟨e2,hL2,hq2⟩:=hk.2.1
  have hL2:L d=some e2:=hL2
  have hq2:bU E q ys (a.gt d) e2:=hq2
  rcases Wr.iff.1 WE with ⟨_,rfl,_⟩ | ⟨b',cap,us,hv,hcap,Ih,rfl⟩
  · simp at hq
  have hdv:W.v a s = .slice (some ⟨b,0,none⟩) len cap0:=hdv
  rw [hdv] at hv;cases hv
  obtain ⟨hcl,⟨rest,hb,hlen⟩,hall,hue⟩:=hst.own (k:=Sum.inl s) hL
  obtain ⟨lI,u,nD,rfl,hi,Y9,hset⟩:=hall.get hq
  obtain ⟨hn1,hn2⟩:=Ih.mid
  have hfl:(a.gt d).oneCell'=true:=by rcases hq2 with ⟨⟨base,e⟩,_⟩ | ⟨b3,cap3,e,_⟩ <;> rw [e] <;> rfl
  have hb:w.heap[b]? = some (.cells ((lI ++ u :: nD).map (fun u=>u.1) ++ rest).toArray T1 (0,0)):=hb
  have hshape:(lI ++ u :: nD).map (fun u=>u.1) ++ rest=lI.map (fun u=>u.1) ++ [u.1] ++ (nD.map (fun u=>u.1) ++ rest):=by simp
  have hb0:=hb
  rw [hshape] at hb
  have hrun:=ni (P:=P) (T:=T) (r:=Rep.raw) (h:=h) (x:=a.gt d) (cs:=[a.gt d]) (iV.raw t) ⟨rfl,hfl⟩ hb rfl
  have hpl:(lI.map (fun u=>u.1)).length=m:=by rw [List.length_map];exact hi
  rw [hpl] at hrun
  unfold Oper.oK
  have WS:lI.map (fun u=>u.1) ++ [a.gt d] ++ (nD.map (fun u=>u.1) ++ rest)=(lI ++ (a.gt d,e2) :: nD).map (fun u=>u.1) ++ rest:=by simp
  have:(execOp a.eval o).run P w = .ok .skip (w.setRow b ((lI ++ (a.gt d,e2) :: nD).map (fun u=>u.1) ++ rest).toArray):=by
    rw [← WS]
    have hrun':(Instr.storeAt T (.pointer (some ⟨b,m,none⟩)) (a.gt d)).run P w = .ok () (w.setRow b (lI.map (fun u=>u.1) ++ [a.gt d] ++ (nD.map (fun u=>u.1) ++ rest)).toArray):=hrun
    have hev:a.eval (.tmp d)=a.gt d:=rfl
    simp only [execOp,ho,hxv,hev,Sem.run_bind,hrun',Result.andThen_ok,Sem.run_pure]
  rw [this]
  have hno:=(hcl (b,0) List.mem_cons_self).2.2
  have hmem:=sW w b _ ((lI ++ (a.gt d,e2) :: nD).map (fun u=>u.1) ++ rest).toArray T1 hb0
  have hdj:Ff ((b,0) :: X0 (lI ++ u :: nD)) e2.claims:=hst.zN (k:=Sum.inl s) (k':=Sum.inl d) hL hL2 (fun x=>hne (Sum.inl.inj x))
  have hoth:∀ i,i≠b→(w.setRow b ((lI ++ (a.gt d,e2) :: nD).map (fun u=>u.1) ++ rest).toArray).heap[i]? = w.heap[i]?:=fun i hi=>setRow_other w b i _ hi
  have WT:∀ z ∈ lI ++ nD,z.2.ok h (World.mem (w.setRow b ((lI ++ (a.gt d,e2) :: nD).map (fun u=>u.1) ++ rest).toArray)):=fun z hz =>
    z.2.frame (fun c hc=>hoth c.1 (Ih.2 z (NU hz) c hc)) (hue z (NU hz))
  have hmap1:(lI ++ (a.gt d,kM) :: nD).map (fun u=>u.1)=(lI ++ (a.gt d,e2) :: nD).map (fun u=>u.1):=by simp
  have hst1:St B h (Sum.elim (set1 L s (oL b T1 E q (xs.set m .gone) (lI ++ (a.gt d,kM) :: nD) cap0)) F) (w.setRow b ((lI ++ (a.gt d,e2) :: nD).map (fun u=>u.1) ++ rest).toArray):=by
    refine hst.write (Sum.inl s) (e:=oL b T1 E q xs (lI ++ u :: nD) cap0) hL (b:=b) (lo:=0) List.mem_cons_self hmem hoth (by simp [World.setRow]) rfl rfl rfl ?_ qw ?_
    · intro o' v' hh;rw [hno o' (Nat.zero_le _)] at hh;cases hh
    · intro e' he
      rw [qx he]
      refine ⟨fun c hc=>?_,⟨rest,by rw [hmap1];exact hmem,by simpa using hlen⟩,hset _ (fun _ _ k=>k) _ _ ⟨rfl,hfl⟩,fun z hz=>?_⟩
      · rcases List.mem_cons.1 hc with rfl | hc
        · exact List.mem_cons_self
        · rcases Ed hc with hc | ⟨z,hz,hc⟩
          · cases hc
          · exact List.mem_cons_of_mem _ (KG hz hc)
      · rcases List.mem_append.1 hz with hz | hz
        · exact WT z (List.mem_append_left _ hz)
        · rcases List.mem_cons.1 hz with rfl | hz
          · trivial
          · exact WT z (List.mem_append_right _ hz)
  have hL2':set1 L s (oL b T1 E q (xs.set m .gone) (lI ++ (a.gt d,kM) :: nD) cap0) d=some e2:=by simp [set1,Ne.symm hne,hL2]
  have hok2:=(hst1.own (k:=Sum.inl d) hL2').2
  have hj:=hst1.xq (e:=oL b T1 E q (xs.set m (.own ys)) (lI ++ (a.gt d,e2) :: nD) cap0) sZ hL2' (fun c hc=>by
      rcases List.mem_cons.1 hc with rfl | hc
      · exact .inl List.mem_cons_self
      · rcases Ed hc with hc | ⟨z,hz,hc⟩
        · exact .inr hc
        · exact .inl (List.mem_cons_of_mem _ (KG hz hc))) ⟨⟨rest,hmem,by simpa using hlen⟩,hset _ (fun _ _ k=>k) _ _ hq2,fun z hz=>by
      rcases List.mem_append.1 hz with hz | hz
      · exact WT z (List.mem_append_left _ hz)
      · rcases List.mem_cons.1 hz with rfl | hz
        · exact hok2
        · exact WT z (List.mem_append_right _ hz)⟩
  have hL':xq (set1 L s (oL b T1 E q (xs.set m .gone) (lI ++ (a.gt d,kM) :: nD) cap0)) s d (oL b T1 E q (xs.set m (.own ys)) (lI ++ (a.gt d,e2) :: nD) cap0)=xq L s d (oL b T1 E q (xs.set m (.own ys)) (lI ++ (a.gt d,e2) :: nD) cap0):=by
    funext k;unfold xq set1
    by_cases h1:k=d
    · rw [if_pos h1,if_pos h1]
    · rw [if_neg h1,if_neg h1]
      by_cases h2:k=s
      · rw [if_pos h2,if_pos h2]
      · rw [if_neg h2,if_neg h2,if_neg h2]
  rw [hL'] at hj
  refine hnext undef h _ _ (lD.refl h) trivial hj ?_
  rw [hd]
  refine Ii hne (Wr.iff.2 (.inr ⟨b,_,_,by rw [List.length_set];exact hdv,by rw [List.length_set];exact hcap,?_,rfl⟩))
  exact Ih.put (fun c hc=>(hdj (b,0) List.mem_cons_self c hc).symm) (fun z hz c hc c' hc'=>(hdj c' (List.mem_cons_of_mem _ (KG hz hc')) c hc).symm)
theorem ok_storeA {T T1 E:TypeId} {q:Rep β} {s d m:Nat} {x:Operand} {xs:List (gV β)} {ys:List β} {y:gV β} (hq:xs[m]? = some y) (t:iV P T (Rep.slice q)) (hsd:Nat.beq s d=false) (hd:o.dst=none) (ho:o.op = .store T x (.tmp d)) (hx:bJ N x (Wj s m)) :
    dw P o N [(s,jC T1 E q xs),(d,bU E q ys)] aO.pX [(s,some (jC T1 E q (xs.set m (.own ys)))),(d,none)]:=KH hq t hsd hd .slot ho (.slot hx)
theorem Qv {T T1 E:TypeId} {q:Rep β} {s d m:Nat} {sv:Value} {x:Operand} {xs:List (gV β)} {ys:List β} {y:gV β} (hq:xs[m]? = some y) (t:iV P T (Rep.slice q)) (hsd:Nat.beq s d=false) (hd:o.dst=none) (ho:o.op = .store T x (.tmp d)) (hx:bJ N x (Qw sv m)) :
    dw P o N [(s,vK (jC T1 E q xs) sv),(d,bU E q ys)] aO.pX [(s,some (vK (jC T1 E q (xs.set m (.own ys))) sv)),(d,none)]:=KH hq t hsd hd (.val sv) ho (.val hx)

/- all rows within are only read from now on, and so is the row itself -/
def Tz:gV α→Option (List α)
  | .own ys=>some ys
  | .fz ys=>some ys
  | .gone=>none
def allA:List (gV α)→Option (List (List α))
  | []=>some []
  | x :: xs=>(Tz x).bind fun y=>(allA xs).bind fun ys=>some (y :: ys)
theorem RD {xs:List (gV α)} {m:Nat}:rdA xs m=xs[m]?.bind Tz:=by
  unfold rdA
  cases xs[m]? with
  | none=>rfl
  | some x=>cases x <;> rfl
theorem Pg:∀ {xs:List (gV α)} {FK:List (List α)},allA xs=some FK→FK.length=xs.length∧∀ i:Nat,xs[i]?.bind Tz=FK[i]?:=by
  intro xs
  induction xs with
  | nil=>intro FK h;cases h;exact ⟨rfl,fun i=>by simp⟩
  | cons x xs ih =>
    intro FK h
    unfold allA at h
    cases hx:Tz x with
    | none=>rw [hx] at h;cases h
    | some y =>
      rw [hx,Option.bind_some] at h
      cases hy:allA xs with
      | none=>rw [hy] at h;cases h
      | some ys =>
        rw [hy] at h;cases h
        obtain ⟨h1,h2⟩:=ih hy
        refine ⟨by simp [h1],fun i=>?_⟩
        cases i with
        | zero=>simp [hx]
        | succ i=>simpa using h2 i
theorem Fp.rows {E:TypeId} {q:Rep β} {h:H}:∀ {FK:List (List β)} {us:List (Value×gQ)},Fp (rowOk E q h) (FK.map gV.fz) us→oC (Rep.slice q) h (us.map (fun u=>u.1)) FK:=by
  intro FK
  induction FK with
  | nil=>intro us k;cases us with
    | nil=>rfl
    | cons _ _=>exact k.elim
  | cons y ys ih=>intro us k;cases us with
    | nil=>exact k.elim
    | cons u us=>exact ⟨[u.1],us.map (fun u=>u.1),rfl,⟨u.1,rfl,k.1.2⟩,ih k.2⟩
section
variable {κ:Type} {B:Base} {h0:H} {Γ:Ctx} {Λ:Own} {F:κ→Option gQ} {n:Nat} {a:Act} {w:World}
theorem St.allFz {h:H} {L:Nat→Option gQ} {T1 E:TypeId} {q:Rep β} {b cap s:Nat} {xs:List (gV β)} {us:List (Value×gQ)} {FK:List (List β)} (hst:St B h (Sum.elim L F) w) (hL:L s=some (oL b T1 E q xs us cap)) (Ih:Fq b us) (hy:allA xs=some FK) :
    ∃ h' NH,lD h h'∧Fq b NH∧St B h' (Sum.elim (set1 L s (oL b T1 E q (FK.map gV.fz) NH cap)) F) w:=by
  obtain ⟨hyl,hyg⟩:=Pg hy
  have key:∀ k,k≤xs.length→∃ h' NH xs',lD h h'∧Fq b NH∧St B h' (Sum.elim (set1 L s (oL b T1 E q xs' NH cap)) F) w∧xs'.length=xs.length∧(∀ i:Nat,xs'[i]?.bind Tz=FK[i]?)∧∀ i:Nat,i<k→xs'[i]? = FK[i]?.map gV.fz:=by
    intro k
    induction k with
    | zero=>intro _;exact ⟨h,us,xs,lD.refl h,Ih,by rw [zq hL];exact hst,rfl,hyg,fun i hi=>absurd hi (Nat.not_lt_zero _)⟩
    | succ k ih =>
      intro hk
      obtain ⟨h1,lI,xs1,hle,hb1,hst1,hl1,hg1,hf1⟩:=ih (by omega)
      have hky:k<FK.length:=by omega
      have hq:rdA xs1 k=some FK[k]:=by rw [RD,hg1,List.getElem?_eq_getElem hky]
      obtain ⟨u1,u,u2,rfl,hi,h2,hle2,_,hb2,hst2⟩:=hst1.readA sZ hb1 hq
      rw [Ea] at hst2
      refine ⟨h2,_,xs1.set k (.fz FK[k]),hle.trans hle2,hb2,hst2,by simp [hl1],fun i=>?_,fun i hi=>?_⟩
      · by_cases hik : i = k
        · subst hik;rw [List.getElem?_set_self (by omega),List.getElem?_eq_getElem hky];rfl
        · rw [List.getElem?_set_ne (Ne.symm hik)];exact hg1 i
      · by_cases hik : i = k
        · subst hik;rw [List.getElem?_set_self (by omega),List.getElem?_eq_getElem hky];rfl
        · rw [List.getElem?_set_ne (Ne.symm hik)];exact hf1 i (by omega)
  obtain ⟨h',NH,xs',hle,hb',hst',hl',_,hf⟩:=key xs.length (Nat.le_refl _)
  have:xs'=FK.map gV.fz:=by
    apply List.ext_getElem?
    intro i
    rw [List.getElem?_map]
    by_cases hi:i<xs.length
    · exact hf i hi
    · rw [List.getElem?_eq_none (by omega),List.getElem?_eq_none (by omega)];rfl
  subst this
  exact ⟨h',NH,hle,hb',hst'⟩
theorem St.frzA {h:H} {L:Nat→Option gQ} {T1 E:TypeId} {q:Rep β} {s:Nat} {v:Value} {e:gQ} {xs:List (gV β)} {FK:List (List β)} (hst:St B h (Sum.elim L F) w) (hL:L s=some e) (hq:jC T1 E q xs v e) (hy:allA xs=some FK) :
    ∃ h',lD h h'∧St B h' (Sum.elim (fun k=>if k=s then none else L k) F) w∧uh (Rep.slice q) h' v FK:=by
  have hless:∀ {h1:H} {L1:Nat→Option gQ},St B h1 (Sum.elim L1 F) w→St B h1 (Sum.elim (fun k=>if k=s then none else L1 k) F) w:=fun {h1 L1} x=>x.less (fun k e he=>by
    cases k with
    | inr k=>exact he
    | inl k =>
      have he:(if k=s then none else L1 k)=some e:=he
      split at he
      · cases he
      · exact he)
  obtain ⟨hyl,_⟩:=Pg hy
  rcases hq with ⟨⟨base,hv⟩,rfl,rfl⟩ | ⟨b,cap,us,hv,hcap,Ih,rfl⟩
  · have:FK=[]:=List.eq_nil_of_length_eq_zero hyl
    subst this
    exact ⟨h,lD.refl h,hless hst,.inl ⟨⟨base,hv⟩,rfl⟩⟩
  obtain ⟨h1,lI,hle,hb1,hst1⟩:=hst.allFz hL Ih hy
  obtain ⟨hcl,⟨rest,hb,hlen⟩,hall,hue⟩:=hst1.own (k:=Sum.inl s) sZ
  have hb:w.heap[b]? = some (.cells (lI.map (fun u=>u.1) ++ rest).toArray T1 (0,0)):=hb
  have hrel:=hall.rows
  have key:=hst1.freeze (Sum.inl s) (e:=oL b T1 E q (FK.map gV.fz) lI cap) sZ (b:=b) (lo:=0) List.mem_cons_self hb (lI.map (fun u=>u.1)).length (by simp) (L':=Sum.elim (fun k=>if k=s then none else L k) F) (by
    intro k' e' hne he
    cases k' with
    | inr k=>exact he
    | inl k =>
      have hks:k≠s:=fun x=>hne (by rw [x])
      have he:(if k=s then none else L k)=some e':=he
      rw [if_neg hks] at he
      show set1 L s _ k=some e'
      simp [set1,hks,he]) (fun e' he=>by simp at he)
  have htk:(lI.map (fun u=>u.1) ++ rest).toArray.toList.take (lI.map (fun u=>u.1)).length=lI.map (fun u=>u.1):=by simp
  rw [htk] at key
  obtain ⟨hl2,hst2⟩:=key
  refine ⟨_,hle.trans hl2,hst2,.inr ⟨b,0,cap,by rw [hyl];exact hv,by omega,(hrel.mono hl2).refs fun j v hj=>?_,fun _=>hst1.mo (k:=Sum.inl s) sZ (c:=(b,0)) List.mem_cons_self⟩⟩
  have hjl:=(List.getElem?_eq_some_iff.1 hj).1
  rw [Nat.zero_add,yH hjl,← hj,List.getElem?_eq_getElem hjl]
end
theorem Ux {T T1 E:TypeId} {q:Rep β} {g:Nat} {sv:Value} {x:Operand} {xs:List (gV β)} {FK:List (List β)} (hy:allA xs=some FK) (t:iV P T Rep.raw) (ho:o.op = .load T x) (hx:bJ N x (bT Rep.raw sv)) :
    dw P o N [(g,vK (jC T1 E q xs) sv)] (fV (Rep.slice (Rep.slice q)) FK) [(g,none)]:=by
  intro κ B F L h a w hst hn hk _ next Q hnext _
  obtain ⟨e,hL,hq⟩:=hk.1
  obtain ⟨b,off,hv,cs,hr,hc⟩:=hx h a hn
  have hrun:(Instr.loadAt T (.pointer (some ⟨b,off,none⟩))).run P w = .ok (pack Rep.raw.agg cs) w:=GI t (fun x=>hst.ext x) hr hc
  have hcs:cs=[sv]:=hr.1
  subst hcs
  unfold Oper.oK
  have:(execOp a.eval o).run P w = .ok (.value sv) w:=by
    have hrun':(Instr.loadAt T (.pointer (some ⟨b,off,none⟩))).run P w = .ok sv w:=hrun
    simp [execOp,ho,hv,hrun']
  rw [this]
  obtain ⟨h',hle,hst',hsl⟩:=hst.frzA hL hq hy
  exact hnext _ h' w _ hle (jR.2 hsl) hst' OV
theorem ok_frzAM {T1 E:TypeId} {q:Rep β} {s:Nat} {xs:List (gV β)} {FK:List (List β)} (hy:allA xs=some FK) (ho:o.op = .move (.tmp s)∨o.op = .assign (.tmp s)) :
    dw P o N [(s,jC T1 E q xs)] (fV (Rep.slice (Rep.slice q)) FK) [(s,none)]:=by
  intro κ B F L h a w hst hn hk _ next Q hnext _
  obtain ⟨e,hL,hq⟩:=hk.1
  unfold Oper.oK
  have:(execOp a.eval o).run P w = .ok (.value (a.gt s)) w:=by
    rcases ho with ho | ho <;> simp [execOp,ho,Act.eval,Act.gt]
  rw [this]
  obtain ⟨h',hle,hst',hsl⟩:=hst.frzA hL hq hy
  exact hnext _ h' w _ hle (jR.2 hsl) hst' OV
theorem yG {T:TypeId} {sv:Value} {x:Operand} (t:iV P T Rep.raw) (ho:o.op = .load T x) (hx:bJ N x (bT Rep.raw sv)):dw P o N [] (xE sv) [] :=
  dw.out (f:=fV Rep.raw sv) (f':=xE sv) rfl (fun _ _ _ hp=>Rt hp) (fD t ho hx)

/- a variable that holds what is owned -/
def Wx (T:TypeId) (q:gK):gK:=fun v e=>∃ b sv e2,v = .pointer (some ⟨b,0,none⟩)∧q sv e2∧Ff [(b,0)] e2.claims∧e=WC (rU b T Rep.raw sv) e2
theorem SN {T1 E:TypeId} {q:Rep β} {xs:List (gV β)} (v:Value) (e:gQ) (h:jC T1 E q xs v e):v.oneCell'=true:=by
  rcases h with ⟨⟨base,hv⟩,_⟩ | ⟨b,cap,us,hv,_⟩ <;> rw [hv] <;> rfl
theorem SK {T:TypeId} {d:Nat} (t:iV P T Rep.raw) (hd:o.dst=some d) (ho:o.op = .alloc T):dw P o N [] aO.pX [(d,some (dM T Rep.raw zL))]:=dS t hd ho
theorem SL {T T':TypeId} {q:gK} {s m:Nat} {y:Value} (hfl:∀ v e,q v e→v.oneCell'=true) (t:iV P T Rep.raw) (hsm:Nat.beq s m=false) (hd:o.dst=none) (ho:o.op = .store T (.tmp s) (.tmp m)) :
    dw P o N [(s,dM T' Rep.raw y),(m,q)] aO.pX [(s,some (Wx T' q)),(m,none)]:=by
  intro κ B F L h a w hst hn hk _ next Q hnext _
  obtain ⟨⟨e,hL,b,hxv,rfl⟩,⟨e2,hL2,hq2⟩,_⟩:=hk
  have hL:L s=some (rU b T' Rep.raw y):=hL
  have hL2:L m=some e2:=hL2
  have hq2:q (a.gt m) e2:=hq2
  have UG:a.eval (.tmp s) = .pointer (some ⟨b,0,none⟩):=hxv
  have hne:s≠m:=fun x=>by rw [kL.2 x] at hsm;cases hsm
  obtain ⟨cs,hb,hr⟩:=Fa hst hL
  have hc':Rep.raw.rel h [a.gt m] (a.gt m):=⟨rfl,hfl _ _ hq2⟩
  have hrun:=ni (p:=[]) (c:=cs) (q:=[]) t hc' (by simpa using hb) (Rep.raw.len hr)
  have hrun:(Instr.storeAt T (.pointer (some ⟨b,0,none⟩)) (a.gt m)).run P w = .ok () (w.setRow b #[a.gt m]):=hrun
  unfold Oper.oK
  have:(execOp a.eval o).run P w = .ok .skip (w.setRow b #[a.gt m]):=by
    have hev:a.eval (.tmp m)=a.gt m:=rfl
    simp only [execOp,ho,UG,hev,Sem.run_bind,hrun,Result.andThen_ok,Sem.run_pure]
  rw [this]
  have hst1:=hst.put hL hb hc'
  have hL2':set1 L s (rU b T' Rep.raw (a.gt m)) m=some e2:=by simp [set1,Ne.symm hne,hL2]
  have hdj:Ff [(b,0)] e2.claims:=hst.zN (k:=Sum.inl s) (k':=Sum.inl m) hL hL2 (fun x=>hne (Sum.inl.inj x))
  have hj:=hst1.xq (e:=WC (rU b T' Rep.raw (a.gt m)) e2) sZ hL2' (fun c hc=>List.mem_append.1 hc) ⟨(hst1.own (k:=Sum.inl s) sZ).2,(hst1.own (k:=Sum.inl m) hL2').2⟩
  have hL':xq (set1 L s (rU b T' Rep.raw (a.gt m))) s m (WC (rU b T' Rep.raw (a.gt m)) e2)=xq L s m (WC (rU b T' Rep.raw (a.gt m)) e2):=by
    funext k;unfold xq set1
    by_cases h1:k=m
    · rw [if_pos h1,if_pos h1]
    · rw [if_neg h1,if_neg h1]
      by_cases h2:k=s
      · rw [if_pos h2,if_pos h2]
      · rw [if_neg h2,if_neg h2,if_neg h2]
  rw [hL'] at hj
  refine hnext undef h _ _ (lD.refl h) trivial hj ?_
  rw [hd]
  exact Ii hne ⟨b,_,e2,hxv,hq2,hdj,rfl⟩
section
variable {κ:Type} {B:Base} {h0:H} {Γ:Ctx} {Λ:Own} {F:κ→Option gQ} {n:Nat} {a:Act} {w:World}
theorem At.SQ {T:TypeId} {q:gK} (s g:Nat) (hsg:Nat.beq s g=false) (hAt:At B h0 Γ Λ F n a w) (hs:Λ s=some (Wx T q)) :
    ∃ sv,At B h0 (fun k=>bif Nat.beq s k then bT Rep.raw sv else Γ k) (fun k=>bif Nat.beq g k then some (vK q sv) else bif Nat.beq s k then none else Λ k) F n a w:=by
  obtain ⟨h,L,hle,hst,yQ,qY,hsz,hdf⟩:=hAt
  obtain ⟨e,hL,b,sv,e2,hv,hq,hbm,rfl⟩:=yQ s _ hs
  have hne:s≠g:=fun x=>by rw [kL.2 x] at hsg;cases hsg
  obtain ⟨_,k1,k2⟩:=hst.own (k:=Sum.inl s) hL
  have hst1:=hst.split2 (d:=g) (e1:=rU b T Rep.raw sv) (e2:=e2) hL hne (fun c hc=>List.mem_append_left _ hc) (fun c hc=>List.mem_append_right _ hc) hbm k1 k2
  obtain ⟨h',hl,hst',hr⟩:=hst1.H9 s (T:=T) (r:=Rep.raw) (x:=sv) (b:=b) (by simp [set1,hne])
  refine ⟨sv,h',_,hle.trans hl,hst',?_,?_,hsz,hdf⟩
  · intro k q' hq'
    cases hk:Nat.beq g k with
    | true=>simp only [hk,cond_true] at hq';cases hq';rw [kL] at hk;subst hk;exact ⟨e2,by simp [set1,Ne.symm hne],hq⟩
    | false =>
      simp only [hk,cond_false] at hq'
      cases hk2:Nat.beq s k with
      | true=>simp only [hk2,cond_true] at hq';cases hq'
      | false =>
        simp only [hk2,cond_false] at hq'
        have n1:k≠g:=fun x=>by rw [kL.2 x.symm] at hk;cases hk
        have n2:k≠s:=fun x=>by rw [kL.2 x.symm] at hk2;cases hk2
        obtain ⟨e',h1,h2⟩:=yQ k q' hq'
        exact ⟨e',by simp [set1,n1,n2,h1],h2⟩
  · intro k
    cases hk:Nat.beq s k with
    | true =>
      simp only [hk,cond_true]
      rw [kL] at hk;subst hk
      exact ⟨b,0,hv,hr⟩
    | false=>simp only [hk,cond_false];exact (Γ k).mono hl (qY k)
end
end Go.KB
