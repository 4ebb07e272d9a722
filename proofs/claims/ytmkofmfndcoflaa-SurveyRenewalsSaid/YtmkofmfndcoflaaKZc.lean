/- Variables whose fields are rows that are appended to. Fields of values; values whose fields are nil, and variables that take them. Maps that are owned: made, looked into, written. Pointers that are only read, nil among them; texts as rows of bytes. Functions that take a row over and hand a row back. Rows that grow from nothing: cap, cuts and appends of zeros at nil. Arrays: slices of arrays that are not written any more, elements of arrays. No condition. -/
import Derived.Test.YtmkofmfndcoflaaKZb
import Derived.MapKept
import Derived.Laws.Pointers
import Derived.Lib.ConvBytes
import Derived.Lib.AppendZeros
namespace Go.KB
variable {P:Program} {o:Oper} {N:List (Nat×aC)} {f:aC} {α β:Type}
inductive Wr where
 | slot
 | val (sv:Value)
def atV (q:dS) (sv:Value):dS:=fun _ e=>q sv e
def Wr.v (W:Wr) (a:Act) (g:Nat):Value:=match W with | .slot=>a.gt g | .val sv=>sv
def Jr (N:List (Nat×aC)) (x:Operand) (W:Wr) (g:Nat):Prop:=∀ h a,vI N h a→a.eval x=W.v a g
theorem Jr.slot {x:Operand} {g:Nat} (hx:aT N x (CQ g)):Jr N x .slot g:=fun h a n=>hx h a n
theorem Jr.val {x:Operand} {g:Nat} {sv:Value} (hx:aT N x (Cm sv)):Jr N x (.val sv) g:=fun h a n=>hx h a n
def Js (N:List (Nat×aC)) (x:Operand) (W:Wr) (s off:Nat):Prop:=∀ h a,vI N h a→∃ b,W.v a s = .pointer (some ⟨b,0,none⟩)∧a.eval x = .pointer (some ⟨b,off,none⟩)
def fOffV (sv:Value) (off:Nat):aC:=⟨none,fun _ _ v=>∃ b,sv = .pointer (some ⟨b,0,none⟩)∧v = .pointer (some ⟨b,off,none⟩),fun _ x=>x⟩
theorem Js.slot {x:Operand} {s off:Nat} (hx:aT N x (Il s off)):Js N x .slot s off:=fun h a n=>hx h a n
theorem Js.val {x:Operand} {s off:Nat} {sv:Value} (hx:aT N x (fOffV sv off)):Js N x (.val sv) s off:=fun h a n=>hx h a n
structure yu where
 off:Nat
 E:TypeId
 sz:Nat
def qB:List yu→List (Nat×Value×dZ)→Prop
 | [],[]=>True
 | t :: ts,u :: us=>(u.1=t.off∧cO t.E t.sz u.2.1 u.2.2)∧qB ts us
 | _,_=>False
theorem qB.app {l2:List yu} {Jh:List (Nat×Value×dZ)} (h2:qB l2 Jh):∀ {l1:List yu} {FZ:List (Nat×Value×dZ)},qB l1 FZ→qB (l1 ++ l2) (FZ ++ Jh):=by
 intro l1
 induction l1 with
 | nil =>
  intro FZ h
  cases FZ with
  | nil=>exact h2
  | cons u us=>exact h.elim
 | cons t1 l1 ih =>
  intro FZ h
  cases FZ with
  | nil=>exact h.elim
  | cons u0 us=>exact ⟨h.1,ih h.2⟩
theorem qB.cut {l2:List yu}:∀ {l1:List yu} {us:List (Nat×Value×dZ)},qB (l1 ++ l2) us→∃ FZ Jh,us=FZ ++ Jh∧qB l1 FZ∧qB l2 Jh:=by
 intro l1
 induction l1 with
 | nil=>intro us h;exact ⟨[],us,rfl,trivial,h⟩
 | cons t1 l1 ih =>
  intro us h
  cases us with
  | nil=>exact h.elim
  | cons u0 us =>
   obtain ⟨FZ,Jh,rfl,h3,h4⟩:=ih h.2
   exact ⟨u0 :: FZ,Jh,rfl,⟨h.1,h3⟩,h4⟩
def KC (a b:List (Nat×Nat)):Prop:=∀ c ∈ a,∀ c' ∈ b,c.1≠c'.1
def BoxOk (b:Nat) (us:List (Nat×Value×dZ)):Prop:=(us.map (fun u=>u.2.2.claims)).Pairwise KC∧∀ u ∈ us,∀ c ∈ u.2.2.claims,c.1≠b
def Ik:Value:=.slice none 0 0
def rX (cs:List Value):List yu→Prop
 | []=>True
 | t :: ts=>cs[t.off]? = some Ik∧rX cs ts
def nilUs (ts:List yu):List (Nat×Value×dZ):=ts.map (fun t=>(t.off,Ik,oV))
theorem rX.at {cs:List Value}:∀ {ts:List yu},rX cs ts→∀ u ∈ nilUs ts,cs[u.1]? = some u.2.1:=by
 intro ts
 induction ts with
 | nil=>intro _ u hu;cases hu
 | cons t ts ih =>
  intro h u hu
  rcases List.mem_cons.1 hu with rfl | hu
  ·exact h.1
  ·exact ih h.2 u hu
def apartB (off sz:Nat) (ts:List yu):Bool:=ts.all (fun t=>Nat.blt t.off off||Nat.ble (off+sz) t.off)
theorem DW {off sz:Nat} {ts:List yu} (h:apartB off sz ts=true):∀ t ∈ ts,t.off<off∨off+sz≤t.off:=by
 intro t ht
 have:=List.all_eq_true.1 h t ht
 simpa [Nat.blt_eq] using this
theorem GN {p c c' q:List Value} {off sz i:Nat} (hp:p.length=off) (hc:c.length=sz) (hc':c'.length=sz) (h:i<off∨off+sz≤i):(p ++ c' ++ q)[i]? = (p ++ c ++ q)[i]?:=by
  rcases h with h | h
  · rw [List.append_assoc,List.append_assoc,List.getElem?_append_left (by omega),List.getElem?_append_left (by omega)]
  · rw [List.getElem?_append_right (by simp; omega), List.getElem?_append_right (by simp; omega)]
    congr 1;simp;omega
theorem BoxOk.sub {b:Nat} {us us':List (Nat×Value×dZ)} (h:us'.Sublist us) (hb:BoxOk b us):BoxOk b us' :=
 ⟨hb.1.sublist (h.map _),fun u hu=>hb.2 u (h.subset hu)⟩
theorem BoxOk.nil {b off:Nat} {FZ Jh:List (Nat×Value×dZ)} (h:BoxOk b (FZ ++ Jh)):BoxOk b (FZ ++ (off,Ik,oV) :: Jh):=by
 obtain ⟨h1,h2⟩:=h
 constructor
 ·rw [List.map_append,List.pairwise_append] at h1 ⊢
  obtain ⟨k1,k2,k3⟩:=h1
  refine ⟨k1,List.Pairwise.cons (fun l _ c hc=>by cases hc) k2,fun x hx y hy=>?_⟩
  rcases List.mem_cons.1 hy with rfl | hy
  ·intro c _ c' hc';cases hc'
  ·exact k3 x hx y hy
 ·intro u hu c hc
  rcases List.mem_append.1 hu with hu | hu
  ·exact h2 u (List.mem_append_left _ hu) c hc
  ·rcases List.mem_cons.1 hu with rfl | hu
   ·cases hc
   ·exact h2 u (List.mem_append_right _ hu) c hc
end Go.KB
namespace Go.KB
variable {P:Program} {o:Oper} {N:List (Nat×aC)} {f:aC} {α β:Type}
def sZ (P:Program) (T:TypeId) (i:Nat):Option (TypeId×Nat) :=
 match P.underlying T with
 | some (.struct fs)=>match fs[i]? with
  | some g=>some (g.type,g.offset)
  | none=>none
 | _=>none
theorem AL {T':TypeId} {q:Rep β} (t:iM P T' q) {h:H} {p c r:List Value} {y:β} (hc:q.rel h c y) (w:World):(part T' (p ++ c ++ r).toArray p.length).run P w = .ok (pack q.agg c) w:=by
 have hl:=q.len hc
 unfold part
 cases ha:q.agg with
 | true =>
  simp only [Sem.run_bind,t.agg,ha,Result.andThen_ok,if_true,t.size,Sem.run_pure,pack,cond_true]
  congr 2
  simp only [List.extract_toArray,List.extract_eq_take_drop]
  congr 1
  rw [List.append_assoc,List.drop_left' rfl,show p.length+q.sz - p.length=c.length by omega,List.take_left' rfl]
 | false =>
  rw [q.one ha] at hl
  match c,hl with
  | [v],_ =>
   have:(p ++ [v] ++ r).toArray[p.length]? = some v:=by simp
   simp only [Sem.run_bind,t.agg,ha,Result.andThen_ok,Bool.false_eq_true,if_false,this,Sem.run_pure,pack,cond_false]
theorem rX.apart {p c c' q:List Value} {off sz:Nat} (hp:p.length=off) (hc:c.length=sz) (hc':c'.length=sz):∀ {ts:List yu},apartB off sz ts=true→rX (p ++ c ++ q) ts→rX (p ++ c' ++ q) ts:=by
 intro ts
 induction ts with
 | nil=>intro _ _;trivial
 | cons t ts ih =>
  intro ha hn
  have h1:=DW ha t List.mem_cons_self
  refine ⟨by rw [GN hp hc hc' h1];exact hn.1,ih ?_ hn.2⟩
  unfold apartB at ha ⊢
  rw [List.all_cons,Bool.and_eq_true] at ha
  exact ha.2
def Io (P:Program) (N:List (Nat×aC)) (place:Nat→Option (Nat×Nat)) {α:Type} (r:Rep α) (ts:List yu):List (Nat×Operand)→α→α→Prop
 | [],x,y=>x=y
 | (i,o) :: rest,x,y=>∃ (β:Type) (s:Rep β) (off:Nat) (get:α→β) (set:α→β→α) (z:β),Lens r s off get set∧place i=some (off,s.sz)∧apartB off s.sz ts=true∧aT N o (fV s z)∧Io P N place r ts rest (set x z) y
theorem Io.run {place:Nat→Option (Nat×Nat)} {r:Rep α} {ts:List yu} {h:H} {a:Act} (n:vI N h a):∀ {parts:List (Nat×Operand)} {x y:α} {cs:List Value},Io P N place r ts parts x y→r.rel h cs x→rX cs ts →
  ∃ cs',Instr.fill place cs.toArray (parts.map fun q=>(q.1,a.eval q.2))=some cs'.toArray∧r.rel h cs' y∧rX cs' ts:=by
 intro parts
 induction parts with
 | nil=>intro x y cs k hr ht;rw [show x=y from k] at hr;exact ⟨cs,rfl,hr,ht⟩
 | cons q rest ih =>
  obtain ⟨i,op⟩:=q
  rintro x y cs ⟨β,s,off,get,set,z,l,hp,ha,ho,k⟩ hr ht
  obtain ⟨p,c,q,rfl,hpl,hc,hset⟩:=l h cs x hr
  obtain ⟨c',hc',hv⟩:=ho h a n
  simp only [List.map_cons]
  rw [BR hc' hv hp hpl (s.len hc)]
  exact ih k (hset h c' z (iG.refl h) hc') (ht.apart hpl (s.len hc) (s.len hc') ha)
end Go.KB
namespace Go.KB
variable {P:Program} {o:Oper} {N:List (Nat×aC)} {α β:Type}
section
variable [DecidableEq α]
structure F5 (P:Program) (K:TypeId) (rk:Rep α) (f:α→Value):Prop where
 is:∀ {h u x},rk.val h u x→u=f x
 chk:∀ (e:Bool) (w:World) (x:α),(Instr.checkKey e 10000 K (f x)).run P w = .ok () w
 now:∃ d,P.underlying K=some d∧∀ x y,Instr.sameNow d (f x) (f y)=some (decide (x=y))
 bits:∀ x,Instr.sameBits 10000 (f x) (f x)=true
 val:∀ h x,rk.val h (f x) x
def kStr (s:Str):Value:=.string ⟨s.toArray⟩
theorem F5.str {K:TypeId} (hK:P.underlying K=some .string):F5 P K Rep.str kStr where
 is:=fun e=>uo.1 e
 chk:=fun e w x=>MapKept.run_checkKey hK (by trivial) e 9999
 now:=⟨_,hK,fun x y=>by
  simp only [Instr.sameNow,kStr]
  congr 1
  rw [Bool.eq_iff_iff,MapKept.bytes_beq]
  simp⟩
 bits:=fun x=>(MapKept.bytes_beq _ _).2 rfl
 val:=fun _ _=>uo.2 rfl
def KF (k:IntKind) (n:Int):Value:=.int k n
theorem F5.int {K:TypeId} {k:IntKind} (hK:P.underlying K=some (.int k)):F5 P K (Rep.int k) (KF k) where
 is:=fun e=>bf.1 e
 chk:=fun e w x=>MapKept.run_checkKey hK (by trivial) e 9999
 now:=⟨_,hK,fun x y=>by
  simp only [Instr.sameNow,KF,if_true]
  congr 1⟩
 bits:=fun x=>by simp [Instr.sameBits,KF]
 val:=fun _ _=>bf.2 rfl
end
def CS (f:α→Value) (rv:Rep β) (h:H):List MapEntry→List (α×β)→Prop
 | [],[]=>True
 | e :: es,p :: l=>(e.key=f p.1∧rv.val h e.val p.2)∧CS f rv h es l
 | _,_=>False
theorem CS.mono {f:α→Value} {rv:Rep β} {h h':H} (hl:iG h h'):∀ {es:List MapEntry} {l:List (α×β)},CS f rv h es l→CS f rv h' es l
 | [],[],_=>trivial
 | _ :: _,_ :: _,⟨⟨a,b⟩,c⟩=>⟨⟨a,rv.DX hl b⟩,CS.mono hl c⟩
section
variable [DecidableEq α]
end
section
variable [DecidableEq α]
end
end Go.KB
namespace Go.KB
variable {P:Program} {o:Oper} {N:List (Nat×aC)} {α β:Type}
end Go.KB
namespace Go.KB
variable {P:Program} {o:Oper} {N:List (Nat×aC)} {α β:Type}
def Dz (P:Program) (f:FuncId) (args:List aC) (i:Nat) (q q':dS) (post:aC):Prop :=
 ∀ (κ:Type) (B:Base) (L:κ→Option dZ) (h:H) (w:World) (vs:List Value) (x:dZ) (v:Value),St B h (Sum.elim (fun _:Unit=>some x) L) w→args.length=vs.length→vs[i]? = some v→q v x →
  (∀ (j:Nat) (g:aC) (u:Value),args[j]? = some g→vs[j]? = some u→g.p h undef u) →
  Calls P f vs.toArray w (fun e w'=>∃ u h' x',e = .returned u∧iG h h'∧St B h' (Sum.elim (fun _:Unit=>some x') L) w'∧post.p h' undef u∧q' u x')
theorem BP {n:Nat} {f:FuncId} {fn:Func} {c:Code} {args:List aC} {i:Nat} {q q':dS} {post:aC} (hf:P.funcs[f]? = some fn) (hb:fn.body=some c) (hn:fn.ntmps=n) (lY:(Nat.ble args.length n&&jv args)=true)
  (hwp:∀ (κ:Type) (B:Base) (h0:H) (F:κ→Option dZ) (a:Act) (w:World),At B h0 (F6 (xH 0 args)) (Dx [(i,q)]) F n a w→c.jY none P (yw P fn B h0 F q' post) a w):Dz P f args i q q' post:=by
 intro κ B L h w vs x v hst hl AO hq hargs
 rw [Bool.and_eq_true,Nat.ble_eq] at lY
 obtain ⟨hlen,hdp⟩:=lY
 have qC:=iy hdp
 have hget:∀ (j:Nat) u,vs[j]? = some u→Act.gt { tmps:=vs.toArray ++ Array.replicate (fn.ntmps - vs.toArray.size) undef,defers:=[] } j=u:=by
  intro j u hu
  have hj:=(List.getElem?_eq_some_iff.1 hu).1
  simp only [Act.gt,Array.getD_eq_getD_getElem?]
  rw [Array.getElem?_append_left (by simpa using hj)]
  simp [hu]
 refine qE rfl hf hb (hwp _ B.e h L _ w ⟨h,_,iG.refl h,(hst.enter i).toE,?_,?_,?_,rfl⟩) (fun _ _ ⟨v,h',x,he,hl,hs,hp⟩=>⟨v,h',x,he,hl,hs.ofE,hp⟩)
 ·intro s q1 hs
  simp only [Dx,lkO] at hs
  cases hk:Nat.beq i s with
  | true =>
   rw [hk] at hs;cases hs
   rw [jK] at hk;subst hk
   exact ⟨x,by simp,by rw [hget _ _ AO];exact hq⟩
  | false=>rw [hk] at hs;cases hs
 ·intro s
  rcases wo args 0 s with h1 | ⟨j,g,h1,h2,h3⟩
  ·show (GR (xH 0 args) s).at _ _ _;rw [h1];exact trivial
  ·show (GR (xH 0 args) s).at _ _ _;rw [h3]
   have hj:=(List.getElem?_eq_some_iff.1 h1).1
   have hv:vs[j]? = some vs[j]:=List.getElem?_eq_getElem (by omega)
   have:=hargs j g _ h1 hv
   unfold aC.at aC.dv
   rw [qC g (List.mem_of_getElem? h1),h2,Nat.zero_add,hget _ _ hv]
   exact this
 ·simp;omega
theorem GU {s d i:Nat} {q q' Q:dS} {f:FuncId} {fn:Func} {args:List aC} {post:aC} {xs:Array Operand} {ts:Array TypeId} {y:Operand}
    (hc:Dz P f args i q q' post) (hf:P.funcs[f]? = some fn) (hbd:kJ fn=true) (hd:jv (post :: args)=true) (hsd:Nat.beq s d=false) (hdst:o.dst=some d)
    (ho:o.op = .call { callee:=.value (.func f),args:=xs,argTypes:=ts }) (hy:xs.toList[i]? = some y) (hyx:∀ h a e,vI N h a→Q (a.gt s) e→q (a.eval y) e) (hargs:lK N args xs.toList):bH P o N [(s,Q)] post [(s,none),(d,some q')]:=by
  intro κ B F L h a w hst hn hk hdn next Q hnext _
  obtain ⟨e,hL,hq⟩:=hk.1
  have hL:L s=some e:=hL
  have hq:q (a.eval y) e:=hyx h a e hn hq
  simp only [kJ,Bool.and_eq_true,Bool.not_eq_true'] at hbd
  have hbody:fn.body≠none:=by
    intro hx;rw [hx] at hbd;cases hbd.1
  have hname:fn.name ≠ "runtime.NumGoroutine":=by simpa using hbd.2
  have hdp:=iy hd
  have hne:s≠d:=fun x=>by rw [jK.2 x] at hsd;cases hsd
  obtain ⟨hlen,hall⟩:=hargs.spec
  unfold Oper.jY
  have:(execOp a.eval o).run P w = .ok (.enter f (xs.toList.map a.eval).toArray) w:=by
    have e:(xs.toList.map a.eval).toArray=xs.map a.eval:=by apply Array.ext';simp
    rw [e]
    simp [execOp,ho,resolve,Act.eval,Deferred.ofValue,invoke,callFunc,hf,hname,hbody]
  rw [this,tu]
  have hst1:St B h (Sum.elim (set1 L s e) F) w:=by rw [tq hL];exact hst
  refine (hc _ B _ h w (xs.toList.map a.eval) e (a.eval y) hst1.out (by rw [List.length_map];exact hlen) (by rw [List.getElem?_map,hy];rfl) hq ?_).mono ?_
  · intro j g v hg hv
    rw [List.getElem?_map] at hv
    cases hx:xs.toList[j]? with
    | none=>rw [hx] at hv;cases hv
    | some x =>
      rw [hx] at hv;cases hv
      have:=hall j g x hg hx h a hn
      unfold aC.dv at this
      rw [hdp g (List.mem_cons_of_mem _ (List.mem_of_getElem? hg))] at this
      exact this
  · rintro e' w' ⟨v,h',x',rfl,hl,hst',hp,hq'⟩
    refine hnext v h' w' (set1 (fun k=>if k=s then none else L k) d x') hl ?_ ?_ ?_
    · unfold aC.dv
      rw [hdp post List.mem_cons_self]
      exact hp
    · generalize (fun k => if k = s then none else L k) = L0 at hst'
      refine hst'.xg (fun k=>match k with | .inl k=>if k=d then .inl () else .inr (.inl k) | .inr k=>.inr (.inr k)) ?_ ?_
      · intro k e hk
        cases k with
        | inr k=>exact hk
        | inl k =>
          by_cases hkd:k=d
          · subst hkd;simp [set1] at hk;simp [hk]
          · simp [set1,hkd] at hk;simp [hkd,hk]
      · intro k k' e1 e2 h1 h2 hne
        cases k with
        | inr k=>cases k' with
          | inr k'=>intro he;exact hne (by rw [Sum.inr.inj (Sum.inr.inj he)])
          | inl k'=>intro he;simp only [] at he;split at he <;> cases he
        | inl k=>cases k' with
          | inr k'=>intro he;simp only [] at he;split at he <;> cases he
          | inl k' =>
            have hne':k≠k':=fun x=>hne (by rw [x])
            simp only []
            intro he
            split at he <;> split at he
            · rename_i h3 h4;exact hne' (h3.trans h4.symm)
            · cases he
            · cases he
            · exact hne' (Sum.inl.inj (Sum.inr.inj he))
    · rw [hdst]
      intro k
      have Ip:Nat.beq s d=false:=hsd
      by_cases hk:k=d
      · subst hk
        have:nG (full [(s,none),(k,some q')] (some k)) k=some (some q'):=by simp [full,nG,Ip,Nat.beq_refl]
        rw [this];exact ⟨x',by simp [set1],by rw [bW (hdn k hdst)];exact hq'⟩
      · by_cases hks : k = s
        · subst hks
          have:nG (full [(k,none),(d,some q')] (some d)) k=some none:=by simp [full,nG,Nat.beq_refl]
          rw [this];trivial
        · have h1 : Nat.beq s k = false := by rw [Bool.eq_false_iff, Ne, jK]; exact fun x => hks x.symm
          have h2:Nat.beq d k=false:=by rw [Bool.eq_false_iff,Ne,jK];exact fun x=>hk x.symm
          have:nG (full [(s,none),(d,some q')] (some d)) k=none:=by simp [full,nG,h1,h2]
          rw [this];simp [set1,hk,hks]
theorem DJ {s d i:Nat} {q q':dS} {f:FuncId} {fn:Func} {args:List aC} {post:aC} {xs:Array Operand} {ts:Array TypeId} {y:Operand}
  (hc:Dz P f args i q q' post) (hf:P.funcs[f]? = some fn) (hbd:kJ fn=true) (hd:jv (post :: args)=true) (hsd:Nat.beq s d=false) (hdst:o.dst=some d)
  (ho:o.op = .call { callee:=.value (.func f),args:=xs,argTypes:=ts }) (hy:xs.toList[i]? = some y) (hyx:aT N y (CQ s)) (hargs:lK N args xs.toList):bH P o N [(s,q)] post [(s,none),(d,some q')] :=
 GU hc hf hbd hd hsd hdst ho hy (fun h a e n k=>by rw [show a.eval y=a.gt s from hyx h a n];exact k) hargs
theorem yR {s i:Nat} {ι:Type} {q0 q0':dS} {q q':ι→dS} {fx:aC} {f:FuncId} {fn:Func} {args:List aC} {post:aC} {xs:Array Operand} {ts:Array TypeId} {y:Operand}
  (hc:∀ k,wV P f args i (q k) (q' k) post) (hb:oI s fx q0 q0' q q') (hfx:fx.dep=some s) (hf:P.funcs[f]? = some fn) (hbd:kJ fn=true) (hd:jv (post :: args)=true) (hds:Iq o.dst s=true)
  (ho:o.op = .call { callee:=.value (.func f),args:=xs,argTypes:=ts }) (hy:xs.toList[i]? = some y) (hyx:aT N y fx) (hargs:lK N args xs.toList):bH P o N [(s,q0)] aC.lW [(s,some q0')] :=
 bH.out (iy hd post List.mem_cons_self) (fun _ _ _ _=>trivial) (Ak hc hb hfx hf hbd hd hds ho hy hyx hargs)
end Go.KB
namespace Go.KB
variable {P:Program} {o:Oper} {N:List (Nat×aC)} {α β:Type}
end Go.KB
namespace Go.KB
section
variable {P:Program} {o:Oper} {N:List (Nat×aC)} {α:Type}
theorem aH {T:TypeId} {r:Rep α} {s:Nat} {y:α} (t:iM P T r) (ho:o.op = .load T (.tmp s)):bH P o ((s,jk r y) :: N) [] (fV r y) []:=bU t ho ah
theorem aU {β:Type} {T:TypeId} {r:Rep α} {q:Rep β} {s:Nat} {y:α} {i off:Nat} {get:α→β} {set:α→β→α} (l:Lens r q off get set) (hf:cu P T i off) (ho:o.op = .fieldAddr T (.tmp s) i):bH P o ((s,jk r y) :: N) [] (jk q (get y)) []:=bQ l hf ho ah
theorem gX {T:TypeId} {r:Rep α} {s v:Nat} {y z:α} (t:iM P T r) (ho:o.op = .store T (.tmp s) (.tmp v)) (hd:o.dst=none:=by rfl):bH P o ((v,fV r z) :: N) [(s,dH T r y)] aC.lW [(s,some (dH T r z))]:=DY t hd ho ah
def Ir:BinOp→Bool
 | .eql | .neq | .lss | .leq | .gtr | .geq=>true
 | _=>false
theorem AP {op:BinOp} (h:Ir op=true):op = .eql∨op = .neq∨op = .lss∨op = .leq∨op = .gtr∨op = .geq:=by
 cases op <;> first | (cases h;done) | simp
theorem dK {op:BinOp} {k:IntKind} {T T':TypeId} {s:Nat} {m n:Int} (ho:o.op = .binOp op T (.tmp s) (.const (.int k n)) T') (hop:Ir op=true:=by rfl):bH P o ((s,fV (Rep.int k) m) :: N) [] (fV Rep.bool (ax op m n)) []:=dm (AP hop) rfl ho ah aF
theorem dB {op:BinOp} {k:IntKind} {T T':TypeId} {s t:Nat} {m n:Int} (ho:o.op = .binOp op T (.tmp s) (.tmp t) T') (hop:Ir op=true:=by rfl):bH P o ((s,fV (Rep.int k) m) :: (t,fV (Rep.int k) n) :: N) [] (fV Rep.bool (ax op m n)) []:=dm (AP hop) rfl ho ah ai
theorem aZ {α β γ:Type} {x:Option α} {f:α→Option β} {g:α→β→Option γ} {r:γ} (h:(x.bind fun a=>(f a).bind (g a))=some r):∃ a,x=some a∧∃ b,f a=some b∧g a b=some r:=by
 obtain ⟨a,h1,h⟩:=aI h
 obtain ⟨b,h2,h⟩:=aI h
 exact ⟨a,h1,b,h2,h⟩
theorem tn {K:Act→World→Prop} {Q:Exit→Act→World→Prop} {a:Act} {w:World} (h:K a w):Exit.then K Q .normal a w:=h
theorem tr {K:Act→World→Prop} {Q:Exit→Act→World→Prop} {a:Act} {w:World} (h:Q .ret a w):Exit.then K Q .ret a w:=h
theorem ws {ρ:Option Nat} {Q:Exit→Act→World→Prop} {a:Act} {w:World} {x y:Code} (h:x.jY ρ P (Exit.then (y.jY ρ P Q) Q) a w):(Code.seq x y).jY ρ P Q a w:=wp_seq h
theorem wk {ρ:Option Nat} {Q:Exit→Act→World→Prop} {a:Act} {w:World} (h:Q .normal a w):Code.skip.jY ρ P Q a w:=wp_skip h
theorem wr {ρ:Option Nat} {Q:Exit→Act→World→Prop} {a:Act} {w:World} (h:Q .ret a w):Code.ret.jY ρ P Q a w:=wp_ret h
abbrev ln {α:Type} (l:List α):Int:=(List.length l:Int)
abbrev w3:Int→Int:=IntKind.u32.wrap
abbrev w6:Int→Int:=IntKind.u64.wrap
abbrev w1:Int→Int:=IntKind.u16.wrap
abbrev lS {α:Type} (r:Rep α):Rep (List α):=Rep.slice r
theorem zB {T E T':TypeId} {r:Rep α} {m s:Nat} {k:IntKind} {i:Operand} {xs:List α} {n:Int} {y:α} (hq:idx xs n=some y) (t:iM P E r) (hT:P.underlying T=some (.array m E)) (ho:o.op = .indexAddr T (.tmp s) i)
  (hi:aT N i (fV (Rep.int k) n)):bH P o N [(s,dH T' (Rep.arr r m) xs)] (Il s (n.toNat * r.sz)) []:=by
 intro κ B F L h a w hst hn hk _ next Q hnext _
 obtain ⟨h0,hlt,_⟩:=bJ hq
 obtain ⟨e,hL,b,hv,rfl⟩:=hk.1
 have hv':a.eval (.tmp s) = .pointer (some ⟨b,0,none⟩):=hv
 obtain ⟨cs,hb,hlen,hr⟩:=zf hst hL
 unfold Oper.jY
 have h1:0≤n∧n<(m:Int):=by omega
 have:(execOp a.eval o).run P w = .ok (.value (.pointer (some ⟨b,n.toNat * r.sz,none⟩))) w:=by
  simp [execOp,ho,hv',bf.1 (hi h a hn),Instr.indexAt,Instr.sureAddr,asIntOf,run_underlying hT,h1,t.size,Addr.add_mid]
 rw [this]
 exact hnext _ h w L (iG.refl h) ⟨b,hv,rfl⟩ hst ja
theorem KG {κ:Type} {B:Base} {h:H} {L:Nat→Option dZ} {F:κ→Option dZ} {a:Act} {w:World} {T':TypeId} {r:Rep α} {m s:Nat} {xs:List α} (hst:St B h (Sum.elim L F) w) (hk:GV [(s,dH T' (Rep.arr r m) xs)] L a):xs.length=m:=by
 obtain ⟨e,hL,b,hv,rfl⟩:=hk.1
 obtain ⟨cs,hb,hlen,hr⟩:=zf hst hL
 exact hlen
theorem zC {T T':TypeId} {r:Rep α} {m s:Nat} {x:Operand} {xs:List α} {n:Int} {y:α} (hq:idx xs n=some y) (t:iM P T r) (ho:o.op = .load T x) (hx:aT N x (Il s (n.toNat * r.sz))) :
  bH P o N [(s,dH T' (Rep.arr r m) xs)] (fV r y) []:=by
 intro κ B F L h a w hst hn hk hd next Q hnext hnx
 have hm:=KG hst hk
 obtain ⟨h0,hlt,hy⟩:=bJ hq
 have hg:xs.getD n.toNat r.zero=y:=by rw [List.getD_eq_getElem?_getD,hy];rfl
 have:=iK (N:=N) (T':=T') (y:=xs) (Lens.arr r m n.toNat (by omega)) t ho hx
 rw [hg] at this
 exact this κ B F L h a w hst hn hk hd next Q hnext hnx
theorem Gv {T E:TypeId} {r:Rep α} {m:Nat} {k:IntKind} {x i:Operand} {xs:List α} {n:Int} {y:α} (hq:idx xs n=some y) (t:iM P E r) (hT:P.underlying T=some (.array m E)) (ho:o.op = .index T x i) (hx:aT N x (fV (Rep.arr r m) xs)) (hi:aT N i (fV (Rep.int k) n)) :
  bH P o N [] (fV r y) [] :=
 bH.iR fun h a w _ q=>by
  obtain ⟨h0,hlt,hy⟩:=bJ hq
  obtain ⟨cs,⟨hlen,hr⟩,hv⟩:=hx h a q
  obtain ⟨p,c,q',rfl,hp,hc,_⟩:=hr.get hy
  refine ⟨pack r.agg c,?_,c,hc,rfl⟩
  have h1:0≤n∧n<(m:Int):=by omega
  have hv':a.eval x = .agg (p ++ c ++ q').toArray:=hv
  have hrun:=AL t (p:=p) (r:=q') hc w
  rw [hp] at hrun
  simp only [execOp,ho,hv',bf.1 (hi h a q),Instr.index,asIntOf,Sem.run_bind,Sem.run_pure,Result.andThen_ok,run_underlying hT,h1,and_self,if_true,t.size]
  rw [hrun]
  rfl
end
end Go.KB
