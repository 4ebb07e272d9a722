/- Variables whose fields are rows that are appended to. Fields of values; values whose fields are nil, and variables that take them. Maps that are owned: made, looked into, written. Pointers that are only read, nil among them; texts as rows of bytes. Functions that take a row over and hand a row back. Rows that grow from nothing: cap, cuts and appends of zeros at nil. Arrays: slices of arrays that are not written any more, elements of arrays. No condition. -/
import Derived.Test.YtalkbgomndhkmaaGreatKZb
import Derived.MapKept
import Derived.Laws.Pointers
import Derived.Lib.ConvBytes
import Derived.Lib.AppendZeros
namespace Go.KB
variable {P:Program} {o:Oper} {N:List (Nat×bg)} {f:bg} {α β:Type}
inductive Wr where
 | slot
 | val (sv:Value)
def cZ (q:dY) (sv:Value):dY:=fun _ e=>q sv e
def Wr.ap (W:Wr) (q:dY):dY:=match W with | .slot=>q | .val sv=>cZ q sv
def Wr.v (W:Wr) (a:Act) (g:Nat):Value:=match W with | .slot=>a.gt g | .val sv=>sv
theorem Wr.iff {W:Wr} {q:dY} {a:Act} {g:Nat} {e:iE}:W.ap q (a.gt g) e↔q (W.v a g) e:=by cases W <;> rfl
def OQ (N:List (Nat×bg)) (x:Operand) (W:Wr) (g:Nat):Prop:=∀ h a,BR N h a→a.eval x=W.v a g
theorem OQ.slot {x:Operand} {g:Nat} (hx:cO N x (Qm g)):OQ N x .slot g:=fun h a n=>hx h a n
theorem OQ.val {x:Operand} {g:Nat} {sv:Value} (hx:cO N x (ig sv)):OQ N x (.val sv) g:=fun h a n=>hx h a n
theorem Wr.v_put {W:Wr} {a:Act} {s d:Nat} {v:Value} (h:s≠d):W.v (a.put (some d) v) s=W.v a s:=by
 cases W with
 | slot=>exact Hr h
 | val sv=>rfl
def OT (N:List (Nat×bg)) (x:Operand) (W:Wr) (s off:Nat):Prop:=∀ h a,BR N h a→∃ b,W.v a s = .pointer (some ⟨b,0,none⟩)∧a.eval x = .pointer (some ⟨b,off,none⟩)
def vg (sv:Value) (off:Nat):bg:=⟨none,fun _ _ v=>∃ b,sv = .pointer (some ⟨b,0,none⟩)∧v = .pointer (some ⟨b,off,none⟩),fun _ x=>x⟩
theorem OT.slot {x:Operand} {s off:Nat} (hx:cO N x (Ba s off)):OT N x .slot s off:=fun h a n=>hx h a n
theorem OT.val {x:Operand} {s off:Nat} {sv:Value} (hx:cO N x (vg sv off)):OT N x (.val sv) s off:=fun h a n=>hx h a n
structure dM where
 off:Nat
 E:TypeId
 sz:Nat
def qQ:List dM→List (Nat×Value×iE)→Prop
 | [],[]=>True
 | t :: ts,u :: us=>(u.1=t.off∧fU t.E t.sz u.2.1 u.2.2)∧qQ ts us
 | _,_=>False
theorem qQ.mid {t:dM} {l2:List dM}:∀ {l1:List dM} {us:List (Nat×Value×iE)},qQ (l1 ++ t :: l2) us →
  ∃ Cm u DW,us=Cm ++ u :: DW∧u.1=t.off∧fU t.E t.sz u.2.1 u.2.2∧qQ l1 Cm∧qQ l2 DW:=by
 intro l1
 induction l1 with
 | nil =>
  intro us h
  cases us with
  | nil=>exact h.elim
  | cons u us=>exact ⟨[],u,us,rfl,h.1.1,h.1.2,trivial,h.2⟩
 | cons t1 l1 ih =>
  intro us h
  cases us with
  | nil=>exact h.elim
  | cons u0 us =>
   obtain ⟨Cm,u,DW,rfl,h1,h2,h3,h4⟩:=ih h.2
   exact ⟨u0 :: Cm,u,DW,rfl,h1,h2,⟨h.1,h3⟩,h4⟩
theorem qQ.app {l2:List dM} {DW:List (Nat×Value×iE)} (h2:qQ l2 DW):∀ {l1:List dM} {Cm:List (Nat×Value×iE)},qQ l1 Cm→qQ (l1 ++ l2) (Cm ++ DW):=by
 intro l1
 induction l1 with
 | nil =>
  intro Cm h
  cases Cm with
  | nil=>exact h2
  | cons u us=>exact h.elim
 | cons t1 l1 ih =>
  intro Cm h
  cases Cm with
  | nil=>exact h.elim
  | cons u0 us=>exact ⟨h.1,ih h.2⟩
theorem qQ.WW:∀ {l:List dM} {us:List (Nat×Value×iE)},qQ l us→∀ u ∈ us,∃ t ∈ l,u.1=t.off:=by
 intro l
 induction l with
 | nil =>
  intro us h u hu
  cases us with
  | nil=>cases hu
  | cons _ _=>exact h.elim
 | cons t l ih =>
  intro us h u hu
  cases us with
  | nil=>exact h.elim
  | cons u0 us =>
   rcases List.mem_cons.1 hu with rfl | hu
   ·exact ⟨t,List.mem_cons_self,h.1.1⟩
   ·obtain ⟨t',ht',e⟩:=ih h.2 u hu
    exact ⟨t',List.mem_cons_of_mem _ ht',e⟩
theorem qQ.cut {l2:List dM}:∀ {l1:List dM} {us:List (Nat×Value×iE)},qQ (l1 ++ l2) us→∃ Cm DW,us=Cm ++ DW∧qQ l1 Cm∧qQ l2 DW:=by
 intro l1
 induction l1 with
 | nil=>intro us h;exact ⟨[],us,rfl,trivial,h⟩
 | cons t1 l1 ih =>
  intro us h
  cases us with
  | nil=>exact h.elim
  | cons u0 us =>
   obtain ⟨Cm,DW,rfl,h3,h4⟩:=ih h.2
   exact ⟨u0 :: Cm,DW,rfl,⟨h.1,h3⟩,h4⟩
def FD (a b:List (Nat×Nat)):Prop:=∀ c ∈ a,∀ c' ∈ b,c.1≠c'.1
def BoxOk (b:Nat) (us:List (Nat×Value×iE)):Prop:=(us.map (fun u=>u.2.2.claims)).Pairwise FD∧∀ u ∈ us,∀ c ∈ u.2.2.claims,c.1≠b
def IE (us:List (Nat×Value×iE)):List (Nat×Nat):=us.flatMap (fun u=>u.2.2.claims)
def kT (b:Nat) (T:TypeId) (r:Rep α) (x:α) (us:List (Nat×Value×iE)):iE where
 claims:=(b,0) :: IE us
 ok:=fun h m=>(∃ cs,m b=some (.cells cs.toArray T (0,0))∧r.rel h cs x∧∀ u ∈ us,cs[u.1]? = some u.2.1)∧∀ u ∈ us,u.2.2.ok h m
 mono:=by
  intro h h' m hl ⟨⟨cs,e,k,l⟩,q⟩
  exact ⟨⟨cs,e,r.mono hl k,l⟩,fun u hu=>u.2.2.mono hl (q u hu)⟩
 frame:=by
  intro h m m' hm ⟨⟨cs,e,k,l⟩,q⟩
  refine ⟨⟨cs,by rw [hm (b,0) (by simp)];exact e,k,l⟩,fun u hu=>u.2.2.frame (fun c hc=>hm c ?_) (q u hu)⟩
  exact List.mem_cons_of_mem _ (List.mem_flatMap.2 ⟨u,hu,hc⟩)
def dU (T:TypeId) (r:Rep α) (x:α) (ts:List dM):dY:=fun v e=>∃ b us,v = .pointer (some ⟨b,0,none⟩)∧qQ ts us∧BoxOk b us∧e=kT b T r x us
theorem St.split2 {κ:Type} {B:Base} {h:H} {L:Nat→Option iE} {F:κ→Option iE} {w:World} (hst:St B h (Sum.elim L F) w) {s d:Nat} {e e1 e2:iE} (hL:L s=some e) (_:s≠d)
    (h1:∀ c ∈ e1.claims,c ∈ e.claims) (h2:∀ c ∈ e2.claims,c ∈ e.claims) (hd:FD e1.claims e2.claims) (k1:e1.ok h (World.mem w)) (k2:e2.ok h (World.mem w)) :
    St B h (Sum.elim (set1 (set1 L s e1) d e2) F) w:=by
  obtain ⟨hcl,_⟩:=hst.own (k:=Sum.inl s) hL
  have hval:∀ k e',set1 (set1 L s e1) d e2 k=some e'→(k=d∧e'=e2)∨(k=s∧e'=e1)∨(k≠s∧k≠d∧L k=some e'):=by
    intro k e' hk
    unfold set1 at hk
    split at hk
    · rename_i hkd;exact .inl ⟨hkd,(Option.some.inj hk).symm⟩
    · rename_i hkd
      split at hk
      · rename_i hks;exact .inr (.inl ⟨hks,(Option.some.inj hk).symm⟩)
      · rename_i hks;exact .inr (.inr ⟨hks,hkd,hk⟩)
  refine ⟨hst.low,hst.base,fun x=>hst.ext x,?_,?_⟩
  · intro k e' hk
    cases k with
    | inr k=>exact hst.own (k:=Sum.inr k) hk
    | inl k =>
      rcases hval k e' hk with ⟨_,rfl⟩ | ⟨_,rfl⟩ | ⟨_,_,hk⟩
      · exact ⟨fun c hc=>hcl c (h2 c hc),k2⟩
      · exact ⟨fun c hc=>hcl c (h1 c hc),k1⟩
      · exact hst.own (k:=Sum.inl k) hk
  · have other : ∀ (k : Nat ⊕ κ) e', Sum.elim L F k = some e' → k ≠ Sum.inl s → ∀ c ∈ e.claims, ∀ c' ∈ e'.claims, c.1 ≠ c'.1 := fun k e' hk hne => hst.tC (k := Sum.inl s) hL hk (Ne.symm hne)
    intro k k' a a' hk hk' hne c hc c' hc'
    cases k with
    | inr k =>
      cases k' with
      | inr k'=>exact hst.tC (k:=Sum.inr k) (k':=Sum.inr k') hk hk' hne c hc c' hc'
      | inl k' =>
        rcases hval k' a' hk' with ⟨_,rfl⟩ | ⟨_,rfl⟩ | ⟨h3,_,hk'⟩
        · exact (other (.inr k) a hk (by simp) c' (h2 _ hc') c hc).symm
        · exact (other (.inr k) a hk (by simp) c' (h1 _ hc') c hc).symm
        · exact hst.tC (k:=Sum.inr k) (k':=Sum.inl k') hk hk' (by simp) c hc c' hc'
    | inl k =>
      cases k' with
      | inr k' =>
        rcases hval k a hk with ⟨_,rfl⟩ | ⟨_,rfl⟩ | ⟨h3,_,hk⟩
        · exact other (.inr k') a' hk' (by simp) c (h2 _ hc) c' hc'
        · exact other (.inr k') a' hk' (by simp) c (h1 _ hc) c' hc'
        · exact hst.tC (k:=Sum.inl k) (k':=Sum.inr k') hk hk' (by simp) c hc c' hc'
      | inl k' =>
        have hne':k≠k':=fun x=>hne (by rw [x])
        rcases hval k a hk with ⟨e3,rfl⟩ | ⟨e3,rfl⟩ | ⟨h3,h4,hk2⟩ <;> rcases hval k' a' hk' with ⟨e4,rfl⟩ | ⟨e4,rfl⟩ | ⟨h5,h6,TF⟩
        · exact absurd (e3.trans e4.symm) hne'
        · exact (hd c' hc' c hc).symm
        · exact other (.inl k') a' TF (fun x=>h5 (Sum.inl.inj x)) c (h2 _ hc) c' hc'
        · exact hd c hc c' hc'
        · exact absurd (e3.trans e4.symm) hne'
        · exact other (.inl k') a' TF (fun x=>h5 (Sum.inl.inj x)) c (h1 _ hc) c' hc'
        · exact (other (.inl k) a hk2 (fun x=>h3 (Sum.inl.inj x)) c' (h2 _ hc') c hc).symm
        · exact (other (.inl k) a hk2 (fun x=>h3 (Sum.inl.inj x)) c' (h1 _ hc') c hc).symm
        · exact hst.tC (k:=Sum.inl k) (k':=Sum.inl k') hk2 TF (fun x=>hne' (Sum.inl.inj x)) c hc c' hc'
def Ae (L:Nat→Option iE) (s d:Nat) (e:iE):Nat→Option iE:=fun k=>if k=d then none else if k=s then some e else L k
theorem St.Ae {κ:Type} {B:Base} {h:H} {L:Nat→Option iE} {F:κ→Option iE} {w:World} (hst:St B h (Sum.elim L F) w) {s d:Nat} {e e1 e2:iE} (hL:L s=some e1) (hL2:L d=some e2)
  (hc:∀ c ∈ e.claims,c ∈ e1.claims∨c ∈ e2.claims) (ho:e.ok h (World.mem w)):St B h (Sum.elim (Ae L s d e) F) w:=by
 obtain ⟨hcl1,_⟩:=hst.own (k:=Sum.inl s) hL
 obtain ⟨hcl2,_⟩:=hst.own (k:=Sum.inl d) hL2
 have hval:∀ k e',KB.Ae L s d e k=some e'→(k=s∧e'=e)∨(k≠s∧k≠d∧L k=some e'):=by
  intro k e' hk
  unfold KB.Ae at hk
  split at hk
  ·cases hk
  ·rename_i hkd
   split at hk
   ·rename_i hks;exact .inl ⟨hks,(Option.some.inj hk).symm⟩
   ·rename_i hks;exact .inr ⟨hks,hkd,hk⟩
 refine ⟨hst.low,hst.base,fun x=>hst.ext x,?_,?_⟩
 ·intro k e' hk
  cases k with
  | inr k=>exact hst.own (k:=Sum.inr k) hk
  | inl k =>
   rcases hval k e' hk with ⟨_,rfl⟩ | ⟨_,_,hk⟩
   ·exact ⟨fun c hcc=>(hc c hcc).elim (hcl1 c) (hcl2 c),ho⟩
   ·exact hst.own (k:=Sum.inl k) hk
 ·have other:∀ (k:Nat ⊕ κ) e',Sum.elim L F k=some e'→k≠Sum.inl s→k≠Sum.inl d→∀ c ∈ e.claims,∀ c' ∈ e'.claims,c.1≠c'.1:=by
   intro k e' hk hn1 hn2 c hcc
   rcases hc c hcc with h1 | h1
   ·exact hst.tC (k:=Sum.inl s) hL hk (Ne.symm hn1) c h1
   ·exact hst.tC (k:=Sum.inl d) hL2 hk (Ne.symm hn2) c h1
  intro k k' a a' hk hk' hne c hcc c' JO
  cases k with
  | inr k =>
   cases k' with
   | inr k'=>exact hst.tC (k:=Sum.inr k) (k':=Sum.inr k') hk hk' hne c hcc c' JO
   | inl k' =>
    rcases hval k' a' hk' with ⟨_,rfl⟩ | ⟨h3,_,hk'⟩
    ·exact (other (.inr k) a hk (by simp) (by simp) c' JO c hcc).symm
    ·exact hst.tC (k:=Sum.inr k) (k':=Sum.inl k') hk hk' (by simp) c hcc c' JO
  | inl k =>
   cases k' with
   | inr k' =>
    rcases hval k a hk with ⟨_,rfl⟩ | ⟨h3,_,hk⟩
    ·exact other (.inr k') a' hk' (by simp) (by simp) c hcc c' JO
    ·exact hst.tC (k:=Sum.inl k) (k':=Sum.inr k') hk hk' (by simp) c hcc c' JO
   | inl k' =>
    have hne':k≠k':=fun x=>hne (by rw [x])
    rcases hval k a hk with ⟨e3,rfl⟩ | ⟨h3,h4,hk2⟩ <;> rcases hval k' a' hk' with ⟨e4,rfl⟩ | ⟨h5,h6,TF⟩
    ·exact absurd (e3.trans e4.symm) hne'
    ·exact other (.inl k') a' TF (fun x=>h5 (Sum.inl.inj x)) (fun x=>h6 (Sum.inl.inj x)) c hcc c' JO
    ·exact (other (.inl k) a hk2 (fun x=>h3 (Sum.inl.inj x)) (fun x=>h4 (Sum.inl.inj x)) c' JO c hcc).symm
    ·exact hst.tC (k:=Sum.inl k) (k':=Sum.inl k') hk2 TF (fun x=>hne' (Sum.inl.inj x)) c hcc c' JO
theorem zu {κ:Type} {B:Base} {h:H} {L:Nat→Option iE} {F:κ→Option iE} {w:World} (hst:St B h (Sum.elim L F) w) {s b:Nat} {T:TypeId} {r:Rep α} {x:α} {us:List (Nat×Value×iE)}
  (hk:L s=some (kT b T r x us)):(∃ cs,w.heap[b]? = some (.cells cs.toArray T (0,0))∧r.rel h cs x∧∀ u ∈ us,cs[u.1]? = some u.2.1)∧∀ u ∈ us,u.2.2.ok h (World.mem w):=(hst.own (k:=Sum.inl s) hk).2
theorem vX {T T':TypeId} {r:Rep α} {y:α} {ts:List dM} {s i off:Nat} (hf:dh P T i off) (ho:o.op = .fieldAddr T (.tmp s) i):dQ P o N [(s,dU T' r y ts)] (Ba s off) []:=by
 intro κ B F L h a w hst hn hk _ next Q hnext _
 obtain ⟨e,_,b,us,hv,_⟩:=hk.1
 unfold Oper.pq
 have hv':a.eval (.tmp s) = .pointer (some ⟨b,0,none⟩):=hv
 have:(execOp a.eval o).run P w = .ok (.value (.pointer (some ⟨b,off,none⟩))) w:=by simp [execOp,ho,hv',hf b 0 w]
 rw [this]
 exact hnext _ h w L (mX.refl h) ⟨b,hv,rfl⟩ hst mD
theorem dL {T T':TypeId} {r:Rep α} {y:α} {ts:List dM} {s i off:Nat} {sv:Value} {x:Operand} (hf:dh P T i off) (ho:o.op = .fieldAddr T x i) (hx:cO N x (ig sv)):dQ P o N [(s,cZ (dU T' r y ts) sv)] (vg sv off) []:=by
 intro κ B F L h a w hst hn hk _ next Q hnext _
 obtain ⟨e,_,b,us,hv,_⟩:=hk.1
 have hv':a.eval x = .pointer (some ⟨b,0,none⟩):=(hx h a hn:a.eval x=sv).trans hv
 unfold Oper.pq
 have:(execOp a.eval o).run P w = .ok (.value (.pointer (some ⟨b,off,none⟩))) w:=by simp [execOp,ho,hv',hf b 0 w]
 rw [this]
 exact hnext _ h w L (mX.refl h) ⟨b,hv,rfl⟩ hst mD
theorem rU {T:TypeId} {i off off':Nat} {sv:Value} {x:Operand} (hf:dh P T i off) (ho:o.op = .fieldAddr T x i) (hx:cO N x (vg sv off')):dQ P o N [] (vg sv (off'+off)) [] :=
 dQ.qU fun h a w _ q=>by
  obtain ⟨b,hd,hv⟩:=hx h a q
  exact ⟨.pointer (some ⟨b,off'+off,none⟩),by simp [execOp,ho,hv,hf b off' w],b,hd,rfl⟩
theorem cO.off0 {T':TypeId} {r:Rep α} {y:α} {ts:List dM} {sv:Value} {x:Operand} {h:H} {a:Act} {e:iE} (hx:cO N x (ig sv)) (hn:BR N h a) (hk:dU T' r y ts sv e):∃ b,sv = .pointer (some ⟨b,0,none⟩)∧a.eval x = .pointer (some ⟨b,0,none⟩):=by
 obtain ⟨b,us,hv,_⟩:=hk
 exact ⟨b,hv,(hx h a hn:a.eval x=sv).trans hv⟩
theorem Gx {T T':TypeId} {r:Rep α} {q:Rep β} {ts:List dM} {s off:Nat} {x:Operand} {y:α} {get:α→β} {set:α→β→α} (l:Lens r q off get set) (t:jW P T q) (W:Wr) (ho:o.op = .load T x) (hx:OT N x W s off) :
  dQ P o N [(s,W.ap (dU T' r y ts))] (fV q (get y)) []:=by
 intro κ B F L h a w hst hn hk _ next Q hnext _
 obtain ⟨b,hd,hv⟩:=hx h a hn
 obtain ⟨e,hL,YX⟩:=hk.1
 obtain ⟨b',us,hv',_,_,rfl⟩:=Wr.iff.1 YX
 have hd':W.v a s = .pointer (some ⟨b,0,none⟩):=hd
 rw [hd'] at hv';cases hv'
 obtain ⟨⟨cs,hb,hr,_⟩,_⟩:=zu hst hL
 obtain ⟨c,hc,hrun⟩:=vZ t l hb hr
 unfold Oper.pq
 have:(execOp a.eval o).run P w = .ok (.value (pack q.agg c)) w:=by simp [execOp,ho,hv,hrun]
 rw [this]
 exact hnext _ h w L (mX.refl h) ⟨c,hc,rfl⟩ hst mD
theorem xh {T T':TypeId} {r:Rep α} {q:Rep β} {ts:List dM} {s off:Nat} {x:Operand} {y:α} {get:α→β} {set:α→β→α} (l:Lens r q off get set) (t:jW P T q) (ho:o.op = .load T x) (hx:cO N x (Ba s off)) :
  dQ P o N [(s,dU T' r y ts)] (fV q (get y)) []:=Gx l t .slot ho (.slot hx)
theorem fK {sv:Value} {T T':TypeId} {r:Rep α} {q:Rep β} {ts:List dM} {s off:Nat} {x:Operand} {y:α} {get:α→β} {set:α→β→α} (l:Lens r q off get set) (t:jW P T q) (ho:o.op = .load T x) (hx:cO N x (vg sv off)) :
  dQ P o N [(s,cZ (dU T' r y ts) sv)] (fV q (get y)) []:=Gx l t (.val sv) ho (.val hx)
theorem Oc {T T':TypeId} {r:Rep α} {ts:List dM} {s:Nat} {sv:Value} {y:α} {x:Operand} (t:jW P T r) (ho:o.op = .load T x) (hx:cO N x (ig sv)) :
  dQ P o N [(s,cZ (dU T' r y ts) sv)] (fV r y) []:=by
 intro κ B F L h a w hst hn hk _ next Q hnext _
 obtain ⟨e,hL,b,us,hv,_,_,rfl⟩:=hk.1
 have hv':a.eval x = .pointer (some ⟨b,0,none⟩):=(hx h a hn:a.eval x=sv).trans hv
 obtain ⟨⟨cs,hb,hr,_⟩,_⟩:=zu hst hL
 obtain ⟨c,hc,hrun⟩:=vZ t (Lens.refl r) hb hr
 unfold Oper.pq
 have:(execOp a.eval o).run P w = .ok (.value (pack r.agg c)) w:=by simp [execOp,ho,hv',hrun]
 rw [this]
 exact hnext _ h w L (mX.refl h) ⟨c,hc,rfl⟩ hst mD
def OO:Value:=.slice none 0 0
def wP (cs:List Value):List dM→Prop
 | []=>True
 | t :: ts=>cs[t.off]? = some OO∧wP cs ts
def Ee (ts:List dM):List (Nat×Value×iE):=ts.map (fun t=>(t.off,OO,Dp))
theorem EK:∀ (ts:List dM),qQ ts (Ee ts)
 | []=>trivial
 | _ :: ts=>⟨⟨rfl,.inl ⟨none,0,rfl,rfl⟩⟩,EK ts⟩
theorem EJ {ts:List dM} {u:Nat×Value×iE} (hu:u ∈ Ee ts):u.2.2=Dp∧u.2.1=OO:=by
 obtain ⟨t,_,rfl⟩:=List.mem_map.1 hu;exact ⟨rfl,rfl⟩
theorem Gt (b:Nat):∀ (ts:List dM),BoxOk b (Ee ts)
 | []=>⟨List.Pairwise.nil,fun u hu=>by cases hu⟩
 | t :: ts=>⟨List.Pairwise.cons (fun l _ c hc=>by cases hc) (Gt b ts).1,fun u hu c hc=>by rw [(EJ hu).1] at hc;cases hc⟩
theorem Gs:∀ (ts:List dM),IE (Ee ts)=[]
 | []=>rfl
 | _ :: ts=>Gs ts
theorem wP.at {cs:List Value}:∀ {ts:List dM},wP cs ts→∀ u ∈ Ee ts,cs[u.1]? = some u.2.1:=by
 intro ts
 induction ts with
 | nil=>intro _ u hu;cases hu
 | cons t ts ih =>
  intro h u hu
  rcases List.mem_cons.1 hu with rfl | hu
  ·exact h.1
  ·exact ih h.2 u hu
theorem SQ {T:TypeId} {r:Rep α} {d:Nat} (ts:List dM) (t:jW P T r) (hz:wP r.zc ts) (hd:o.dst=some d) (ho:o.op = .alloc T):dQ P o N [] bg.pG [(d,some (dU T r r.zero ts))]:=by
 intro κ B F L h a w hst hn _ hdn next Q hnext _
 unfold Oper.pq
 have:(execOp a.eval o).run P w = .ok (.value (.pointer (some ⟨w.heap.size,0,none⟩))) (w.alloc (.cells r.zc.toArray T)):=by
  simp [execOp,ho,Instr.alloc,t.zero,Dk (r.vw h)]
 rw [this]
 refine hnext _ h _ (set1 L d (kT w.heap.size T r r.zero (Ee ts))) (mX.refl h) trivial (hst.yx _ d _ ?_ ⟨⟨_,yA _ _,r.vw h,hz.at⟩,fun u hu=>by rw [(EJ hu).1];trivial⟩) ?_
 ·intro c hc
  have:c ∈ (w.heap.size,0) :: IE (Ee ts):=hc
  rw [Gs] at this
  simp at this;rw [this]
 rw [hd]
 exact mG ⟨_,_,gQ (hdn d hd),EK ts,Gt _ ts,rfl⟩
def apartB (off sz:Nat) (ts:List dM):Bool:=ts.all (fun t=>Nat.blt t.off off||Nat.ble (off+sz) t.off)
theorem yQ {off sz:Nat} {ts:List dM} (h:apartB off sz ts=true):∀ t ∈ ts,t.off<off∨off+sz≤t.off:=by
 intro t ht
 have:=List.all_eq_true.1 h t ht
 simpa [Nat.blt_eq] using this
theorem LW {p c c' q:List Value} {off sz i:Nat} (hp:p.length=off) (hc:c.length=sz) (hc':c'.length=sz) (h:i<off∨off+sz≤i):(p ++ c' ++ q)[i]? = (p ++ c ++ q)[i]?:=by
  rcases h with h | h
  · rw [List.append_assoc,List.append_assoc,List.getElem?_append_left (by omega),List.getElem?_append_left (by omega)]
  · rw [List.getElem?_append_right (by simp; omega), List.getElem?_append_right (by simp; omega)]
    congr 1;simp;omega
theorem TG {h:H} {w w':World} {b:Nat} {us:List (Nat×Value×iE)} (G9:BoxOk b us) (hw:∀ i,i≠b→w'.heap[i]? = w.heap[i]?) (h2:∀ u ∈ us,u.2.2.ok h (World.mem w)):∀ u ∈ us,u.2.2.ok h (World.mem w') :=
 fun u hu=>u.2.2.frame (fun c hc=>hw c.1 (G9.2 u hu c hc)) (h2 u hu)
theorem BoxOk.sub {b:Nat} {us Vb:List (Nat×Value×iE)} (h:Vb.Sublist us) (hb:BoxOk b us):BoxOk b Vb :=
 ⟨hb.1.sublist (h.map _),fun u hu=>hb.2 u (h.subset hu)⟩
theorem JG {us Vb:List (Nat×Value×iE)} (h:Vb.Sublist us):∀ c ∈ IE Vb,c ∈ IE us:=by
 intro c hc
 obtain ⟨u,hu,XF⟩:=List.mem_flatMap.1 hc
 exact List.mem_flatMap.2 ⟨u,h.subset hu,XF⟩
theorem Ad {T T':TypeId} {r:Rep α} {q:Rep β} {off:Nat} {y:α} {z:β} {get:α→β} {set:α→β→α} (l:Lens r q off get set) (t:jW P T q) {κ:Type} {B:Base} {F:κ→Option iE} {L:Nat→Option iE} {h:H} {w:World} {s b:Nat} {us Vb:List (Nat×Value×iE)}
  (hst:St B h (Sum.elim L F) w) (hL:L s=some (kT b T' r y us)) (G9:BoxOk b us) (hsub:Vb.Sublist us) (hap:∀ u ∈ Vb,u.1<off∨off+q.sz≤u.1) {c':List Value} (hc':q.rel h c' z) :
  ∃ p c q':List Value,p.length=off∧(Instr.storeAt T (.pointer (some ⟨b,off,none⟩)) (pack q.agg c')).run P w = .ok () (w.setRow b (p ++ c' ++ q').toArray)∧c.length=q.sz ∧
   (w.setRow b (p ++ c' ++ q').toArray).heap[b]? = some (.cells (p ++ c' ++ q').toArray T' (0,0))∧r.rel h (p ++ c' ++ q') (set y z)∧(∀ u ∈ Vb,(p ++ c' ++ q')[u.1]? = some u.2.1) ∧
   St B h (Sum.elim (set1 L s (kT b T' r (set y z) Vb)) F) (w.setRow b (p ++ c' ++ q').toArray):=by
 obtain ⟨⟨cs,hb,hr,hu1⟩,hu2⟩:=zu hst hL
 obtain ⟨p,c,q',rfl,hp,hc,hset⟩:=l h cs y hr
 have hrun:=rJ t hc' hb (q.len hc)
 rw [hp] at hrun
 have hmem:=vO w b _ (p ++ c' ++ q').toArray T' hb
 have hrel:=hset h c' z (mX.refl h) hc'
 have hget:∀ u ∈ Vb,(p ++ c' ++ q')[u.1]? = some u.2.1:=fun u hu=>by
  rw [LW hp (q.len hc) (q.len hc') (hap u hu)];exact hu1 u (hsub.subset hu)
 obtain ⟨hcl,_⟩:=hst.own (k:=Sum.inl s) hL
 have hno:=(hcl (b,0) (by simp [kT])).2.2
 refine ⟨p,c,q',hp,hrun,q.len hc,hmem,hrel,hget,?_⟩
 refine hst.write (Sum.inl s) (e:=kT b T' r y us) hL (b:=b) (lo:=0) (by simp [kT]) hmem (fun i hi=>setRow_other w b i _ hi) (by simp [World.setRow]) rfl rfl rfl ?_ rf ?_
 ·intro o' v hh;rw [hno o' (Nat.zero_le _)] at hh;cases hh
 ·intro e' he
  rw [rq he]
  refine ⟨fun c hc=>?_,⟨_,hmem,hrel,hget⟩,TG (G9.sub hsub) (fun i hi=>setRow_other w b i _ hi) (fun u hu=>hu2 u (hsub.subset hu))⟩
  rcases List.mem_cons.1 hc with rfl | hc
  ·exact List.mem_cons_self
  ·exact List.mem_cons_of_mem _ (JG hsub c hc)
theorem Qy {T T':TypeId} {r:Rep α} {q:Rep β} {ts:List dM} {s off:Nat} {x v:Operand} {y:α} {z:β} {get:α→β} {set:α→β→α} {y':α} (l:Lens r q off get set) (t:jW P T q) (hap:apartB off q.sz ts=true) (hd:o.dst=none)
  (W:Wr) (ho:o.op = .store T x v) (hx:OT N x W s off) (hv:cO N v (fV q z)) (hy':y'=set y z):dQ P o N [(s,W.ap (dU T' r y ts))] bg.pG [(s,some (W.ap (dU T' r y' ts)))]:=by
 subst hy'
 intro κ B F L h a w hst hn hk _ next Q hnext _
 obtain ⟨b,hdv,hxv⟩:=hx h a hn
 obtain ⟨e,hL,YX⟩:=hk.1
 obtain ⟨b',us,hv',hta,G9,rfl⟩:=Wr.iff.1 YX
 have hd':W.v a s = .pointer (some ⟨b,0,none⟩):=hdv
 rw [hd'] at hv';cases hv'
 obtain ⟨c',hc',hvv⟩:=hv h a hn
 obtain ⟨p,c,q',hp,hrun,_,_,_,_,hst'⟩:=Ad l t hst hL G9 (List.Sublist.refl us) (fun u hu=>by
  obtain ⟨t,ht,e⟩:=hta.WW u hu;rw [e];exact yQ hap t ht) hc'
 unfold Oper.pq
 have:(execOp a.eval o).run P w = .ok .skip (w.setRow b (p ++ c' ++ q').toArray):=by
  simp only [execOp,ho,hxv,hvv,Sem.run_bind,hrun,Result.andThen_ok,Sem.run_pure]
 rw [this]
 refine hnext undef h _ _ (mX.refl h) trivial hst' ?_
 rw [hd]
 exact mG (Wr.iff.2 ⟨b,us,hd',hta,G9,rfl⟩)
theorem Ji {sv:Value} {T T':TypeId} {r:Rep α} {q:Rep β} {ts:List dM} {s off:Nat} {x v:Operand} {y:α} {z:β} {get:α→β} {set:α→β→α} {y':α} (l:Lens r q off get set) (t:jW P T q) (hap:apartB off q.sz ts=true) (hd:o.dst=none)
  (ho:o.op = .store T x v) (hx:cO N x (vg sv off)) (hv:cO N v (fV q z)) (hy':y'=set y z):dQ P o N [(s,cZ (dU T' r y ts) sv)] bg.pG [(s,some (cZ (dU T' r y' ts) sv))]:=Qy l t hap hd (.val sv) ho (.val hx) hv hy'
theorem CU {T T':TypeId} {r:Rep α} {s:Nat} {sv:Value} {x v:Operand} {y z:α} (t:jW P T r) (hd:o.dst=none) (ho:o.op = .store T x v) (hx:cO N x (ig sv)) (hv:cO N v (fV r z)) :
  dQ P o N [(s,cZ (dU T' r y []) sv)] bg.pG [(s,some (cZ (dU T' r z []) sv))]:=by
 intro κ B F L h a w hst hn hk hdn next Q hnext _
 obtain ⟨e,hL,hq⟩:=hk.1
 obtain ⟨b,h1,h2⟩:=hx.off0 hn hq
 obtain ⟨b',us,hv',hta,G9,rfl⟩:=hq
 rw [h1] at hv';cases hv'
 obtain ⟨c',hc',hvv⟩:=hv h a hn
 obtain ⟨p,c,q',hp,hrun,_,_,_,_,hst'⟩:=Ad (Lens.refl r) t hst hL G9 (List.nil_sublist us) (fun u hu=>by cases hu) hc'
 unfold Oper.pq
 have:(execOp a.eval o).run P w = .ok .skip (w.setRow b (p ++ c' ++ q').toArray):=by
  simp only [execOp,ho,h2,hvv,Sem.run_bind,hrun,Result.andThen_ok,Sem.run_pure]
 rw [this]
 refine hnext undef h _ _ (mX.refl h) trivial hst' ?_
 rw [hd]
 exact mG ⟨b,[],h1,trivial,⟨List.Pairwise.nil,fun u hu=>by cases hu⟩,rfl⟩
theorem BoxOk.nil {b off:Nat} {Cm DW:List (Nat×Value×iE)} (h:BoxOk b (Cm ++ DW)):BoxOk b (Cm ++ (off,OO,Dp) :: DW):=by
 obtain ⟨h1,h2⟩:=h
 constructor
 ·rw [List.map_append,List.pairwise_append] at h1 ⊢
  obtain ⟨k1,k2,k3⟩:=h1
  refine ⟨k1,List.Pairwise.cons (fun l _ c hc=>by cases hc) k2,fun x hx y hy=>?_⟩
  rcases List.mem_cons.1 hy with rfl | hy
  ·intro c _ c' hc';cases hc'
  ·exact k3 x hx y hy
 ·intro u hu c hc
  rcases List.mem_append.1 hu with hu | hu
  ·exact h2 u (List.mem_append_left _ hu) c hc
  ·rcases List.mem_cons.1 hu with rfl | hu
   ·cases hc
   ·exact h2 u (List.mem_append_right _ hu) c hc
theorem Vd {L:Nat→Option iE} {s d:Nat} {e1 e2:iE} {q1 q2:dY} {a:Act} (hsd:s≠d) (h1:q1 (a.gt s) e1) (h2:q2 (a.gt d) e2):Eh L (set1 (set1 L s e1) d e2) (full [(s,some q1),(d,some q2)] (some d)) a:=by
  intro k
  have Ve:Nat.beq s d=false:=by rw [Bool.eq_false_iff,Ne,iF];exact hsd
  by_cases hk:k=d
  · subst hk
    have:qB (full [(s,some q1),(k,some q2)] (some k)) k=some (some q2):=by simp [full,qB,Ve,Nat.beq_refl]
    rw [this];exact ⟨e2,by simp [set1],h2⟩
  · have h3 : Nat.beq d k = false := by rw [Bool.eq_false_iff, Ne, iF]; exact fun x => hk x.symm
    by_cases hk2:k=s
    · subst hk2
      have:qB (full [(k,some q1),(d,some q2)] (some d)) k=some (some q1):=by simp [full,qB,Nat.beq_refl]
      rw [this];exact ⟨e1,by simp [set1,hk],h1⟩
    · have h4 : Nat.beq s k = false := by rw [Bool.eq_false_iff, Ne, iF]; exact fun x => hk2 x.symm
      have:qB (full [(s,some q1),(d,some q2)] (some d)) k=none:=by simp [full,qB,h3,h4]
      rw [this];simp [set1,hk,hk2]
theorem OU {T T' E:TypeId} {r:Rep α} {q:Rep β} {l1 l2:List dM} {s d off sz:Nat} {x:Operand} {y:α} {get:α→List β} {set:α→List β→α} (l:Lens r (Rep.slice q) off get set) (t:jW P T (Rep.slice q)) (hsd:Nat.beq s d=false) (hd:o.dst=some d) (W:Wr) (ho:o.op = .load T x) (hx:OT N x W s off) :
  dQ P o N [(s,W.ap (dU T' r y (l1 ++ ⟨off,E,sz⟩ :: l2)))] (fV (Rep.slice q) (get y)) [(s,some (W.ap (dU T' r y (l1 ++ l2)))),(d,some (fU E sz))]:=by
 have hne:s≠d:=fun x=>by rw [iF.2 x] at hsd;cases hsd
 intro κ B F L h a w hst hn hk hdn next Q hnext _
 obtain ⟨b,hdv,hv⟩:=hx h a hn
 obtain ⟨e,hL,YX⟩:=hk.1
 obtain ⟨b',us,hv',hta,G9,rfl⟩:=Wr.iff.1 YX
 have hd':W.v a s = .pointer (some ⟨b,0,none⟩):=hdv
 rw [hd'] at hv';cases hv'
 obtain ⟨Cm,u0,DW,rfl,hoff,htip,h3,h4⟩:=hta.mid
 simp only [] at hoff htip
 have hsub:(Cm ++ DW).Sublist (Cm ++ u0 :: DW):=(List.Sublist.refl Cm).append (List.sublist_cons_self _ _)
 obtain ⟨⟨cs,hb,hr,hu1⟩,hu2⟩:=zu hst hL
 have hm0:u0 ∈ Cm ++ u0 :: DW:=List.mem_append_right _ List.mem_cons_self
 obtain ⟨p,c,q',rfl,hp,hc,_⟩:=l h cs y hr
 have hcl:=(Rep.slice q).len hc
 obtain ⟨c0,rfl,hc0⟩:=hc
 have hcv:c0=u0.2.1:=by
  have:=hu1 u0 hm0
  rw [hoff,List.append_assoc,List.getElem?_append_right (by omega),hp] at this
  simpa using this
 have hrun:=vP (b:=b) (off:=off) (w:=w) t hcl (fun j v hj=>by
  rw [vS _ _ _ _ _ _ hb]
  have hjl:=(List.getElem?_eq_some_iff.1 hj).1
  simp only [List.getElem?_toArray]
  rw [List.append_assoc,List.getElem?_append_right (by omega),← hp,Nat.add_sub_cancel_left,List.getElem?_append_left hjl];exact hj)
 unfold Oper.pq
 have:(execOp a.eval o).run P w = .ok (.value c0) w:=by
  have hrun':(Instr.loadAt T (.pointer (some ⟨b,off,none⟩))).run P w = .ok c0 w:=hrun
  simp [execOp,ho,hv,hrun']
 rw [this]
 have hpw:=G9.1
 rw [List.map_append,List.pairwise_append] at hpw
 obtain ⟨_,k2,k3⟩:=hpw
 have k4:=List.pairwise_cons.1 k2
 have hdis:FD ((b,0) :: IE (Cm ++ DW)) u0.2.2.claims:=by
  intro c hc c' hc'
  rcases List.mem_cons.1 hc with rfl | hc
  ·exact (G9.2 u0 hm0 c' hc').symm
  ·obtain ⟨u,hu,XF⟩:=List.mem_flatMap.1 hc
   rcases List.mem_append.1 hu with hu | hu
   ·exact k3 _ (List.mem_map.2 ⟨u,hu,rfl⟩) _ (List.mem_cons_self) c XF c' hc'
   ·exact (k4.1 _ (List.mem_map.2 ⟨u,hu,rfl⟩) c' hc' c XF).symm
 have hst':=hst.split2 (d:=d) (e1:=kT b T' r y (Cm ++ DW)) (e2:=u0.2.2) hL hne (fun c hc=>by
   rcases List.mem_cons.1 hc with rfl | hc
   ·exact List.mem_cons_self
   ·exact List.mem_cons_of_mem _ (JG hsub c hc)) (fun c hc=>List.mem_cons_of_mem _ (List.mem_flatMap.2 ⟨u0,hm0,hc⟩)) hdis
  ⟨⟨_,hb,hr,fun u hu=>hu1 u (hsub.subset hu)⟩,fun u hu=>hu2 u (hsub.subset hu)⟩ (hu2 u0 hm0)
 refine hnext _ h w _ (mX.refl h) (mW.2 hc0) hst' ?_
 rw [hd]
 exact Vd hne (Wr.iff.2 (by rw [Wr.v_put hne];exact ⟨b,_,hd',h4.app h3,G9.sub hsub,rfl⟩)) (by rw [gQ (hdn d hd),hcv];exact htip)
theorem Ob {sv:Value} {T T' E:TypeId} {r:Rep α} {q:Rep β} {l1 l2:List dM} {s d off sz:Nat} {x:Operand} {y:α} {get:α→List β} {set:α→List β→α} (l:Lens r (Rep.slice q) off get set) (t:jW P T (Rep.slice q)) (hsd:Nat.beq s d=false) (hd:o.dst=some d) (ho:o.op = .load T x) (hx:cO N x (vg sv off)) :
  dQ P o N [(s,cZ (dU T' r y (l1 ++ ⟨off,E,sz⟩ :: l2)) sv)] (fV (Rep.slice q) (get y)) [(s,some (cZ (dU T' r y (l1 ++ l2)) sv)),(d,some (fU E sz))]:=OU l t hsd hd (.val sv) ho (.val hx)
theorem LM {L:Nat→Option iE} {s d:Nat} {e:iE} {q:dY} {a:Act} (hsd:s≠d) (hq:q (a.gt s) e):Eh L (Ae L s d e) (full [(s,some q),(d,none)] none) a:=by
  intro k
  by_cases hk:k=s
  · subst hk
    have:qB (full [(k,some q),(d,none)] none) k=some (some q):=by simp [full,qB,Nat.beq_refl]
    rw [this];exact ⟨e,by simp [Ae,hsd],hq⟩
  · have h4 : Nat.beq s k = false := by rw [Bool.eq_false_iff, Ne, iF]; exact fun x => hk x.symm
    by_cases hk2:k=d
    · subst hk2
      have:qB (full [(s,some q),(k,none)] none) k=some none:=by simp [full,qB,h4,Nat.beq_refl]
      rw [this];trivial
    · have h3 : Nat.beq d k = false := by rw [Bool.eq_false_iff, Ne, iF]; exact fun x => hk2 x.symm
      have:qB (full [(s,some q),(d,none)] none) k=none:=by simp [full,qB,h3,h4]
      rw [this];simp [Ae,hk,hk2]
theorem Np {T T' E:TypeId} {r:Rep α} {q:Rep β} {l1 l2:List dM} {s d off sz:Nat} {x:Operand} {y:α} {zs:List β} {get:α→List β} {set:α→List β→α} {y':α} (l:Lens r (Rep.slice q) off get set) (t:jW P T (Rep.slice q)) (hap:apartB off 1 (l1 ++ l2)=true) (hsd:Nat.beq s d=false) (hd:o.dst=none)
  (W:Wr) (ho:o.op = .store T x (.tmp d)) (hx:OT N x W s off) (hv:cO N (.tmp d) (fV (Rep.slice q) zs)) (hy':y'=set y zs):dQ P o N [(s,W.ap (dU T' r y (l1 ++ l2))),(d,fU E sz)] bg.pG [(s,some (W.ap (dU T' r y' (l1 ++ ⟨off,E,sz⟩ :: l2)))),(d,none)]:=by
 subst hy'
 have hne:s≠d:=fun x=>by rw [iF.2 x] at hsd;cases hsd
 intro κ B F L h a w hst hn hk _ next Q hnext _
 obtain ⟨b,hdv,hxv⟩:=hx h a hn
 obtain ⟨e,hL,YX⟩:=hk.1
 obtain ⟨b',us,hv',hta,G9,rfl⟩:=Wr.iff.1 YX
 obtain ⟨et,hLt,htip⟩:=hk.2.1
 have hLt:L d=some et:=hLt
 have htip:fU E sz (a.gt d) et:=htip
 have hd':W.v a s = .pointer (some ⟨b,0,none⟩):=hdv
 rw [hd'] at hv';cases hv'
 obtain ⟨c',hc',hvv⟩:=hv h a hn
 have hvd:a.gt d=pack (Rep.slice q).agg c':=hvv
 obtain ⟨p,c,q',hp,hrun,hcl,hmem,hrel,hget,hst'⟩:=Ad l t hst hL G9 (List.Sublist.refl us) (fun u hu=>by
  obtain ⟨t,ht,e⟩:=hta.WW u hu;rw [e];exact yQ hap t ht) hc'
 obtain ⟨c0,rfl,hc0⟩:=hc'
 have hvd:a.gt d=c0:=hvd
 unfold Oper.pq
 have:(execOp a.eval o).run P w = .ok .skip (w.setRow b (p ++ [c0] ++ q').toArray):=by
  simp only [execOp,ho,hxv,hvv,Sem.run_bind,hrun,Result.andThen_ok,Sem.run_pure]
 rw [this]
 obtain ⟨Cm,DW,rfl,h3,h4⟩:=hta.cut
 have hta':qQ (l1 ++ ⟨off,E,sz⟩ :: l2) (Cm ++ (off,c0,et) :: DW):=qQ.app (l2:=⟨off,E,sz⟩ :: l2) (DW:=(off,c0,et) :: DW) ⟨⟨rfl,by rw [← hvd];exact htip⟩,h4⟩ h3
 have hLd':set1 L s (kT b T' r (set y zs) (Cm ++ DW)) d=some et:=by simp [set1,Ne.symm hne,hLt]
 have hdj:FD ((b,0) :: IE (Cm ++ DW)) et.claims:=hst.tC (k:=Sum.inl s) (k':=Sum.inl d) hL hLt (fun x=>hne (Sum.inl.inj x))
 have hbo':BoxOk b (Cm ++ (off,c0,et) :: DW):=by
  obtain ⟨g1,g2⟩:=G9
  constructor
  ·rw [List.map_append,List.pairwise_append] at g1 ⊢
   obtain ⟨k1,k2,k3⟩:=g1
   refine ⟨k1,List.Pairwise.cons (fun l hl c hc c' hc'=>?_) k2,fun x hx y hy=>?_⟩
   ·obtain ⟨u,hu,rfl⟩:=List.mem_map.1 hl
    exact (hdj c' (List.mem_cons_of_mem _ (List.mem_flatMap.2 ⟨u,List.mem_append_right _ hu,hc'⟩)) c hc).symm
   ·rcases List.mem_cons.1 hy with rfl | hy
    ·intro c hc c' hc'
     obtain ⟨u,hu,rfl⟩:=List.mem_map.1 hx
     exact hdj c (List.mem_cons_of_mem _ (List.mem_flatMap.2 ⟨u,List.mem_append_left _ hu,hc⟩)) c' hc'
    ·exact k3 x hx y hy
  ·intro u hu c hc
   rcases List.mem_append.1 hu with hu | hu
   ·exact g2 u (List.mem_append_left _ hu) c hc
   ·rcases List.mem_cons.1 hu with rfl | hu
    ·exact (hdj (b,0) List.mem_cons_self c hc).symm
    ·exact g2 u (List.mem_append_right _ hu) c hc
 obtain ⟨_,hu2⟩:=zu hst' pJ
 have hokt:et.ok h (World.mem (w.setRow b (p ++ [c0] ++ q').toArray)):=(hst'.own (k:=Sum.inl d) hLd').2
 have hj:=hst'.Ae (e:=kT b T' r (set y zs) (Cm ++ (off,c0,et) :: DW)) pJ hLd' (fun c hc=>by
  rcases List.mem_cons.1 hc with rfl | hc
  ·exact .inl List.mem_cons_self
  ·obtain ⟨u,hu,XF⟩:=List.mem_flatMap.1 hc
   rcases List.mem_append.1 hu with hu | hu
   ·exact .inl (List.mem_cons_of_mem _ (List.mem_flatMap.2 ⟨u,List.mem_append_left _ hu,XF⟩))
   ·rcases List.mem_cons.1 hu with rfl | hu
    ·exact .inr XF
    ·exact .inl (List.mem_cons_of_mem _ (List.mem_flatMap.2 ⟨u,List.mem_append_right _ hu,XF⟩))) ⟨⟨_,hmem,hrel,fun u hu=>by
   rcases List.mem_append.1 hu with hu | hu
   ·exact hget u (List.mem_append_left _ hu)
   ·rcases List.mem_cons.1 hu with rfl | hu
    ·simp only []
     rw [List.append_assoc,List.getElem?_append_right (by omega),hp];simp
    ·exact hget u (List.mem_append_right _ hu)⟩,fun u hu=>by
   rcases List.mem_append.1 hu with hu | hu
   ·exact hu2 u (List.mem_append_left _ hu)
   ·rcases List.mem_cons.1 hu with rfl | hu
    ·exact hokt
    ·exact hu2 u (List.mem_append_right _ hu)⟩
 have hL':Ae (set1 L s (kT b T' r (set y zs) (Cm ++ DW))) s d (kT b T' r (set y zs) (Cm ++ (off,c0,et) :: DW))=Ae L s d (kT b T' r (set y zs) (Cm ++ (off,c0,et) :: DW)):=by
  funext k;unfold Ae set1
  by_cases h1:k=d
  ·rw [if_pos h1,if_pos h1]
  ·rw [if_neg h1,if_neg h1]
   by_cases h2:k=s
   ·rw [if_pos h2,if_pos h2]
   ·rw [if_neg h2,if_neg h2,if_neg h2]
 rw [hL'] at hj
 refine hnext undef h _ _ (mX.refl h) trivial hj ?_
 rw [hd]
 exact LM hne (Wr.iff.2 ⟨b,_,hd',hta',hbo',rfl⟩)
theorem MH {sv:Value} {T T' E:TypeId} {r:Rep α} {q:Rep β} {l1 l2:List dM} {s d off sz:Nat} {x:Operand} {y:α} {zs:List β} {get:α→List β} {set:α→List β→α} {y':α} (l:Lens r (Rep.slice q) off get set) (t:jW P T (Rep.slice q)) (hap:apartB off 1 (l1 ++ l2)=true) (hsd:Nat.beq s d=false) (hd:o.dst=none)
  (ho:o.op = .store T x (.tmp d)) (hx:cO N x (vg sv off)) (hv:cO N (.tmp d) (fV (Rep.slice q) zs)) (hy':y'=set y zs):dQ P o N [(s,cZ (dU T' r y (l1 ++ l2)) sv),(d,fU E sz)] bg.pG [(s,some (cZ (dU T' r y' (l1 ++ ⟨off,E,sz⟩ :: l2)) sv)),(d,none)]:=Np l t hap hsd hd (.val sv) ho (.val hx) hv hy'
end Go.KB
namespace Go.KB
variable {P:Program} {o:Oper} {N:List (Nat×bg)} {f:bg} {α β:Type}
def zX (P:Program) (T:TypeId) (i:Nat):Option (TypeId×Nat) :=
 match P.underlying T with
 | some (.struct fs)=>match fs[i]? with
  | some g=>some (g.type,g.offset)
  | none=>none
 | _=>none
theorem JP {T':TypeId} {q:Rep β} (t:jW P T' q) {h:H} {p c r:List Value} {y:β} (hc:q.rel h c y) (w:World):(part T' (p ++ c ++ r).toArray p.length).run P w = .ok (pack q.agg c) w:=by
 have hl:=q.len hc
 unfold part
 cases ha:q.agg with
 | true =>
  simp only [Sem.run_bind,t.agg,ha,Result.andThen_ok,if_true,t.size,Sem.run_pure,pack,cond_true]
  congr 2
  simp only [List.extract_toArray,List.extract_eq_take_drop]
  congr 1
  rw [List.append_assoc,List.drop_left' rfl,show p.length+q.sz - p.length=c.length by omega,List.take_left' rfl]
 | false =>
  rw [q.one ha] at hl
  match c,hl with
  | [v],_ =>
   have:(p ++ [v] ++ r).toArray[p.length]? = some v:=by simp
   simp only [Sem.run_bind,t.agg,ha,Result.andThen_ok,Bool.false_eq_true,if_false,this,Sem.run_pure,pack,cond_false]
theorem EC {T T':TypeId} {r:Rep α} {q:Rep β} {x:Operand} {y:α} {i off:Nat} {get:α→β} {set:α→β→α} (l:Lens r q off get set) (hag:r.agg=true) (hf:zX P T i=some (T',off)) (t:jW P T' q) (ho:o.op = .field T x i) (hx:cO N x (fV r y)) :
  dQ P o N [] (fV q (get y)) [] :=
 dQ.qU fun h a w _ n=>by
  unfold zX at hf
  split at hf
  ·rename_i fs hT
   split at hf
   ·rename_i g hg
    simp only [Option.some.injEq,Prod.mk.injEq] at hf
    obtain ⟨h1,h2⟩:=hf
    obtain ⟨cs,hr,hv⟩:=hx h a n
    obtain ⟨p,c,q',rfl,hp,hc,_⟩:=l h cs y hr
    rw [hag] at hv
    refine ⟨pack q.agg c,?_,c,hc,rfl⟩
    have:=JP t (p:=p) (r:=q') hc w
    rw [List.append_assoc] at this
    simp [execOp,ho,hv,pack,Instr.field,run_underlying hT,hg,asAgg,h1,h2,← hp,this]
   ·cases hf
  ·cases hf
def fVN (r:Rep α) (x:α) (ts:List dM):bg:=⟨none,fun h _ v=>∃ cs,r.rel h cs x∧v=pack r.agg cs∧wP cs ts,fun hl ⟨cs,k,e,n⟩=>⟨cs,r.mono hl k,e,n⟩⟩
theorem wP.apart {p c c' q:List Value} {off sz:Nat} (hp:p.length=off) (hc:c.length=sz) (hc':c'.length=sz):∀ {ts:List dM},apartB off sz ts=true→wP (p ++ c ++ q) ts→wP (p ++ c' ++ q) ts:=by
 intro ts
 induction ts with
 | nil=>intro _ _;trivial
 | cons t ts ih =>
  intro ha hn
  have h1:=yQ ha t List.mem_cons_self
  refine ⟨by rw [LW hp hc hc' h1];exact hn.1,ih ?_ hn.2⟩
  unfold apartB at ha ⊢
  rw [List.all_cons,Bool.and_eq_true] at ha
  exact ha.2
def JQ (P:Program) (N:List (Nat×bg)) (place:Nat→Option (Nat×Nat)) {α:Type} (r:Rep α) (ts:List dM):List (Nat×Operand)→α→α→Prop
 | [],x,y=>x=y
 | (i,o) :: rest,x,y=>∃ (β:Type) (s:Rep β) (off:Nat) (get:α→β) (set:α→β→α) (z:β),Lens r s off get set∧place i=some (off,s.sz)∧apartB off s.sz ts=true∧cO N o (fV s z)∧JQ P N place r ts rest (set x z) y
theorem Yl {place:Nat→Option (Nat×Nat)} {r:Rep α} {ts:List dM} {x:α}:JQ P N place r ts [] x x:=rfl
theorem ML {place:Nat→Option (Nat×Nat)} {r:Rep α} {ts:List dM} {s:Rep β} {off i:Nat} {x':Operand} {get:α→β} {set:α→β→α} {z:β} {rest:List (Nat×Operand)} {x y:α} (l:Lens r s off get set) (hp:place i=some (off,s.sz)) (ha:apartB off s.sz ts=true) (ho:cO N x' (fV s z))
  (k:JQ P N place r ts rest (set x z) y):JQ P N place r ts ((i,x') :: rest) x y:=⟨β,s,off,get,set,z,l,hp,ha,ho,k⟩
theorem JQ.run {place:Nat→Option (Nat×Nat)} {r:Rep α} {ts:List dM} {h:H} {a:Act} (n:BR N h a):∀ {parts:List (Nat×Operand)} {x y:α} {cs:List Value},JQ P N place r ts parts x y→r.rel h cs x→wP cs ts →
  ∃ cs',Instr.fill place cs.toArray (parts.map fun q=>(q.1,a.eval q.2))=some cs'.toArray∧r.rel h cs' y∧wP cs' ts:=by
 intro parts
 induction parts with
 | nil=>intro x y cs k hr ht;rw [show x=y from k] at hr;exact ⟨cs,rfl,hr,ht⟩
 | cons q rest ih =>
  obtain ⟨i,op⟩:=q
  rintro x y cs ⟨β,s,off,get,set,z,l,hp,ha,ho,k⟩ hr ht
  obtain ⟨p,c,q,rfl,hpl,hc,hset⟩:=l h cs x hr
  obtain ⟨c',hc',hv⟩:=ho h a n
  simp only [List.map_cons]
  rw [LX hc' hv hp hpl (s.len hc)]
  exact ih k (hset h c' z (mX.refl h) hc') (ht.apart hpl (s.len hc) (s.len hc') ha)
theorem S9 {T:TypeId} {r:Rep α} {place:Nat→Option (Nat×Nat)} {parts:Array (Nat×Operand)} {y:α} (ts:List dM) (t:jW P T r) (hag:r.agg=true) (hpl:kG P T place) (ho:o.op = .build T parts)
  (hz:wP r.zc ts) (k:JQ P N place r ts parts.toList r.zero y):dQ P o N [] (fVN r y ts) [] :=
 dQ.qU fun h a w _ n=>by
  obtain ⟨cs',hf,hr,ht⟩:=k.run n (r.vw h) hz
  refine ⟨.agg cs'.toArray,?_,cs',hr,by rw [hag];rfl,ht⟩
  have h1:=hpl r.zc.toArray (parts.map fun q=>(q.1,a.eval q.2)) w cs'.toArray _ (t.zero w) (sO (r.vw h)) (by rw [Array.toList_map];exact hf)
  simp only [execOp,ho,Sem.run_bind,h1,Result.andThen_ok,Sem.run_pure]
theorem St.putT {κ:Type} {B:Base} {h:H} {L:Nat→Option iE} {F:κ→Option iE} {w:World} (hst:St B h (Sum.elim L F) w) {s b:Nat} {T:TypeId} {r:Rep α} {x y:α} {us:List (Nat×Value×iE)} {cs cs':List Value} {ts:List dM}
  (hk:L s=some (kT b T r x us)) (hb:w.heap[b]? = some (.cells cs.toArray T (0,0))) (hr:r.rel h cs' y) (ht:wP cs' ts) :
  St B h (Sum.elim (set1 L s (kT b T r y (Ee ts))) F) (w.setRow b cs'.toArray):=by
 obtain ⟨hcl,_⟩:=hst.own (k:=Sum.inl s) hk
 have hno:=(hcl (b,0) (by simp [kT])).2.2
 have hmem:=vO w b _ cs'.toArray T hb
 refine hst.write (Sum.inl s) (e:=kT b T r x us) hk (b:=b) (lo:=0) (by simp [kT]) hmem (fun i hi=>setRow_other w b i cs'.toArray hi) (by simp [World.setRow]) rfl rfl rfl ?_ rf ?_
 ·intro o' v hh
  rw [hno o' (Nat.zero_le _)] at hh;cases hh
 ·intro e' he
  rw [rq he]
  refine ⟨fun c hc=>?_,⟨cs',hmem,hr,ht.at⟩,fun u hu=>by rw [(EJ hu).1];trivial⟩
  have hc:c ∈ (b,0) :: IE (Ee ts):=hc
  rw [Gs] at hc
  simp at hc
  subst hc
  exact List.mem_cons_self
theorem Nq {T:TypeId} {r:Rep α} {ts0 ts:List dM} {s:Nat} {v:Operand} {y z:α} (t:jW P T r) (hd:o.dst=none)
  (ho:o.op = .store T (.tmp s) v) (hv:cO N v (fVN r z ts)):dQ P o N [(s,dU T r y ts0)] bg.pG [(s,some (dU T r z ts))]:=by
 intro κ B F L h a w hst hn hk _ next Q hnext _
 obtain ⟨e,hL,b,us,hxv,_,_,rfl⟩:=hk.1
 have YZ:a.eval (.tmp s) = .pointer (some ⟨b,0,none⟩):=hxv
 obtain ⟨⟨cs,hb,hr,_⟩,_⟩:=zu hst hL
 obtain ⟨c',hc',hvv,ht⟩:=hv h a hn
 have hrun:=rJ (p:=[]) (c:=cs) (q:=[]) t hc' (by simpa using hb) (r.len hr)
 unfold Oper.pq
 have:(execOp a.eval o).run P w = .ok .skip (w.setRow b c'.toArray):=by
  simp only [List.length_nil,List.nil_append,List.append_nil] at hrun
  simp only [execOp,ho,YZ,hvv,Sem.run_bind,hrun,Result.andThen_ok,Sem.run_pure]
 rw [this]
 refine hnext undef h _ _ (mX.refl h) trivial (hst.putT hL hb hc' ht) ?_
 rw [hd]
 exact mG ⟨b,_,hxv,EK ts,Gt b ts,rfl⟩
theorem MI {T:TypeId} {r:Rep α} {ts0:List dM} {s:Nat} {v:Operand} {y z:α} (t:jW P T r) (hd:o.dst=none)
  (ho:o.op = .store T (.tmp s) v) (hv:cO N v (fV r z)):dQ P o N [(s,dU T r y ts0)] bg.pG [(s,some (dU T r z []))] :=
 Nq (ts:=[]) t hd ho (fun h a n=>let ⟨cs,k,e⟩:=hv h a n;⟨cs,k,e,trivial⟩)
end Go.KB
namespace Go.KB
variable {P:Program} {o:Oper} {N:List (Nat×bg)} {α β:Type}
section
variable [DecidableEq α]
def iC (z:β):List (α×β)→α→β
 | [],_=>z
 | p :: r,x=>bif decide (x=p.1) then p.2 else iC z r x
def mJ:List (α×β)→α→Bool
 | [],_=>false
 | p :: r,x=>decide (x=p.1)||mJ r x
def oZ:List (α×β)→α→β→List (α×β)
 | [],x,y=>[(x,y)]
 | p :: r,x,y=>bif decide (x=p.1) then (p.1,y) :: r else p :: oZ r x y
structure yP (P:Program) (K:TypeId) (rk:Rep α) (f:α→Value):Prop where
 is:∀ {h u x},rk.val h u x→u=f x
 chk:∀ (e:Bool) (w:World) (x:α),(Instr.checkKey e 10000 K (f x)).run P w = .ok () w
 now:∃ d,P.underlying K=some d∧∀ x y,Instr.sameNow d (f x) (f y)=some (decide (x=y))
 bits:∀ x,Instr.sameBits 10000 (f x) (f x)=true
 val:∀ h x,rk.val h (f x) x
def bF (s:Str):Value:=.string ⟨s.toArray⟩
theorem yP.str {K:TypeId} (hK:P.underlying K=some .string):yP P K Rep.str bF where
 is:=fun e=>zB.1 e
 chk:=fun e w x=>MapKept.run_checkKey hK (by trivial) e 9999
 now:=⟨_,hK,fun x y=>by
  simp only [Instr.sameNow,bF]
  congr 1
  rw [Bool.eq_iff_iff,MapKept.bytes_beq]
  simp⟩
 bits:=fun x=>(MapKept.bytes_beq _ _).2 rfl
 val:=fun _ _=>zB.2 rfl
def Y0 (k:IntKind) (n:Int):Value:=.int k n
theorem yP.int {K:TypeId} {k:IntKind} (hK:P.underlying K=some (.int k)):yP P K (Rep.int k) (Y0 k) where
 is:=fun e=>lY.1 e
 chk:=fun e w x=>MapKept.run_checkKey hK (by trivial) e 9999
 now:=⟨_,hK,fun x y=>by
  simp only [Instr.sameNow,Y0,if_true]
  congr 1⟩
 bits:=fun x=>by simp [Instr.sameBits,Y0]
 val:=fun _ _=>lY.2 rfl
end
def yt (f:α→Value) (rv:Rep β) (h:H):List MapEntry→List (α×β)→Prop
 | [],[]=>True
 | e :: es,p :: l=>(e.key=f p.1∧rv.val h e.val p.2)∧yt f rv h es l
 | _,_=>False
theorem yt.mono {f:α→Value} {rv:Rep β} {h h':H} (hl:mX h h'):∀ {es:List MapEntry} {l:List (α×β)},yt f rv h es l→yt f rv h' es l
 | [],[],_=>trivial
 | _ :: _,_ :: _,⟨⟨a,b⟩,c⟩=>⟨⟨a,rv.JK hl b⟩,yt.mono hl c⟩
theorem yt.snoc {f:α→Value} {rv:Rep β} {h:H} {e:MapEntry} {p:α×β} (he:e.key=f p.1∧rv.val h e.val p.2):∀ {es:List MapEntry} {l:List (α×β)},yt f rv h es l→yt f rv h (es ++ [e]) (l ++ [p])
 | [],[],_=>⟨he,trivial⟩
 | _ :: _,_ :: _,⟨a,c⟩=>⟨a,yt.snoc he c⟩
def wG (es:List MapEntry) (c:Nat):Prop:=(es.map (·.born)).Nodup∧∀ e ∈ es,e.born<c
theorem wG.push {es:List MapEntry} {c:Nat} {k v:Value} (h:wG es c):wG (es ++ [{ key:=k,val:=v,born:=c }]) (c+1):=by
 refine ⟨?_,fun e he=>?_⟩
 ·rw [List.map_append,List.nodup_append]
  refine ⟨h.1,by simp,fun a ha b hb=>?_⟩
  obtain ⟨e,he,rfl⟩:=List.mem_map.1 ha
  simp only [List.map_cons,List.map_nil,List.mem_singleton] at hb
  have:=h.2 e he
  omega
 ·rcases List.mem_append.1 he with he | he
  ·have:=h.2 e he;omega
  ·simp only [List.mem_singleton] at he;subst he;exact Nat.lt_succ_self _
theorem wG.modify {es:List MapEntry} {c j:Nat} {g:MapEntry→MapEntry} (hg:∀ e,(g e).born=e.born) (h:wG es c):wG (es.modify j g) c:=by
 have hm:(es.modify j g).map (·.born)=es.map (·.born):=by
  refine List.ext_getElem? fun m=>?_
  simp only [List.getElem?_map,List.getElem?_modify]
  cases es[m]? with
  | none=>rfl
  | some e=>simp only [Option.map_some];split <;> simp [hg]
 refine ⟨by rw [hm];exact h.1,fun e he=>?_⟩
 have:e.born ∈ (es.modify j g).map (·.born):=List.mem_map.2 ⟨e,he,rfl⟩
 rw [hm] at this
 obtain ⟨e',he',hb⟩:=List.mem_map.1 this
 rw [← hb];exact h.2 e' he'
theorem wG.eraseIdx {es:List MapEntry} {c i:Nat} (h:wG es c):wG (es.eraseIdx i) c :=
 ⟨(List.Sublist.map _ (List.eraseIdx_sublist es i)).nodup h.1,fun e he=>h.2 e ((List.eraseIdx_sublist es i).subset he)⟩
def qx (b:Nat) (f:α→Value) (rv:Rep β) (l:List (α×β)):iE where
 claims:=[(b,0)]
 ok:=fun h m=>∃ es clock,m b=some (.map es clock)∧yt f rv h es.toList l∧wG es.toList clock
 mono:=by rintro h h' m hl ⟨es,c,e,k⟩;exact ⟨es,c,e,k.1.mono hl,k.2⟩
 frame:=fun hm ⟨es,c,e,k⟩=>⟨es,c,by rw [hm (b,0) (by simp)];exact e,k⟩
def bf (f:α→Value) (rv:Rep β) (l:List (α×β)):dY:=fun v e=>∃ b,v = .map (some b)∧e=qx b f rv l
theorem zS {T:TypeId} {f:α→Value} {rv:Rep β} {d:Nat} (hd:o.dst=some d) (ho:o.op = .makeMap T none):dQ P o N [] bg.pG [(d,some (bf f rv []))]:=by
 intro κ B F L h a w hst hn _ hdn next Q hnext _
 unfold Oper.pq
 have:(execOp a.eval o).run P w = .ok (.value (.map (some w.heap.size))) (w.alloc (.map #[] 0)):=by
  have e:(Instr.makeMap T none).run P w = .ok (.map (some w.heap.size)) (w.alloc (.map #[] 0)):=rfl
  simp only [execOp,ho,Option.map_none,Sem.run_bind,e,Result.andThen_ok,Sem.run_pure]
 rw [this]
 refine hnext _ h _ (set1 L d (qx w.heap.size f rv [])) (mX.refl h) trivial (hst.yx _ d _ (by simp [qx]) ⟨#[],0,yA _ _,trivial,by simp [wG]⟩) ?_
 rw [hd]
 exact mG ⟨_,gQ (hdn d hd),rfl⟩
theorem Vf {κ:Type} {B:Base} {h:H} {L:Nat→Option iE} {F:κ→Option iE} {w:World} (hst:St B h (Sum.elim L F) w) {s b:Nat} {f:α→Value} {rv:Rep β} {l:List (α×β)}
  (hk:L s=some (qx b f rv l)):∃ es clock,w.heap[b]? = some (.map es clock)∧yt f rv h es.toList l :=
 let ⟨es,c,h1,h2,_⟩:=(hst.own (k:=Sum.inl s) hk).2
 ⟨es,c,h1,h2⟩
theorem I4 {κ:Type} {B:Base} {h:H} {L:Nat→Option iE} {F:κ→Option iE} {w:World} (hst:St B h (Sum.elim L F) w) {s b:Nat} {f:α→Value} {rv:Rep β} {l:List (α×β)}
  (hk:L s=some (qx b f rv l)):∃ es clock,w.heap[b]? = some (.map es clock)∧yt f rv h es.toList l∧wG es.toList clock:=(hst.own (k:=Sum.inl s) hk).2
section
variable [DecidableEq α]
theorem Gy {f:α→Value} {rv:Rep β} {h:H} {d:TypeDesc} (hd:∀ x y,Instr.sameNow d (f x) (f y)=some (decide (x=y))) (x:α):∀ {es:List MapEntry} {l:List (α×β)} (n:Nat),yt f rv h es l →
    (Instr.findNow d (f x) es n=some none∧mJ l x=false∧(∀ z,iC z l x=z)∧∀ y,oZ l x y=l ++ [(x,y)]) ∨
    ∃ i e0,Instr.findNow d (f x) es n=some (some (n+i,e0.val))∧es[i]? = some e0∧e0.key=f x∧mJ l x=true∧(∀ z,rv.val h e0.val (iC z l x)) ∧
      ∀ g y,(∀ e,(g e).key=e.key)→(∀ e,rv.val h (g e).val y)→yt f rv h (es.modify i g) (oZ l x y)
  | [],[],_,_=>.inl ⟨rfl,rfl,fun _=>rfl,fun _=>rfl⟩
  | e :: es,p :: l,n,⟨⟨hk,hv⟩,hr⟩=>by
    by_cases hx:x=p.1
    · refine .inr ⟨0, e, ?_, rfl, by rw [hk, hx], by simp [mJ, hx], fun z => by simpa [iC, hx] using hv, fun g y hg hy => ?_⟩
      · simp only [Instr.findNow,hk,hd,hx,decide_true];rfl
      · simp only [List.modify_zero_cons,oZ,hx,decide_true,cond_true]
        exact ⟨⟨by rw [hg,hk],hy e⟩,hr⟩
    · have hn:∀ r,Instr.findNow d (f x) es (n+1)=r→Instr.findNow d (f x) (e :: es) n=r:=fun r h=>by
        simp only [Instr.findNow,hk,hd]
        rw [show decide (x=p.1)=false from decide_eq_false hx];exact h
      rcases Gy hd x (n+1) hr with ⟨h1,h2,h3,h4⟩ | ⟨i,e0,h1,h2,h3,h4,h5,h6⟩
      · refine .inl ⟨hn _ h1,by simp [mJ,hx,h2],fun z=>by simp [iC,hx,h3],fun y=>by simp [oZ,hx,h4]⟩
      · refine .inr ⟨i + 1, e0, hn _ (by rw [h1]; congr 3; omega), by simpa using h2, h3, by simp [mJ, h4], fun z => by simpa [iC, hx] using h5 z, fun g y hg hy => ?_⟩
        simp only [List.modify_succ_cons,oZ,hx,decide_false,cond_false]
        exact ⟨⟨hk,hv⟩,h6 g y hg hy⟩

theorem run_findKey {K:TypeId} {d:TypeDesc} {u:Value} {es:List MapEntry} {r:Option (Nat×Value)} {w:World} (hd:P.underlying K=some d) (h:Instr.findNow d u es 0=some r):(Instr.findKey K u es).run P w = .ok r w:=by
 unfold Instr.findKey
 simp only [Sem.run_bind,run_underlying hd,Result.andThen_ok,h,Sem.run_pure]
end
section
variable [DecidableEq α]
theorem JR {T K E:TypeId} {rk:Rep α} {f:α→Value} {rv:Rep β} {s:Nat} {x i:Operand} {l:List (α×β)} {y:α} (hf:yP P K rk f) (t:jW P E rv) (hT:P.underlying T=some (.map K E))
  (W:Wr) (ho:o.op = .lookup T x i false) (hx:OQ N x W s) (hi:cO N i (fV rk y)):dQ P o N [(s,W.ap (bf f rv l))] (fV rv (iC rv.zero l y)) []:=by
 intro κ B F L h a w hst hn hk _ next Q hnext _
 obtain ⟨e,hL,hq⟩:=hk.1
 obtain ⟨b,hv,rfl⟩:=Wr.iff.1 hq
 have hx':a.eval x = .map (some b):=(hx h a hn).trans hv
 have hi':=hf.is (hi h a hn)
 obtain ⟨es,clock,hb,hr⟩:=Vf hst hL
 obtain ⟨d,hd,Qz⟩:=hf.now
 rcases Gy Qz y 0 hr with ⟨h1,_,h3,_⟩ | ⟨j,e0,h1,_,_,_,h5,_⟩
 ·have:(execOp a.eval o).run P w = .ok (.value (pack rv.agg rv.zc)) w:=by
   simp [execOp,ho,hx',hi',Instr.lookup,run_underlying hT,MapKept.run_getObj_map hb,hf.chk,run_findKey hd h1,t.zero]
  unfold Oper.pq
  rw [this]
  exact hnext _ h w L (mX.refl h) ⟨rv.zc,by rw [h3];exact rv.vw h,rfl⟩ hst mD
 ·have:(execOp a.eval o).run P w = .ok (.value e0.val) w:=by
   simp [execOp,ho,hx',hi',Instr.lookup,run_underlying hT,MapKept.run_getObj_map hb,hf.chk,run_findKey hd h1]
  unfold Oper.pq
  rw [this]
  exact hnext _ h w L (mX.refl h) (h5 _) hst mD
theorem OV {T K E:TypeId} {rk:Rep α} {f:α→Value} {rv:Rep β} {s:Nat} {x i:Operand} {l:List (α×β)} {y:α} (hf:yP P K rk f) (t:jW P E rv) (hT:P.underlying T=some (.map K E))
  (W:Wr) (ho:o.op = .lookup T x i true) (hx:OQ N x W s) (hi:cO N i (fV rk y)):dQ P o N [(s,W.ap (bf f rv l))] (CG (fV rv (iC rv.zero l y)) (fV Rep.bool (mJ l y))) []:=by
 intro κ B F L h a w hst hn hk _ next Q hnext _
 obtain ⟨e,hL,hq⟩:=hk.1
 obtain ⟨b,hv,rfl⟩:=Wr.iff.1 hq
 have hx':a.eval x = .map (some b):=(hx h a hn).trans hv
 have hi':=hf.is (hi h a hn)
 obtain ⟨es,clock,hb,hr⟩:=Vf hst hL
 obtain ⟨d,hd,Qz⟩:=hf.now
 rcases Gy Qz y 0 hr with ⟨h1,h2,h3,_⟩ | ⟨j,e0,h1,_,_,h4,h5,_⟩
 ·have:(execOp a.eval o).run P w = .ok (.value (.tuple #[pack rv.agg rv.zc,.bool false])) w:=by
   simp [execOp,ho,hx',hi',Instr.lookup,run_underlying hT,MapKept.run_getObj_map hb,hf.chk,run_findKey hd h1,t.zero]
  unfold Oper.pq
  rw [this]
  exact hnext _ h w L (mX.refl h) ⟨_,_,rfl,⟨rv.zc,by rw [h3];exact rv.vw h,rfl⟩,lK.2 (by rw [h2])⟩ hst mD
 ·have:(execOp a.eval o).run P w = .ok (.value (.tuple #[e0.val,.bool true])) w:=by
   simp [execOp,ho,hx',hi',Instr.lookup,run_underlying hT,MapKept.run_getObj_map hb,hf.chk,run_findKey hd h1]
  unfold Oper.pq
  rw [this]
  exact hnext _ h w L (mX.refl h) ⟨_,_,rfl,h5 _,lK.2 (by rw [h4])⟩ hst mD
theorem GZ {T K E:TypeId} {rk:Rep α} {f:α→Value} {rv:Rep β} {s:Nat} {x i:Operand} {l:List (α×β)} {y:α} (hf:yP P K rk f) (t:jW P E rv) (hT:P.underlying T=some (.map K E))
  (ho:o.op = .lookup T x i false) (hx:cO N x (Qm s)) (hi:cO N i (fV rk y)):dQ P o N [(s,bf f rv l)] (fV rv (iC rv.zero l y)) []:=JR hf t hT .slot ho (.slot hx) hi
theorem wS {T K E:TypeId} {rk:Rep α} {f:α→Value} {rv:Rep β} {s:Nat} {sv:Value} {x i:Operand} {l:List (α×β)} {y:α} (hf:yP P K rk f) (t:jW P E rv) (hT:P.underlying T=some (.map K E))
  (ho:o.op = .lookup T x i false) (hx:cO N x (ig sv)) (hi:cO N i (fV rk y)):dQ P o N [(s,cZ (bf f rv l) sv)] (fV rv (iC rv.zero l y)) []:=JR hf t hT (.val sv) ho (.val hx) hi
theorem D7 {T K E:TypeId} {rk:Rep α} {f:α→Value} {rv:Rep β} {s:Nat} {sv:Value} {x i:Operand} {l:List (α×β)} {y:α} (hf:yP P K rk f) (t:jW P E rv) (hT:P.underlying T=some (.map K E))
  (ho:o.op = .lookup T x i true) (hx:cO N x (ig sv)) (hi:cO N i (fV rk y)):dQ P o N [(s,cZ (bf f rv l) sv)] (CG (fV rv (iC rv.zero l y)) (fV Rep.bool (mJ l y))) []:=OV hf t hT (.val sv) ho (.val hx) hi
theorem run_keyThatStays {u:Value} {w:World} (h:Instr.sameBits 10000 u u=true):(Instr.keyThatStays u u).run P w = .ok u w:=by
 unfold Instr.keyThatStays
 rw [if_pos h];rfl
def vk (w:World) (b:Nat) (o:Obj):World:={ w with heap:=w.heap.setIfInBounds b o }
theorem JS {w:World} {b:Nat} {o o':Obj} (hb:w.heap[b]? = some o):(vk w b o').heap[b]? = some o':=by
 have:=(Array.getElem?_eq_some_iff.1 hb).1
 simp [vk,this]
theorem JU {w:World} {b i:Nat} {o':Obj} (hi:i≠b):(vk w b o').heap[i]? = w.heap[i]?:=by
 simp [vk,Ne.symm hi]
theorem E8 {T K E:TypeId} {rk:Rep α} {f:α→Value} {rv:Rep β} {s:Nat} {x i v:Operand} {l:List (α×β)} {y:α} {z:β} (hf:yP P K rk f) (hT:P.underlying T=some (.map K E)) (hd:o.dst=none)
    (W:Wr) (ho:o.op = .mapUpdate T x i v∨o.op = .insert T x i v) (hx:OQ N x W s) (hi:cO N i (fV rk y)) (hv:cO N v (fV rv z)):dQ P o N [(s,W.ap (bf f rv l))] bg.pG [(s,some (W.ap (bf f rv (oZ l y z))))]:=by
  intro κ B F L h a w hst hn hk _ next Q hnext _
  obtain ⟨e,hL,hq⟩:=hk.1
  obtain ⟨b,hvb,rfl⟩:=Wr.iff.1 hq
  have hx':a.eval x = .map (some b):=(hx h a hn).trans hvb
  have hi':=hf.is (hi h a hn)
  have hv':=hv h a hn
  obtain ⟨es,clock,hb,hr,hB⟩:=I4 hst hL
  obtain ⟨d,hdd,Qz⟩:=hf.now
  have fin:∀ es' clock',yt f rv h es'.toList (oZ l y z)→wG es'.toList clock'→(execOp a.eval o).run P w = .ok .skip (vk w b (.map es' clock'))→o.pq P a w next Q:=by
    intro es' clock' hrel hbn hrun
    unfold Oper.pq
    rw [hrun]
    refine hnext undef h _ (set1 L s (qx b f rv (oZ l y z))) (mX.refl h) trivial ?_ ?_
    · obtain ⟨hcl,_⟩:=hst.own (k:=Sum.inl s) hL
      have hno:=(hcl (b,0) (by simp [qx])).2.2
      have hlt:=(hcl (b,0) (by simp [qx])).2.1
      refine hst.step (Sum.inl s) (fun i=>i=b) (fun i hi _=>⟨_,hL,(b,0),by simp [qx],hi.symm⟩) (by simp [vk]) rfl rfl rfl (fun i _ hi=>JU hi) (mX.refl h) (fun _ _ _ _=>rfl) ?_ rf ?_
      · rintro i o' u (rfl | hi) hu
        · rw [hno o' (Nat.zero_le _)] at hu;cases hu
        · rw [hst.fresh hi] at hu;cases hu
      · intro e' he
        rw [rq he]
        refine ⟨fun c hc=>?_,es',clock',JS hb,hrel,hbn⟩
        simp only [qx,List.mem_singleton] at hc
        subst hc
        exact ⟨.inr ⟨_,hL,(b,0),by simp [qx],rfl⟩,by simpa [vk] using hlt,fun o' _=>hno o' (Nat.zero_le _)⟩
    · rw [hd]
      exact mG (Wr.iff.2 ⟨b,hvb,rfl⟩)
  rcases Gy Qz y 0 hr with ⟨h1,_,_,h4⟩ | ⟨j,e0,h1,h2,h3,_,_,h6⟩
  · refine fin (es.push { key := f y, val := a.eval v, born := clock }) (clock + 1) ?_ (by rw [Array.toList_push]; exact hB.push) ?_
    · rw [h4,Array.toList_push]
      exact yt.snoc (e:=⟨f y,a.eval v,clock⟩) (p:=(y,z)) ⟨rfl,hv'⟩ hr
    · rcases ho with ho | ho <;> simp [execOp,ho,hx',hi',Instr.mapUpdate,run_underlying hT,MapKept.run_getObj_map hb,hf.chk,run_findKey hdd h1,MapKept.run_setObj_map _ hb,vk]
  · have h2' : es[j]? = some e0 := by simpa using h2
    refine fin (es.modify j fun e=>{ e with key:=f y,val:=a.eval v }) clock ?_ (by rw [Array.toList_modify];exact hB.modify (fun _=>rfl)) ?_
    · have hkey:es.toList.modify j (fun e=>{ e with key:=f y,val:=a.eval v })=es.toList.modify j (fun e=>{ e with val:=a.eval v }):=by
        refine List.ext_getElem? fun m=>?_
        simp only [List.getElem?_modify]
        by_cases hm:j=m
        · subst hm;simp [h2',← h3]
        · simp [hm]
      rw [Array.toList_modify,hkey]
      exact h6 _ z (fun _=>rfl) (fun _=>hv')
    · rcases ho with ho | ho <;> simp [execOp,ho,hx',hi',Instr.mapUpdate,run_underlying hT,MapKept.run_getObj_map hb,hf.chk,run_findKey hdd h1,h2',h3,run_keyThatStays (hf.bits y),MapKept.run_setObj_map _ hb,vk]
theorem Gj {T K E:TypeId} {rk:Rep α} {f:α→Value} {rv:Rep β} {s:Nat} {x i v:Operand} {l:List (α×β)} {y:α} {z:β} (hf:yP P K rk f) (hT:P.underlying T=some (.map K E)) (hd:o.dst=none)
  (ho:o.op = .mapUpdate T x i v∨o.op = .insert T x i v) (hx:cO N x (Qm s)) (hi:cO N i (fV rk y)) (hv:cO N v (fV rv z)):dQ P o N [(s,bf f rv l)] bg.pG [(s,some (bf f rv (oZ l y z)))]:=E8 hf hT hd .slot ho (.slot hx) hi hv
theorem uU {T K E:TypeId} {rk:Rep α} {f:α→Value} {rv:Rep β} {s:Nat} {sv:Value} {x i v:Operand} {l:List (α×β)} {y:α} {z:β} (hf:yP P K rk f) (hT:P.underlying T=some (.map K E)) (hd:o.dst=none)
  (ho:o.op = .mapUpdate T x i v∨o.op = .insert T x i v) (hx:cO N x (ig sv)) (hi:cO N i (fV rk y)) (hv:cO N v (fV rv z)):dQ P o N [(s,cZ (bf f rv l) sv)] bg.pG [(s,some (cZ (bf f rv (oZ l y z)) sv))]:=E8 hf hT hd (.val sv) ho (.val hx) hi hv
def D8:List (α×β)→α→List (α×β)
 | [],_=>[]
 | p :: r,x=>bif decide (x=p.1) then r else p :: D8 r x
theorem OW {f:α→Value} {rv:Rep β} {h:H} {d:TypeDesc} (hd:∀ x y,Instr.sameNow d (f x) (f y)=some (decide (x=y))) (x:α):∀ {es:List MapEntry} {l:List (α×β)} (n:Nat),yt f rv h es l →
    (Instr.findNow d (f x) es n=some none∧D8 l x=l)∨∃ i v,Instr.findNow d (f x) es n=some (some (n+i,v))∧yt f rv h (es.eraseIdx i) (D8 l x)
  | [],[],_,_=>.inl ⟨rfl,rfl⟩
  | e :: es,p :: l,n,⟨⟨hk,hv⟩,hr⟩=>by
    by_cases hx:x=p.1
    · refine .inr ⟨0,e.val,?_,?_⟩
      · simp only [Instr.findNow,hk,hd,hx,decide_true];rfl
      · simpa [D8,hx] using hr
    · have hn:∀ r,Instr.findNow d (f x) es (n+1)=r→Instr.findNow d (f x) (e :: es) n=r:=fun r h=>by
        simp only [Instr.findNow,hk,hd]
        rw [show decide (x=p.1)=false from decide_eq_false hx];exact h
      rcases OW hd x (n+1) hr with ⟨h1,h2⟩ | ⟨i,v,h1,h2⟩
      · exact .inl ⟨hn _ h1,by simp [D8,hx,h2]⟩
      · refine .inr ⟨i + 1, v, hn _ (by rw [h1]; congr 3; omega), ?_⟩
        simp only [List.eraseIdx_cons_succ,D8,hx,decide_false,cond_false]
        exact ⟨⟨hk,hv⟩,h2⟩
theorem QA {T K E:TypeId} {rk:Rep α} {f:α→Value} {rv:Rep β} {s:Nat} {x i:Operand} {l:List (α×β)} {y:α} {ts:Array TypeId} (hf:yP P K rk f) (hT:P.underlying T=some (.map K E)) (hts:ts[0]? = some T) (W:Wr)
    (ho:o.op = .call { callee:=.builtin .delete,args:=#[x,i],argTypes:=ts }) (hx:OQ N x W s) (hi:cO N i (fV rk y)) (hds:Il o.dst s=true):dQ P o N [(s,W.ap (bf f rv l))] bg.pG [(s,some (W.ap (bf f rv (D8 l y))))]:=by
  intro κ B F L h a w hst hn hk _ next Q hnext _
  obtain ⟨e,hL,hq⟩:=hk.1
  obtain ⟨b,hvb,rfl⟩:=Wr.iff.1 hq
  have hx':a.eval x = .map (some b):=(hx h a hn).trans hvb
  have hi':=hf.is (hi h a hn)
  obtain ⟨es,clock,hb,hr,hB⟩:=I4 hst hL
  obtain ⟨d,hdd,Qz⟩:=hf.now
  have hgs:∀ v,(a.put o.dst v).gt s=a.gt s:=fun v=>wW (by
    intro hd;unfold Il at hds;rw [hd] at hds
    simp [Nat.beq_refl] at hds)
  have fin:∀ es':Array MapEntry,yt f rv h es'.toList (D8 l y)→wG es'.toList clock→(execOp a.eval o).run P w = .ok (.value (.tuple #[])) (vk w b (.map es' clock))→o.pq P a w next Q:=by
    intro es' hrel hbn hrun
    unfold Oper.pq
    rw [hrun]
    refine hnext _ h _ (set1 L s (qx b f rv (D8 l y))) (mX.refl h) trivial ?_ ?_
    · obtain ⟨hcl,_⟩:=hst.own (k:=Sum.inl s) hL
      have hno:=(hcl (b,0) (by simp [qx])).2.2
      have hlt:=(hcl (b,0) (by simp [qx])).2.1
      refine hst.step (Sum.inl s) (fun i=>i=b) (fun i hi _=>⟨_,hL,(b,0),by simp [qx],hi.symm⟩) (by simp [vk]) rfl rfl rfl (fun i _ hi=>JU hi) (mX.refl h) (fun _ _ _ _=>rfl) ?_ rf ?_
      · rintro i o' u (rfl | hi) hu
        · rw [hno o' (Nat.zero_le _)] at hu;cases hu
        · rw [hst.fresh hi] at hu;cases hu
      · intro e' he
        rw [rq he]
        refine ⟨fun c hc=>?_,es',clock,JS hb,hrel,hbn⟩
        simp only [qx,List.mem_singleton] at hc
        subst hc
        exact ⟨.inr ⟨_,hL,(b,0),by simp [qx],rfl⟩,by simpa [vk] using hlt,fun o' _=>hno o' (Nat.zero_le _)⟩
    · refine mG ?_
      rw [hgs]
      exact Wr.iff.2 ⟨b,hvb,rfl⟩
  rcases OW Qz y 0 hr with ⟨h1,h2⟩ | ⟨j,v,h1,h2⟩
  · refine fin es (by rw [h2]; exact hr) hB ?_
    simp [execOp,ho,resolve,invoke,builtin,Builtin.delete_,hts,hx',hi',run_underlying hT,MapKept.run_getObj_map hb,hf.chk,run_findKey hdd h1,MapKept.run_setObj_map _ hb,vk]
  · rw [Nat.zero_add] at h1
    refine fin (es.eraseIdxIfInBounds j) (by rw [Array.toList_eraseIdxIfInBounds];exact h2) (by rw [Array.toList_eraseIdxIfInBounds];exact hB.eraseIdx) ?_
    simp [execOp,ho,resolve,invoke,builtin,Builtin.delete_,hts,hx',hi',run_underlying hT,MapKept.run_getObj_map hb,hf.chk,run_findKey hdd h1,MapKept.run_setObj_map _ hb,vk]
theorem Qc {T K E:TypeId} {rk:Rep α} {f:α→Value} {rv:Rep β} {s:Nat} {sv:Value} {x i:Operand} {l:List (α×β)} {y:α} {ts:Array TypeId} (hf:yP P K rk f) (hT:P.underlying T=some (.map K E)) (hts:ts[0]? = some T)
  (ho:o.op = .call { callee:=.builtin .delete,args:=#[x,i],argTypes:=ts }) (hx:cO N x (ig sv)) (hi:cO N i (fV rk y)) (hds:Il o.dst s=true):dQ P o N [(s,cZ (bf f rv l) sv)] bg.pG [(s,some (cZ (bf f rv (D8 l y)) sv))]:=QA hf hT hts (.val sv) ho (.val hx) hi hds
end
end Go.KB
namespace Go.KB
variable {P:Program} {o:Oper} {N:List (Nat×bg)} {α β:Type}
def Vg (r:Rep α) (h:H) (v:Value):Option α→Prop
 | none=>v = .pointer none
 | some x=>∃ b off,v = .pointer (some ⟨b,off,none⟩)∧yj r h b off x
def Rep.ptr (r:Rep α):Rep (Option α) where
 sz:=1
 agg:=false
 rel:=fun h cs x=>∃ v,cs=[v]∧Vg r h v x
 zero:=none
 zc:=[.pointer none]
 one:=fun _=>rfl
 len:=fun ⟨v,e,_⟩=>by rw [e];rfl
 flat:=fun {h cs x} ⟨v,e,k⟩ c hc=>by
  rw [e] at hc;simp at hc;rw [hc]
  cases x with
  | none=>rw [show v=_ from k];rfl
  | some x=>obtain ⟨b,off,rfl,_⟩:=k;rfl
 mono:=fun {h h' cs x} hl ⟨v,e,k⟩=>⟨v,e,by
  cases x with
  | none=>exact k
  | some x=>obtain ⟨b,off,e,k⟩:=k;exact ⟨b,off,e,k.mono hl⟩⟩
 vw:=fun _=>⟨_,rfl,rfl⟩
theorem RJ {r:Rep α} {h:H} {v:Value} {x:Option α}:(Rep.ptr r).val h v x↔Vg r h v x :=
 ⟨fun ⟨_,⟨v',e,k⟩,e'⟩=>by rw [e',e];exact k,fun k=>⟨[v],⟨v,rfl,k⟩,rfl⟩⟩
theorem Jl {r:Rep α}:cO N (.const (.pointer none)) (fV (Rep.ptr r) none):=fun _ _ _=>RJ.2 rfl
theorem PY {T T':TypeId} {r:Rep α} {x:Operand} {q:Option α} (hT:P.underlying T=some (.pointer (P.pointee T))) (ho:o.op = .binOp .eql T x (.const (.pointer none)) T') (hx:cO N x (fV (Rep.ptr r) q)):dQ P o N [] (fV Rep.bool q.isNone) [] :=
 dQ.qU fun h a w _ n=>by
  have hg:∀ p,(eqGuard .eql T x (.const (.pointer none)) (.pointer p) (.pointer none)).run P w = .ok () w:=by
   intro p;unfold eqGuard;rfl
  have hv:=RJ.1 (hx h a n)
  cases q with
  | none =>
   have hv:a.eval x = .pointer none:=hv
   exact ⟨.bool true,by simp only [execOp,ho,hv,show a.eval (.const (.pointer none)) = .pointer none from rfl,hg,Sem.run_bind,Result.andThen_ok,Sem.run_pure,run_eql_pointer_nil w T none hT];rfl,lK.2 rfl⟩
  | some y =>
   obtain ⟨b,off,hv,_⟩:=hv
   exact ⟨.bool false,by simp only [execOp,ho,hv,show a.eval (.const (.pointer none)) = .pointer none from rfl,hg,Sem.run_bind,Result.andThen_ok,Sem.run_pure,run_eql_pointer_nil w T (some ⟨b,off,none⟩) hT];rfl,lK.2 rfl⟩
end Go.KB
namespace Go.KB
variable {P:Program} {o:Oper} {N:List (Nat×bg)} {α β:Type}
theorem LC {s i:Nat} {ι:Type} {q0 q0':dY} {q q':ι→dY} {fx:bg} {f:FuncId} {fn:Func} {args:List bg} {post:bg} {xs:Array Operand} {ts:Array TypeId} {y:Operand}
  (hc:∀ k,Rq P f args i (q k) (q' k) post) (hb:D6 s fx q0 q0' q q') (hfx:fx.dep=some s) (hf:P.funcs[f]? = some fn) (hbd:sH fn=true) (hd:oK (post :: args)=true) (hds:Il o.dst s=true)
  (ho:o.op = .call { callee:=.value (.func f),args:=xs,argTypes:=ts }) (hy:xs.toList[i]? = some y) (hyx:cO N y fx) (hargs:uH N args xs.toList):dQ P o N [(s,q0)] bg.pG [(s,some q0')] :=
 dQ.out (mV hd post List.mem_cons_self) (fun _ _ _ _=>trivial) (Vh hc hb hfx hf hbd hd hds ho hy hyx hargs)
end Go.KB
namespace Go.KB
variable {P:Program} {o:Oper} {N:List (Nat×bg)} {α β:Type}
theorem JV (z:Array Value) (n:Nat):(Builtin.zeroCells z (n+1)).toList=z.toList ++ (Builtin.zeroCells z n).toList:=by
  unfold Builtin.zeroCells
  simp only [Array.toList_map,Array.toList_range]
  rw [show (n+1) * z.size=z.size+n * z.size by rw [Nat.add_mul];omega,List.range_add,List.map_append,List.map_map]
  congr 1
  · refine List.ext_getElem (by simp) fun i h1 h2 => ?_
    have hi:i<z.size:=by simpa using h2
    simp [Nat.mod_eq_of_lt hi,hi]
  · refine List.map_congr_left fun i _ => ?_
    simp
theorem Ef (z:List Value):∀ n,(Builtin.zeroCells z.toArray n).toList=(List.replicate n z).flatten
 | 0=>by simp [Builtin.zeroCells]
 | n+1=>by rw [JV,Ef z n,List.replicate_succ,List.flatten_cons]
end Go.KB
namespace Go.KB
section
variable {P:Program} {o:Oper} {N:List (Nat×bg)} {α:Type}
theorem bM {T:TypeId} {r:Rep α} {s:Nat} {y:α} (t:jW P T r) (ho:o.op = .load T (.tmp s)):dQ P o ((s,cu r y) :: N) [] (fV r y) []:=iI t ho ax
theorem dS {β:Type} {T:TypeId} {r:Rep α} {q:Rep β} {s:Nat} {y:α} {i off:Nat} {get:α→β} {set:α→β→α} (l:Lens r q off get set) (hf:dh P T i off) (ho:o.op = .fieldAddr T (.tmp s) i):dQ P o ((s,cu r y) :: N) [] (cu q (get y)) []:=iw l hf ho ax
theorem iy {T:TypeId} {r:Rep α} {s v:Nat} {y z:α} (t:jW P T r) (ho:o.op = .store T (.tmp s) (.tmp v)) (hd:o.dst=none:=by rfl):dQ P o ((v,fV r z) :: N) [(s,bJ T r y)] bg.pG [(s,some (bJ T r z))]:=OX t hd ho ax
def Vj:BinOp→Bool
 | .eql | .neq | .lss | .leq | .gtr | .geq=>true
 | _=>false
theorem JW {op:BinOp} (h:Vj op=true):op = .eql∨op = .neq∨op = .lss∨op = .leq∨op = .gtr∨op = .geq:=by
 cases op <;> first | (cases h;done) | simp
theorem jq {op:BinOp} {k:IntKind} {T T':TypeId} {s:Nat} {m n:Int} (ho:o.op = .binOp op T (.tmp s) (.const (.int k n)) T') (hop:Vj op=true:=by rfl):dQ P o ((s,fV (Rep.int k) m) :: N) [] (fV Rep.bool (aV op m n)) []:=eP (JW hop) rfl ho ax bI
theorem kQ {op:BinOp} {k:IntKind} {T T':TypeId} {s t:Nat} {m n:Int} (ho:o.op = .binOp op T (.tmp s) (.tmp t) T') (hop:Vj op=true:=by rfl):dQ P o ((s,fV (Rep.int k) m) :: (t,fV (Rep.int k) n) :: N) [] (fV Rep.bool (aV op m n)) []:=eP (JW hop) rfl ho ax aJ
theorem lg {α β γ:Type} {x:Option α} {f:α→Option β} {g:α→β→Option γ} {r:γ} (h:(x.bind fun a=>(f a).bind (g a))=some r):∃ a,x=some a∧∃ b,f a=some b∧g a b=some r:=by
 obtain ⟨a,h1,h⟩:=aZ h
 obtain ⟨b,h2,h⟩:=aZ h
 exact ⟨a,h1,b,h2,h⟩
theorem tn {K:Act→World→Prop} {Q:Exit→Act→World→Prop} {a:Act} {w:World} (h:K a w):Exit.then K Q .normal a w:=h
theorem tr {K:Act→World→Prop} {Q:Exit→Act→World→Prop} {a:Act} {w:World} (h:Q .ret a w):Exit.then K Q .ret a w:=h
theorem ws {ρ:Option Nat} {Q:Exit→Act→World→Prop} {a:Act} {w:World} {x y:Code} (h:x.pq ρ P (Exit.then (y.pq ρ P Q) Q) a w):(Code.seq x y).pq ρ P Q a w:=wp_seq h
theorem wk {ρ:Option Nat} {Q:Exit→Act→World→Prop} {a:Act} {w:World} (h:Q .normal a w):Code.skip.pq ρ P Q a w:=wp_skip h
theorem wr {ρ:Option Nat} {Q:Exit→Act→World→Prop} {a:Act} {w:World} (h:Q .ret a w):Code.ret.pq ρ P Q a w:=wp_ret h
abbrev ln {α:Type} (l:List α):Int:=(List.length l:Int)
abbrev w3:Int→Int:=IntKind.u32.wrap
abbrev w1:Int→Int:=IntKind.u16.wrap
abbrev lS {α:Type} (r:Rep α):Rep (List α):=Rep.slice r
end
end Go.KB
