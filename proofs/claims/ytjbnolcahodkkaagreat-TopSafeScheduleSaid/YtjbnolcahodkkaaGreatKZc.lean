/- Variables whose fields are rows that are appended to. Fields of values; values whose fields are nil, and variables that take them. Maps that are owned: made, looked into, written. Pointers that are only read, nil among them; texts as rows of bytes. Functions that take a row over and hand a row back. Rows that grow from nothing: cap, cuts and appends of zeros at nil. Arrays: slices of arrays that are not written any more, elements of arrays. No condition. -/
import Derived.Test.YtjbnolcahodkkaaGreatKZb
import Derived.MapKept
import Derived.Laws.Pointers
import Derived.Lib.ConvBytes
import Derived.Lib.AppendZeros
namespace Go.KB
variable {P:Program} {o:Oper} {N:List (Nat×bF)} {f:bF} {α β:Type}
inductive Wr where
 | slot
 | val (sv:Value)
def iI (q:gG) (sv:Value):gG:=fun _ e=>q sv e
def Wr.ap (W:Wr) (q:gG):gG:=match W with | .slot=>q | .val sv=>iI q sv
def Wr.v (W:Wr) (a:Act) (g:Nat):Value:=match W with | .slot=>a.gt g | .val sv=>sv
theorem Wr.iff {W:Wr} {q:gG} {a:Act} {g:Nat} {e:iM}:W.ap q (a.gt g) e↔q (W.v a g) e:=by cases W <;> rfl
def WQ (N:List (Nat×bF)) (x:Operand) (W:Wr) (g:Nat):Prop:=∀ h a,Iu N h a→a.eval x=W.v a g
theorem WQ.slot {x:Operand} {g:Nat} (hx:di N x (Uh g)):WQ N x .slot g:=fun h a n=>hx h a n
theorem WQ.val {x:Operand} {g:Nat} {sv:Value} (hx:di N x (jh sv)):WQ N x (.val sv) g:=fun h a n=>hx h a n
theorem Wr.v_put {W:Wr} {a:Act} {s d:Nat} {v:Value} (h:s≠d):W.v (a.put (some d) v) s=W.v a s:=by
 cases W with
 | slot=>exact Pv h
 | val sv=>rfl
def WR (N:List (Nat×bF)) (x:Operand) (W:Wr) (s off:Nat):Prop:=∀ h a,Iu N h a→∃ b,W.v a s = .pointer (some ⟨b,0,none⟩)∧a.eval x = .pointer (some ⟨b,off,none⟩)
def Dq (sv:Value) (off:Nat):bF:=⟨none,fun _ _ v=>∃ b,sv = .pointer (some ⟨b,0,none⟩)∧v = .pointer (some ⟨b,off,none⟩),fun _ x=>x⟩
theorem WR.slot {x:Operand} {s off:Nat} (hx:di N x (Dt s off)):WR N x .slot s off:=fun h a n=>hx h a n
theorem WR.val {x:Operand} {s off:Nat} {sv:Value} (hx:di N x (Dq sv off)):WR N x (.val sv) s off:=fun h a n=>hx h a n
structure fE where
 off:Nat
 E:TypeId
 sz:Nat
def xJ:List fE→List (Nat×Value×iM)→Prop
 | [],[]=>True
 | t :: ts,u :: us=>(u.1=t.off∧dR t.E t.sz u.2.1 u.2.2)∧xJ ts us
 | _,_=>False
theorem xJ.mid {t:fE} {l2:List fE}:∀ {l1:List fE} {us:List (Nat×Value×iM)},xJ (l1 ++ t :: l2) us →
  ∃ sG u vO,us=sG ++ u :: vO∧u.1=t.off∧dR t.E t.sz u.2.1 u.2.2∧xJ l1 sG∧xJ l2 vO:=by
 intro l1
 induction l1 with
 | nil =>
  intro us h
  cases us with
  | nil=>exact h.elim
  | cons u us=>exact ⟨[],u,us,rfl,h.1.1,h.1.2,trivial,h.2⟩
 | cons t1 l1 ih =>
  intro us h
  cases us with
  | nil=>exact h.elim
  | cons u0 us =>
   obtain ⟨sG,u,vO,rfl,h1,h2,h3,h4⟩:=ih h.2
   exact ⟨u0 :: sG,u,vO,rfl,h1,h2,⟨h.1,h3⟩,h4⟩
theorem xJ.app {l2:List fE} {vO:List (Nat×Value×iM)} (h2:xJ l2 vO):∀ {l1:List fE} {sG:List (Nat×Value×iM)},xJ l1 sG→xJ (l1 ++ l2) (sG ++ vO):=by
 intro l1
 induction l1 with
 | nil =>
  intro sG h
  cases sG with
  | nil=>exact h2
  | cons u us=>exact h.elim
 | cons t1 l1 ih =>
  intro sG h
  cases sG with
  | nil=>exact h.elim
  | cons u0 us=>exact ⟨h.1,ih h.2⟩
theorem xJ.offs:∀ {l:List fE} {us:List (Nat×Value×iM)},xJ l us→∀ u ∈ us,∃ t ∈ l,u.1=t.off:=by
 intro l
 induction l with
 | nil =>
  intro us h u hu
  cases us with
  | nil=>cases hu
  | cons _ _=>exact h.elim
 | cons t l ih =>
  intro us h u hu
  cases us with
  | nil=>exact h.elim
  | cons u0 us =>
   rcases List.mem_cons.1 hu with rfl | hu
   ·exact ⟨t,List.mem_cons_self,h.1.1⟩
   ·obtain ⟨t',ht',e⟩:=ih h.2 u hu
    exact ⟨t',List.mem_cons_of_mem _ ht',e⟩
theorem xJ.cut {l2:List fE}:∀ {l1:List fE} {us:List (Nat×Value×iM)},xJ (l1 ++ l2) us→∃ sG vO,us=sG ++ vO∧xJ l1 sG∧xJ l2 vO:=by
 intro l1
 induction l1 with
 | nil=>intro us h;exact ⟨[],us,rfl,trivial,h⟩
 | cons t1 l1 ih =>
  intro us h
  cases us with
  | nil=>exact h.elim
  | cons u0 us =>
   obtain ⟨sG,vO,rfl,h3,h4⟩:=ih h.2
   exact ⟨u0 :: sG,vO,rfl,⟨h.1,h3⟩,h4⟩
def Hr (a b:List (Nat×Nat)):Prop:=∀ c ∈ a,∀ c' ∈ b,c.1≠c'.1
def BoxOk (b:Nat) (us:List (Nat×Value×iM)):Prop:=(us.map (fun u=>u.2.2.claims)).Pairwise Hr∧∀ u ∈ us,∀ c ∈ u.2.2.claims,c.1≠b
def QC (us:List (Nat×Value×iM)):List (Nat×Nat):=us.flatMap (fun u=>u.2.2.claims)
def oq (b:Nat) (T:TypeId) (r:Rep α) (x:α) (us:List (Nat×Value×iM)):iM where
 claims:=(b,0) :: QC us
 ok:=fun h m=>(∃ cs,m b=some (.cells cs.toArray T (0,0))∧r.rel h cs x∧∀ u ∈ us,cs[u.1]? = some u.2.1)∧∀ u ∈ us,u.2.2.ok h m
 mono:=by
  intro h h' m hl ⟨⟨cs,e,k,l⟩,q⟩
  exact ⟨⟨cs,e,r.mono hl k,l⟩,fun u hu=>u.2.2.mono hl (q u hu)⟩
 frame:=by
  intro h m m' hm ⟨⟨cs,e,k,l⟩,q⟩
  refine ⟨⟨cs,by rw [hm (b,0) (by simp)];exact e,k,l⟩,fun u hu=>u.2.2.frame (fun c hc=>hm c ?_) (q u hu)⟩
  exact List.mem_cons_of_mem _ (List.mem_flatMap.2 ⟨u,hu,hc⟩)
def gQ (T:TypeId) (r:Rep α) (x:α) (ts:List fE):gG:=fun v e=>∃ b us,v = .pointer (some ⟨b,0,none⟩)∧xJ ts us∧BoxOk b us∧e=oq b T r x us
theorem St.split2 {κ:Type} {B:Base} {h:H} {L:Nat→Option iM} {F:κ→Option iM} {w:World} (hst:St B h (Sum.elim L F) w) {s d:Nat} {e e1 e2:iM} (hL:L s=some e) (_:s≠d)
    (h1:∀ c ∈ e1.claims,c ∈ e.claims) (h2:∀ c ∈ e2.claims,c ∈ e.claims) (hd:Hr e1.claims e2.claims) (k1:e1.ok h (World.mem w)) (k2:e2.ok h (World.mem w)) :
    St B h (Sum.elim (set1 (set1 L s e1) d e2) F) w:=by
  obtain ⟨hcl,_⟩:=hst.own (k:=Sum.inl s) hL
  have hval:∀ k e',set1 (set1 L s e1) d e2 k=some e'→(k=d∧e'=e2)∨(k=s∧e'=e1)∨(k≠s∧k≠d∧L k=some e'):=by
    intro k e' hk
    unfold set1 at hk
    split at hk
    · rename_i hkd;exact .inl ⟨hkd,(Option.some.inj hk).symm⟩
    · rename_i hkd
      split at hk
      · rename_i hks;exact .inr (.inl ⟨hks,(Option.some.inj hk).symm⟩)
      · rename_i hks;exact .inr (.inr ⟨hks,hkd,hk⟩)
  refine ⟨hst.low,hst.base,fun x=>hst.ext x,?_,?_,hst.mark,fun x i y=>hst.nf x i y⟩
  · intro k e' hk
    cases k with
    | inr k=>exact hst.own (k:=Sum.inr k) hk
    | inl k =>
      rcases hval k e' hk with ⟨_,rfl⟩ | ⟨_,rfl⟩ | ⟨_,_,hk⟩
      · exact ⟨fun c hc=>hcl c (h2 c hc),k2⟩
      · exact ⟨fun c hc=>hcl c (h1 c hc),k1⟩
      · exact hst.own (k:=Sum.inl k) hk
  · have other : ∀ (k : Nat ⊕ κ) e', Sum.elim L F k = some e' → k ≠ Sum.inl s → ∀ c ∈ e.claims, ∀ c' ∈ e'.claims, c.1 ≠ c'.1 := fun k e' hk hne => hst.zo (k := Sum.inl s) hL hk (Ne.symm hne)
    intro k k' a a' hk hk' hne c hc c' hc'
    cases k with
    | inr k =>
      cases k' with
      | inr k'=>exact hst.zo (k:=Sum.inr k) (k':=Sum.inr k') hk hk' hne c hc c' hc'
      | inl k' =>
        rcases hval k' a' hk' with ⟨_,rfl⟩ | ⟨_,rfl⟩ | ⟨h3,_,hk'⟩
        · exact (other (.inr k) a hk (by simp) c' (h2 _ hc') c hc).symm
        · exact (other (.inr k) a hk (by simp) c' (h1 _ hc') c hc).symm
        · exact hst.zo (k:=Sum.inr k) (k':=Sum.inl k') hk hk' (by simp) c hc c' hc'
    | inl k =>
      cases k' with
      | inr k' =>
        rcases hval k a hk with ⟨_,rfl⟩ | ⟨_,rfl⟩ | ⟨h3,_,hk⟩
        · exact other (.inr k') a' hk' (by simp) c (h2 _ hc) c' hc'
        · exact other (.inr k') a' hk' (by simp) c (h1 _ hc) c' hc'
        · exact hst.zo (k:=Sum.inl k) (k':=Sum.inr k') hk hk' (by simp) c hc c' hc'
      | inl k' =>
        have hne':k≠k':=fun x=>hne (by rw [x])
        rcases hval k a hk with ⟨e3,rfl⟩ | ⟨e3,rfl⟩ | ⟨h3,h4,hk2⟩ <;> rcases hval k' a' hk' with ⟨e4,rfl⟩ | ⟨e4,rfl⟩ | ⟨h5,h6,hk2'⟩
        · exact absurd (e3.trans e4.symm) hne'
        · exact (hd c' hc' c hc).symm
        · exact other (.inl k') a' hk2' (fun x=>h5 (Sum.inl.inj x)) c (h2 _ hc) c' hc'
        · exact hd c hc c' hc'
        · exact absurd (e3.trans e4.symm) hne'
        · exact other (.inl k') a' hk2' (fun x=>h5 (Sum.inl.inj x)) c (h1 _ hc) c' hc'
        · exact (other (.inl k) a hk2 (fun x=>h3 (Sum.inl.inj x)) c' (h2 _ hc') c hc).symm
        · exact (other (.inl k) a hk2 (fun x=>h3 (Sum.inl.inj x)) c' (h1 _ hc') c hc).symm
        · exact hst.zo (k:=Sum.inl k) (k':=Sum.inl k') hk2 hk2' (fun x=>hne' (Sum.inl.inj x)) c hc c' hc'
def DK (L:Nat→Option iM) (s d:Nat) (e:iM):Nat→Option iM:=fun k=>if k=d then none else if k=s then some e else L k
theorem St.DK {κ:Type} {B:Base} {h:H} {L:Nat→Option iM} {F:κ→Option iM} {w:World} (hst:St B h (Sum.elim L F) w) {s d:Nat} {e e1 e2:iM} (hL:L s=some e1) (hL2:L d=some e2)
  (hc:∀ c ∈ e.claims,c ∈ e1.claims∨c ∈ e2.claims) (ho:e.ok h (World.mem w)):St B h (Sum.elim (DK L s d e) F) w:=by
 obtain ⟨hcl1,_⟩:=hst.own (k:=Sum.inl s) hL
 obtain ⟨hcl2,_⟩:=hst.own (k:=Sum.inl d) hL2
 have hval:∀ k e',KB.DK L s d e k=some e'→(k=s∧e'=e)∨(k≠s∧k≠d∧L k=some e'):=by
  intro k e' hk
  unfold KB.DK at hk
  split at hk
  ·cases hk
  ·rename_i hkd
   split at hk
   ·rename_i hks;exact .inl ⟨hks,(Option.some.inj hk).symm⟩
   ·rename_i hks;exact .inr ⟨hks,hkd,hk⟩
 refine ⟨hst.low,hst.base,fun x=>hst.ext x,?_,?_,hst.mark,fun x i y=>hst.nf x i y⟩
 ·intro k e' hk
  cases k with
  | inr k=>exact hst.own (k:=Sum.inr k) hk
  | inl k =>
   rcases hval k e' hk with ⟨_,rfl⟩ | ⟨_,_,hk⟩
   ·exact ⟨fun c hcc=>(hc c hcc).elim (hcl1 c) (hcl2 c),ho⟩
   ·exact hst.own (k:=Sum.inl k) hk
 ·have other:∀ (k:Nat ⊕ κ) e',Sum.elim L F k=some e'→k≠Sum.inl s→k≠Sum.inl d→∀ c ∈ e.claims,∀ c' ∈ e'.claims,c.1≠c'.1:=by
   intro k e' hk hn1 hn2 c hcc
   rcases hc c hcc with h1 | h1
   ·exact hst.zo (k:=Sum.inl s) hL hk (Ne.symm hn1) c h1
   ·exact hst.zo (k:=Sum.inl d) hL2 hk (Ne.symm hn2) c h1
  intro k k' a a' hk hk' hne c hcc c' RZ
  cases k with
  | inr k =>
   cases k' with
   | inr k'=>exact hst.zo (k:=Sum.inr k) (k':=Sum.inr k') hk hk' hne c hcc c' RZ
   | inl k' =>
    rcases hval k' a' hk' with ⟨_,rfl⟩ | ⟨h3,_,hk'⟩
    ·exact (other (.inr k) a hk (by simp) (by simp) c' RZ c hcc).symm
    ·exact hst.zo (k:=Sum.inr k) (k':=Sum.inl k') hk hk' (by simp) c hcc c' RZ
  | inl k =>
   cases k' with
   | inr k' =>
    rcases hval k a hk with ⟨_,rfl⟩ | ⟨h3,_,hk⟩
    ·exact other (.inr k') a' hk' (by simp) (by simp) c hcc c' RZ
    ·exact hst.zo (k:=Sum.inl k) (k':=Sum.inr k') hk hk' (by simp) c hcc c' RZ
   | inl k' =>
    have hne':k≠k':=fun x=>hne (by rw [x])
    rcases hval k a hk with ⟨e3,rfl⟩ | ⟨h3,h4,hk2⟩ <;> rcases hval k' a' hk' with ⟨e4,rfl⟩ | ⟨h5,h6,hk2'⟩
    ·exact absurd (e3.trans e4.symm) hne'
    ·exact other (.inl k') a' hk2' (fun x=>h5 (Sum.inl.inj x)) (fun x=>h6 (Sum.inl.inj x)) c hcc c' RZ
    ·exact (other (.inl k) a hk2 (fun x=>h3 (Sum.inl.inj x)) (fun x=>h4 (Sum.inl.inj x)) c' RZ c hcc).symm
    ·exact hst.zo (k:=Sum.inl k) (k':=Sum.inl k') hk2 hk2' (fun x=>hne' (Sum.inl.inj x)) c hcc c' RZ
theorem FD {κ:Type} {B:Base} {h:H} {L:Nat→Option iM} {F:κ→Option iM} {w:World} (hst:St B h (Sum.elim L F) w) {s b:Nat} {T:TypeId} {r:Rep α} {x:α} {us:List (Nat×Value×iM)}
  (hk:L s=some (oq b T r x us)):(∃ cs,w.heap[b]? = some (.cells cs.toArray T (0,0))∧r.rel h cs x∧∀ u ∈ us,cs[u.1]? = some u.2.1)∧∀ u ∈ us,u.2.2.ok h (World.mem w):=(hst.own (k:=Sum.inl s) hk).2
theorem vU {T T':TypeId} {r:Rep α} {y:α} {ts:List fE} {s i off:Nat} (hf:bT P T i off) (ho:o.op = .fieldAddr T (.tmp s) i):eG P o N [(s,gQ T' r y ts)] (Dt s off) []:=by
 intro κ B F L h a w hst hn hk _ next Q hnext _
 obtain ⟨e,_,b,us,hv,_⟩:=hk.1
 unfold Oper.sF
 have hv':a.eval (.tmp s) = .pointer (some ⟨b,0,none⟩):=hv
 have:(execOp a.eval o).run P w = .ok (.value (.pointer (some ⟨b,off,none⟩))) w:=by simp [execOp,ho,hv',hf b 0 w]
 rw [this]
 exact hnext _ h w L (og.refl h) ⟨b,hv,rfl⟩ hst nR
theorem gq {T T':TypeId} {r:Rep α} {y:α} {ts:List fE} {s i off:Nat} {sv:Value} {x:Operand} (hf:bT P T i off) (ho:o.op = .fieldAddr T x i) (hx:di N x (jh sv)):eG P o N [(s,iI (gQ T' r y ts) sv)] (Dq sv off) []:=by
 intro κ B F L h a w hst hn hk _ next Q hnext _
 obtain ⟨e,_,b,us,hv,_⟩:=hk.1
 have hv':a.eval x = .pointer (some ⟨b,0,none⟩):=(hx h a hn:a.eval x=sv).trans hv
 unfold Oper.sF
 have:(execOp a.eval o).run P w = .ok (.value (.pointer (some ⟨b,off,none⟩))) w:=by simp [execOp,ho,hv',hf b 0 w]
 rw [this]
 exact hnext _ h w L (og.refl h) ⟨b,hv,rfl⟩ hst nR
theorem yN {T:TypeId} {i off off':Nat} {sv:Value} {x:Operand} (hf:bT P T i off) (ho:o.op = .fieldAddr T x i) (hx:di N x (Dq sv off')):eG P o N [] (Dq sv (off'+off)) [] :=
 eG.xA fun h a w _ q=>by
  obtain ⟨b,hd,hv⟩:=hx h a q
  exact ⟨.pointer (some ⟨b,off'+off,none⟩),by simp [execOp,ho,hv,hf b off' w],b,hd,rfl⟩
theorem di.off0 {T':TypeId} {r:Rep α} {y:α} {ts:List fE} {sv:Value} {x:Operand} {h:H} {a:Act} {e:iM} (hx:di N x (jh sv)) (hn:Iu N h a) (hk:gQ T' r y ts sv e):∃ b,sv = .pointer (some ⟨b,0,none⟩)∧a.eval x = .pointer (some ⟨b,0,none⟩):=by
 obtain ⟨b,us,hv,_⟩:=hk
 exact ⟨b,hv,(hx h a hn:a.eval x=sv).trans hv⟩
theorem OA {T T':TypeId} {r:Rep α} {q:Rep β} {ts:List fE} {s off:Nat} {x:Operand} {y:α} {get:α→β} {set:α→β→α} (l:Lens r q off get set) (t:jw P T q) (W:Wr) (ho:o.op = .load T x) (hx:WR N x W s off) :
  eG P o N [(s,W.ap (gQ T' r y ts))] (fV q (get y)) []:=by
 intro κ B F L h a w hst hn hk _ next Q hnext _
 obtain ⟨b,hd,hv⟩:=hx h a hn
 obtain ⟨e,hL,hqW⟩:=hk.1
 obtain ⟨b',us,hv',_,_,rfl⟩:=Wr.iff.1 hqW
 have hd':W.v a s = .pointer (some ⟨b,0,none⟩):=hd
 rw [hd'] at hv';cases hv'
 obtain ⟨⟨cs,hb,hr,_⟩,_⟩:=FD hst hL
 obtain ⟨c,hc,hrun⟩:=Am t l hb hr
 unfold Oper.sF
 have:(execOp a.eval o).run P w = .ok (.value (pack q.agg c)) w:=by simp [execOp,ho,hv,hrun]
 rw [this]
 exact hnext _ h w L (og.refl h) ⟨c,hc,rfl⟩ hst nR
theorem Df {T T':TypeId} {r:Rep α} {q:Rep β} {ts:List fE} {s off:Nat} {x:Operand} {y:α} {get:α→β} {set:α→β→α} (l:Lens r q off get set) (t:jw P T q) (ho:o.op = .load T x) (hx:di N x (Dt s off)) :
  eG P o N [(s,gQ T' r y ts)] (fV q (get y)) []:=OA l t .slot ho (.slot hx)
theorem iQ {sv:Value} {T T':TypeId} {r:Rep α} {q:Rep β} {ts:List fE} {s off:Nat} {x:Operand} {y:α} {get:α→β} {set:α→β→α} (l:Lens r q off get set) (t:jw P T q) (ho:o.op = .load T x) (hx:di N x (Dq sv off)) :
  eG P o N [(s,iI (gQ T' r y ts) sv)] (fV q (get y)) []:=OA l t (.val sv) ho (.val hx)
theorem Wx {T T':TypeId} {r:Rep α} {ts:List fE} {s:Nat} {y:α} (t:jw P T r) (ho:o.op = .load T (.tmp s)) :
  eG P o N [(s,gQ T' r y ts)] (fV r y) []:=by
 intro κ B F L h a w hst hn hk _ next Q hnext _
 obtain ⟨e,hL,b,us,hv,_,_,rfl⟩:=hk.1
 have hv':a.eval (.tmp s) = .pointer (some ⟨b,0,none⟩):=hv
 obtain ⟨⟨cs,hb,hr,_⟩,_⟩:=FD hst hL
 obtain ⟨c,hc,hrun⟩:=Am t (Lens.refl r) hb hr
 unfold Oper.sF
 have:(execOp a.eval o).run P w = .ok (.value (pack r.agg c)) w:=by simp [execOp,ho,hv',hrun]
 rw [this]
 exact hnext _ h w L (og.refl h) ⟨c,hc,rfl⟩ hst nR
theorem Dh {T T':TypeId} {r:Rep α} {ts:List fE} {s:Nat} {sv:Value} {y:α} {x:Operand} (t:jw P T r) (ho:o.op = .load T x) (hx:di N x (jh sv)) :
  eG P o N [(s,iI (gQ T' r y ts) sv)] (fV r y) []:=by
 intro κ B F L h a w hst hn hk _ next Q hnext _
 obtain ⟨e,hL,b,us,hv,_,_,rfl⟩:=hk.1
 have hv':a.eval x = .pointer (some ⟨b,0,none⟩):=(hx h a hn:a.eval x=sv).trans hv
 obtain ⟨⟨cs,hb,hr,_⟩,_⟩:=FD hst hL
 obtain ⟨c,hc,hrun⟩:=Am t (Lens.refl r) hb hr
 unfold Oper.sF
 have:(execOp a.eval o).run P w = .ok (.value (pack r.agg c)) w:=by simp [execOp,ho,hv',hrun]
 rw [this]
 exact hnext _ h w L (og.refl h) ⟨c,hc,rfl⟩ hst nR
def KJ:Value:=.slice none 0 0
def CS (cs:List Value):List fE→Prop
 | []=>True
 | t :: ts=>cs[t.off]? = some KJ∧CS cs ts
def LH (ts:List fE):List (Nat×Value×iM):=ts.map (fun t=>(t.off,KJ,sU))
theorem MJ:∀ (ts:List fE),xJ ts (LH ts)
 | []=>trivial
 | _ :: ts=>⟨⟨rfl,.inl ⟨none,0,rfl,rfl⟩⟩,MJ ts⟩
theorem MI {ts:List fE} {u:Nat×Value×iM} (hu:u ∈ LH ts):u.2.2=sU∧u.2.1=KJ:=by
 obtain ⟨t,_,rfl⟩:=List.mem_map.1 hu;exact ⟨rfl,rfl⟩
theorem Oy (b:Nat):∀ (ts:List fE),BoxOk b (LH ts)
 | []=>⟨List.Pairwise.nil,fun u hu=>by cases hu⟩
 | t :: ts=>⟨List.Pairwise.cons (fun l _ c hc=>by cases hc) (Oy b ts).1,fun u hu c hc=>by rw [(MI hu).1] at hc;cases hc⟩
theorem Ox:∀ (ts:List fE),QC (LH ts)=[]
 | []=>rfl
 | _ :: ts=>Ox ts
theorem CS.at {cs:List Value}:∀ {ts:List fE},CS cs ts→∀ u ∈ LH ts,cs[u.1]? = some u.2.1:=by
 intro ts
 induction ts with
 | nil=>intro _ u hu;cases hu
 | cons t ts ih =>
  intro h u hu
  rcases List.mem_cons.1 hu with rfl | hu
  ·exact h.1
  ·exact ih h.2 u hu
theorem Uf {T:TypeId} {r:Rep α} {d:Nat} (ts:List fE) (t:jw P T r) (hz:CS r.zc ts) (hd:o.dst=some d) (ho:o.op = .alloc T):eG P o N [] bF.uf [(d,some (gQ T r r.zero ts))]:=by
 intro κ B F L h a w hst hn _ hdn next Q hnext _
 unfold Oper.sF
 have:(execOp a.eval o).run P w = .ok (.value (.pointer (some ⟨w.heap.size,0,none⟩))) (w.alloc (.cells r.zc.toArray T)):=by
  simp [execOp,ho,Instr.alloc,t.zero,JL (r.AP h)]
 rw [this]
 refine hnext _ h _ (set1 L d (oq w.heap.size T r r.zero (LH ts))) (og.refl h) trivial (hst.DI _ d _ ?_ ⟨⟨_,DJ _ _,r.AP h,hz.at⟩,fun u hu=>by rw [(MI hu).1];trivial⟩) ?_
 ·intro c hc
  have:c ∈ (w.heap.size,0) :: QC (LH ts):=hc
  rw [Ox] at this
  simp at this;rw [this]
 rw [hd]
 exact oI ⟨_,_,iL (hdn d hd),MJ ts,Oy _ ts,rfl⟩
def apartB (off sz:Nat) (ts:List fE):Bool:=ts.all (fun t=>Nat.blt t.off off||Nat.ble (off+sz) t.off)
theorem EM {off sz:Nat} {ts:List fE} (h:apartB off sz ts=true):∀ t ∈ ts,t.off<off∨off+sz≤t.off:=by
 intro t ht
 have:=List.all_eq_true.1 h t ht
 simpa [Nat.blt_eq] using this
theorem Ul {p c c' q:List Value} {off sz i:Nat} (hp:p.length=off) (hc:c.length=sz) (hc':c'.length=sz) (h:i<off∨off+sz≤i):(p ++ c' ++ q)[i]? = (p ++ c ++ q)[i]?:=by
  rcases h with h | h
  · rw [List.append_assoc,List.append_assoc,List.getElem?_append_left (by omega),List.getElem?_append_left (by omega)]
  · rw [List.getElem?_append_right (by simp; omega), List.getElem?_append_right (by simp; omega)]
    congr 1;simp;omega
theorem jJb {h:H} {w w':World} {b:Nat} {us:List (Nat×Value×iM)} (J9:BoxOk b us) (hw:∀ i,i≠b→w'.heap[i]? = w.heap[i]?) (h2:∀ u ∈ us,u.2.2.ok h (World.mem w)):∀ u ∈ us,u.2.2.ok h (World.mem w') :=
 fun u hu=>u.2.2.frame (fun c hc=>hw c.1 (J9.2 u hu c hc)) (h2 u hu)
theorem BoxOk.sub {b:Nat} {us Ve:List (Nat×Value×iM)} (h:Ve.Sublist us) (hb:BoxOk b us):BoxOk b Ve :=
 ⟨hb.1.sublist (h.map _),fun u hu=>hb.2 u (h.subset hu)⟩
theorem WS {us Ve:List (Nat×Value×iM)} (h:Ve.Sublist us):∀ c ∈ QC Ve,c ∈ QC us:=by
 intro c hc
 obtain ⟨u,hu,hcu⟩:=List.mem_flatMap.1 hc
 exact List.mem_flatMap.2 ⟨u,h.subset hu,hcu⟩
theorem Gz {T T':TypeId} {r:Rep α} {q:Rep β} {off:Nat} {y:α} {z:β} {get:α→β} {set:α→β→α} (l:Lens r q off get set) (t:jw P T q) {κ:Type} {B:Base} {F:κ→Option iM} {L:Nat→Option iM} {h:H} {w:World} {s b:Nat} {us Ve:List (Nat×Value×iM)}
  (hst:St B h (Sum.elim L F) w) (hL:L s=some (oq b T' r y us)) (J9:BoxOk b us) (hsub:Ve.Sublist us) (hap:∀ u ∈ Ve,u.1<off∨off+q.sz≤u.1) {c':List Value} (hc':q.rel h c' z) :
  ∃ p c q':List Value,p.length=off∧(Instr.storeAt T (.pointer (some ⟨b,off,none⟩)) (pack q.agg c')).run P w = .ok () (w.setRow b (p ++ c' ++ q').toArray)∧c.length=q.sz ∧
   (w.setRow b (p ++ c' ++ q').toArray).heap[b]? = some (.cells (p ++ c' ++ q').toArray T' (0,0))∧r.rel h (p ++ c' ++ q') (set y z)∧(∀ u ∈ Ve,(p ++ c' ++ q')[u.1]? = some u.2.1) ∧
   St B h (Sum.elim (set1 L s (oq b T' r (set y z) Ve)) F) (w.setRow b (p ++ c' ++ q').toArray):=by
 obtain ⟨⟨cs,hb,hr,hu1⟩,hu2⟩:=FD hst hL
 obtain ⟨p,c,q',rfl,hp,hc,hset⟩:=l h cs y hr
 have hrun:=uD t hc' hb (q.len hc)
 rw [hp] at hrun
 have hmem:=zq w b _ (p ++ c' ++ q').toArray T' hb
 have hrel:=hset h c' z (og.refl h) hc'
 have hget:∀ u ∈ Ve,(p ++ c' ++ q')[u.1]? = some u.2.1:=fun u hu=>by
  rw [Ul hp (q.len hc) (q.len hc') (hap u hu)];exact hu1 u (hsub.subset hu)
 obtain ⟨hcl,_⟩:=hst.own (k:=Sum.inl s) hL
 have hno:=(hcl (b,0) (by simp [oq])).2.2
 refine ⟨p,c,q',hp,hrun,q.len hc,hmem,hrel,hget,?_⟩
 refine hst.write (Sum.inl s) (e:=oq b T' r y us) hL (b:=b) (lo:=0) (by simp [oq]) hmem (fun i hi=>setRow_other w b i _ hi) (by simp [World.setRow]) rfl rfl rfl ?_ vY ?_
 ·intro o' v hh;rw [hno o' (Nat.zero_le _)] at hh;cases hh
 ·intro e' he
  rw [vZ he]
  refine ⟨fun c hc=>?_,⟨_,hmem,hrel,hget⟩,jJb (J9.sub hsub) (fun i hi=>setRow_other w b i _ hi) (fun u hu=>hu2 u (hsub.subset hu))⟩
  rcases List.mem_cons.1 hc with rfl | hc
  ·exact List.mem_cons_self
  ·exact List.mem_cons_of_mem _ (WS hsub c hc)
theorem YK {T T':TypeId} {r:Rep α} {q:Rep β} {ts:List fE} {s off:Nat} {x v:Operand} {y:α} {z:β} {get:α→β} {set:α→β→α} {y':α} (l:Lens r q off get set) (t:jw P T q) (hap:apartB off q.sz ts=true) (hd:o.dst=none)
  (W:Wr) (ho:o.op = .store T x v) (hx:WR N x W s off) (hv:di N v (fV q z)) (hy':y'=set y z):eG P o N [(s,W.ap (gQ T' r y ts))] bF.uf [(s,some (W.ap (gQ T' r y' ts)))]:=by
 subst hy'
 intro κ B F L h a w hst hn hk _ next Q hnext _
 obtain ⟨b,hdv,hxv⟩:=hx h a hn
 obtain ⟨e,hL,hqW⟩:=hk.1
 obtain ⟨b',us,hv',hta,J9,rfl⟩:=Wr.iff.1 hqW
 have hd':W.v a s = .pointer (some ⟨b,0,none⟩):=hdv
 rw [hd'] at hv';cases hv'
 obtain ⟨c',hc',hvv⟩:=hv h a hn
 obtain ⟨p,c,q',hp,hrun,_,_,_,_,hst'⟩:=Gz l t hst hL J9 (List.Sublist.refl us) (fun u hu=>by
  obtain ⟨t,ht,e⟩:=hta.offs u hu;rw [e];exact EM hap t ht) hc'
 unfold Oper.sF
 have:(execOp a.eval o).run P w = .ok .skip (w.setRow b (p ++ c' ++ q').toArray):=by
  simp only [execOp,ho,hxv,hvv,Sem.run_bind,hrun,Result.andThen_ok,Sem.run_pure]
 rw [this]
 refine hnext undef h _ _ (og.refl h) trivial hst' ?_
 rw [hd]
 exact oI (Wr.iff.2 ⟨b,us,hd',hta,J9,rfl⟩)
theorem X3 {sv:Value} {T T':TypeId} {r:Rep α} {q:Rep β} {ts:List fE} {s off:Nat} {x v:Operand} {y:α} {z:β} {get:α→β} {set:α→β→α} {y':α} (l:Lens r q off get set) (t:jw P T q) (hap:apartB off q.sz ts=true) (hd:o.dst=none)
  (ho:o.op = .store T x v) (hx:di N x (Dq sv off)) (hv:di N v (fV q z)) (hy':y'=set y z):eG P o N [(s,iI (gQ T' r y ts) sv)] bF.uf [(s,some (iI (gQ T' r y' ts) sv))]:=YK l t hap hd (.val sv) ho (.val hx) hv hy'
theorem Jt {T T':TypeId} {r:Rep α} {s:Nat} {sv:Value} {x v:Operand} {y z:α} (t:jw P T r) (hd:o.dst=none) (ho:o.op = .store T x v) (hx:di N x (jh sv)) (hv:di N v (fV r z)) :
  eG P o N [(s,iI (gQ T' r y []) sv)] bF.uf [(s,some (iI (gQ T' r z []) sv))]:=by
 intro κ B F L h a w hst hn hk hdn next Q hnext _
 obtain ⟨e,hL,hq⟩:=hk.1
 obtain ⟨b,h1,h2⟩:=hx.off0 hn hq
 obtain ⟨b',us,hv',hta,J9,rfl⟩:=hq
 rw [h1] at hv';cases hv'
 obtain ⟨c',hc',hvv⟩:=hv h a hn
 obtain ⟨p,c,q',hp,hrun,_,_,_,_,hst'⟩:=Gz (Lens.refl r) t hst hL J9 (List.nil_sublist us) (fun u hu=>by cases hu) hc'
 unfold Oper.sF
 have:(execOp a.eval o).run P w = .ok .skip (w.setRow b (p ++ c' ++ q').toArray):=by
  simp only [execOp,ho,h2,hvv,Sem.run_bind,hrun,Result.andThen_ok,Sem.run_pure]
 rw [this]
 refine hnext undef h _ _ (og.refl h) trivial hst' ?_
 rw [hd]
 exact oI ⟨b,[],h1,trivial,⟨List.Pairwise.nil,fun u hu=>by cases hu⟩,rfl⟩
theorem BoxOk.nil {b off:Nat} {sG vO:List (Nat×Value×iM)} (h:BoxOk b (sG ++ vO)):BoxOk b (sG ++ (off,KJ,sU) :: vO):=by
 obtain ⟨h1,h2⟩:=h
 constructor
 ·rw [List.map_append,List.pairwise_append] at h1 ⊢
  obtain ⟨k1,k2,k3⟩:=h1
  refine ⟨k1,List.Pairwise.cons (fun l _ c hc=>by cases hc) k2,fun x hx y hy=>?_⟩
  rcases List.mem_cons.1 hy with rfl | hy
  ·intro c _ c' hc';cases hc'
  ·exact k3 x hx y hy
 ·intro u hu c hc
  rcases List.mem_append.1 hu with hu | hu
  ·exact h2 u (List.mem_append_left _ hu) c hc
  ·rcases List.mem_cons.1 hu with rfl | hu
   ·cases hc
   ·exact h2 u (List.mem_append_right _ hu) c hc
theorem WT {L:Nat→Option iM} {s d:Nat} {e1 e2:iM} {q1 q2:gG} {a:Act} (hsd:s≠d) (h1:q1 (a.gt s) e1) (h2:q2 (a.gt d) e2):Ko L (set1 (set1 L s e1) d e2) (full [(s,some q1),(d,some q2)] (some d)) a:=by
  intro k
  have hsd':Nat.beq s d=false:=by rw [Bool.eq_false_iff,Ne,jL];exact hsd
  by_cases hk:k=d
  · subst hk
    have:uP (full [(s,some q1),(k,some q2)] (some k)) k=some (some q2):=by simp [full,uP,hsd',Nat.beq_refl]
    rw [this];exact ⟨e2,by simp [set1],h2⟩
  · have h3 : Nat.beq d k = false := by rw [Bool.eq_false_iff, Ne, jL]; exact fun x => hk x.symm
    by_cases hk2:k=s
    · subst hk2
      have:uP (full [(k,some q1),(d,some q2)] (some d)) k=some (some q1):=by simp [full,uP,Nat.beq_refl]
      rw [this];exact ⟨e1,by simp [set1,hk],h1⟩
    · have h4 : Nat.beq s k = false := by rw [Bool.eq_false_iff, Ne, jL]; exact fun x => hk2 x.symm
      have:uP (full [(s,some q1),(d,some q2)] (some d)) k=none:=by simp [full,uP,h3,h4]
      rw [this];simp [set1,hk,hk2]
theorem Qe {T T' E:TypeId} {r:Rep α} {q:Rep β} {l1 l2:List fE} {s d off sz:Nat} {x:Operand} {y:α} {get:α→List β} {set:α→List β→α} (l:Lens r (Rep.slice q) off get set) (t:jw P T (Rep.slice q)) (hsd:Nat.beq s d=false) (hd:o.dst=some d) (W:Wr) (ho:o.op = .load T x) (hx:WR N x W s off) :
  eG P o N [(s,W.ap (gQ T' r y (l1 ++ ⟨off,E,sz⟩ :: l2)))] (fV (Rep.slice q) (get y)) [(s,some (W.ap (gQ T' r y (l1 ++ l2)))),(d,some (dR E sz))]:=by
 have hne:s≠d:=fun x=>by rw [jL.2 x] at hsd;cases hsd
 intro κ B F L h a w hst hn hk hdn next Q hnext _
 obtain ⟨b,hdv,hv⟩:=hx h a hn
 obtain ⟨e,hL,hqW⟩:=hk.1
 obtain ⟨b',us,hv',hta,J9,rfl⟩:=Wr.iff.1 hqW
 have hd':W.v a s = .pointer (some ⟨b,0,none⟩):=hdv
 rw [hd'] at hv';cases hv'
 obtain ⟨sG,u0,vO,rfl,hoff,htip,h3,h4⟩:=hta.mid
 simp only [] at hoff htip
 have hsub:(sG ++ vO).Sublist (sG ++ u0 :: vO):=(List.Sublist.refl sG).append (List.sublist_cons_self _ _)
 obtain ⟨⟨cs,hb,hr,hu1⟩,hu2⟩:=FD hst hL
 have hm0:u0 ∈ sG ++ u0 :: vO:=List.mem_append_right _ List.mem_cons_self
 obtain ⟨p,c,q',rfl,hp,hc,_⟩:=l h cs y hr
 have hcl:=(Rep.slice q).len hc
 obtain ⟨c0,rfl,hc0⟩:=hc
 have hcv:c0=u0.2.1:=by
  have:=hu1 u0 hm0
  rw [hoff,List.append_assoc,List.getElem?_append_right (by omega),hp] at this
  simpa using this
 have hrun:=yu (b:=b) (off:=off) (w:=w) t hcl (fun j v hj=>by
  rw [zZ _ _ _ _ _ _ hb]
  have hjl:=(List.getElem?_eq_some_iff.1 hj).1
  simp only [List.getElem?_toArray]
  rw [List.append_assoc,List.getElem?_append_right (by omega),← hp,Nat.add_sub_cancel_left,List.getElem?_append_left hjl];exact hj)
 unfold Oper.sF
 have:(execOp a.eval o).run P w = .ok (.value c0) w:=by
  have hrun':(Instr.loadAt T (.pointer (some ⟨b,off,none⟩))).run P w = .ok c0 w:=hrun
  simp [execOp,ho,hv,hrun']
 rw [this]
 have hpw:=J9.1
 rw [List.map_append,List.pairwise_append] at hpw
 obtain ⟨_,k2,k3⟩:=hpw
 have k4:=List.pairwise_cons.1 k2
 have hdis:Hr ((b,0) :: QC (sG ++ vO)) u0.2.2.claims:=by
  intro c hc c' hc'
  rcases List.mem_cons.1 hc with rfl | hc
  ·exact (J9.2 u0 hm0 c' hc').symm
  ·obtain ⟨u,hu,hcu⟩:=List.mem_flatMap.1 hc
   rcases List.mem_append.1 hu with hu | hu
   ·exact k3 _ (List.mem_map.2 ⟨u,hu,rfl⟩) _ (List.mem_cons_self) c hcu c' hc'
   ·exact (k4.1 _ (List.mem_map.2 ⟨u,hu,rfl⟩) c' hc' c hcu).symm
 have hst':=hst.split2 (d:=d) (e1:=oq b T' r y (sG ++ vO)) (e2:=u0.2.2) hL hne (fun c hc=>by
   rcases List.mem_cons.1 hc with rfl | hc
   ·exact List.mem_cons_self
   ·exact List.mem_cons_of_mem _ (WS hsub c hc)) (fun c hc=>List.mem_cons_of_mem _ (List.mem_flatMap.2 ⟨u0,hm0,hc⟩)) hdis
  ⟨⟨_,hb,hr,fun u hu=>hu1 u (hsub.subset hu)⟩,fun u hu=>hu2 u (hsub.subset hu)⟩ (hu2 u0 hm0)
 refine hnext _ h w _ (og.refl h) (qB.2 hc0) hst' ?_
 rw [hd]
 exact WT hne (Wr.iff.2 (by rw [Wr.v_put hne];exact ⟨b,_,hd',h4.app h3,J9.sub hsub,rfl⟩)) (by rw [iL (hdn d hd),hcv];exact htip)
theorem RG {T T' E:TypeId} {r:Rep α} {q:Rep β} {l1 l2:List fE} {s d off sz:Nat} {x:Operand} {y:α} {get:α→List β} {set:α→List β→α} (l:Lens r (Rep.slice q) off get set) (t:jw P T (Rep.slice q)) (hsd:Nat.beq s d=false) (hd:o.dst=some d) (ho:o.op = .load T x) (hx:di N x (Dt s off)) :
  eG P o N [(s,gQ T' r y (l1 ++ ⟨off,E,sz⟩ :: l2))] (fV (Rep.slice q) (get y)) [(s,some (gQ T' r y (l1 ++ l2))),(d,some (dR E sz))]:=Qe l t hsd hd .slot ho (.slot hx)
theorem P5 {sv:Value} {T T' E:TypeId} {r:Rep α} {q:Rep β} {l1 l2:List fE} {s d off sz:Nat} {x:Operand} {y:α} {get:α→List β} {set:α→List β→α} (l:Lens r (Rep.slice q) off get set) (t:jw P T (Rep.slice q)) (hsd:Nat.beq s d=false) (hd:o.dst=some d) (ho:o.op = .load T x) (hx:di N x (Dq sv off)) :
  eG P o N [(s,iI (gQ T' r y (l1 ++ ⟨off,E,sz⟩ :: l2)) sv)] (fV (Rep.slice q) (get y)) [(s,some (iI (gQ T' r y (l1 ++ l2)) sv)),(d,some (dR E sz))]:=Qe l t hsd hd (.val sv) ho (.val hx)
theorem Pg {L:Nat→Option iM} {s d:Nat} {e:iM} {q:gG} {a:Act} (hsd:s≠d) (hq:q (a.gt s) e):Ko L (DK L s d e) (full [(s,some q),(d,none)] none) a:=by
  intro k
  by_cases hk:k=s
  · subst hk
    have:uP (full [(k,some q),(d,none)] none) k=some (some q):=by simp [full,uP,Nat.beq_refl]
    rw [this];exact ⟨e,by simp [DK,hsd],hq⟩
  · have h4 : Nat.beq s k = false := by rw [Bool.eq_false_iff, Ne, jL]; exact fun x => hk x.symm
    by_cases hk2:k=d
    · subst hk2
      have:uP (full [(s,some q),(k,none)] none) k=some none:=by simp [full,uP,h4,Nat.beq_refl]
      rw [this];trivial
    · have h3 : Nat.beq d k = false := by rw [Bool.eq_false_iff, Ne, jL]; exact fun x => hk2 x.symm
      have:uP (full [(s,some q),(d,none)] none) k=none:=by simp [full,uP,h3,h4]
      rw [this];simp [DK,hk,hk2]
theorem OB {T T' E:TypeId} {r:Rep α} {q:Rep β} {l1 l2:List fE} {s d off sz:Nat} {x:Operand} {y:α} {zs:List β} {get:α→List β} {set:α→List β→α} {y':α} (l:Lens r (Rep.slice q) off get set) (t:jw P T (Rep.slice q)) (hap:apartB off 1 (l1 ++ l2)=true) (hsd:Nat.beq s d=false) (hd:o.dst=none)
  (W:Wr) (ho:o.op = .store T x (.tmp d)) (hx:WR N x W s off) (hv:di N (.tmp d) (fV (Rep.slice q) zs)) (hy':y'=set y zs):eG P o N [(s,W.ap (gQ T' r y (l1 ++ l2))),(d,dR E sz)] bF.uf [(s,some (W.ap (gQ T' r y' (l1 ++ ⟨off,E,sz⟩ :: l2)))),(d,none)]:=by
 subst hy'
 have hne:s≠d:=fun x=>by rw [jL.2 x] at hsd;cases hsd
 intro κ B F L h a w hst hn hk _ next Q hnext _
 obtain ⟨b,hdv,hxv⟩:=hx h a hn
 obtain ⟨e,hL,hqW⟩:=hk.1
 obtain ⟨b',us,hv',hta,J9,rfl⟩:=Wr.iff.1 hqW
 obtain ⟨et,hLt,htip⟩:=hk.2.1
 have hLt:L d=some et:=hLt
 have htip:dR E sz (a.gt d) et:=htip
 have hd':W.v a s = .pointer (some ⟨b,0,none⟩):=hdv
 rw [hd'] at hv';cases hv'
 obtain ⟨c',hc',hvv⟩:=hv h a hn
 have hvd:a.gt d=pack (Rep.slice q).agg c':=hvv
 obtain ⟨p,c,q',hp,hrun,hcl,hmem,hrel,hget,hst'⟩:=Gz l t hst hL J9 (List.Sublist.refl us) (fun u hu=>by
  obtain ⟨t,ht,e⟩:=hta.offs u hu;rw [e];exact EM hap t ht) hc'
 obtain ⟨c0,rfl,hc0⟩:=hc'
 have hvd:a.gt d=c0:=hvd
 unfold Oper.sF
 have:(execOp a.eval o).run P w = .ok .skip (w.setRow b (p ++ [c0] ++ q').toArray):=by
  simp only [execOp,ho,hxv,hvv,Sem.run_bind,hrun,Result.andThen_ok,Sem.run_pure]
 rw [this]
 obtain ⟨sG,vO,rfl,h3,h4⟩:=hta.cut
 have hta':xJ (l1 ++ ⟨off,E,sz⟩ :: l2) (sG ++ (off,c0,et) :: vO):=xJ.app (l2:=⟨off,E,sz⟩ :: l2) (vO:=(off,c0,et) :: vO) ⟨⟨rfl,by rw [← hvd];exact htip⟩,h4⟩ h3
 have hLd':set1 L s (oq b T' r (set y zs) (sG ++ vO)) d=some et:=by simp [set1,Ne.symm hne,hLt]
 have hdj:Hr ((b,0) :: QC (sG ++ vO)) et.claims:=hst.zo (k:=Sum.inl s) (k':=Sum.inl d) hL hLt (fun x=>hne (Sum.inl.inj x))
 have hbo':BoxOk b (sG ++ (off,c0,et) :: vO):=by
  obtain ⟨g1,g2⟩:=J9
  constructor
  ·rw [List.map_append,List.pairwise_append] at g1 ⊢
   obtain ⟨k1,k2,k3⟩:=g1
   refine ⟨k1,List.Pairwise.cons (fun l hl c hc c' hc'=>?_) k2,fun x hx y hy=>?_⟩
   ·obtain ⟨u,hu,rfl⟩:=List.mem_map.1 hl
    exact (hdj c' (List.mem_cons_of_mem _ (List.mem_flatMap.2 ⟨u,List.mem_append_right _ hu,hc'⟩)) c hc).symm
   ·rcases List.mem_cons.1 hy with rfl | hy
    ·intro c hc c' hc'
     obtain ⟨u,hu,rfl⟩:=List.mem_map.1 hx
     exact hdj c (List.mem_cons_of_mem _ (List.mem_flatMap.2 ⟨u,List.mem_append_left _ hu,hc⟩)) c' hc'
    ·exact k3 x hx y hy
  ·intro u hu c hc
   rcases List.mem_append.1 hu with hu | hu
   ·exact g2 u (List.mem_append_left _ hu) c hc
   ·rcases List.mem_cons.1 hu with rfl | hu
    ·exact (hdj (b,0) List.mem_cons_self c hc).symm
    ·exact g2 u (List.mem_append_right _ hu) c hc
 obtain ⟨_,hu2⟩:=FD hst' tV
 have hokt:et.ok h (World.mem (w.setRow b (p ++ [c0] ++ q').toArray)):=(hst'.own (k:=Sum.inl d) hLd').2
 have hj:=hst'.DK (e:=oq b T' r (set y zs) (sG ++ (off,c0,et) :: vO)) tV hLd' (fun c hc=>by
  rcases List.mem_cons.1 hc with rfl | hc
  ·exact .inl List.mem_cons_self
  ·obtain ⟨u,hu,hcu⟩:=List.mem_flatMap.1 hc
   rcases List.mem_append.1 hu with hu | hu
   ·exact .inl (List.mem_cons_of_mem _ (List.mem_flatMap.2 ⟨u,List.mem_append_left _ hu,hcu⟩))
   ·rcases List.mem_cons.1 hu with rfl | hu
    ·exact .inr hcu
    ·exact .inl (List.mem_cons_of_mem _ (List.mem_flatMap.2 ⟨u,List.mem_append_right _ hu,hcu⟩))) ⟨⟨_,hmem,hrel,fun u hu=>by
   rcases List.mem_append.1 hu with hu | hu
   ·exact hget u (List.mem_append_left _ hu)
   ·rcases List.mem_cons.1 hu with rfl | hu
    ·simp only []
     rw [List.append_assoc,List.getElem?_append_right (by omega),hp];simp
    ·exact hget u (List.mem_append_right _ hu)⟩,fun u hu=>by
   rcases List.mem_append.1 hu with hu | hu
   ·exact hu2 u (List.mem_append_left _ hu)
   ·rcases List.mem_cons.1 hu with rfl | hu
    ·exact hokt
    ·exact hu2 u (List.mem_append_right _ hu)⟩
 have hL':DK (set1 L s (oq b T' r (set y zs) (sG ++ vO))) s d (oq b T' r (set y zs) (sG ++ (off,c0,et) :: vO))=DK L s d (oq b T' r (set y zs) (sG ++ (off,c0,et) :: vO)):=by
  funext k;unfold DK set1
  by_cases h1:k=d
  ·rw [if_pos h1,if_pos h1]
  ·rw [if_neg h1,if_neg h1]
   by_cases h2:k=s
   ·rw [if_pos h2,if_pos h2]
   ·rw [if_neg h2,if_neg h2,if_neg h2]
 rw [hL'] at hj
 refine hnext undef h _ _ (og.refl h) trivial hj ?_
 rw [hd]
 exact Pg hne (Wr.iff.2 ⟨b,_,hd',hta',hbo',rfl⟩)
theorem Qa {T T' E:TypeId} {r:Rep α} {q:Rep β} {l1 l2:List fE} {s d off sz:Nat} {x:Operand} {y:α} {zs:List β} {get:α→List β} {set:α→List β→α} {y':α} (l:Lens r (Rep.slice q) off get set) (t:jw P T (Rep.slice q)) (hap:apartB off 1 (l1 ++ l2)=true) (hsd:Nat.beq s d=false) (hd:o.dst=none)
  (ho:o.op = .store T x (.tmp d)) (hx:di N x (Dt s off)) (hv:di N (.tmp d) (fV (Rep.slice q) zs)) (hy':y'=set y zs):eG P o N [(s,gQ T' r y (l1 ++ l2)),(d,dR E sz)] bF.uf [(s,some (gQ T' r y' (l1 ++ ⟨off,E,sz⟩ :: l2))),(d,none)]:=OB l t hap hsd hd .slot ho (.slot hx) hv hy'
theorem Oe {sv:Value} {T T' E:TypeId} {r:Rep α} {q:Rep β} {l1 l2:List fE} {s d off sz:Nat} {x:Operand} {y:α} {zs:List β} {get:α→List β} {set:α→List β→α} {y':α} (l:Lens r (Rep.slice q) off get set) (t:jw P T (Rep.slice q)) (hap:apartB off 1 (l1 ++ l2)=true) (hsd:Nat.beq s d=false) (hd:o.dst=none)
  (ho:o.op = .store T x (.tmp d)) (hx:di N x (Dq sv off)) (hv:di N (.tmp d) (fV (Rep.slice q) zs)) (hy':y'=set y zs):eG P o N [(s,iI (gQ T' r y (l1 ++ l2)) sv),(d,dR E sz)] bF.uf [(s,some (iI (gQ T' r y' (l1 ++ ⟨off,E,sz⟩ :: l2)) sv)),(d,none)]:=OB l t hap hsd hd (.val sv) ho (.val hx) hv hy'
end Go.KB
namespace Go.KB
variable {P:Program} {o:Oper} {N:List (Nat×bF)} {f:bF} {α β:Type}
def Gx (P:Program) (T:TypeId) (i:Nat):Option (TypeId×Nat) :=
 match P.underlying T with
 | some (.struct fs)=>match fs[i]? with
  | some g=>some (g.type,g.offset)
  | none=>none
 | _=>none
theorem Si {T':TypeId} {q:Rep β} (t:jw P T' q) {h:H} {p c r:List Value} {y:β} (hc:q.rel h c y) (w:World):(part T' (p ++ c ++ r).toArray p.length).run P w = .ok (pack q.agg c) w:=by
 have hl:=q.len hc
 unfold part
 cases ha:q.agg with
 | true =>
  simp only [Sem.run_bind,t.agg,ha,Result.andThen_ok,if_true,t.size,Sem.run_pure,pack,cond_true]
  congr 2
  simp only [List.extract_toArray,List.extract_eq_take_drop]
  congr 1
  rw [List.append_assoc,List.drop_left' rfl,show p.length+q.sz - p.length=c.length by omega,List.take_left' rfl]
 | false =>
  rw [q.one ha] at hl
  match c,hl with
  | [v],_ =>
   have:(p ++ [v] ++ r).toArray[p.length]? = some v:=by simp
   simp only [Sem.run_bind,t.agg,ha,Result.andThen_ok,Bool.false_eq_true,if_false,this,Sem.run_pure,pack,cond_false]
theorem L6 {T T':TypeId} {r:Rep α} {q:Rep β} {x:Operand} {y:α} {i off:Nat} {get:α→β} {set:α→β→α} (l:Lens r q off get set) (hag:r.agg=true) (hf:Gx P T i=some (T',off)) (t:jw P T' q) (ho:o.op = .field T x i) (hx:di N x (fV r y)) :
  eG P o N [] (fV q (get y)) [] :=
 eG.xA fun h a w _ n=>by
  unfold Gx at hf
  split at hf
  ·rename_i fs hT
   split at hf
   ·rename_i g hg
    simp only [Option.some.injEq,Prod.mk.injEq] at hf
    obtain ⟨h1,h2⟩:=hf
    obtain ⟨cs,hr,hv⟩:=hx h a n
    obtain ⟨p,c,q',rfl,hp,hc,_⟩:=l h cs y hr
    rw [hag] at hv
    refine ⟨pack q.agg c,?_,c,hc,rfl⟩
    have:=Si t (p:=p) (r:=q') hc w
    rw [List.append_assoc] at this
    simp [execOp,ho,hv,pack,Instr.field,run_underlying hT,hg,asAgg,h1,h2,← hp,this]
   ·cases hf
  ·cases hf
def fVN (r:Rep α) (x:α) (ts:List fE):bF:=⟨none,fun h _ v=>∃ cs,r.rel h cs x∧v=pack r.agg cs∧CS cs ts,fun hl ⟨cs,k,e,n⟩=>⟨cs,r.mono hl k,e,n⟩⟩
theorem CS.apart {p c c' q:List Value} {off sz:Nat} (hp:p.length=off) (hc:c.length=sz) (hc':c'.length=sz):∀ {ts:List fE},apartB off sz ts=true→CS (p ++ c ++ q) ts→CS (p ++ c' ++ q) ts:=by
 intro ts
 induction ts with
 | nil=>intro _ _;trivial
 | cons t ts ih =>
  intro ha hn
  have h1:=EM ha t List.mem_cons_self
  refine ⟨by rw [Ul hp hc hc' h1];exact hn.1,ih ?_ hn.2⟩
  unfold apartB at ha ⊢
  rw [List.all_cons,Bool.and_eq_true] at ha
  exact ha.2
def Sj (P:Program) (N:List (Nat×bF)) (place:Nat→Option (Nat×Nat)) {α:Type} (r:Rep α) (ts:List fE):List (Nat×Operand)→α→α→Prop
 | [],x,y=>x=y
 | (i,o) :: rest,x,y=>∃ (β:Type) (s:Rep β) (off:Nat) (get:α→β) (set:α→β→α) (z:β),Lens r s off get set∧place i=some (off,s.sz)∧apartB off s.sz ts=true∧di N o (fV s z)∧Sj P N place r ts rest (set x z) y
theorem jQn {place:Nat→Option (Nat×Nat)} {r:Rep α} {ts:List fE} {x:α}:Sj P N place r ts [] x x:=rfl
theorem O6 {place:Nat→Option (Nat×Nat)} {r:Rep α} {ts:List fE} {s:Rep β} {off i:Nat} {x':Operand} {get:α→β} {set:α→β→α} {z:β} {rest:List (Nat×Operand)} {x y:α} (l:Lens r s off get set) (hp:place i=some (off,s.sz)) (ha:apartB off s.sz ts=true) (ho:di N x' (fV s z))
  (k:Sj P N place r ts rest (set x z) y):Sj P N place r ts ((i,x') :: rest) x y:=⟨β,s,off,get,set,z,l,hp,ha,ho,k⟩
theorem Sj.run {place:Nat→Option (Nat×Nat)} {r:Rep α} {ts:List fE} {h:H} {a:Act} (n:Iu N h a):∀ {parts:List (Nat×Operand)} {x y:α} {cs:List Value},Sj P N place r ts parts x y→r.rel h cs x→CS cs ts →
  ∃ cs',Instr.fill place cs.toArray (parts.map fun q=>(q.1,a.eval q.2))=some cs'.toArray∧r.rel h cs' y∧CS cs' ts:=by
 intro parts
 induction parts with
 | nil=>intro x y cs k hr ht;rw [show x=y from k] at hr;exact ⟨cs,rfl,hr,ht⟩
 | cons q rest ih =>
  obtain ⟨i,op⟩:=q
  rintro x y cs ⟨β,s,off,get,set,z,l,hp,ha,ho,k⟩ hr ht
  obtain ⟨p,c,q,rfl,hpl,hc,hset⟩:=l h cs x hr
  obtain ⟨c',hc',hv⟩:=ho h a n
  simp only [List.map_cons]
  rw [Um hc' hv hp hpl (s.len hc)]
  exact ih k (hset h c' z (og.refl h) hc') (ht.apart hpl (s.len hc) (s.len hc') ha)
theorem Ua {T:TypeId} {r:Rep α} {place:Nat→Option (Nat×Nat)} {parts:Array (Nat×Operand)} {y:α} (ts:List fE) (t:jw P T r) (hag:r.agg=true) (hpl:iZ P T place) (ho:o.op = .build T parts)
  (hz:CS r.zc ts) (k:Sj P N place r ts parts.toList r.zero y):eG P o N [] (fVN r y ts) [] :=
 eG.xA fun h a w _ n=>by
  obtain ⟨cs',hf,hr,ht⟩:=k.run n (r.AP h) hz
  refine ⟨.agg cs'.toArray,?_,cs',hr,by rw [hag];rfl,ht⟩
  have h1:=hpl r.zc.toArray (parts.map fun q=>(q.1,a.eval q.2)) w cs'.toArray _ (t.zero w) (yt (r.AP h)) (by rw [Array.toList_map];exact hf)
  simp only [execOp,ho,Sem.run_bind,h1,Result.andThen_ok,Sem.run_pure]
theorem St.putT {κ:Type} {B:Base} {h:H} {L:Nat→Option iM} {F:κ→Option iM} {w:World} (hst:St B h (Sum.elim L F) w) {s b:Nat} {T:TypeId} {r:Rep α} {x y:α} {us:List (Nat×Value×iM)} {cs cs':List Value} {ts:List fE}
  (hk:L s=some (oq b T r x us)) (hb:w.heap[b]? = some (.cells cs.toArray T (0,0))) (hr:r.rel h cs' y) (ht:CS cs' ts) :
  St B h (Sum.elim (set1 L s (oq b T r y (LH ts))) F) (w.setRow b cs'.toArray):=by
 obtain ⟨hcl,_⟩:=hst.own (k:=Sum.inl s) hk
 have hno:=(hcl (b,0) (by simp [oq])).2.2
 have hmem:=zq w b _ cs'.toArray T hb
 refine hst.write (Sum.inl s) (e:=oq b T r x us) hk (b:=b) (lo:=0) (by simp [oq]) hmem (fun i hi=>setRow_other w b i cs'.toArray hi) (by simp [World.setRow]) rfl rfl rfl ?_ vY ?_
 ·intro o' v hh
  rw [hno o' (Nat.zero_le _)] at hh;cases hh
 ·intro e' he
  rw [vZ he]
  refine ⟨fun c hc=>?_,⟨cs',hmem,hr,ht.at⟩,fun u hu=>by rw [(MI hu).1];trivial⟩
  have hc:c ∈ (b,0) :: QC (LH ts):=hc
  rw [Ox] at hc
  simp at hc
  subst hc
  exact List.mem_cons_self
theorem UO {T:TypeId} {r:Rep α} {ts0 ts:List fE} {s:Nat} {v:Operand} {y z:α} (t:jw P T r) (hd:o.dst=none)
  (ho:o.op = .store T (.tmp s) v) (hv:di N v (fVN r z ts)):eG P o N [(s,gQ T r y ts0)] bF.uf [(s,some (gQ T r z ts))]:=by
 intro κ B F L h a w hst hn hk _ next Q hnext _
 obtain ⟨e,hL,b,us,hxv,_,_,rfl⟩:=hk.1
 have hxv':a.eval (.tmp s) = .pointer (some ⟨b,0,none⟩):=hxv
 obtain ⟨⟨cs,hb,hr,_⟩,_⟩:=FD hst hL
 obtain ⟨c',hc',hvv,ht⟩:=hv h a hn
 have hrun:=uD (p:=[]) (c:=cs) (q:=[]) t hc' (by simpa using hb) (r.len hr)
 unfold Oper.sF
 have:(execOp a.eval o).run P w = .ok .skip (w.setRow b c'.toArray):=by
  simp only [List.length_nil,List.nil_append,List.append_nil] at hrun
  simp only [execOp,ho,hxv',hvv,Sem.run_bind,hrun,Result.andThen_ok,Sem.run_pure]
 rw [this]
 refine hnext undef h _ _ (og.refl h) trivial (hst.putT hL hb hc' ht) ?_
 rw [hd]
 exact oI ⟨b,_,hxv,MJ ts,Oy b ts,rfl⟩
end Go.KB
namespace Go.KB
variable {P:Program} {o:Oper} {N:List (Nat×bF)} {α β:Type}
section
variable [DecidableEq α]
def jD (z:β):List (α×β)→α→β
 | [],_=>z
 | p :: r,x=>bif decide (x=p.1) then p.2 else jD z r x
def qM:List (α×β)→α→Bool
 | [],_=>false
 | p :: r,x=>decide (x=p.1)||qM r x
def tX:List (α×β)→α→β→List (α×β)
 | [],x,y=>[(x,y)]
 | p :: r,x,y=>bif decide (x=p.1) then (p.1,y) :: r else p :: tX r x y
structure Dz (P:Program) (K:TypeId) (rk:Rep α) (f:α→Value):Prop where
 is:∀ {h u x},rk.val h u x→u=f x
 chk:∀ (e:Bool) (w:World) (x:α),(Instr.checkKey e 10000 K (f x)).run P w = .ok () w
 now:∃ d,P.underlying K=some d∧∀ x y,Instr.sameNow d (f x) (f y)=some (decide (x=y))
 bits:∀ x,Instr.sameBits 10000 (f x) (f x)=true
 val:∀ h x,rk.val h (f x) x
def fG (s:Str):Value:=.string ⟨s.toArray⟩
theorem Dz.str {K:TypeId} (hK:P.underlying K=some .string):Dz P K Rep.str fG where
 is:=fun e=>FO.1 e
 chk:=fun e w x=>MapKept.run_checkKey hK (by trivial) e 9999
 now:=⟨_,hK,fun x y=>by
  simp only [Instr.sameNow,fG]
  congr 1
  rw [Bool.eq_iff_iff,MapKept.bytes_beq]
  simp⟩
 bits:=fun x=>(MapKept.bytes_beq _ _).2 rfl
 val:=fun _ _=>FO.2 rfl
def JG (k:IntKind) (n:Int):Value:=.int k n
theorem Dz.int {K:TypeId} {k:IntKind} (hK:P.underlying K=some (.int k)):Dz P K (Rep.int k) (JG k) where
 is:=fun e=>kJ.1 e
 chk:=fun e w x=>MapKept.run_checkKey hK (by trivial) e 9999
 now:=⟨_,hK,fun x y=>by
  simp only [Instr.sameNow,JG,if_true]
  congr 1⟩
 bits:=fun x=>by simp [Instr.sameBits,JG]
 val:=fun _ _=>kJ.2 rfl
end
def Ef (f:α→Value) (rv:Rep β) (h:H):List MapEntry→List (α×β)→Prop
 | [],[]=>True
 | e :: es,p :: l=>(e.key=f p.1∧rv.val h e.val p.2)∧Ef f rv h es l
 | _,_=>False
theorem Ef.mono {f:α→Value} {rv:Rep β} {h h':H} (hl:og h h'):∀ {es:List MapEntry} {l:List (α×β)},Ef f rv h es l→Ef f rv h' es l
 | [],[],_=>trivial
 | _ :: _,_ :: _,⟨⟨a,b⟩,c⟩=>⟨⟨a,rv.RV hl b⟩,Ef.mono hl c⟩
theorem Ef.snoc {f:α→Value} {rv:Rep β} {h:H} {e:MapEntry} {p:α×β} (he:e.key=f p.1∧rv.val h e.val p.2):∀ {es:List MapEntry} {l:List (α×β)},Ef f rv h es l→Ef f rv h (es ++ [e]) (l ++ [p])
 | [],[],_=>⟨he,trivial⟩
 | _ :: _,_ :: _,⟨a,c⟩=>⟨a,Ef.snoc he c⟩
def BU (es:List MapEntry) (c:Nat):Prop:=(es.map (·.born)).Nodup∧∀ e ∈ es,e.born<c
theorem BU.push {es:List MapEntry} {c:Nat} {k v:Value} (h:BU es c):BU (es ++ [{ key:=k,val:=v,born:=c }]) (c+1):=by
 refine ⟨?_,fun e he=>?_⟩
 ·rw [List.map_append,List.nodup_append]
  refine ⟨h.1,by simp,fun a ha b hb=>?_⟩
  obtain ⟨e,he,rfl⟩:=List.mem_map.1 ha
  simp only [List.map_cons,List.map_nil,List.mem_singleton] at hb
  have:=h.2 e he
  omega
 ·rcases List.mem_append.1 he with he | he
  ·have:=h.2 e he;omega
  ·simp only [List.mem_singleton] at he;subst he;exact Nat.lt_succ_self _
theorem BU.modify {es:List MapEntry} {c j:Nat} {g:MapEntry→MapEntry} (hg:∀ e,(g e).born=e.born) (h:BU es c):BU (es.modify j g) c:=by
 have hm:(es.modify j g).map (·.born)=es.map (·.born):=by
  refine List.ext_getElem? fun m=>?_
  simp only [List.getElem?_map,List.getElem?_modify]
  cases es[m]? with
  | none=>rfl
  | some e=>simp only [Option.map_some];split <;> simp [hg]
 refine ⟨by rw [hm];exact h.1,fun e he=>?_⟩
 have:e.born ∈ (es.modify j g).map (·.born):=List.mem_map.2 ⟨e,he,rfl⟩
 rw [hm] at this
 obtain ⟨e',he',hb⟩:=List.mem_map.1 this
 rw [← hb];exact h.2 e' he'
theorem BU.eraseIdx {es:List MapEntry} {c i:Nat} (h:BU es c):BU (es.eraseIdx i) c :=
 ⟨(List.Sublist.map _ (List.eraseIdx_sublist es i)).nodup h.1,fun e he=>h.2 e ((List.eraseIdx_sublist es i).subset he)⟩
def wF (b:Nat) (f:α→Value) (rv:Rep β) (l:List (α×β)):iM where
 claims:=[(b,0)]
 ok:=fun h m=>∃ es clock,m b=some (.map es clock)∧Ef f rv h es.toList l∧BU es.toList clock
 mono:=by rintro h h' m hl ⟨es,c,e,k⟩;exact ⟨es,c,e,k.1.mono hl,k.2⟩
 frame:=fun hm ⟨es,c,e,k⟩=>⟨es,c,by rw [hm (b,0) (by simp)];exact e,k⟩
def eU (f:α→Value) (rv:Rep β) (l:List (α×β)):gG:=fun v e=>∃ b,v = .map (some b)∧e=wF b f rv l
theorem Ea {T:TypeId} {f:α→Value} {rv:Rep β} {d:Nat} (hd:o.dst=some d) (ho:o.op = .makeMap T none):eG P o N [] bF.uf [(d,some (eU f rv []))]:=by
 intro κ B F L h a w hst hn _ hdn next Q hnext _
 unfold Oper.sF
 have:(execOp a.eval o).run P w = .ok (.value (.map (some w.heap.size))) (w.alloc (.map #[] 0)):=by
  have e:(Instr.makeMap T none).run P w = .ok (.map (some w.heap.size)) (w.alloc (.map #[] 0)):=rfl
  simp only [execOp,ho,Option.map_none,Sem.run_bind,e,Result.andThen_ok,Sem.run_pure]
 rw [this]
 refine hnext _ h _ (set1 L d (wF w.heap.size f rv [])) (og.refl h) trivial (hst.DI _ d _ (by simp [wF]) ⟨#[],0,DJ _ _,trivial,by simp [BU]⟩) ?_
 rw [hd]
 exact oI ⟨_,iL (hdn d hd),rfl⟩
theorem jXd {κ:Type} {B:Base} {h:H} {L:Nat→Option iM} {F:κ→Option iM} {w:World} (hst:St B h (Sum.elim L F) w) {s b:Nat} {f:α→Value} {rv:Rep β} {l:List (α×β)}
  (hk:L s=some (wF b f rv l)):∃ es clock,w.heap[b]? = some (.map es clock)∧Ef f rv h es.toList l :=
 let ⟨es,c,h1,h2,_⟩:=(hst.own (k:=Sum.inl s) hk).2
 ⟨es,c,h1,h2⟩
theorem U8 {κ:Type} {B:Base} {h:H} {L:Nat→Option iM} {F:κ→Option iM} {w:World} (hst:St B h (Sum.elim L F) w) {s b:Nat} {f:α→Value} {rv:Rep β} {l:List (α×β)}
  (hk:L s=some (wF b f rv l)):∃ es clock,w.heap[b]? = some (.map es clock)∧Ef f rv h es.toList l∧BU es.toList clock:=(hst.own (k:=Sum.inl s) hk).2
section
variable [DecidableEq α]
theorem OC {f:α→Value} {rv:Rep β} {h:H} {d:TypeDesc} (hd:∀ x y,Instr.sameNow d (f x) (f y)=some (decide (x=y))) (x:α):∀ {es:List MapEntry} {l:List (α×β)} (n:Nat),Ef f rv h es l →
    (Instr.findNow d (f x) es n=some none∧qM l x=false∧(∀ z,jD z l x=z)∧∀ y,tX l x y=l ++ [(x,y)]) ∨
    ∃ i e0,Instr.findNow d (f x) es n=some (some (n+i,e0.val))∧es[i]? = some e0∧e0.key=f x∧qM l x=true∧(∀ z,rv.val h e0.val (jD z l x)) ∧
      ∀ g y,(∀ e,(g e).key=e.key)→(∀ e,rv.val h (g e).val y)→Ef f rv h (es.modify i g) (tX l x y)
  | [],[],_,_=>.inl ⟨rfl,rfl,fun _=>rfl,fun _=>rfl⟩
  | e :: es,p :: l,n,⟨⟨hk,hv⟩,hr⟩=>by
    by_cases hx:x=p.1
    · refine .inr ⟨0, e, ?_, rfl, by rw [hk, hx], by simp [qM, hx], fun z => by simpa [jD, hx] using hv, fun g y hg hy => ?_⟩
      · simp only [Instr.findNow,hk,hd,hx,decide_true];rfl
      · simp only [List.modify_zero_cons,tX,hx,decide_true,cond_true]
        exact ⟨⟨by rw [hg,hk],hy e⟩,hr⟩
    · have hn:∀ r,Instr.findNow d (f x) es (n+1)=r→Instr.findNow d (f x) (e :: es) n=r:=fun r h=>by
        simp only [Instr.findNow,hk,hd]
        rw [show decide (x=p.1)=false from decide_eq_false hx];exact h
      rcases OC hd x (n+1) hr with ⟨h1,h2,h3,h4⟩ | ⟨i,e0,h1,h2,h3,h4,h5,h6⟩
      · refine .inl ⟨hn _ h1,by simp [qM,hx,h2],fun z=>by simp [jD,hx,h3],fun y=>by simp [tX,hx,h4]⟩
      · refine .inr ⟨i + 1, e0, hn _ (by rw [h1]; congr 3; omega), by simpa using h2, h3, by simp [qM, h4], fun z => by simpa [jD, hx] using h5 z, fun g y hg hy => ?_⟩
        simp only [List.modify_succ_cons,tX,hx,decide_false,cond_false]
        exact ⟨⟨hk,hv⟩,h6 g y hg hy⟩

theorem run_findKey {K:TypeId} {d:TypeDesc} {u:Value} {es:List MapEntry} {r:Option (Nat×Value)} {w:World} (hd:P.underlying K=some d) (h:Instr.findNow d u es 0=some r):(Instr.findKey K u es).run P w = .ok r w:=by
 unfold Instr.findKey
 simp only [Sem.run_bind,run_underlying hd,Result.andThen_ok,h,Sem.run_pure]
end
section
variable [DecidableEq α]
theorem Sl {T K E:TypeId} {rk:Rep α} {f:α→Value} {rv:Rep β} {s:Nat} {x i:Operand} {l:List (α×β)} {y:α} (hf:Dz P K rk f) (t:jw P E rv) (hT:P.underlying T=some (.map K E))
  (W:Wr) (ho:o.op = .lookup T x i false) (hx:WQ N x W s) (hi:di N i (fV rk y)):eG P o N [(s,W.ap (eU f rv l))] (fV rv (jD rv.zero l y)) []:=by
 intro κ B F L h a w hst hn hk _ next Q hnext _
 obtain ⟨e,hL,hq⟩:=hk.1
 obtain ⟨b,hv,rfl⟩:=Wr.iff.1 hq
 have hx':a.eval x = .map (some b):=(hx h a hn).trans hv
 have hi':=hf.is (hi h a hn)
 obtain ⟨es,clock,hb,hr⟩:=jXd hst hL
 obtain ⟨d,hd,WU⟩:=hf.now
 rcases OC WU y 0 hr with ⟨h1,_,h3,_⟩ | ⟨j,e0,h1,_,_,_,h5,_⟩
 ·have:(execOp a.eval o).run P w = .ok (.value (pack rv.agg rv.zc)) w:=by
   simp [execOp,ho,hx',hi',Instr.lookup,run_underlying hT,MapKept.run_getObj_map hb,hf.chk,run_findKey hd h1,t.zero]
  unfold Oper.sF
  rw [this]
  exact hnext _ h w L (og.refl h) ⟨rv.zc,by rw [h3];exact rv.AP h,rfl⟩ hst nR
 ·have:(execOp a.eval o).run P w = .ok (.value e0.val) w:=by
   simp [execOp,ho,hx',hi',Instr.lookup,run_underlying hT,MapKept.run_getObj_map hb,hf.chk,run_findKey hd h1]
  unfold Oper.sF
  rw [this]
  exact hnext _ h w L (og.refl h) (h5 _) hst nR
theorem WV {T K E:TypeId} {rk:Rep α} {f:α→Value} {rv:Rep β} {s:Nat} {x i:Operand} {l:List (α×β)} {y:α} (hf:Dz P K rk f) (t:jw P E rv) (hT:P.underlying T=some (.map K E))
  (W:Wr) (ho:o.op = .lookup T x i true) (hx:WQ N x W s) (hi:di N i (fV rk y)):eG P o N [(s,W.ap (eU f rv l))] (Nw (fV rv (jD rv.zero l y)) (fV Rep.bool (qM l y))) []:=by
 intro κ B F L h a w hst hn hk _ next Q hnext _
 obtain ⟨e,hL,hq⟩:=hk.1
 obtain ⟨b,hv,rfl⟩:=Wr.iff.1 hq
 have hx':a.eval x = .map (some b):=(hx h a hn).trans hv
 have hi':=hf.is (hi h a hn)
 obtain ⟨es,clock,hb,hr⟩:=jXd hst hL
 obtain ⟨d,hd,WU⟩:=hf.now
 rcases OC WU y 0 hr with ⟨h1,h2,h3,_⟩ | ⟨j,e0,h1,_,_,h4,h5,_⟩
 ·have:(execOp a.eval o).run P w = .ok (.value (.tuple #[pack rv.agg rv.zc,.bool false])) w:=by
   simp [execOp,ho,hx',hi',Instr.lookup,run_underlying hT,MapKept.run_getObj_map hb,hf.chk,run_findKey hd h1,t.zero]
  unfold Oper.sF
  rw [this]
  exact hnext _ h w L (og.refl h) ⟨_,_,rfl,⟨rv.zc,by rw [h3];exact rv.AP h,rfl⟩,pz.2 (by rw [h2])⟩ hst nR
 ·have:(execOp a.eval o).run P w = .ok (.value (.tuple #[e0.val,.bool true])) w:=by
   simp [execOp,ho,hx',hi',Instr.lookup,run_underlying hT,MapKept.run_getObj_map hb,hf.chk,run_findKey hd h1]
  unfold Oper.sF
  rw [this]
  exact hnext _ h w L (og.refl h) ⟨_,_,rfl,h5 _,pz.2 (by rw [h4])⟩ hst nR
theorem MB {T K E:TypeId} {rk:Rep α} {f:α→Value} {rv:Rep β} {s:Nat} {x i:Operand} {l:List (α×β)} {y:α} (hf:Dz P K rk f) (t:jw P E rv) (hT:P.underlying T=some (.map K E))
  (ho:o.op = .lookup T x i false) (hx:di N x (Uh s)) (hi:di N i (fV rk y)):eG P o N [(s,eU f rv l)] (fV rv (jD rv.zero l y)) []:=Sl hf t hT .slot ho (.slot hx) hi
theorem CU {T K E:TypeId} {rk:Rep α} {f:α→Value} {rv:Rep β} {s:Nat} {sv:Value} {x i:Operand} {l:List (α×β)} {y:α} (hf:Dz P K rk f) (t:jw P E rv) (hT:P.underlying T=some (.map K E))
  (ho:o.op = .lookup T x i false) (hx:di N x (jh sv)) (hi:di N i (fV rk y)):eG P o N [(s,iI (eU f rv l) sv)] (fV rv (jD rv.zero l y)) []:=Sl hf t hT (.val sv) ho (.val hx) hi
theorem KP {T K E:TypeId} {rk:Rep α} {f:α→Value} {rv:Rep β} {s:Nat} {sv:Value} {x i:Operand} {l:List (α×β)} {y:α} (hf:Dz P K rk f) (t:jw P E rv) (hT:P.underlying T=some (.map K E))
  (ho:o.op = .lookup T x i true) (hx:di N x (jh sv)) (hi:di N i (fV rk y)):eG P o N [(s,iI (eU f rv l) sv)] (Nw (fV rv (jD rv.zero l y)) (fV Rep.bool (qM l y))) []:=WV hf t hT (.val sv) ho (.val hx) hi
theorem run_keyThatStays {u:Value} {w:World} (h:Instr.sameBits 10000 u u=true):(Instr.keyThatStays u u).run P w = .ok u w:=by
 unfold Instr.keyThatStays
 rw [if_pos h];rfl
def Be (w:World) (b:Nat) (o:Obj):World:={ w with heap:=w.heap.setIfInBounds b o }
theorem Sm {w:World} {b:Nat} {o o':Obj} (hb:w.heap[b]? = some o):(Be w b o').heap[b]? = some o':=by
 have:=(Array.getElem?_eq_some_iff.1 hb).1
 simp [Be,this]
theorem Sr {w:World} {b i:Nat} {o':Obj} (hi:i≠b):(Be w b o').heap[i]? = w.heap[i]?:=by
 simp [Be,Ne.symm hi]
theorem Nu {T K E:TypeId} {rk:Rep α} {f:α→Value} {rv:Rep β} {s:Nat} {x i v:Operand} {l:List (α×β)} {y:α} {z:β} (hf:Dz P K rk f) (hT:P.underlying T=some (.map K E)) (hd:o.dst=none)
    (W:Wr) (ho:o.op = .mapUpdate T x i v∨o.op = .insert T x i v) (hx:WQ N x W s) (hi:di N i (fV rk y)) (hv:di N v (fV rv z)):eG P o N [(s,W.ap (eU f rv l))] bF.uf [(s,some (W.ap (eU f rv (tX l y z))))]:=by
  intro κ B F L h a w hst hn hk _ next Q hnext _
  obtain ⟨e,hL,hq⟩:=hk.1
  obtain ⟨b,hvb,rfl⟩:=Wr.iff.1 hq
  have hx':a.eval x = .map (some b):=(hx h a hn).trans hvb
  have hi':=hf.is (hi h a hn)
  have hv':=hv h a hn
  obtain ⟨es,clock,hb,hr,hB⟩:=U8 hst hL
  obtain ⟨d,hdd,WU⟩:=hf.now
  have fin:∀ es' clock',Ef f rv h es'.toList (tX l y z)→BU es'.toList clock'→(execOp a.eval o).run P w = .ok .skip (Be w b (.map es' clock'))→o.sF P a w next Q:=by
    intro es' clock' hrel hbn hrun
    unfold Oper.sF
    rw [hrun]
    refine hnext undef h _ (set1 L s (wF b f rv (tX l y z))) (og.refl h) trivial ?_ ?_
    · obtain ⟨hcl,_⟩:=hst.own (k:=Sum.inl s) hL
      have hno:=(hcl (b,0) (by simp [wF])).2.2
      have hlt:=(hcl (b,0) (by simp [wF])).2.1
      refine hst.step (hnf:=hst.Ph (k:=Sum.inl s) hL (by simp [wF])) (Sum.inl s) (fun i=>i=b) (fun i hi _=>⟨_,hL,(b,0),by simp [wF],hi.symm⟩) (by simp [Be]) rfl rfl rfl (fun i _ hi=>Sr hi) (og.refl h) (fun _ _ _ _=>rfl) ?_ vY ?_
      · rintro i o' u (rfl | hi) hu
        · rw [hno o' (Nat.zero_le _)] at hu;cases hu
        · rw [hst.fresh hi] at hu;cases hu
      · intro e' he
        rw [vZ he]
        refine ⟨fun c hc=>?_,es',clock',Sm hb,hrel,hbn⟩
        simp only [wF,List.mem_singleton] at hc
        subst hc
        exact ⟨.inr ⟨_,hL,(b,0),by simp [wF],rfl⟩,by simpa [Be] using hlt,fun o' _=>hno o' (Nat.zero_le _)⟩
    · rw [hd]
      exact oI (Wr.iff.2 ⟨b,hvb,rfl⟩)
  rcases OC WU y 0 hr with ⟨h1,_,_,h4⟩ | ⟨j,e0,h1,h2,h3,_,_,h6⟩
  · refine fin (es.push { key := f y, val := a.eval v, born := clock }) (clock + 1) ?_ (by rw [Array.toList_push]; exact hB.push) ?_
    · rw [h4,Array.toList_push]
      exact Ef.snoc (e:=⟨f y,a.eval v,clock⟩) (p:=(y,z)) ⟨rfl,hv'⟩ hr
    · rcases ho with ho | ho <;> simp [execOp,ho,hx',hi',Instr.mapUpdate,run_underlying hT,MapKept.run_getObj_map hb,hf.chk,run_findKey hdd h1,MapKept.run_setObj_map _ hb,Be]
  · have h2' : es[j]? = some e0 := by simpa using h2
    refine fin (es.modify j fun e=>{ e with key:=f y,val:=a.eval v }) clock ?_ (by rw [Array.toList_modify];exact hB.modify (fun _=>rfl)) ?_
    · have hkey:es.toList.modify j (fun e=>{ e with key:=f y,val:=a.eval v })=es.toList.modify j (fun e=>{ e with val:=a.eval v }):=by
        refine List.ext_getElem? fun m=>?_
        simp only [List.getElem?_modify]
        by_cases hm:j=m
        · subst hm;simp [h2',← h3]
        · simp [hm]
      rw [Array.toList_modify,hkey]
      exact h6 _ z (fun _=>rfl) (fun _=>hv')
    · rcases ho with ho | ho <;> simp [execOp,ho,hx',hi',Instr.mapUpdate,run_underlying hT,MapKept.run_getObj_map hb,hf.chk,run_findKey hdd h1,h2',h3,run_keyThatStays (hf.bits y),MapKept.run_setObj_map _ hb,Be]
theorem Jz {T K E:TypeId} {rk:Rep α} {f:α→Value} {rv:Rep β} {s:Nat} {x i v:Operand} {l:List (α×β)} {y:α} {z:β} (hf:Dz P K rk f) (hT:P.underlying T=some (.map K E)) (hd:o.dst=none)
  (ho:o.op = .mapUpdate T x i v∨o.op = .insert T x i v) (hx:di N x (Uh s)) (hi:di N i (fV rk y)) (hv:di N v (fV rv z)):eG P o N [(s,eU f rv l)] bF.uf [(s,some (eU f rv (tX l y z)))]:=Nu hf hT hd .slot ho (.slot hx) hi hv
theorem AU {T K E:TypeId} {rk:Rep α} {f:α→Value} {rv:Rep β} {s:Nat} {sv:Value} {x i v:Operand} {l:List (α×β)} {y:α} {z:β} (hf:Dz P K rk f) (hT:P.underlying T=some (.map K E)) (hd:o.dst=none)
  (ho:o.op = .mapUpdate T x i v∨o.op = .insert T x i v) (hx:di N x (jh sv)) (hi:di N i (fV rk y)) (hv:di N v (fV rv z)):eG P o N [(s,iI (eU f rv l) sv)] bF.uf [(s,some (iI (eU f rv (tX l y z)) sv))]:=Nu hf hT hd (.val sv) ho (.val hx) hi hv
def KQ:List (α×β)→α→List (α×β)
 | [],_=>[]
 | p :: r,x=>bif decide (x=p.1) then r else p :: KQ r x
theorem WW {f:α→Value} {rv:Rep β} {h:H} {d:TypeDesc} (hd:∀ x y,Instr.sameNow d (f x) (f y)=some (decide (x=y))) (x:α):∀ {es:List MapEntry} {l:List (α×β)} (n:Nat),Ef f rv h es l →
    (Instr.findNow d (f x) es n=some none∧KQ l x=l)∨∃ i v,Instr.findNow d (f x) es n=some (some (n+i,v))∧Ef f rv h (es.eraseIdx i) (KQ l x)
  | [],[],_,_=>.inl ⟨rfl,rfl⟩
  | e :: es,p :: l,n,⟨⟨hk,hv⟩,hr⟩=>by
    by_cases hx:x=p.1
    · refine .inr ⟨0,e.val,?_,?_⟩
      · simp only [Instr.findNow,hk,hd,hx,decide_true];rfl
      · simpa [KQ,hx] using hr
    · have hn:∀ r,Instr.findNow d (f x) es (n+1)=r→Instr.findNow d (f x) (e :: es) n=r:=fun r h=>by
        simp only [Instr.findNow,hk,hd]
        rw [show decide (x=p.1)=false from decide_eq_false hx];exact h
      rcases WW hd x (n+1) hr with ⟨h1,h2⟩ | ⟨i,v,h1,h2⟩
      · exact .inl ⟨hn _ h1,by simp [KQ,hx,h2]⟩
      · refine .inr ⟨i + 1, v, hn _ (by rw [h1]; congr 3; omega), ?_⟩
        simp only [List.eraseIdx_cons_succ,KQ,hx,decide_false,cond_false]
        exact ⟨⟨hk,hv⟩,h2⟩
theorem YL {T K E:TypeId} {rk:Rep α} {f:α→Value} {rv:Rep β} {s:Nat} {x i:Operand} {l:List (α×β)} {y:α} {ts:Array TypeId} (hf:Dz P K rk f) (hT:P.underlying T=some (.map K E)) (hts:ts[0]? = some T) (W:Wr)
    (ho:o.op = .call { callee:=.builtin .delete,args:=#[x,i],argTypes:=ts }) (hx:WQ N x W s) (hi:di N i (fV rk y)) (hds:Qc o.dst s=true):eG P o N [(s,W.ap (eU f rv l))] bF.uf [(s,some (W.ap (eU f rv (KQ l y))))]:=by
  intro κ B F L h a w hst hn hk _ next Q hnext _
  obtain ⟨e,hL,hq⟩:=hk.1
  obtain ⟨b,hvb,rfl⟩:=Wr.iff.1 hq
  have hx':a.eval x = .map (some b):=(hx h a hn).trans hvb
  have hi':=hf.is (hi h a hn)
  obtain ⟨es,clock,hb,hr,hB⟩:=U8 hst hL
  obtain ⟨d,hdd,WU⟩:=hf.now
  have hgs:∀ v,(a.put o.dst v).gt s=a.gt s:=fun v=>C9 (by
    intro hd;unfold Qc at hds;rw [hd] at hds
    simp [Nat.beq_refl] at hds)
  have fin:∀ es':Array MapEntry,Ef f rv h es'.toList (KQ l y)→BU es'.toList clock→(execOp a.eval o).run P w = .ok (.value (.tuple #[])) (Be w b (.map es' clock))→o.sF P a w next Q:=by
    intro es' hrel hbn hrun
    unfold Oper.sF
    rw [hrun]
    refine hnext _ h _ (set1 L s (wF b f rv (KQ l y))) (og.refl h) trivial ?_ ?_
    · obtain ⟨hcl,_⟩:=hst.own (k:=Sum.inl s) hL
      have hno:=(hcl (b,0) (by simp [wF])).2.2
      have hlt:=(hcl (b,0) (by simp [wF])).2.1
      refine hst.step (hnf:=hst.Ph (k:=Sum.inl s) hL (by simp [wF])) (Sum.inl s) (fun i=>i=b) (fun i hi _=>⟨_,hL,(b,0),by simp [wF],hi.symm⟩) (by simp [Be]) rfl rfl rfl (fun i _ hi=>Sr hi) (og.refl h) (fun _ _ _ _=>rfl) ?_ vY ?_
      · rintro i o' u (rfl | hi) hu
        · rw [hno o' (Nat.zero_le _)] at hu;cases hu
        · rw [hst.fresh hi] at hu;cases hu
      · intro e' he
        rw [vZ he]
        refine ⟨fun c hc=>?_,es',clock,Sm hb,hrel,hbn⟩
        simp only [wF,List.mem_singleton] at hc
        subst hc
        exact ⟨.inr ⟨_,hL,(b,0),by simp [wF],rfl⟩,by simpa [Be] using hlt,fun o' _=>hno o' (Nat.zero_le _)⟩
    · refine oI ?_
      rw [hgs]
      exact Wr.iff.2 ⟨b,hvb,rfl⟩
  rcases WW WU y 0 hr with ⟨h1,h2⟩ | ⟨j,v,h1,h2⟩
  · refine fin es (by rw [h2]; exact hr) hB ?_
    simp [execOp,ho,resolve,invoke,builtin,Builtin.delete_,hts,hx',hi',run_underlying hT,MapKept.run_getObj_map hb,hf.chk,run_findKey hdd h1,MapKept.run_setObj_map _ hb,Be]
  · rw [Nat.zero_add] at h1
    refine fin (es.eraseIdxIfInBounds j) (by rw [Array.toList_eraseIdxIfInBounds];exact h2) (by rw [Array.toList_eraseIdxIfInBounds];exact hB.eraseIdx) ?_
    simp [execOp,ho,resolve,invoke,builtin,Builtin.delete_,hts,hx',hi',run_underlying hT,MapKept.run_getObj_map hb,hf.chk,run_findKey hdd h1,MapKept.run_setObj_map _ hb,Be]
theorem XT {T K E:TypeId} {rk:Rep α} {f:α→Value} {rv:Rep β} {s:Nat} {sv:Value} {x i:Operand} {l:List (α×β)} {y:α} {ts:Array TypeId} (hf:Dz P K rk f) (hT:P.underlying T=some (.map K E)) (hts:ts[0]? = some T)
  (ho:o.op = .call { callee:=.builtin .delete,args:=#[x,i],argTypes:=ts }) (hx:di N x (jh sv)) (hi:di N i (fV rk y)) (hds:Qc o.dst s=true):eG P o N [(s,iI (eU f rv l) sv)] bF.uf [(s,some (iI (eU f rv (KQ l y)) sv))]:=YL hf hT hts (.val sv) ho (.val hx) hi hds
end
theorem jQ8 {q:gG} {s d:Nat} {x:Operand} (hsd:Nat.beq s d=false) (hd:o.dst=some d) (ho:o.op = .move x∨o.op = .assign x) (hx:di N x (Uh s)):eG P o N [(s,q)] bF.uf [(s,none),(d,some q)]:=by
 intro κ B F L h a w hst hn hk hdn next Q hnext _
 obtain ⟨e,hL,hq⟩:=hk.1
 have hx':a.eval x=a.gt s:=hx h a hn
 have hne:s≠d:=fun x=>by rw [jL.2 x] at hsd;cases hsd
 unfold Oper.sF
 have:(execOp a.eval o).run P w = .ok (.value (a.gt s)) w:=by rcases ho with ho | ho <;> simp [execOp,ho,hx']
 rw [this]
 refine hnext _ h w _ (og.refl h) trivial (hst.mv s d) ?_
 rw [hd]
 exact LK hne hL (by rw [iL (hdn d hd)];exact hq)
end Go.KB
namespace Go.KB
variable {P:Program} {o:Oper} {N:List (Nat×bF)} {α β:Type}
def jXf (r:Rep α) (h:H) (v:Value):Option α→Prop
 | none=>v = .pointer none
 | some x=>∃ b off,v = .pointer (some ⟨b,off,none⟩)∧DC r h b off x
def Rep.ptr (r:Rep α):Rep (Option α) where
 sz:=1
 agg:=false
 rel:=fun h cs x=>∃ v,cs=[v]∧jXf r h v x
 zero:=none
 zc:=[.pointer none]
 one:=fun _=>rfl
 len:=fun ⟨v,e,_⟩=>by rw [e];rfl
 flat:=fun {h cs x} ⟨v,e,k⟩ c hc=>by
  rw [e] at hc;simp at hc;rw [hc]
  cases x with
  | none=>rw [show v=_ from k];rfl
  | some x=>obtain ⟨b,off,rfl,_⟩:=k;rfl
 mono:=fun {h h' cs x} hl ⟨v,e,k⟩=>⟨v,e,by
  cases x with
  | none=>exact k
  | some x=>obtain ⟨b,off,e,k⟩:=k;exact ⟨b,off,e,k.mono hl⟩⟩
 AP:=fun _=>⟨_,rfl,rfl⟩
theorem ZI {r:Rep α} {h:H} {v:Value} {x:Option α}:(Rep.ptr r).val h v x↔jXf r h v x :=
 ⟨fun ⟨_,⟨v',e,k⟩,e'⟩=>by rw [e',e];exact k,fun k=>⟨[v],⟨v,rfl,k⟩,rfl⟩⟩
theorem opdP0 {r:Rep α}:di N (.const (.pointer none)) (fV (Rep.ptr r) none):=fun _ _ _=>ZI.2 rfl
theorem Yb {T T':TypeId} {r:Rep α} {x:Operand} {q:Option α} (hT:P.underlying T=some (.pointer (P.pointee T))) (ho:o.op = .binOp .eql T x (.const (.pointer none)) T') (hx:di N x (fV (Rep.ptr r) q)):eG P o N [] (fV Rep.bool q.isNone) [] :=
 eG.xA fun h a w _ n=>by
  have hg:∀ p,(eqGuard .eql T x (.const (.pointer none)) (.pointer p) (.pointer none)).run P w = .ok () w:=by
   intro p;unfold eqGuard;rfl
  have hv:=ZI.1 (hx h a n)
  cases q with
  | none =>
   have hv:a.eval x = .pointer none:=hv
   exact ⟨.bool true,by simp only [execOp,ho,hv,show a.eval (.const (.pointer none)) = .pointer none from rfl,hg,Sem.run_bind,Result.andThen_ok,Sem.run_pure,run_eql_pointer_nil w T none hT];rfl,pz.2 rfl⟩
  | some y =>
   obtain ⟨b,off,hv,_⟩:=hv
   exact ⟨.bool false,by simp only [execOp,ho,hv,show a.eval (.const (.pointer none)) = .pointer none from rfl,hg,Sem.run_bind,Result.andThen_ok,Sem.run_pure,run_eql_pointer_nil w T (some ⟨b,off,none⟩) hT];rfl,pz.2 rfl⟩
end Go.KB
namespace Go.KB
variable {P:Program} {o:Oper} {N:List (Nat×bF)} {α β:Type}
theorem vk {s i:Nat} {ι:Type} {q0 q0':gG} {q q':ι→gG} {fx:bF} {f:FuncId} {fn:Func} {args:List bF} {post:bF} {xs:Array Operand} {ts:Array TypeId} {y:Operand}
  (hc:∀ k,IU P f args i (q k) (q' k) post) (hb:y9 s fx q0 q0' q q') (hfx:fx.dep=some s) (hf:P.funcs[f]? = some fn) (hbd:xY fn=true) (hd:rO (post :: args)=true) (hds:Qc o.dst s=true)
  (ho:o.op = .call { callee:=.value (.func f),args:=xs,argTypes:=ts }) (hy:xs.toList[i]? = some y) (hyx:di N y fx) (hargs:zn N args xs.toList):eG P o N [(s,q0)] bF.uf [(s,some q0')] :=
 eG.out (qj hd post List.mem_cons_self) (fun _ _ _ _=>trivial) (jXh hc hb hfx hf hbd hd hds ho hy hyx hargs)
end Go.KB
namespace Go.KB
variable {P:Program} {o:Oper} {N:List (Nat×bF)} {α β:Type}
theorem Sv (z:Array Value) (n:Nat):(Builtin.zeroCells z (n+1)).toList=z.toList ++ (Builtin.zeroCells z n).toList:=by
  unfold Builtin.zeroCells
  simp only [Array.toList_map,Array.toList_range]
  rw [show (n+1) * z.size=z.size+n * z.size by rw [Nat.add_mul];omega,List.range_add,List.map_append,List.map_map]
  congr 1
  · refine List.ext_getElem (by simp) fun i h1 h2 => ?_
    have hi:i<z.size:=by simpa using h2
    simp [Nat.mod_eq_of_lt hi,hi]
  · refine List.map_congr_left fun i _ => ?_
    simp
theorem LJ (z:List Value):∀ n,(Builtin.zeroCells z.toArray n).toList=(List.replicate n z).flatten
 | 0=>by simp [Builtin.zeroCells]
 | n+1=>by rw [Sv,LJ z n,List.replicate_succ,List.flatten_cons]
end Go.KB
namespace Go.KB
section
variable {P:Program} {o:Oper} {N:List (Nat×bF)} {α:Type}
theorem bK {T:TypeId} {r:Rep α} {s:Nat} {y:α} (t:jw P T r) (ho:o.op = .load T (.tmp s)):eG P o ((s,cZ r y) :: N) [] (fV r y) []:=dZ t ho ak
theorem dJ {β:Type} {T:TypeId} {r:Rep α} {q:Rep β} {s:Nat} {y:α} {i off:Nat} {get:α→β} {set:α→β→α} (l:Lens r q off get set) (hf:bT P T i off) (ho:o.op = .fieldAddr T (.tmp s) i):eG P o ((s,cZ r y) :: N) [] (cZ q (get y)) []:=eF l hf ho ak
theorem iD {T:TypeId} {r:Rep α} {s v:Nat} {y z:α} (t:jw P T r) (ho:o.op = .store T (.tmp s) (.tmp v)) (hd:o.dst=none:=by rfl):eG P o ((v,fV r z) :: N) [(s,bW T r y)] bF.uf [(s,some (bW T r z))]:=WX t hd ho ak
def jXl:BinOp→Bool
 | .eql | .neq | .lss | .leq | .gtr | .geq=>true
 | _=>false
theorem Sz {op:BinOp} (h:jXl op=true):op = .eql∨op = .neq∨op = .lss∨op = .leq∨op = .gtr∨op = .geq:=by
 cases op <;> first | (cases h;done) | simp
theorem iE {op:BinOp} {k:IntKind} {T T':TypeId} {s:Nat} {m n:Int} (ho:o.op = .binOp op T (.tmp s) (.const (.int k n)) T') (hop:jXl op=true:=by rfl):eG P o ((s,fV (Rep.int k) m) :: N) [] (fV Rep.bool (aC op m n)) []:=gu (Sz hop) rfl ho ak bH
theorem gB {op:BinOp} {k:IntKind} {T T':TypeId} {s t:Nat} {m n:Int} (ho:o.op = .binOp op T (.tmp s) (.tmp t) T') (hop:jXl op=true:=by rfl):eG P o ((s,fV (Rep.int k) m) :: (t,fV (Rep.int k) n) :: N) [] (fV Rep.bool (aC op m n)) []:=gu (Sz hop) rfl ho ak aB
theorem eX {α β γ:Type} {x:Option α} {f:α→Option β} {g:α→β→Option γ} {r:γ} (h:(x.bind fun a=>(f a).bind (g a))=some r):∃ a,x=some a∧∃ b,f a=some b∧g a b=some r:=by
 obtain ⟨a,h1,h⟩:=aT h
 obtain ⟨b,h2,h⟩:=aT h
 exact ⟨a,h1,b,h2,h⟩
theorem tn {K:Act→World→Prop} {Q:Exit→Act→World→Prop} {a:Act} {w:World} (h:K a w):Exit.then K Q .normal a w:=h
theorem tr {K:Act→World→Prop} {Q:Exit→Act→World→Prop} {a:Act} {w:World} (h:Q .ret a w):Exit.then K Q .ret a w:=h
theorem ws {ρ:Option Nat} {Q:Exit→Act→World→Prop} {a:Act} {w:World} {x y:Code} (h:x.sF ρ P (Exit.then (y.sF ρ P Q) Q) a w):(Code.seq x y).sF ρ P Q a w:=wp_seq h
theorem wk {ρ:Option Nat} {Q:Exit→Act→World→Prop} {a:Act} {w:World} (h:Q .normal a w):Code.skip.sF ρ P Q a w:=wp_skip h
theorem wr {ρ:Option Nat} {Q:Exit→Act→World→Prop} {a:Act} {w:World} (h:Q .ret a w):Code.ret.sF ρ P Q a w:=wp_ret h
abbrev ln {α:Type} (l:List α):Int:=(List.length l:Int)
abbrev w3:Int→Int:=IntKind.u32.wrap
abbrev w1:Int→Int:=IntKind.u16.wrap
abbrev lS {α:Type} (r:Rep α):Rep (List α):=Rep.slice r
theorem jXm {L:Nat→Option iM} {s:Nat} {d:Option Nat} {a:Act}:Ko L (fun k=>if k=s then none else L k) (full [(s,none)] d) a:=by
  intro k
  by_cases hk:k=s
  · subst hk
    have:uP (full [(k,none)] d) k=some none:=by simp [full,uP,Nat.beq_refl]
    rw [this];trivial
  · have h1 : Nat.beq s k = false := by rw [Bool.eq_false_iff, Ne, jL]; exact fun x => hk x.symm
    cases d with
    | none =>
      have:uP (full [(s,none)] none) k=none:=by simp [full,uP,h1]
      rw [this];simp [hk]
    | some d =>
      cases h2:Nat.beq d k with
      | true =>
        have:uP (full [(s,none)] (some d)) k=some none:=by simp [full,uP,h1,h2]
        rw [this];trivial
      | false =>
        have:uP (full [(s,none)] (some d)) k=none:=by simp [full,uP,h1,h2]
        rw [this];simp [hk]
end
end Go.KB
