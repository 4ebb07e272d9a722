/- Variables whose fields are rows that are appended to. Fields of values; values whose fields are nil, and variables that take them. Maps that are owned: made, looked into, written. Pointers that are only read, nil among them; texts as rows of bytes. Functions that take a row over and hand a row back. Rows that grow from nothing: cap, cuts and appends of zeros at nil. Arrays: slices of arrays that are not written any more, elements of arrays. No condition. -/
import Derived.Test.YtochfcfkpachcaaGreatDoorKZb
import Derived.MapKept
import Derived.Laws.Pointers
import Derived.Lib.ConvBytes
import Derived.Lib.AppendZeros
namespace Go.KB
variable {P:Program} {o:Oper} {N:List (Nat×bD)} {f:bD} {α β:Type}
inductive Wr where
 | slot
 | val (sv:Value)
def dm (q:gQ) (sv:Value):gQ:=fun _ e=>q sv e
def Wr.ap (W:Wr) (q:gQ):gQ:=match W with | .slot=>q | .val sv=>dm q sv
def Wr.v (W:Wr) (a:Act) (g:Nat):Value:=match W with | .slot=>a.gt g | .val sv=>sv
theorem Wr.iff {W:Wr} {q:gQ} {a:Act} {g:Nat} {e:jh}:W.ap q (a.gt g) e↔q (W.v a g) e:=by cases W <;> rfl
def TR (N:List (Nat×bD)) (x:Operand) (W:Wr) (g:Nat):Prop:=∀ h a,EZ N h a→a.eval x=W.v a g
theorem TR.slot {x:Operand} {g:Nat} (hx:dD N x (UI g)):TR N x .slot g:=fun h a n=>hx h a n
theorem TR.val {x:Operand} {g:Nat} {sv:Value} (hx:dD N x (fJ sv)):TR N x (.val sv) g:=fun h a n=>hx h a n
theorem Wr.v_put {W:Wr} {a:Act} {s d:Nat} {v:Value} (h:s≠d):W.v (a.put (some d) v) s=W.v a s:=by
 cases W with
 | slot=>exact KU h
 | val sv=>rfl
def TS (N:List (Nat×bD)) (x:Operand) (W:Wr) (s off:Nat):Prop:=∀ h a,EZ N h a→∃ b,W.v a s = .pointer (some ⟨b,0,none⟩)∧a.eval x = .pointer (some ⟨b,off,none⟩)
def qF (sv:Value) (off:Nat):bD:=⟨none,fun _ _ v=>∃ b,sv = .pointer (some ⟨b,0,none⟩)∧v = .pointer (some ⟨b,off,none⟩),fun _ x=>x⟩
theorem TS.slot {x:Operand} {s off:Nat} (hx:dD N x (BD s off)):TS N x .slot s off:=fun h a n=>hx h a n
theorem TS.val {x:Operand} {s off:Nat} {sv:Value} (hx:dD N x (qF sv off)):TS N x (.val sv) s off:=fun h a n=>hx h a n
structure dM where
 off:Nat
 E:TypeId
 sz:Nat
def tK:List dM→List (Nat×Value×jh)→Prop
 | [],[]=>True
 | t :: ts,u :: us=>(u.1=t.off∧dN t.E t.sz u.2.1 u.2.2)∧tK ts us
 | _,_=>False
theorem tK.mid {t:dM} {l2:List dM}:∀ {l1:List dM} {us:List (Nat×Value×jh)},tK (l1 ++ t :: l2) us →
  ∃ FY u GY,us=FY ++ u :: GY∧u.1=t.off∧dN t.E t.sz u.2.1 u.2.2∧tK l1 FY∧tK l2 GY:=by
 intro l1
 induction l1 with
 | nil =>
  intro us h
  cases us with
  | nil=>exact h.elim
  | cons u us=>exact ⟨[],u,us,rfl,h.1.1,h.1.2,trivial,h.2⟩
 | cons t1 l1 ih =>
  intro us h
  cases us with
  | nil=>exact h.elim
  | cons u0 us =>
   obtain ⟨FY,u,GY,rfl,h1,h2,h3,h4⟩:=ih h.2
   exact ⟨u0 :: FY,u,GY,rfl,h1,h2,⟨h.1,h3⟩,h4⟩
theorem tK.app {l2:List dM} {GY:List (Nat×Value×jh)} (h2:tK l2 GY):∀ {l1:List dM} {FY:List (Nat×Value×jh)},tK l1 FY→tK (l1 ++ l2) (FY ++ GY):=by
 intro l1
 induction l1 with
 | nil =>
  intro FY h
  cases FY with
  | nil=>exact h2
  | cons u us=>exact h.elim
 | cons t1 l1 ih =>
  intro FY h
  cases FY with
  | nil=>exact h.elim
  | cons u0 us=>exact ⟨h.1,ih h.2⟩
theorem tK.offs:∀ {l:List dM} {us:List (Nat×Value×jh)},tK l us→∀ u ∈ us,∃ t ∈ l,u.1=t.off:=by
 intro l
 induction l with
 | nil =>
  intro us h u hu
  cases us with
  | nil=>cases hu
  | cons _ _=>exact h.elim
 | cons t l ih =>
  intro us h u hu
  cases us with
  | nil=>exact h.elim
  | cons u0 us =>
   rcases List.mem_cons.1 hu with rfl | hu
   ·exact ⟨t,List.mem_cons_self,h.1.1⟩
   ·obtain ⟨t',ht',e⟩:=ih h.2 u hu
    exact ⟨t',List.mem_cons_of_mem _ ht',e⟩
theorem tK.cut {l2:List dM}:∀ {l1:List dM} {us:List (Nat×Value×jh)},tK (l1 ++ l2) us→∃ FY GY,us=FY ++ GY∧tK l1 FY∧tK l2 GY:=by
 intro l1
 induction l1 with
 | nil=>intro us h;exact ⟨[],us,rfl,trivial,h⟩
 | cons t1 l1 ih =>
  intro us h
  cases us with
  | nil=>exact h.elim
  | cons u0 us =>
   obtain ⟨FY,GY,rfl,h3,h4⟩:=ih h.2
   exact ⟨u0 :: FY,GY,rfl,⟨h.1,h3⟩,h4⟩
def Jy (a b:List (Nat×Nat)):Prop:=∀ c ∈ a,∀ c' ∈ b,c.1≠c'.1
def BoxOk (b:Nat) (us:List (Nat×Value×jh)):Prop:=(us.map (fun u=>u.2.2.claims)).Pairwise Jy∧∀ u ∈ us,∀ c ∈ u.2.2.claims,c.1≠b
def MQ (us:List (Nat×Value×jh)):List (Nat×Nat):=us.flatMap (fun u=>u.2.2.claims)
def mJ (b:Nat) (T:TypeId) (r:Rep α) (x:α) (us:List (Nat×Value×jh)):jh where
 claims:=(b,0) :: MQ us
 ok:=fun h m=>(∃ cs,m b=some (.cells cs.toArray T (0,0))∧r.rel h cs x∧∀ u ∈ us,cs[u.1]? = some u.2.1)∧∀ u ∈ us,u.2.2.ok h m
 mono:=by
  intro h h' m hl ⟨⟨cs,e,k,l⟩,q⟩
  exact ⟨⟨cs,e,r.mono hl k,l⟩,fun u hu=>u.2.2.mono hl (q u hu)⟩
 frame:=by
  intro h m m' hm ⟨⟨cs,e,k,l⟩,q⟩
  refine ⟨⟨cs,by rw [hm (b,0) (by simp)];exact e,k,l⟩,fun u hu=>u.2.2.frame (fun c hc=>hm c ?_) (q u hu)⟩
  exact List.mem_cons_of_mem _ (List.mem_flatMap.2 ⟨u,hu,hc⟩)
def dS (T:TypeId) (r:Rep α) (x:α) (ts:List dM):gQ:=fun v e=>∃ b us,v = .pointer (some ⟨b,0,none⟩)∧tK ts us∧BoxOk b us∧e=mJ b T r x us
theorem St.split2 {κ:Type} {B:Base} {h:H} {L:Nat→Option jh} {F:κ→Option jh} {w:World} (hst:St B h (Sum.elim L F) w) {s d:Nat} {e e1 e2:jh} (hL:L s=some e) (_:s≠d)
    (h1:∀ c ∈ e1.claims,c ∈ e.claims) (h2:∀ c ∈ e2.claims,c ∈ e.claims) (hd:Jy e1.claims e2.claims) (k1:e1.ok h (World.mem w)) (k2:e2.ok h (World.mem w)) :
    St B h (Sum.elim (set1 (set1 L s e1) d e2) F) w:=by
  obtain ⟨hcl,_⟩:=hst.own (k:=Sum.inl s) hL
  have hval:∀ k e',set1 (set1 L s e1) d e2 k=some e'→(k=d∧e'=e2)∨(k=s∧e'=e1)∨(k≠s∧k≠d∧L k=some e'):=by
    intro k e' hk
    unfold set1 at hk
    split at hk
    · rename_i hkd;exact .inl ⟨hkd,(Option.some.inj hk).symm⟩
    · rename_i hkd
      split at hk
      · rename_i hks;exact .inr (.inl ⟨hks,(Option.some.inj hk).symm⟩)
      · rename_i hks;exact .inr (.inr ⟨hks,hkd,hk⟩)
  refine ⟨hst.low,hst.base,fun x=>hst.ext x,?_,?_,hst.mark,fun x i y=>hst.nf x i y⟩
  · intro k e' hk
    cases k with
    | inr k=>exact hst.own (k:=Sum.inr k) hk
    | inl k =>
      rcases hval k e' hk with ⟨_,rfl⟩ | ⟨_,rfl⟩ | ⟨_,_,hk⟩
      · exact ⟨fun c hc=>hcl c (h2 c hc),k2⟩
      · exact ⟨fun c hc=>hcl c (h1 c hc),k1⟩
      · exact hst.own (k:=Sum.inl k) hk
  · have other : ∀ (k : Nat ⊕ κ) e', Sum.elim L F k = some e' → k ≠ Sum.inl s → ∀ c ∈ e.claims, ∀ c' ∈ e'.claims, c.1 ≠ c'.1 := fun k e' hk hne => hst.vN (k := Sum.inl s) hL hk (Ne.symm hne)
    intro k k' a a' hk hk' hne c hc c' hc'
    cases k with
    | inr k =>
      cases k' with
      | inr k'=>exact hst.vN (k:=Sum.inr k) (k':=Sum.inr k') hk hk' hne c hc c' hc'
      | inl k' =>
        rcases hval k' a' hk' with ⟨_,rfl⟩ | ⟨_,rfl⟩ | ⟨h3,_,hk'⟩
        · exact (other (.inr k) a hk (by simp) c' (h2 _ hc') c hc).symm
        · exact (other (.inr k) a hk (by simp) c' (h1 _ hc') c hc).symm
        · exact hst.vN (k:=Sum.inr k) (k':=Sum.inl k') hk hk' (by simp) c hc c' hc'
    | inl k =>
      cases k' with
      | inr k' =>
        rcases hval k a hk with ⟨_,rfl⟩ | ⟨_,rfl⟩ | ⟨h3,_,hk⟩
        · exact other (.inr k') a' hk' (by simp) c (h2 _ hc) c' hc'
        · exact other (.inr k') a' hk' (by simp) c (h1 _ hc) c' hc'
        · exact hst.vN (k:=Sum.inl k) (k':=Sum.inr k') hk hk' (by simp) c hc c' hc'
      | inl k' =>
        have hne':k≠k':=fun x=>hne (by rw [x])
        rcases hval k a hk with ⟨e3,rfl⟩ | ⟨e3,rfl⟩ | ⟨h3,h4,hk2⟩ <;> rcases hval k' a' hk' with ⟨e4,rfl⟩ | ⟨e4,rfl⟩ | ⟨h5,h6,Xv⟩
        · exact absurd (e3.trans e4.symm) hne'
        · exact (hd c' hc' c hc).symm
        · exact other (.inl k') a' Xv (fun x=>h5 (Sum.inl.inj x)) c (h2 _ hc) c' hc'
        · exact hd c hc c' hc'
        · exact absurd (e3.trans e4.symm) hne'
        · exact other (.inl k') a' Xv (fun x=>h5 (Sum.inl.inj x)) c (h1 _ hc) c' hc'
        · exact (other (.inl k) a hk2 (fun x=>h3 (Sum.inl.inj x)) c' (h2 _ hc') c hc).symm
        · exact (other (.inl k) a hk2 (fun x=>h3 (Sum.inl.inj x)) c' (h1 _ hc') c hc).symm
        · exact hst.vN (k:=Sum.inl k) (k':=Sum.inl k') hk2 Xv (fun x=>hne' (Sum.inl.inj x)) c hc c' hc'
def Eg (L:Nat→Option jh) (s d:Nat) (e:jh):Nat→Option jh:=fun k=>if k=d then none else if k=s then some e else L k
theorem St.Eg {κ:Type} {B:Base} {h:H} {L:Nat→Option jh} {F:κ→Option jh} {w:World} (hst:St B h (Sum.elim L F) w) {s d:Nat} {e e1 e2:jh} (hL:L s=some e1) (hL2:L d=some e2)
  (hc:∀ c ∈ e.claims,c ∈ e1.claims∨c ∈ e2.claims) (ho:e.ok h (World.mem w)):St B h (Sum.elim (Eg L s d e) F) w:=by
 obtain ⟨hcl1,_⟩:=hst.own (k:=Sum.inl s) hL
 obtain ⟨hcl2,_⟩:=hst.own (k:=Sum.inl d) hL2
 have hval:∀ k e',KB.Eg L s d e k=some e'→(k=s∧e'=e)∨(k≠s∧k≠d∧L k=some e'):=by
  intro k e' hk
  unfold KB.Eg at hk
  split at hk
  ·cases hk
  ·rename_i hkd
   split at hk
   ·rename_i hks;exact .inl ⟨hks,(Option.some.inj hk).symm⟩
   ·rename_i hks;exact .inr ⟨hks,hkd,hk⟩
 refine ⟨hst.low,hst.base,fun x=>hst.ext x,?_,?_,hst.mark,fun x i y=>hst.nf x i y⟩
 ·intro k e' hk
  cases k with
  | inr k=>exact hst.own (k:=Sum.inr k) hk
  | inl k =>
   rcases hval k e' hk with ⟨_,rfl⟩ | ⟨_,_,hk⟩
   ·exact ⟨fun c hcc=>(hc c hcc).elim (hcl1 c) (hcl2 c),ho⟩
   ·exact hst.own (k:=Sum.inl k) hk
 ·have other:∀ (k:Nat ⊕ κ) e',Sum.elim L F k=some e'→k≠Sum.inl s→k≠Sum.inl d→∀ c ∈ e.claims,∀ c' ∈ e'.claims,c.1≠c'.1:=by
   intro k e' hk hn1 hn2 c hcc
   rcases hc c hcc with h1 | h1
   ·exact hst.vN (k:=Sum.inl s) hL hk (Ne.symm hn1) c h1
   ·exact hst.vN (k:=Sum.inl d) hL2 hk (Ne.symm hn2) c h1
  intro k k' a a' hk hk' hne c hcc c' Oy
  cases k with
  | inr k =>
   cases k' with
   | inr k'=>exact hst.vN (k:=Sum.inr k) (k':=Sum.inr k') hk hk' hne c hcc c' Oy
   | inl k' =>
    rcases hval k' a' hk' with ⟨_,rfl⟩ | ⟨h3,_,hk'⟩
    ·exact (other (.inr k) a hk (by simp) (by simp) c' Oy c hcc).symm
    ·exact hst.vN (k:=Sum.inr k) (k':=Sum.inl k') hk hk' (by simp) c hcc c' Oy
  | inl k =>
   cases k' with
   | inr k' =>
    rcases hval k a hk with ⟨_,rfl⟩ | ⟨h3,_,hk⟩
    ·exact other (.inr k') a' hk' (by simp) (by simp) c hcc c' Oy
    ·exact hst.vN (k:=Sum.inl k) (k':=Sum.inr k') hk hk' (by simp) c hcc c' Oy
   | inl k' =>
    have hne':k≠k':=fun x=>hne (by rw [x])
    rcases hval k a hk with ⟨e3,rfl⟩ | ⟨h3,h4,hk2⟩ <;> rcases hval k' a' hk' with ⟨e4,rfl⟩ | ⟨h5,h6,Xv⟩
    ·exact absurd (e3.trans e4.symm) hne'
    ·exact other (.inl k') a' Xv (fun x=>h5 (Sum.inl.inj x)) (fun x=>h6 (Sum.inl.inj x)) c hcc c' Oy
    ·exact (other (.inl k) a hk2 (fun x=>h3 (Sum.inl.inj x)) (fun x=>h4 (Sum.inl.inj x)) c' Oy c hcc).symm
    ·exact hst.vN (k:=Sum.inl k) (k':=Sum.inl k') hk2 Xv (fun x=>hne' (Sum.inl.inj x)) c hcc c' Oy
theorem Dx {κ:Type} {B:Base} {h:H} {L:Nat→Option jh} {F:κ→Option jh} {w:World} (hst:St B h (Sum.elim L F) w) {s b:Nat} {T:TypeId} {r:Rep α} {x:α} {us:List (Nat×Value×jh)}
  (hk:L s=some (mJ b T r x us)):(∃ cs,w.heap[b]? = some (.cells cs.toArray T (0,0))∧r.rel h cs x∧∀ u ∈ us,cs[u.1]? = some u.2.1)∧∀ u ∈ us,u.2.2.ok h (World.mem w):=(hst.own (k:=Sum.inl s) hk).2
theorem yR {T T':TypeId} {r:Rep α} {y:α} {ts:List dM} {s i off:Nat} (hf:dL P T i off) (ho:o.op = .fieldAddr T (.tmp s) i):fC P o N [(s,dS T' r y ts)] (BD s off) []:=by
 intro κ B F L h a w hst hn hk _ next Q hnext _
 obtain ⟨e,_,b,us,hv,_⟩:=hk.1
 unfold Oper.qB
 have hv':a.eval (.tmp s) = .pointer (some ⟨b,0,none⟩):=hv
 have:(execOp a.eval o).run P w = .ok (.value (.pointer (some ⟨b,off,none⟩))) w:=by simp [execOp,ho,hv',hf b 0 w]
 rw [this]
 exact hnext _ h w L (nO.refl h) ⟨b,hv,rfl⟩ hst nY
theorem dh {T T':TypeId} {r:Rep α} {y:α} {ts:List dM} {s i off:Nat} {sv:Value} {x:Operand} (hf:dL P T i off) (ho:o.op = .fieldAddr T x i) (hx:dD N x (fJ sv)):fC P o N [(s,dm (dS T' r y ts) sv)] (qF sv off) []:=by
 intro κ B F L h a w hst hn hk _ next Q hnext _
 obtain ⟨e,_,b,us,hv,_⟩:=hk.1
 have hv':a.eval x = .pointer (some ⟨b,0,none⟩):=(hx h a hn:a.eval x=sv).trans hv
 unfold Oper.qB
 have:(execOp a.eval o).run P w = .ok (.value (.pointer (some ⟨b,off,none⟩))) w:=by simp [execOp,ho,hv',hf b 0 w]
 rw [this]
 exact hnext _ h w L (nO.refl h) ⟨b,hv,rfl⟩ hst nY
theorem pJ {T:TypeId} {i off off':Nat} {sv:Value} {x:Operand} (hf:dL P T i off) (ho:o.op = .fieldAddr T x i) (hx:dD N x (qF sv off')):fC P o N [] (qF sv (off'+off)) [] :=
 fC.rM fun h a w _ q=>by
  obtain ⟨b,hd,hv⟩:=hx h a q
  exact ⟨.pointer (some ⟨b,off'+off,none⟩),by simp [execOp,ho,hv,hf b off' w],b,hd,rfl⟩
theorem dD.off0 {T':TypeId} {r:Rep α} {y:α} {ts:List dM} {sv:Value} {x:Operand} {h:H} {a:Act} {e:jh} (hx:dD N x (fJ sv)) (hn:EZ N h a) (hk:dS T' r y ts sv e):∃ b,sv = .pointer (some ⟨b,0,none⟩)∧a.eval x = .pointer (some ⟨b,0,none⟩):=by
 obtain ⟨b,us,hv,_⟩:=hk
 exact ⟨b,hv,(hx h a hn:a.eval x=sv).trans hv⟩
theorem Kq {T T':TypeId} {r:Rep α} {q:Rep β} {ts:List dM} {s off:Nat} {x:Operand} {y:α} {get:α→β} {set:α→β→α} (l:Lens r q off get set) (t:kH P T q) (W:Wr) (ho:o.op = .load T x) (hx:TS N x W s off) :
  fC P o N [(s,W.ap (dS T' r y ts))] (fV q (get y)) []:=by
 intro κ B F L h a w hst hn hk _ next Q hnext _
 obtain ⟨b,hd,hv⟩:=hx h a hn
 obtain ⟨e,hL,hqW⟩:=hk.1
 obtain ⟨b',us,hv',_,_,rfl⟩:=Wr.iff.1 hqW
 have hd':W.v a s = .pointer (some ⟨b,0,none⟩):=hd
 rw [hd'] at hv';cases hv'
 obtain ⟨⟨cs,hb,hr,_⟩,_⟩:=Dx hst hL
 obtain ⟨c,hc,hrun⟩:=yO t l hb hr
 unfold Oper.qB
 have:(execOp a.eval o).run P w = .ok (.value (pack q.agg c)) w:=by simp [execOp,ho,hv,hrun]
 rw [this]
 exact hnext _ h w L (nO.refl h) ⟨c,hc,rfl⟩ hst nY
theorem zK {T T':TypeId} {r:Rep α} {q:Rep β} {ts:List dM} {s off:Nat} {x:Operand} {y:α} {get:α→β} {set:α→β→α} (l:Lens r q off get set) (t:kH P T q) (ho:o.op = .load T x) (hx:dD N x (BD s off)) :
  fC P o N [(s,dS T' r y ts)] (fV q (get y)) []:=Kq l t .slot ho (.slot hx)
theorem dI {sv:Value} {T T':TypeId} {r:Rep α} {q:Rep β} {ts:List dM} {s off:Nat} {x:Operand} {y:α} {get:α→β} {set:α→β→α} (l:Lens r q off get set) (t:kH P T q) (ho:o.op = .load T x) (hx:dD N x (qF sv off)) :
  fC P o N [(s,dm (dS T' r y ts) sv)] (fV q (get y)) []:=Kq l t (.val sv) ho (.val hx)
theorem EG {T T':TypeId} {r:Rep α} {ts:List dM} {s:Nat} {sv:Value} {y:α} {x:Operand} (t:kH P T r) (ho:o.op = .load T x) (hx:dD N x (fJ sv)) :
  fC P o N [(s,dm (dS T' r y ts) sv)] (fV r y) []:=by
 intro κ B F L h a w hst hn hk _ next Q hnext _
 obtain ⟨e,hL,b,us,hv,_,_,rfl⟩:=hk.1
 have hv':a.eval x = .pointer (some ⟨b,0,none⟩):=(hx h a hn:a.eval x=sv).trans hv
 obtain ⟨⟨cs,hb,hr,_⟩,_⟩:=Dx hst hL
 obtain ⟨c,hc,hrun⟩:=yO t (Lens.refl r) hb hr
 unfold Oper.qB
 have:(execOp a.eval o).run P w = .ok (.value (pack r.agg c)) w:=by simp [execOp,ho,hv',hrun]
 rw [this]
 exact hnext _ h w L (nO.refl h) ⟨c,hc,rfl⟩ hst nY
def P8:Value:=.slice none 0 0
def zu (cs:List Value):List dM→Prop
 | []=>True
 | t :: ts=>cs[t.off]? = some P8∧zu cs ts
def Hu (ts:List dM):List (Nat×Value×jh):=ts.map (fun t=>(t.off,P8,FZ))
theorem IE:∀ (ts:List dM),tK ts (Hu ts)
 | []=>trivial
 | _ :: ts=>⟨⟨rfl,.inl ⟨none,0,rfl,rfl⟩⟩,IE ts⟩
theorem IC {ts:List dM} {u:Nat×Value×jh} (hu:u ∈ Hu ts):u.2.2=FZ∧u.2.1=P8:=by
 obtain ⟨t,_,rfl⟩:=List.mem_map.1 hu;exact ⟨rfl,rfl⟩
theorem J8 (b:Nat):∀ (ts:List dM),BoxOk b (Hu ts)
 | []=>⟨List.Pairwise.nil,fun u hu=>by cases hu⟩
 | t :: ts=>⟨List.Pairwise.cons (fun l _ c hc=>by cases hc) (J8 b ts).1,fun u hu c hc=>by rw [(IC hu).1] at hc;cases hc⟩
theorem J7:∀ (ts:List dM),MQ (Hu ts)=[]
 | []=>rfl
 | _ :: ts=>J7 ts
theorem zu.at {cs:List Value}:∀ {ts:List dM},zu cs ts→∀ u ∈ Hu ts,cs[u.1]? = some u.2.1:=by
 intro ts
 induction ts with
 | nil=>intro _ u hu;cases hu
 | cons t ts ih =>
  intro h u hu
  rcases List.mem_cons.1 hu with rfl | hu
  ·exact h.1
  ·exact ih h.2 u hu
theorem Xf {T:TypeId} {r:Rep α} {d:Nat} (ts:List dM) (t:kH P T r) (hz:zu r.zc ts) (hd:o.dst=some d) (ho:o.op = .alloc T):fC P o N [] bD.qy [(d,some (dS T r r.zero ts))]:=by
 intro κ B F L h a w hst hn _ hdn next Q hnext _
 unfold Oper.qB
 have:(execOp a.eval o).run P w = .ok (.value (.pointer (some ⟨w.heap.size,0,none⟩))) (w.alloc (.cells r.zc.toArray T)):=by
  simp [execOp,ho,Instr.alloc,t.zero,DR (r.xq h)]
 rw [this]
 refine hnext _ h _ (set1 L d (mJ w.heap.size T r r.zero (Hu ts))) (nO.refl h) trivial (hst.zS _ d _ ?_ ⟨⟨_,zT _ _,r.xq h,hz.at⟩,fun u hu=>by rw [(IC hu).1];trivial⟩) ?_
 ·intro c hc
  have:c ∈ (w.heap.size,0) :: MQ (Hu ts):=hc
  rw [J7] at this
  simp at this;rw [this]
 rw [hd]
 exact nP ⟨_,_,iQ (hdn d hd),IE ts,J8 _ ts,rfl⟩
def apartB (off sz:Nat) (ts:List dM):Bool:=ts.all (fun t=>Nat.blt t.off off||Nat.ble (off+sz) t.off)
theorem BX {off sz:Nat} {ts:List dM} (h:apartB off sz ts=true):∀ t ∈ ts,t.off<off∨off+sz≤t.off:=by
 intro t ht
 have:=List.all_eq_true.1 h t ht
 simpa [Nat.blt_eq] using this
theorem QA {p c c' q:List Value} {off sz i:Nat} (hp:p.length=off) (hc:c.length=sz) (hc':c'.length=sz) (h:i<off∨off+sz≤i):(p ++ c' ++ q)[i]? = (p ++ c ++ q)[i]?:=by
  rcases h with h | h
  · rw [List.append_assoc,List.append_assoc,List.getElem?_append_left (by omega),List.getElem?_append_left (by omega)]
  · rw [List.getElem?_append_right (by simp; omega), List.getElem?_append_right (by simp; omega)]
    congr 1;simp;omega
theorem Xw {h:H} {w w':World} {b:Nat} {us:List (Nat×Value×jh)} (Ls:BoxOk b us) (hw:∀ i,i≠b→w'.heap[i]? = w.heap[i]?) (h2:∀ u ∈ us,u.2.2.ok h (World.mem w)):∀ u ∈ us,u.2.2.ok h (World.mem w') :=
 fun u hu=>u.2.2.frame (fun c hc=>hw c.1 (Ls.2 u hu c hc)) (h2 u hu)
theorem BoxOk.sub {b:Nat} {us YW:List (Nat×Value×jh)} (h:YW.Sublist us) (hb:BoxOk b us):BoxOk b YW :=
 ⟨hb.1.sublist (h.map _),fun u hu=>hb.2 u (h.subset hu)⟩
theorem Oo {us YW:List (Nat×Value×jh)} (h:YW.Sublist us):∀ c ∈ MQ YW,c ∈ MQ us:=by
 intro c hc
 obtain ⟨u,hu,hcu⟩:=List.mem_flatMap.1 hc
 exact List.mem_flatMap.2 ⟨u,h.subset hu,hcu⟩
theorem Ef {T T':TypeId} {r:Rep α} {q:Rep β} {off:Nat} {y:α} {z:β} {get:α→β} {set:α→β→α} (l:Lens r q off get set) (t:kH P T q) {κ:Type} {B:Base} {F:κ→Option jh} {L:Nat→Option jh} {h:H} {w:World} {s b:Nat} {us YW:List (Nat×Value×jh)}
  (hst:St B h (Sum.elim L F) w) (hL:L s=some (mJ b T' r y us)) (Ls:BoxOk b us) (hsub:YW.Sublist us) (hap:∀ u ∈ YW,u.1<off∨off+q.sz≤u.1) {c':List Value} (hc':q.rel h c' z) :
  ∃ p c q':List Value,p.length=off∧(Instr.storeAt T (.pointer (some ⟨b,off,none⟩)) (pack q.agg c')).run P w = .ok () (w.setRow b (p ++ c' ++ q').toArray)∧c.length=q.sz ∧
   (w.setRow b (p ++ c' ++ q').toArray).heap[b]? = some (.cells (p ++ c' ++ q').toArray T' (0,0))∧r.rel h (p ++ c' ++ q') (set y z)∧(∀ u ∈ YW,(p ++ c' ++ q')[u.1]? = some u.2.1) ∧
   St B h (Sum.elim (set1 L s (mJ b T' r (set y z) YW)) F) (w.setRow b (p ++ c' ++ q').toArray):=by
 obtain ⟨⟨cs,hb,hr,hu1⟩,hu2⟩:=Dx hst hL
 obtain ⟨p,c,q',rfl,hp,hc,hset⟩:=l h cs y hr
 have hrun:=uQ t hc' hb (q.len hc)
 rw [hp] at hrun
 have hmem:=yu w b _ (p ++ c' ++ q').toArray T' hb
 have hrel:=hset h c' z (nO.refl h) hc'
 have hget:∀ u ∈ YW,(p ++ c' ++ q')[u.1]? = some u.2.1:=fun u hu=>by
  rw [QA hp (q.len hc) (q.len hc') (hap u hu)];exact hu1 u (hsub.subset hu)
 obtain ⟨hcl,_⟩:=hst.own (k:=Sum.inl s) hL
 have hno:=(hcl (b,0) (by simp [mJ])).2.2
 refine ⟨p,c,q',hp,hrun,q.len hc,hmem,hrel,hget,?_⟩
 refine hst.write (Sum.inl s) (e:=mJ b T' r y us) hL (b:=b) (lo:=0) (by simp [mJ]) hmem (fun i hi=>setRow_other w b i _ hi) (by simp [World.setRow]) rfl rfl rfl ?_ um ?_
 ·intro o' v hh;rw [hno o' (Nat.zero_le _)] at hh;cases hh
 ·intro e' he
  rw [uo he]
  refine ⟨fun c hc=>?_,⟨_,hmem,hrel,hget⟩,Xw (Ls.sub hsub) (fun i hi=>setRow_other w b i _ hi) (fun u hu=>hu2 u (hsub.subset hu))⟩
  rcases List.mem_cons.1 hc with rfl | hc
  ·exact List.mem_cons_self
  ·exact List.mem_cons_of_mem _ (Oo hsub c hc)
theorem Vo {T T':TypeId} {r:Rep α} {q:Rep β} {ts:List dM} {s off:Nat} {x v:Operand} {y:α} {z:β} {get:α→β} {set:α→β→α} {y':α} (l:Lens r q off get set) (t:kH P T q) (hap:apartB off q.sz ts=true) (hd:o.dst=none)
  (W:Wr) (ho:o.op = .store T x v) (hx:TS N x W s off) (hv:dD N v (fV q z)) (hy':y'=set y z):fC P o N [(s,W.ap (dS T' r y ts))] bD.qy [(s,some (W.ap (dS T' r y' ts)))]:=by
 subst hy'
 intro κ B F L h a w hst hn hk _ next Q hnext _
 obtain ⟨b,hdv,hxv⟩:=hx h a hn
 obtain ⟨e,hL,hqW⟩:=hk.1
 obtain ⟨b',us,hv',hta,Ls,rfl⟩:=Wr.iff.1 hqW
 have hd':W.v a s = .pointer (some ⟨b,0,none⟩):=hdv
 rw [hd'] at hv';cases hv'
 obtain ⟨c',hc',hvv⟩:=hv h a hn
 obtain ⟨p,c,q',hp,hrun,_,_,_,_,hst'⟩:=Ef l t hst hL Ls (List.Sublist.refl us) (fun u hu=>by
  obtain ⟨t,ht,e⟩:=hta.offs u hu;rw [e];exact BX hap t ht) hc'
 unfold Oper.qB
 have:(execOp a.eval o).run P w = .ok .skip (w.setRow b (p ++ c' ++ q').toArray):=by
  simp only [execOp,ho,hxv,hvv,Sem.run_bind,hrun,Result.andThen_ok,Sem.run_pure]
 rw [this]
 refine hnext undef h _ _ (nO.refl h) trivial hst' ?_
 rw [hd]
 exact nP (Wr.iff.2 ⟨b,us,hd',hta,Ls,rfl⟩)
theorem Jo {sv:Value} {T T':TypeId} {r:Rep α} {q:Rep β} {ts:List dM} {s off:Nat} {x v:Operand} {y:α} {z:β} {get:α→β} {set:α→β→α} {y':α} (l:Lens r q off get set) (t:kH P T q) (hap:apartB off q.sz ts=true) (hd:o.dst=none)
  (ho:o.op = .store T x v) (hx:dD N x (qF sv off)) (hv:dD N v (fV q z)) (hy':y'=set y z):fC P o N [(s,dm (dS T' r y ts) sv)] bD.qy [(s,some (dm (dS T' r y' ts) sv))]:=Vo l t hap hd (.val sv) ho (.val hx) hv hy'
theorem Gj {T T':TypeId} {r:Rep α} {s:Nat} {sv:Value} {x v:Operand} {y z:α} (t:kH P T r) (hd:o.dst=none) (ho:o.op = .store T x v) (hx:dD N x (fJ sv)) (hv:dD N v (fV r z)) :
  fC P o N [(s,dm (dS T' r y []) sv)] bD.qy [(s,some (dm (dS T' r z []) sv))]:=by
 intro κ B F L h a w hst hn hk hdn next Q hnext _
 obtain ⟨e,hL,hq⟩:=hk.1
 obtain ⟨b,h1,h2⟩:=hx.off0 hn hq
 obtain ⟨b',us,hv',hta,Ls,rfl⟩:=hq
 rw [h1] at hv';cases hv'
 obtain ⟨c',hc',hvv⟩:=hv h a hn
 obtain ⟨p,c,q',hp,hrun,_,_,_,_,hst'⟩:=Ef (Lens.refl r) t hst hL Ls (List.nil_sublist us) (fun u hu=>by cases hu) hc'
 unfold Oper.qB
 have:(execOp a.eval o).run P w = .ok .skip (w.setRow b (p ++ c' ++ q').toArray):=by
  simp only [execOp,ho,h2,hvv,Sem.run_bind,hrun,Result.andThen_ok,Sem.run_pure]
 rw [this]
 refine hnext undef h _ _ (nO.refl h) trivial hst' ?_
 rw [hd]
 exact nP ⟨b,[],h1,trivial,⟨List.Pairwise.nil,fun u hu=>by cases hu⟩,rfl⟩
theorem BoxOk.nil {b off:Nat} {FY GY:List (Nat×Value×jh)} (h:BoxOk b (FY ++ GY)):BoxOk b (FY ++ (off,P8,FZ) :: GY):=by
 obtain ⟨h1,h2⟩:=h
 constructor
 ·rw [List.map_append,List.pairwise_append] at h1 ⊢
  obtain ⟨k1,k2,k3⟩:=h1
  refine ⟨k1,List.Pairwise.cons (fun l _ c hc=>by cases hc) k2,fun x hx y hy=>?_⟩
  rcases List.mem_cons.1 hy with rfl | hy
  ·intro c _ c' hc';cases hc'
  ·exact k3 x hx y hy
 ·intro u hu c hc
  rcases List.mem_append.1 hu with hu | hu
  ·exact h2 u (List.mem_append_left _ hu) c hc
  ·rcases List.mem_cons.1 hu with rfl | hu
   ·cases hc
   ·exact h2 u (List.mem_append_right _ hu) c hc
theorem YX {L:Nat→Option jh} {s d:Nat} {e1 e2:jh} {q1 q2:gQ} {a:Act} (hsd:s≠d) (h1:q1 (a.gt s) e1) (h2:q2 (a.gt d) e2):GZ L (set1 (set1 L s e1) d e2) (full [(s,some q1),(d,some q2)] (some d)) a:=by
  intro k
  have XZ:Nat.beq s d=false:=by rw [Bool.eq_false_iff,Ne,jg];exact hsd
  by_cases hk:k=d
  · subst hk
    have:rY (full [(s,some q1),(k,some q2)] (some k)) k=some (some q2):=by simp [full,rY,XZ,Nat.beq_refl]
    rw [this];exact ⟨e2,by simp [set1],h2⟩
  · have h3 : Nat.beq d k = false := by rw [Bool.eq_false_iff, Ne, jg]; exact fun x => hk x.symm
    by_cases hk2:k=s
    · subst hk2
      have:rY (full [(k,some q1),(d,some q2)] (some d)) k=some (some q1):=by simp [full,rY,Nat.beq_refl]
      rw [this];exact ⟨e1,by simp [set1,hk],h1⟩
    · have h4 : Nat.beq s k = false := by rw [Bool.eq_false_iff, Ne, jg]; exact fun x => hk2 x.symm
      have:rY (full [(s,some q1),(d,some q2)] (some d)) k=none:=by simp [full,rY,h3,h4]
      rw [this];simp [set1,hk,hk2]
theorem TT {T T' E:TypeId} {r:Rep α} {q:Rep β} {l1 l2:List dM} {s d off sz:Nat} {x:Operand} {y:α} {get:α→List β} {set:α→List β→α} (l:Lens r (Rep.slice q) off get set) (t:kH P T (Rep.slice q)) (hsd:Nat.beq s d=false) (hd:o.dst=some d) (W:Wr) (ho:o.op = .load T x) (hx:TS N x W s off) :
  fC P o N [(s,W.ap (dS T' r y (l1 ++ ⟨off,E,sz⟩ :: l2)))] (fV (Rep.slice q) (get y)) [(s,some (W.ap (dS T' r y (l1 ++ l2)))),(d,some (dN E sz))]:=by
 have hne:s≠d:=fun x=>by rw [jg.2 x] at hsd;cases hsd
 intro κ B F L h a w hst hn hk hdn next Q hnext _
 obtain ⟨b,hdv,hv⟩:=hx h a hn
 obtain ⟨e,hL,hqW⟩:=hk.1
 obtain ⟨b',us,hv',hta,Ls,rfl⟩:=Wr.iff.1 hqW
 have hd':W.v a s = .pointer (some ⟨b,0,none⟩):=hdv
 rw [hd'] at hv';cases hv'
 obtain ⟨FY,u0,GY,rfl,hoff,htip,h3,h4⟩:=hta.mid
 simp only [] at hoff htip
 have hsub:(FY ++ GY).Sublist (FY ++ u0 :: GY):=(List.Sublist.refl FY).append (List.sublist_cons_self _ _)
 obtain ⟨⟨cs,hb,hr,hu1⟩,hu2⟩:=Dx hst hL
 have hm0:u0 ∈ FY ++ u0 :: GY:=List.mem_append_right _ List.mem_cons_self
 obtain ⟨p,c,q',rfl,hp,hc,_⟩:=l h cs y hr
 have hcl:=(Rep.slice q).len hc
 obtain ⟨c0,rfl,hc0⟩:=hc
 have hcv:c0=u0.2.1:=by
  have:=hu1 u0 hm0
  rw [hoff,List.append_assoc,List.getElem?_append_right (by omega),hp] at this
  simpa using this
 have hrun:=yt (b:=b) (off:=off) (w:=w) t hcl (fun j v hj=>by
  rw [yh _ _ _ _ _ _ hb]
  have hjl:=(List.getElem?_eq_some_iff.1 hj).1
  simp only [List.getElem?_toArray]
  rw [List.append_assoc,List.getElem?_append_right (by omega),← hp,Nat.add_sub_cancel_left,List.getElem?_append_left hjl];exact hj)
 unfold Oper.qB
 have:(execOp a.eval o).run P w = .ok (.value c0) w:=by
  have hrun':(Instr.loadAt T (.pointer (some ⟨b,off,none⟩))).run P w = .ok c0 w:=hrun
  simp [execOp,ho,hv,hrun']
 rw [this]
 have hpw:=Ls.1
 rw [List.map_append,List.pairwise_append] at hpw
 obtain ⟨_,k2,k3⟩:=hpw
 have k4:=List.pairwise_cons.1 k2
 have hdis:Jy ((b,0) :: MQ (FY ++ GY)) u0.2.2.claims:=by
  intro c hc c' hc'
  rcases List.mem_cons.1 hc with rfl | hc
  ·exact (Ls.2 u0 hm0 c' hc').symm
  ·obtain ⟨u,hu,hcu⟩:=List.mem_flatMap.1 hc
   rcases List.mem_append.1 hu with hu | hu
   ·exact k3 _ (List.mem_map.2 ⟨u,hu,rfl⟩) _ (List.mem_cons_self) c hcu c' hc'
   ·exact (k4.1 _ (List.mem_map.2 ⟨u,hu,rfl⟩) c' hc' c hcu).symm
 have hst':=hst.split2 (d:=d) (e1:=mJ b T' r y (FY ++ GY)) (e2:=u0.2.2) hL hne (fun c hc=>by
   rcases List.mem_cons.1 hc with rfl | hc
   ·exact List.mem_cons_self
   ·exact List.mem_cons_of_mem _ (Oo hsub c hc)) (fun c hc=>List.mem_cons_of_mem _ (List.mem_flatMap.2 ⟨u0,hm0,hc⟩)) hdis
  ⟨⟨_,hb,hr,fun u hu=>hu1 u (hsub.subset hu)⟩,fun u hu=>hu2 u (hsub.subset hu)⟩ (hu2 u0 hm0)
 refine hnext _ h w _ (nO.refl h) (nR.2 hc0) hst' ?_
 rw [hd]
 exact YX hne (Wr.iff.2 (by rw [Wr.v_put hne];exact ⟨b,_,hd',h4.app h3,Ls.sub hsub,rfl⟩)) (by rw [iQ (hdn d hd),hcv];exact htip)
theorem L8 {sv:Value} {T T' E:TypeId} {r:Rep α} {q:Rep β} {l1 l2:List dM} {s d off sz:Nat} {x:Operand} {y:α} {get:α→List β} {set:α→List β→α} (l:Lens r (Rep.slice q) off get set) (t:kH P T (Rep.slice q)) (hsd:Nat.beq s d=false) (hd:o.dst=some d) (ho:o.op = .load T x) (hx:dD N x (qF sv off)) :
  fC P o N [(s,dm (dS T' r y (l1 ++ ⟨off,E,sz⟩ :: l2)) sv)] (fV (Rep.slice q) (get y)) [(s,some (dm (dS T' r y (l1 ++ l2)) sv)),(d,some (dN E sz))]:=TT l t hsd hd (.val sv) ho (.val hx)
theorem Qv {L:Nat→Option jh} {s d:Nat} {e:jh} {q:gQ} {a:Act} (hsd:s≠d) (hq:q (a.gt s) e):GZ L (Eg L s d e) (full [(s,some q),(d,none)] none) a:=by
  intro k
  by_cases hk:k=s
  · subst hk
    have:rY (full [(k,some q),(d,none)] none) k=some (some q):=by simp [full,rY,Nat.beq_refl]
    rw [this];exact ⟨e,by simp [Eg,hsd],hq⟩
  · have h4 : Nat.beq s k = false := by rw [Bool.eq_false_iff, Ne, jg]; exact fun x => hk x.symm
    by_cases hk2:k=d
    · subst hk2
      have:rY (full [(s,some q),(k,none)] none) k=some none:=by simp [full,rY,h4,Nat.beq_refl]
      rw [this];trivial
    · have h3 : Nat.beq d k = false := by rw [Bool.eq_false_iff, Ne, jg]; exact fun x => hk2 x.symm
      have:rY (full [(s,some q),(d,none)] none) k=none:=by simp [full,rY,h3,h4]
      rw [this];simp [Eg,hk,hk2]
theorem RJ {T T' E:TypeId} {r:Rep α} {q:Rep β} {l1 l2:List dM} {s d off sz:Nat} {x:Operand} {y:α} {zs:List β} {get:α→List β} {set:α→List β→α} {y':α} (l:Lens r (Rep.slice q) off get set) (t:kH P T (Rep.slice q)) (hap:apartB off 1 (l1 ++ l2)=true) (hsd:Nat.beq s d=false) (hd:o.dst=none)
  (W:Wr) (ho:o.op = .store T x (.tmp d)) (hx:TS N x W s off) (hv:dD N (.tmp d) (fV (Rep.slice q) zs)) (hy':y'=set y zs):fC P o N [(s,W.ap (dS T' r y (l1 ++ l2))),(d,dN E sz)] bD.qy [(s,some (W.ap (dS T' r y' (l1 ++ ⟨off,E,sz⟩ :: l2)))),(d,none)]:=by
 subst hy'
 have hne:s≠d:=fun x=>by rw [jg.2 x] at hsd;cases hsd
 intro κ B F L h a w hst hn hk _ next Q hnext _
 obtain ⟨b,hdv,hxv⟩:=hx h a hn
 obtain ⟨e,hL,hqW⟩:=hk.1
 obtain ⟨b',us,hv',hta,Ls,rfl⟩:=Wr.iff.1 hqW
 obtain ⟨et,hLt,htip⟩:=hk.2.1
 have hLt:L d=some et:=hLt
 have htip:dN E sz (a.gt d) et:=htip
 have hd':W.v a s = .pointer (some ⟨b,0,none⟩):=hdv
 rw [hd'] at hv';cases hv'
 obtain ⟨c',hc',hvv⟩:=hv h a hn
 have hvd:a.gt d=pack (Rep.slice q).agg c':=hvv
 obtain ⟨p,c,q',hp,hrun,hcl,hmem,hrel,hget,hst'⟩:=Ef l t hst hL Ls (List.Sublist.refl us) (fun u hu=>by
  obtain ⟨t,ht,e⟩:=hta.offs u hu;rw [e];exact BX hap t ht) hc'
 obtain ⟨c0,rfl,hc0⟩:=hc'
 have hvd:a.gt d=c0:=hvd
 unfold Oper.qB
 have:(execOp a.eval o).run P w = .ok .skip (w.setRow b (p ++ [c0] ++ q').toArray):=by
  simp only [execOp,ho,hxv,hvv,Sem.run_bind,hrun,Result.andThen_ok,Sem.run_pure]
 rw [this]
 obtain ⟨FY,GY,rfl,h3,h4⟩:=hta.cut
 have hta':tK (l1 ++ ⟨off,E,sz⟩ :: l2) (FY ++ (off,c0,et) :: GY):=tK.app (l2:=⟨off,E,sz⟩ :: l2) (GY:=(off,c0,et) :: GY) ⟨⟨rfl,by rw [← hvd];exact htip⟩,h4⟩ h3
 have hLd':set1 L s (mJ b T' r (set y zs) (FY ++ GY)) d=some et:=by simp [set1,Ne.symm hne,hLt]
 have hdj:Jy ((b,0) :: MQ (FY ++ GY)) et.claims:=hst.vN (k:=Sum.inl s) (k':=Sum.inl d) hL hLt (fun x=>hne (Sum.inl.inj x))
 have hbo':BoxOk b (FY ++ (off,c0,et) :: GY):=by
  obtain ⟨g1,g2⟩:=Ls
  constructor
  ·rw [List.map_append,List.pairwise_append] at g1 ⊢
   obtain ⟨k1,k2,k3⟩:=g1
   refine ⟨k1,List.Pairwise.cons (fun l hl c hc c' hc'=>?_) k2,fun x hx y hy=>?_⟩
   ·obtain ⟨u,hu,rfl⟩:=List.mem_map.1 hl
    exact (hdj c' (List.mem_cons_of_mem _ (List.mem_flatMap.2 ⟨u,List.mem_append_right _ hu,hc'⟩)) c hc).symm
   ·rcases List.mem_cons.1 hy with rfl | hy
    ·intro c hc c' hc'
     obtain ⟨u,hu,rfl⟩:=List.mem_map.1 hx
     exact hdj c (List.mem_cons_of_mem _ (List.mem_flatMap.2 ⟨u,List.mem_append_left _ hu,hc⟩)) c' hc'
    ·exact k3 x hx y hy
  ·intro u hu c hc
   rcases List.mem_append.1 hu with hu | hu
   ·exact g2 u (List.mem_append_left _ hu) c hc
   ·rcases List.mem_cons.1 hu with rfl | hu
    ·exact (hdj (b,0) List.mem_cons_self c hc).symm
    ·exact g2 u (List.mem_append_right _ hu) c hc
 obtain ⟨_,hu2⟩:=Dx hst' qR
 have hokt:et.ok h (World.mem (w.setRow b (p ++ [c0] ++ q').toArray)):=(hst'.own (k:=Sum.inl d) hLd').2
 have hj:=hst'.Eg (e:=mJ b T' r (set y zs) (FY ++ (off,c0,et) :: GY)) qR hLd' (fun c hc=>by
  rcases List.mem_cons.1 hc with rfl | hc
  ·exact .inl List.mem_cons_self
  ·obtain ⟨u,hu,hcu⟩:=List.mem_flatMap.1 hc
   rcases List.mem_append.1 hu with hu | hu
   ·exact .inl (List.mem_cons_of_mem _ (List.mem_flatMap.2 ⟨u,List.mem_append_left _ hu,hcu⟩))
   ·rcases List.mem_cons.1 hu with rfl | hu
    ·exact .inr hcu
    ·exact .inl (List.mem_cons_of_mem _ (List.mem_flatMap.2 ⟨u,List.mem_append_right _ hu,hcu⟩))) ⟨⟨_,hmem,hrel,fun u hu=>by
   rcases List.mem_append.1 hu with hu | hu
   ·exact hget u (List.mem_append_left _ hu)
   ·rcases List.mem_cons.1 hu with rfl | hu
    ·simp only []
     rw [List.append_assoc,List.getElem?_append_right (by omega),hp];simp
    ·exact hget u (List.mem_append_right _ hu)⟩,fun u hu=>by
   rcases List.mem_append.1 hu with hu | hu
   ·exact hu2 u (List.mem_append_left _ hu)
   ·rcases List.mem_cons.1 hu with rfl | hu
    ·exact hokt
    ·exact hu2 u (List.mem_append_right _ hu)⟩
 have hL':Eg (set1 L s (mJ b T' r (set y zs) (FY ++ GY))) s d (mJ b T' r (set y zs) (FY ++ (off,c0,et) :: GY))=Eg L s d (mJ b T' r (set y zs) (FY ++ (off,c0,et) :: GY)):=by
  funext k;unfold Eg set1
  by_cases h1:k=d
  ·rw [if_pos h1,if_pos h1]
  ·rw [if_neg h1,if_neg h1]
   by_cases h2:k=s
   ·rw [if_pos h2,if_pos h2]
   ·rw [if_neg h2,if_neg h2,if_neg h2]
 rw [hL'] at hj
 refine hnext undef h _ _ (nO.refl h) trivial hj ?_
 rw [hd]
 exact Qv hne (Wr.iff.2 ⟨b,_,hd',hta',hbo',rfl⟩)
theorem JS {sv:Value} {T T' E:TypeId} {r:Rep α} {q:Rep β} {l1 l2:List dM} {s d off sz:Nat} {x:Operand} {y:α} {zs:List β} {get:α→List β} {set:α→List β→α} {y':α} (l:Lens r (Rep.slice q) off get set) (t:kH P T (Rep.slice q)) (hap:apartB off 1 (l1 ++ l2)=true) (hsd:Nat.beq s d=false) (hd:o.dst=none)
  (ho:o.op = .store T x (.tmp d)) (hx:dD N x (qF sv off)) (hv:dD N (.tmp d) (fV (Rep.slice q) zs)) (hy':y'=set y zs):fC P o N [(s,dm (dS T' r y (l1 ++ l2)) sv),(d,dN E sz)] bD.qy [(s,some (dm (dS T' r y' (l1 ++ ⟨off,E,sz⟩ :: l2)) sv)),(d,none)]:=RJ l t hap hsd hd (.val sv) ho (.val hx) hv hy'
end Go.KB
namespace Go.KB
variable {P:Program} {o:Oper} {N:List (Nat×bD)} {f:bD} {α β:Type}
def Ec (P:Program) (T:TypeId) (i:Nat):Option (TypeId×Nat) :=
 match P.underlying T with
 | some (.struct fs)=>match fs[i]? with
  | some g=>some (g.type,g.offset)
  | none=>none
 | _=>none
theorem Oz {T':TypeId} {q:Rep β} (t:kH P T' q) {h:H} {p c r:List Value} {y:β} (hc:q.rel h c y) (w:World):(part T' (p ++ c ++ r).toArray p.length).run P w = .ok (pack q.agg c) w:=by
 have hl:=q.len hc
 unfold part
 cases ha:q.agg with
 | true =>
  simp only [Sem.run_bind,t.agg,ha,Result.andThen_ok,if_true,t.size,Sem.run_pure,pack,cond_true]
  congr 2
  simp only [List.extract_toArray,List.extract_eq_take_drop]
  congr 1
  rw [List.append_assoc,List.drop_left' rfl,show p.length+q.sz - p.length=c.length by omega,List.take_left' rfl]
 | false =>
  rw [q.one ha] at hl
  match c,hl with
  | [v],_ =>
   have:(p ++ [v] ++ r).toArray[p.length]? = some v:=by simp
   simp only [Sem.run_bind,t.agg,ha,Result.andThen_ok,Bool.false_eq_true,if_false,this,Sem.run_pure,pack,cond_false]
theorem Dz {T T':TypeId} {r:Rep α} {q:Rep β} {x:Operand} {y:α} {i off:Nat} {get:α→β} {set:α→β→α} (l:Lens r q off get set) (hag:r.agg=true) (hf:Ec P T i=some (T',off)) (t:kH P T' q) (ho:o.op = .field T x i) (hx:dD N x (fV r y)) :
  fC P o N [] (fV q (get y)) [] :=
 fC.rM fun h a w _ n=>by
  unfold Ec at hf
  split at hf
  ·rename_i fs hT
   split at hf
   ·rename_i g hg
    simp only [Option.some.injEq,Prod.mk.injEq] at hf
    obtain ⟨h1,h2⟩:=hf
    obtain ⟨cs,hr,hv⟩:=hx h a n
    obtain ⟨p,c,q',rfl,hp,hc,_⟩:=l h cs y hr
    rw [hag] at hv
    refine ⟨pack q.agg c,?_,c,hc,rfl⟩
    have:=Oz t (p:=p) (r:=q') hc w
    rw [List.append_assoc] at this
    simp [execOp,ho,hv,pack,Instr.field,run_underlying hT,hg,asAgg,h1,h2,← hp,this]
   ·cases hf
  ·cases hf
def fVN (r:Rep α) (x:α) (ts:List dM):bD:=⟨none,fun h _ v=>∃ cs,r.rel h cs x∧v=pack r.agg cs∧zu cs ts,fun hl ⟨cs,k,e,n⟩=>⟨cs,r.mono hl k,e,n⟩⟩
theorem zu.apart {p c c' q:List Value} {off sz:Nat} (hp:p.length=off) (hc:c.length=sz) (hc':c'.length=sz):∀ {ts:List dM},apartB off sz ts=true→zu (p ++ c ++ q) ts→zu (p ++ c' ++ q) ts:=by
 intro ts
 induction ts with
 | nil=>intro _ _;trivial
 | cons t ts ih =>
  intro ha hn
  have h1:=BX ha t List.mem_cons_self
  refine ⟨by rw [QA hp hc hc' h1];exact hn.1,ih ?_ hn.2⟩
  unfold apartB at ha ⊢
  rw [List.all_cons,Bool.and_eq_true] at ha
  exact ha.2
def OA (P:Program) (N:List (Nat×bD)) (place:Nat→Option (Nat×Nat)) {α:Type} (r:Rep α) (ts:List dM):List (Nat×Operand)→α→α→Prop
 | [],x,y=>x=y
 | (i,o) :: rest,x,y=>∃ (β:Type) (s:Rep β) (off:Nat) (get:α→β) (set:α→β→α) (z:β),Lens r s off get set∧place i=some (off,s.sz)∧apartB off s.sz ts=true∧dD N o (fV s z)∧OA P N place r ts rest (set x z) y
theorem fillNN {place:Nat→Option (Nat×Nat)} {r:Rep α} {ts:List dM} {x:α}:OA P N place r ts [] x x:=rfl
theorem Rt {place:Nat→Option (Nat×Nat)} {r:Rep α} {ts:List dM} {s:Rep β} {off i:Nat} {x':Operand} {get:α→β} {set:α→β→α} {z:β} {rest:List (Nat×Operand)} {x y:α} (l:Lens r s off get set) (hp:place i=some (off,s.sz)) (ha:apartB off s.sz ts=true) (ho:dD N x' (fV s z))
  (k:OA P N place r ts rest (set x z) y):OA P N place r ts ((i,x') :: rest) x y:=⟨β,s,off,get,set,z,l,hp,ha,ho,k⟩
theorem OA.run {place:Nat→Option (Nat×Nat)} {r:Rep α} {ts:List dM} {h:H} {a:Act} (n:EZ N h a):∀ {parts:List (Nat×Operand)} {x y:α} {cs:List Value},OA P N place r ts parts x y→r.rel h cs x→zu cs ts →
  ∃ cs',Instr.fill place cs.toArray (parts.map fun q=>(q.1,a.eval q.2))=some cs'.toArray∧r.rel h cs' y∧zu cs' ts:=by
 intro parts
 induction parts with
 | nil=>intro x y cs k hr ht;rw [show x=y from k] at hr;exact ⟨cs,rfl,hr,ht⟩
 | cons q rest ih =>
  obtain ⟨i,op⟩:=q
  rintro x y cs ⟨β,s,off,get,set,z,l,hp,ha,ho,k⟩ hr ht
  obtain ⟨p,c,q,rfl,hpl,hc,hset⟩:=l h cs x hr
  obtain ⟨c',hc',hv⟩:=ho h a n
  simp only [List.map_cons]
  rw [Qj hc' hv hp hpl (s.len hc)]
  exact ih k (hset h c' z (nO.refl h) hc') (ht.apart hpl (s.len hc) (s.len hc') ha)
theorem Xh {T:TypeId} {r:Rep α} {place:Nat→Option (Nat×Nat)} {parts:Array (Nat×Operand)} {y:α} (ts:List dM) (t:kH P T r) (hag:r.agg=true) (hpl:lY P T place) (ho:o.op = .build T parts)
  (hz:zu r.zc ts) (k:OA P N place r ts parts.toList r.zero y):fC P o N [] (fVN r y ts) [] :=
 fC.rM fun h a w _ n=>by
  obtain ⟨cs',hf,hr,ht⟩:=k.run n (r.xq h) hz
  refine ⟨.agg cs'.toArray,?_,cs',hr,by rw [hag];rfl,ht⟩
  have h1:=hpl r.zc.toArray (parts.map fun q=>(q.1,a.eval q.2)) w cs'.toArray _ (t.zero w) (vK (r.xq h)) (by rw [Array.toList_map];exact hf)
  simp only [execOp,ho,Sem.run_bind,h1,Result.andThen_ok,Sem.run_pure]
theorem St.putT {κ:Type} {B:Base} {h:H} {L:Nat→Option jh} {F:κ→Option jh} {w:World} (hst:St B h (Sum.elim L F) w) {s b:Nat} {T:TypeId} {r:Rep α} {x y:α} {us:List (Nat×Value×jh)} {cs cs':List Value} {ts:List dM}
  (hk:L s=some (mJ b T r x us)) (hb:w.heap[b]? = some (.cells cs.toArray T (0,0))) (hr:r.rel h cs' y) (ht:zu cs' ts) :
  St B h (Sum.elim (set1 L s (mJ b T r y (Hu ts))) F) (w.setRow b cs'.toArray):=by
 obtain ⟨hcl,_⟩:=hst.own (k:=Sum.inl s) hk
 have hno:=(hcl (b,0) (by simp [mJ])).2.2
 have hmem:=yu w b _ cs'.toArray T hb
 refine hst.write (Sum.inl s) (e:=mJ b T r x us) hk (b:=b) (lo:=0) (by simp [mJ]) hmem (fun i hi=>setRow_other w b i cs'.toArray hi) (by simp [World.setRow]) rfl rfl rfl ?_ um ?_
 ·intro o' v hh
  rw [hno o' (Nat.zero_le _)] at hh;cases hh
 ·intro e' he
  rw [uo he]
  refine ⟨fun c hc=>?_,⟨cs',hmem,hr,ht.at⟩,fun u hu=>by rw [(IC hu).1];trivial⟩
  have hc:c ∈ (b,0) :: MQ (Hu ts):=hc
  rw [J7] at hc
  simp at hc
  subst hc
  exact List.mem_cons_self
theorem RN {T:TypeId} {r:Rep α} {ts0 ts:List dM} {s:Nat} {v:Operand} {y z:α} (t:kH P T r) (hd:o.dst=none)
  (ho:o.op = .store T (.tmp s) v) (hv:dD N v (fVN r z ts)):fC P o N [(s,dS T r y ts0)] bD.qy [(s,some (dS T r z ts))]:=by
 intro κ B F L h a w hst hn hk _ next Q hnext _
 obtain ⟨e,hL,b,us,hxv,_,_,rfl⟩:=hk.1
 have hxv':a.eval (.tmp s) = .pointer (some ⟨b,0,none⟩):=hxv
 obtain ⟨⟨cs,hb,hr,_⟩,_⟩:=Dx hst hL
 obtain ⟨c',hc',hvv,ht⟩:=hv h a hn
 have hrun:=uQ (p:=[]) (c:=cs) (q:=[]) t hc' (by simpa using hb) (r.len hr)
 unfold Oper.qB
 have:(execOp a.eval o).run P w = .ok .skip (w.setRow b c'.toArray):=by
  simp only [List.length_nil,List.nil_append,List.append_nil] at hrun
  simp only [execOp,ho,hxv',hvv,Sem.run_bind,hrun,Result.andThen_ok,Sem.run_pure]
 rw [this]
 refine hnext undef h _ _ (nO.refl h) trivial (hst.putT hL hb hc' ht) ?_
 rw [hd]
 exact nP ⟨b,_,hxv,IE ts,J8 b ts,rfl⟩
theorem Rq {T:TypeId} {r:Rep α} {ts0:List dM} {s:Nat} {v:Operand} {y z:α} (t:kH P T r) (hd:o.dst=none)
  (ho:o.op = .store T (.tmp s) v) (hv:dD N v (fV r z)):fC P o N [(s,dS T r y ts0)] bD.qy [(s,some (dS T r z []))] :=
 RN (ts:=[]) t hd ho (fun h a n=>let ⟨cs,k,e⟩:=hv h a n;⟨cs,k,e,trivial⟩)
end Go.KB
namespace Go.KB
variable {P:Program} {o:Oper} {N:List (Nat×bD)} {α β:Type}
section
variable [DecidableEq α]
def fU (z:β):List (α×β)→α→β
 | [],_=>z
 | p :: r,x=>bif decide (x=p.1) then p.2 else fU z r x
def kJ:List (α×β)→α→Bool
 | [],_=>false
 | p :: r,x=>decide (x=p.1)||kJ r x
def qM:List (α×β)→α→β→List (α×β)
 | [],x,y=>[(x,y)]
 | p :: r,x,y=>bif decide (x=p.1) then (p.1,y) :: r else p :: qM r x y
def Dy:List α→α→Option Nat
 | [],_=>none
 | y :: r,x=>bif decide (x=y) then some 0 else (Dy r x).map (· + 1)
structure zh (P:Program) (K:TypeId) (rk:Rep α) (f:α→Value):Prop where
 is:∀ {h u x},rk.val h u x→u=f x
 chk:∀ (e:Bool) (w:World) (x:α),(Instr.checkKey e 10000 K (f x)).run P w = .ok () w
 find:∀ (es:List MapEntry) (ks:List α) (x:α) (w:World),es.map (·.key)=ks.map f→(Instr.findKey K (f x) es).run P w = .ok ((Dy ks x).bind fun i=>es[i]?.map fun e=>(i,e.val)) w
 bits:∀ x,Instr.sameBits 10000 (f x) (f x)=true
 val:∀ h x,rk.val h (f x) x
theorem Kr {f:α→Value} {d:TypeDesc} (hd:∀ x y,Instr.sameNow d (f x) (f y)=some (decide (x=y))) (x:α):∀ (es:List MapEntry) (ks:List α) (n:Nat),es.map (·.key)=ks.map f →
  Instr.findNow d (f x) es n=some ((Dy ks x).bind fun i=>es[i]?.map fun e=>(n+i,e.val))
 | [],[],_,_=>rfl
 | [],_ :: _,_,h=>by cases h
 | _ :: _,[],_,h=>by cases h
 | e :: es,y :: ks,n,h=>by
  simp only [List.map_cons,List.cons.injEq] at h
  by_cases hx:x=y
  ·simp only [Instr.findNow,h.1,hd,hx,decide_true,Dy,cond_true];rfl
  ·simp only [Instr.findNow,h.1,hd,decide_eq_false hx,Dy,cond_false]
   rw [Kr hd x es ks (n+1) h.2]
   cases Dy ks x with
   | none=>rfl
   | some i=>simp only [Option.map_some,Option.bind_some,List.getElem?_cons_succ];rw [show n+1+i=n+(i+1) by omega]
theorem run_findKey {K:TypeId} {d:TypeDesc} {u:Value} {es:List MapEntry} {r:Option (Nat×Value)} {w:World} (hd:P.underlying K=some d) (h:Instr.findNow d u es 0=some r):(Instr.findKey K u es).run P w = .ok r w:=by
 unfold Instr.findKey
 simp only [Sem.run_bind,run_underlying hd,Result.andThen_ok,h,Sem.run_pure]
theorem OB {K : TypeId} {f : α → Value} {d : TypeDesc} (hK : P.underlying K = some d) (hd : ∀ x y, Instr.sameNow d (f x) (f y) = some (decide (x = y))) (es : List MapEntry) (ks : List α) (x : α) (w : World) (h : es.map (·.key) = ks.map f) :
  (Instr.findKey K (f x) es).run P w = .ok ((Dy ks x).bind fun i=>es[i]?.map fun e=>(i,e.val)) w :=
 run_findKey hK (by simpa using Kr hd x es ks 0 h)
theorem Kt {K:TypeId} {f:α→Value} (hq:∀ x y w,(Op.equal K (f x) (f y)).run P w = .ok (decide (x=y)) w) (x:α) (w:World):∀ (es:List MapEntry) (ks:List α) (n:Nat),es.map (·.key)=ks.map f →
  (Instr.findAsking K (f x) es n).run P w = .ok ((Dy ks x).bind fun i=>es[i]?.map fun e=>(n+i,e.val)) w
 | [],[],_,_=>rfl
 | [],_ :: _,_,h=>by cases h
 | _ :: _,[],_,h=>by cases h
 | e :: es,y :: ks,n,h=>by
  simp only [List.map_cons,List.cons.injEq] at h
  by_cases hx:x=y
  ·simp only [Instr.findAsking,h.1,Sem.run_bind,hq,Result.andThen_ok,hx,decide_true,Dy,cond_true,if_true];rfl
  ·simp only [Instr.findAsking,h.1,Sem.run_bind,hq,Result.andThen_ok,decide_eq_false hx,Dy,cond_false,Bool.false_eq_true,if_false]
   rw [Kt hq x w es ks (n+1) h.2]
   cases Dy ks x with
   | none=>rfl
   | some i=>simp only [Option.map_some,Option.bind_some,List.getElem?_cons_succ];rw [show n+1+i=n+(i+1) by omega]
theorem Xj {K:TypeId} {f:α→Value} {d:TypeDesc} (hK:P.underlying K=some d) (hn:∀ x y,Instr.sameNow d (f x) (f y)=none) (hq:∀ x y w,(Op.equal K (f x) (f y)).run P w = .ok (decide (x=y)) w)
  (es:List MapEntry) (ks:List α) (x:α) (w:World) (h:es.map (·.key)=ks.map f) :
  (Instr.findKey K (f x) es).run P w = .ok ((Dy ks x).bind fun i=>es[i]?.map fun e=>(i,e.val)) w:=by
 cases es with
 | nil=>cases ks with
  | nil=>exact run_findKey hK rfl
  | cons y r=>cases h
 | cons e r =>
  have h1:Instr.findNow d (f x) (e :: r) 0=none:=by
   cases ks with
   | nil=>cases h
   | cons y ks =>
    simp only [List.map_cons,List.cons.injEq] at h
    simp only [Instr.findNow,h.1,hn]
  unfold Instr.findKey
  simp only [Sem.run_bind,run_underlying hK,Result.andThen_ok,h1]
  simpa using Kt hq x w (e :: r) ks 0 h
def bK (s:Str):Value:=.string ⟨s.toArray⟩
theorem zh.str {K:TypeId} (hK:P.underlying K=some .string):zh P K Rep.str bK where
 is:=fun e=>uq.1 e
 chk:=fun e w x=>MapKept.run_checkKey hK (by trivial) e 9999
 find:=OB hK fun x y=>by
  simp only [Instr.sameNow,bK]
  congr 1
  rw [Bool.eq_iff_iff,MapKept.bytes_beq]
  simp
 bits:=fun x=>(MapKept.bytes_beq _ _).2 rfl
 val:=fun _ _=>uq.2 rfl
def kInt (k:IntKind) (n:Int):Value:=.int k n
theorem zh.int {K:TypeId} {k:IntKind} (hK:P.underlying K=some (.int k)):zh P K (Rep.int k) (kInt k) where
 is:=fun e=>nD.1 e
 chk:=fun e w x=>MapKept.run_checkKey hK (by trivial) e 9999
 find:=OB hK fun x y=>by
  simp only [Instr.sameNow,kInt,if_true]
  congr 1
 bits:=fun x=>by simp [Instr.sameBits,kInt]
 val:=fun _ _=>nD.2 rfl
end
def zi (f:α→Value) (rv:Rep β) (h:H):List MapEntry→List (α×β)→Prop
 | [],[]=>True
 | e :: es,p :: l=>(e.key=f p.1∧rv.val h e.val p.2)∧zi f rv h es l
 | _,_=>False
theorem zi.mono {f:α→Value} {rv:Rep β} {h h':H} (hl:nO h h'):∀ {es:List MapEntry} {l:List (α×β)},zi f rv h es l→zi f rv h' es l
 | [],[],_=>trivial
 | _ :: _,_ :: _,⟨⟨a,b⟩,c⟩=>⟨⟨a,rv.NH hl b⟩,zi.mono hl c⟩
theorem zi.keys {f : α → Value} {rv : Rep β} {h : H} : ∀ {es : List MapEntry} {l : List (α × β)}, zi f rv h es l → es.map (·.key) = (l.map (·.1)).map f
 | [],[],_=>rfl
 | _ :: _,_ :: _,⟨⟨a,_⟩,c⟩=>by simp only [List.map_cons,a,zi.keys c]
theorem zi.snoc {f:α→Value} {rv:Rep β} {h:H} {e:MapEntry} {p:α×β} (he:e.key=f p.1∧rv.val h e.val p.2):∀ {es:List MapEntry} {l:List (α×β)},zi f rv h es l→zi f rv h (es ++ [e]) (l ++ [p])
 | [],[],_=>⟨he,trivial⟩
 | _ :: _,_ :: _,⟨a,c⟩=>⟨a,zi.snoc he c⟩
def y8 (es:List MapEntry) (c:Nat):Prop:=(es.map (·.born)).Nodup∧∀ e ∈ es,e.born<c
theorem y8.push {es:List MapEntry} {c:Nat} {k v:Value} (h:y8 es c):y8 (es ++ [{ key:=k,val:=v,born:=c }]) (c+1):=by
 refine ⟨?_,fun e he=>?_⟩
 ·rw [List.map_append,List.nodup_append]
  refine ⟨h.1,by simp,fun a ha b hb=>?_⟩
  obtain ⟨e,he,rfl⟩:=List.mem_map.1 ha
  simp only [List.map_cons,List.map_nil,List.mem_singleton] at hb
  have:=h.2 e he
  omega
 ·rcases List.mem_append.1 he with he | he
  ·have:=h.2 e he;omega
  ·simp only [List.mem_singleton] at he;subst he;exact Nat.lt_succ_self _
theorem y8.modify {es:List MapEntry} {c j:Nat} {g:MapEntry→MapEntry} (hg:∀ e,(g e).born=e.born) (h:y8 es c):y8 (es.modify j g) c:=by
 have hm:(es.modify j g).map (·.born)=es.map (·.born):=by
  refine List.ext_getElem? fun m=>?_
  simp only [List.getElem?_map,List.getElem?_modify]
  cases es[m]? with
  | none=>rfl
  | some e=>simp only [Option.map_some];split <;> simp [hg]
 refine ⟨by rw [hm];exact h.1,fun e he=>?_⟩
 have:e.born ∈ (es.modify j g).map (·.born):=List.mem_map.2 ⟨e,he,rfl⟩
 rw [hm] at this
 obtain ⟨e',he',hb⟩:=List.mem_map.1 this
 rw [← hb];exact h.2 e' he'
theorem y8.eraseIdx {es:List MapEntry} {c i:Nat} (h:y8 es c):y8 (es.eraseIdx i) c :=
 ⟨(List.Sublist.map _ (List.eraseIdx_sublist es i)).nodup h.1,fun e he=>h.2 e ((List.eraseIdx_sublist es i).subset he)⟩
def qQ (b:Nat) (f:α→Value) (rv:Rep β) (l:List (α×β)):jh where
 claims:=[(b,0)]
 ok:=fun h m=>∃ es clock,m b=some (.map es clock)∧zi f rv h es.toList l∧y8 es.toList clock
 mono:=by rintro h h' m hl ⟨es,c,e,k⟩;exact ⟨es,c,e,k.1.mono hl,k.2⟩
 frame:=fun hm ⟨es,c,e,k⟩=>⟨es,c,by rw [hm (b,0) (by simp)];exact e,k⟩
def bI (f:α→Value) (rv:Rep β) (l:List (α×β)):gQ:=fun v e=>∃ b,v = .map (some b)∧e=qQ b f rv l
theorem D9 {T:TypeId} {f:α→Value} {rv:Rep β} {d:Nat} (hd:o.dst=some d) (ho:o.op = .makeMap T none):fC P o N [] bD.qy [(d,some (bI f rv []))]:=by
 intro κ B F L h a w hst hn _ hdn next Q hnext _
 unfold Oper.qB
 have:(execOp a.eval o).run P w = .ok (.value (.map (some w.heap.size))) (w.alloc (.map #[] 0)):=by
  have e:(Instr.makeMap T none).run P w = .ok (.map (some w.heap.size)) (w.alloc (.map #[] 0)):=rfl
  simp only [execOp,ho,Option.map_none,Sem.run_bind,e,Result.andThen_ok,Sem.run_pure]
 rw [this]
 refine hnext _ h _ (set1 L d (qQ w.heap.size f rv [])) (nO.refl h) trivial (hst.zS _ d _ (by simp [qQ]) ⟨#[],0,zT _ _,trivial,by simp [y8]⟩) ?_
 rw [hd]
 exact nP ⟨_,iQ (hdn d hd),rfl⟩
theorem YZ {κ:Type} {B:Base} {h:H} {L:Nat→Option jh} {F:κ→Option jh} {w:World} (hst:St B h (Sum.elim L F) w) {s b:Nat} {f:α→Value} {rv:Rep β} {l:List (α×β)}
  (hk:L s=some (qQ b f rv l)):∃ es clock,w.heap[b]? = some (.map es clock)∧zi f rv h es.toList l :=
 let ⟨es,c,h1,h2,_⟩:=(hst.own (k:=Sum.inl s) hk).2
 ⟨es,c,h1,h2⟩
theorem Ns {κ:Type} {B:Base} {h:H} {L:Nat→Option jh} {F:κ→Option jh} {w:World} (hst:St B h (Sum.elim L F) w) {s b:Nat} {f:α→Value} {rv:Rep β} {l:List (α×β)}
  (hk:L s=some (qQ b f rv l)):∃ es clock,w.heap[b]? = some (.map es clock)∧zi f rv h es.toList l∧y8 es.toList clock:=(hst.own (k:=Sum.inl s) hk).2
section
variable [DecidableEq α]
theorem Ku {f:α→Value} {rv:Rep β} {h:H} (x:α):∀ {es:List MapEntry} {l:List (α×β)},zi f rv h es l →
    (Dy (l.map (·.1)) x=none∧kJ l x=false∧(∀ z,fU z l x=z)∧∀ y,qM l x y=l ++ [(x,y)]) ∨
    ∃ i e0,Dy (l.map (·.1)) x=some i∧es[i]? = some e0∧e0.key=f x∧kJ l x=true∧(∀ z,rv.val h e0.val (fU z l x)) ∧
      ∀ g y,(∀ e,(g e).key=e.key)→(∀ e,rv.val h (g e).val y)→zi f rv h (es.modify i g) (qM l x y)
  | [],[],_=>.inl ⟨rfl,rfl,fun _=>rfl,fun _=>rfl⟩
  | e :: es,p :: l,⟨⟨hk,hv⟩,hr⟩=>by
    by_cases hx:x=p.1
    · refine .inr ⟨0, e, ?_, rfl, by rw [hk, hx], by simp [kJ, hx], fun z => by simpa [fU, hx] using hv, fun g y hg hy => ?_⟩
      · simp only [List.map_cons,Dy,hx,decide_true,cond_true]
      · simp only [List.modify_zero_cons,qM,hx,decide_true,cond_true]
        exact ⟨⟨by rw [hg,hk],hy e⟩,hr⟩
    · rcases Ku x hr with ⟨h1,h2,h3,h4⟩ | ⟨i,e0,h1,h2,h3,h4,h5,h6⟩
      · exact .inl ⟨by simp [Dy,hx,h1],by simp [kJ,hx,h2],fun z=>by simp [fU,hx,h3],fun y=>by simp [qM,hx,h4]⟩
      · refine .inr ⟨i + 1, e0, by simp [Dy, hx, h1], by simpa using h2, h3, by simp [kJ, h4], fun z => by simpa [fU, hx] using h5 z, fun g y hg hy => ?_⟩
        simp only [List.modify_succ_cons,qM,hx,decide_false,cond_false]
        exact ⟨⟨hk,hv⟩,h6 g y hg hy⟩
theorem IG {K:TypeId} {rk:Rep α} {f:α→Value} (hf:zh P K rk f) {rv:Rep β} {h:H} {es:List MapEntry} {l:List (α×β)} (hr:zi f rv h es l) {x:α} (h1:Dy (l.map (·.1)) x=none) (w:World):(Instr.findKey K (f x) es).run P w = .ok none w:=by
 rw [hf.find _ _ x w hr.keys,h1];rfl
theorem II {K:TypeId} {rk:Rep α} {f:α→Value} (hf:zh P K rk f) {rv:Rep β} {h:H} {es:List MapEntry} {l:List (α×β)} (hr:zi f rv h es l) {x:α} {i:Nat} {e0:MapEntry} (h1:Dy (l.map (·.1)) x=some i) (h2:es[i]? = some e0) (w:World):(Instr.findKey K (f x) es).run P w = .ok (some (i,e0.val)) w:=by
 rw [hf.find _ _ x w hr.keys,h1,Option.bind_some,h2];rfl
end
section
variable [DecidableEq α]
theorem OC {T K E:TypeId} {rk:Rep α} {f:α→Value} {rv:Rep β} {s:Nat} {x i:Operand} {l:List (α×β)} {y:α} (hf:zh P K rk f) (t:kH P E rv) (hT:P.underlying T=some (.map K E))
  (W:Wr) (ho:o.op = .lookup T x i false) (hx:TR N x W s) (hi:dD N i (fV rk y)):fC P o N [(s,W.ap (bI f rv l))] (fV rv (fU rv.zero l y)) []:=by
 intro κ B F L h a w hst hn hk _ next Q hnext _
 obtain ⟨e,hL,hq⟩:=hk.1
 obtain ⟨b,hv,rfl⟩:=Wr.iff.1 hq
 have hx':a.eval x = .map (some b):=(hx h a hn).trans hv
 have hi':=hf.is (hi h a hn)
 obtain ⟨es,clock,hb,hr⟩:=YZ hst hL
 rcases Ku y hr with ⟨h1,_,h3,_⟩ | ⟨j,e0,h1,h2,_,_,h5,_⟩
 ·have:(execOp a.eval o).run P w = .ok (.value (pack rv.agg rv.zc)) w:=by
   simp [execOp,ho,hx',hi',Instr.lookup,run_underlying hT,MapKept.run_getObj_map hb,hf.chk,IG hf hr h1,t.zero]
  unfold Oper.qB
  rw [this]
  exact hnext _ h w L (nO.refl h) ⟨rv.zc,by rw [h3];exact rv.xq h,rfl⟩ hst nY
 ·have:(execOp a.eval o).run P w = .ok (.value e0.val) w:=by
   simp [execOp,ho,hx',hi',Instr.lookup,run_underlying hT,MapKept.run_getObj_map hb,hf.chk,II hf hr h1 h2]
  unfold Oper.qB
  rw [this]
  exact hnext _ h w L (nO.refl h) (h5 _) hst nY
theorem TU {T K E:TypeId} {rk:Rep α} {f:α→Value} {rv:Rep β} {s:Nat} {x i:Operand} {l:List (α×β)} {y:α} (hf:zh P K rk f) (t:kH P E rv) (hT:P.underlying T=some (.map K E))
  (W:Wr) (ho:o.op = .lookup T x i true) (hx:TR N x W s) (hi:dD N i (fV rk y)):fC P o N [(s,W.ap (bI f rv l))] (Cc (fV rv (fU rv.zero l y)) (fV Rep.bool (kJ l y))) []:=by
 intro κ B F L h a w hst hn hk _ next Q hnext _
 obtain ⟨e,hL,hq⟩:=hk.1
 obtain ⟨b,hv,rfl⟩:=Wr.iff.1 hq
 have hx':a.eval x = .map (some b):=(hx h a hn).trans hv
 have hi':=hf.is (hi h a hn)
 obtain ⟨es,clock,hb,hr⟩:=YZ hst hL
 rcases Ku y hr with ⟨h1,h2,h3,_⟩ | ⟨j,e0,h1,h2,_,h4,h5,_⟩
 ·have:(execOp a.eval o).run P w = .ok (.value (.tuple #[pack rv.agg rv.zc,.bool false])) w:=by
   simp [execOp,ho,hx',hi',Instr.lookup,run_underlying hT,MapKept.run_getObj_map hb,hf.chk,IG hf hr h1,t.zero]
  unfold Oper.qB
  rw [this]
  exact hnext _ h w L (nO.refl h) ⟨_,_,rfl,⟨rv.zc,by rw [h3];exact rv.xq h,rfl⟩,kW.2 (by rw [h2])⟩ hst nY
 ·have:(execOp a.eval o).run P w = .ok (.value (.tuple #[e0.val,.bool true])) w:=by
   simp [execOp,ho,hx',hi',Instr.lookup,run_underlying hT,MapKept.run_getObj_map hb,hf.chk,II hf hr h1 h2]
  unfold Oper.qB
  rw [this]
  exact hnext _ h w L (nO.refl h) ⟨_,_,rfl,h5 _,kW.2 (by rw [h4])⟩ hst nY
theorem Lm {T K E:TypeId} {rk:Rep α} {f:α→Value} {rv:Rep β} {s:Nat} {x i:Operand} {l:List (α×β)} {y:α} (hf:zh P K rk f) (t:kH P E rv) (hT:P.underlying T=some (.map K E))
  (ho:o.op = .lookup T x i false) (hx:dD N x (UI s)) (hi:dD N i (fV rk y)):fC P o N [(s,bI f rv l)] (fV rv (fU rv.zero l y)) []:=OC hf t hT .slot ho (.slot hx) hi
theorem wY {T K E:TypeId} {rk:Rep α} {f:α→Value} {rv:Rep β} {s:Nat} {sv:Value} {x i:Operand} {l:List (α×β)} {y:α} (hf:zh P K rk f) (t:kH P E rv) (hT:P.underlying T=some (.map K E))
  (ho:o.op = .lookup T x i false) (hx:dD N x (fJ sv)) (hi:dD N i (fV rk y)):fC P o N [(s,dm (bI f rv l) sv)] (fV rv (fU rv.zero l y)) []:=OC hf t hT (.val sv) ho (.val hx) hi
theorem zJ {T K E:TypeId} {rk:Rep α} {f:α→Value} {rv:Rep β} {s:Nat} {sv:Value} {x i:Operand} {l:List (α×β)} {y:α} (hf:zh P K rk f) (t:kH P E rv) (hT:P.underlying T=some (.map K E))
  (ho:o.op = .lookup T x i true) (hx:dD N x (fJ sv)) (hi:dD N i (fV rk y)):fC P o N [(s,dm (bI f rv l) sv)] (Cc (fV rv (fU rv.zero l y)) (fV Rep.bool (kJ l y))) []:=TU hf t hT (.val sv) ho (.val hx) hi
theorem run_keyThatStays {u:Value} {w:World} (h:Instr.sameBits 10000 u u=true):(Instr.keyThatStays u u).run P w = .ok u w:=by
 unfold Instr.keyThatStays
 rw [if_pos h];rfl
def xY (w:World) (b:Nat) (o:Obj):World:={ w with heap:=w.heap.setIfInBounds b o }
theorem OD {w:World} {b:Nat} {o o':Obj} (hb:w.heap[b]? = some o):(xY w b o').heap[b]? = some o':=by
 have:=(Array.getElem?_eq_some_iff.1 hb).1
 simp [xY,this]
theorem OE {w:World} {b i:Nat} {o':Obj} (hi:i≠b):(xY w b o').heap[i]? = w.heap[i]?:=by
 simp [xY,Ne.symm hi]
theorem Ja {T K E:TypeId} {rk:Rep α} {f:α→Value} {rv:Rep β} {s:Nat} {x i v:Operand} {l:List (α×β)} {y:α} {z:β} (hf:zh P K rk f) (hT:P.underlying T=some (.map K E)) (hd:o.dst=none)
    (W:Wr) (ho:o.op = .mapUpdate T x i v∨o.op = .insert T x i v) (hx:TR N x W s) (hi:dD N i (fV rk y)) (hv:dD N v (fV rv z)):fC P o N [(s,W.ap (bI f rv l))] bD.qy [(s,some (W.ap (bI f rv (qM l y z))))]:=by
  intro κ B F L h a w hst hn hk _ next Q hnext _
  obtain ⟨e,hL,hq⟩:=hk.1
  obtain ⟨b,hvb,rfl⟩:=Wr.iff.1 hq
  have hx':a.eval x = .map (some b):=(hx h a hn).trans hvb
  have hi':=hf.is (hi h a hn)
  have hv':=hv h a hn
  obtain ⟨es,clock,hb,hr,hB⟩:=Ns hst hL
  have fin:∀ es' clock',zi f rv h es'.toList (qM l y z)→y8 es'.toList clock'→(execOp a.eval o).run P w = .ok .skip (xY w b (.map es' clock'))→o.qB P a w next Q:=by
    intro es' clock' hrel hbn hrun
    unfold Oper.qB
    rw [hrun]
    refine hnext undef h _ (set1 L s (qQ b f rv (qM l y z))) (nO.refl h) trivial ?_ ?_
    · obtain ⟨hcl,_⟩:=hst.own (k:=Sum.inl s) hL
      have hno:=(hcl (b,0) (by simp [qQ])).2.2
      have hlt:=(hcl (b,0) (by simp [qQ])).2.1
      refine hst.step (hnf:=hst.KT (k:=Sum.inl s) hL (by simp [qQ])) (Sum.inl s) (fun i=>i=b) (fun i hi _=>⟨_,hL,(b,0),by simp [qQ],hi.symm⟩) (by simp [xY]) rfl rfl rfl (fun i _ hi=>OE hi) (nO.refl h) (fun _ _ _ _=>rfl) ?_ um ?_
      · rintro i o' u (rfl | hi) hu
        · rw [hno o' (Nat.zero_le _)] at hu;cases hu
        · rw [hst.fresh hi] at hu;cases hu
      · intro e' he
        rw [uo he]
        refine ⟨fun c hc=>?_,es',clock',OD hb,hrel,hbn⟩
        simp only [qQ,List.mem_singleton] at hc
        subst hc
        exact ⟨.inr ⟨_,hL,(b,0),by simp [qQ],rfl⟩,by simpa [xY] using hlt,fun o' _=>hno o' (Nat.zero_le _)⟩
    · rw [hd]
      exact nP (Wr.iff.2 ⟨b,hvb,rfl⟩)
  rcases Ku y hr with ⟨h1,_,_,h4⟩ | ⟨j,e0,h1,h2,h3,_,_,h6⟩
  · refine fin (es.push { key := f y, val := a.eval v, born := clock }) (clock + 1) ?_ (by rw [Array.toList_push]; exact hB.push) ?_
    · rw [h4,Array.toList_push]
      exact zi.snoc (e:=⟨f y,a.eval v,clock⟩) (p:=(y,z)) ⟨rfl,hv'⟩ hr
    · rcases ho with ho | ho <;> simp [execOp,ho,hx',hi',Instr.mapUpdate,run_underlying hT,MapKept.run_getObj_map hb,hf.chk,IG hf hr h1,MapKept.run_setObj_map _ hb,xY]
  · have h2' : es[j]? = some e0 := by simpa using h2
    refine fin (es.modify j fun e=>{ e with key:=f y,val:=a.eval v }) clock ?_ (by rw [Array.toList_modify];exact hB.modify (fun _=>rfl)) ?_
    · have hkey:es.toList.modify j (fun e=>{ e with key:=f y,val:=a.eval v })=es.toList.modify j (fun e=>{ e with val:=a.eval v }):=by
        refine List.ext_getElem? fun m=>?_
        simp only [List.getElem?_modify]
        by_cases hm:j=m
        · subst hm;simp [h2',← h3]
        · simp [hm]
      rw [Array.toList_modify,hkey]
      exact h6 _ z (fun _=>rfl) (fun _=>hv')
    · rcases ho with ho | ho <;> simp [execOp,ho,hx',hi',Instr.mapUpdate,run_underlying hT,MapKept.run_getObj_map hb,hf.chk,II hf hr h1 h2,h2',h3,run_keyThatStays (hf.bits y),MapKept.run_setObj_map _ hb,xY]
theorem JY {T K E:TypeId} {rk:Rep α} {f:α→Value} {rv:Rep β} {s:Nat} {x i v:Operand} {l:List (α×β)} {y:α} {z:β} (hf:zh P K rk f) (hT:P.underlying T=some (.map K E)) (hd:o.dst=none)
  (ho:o.op = .mapUpdate T x i v∨o.op = .insert T x i v) (hx:dD N x (UI s)) (hi:dD N i (fV rk y)) (hv:dD N v (fV rv z)):fC P o N [(s,bI f rv l)] bD.qy [(s,some (bI f rv (qM l y z)))]:=Ja hf hT hd .slot ho (.slot hx) hi hv
theorem xK {T K E:TypeId} {rk:Rep α} {f:α→Value} {rv:Rep β} {s:Nat} {sv:Value} {x i v:Operand} {l:List (α×β)} {y:α} {z:β} (hf:zh P K rk f) (hT:P.underlying T=some (.map K E)) (hd:o.dst=none)
  (ho:o.op = .mapUpdate T x i v∨o.op = .insert T x i v) (hx:dD N x (fJ sv)) (hi:dD N i (fV rk y)) (hv:dD N v (fV rv z)):fC P o N [(s,dm (bI f rv l) sv)] bD.qy [(s,some (dm (bI f rv (qM l y z)) sv))]:=Ja hf hT hd (.val sv) ho (.val hx) hi hv
def Ho:List (α×β)→α→List (α×β)
 | [],_=>[]
 | p :: r,x=>bif decide (x=p.1) then r else p :: Ho r x
theorem TV {f:α→Value} {rv:Rep β} {h:H} (x:α):∀ {es:List MapEntry} {l:List (α×β)},zi f rv h es l →
    (Dy (l.map (·.1)) x=none∧Ho l x=l)∨∃ i e0,Dy (l.map (·.1)) x=some i∧es[i]? = some e0∧zi f rv h (es.eraseIdx i) (Ho l x)
  | [],[],_=>.inl ⟨rfl,rfl⟩
  | e :: es,p :: l,⟨⟨hk,hv⟩,hr⟩=>by
    by_cases hx:x=p.1
    · refine .inr ⟨0,e,?_,rfl,?_⟩
      · simp only [List.map_cons,Dy,hx,decide_true,cond_true]
      · simpa [Ho,hx] using hr
    · rcases TV x hr with ⟨h1,h2⟩ | ⟨i,e0,h1,h2,h3⟩
      · exact .inl ⟨by simp [Dy,hx,h1],by simp [Ho,hx,h2]⟩
      · refine .inr ⟨i + 1, e0, by simp [Dy, hx, h1], by simpa using h2, ?_⟩
        simp only [List.eraseIdx_cons_succ,Ho,hx,decide_false,cond_false]
        exact ⟨⟨hk,hv⟩,h3⟩
theorem Vp {T K E:TypeId} {rk:Rep α} {f:α→Value} {rv:Rep β} {s:Nat} {x i:Operand} {l:List (α×β)} {y:α} {ts:Array TypeId} (hf:zh P K rk f) (hT:P.underlying T=some (.map K E)) (hts:ts[0]? = some T) (W:Wr)
    (ho:o.op = .call { callee:=.builtin .delete,args:=#[x,i],argTypes:=ts }) (hx:TR N x W s) (hi:dD N i (fV rk y)) (hds:LV o.dst s=true):fC P o N [(s,W.ap (bI f rv l))] bD.qy [(s,some (W.ap (bI f rv (Ho l y))))]:=by
  intro κ B F L h a w hst hn hk _ next Q hnext _
  obtain ⟨e,hL,hq⟩:=hk.1
  obtain ⟨b,hvb,rfl⟩:=Wr.iff.1 hq
  have hx':a.eval x = .map (some b):=(hx h a hn).trans hvb
  have hi':=hf.is (hi h a hn)
  obtain ⟨es,clock,hb,hr,hB⟩:=Ns hst hL
  have hgs:∀ v,(a.put o.dst v).gt s=a.gt s:=fun v=>zA (by
    intro hd;unfold LV at hds;rw [hd] at hds
    simp [Nat.beq_refl] at hds)
  have fin:∀ es':Array MapEntry,zi f rv h es'.toList (Ho l y)→y8 es'.toList clock→(execOp a.eval o).run P w = .ok (.value (.tuple #[])) (xY w b (.map es' clock))→o.qB P a w next Q:=by
    intro es' hrel hbn hrun
    unfold Oper.qB
    rw [hrun]
    refine hnext _ h _ (set1 L s (qQ b f rv (Ho l y))) (nO.refl h) trivial ?_ ?_
    · obtain ⟨hcl,_⟩:=hst.own (k:=Sum.inl s) hL
      have hno:=(hcl (b,0) (by simp [qQ])).2.2
      have hlt:=(hcl (b,0) (by simp [qQ])).2.1
      refine hst.step (hnf:=hst.KT (k:=Sum.inl s) hL (by simp [qQ])) (Sum.inl s) (fun i=>i=b) (fun i hi _=>⟨_,hL,(b,0),by simp [qQ],hi.symm⟩) (by simp [xY]) rfl rfl rfl (fun i _ hi=>OE hi) (nO.refl h) (fun _ _ _ _=>rfl) ?_ um ?_
      · rintro i o' u (rfl | hi) hu
        · rw [hno o' (Nat.zero_le _)] at hu;cases hu
        · rw [hst.fresh hi] at hu;cases hu
      · intro e' he
        rw [uo he]
        refine ⟨fun c hc=>?_,es',clock,OD hb,hrel,hbn⟩
        simp only [qQ,List.mem_singleton] at hc
        subst hc
        exact ⟨.inr ⟨_,hL,(b,0),by simp [qQ],rfl⟩,by simpa [xY] using hlt,fun o' _=>hno o' (Nat.zero_le _)⟩
    · refine nP ?_
      rw [hgs]
      exact Wr.iff.2 ⟨b,hvb,rfl⟩
  rcases TV y hr with ⟨h1,h2⟩ | ⟨j,e0,h1,h2,h3⟩
  · refine fin es (by rw [h2]; exact hr) hB ?_
    simp [execOp,ho,resolve,invoke,builtin,Builtin.delete_,hts,hx',hi',run_underlying hT,MapKept.run_getObj_map hb,hf.chk,IG hf hr h1,MapKept.run_setObj_map _ hb,xY]
  · refine fin (es.eraseIdxIfInBounds j) (by rw [Array.toList_eraseIdxIfInBounds]; exact h3) (by rw [Array.toList_eraseIdxIfInBounds]; exact hB.eraseIdx) ?_
    simp [execOp,ho,resolve,invoke,builtin,Builtin.delete_,hts,hx',hi',run_underlying hT,MapKept.run_getObj_map hb,hf.chk,II hf hr h1 h2,MapKept.run_setObj_map _ hb,xY]
theorem Va {T K E:TypeId} {rk:Rep α} {f:α→Value} {rv:Rep β} {s:Nat} {sv:Value} {x i:Operand} {l:List (α×β)} {y:α} {ts:Array TypeId} (hf:zh P K rk f) (hT:P.underlying T=some (.map K E)) (hts:ts[0]? = some T)
  (ho:o.op = .call { callee:=.builtin .delete,args:=#[x,i],argTypes:=ts }) (hx:dD N x (fJ sv)) (hi:dD N i (fV rk y)) (hds:LV o.dst s=true):fC P o N [(s,dm (bI f rv l) sv)] bD.qy [(s,some (dm (bI f rv (Ho l y)) sv))]:=Vp hf hT hts (.val sv) ho (.val hx) hi hds
end
end Go.KB
namespace Go.KB
variable {P:Program} {o:Oper} {N:List (Nat×bD)} {α β:Type}
def Y0 (r:Rep α) (h:H) (v:Value):Option α→Prop
 | none=>v = .pointer none
 | some x=>∃ b off,v = .pointer (some ⟨b,off,none⟩)∧zQ r h b off x
def Rep.ptr (r:Rep α):Rep (Option α) where
 sz:=1
 agg:=false
 rel:=fun h cs x=>∃ v,cs=[v]∧Y0 r h v x
 zero:=none
 zc:=[.pointer none]
 one:=fun _=>rfl
 len:=fun ⟨v,e,_⟩=>by rw [e];rfl
 flat:=fun {h cs x} ⟨v,e,k⟩ c hc=>by
  rw [e] at hc;simp at hc;rw [hc]
  cases x with
  | none=>rw [show v=_ from k];rfl
  | some x=>obtain ⟨b,off,rfl,_⟩:=k;rfl
 mono:=fun {h h' cs x} hl ⟨v,e,k⟩=>⟨v,e,by
  cases x with
  | none=>exact k
  | some x=>obtain ⟨b,off,e,k⟩:=k;exact ⟨b,off,e,k.mono hl⟩⟩
 xq:=fun _=>⟨_,rfl,rfl⟩
theorem Wl {r:Rep α} {h:H} {v:Value} {x:Option α}:(Rep.ptr r).val h v x↔Y0 r h v x :=
 ⟨fun ⟨_,⟨v',e,k⟩,e'⟩=>by rw [e',e];exact k,fun k=>⟨[v],⟨v,rfl,k⟩,rfl⟩⟩
theorem N9 {r:Rep α}:dD N (.const (.pointer none)) (fV (Rep.ptr r) none):=fun _ _ _=>Wl.2 rfl
theorem La {T T':TypeId} {r:Rep α} {x:Operand} {q:Option α} (hT:P.underlying T=some (.pointer (P.pointee T))) (ho:o.op = .binOp .eql T x (.const (.pointer none)) T') (hx:dD N x (fV (Rep.ptr r) q)):fC P o N [] (fV Rep.bool q.isNone) [] :=
 fC.rM fun h a w _ n=>by
  have hg:∀ p,(eqGuard .eql T x (.const (.pointer none)) (.pointer p) (.pointer none)).run P w = .ok () w:=by
   intro p;unfold eqGuard;rfl
  have hv:=Wl.1 (hx h a n)
  cases q with
  | none =>
   have hv:a.eval x = .pointer none:=hv
   exact ⟨.bool true,by simp only [execOp,ho,hv,show a.eval (.const (.pointer none)) = .pointer none from rfl,hg,Sem.run_bind,Result.andThen_ok,Sem.run_pure,run_eql_pointer_nil w T none hT];rfl,kW.2 rfl⟩
  | some y =>
   obtain ⟨b,off,hv,_⟩:=hv
   exact ⟨.bool false,by simp only [execOp,ho,hv,show a.eval (.const (.pointer none)) = .pointer none from rfl,hg,Sem.run_bind,Result.andThen_ok,Sem.run_pure,run_eql_pointer_nil w T (some ⟨b,off,none⟩) hT];rfl,kW.2 rfl⟩
end Go.KB
namespace Go.KB
variable {P:Program} {o:Oper} {N:List (Nat×bD)} {α β:Type}
theorem Fv {s i:Nat} {ι:Type} {q0 q0':gQ} {q q':ι→gQ} {fx:bD} {f:FuncId} {fn:Func} {args:List bD} {post:bD} {xs:Array Operand} {ts:Array TypeId} {y:Operand}
  (hc:∀ k,VI P f args i (q k) (q' k) post) (hb:DJ s fx q0 q0' q q') (hfx:fx.dep=some s) (hf:P.funcs[f]? = some fn) (hbd:vO fn=true) (hd:qw (post :: args)=true) (hds:LV o.dst s=true)
  (ho:o.op = .call { callee:=.value (.func f),args:=xs,argTypes:=ts }) (hy:xs.toList[i]? = some y) (hyx:dD N y fx) (hargs:wW N args xs.toList):fC P o N [(s,q0)] bD.qy [(s,some q0')] :=
 fC.out (oz hd post List.mem_cons_self) (fun _ _ _ _=>trivial) (X8 hc hb hfx hf hbd hd hds ho hy hyx hargs)
end Go.KB
namespace Go.KB
variable {P:Program} {o:Oper} {N:List (Nat×bD)} {α β:Type}
def NR:bD:=⟨none,fun _ _ v=>v = .slice none 0 0,fun _ x=>x⟩
theorem opdN0:dD N (.const (.slice none 0 0)) NR:=fun _ _ _=>rfl
theorem opdNS {r:Rep α} {x:Operand} (hx:dD N x NR):dD N x (fV (Rep.slice r) []):=fun h a n=>by
 rw [show a.eval x=_ from hx h a n]
 exact nR.2 (.inl ⟨⟨none,rfl⟩,rfl⟩)
theorem OG (z:Array Value) (n:Nat):(Builtin.zeroCells z (n+1)).toList=z.toList ++ (Builtin.zeroCells z n).toList:=by
  unfold Builtin.zeroCells
  simp only [Array.toList_map,Array.toList_range]
  rw [show (n+1) * z.size=z.size+n * z.size by rw [Nat.add_mul];omega,List.range_add,List.map_append,List.map_map]
  congr 1
  · refine List.ext_getElem (by simp) fun i h1 h2 => ?_
    have hi:i<z.size:=by simpa using h2
    simp [Nat.mod_eq_of_lt hi,hi]
  · refine List.map_congr_left fun i _ => ?_
    simp
theorem Hw (z:List Value):∀ n,(Builtin.zeroCells z.toArray n).toList=(List.replicate n z).flatten
 | 0=>by simp [Builtin.zeroCells]
 | n+1=>by rw [OG,Hw z n,List.replicate_succ,List.flatten_cons]
end Go.KB
namespace Go.KB
section
variable {P:Program} {o:Oper} {N:List (Nat×bD)} {α:Type}
theorem cu {T:TypeId} {r:Rep α} {s:Nat} {y:α} (t:kH P T r) (ho:o.op = .load T (.tmp s)):fC P o ((s,bQ r y) :: N) [] (fV r y) []:=jy t ho aj
theorem fD {β:Type} {T:TypeId} {r:Rep α} {q:Rep β} {s:Nat} {y:α} {i off:Nat} {get:α→β} {set:α→β→α} (l:Lens r q off get set) (hf:dL P T i off) (ho:o.op = .fieldAddr T (.tmp s) i):fC P o ((s,bQ r y) :: N) [] (bQ q (get y)) []:=ja l hf ho aj
theorem iE {T:TypeId} {r:Rep α} {s v:Nat} {y z:α} (t:kH P T r) (ho:o.op = .store T (.tmp s) (.tmp v)) (hd:o.dst=none:=by rfl):fC P o ((v,fV r z) :: N) [(s,bT T r y)] bD.qy [(s,some (bT T r z))]:=Td t hd ho aj
def Y1:BinOp→Bool
 | .eql | .neq | .lss | .leq | .gtr | .geq=>true
 | _=>false
theorem OH {op:BinOp} (h:Y1 op=true):op = .eql∨op = .neq∨op = .lss∨op = .leq∨op = .gtr∨op = .geq:=by
 cases op <;> first | (cases h;done) | simp
theorem jl {op:BinOp} {k:IntKind} {T T':TypeId} {s:Nat} {m n:Int} (ho:o.op = .binOp op T (.tmp s) (.const (.int k n)) T') (hop:Y1 op=true:=by rfl):fC P o ((s,fV (Rep.int k) m) :: N) [] (fV Rep.bool (aS op m n)) []:=fK (OH hop) rfl ho aj bJ
theorem kG {op:BinOp} {k:IntKind} {T T':TypeId} {s t:Nat} {m n:Int} (ho:o.op = .binOp op T (.tmp s) (.tmp t) T') (hop:Y1 op=true:=by rfl):fC P o ((s,fV (Rep.int k) m) :: (t,fV (Rep.int k) n) :: N) [] (fV Rep.bool (aS op m n)) []:=fK (OH hop) rfl ho aj aG
theorem iF {α β γ:Type} {x:Option α} {f:α→Option β} {g:α→β→Option γ} {r:γ} (h:(x.bind fun a=>(f a).bind (g a))=some r):∃ a,x=some a∧∃ b,f a=some b∧g a b=some r:=by
 obtain ⟨a,h1,h⟩:=aY h
 obtain ⟨b,h2,h⟩:=aY h
 exact ⟨a,h1,b,h2,h⟩
theorem tn {K:Act→World→Prop} {Q:Exit→Act→World→Prop} {a:Act} {w:World} (h:K a w):Exit.then K Q .normal a w:=h
theorem tr {K:Act→World→Prop} {Q:Exit→Act→World→Prop} {a:Act} {w:World} (h:Q .ret a w):Exit.then K Q .ret a w:=h
theorem ws {ρ:Option Nat} {Q:Exit→Act→World→Prop} {a:Act} {w:World} {x y:Code} (h:x.qB ρ P (Exit.then (y.qB ρ P Q) Q) a w):(Code.seq x y).qB ρ P Q a w:=wp_seq h
theorem wk {ρ:Option Nat} {Q:Exit→Act→World→Prop} {a:Act} {w:World} (h:Q .normal a w):Code.skip.qB ρ P Q a w:=wp_skip h
theorem wr {ρ:Option Nat} {Q:Exit→Act→World→Prop} {a:Act} {w:World} (h:Q .ret a w):Code.ret.qB ρ P Q a w:=wp_ret h
abbrev ln {α:Type} (l:List α):Int:=(List.length l:Int)
abbrev w3:Int→Int:=IntKind.u32.wrap
abbrev w1:Int→Int:=IntKind.u16.wrap
abbrev lS {α:Type} (r:Rep α):Rep (List α):=Rep.slice r
end
end Go.KB
