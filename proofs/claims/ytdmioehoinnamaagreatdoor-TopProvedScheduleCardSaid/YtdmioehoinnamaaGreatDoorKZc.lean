/- Variables whose fields are rows that are appended to. Fields of values; values whose fields are nil, and variables that take them. Maps that are owned: made, looked into, written. Pointers that are only read, nil among them; texts as rows of bytes. Functions that take a row over and hand a row back. Rows that grow from nothing: cap, cuts and appends of zeros at nil. Arrays: slices of arrays that are not written any more, elements of arrays. No condition. -/
import Derived.Test.YtdmioehoinnamaaGreatDoorKZb
import Derived.MapKept
import Derived.Laws.Pointers
import Derived.Lib.ConvBytes
import Derived.Lib.AppendZeros
namespace Go.KB
variable {P:Program} {o:Oper} {N:List (Nat×aQ)} {f:aQ} {α β:Type}
inductive Wr where
 | slot
 | val (sv:Value)
def eX (q:eP) (sv:Value):eP:=fun _ e=>q sv e
def Wr.ap (W:Wr) (q:eP):eP:=match W with | .slot=>q | .val sv=>eX q sv
def Wr.v (W:Wr) (a:Act) (g:Nat):Value:=match W with | .slot=>a.gt g | .val sv=>sv
theorem Wr.iff {W:Wr} {q:eP} {a:Act} {g:Nat} {e:gq}:W.ap q (a.gt g) e↔q (W.v a g) e:=by cases W <;> rfl
def VT (N:List (Nat×aQ)) (x:Operand) (W:Wr) (g:Nat):Prop:=∀ h a,Dl N h a→a.eval x=W.v a g
theorem VT.slot {x:Operand} {g:Nat} (hx:bF N x (Qh g)):VT N x .slot g:=fun h a n=>hx h a n
theorem VT.val {x:Operand} {g:Nat} {sv:Value} (hx:bF N x (jk sv)):VT N x (.val sv) g:=fun h a n=>hx h a n
theorem Wr.v_put {W:Wr} {a:Act} {s d:Nat} {v:Value} (h:s≠d):W.v (a.put (some d) v) s=W.v a s:=by
 cases W with
 | slot=>exact JS h
 | val sv=>rfl
def Q8 (N:List (Nat×aQ)) (x:Operand) (W:Wr) (s off:Nat):Prop:=∀ h a,Dl N h a→∃ b,W.v a s = .pointer (some ⟨b,0,none⟩)∧a.eval x = .pointer (some ⟨b,off,none⟩)
def xJ (sv:Value) (off:Nat):aQ:=⟨none,fun _ _ v=>∃ b,sv = .pointer (some ⟨b,0,none⟩)∧v = .pointer (some ⟨b,off,none⟩),fun _ x=>x⟩
theorem Q8.slot {x:Operand} {s off:Nat} (hx:bF N x (Ci s off)):Q8 N x .slot s off:=fun h a n=>hx h a n
theorem Q8.val {x:Operand} {s off:Nat} {sv:Value} (hx:bF N x (xJ sv off)):Q8 N x (.val sv) s off:=fun h a n=>hx h a n
structure bK where
 off:Nat
 E:TypeId
 sz:Nat
def uz:List bK→List (Nat×Value×gq)→Prop
 | [],[]=>True
 | t :: ts,u :: us=>(u.1=t.off∧eH t.E t.sz u.2.1 u.2.2)∧uz ts us
 | _,_=>False
theorem uz.mid {t:bK} {l2:List bK}:∀ {l1:List bK} {us:List (Nat×Value×gq)},uz (l1 ++ t :: l2) us →
  ∃ qj u rW,us=qj ++ u :: rW∧u.1=t.off∧eH t.E t.sz u.2.1 u.2.2∧uz l1 qj∧uz l2 rW:=by
 intro l1
 induction l1 with
 | nil =>
  intro us h
  cases us with
  | nil=>exact h.elim
  | cons u us=>exact ⟨[],u,us,rfl,h.1.1,h.1.2,trivial,h.2⟩
 | cons t1 l1 ih =>
  intro us h
  cases us with
  | nil=>exact h.elim
  | cons u0 us =>
   obtain ⟨qj,u,rW,rfl,h1,h2,h3,h4⟩:=ih h.2
   exact ⟨u0 :: qj,u,rW,rfl,h1,h2,⟨h.1,h3⟩,h4⟩
theorem uz.app {l2:List bK} {rW:List (Nat×Value×gq)} (h2:uz l2 rW):∀ {l1:List bK} {qj:List (Nat×Value×gq)},uz l1 qj→uz (l1 ++ l2) (qj ++ rW):=by
 intro l1
 induction l1 with
 | nil =>
  intro qj h
  cases qj with
  | nil=>exact h2
  | cons u us=>exact h.elim
 | cons t1 l1 ih =>
  intro qj h
  cases qj with
  | nil=>exact h.elim
  | cons u0 us=>exact ⟨h.1,ih h.2⟩
theorem uz.yO:∀ {l:List bK} {us:List (Nat×Value×gq)},uz l us→∀ u ∈ us,∃ t ∈ l,u.1=t.off:=by
 intro l
 induction l with
 | nil =>
  intro us h u hu
  cases us with
  | nil=>cases hu
  | cons _ _=>exact h.elim
 | cons t l ih =>
  intro us h u hu
  cases us with
  | nil=>exact h.elim
  | cons u0 us =>
   rcases List.mem_cons.1 hu with rfl | hu
   ·exact ⟨t,List.mem_cons_self,h.1.1⟩
   ·obtain ⟨t',ht',e⟩:=ih h.2 u hu
    exact ⟨t',List.mem_cons_of_mem _ ht',e⟩
theorem uz.cut {l2:List bK}:∀ {l1:List bK} {us:List (Nat×Value×gq)},uz (l1 ++ l2) us→∃ qj rW,us=qj ++ rW∧uz l1 qj∧uz l2 rW:=by
 intro l1
 induction l1 with
 | nil=>intro us h;exact ⟨[],us,rfl,trivial,h⟩
 | cons t1 l1 ih =>
  intro us h
  cases us with
  | nil=>exact h.elim
  | cons u0 us =>
   obtain ⟨qj,rW,rfl,h3,h4⟩:=ih h.2
   exact ⟨u0 :: qj,rW,rfl,⟨h.1,h3⟩,h4⟩
def Gl (a b:List (Nat×Nat)):Prop:=∀ c ∈ a,∀ c' ∈ b,c.1≠c'.1
def BoxOk (b:Nat) (us:List (Nat×Value×gq)):Prop:=(us.map (fun u=>u.2.2.claims)).Pairwise Gl∧∀ u ∈ us,∀ c ∈ u.2.2.claims,c.1≠b
def Ii (us:List (Nat×Value×gq)):List (Nat×Nat):=us.flatMap (fun u=>u.2.2.claims)
def kR (b:Nat) (T:TypeId) (r:Rep α) (x:α) (us:List (Nat×Value×gq)):gq where
 claims:=(b,0) :: Ii us
 ok:=fun h m=>(∃ cs,m b=some (.cells cs.toArray T (0,0))∧r.rel h cs x∧∀ u ∈ us,cs[u.1]? = some u.2.1)∧∀ u ∈ us,u.2.2.ok h m
 mono:=by
  intro h h' m hl ⟨⟨cs,e,k,l⟩,q⟩
  exact ⟨⟨cs,e,r.mono hl k,l⟩,fun u hu=>u.2.2.mono hl (q u hu)⟩
 frame:=by
  intro h m m' hm ⟨⟨cs,e,k,l⟩,q⟩
  refine ⟨⟨cs,by rw [hm (b,0) (by simp)];exact e,k,l⟩,fun u hu=>u.2.2.frame (fun c hc=>hm c ?_) (q u hu)⟩
  exact List.mem_cons_of_mem _ (List.mem_flatMap.2 ⟨u,hu,hc⟩)
def bZ (T:TypeId) (r:Rep α) (x:α) (ts:List bK):eP:=fun v e=>∃ b us,v = .pointer (some ⟨b,0,none⟩)∧uz ts us∧BoxOk b us∧e=kR b T r x us
theorem St.split2 {κ:Type} {B:Base} {h:H} {L:Nat→Option gq} {F:κ→Option gq} {w:World} (hst:St B h (Sum.elim L F) w) {s d:Nat} {e e1 e2:gq} (hL:L s=some e) (_:s≠d)
    (h1:∀ c ∈ e1.claims,c ∈ e.claims) (h2:∀ c ∈ e2.claims,c ∈ e.claims) (hd:Gl e1.claims e2.claims) (k1:e1.ok h (World.mem w)) (k2:e2.ok h (World.mem w)) :
    St B h (Sum.elim (set1 (set1 L s e1) d e2) F) w:=by
  obtain ⟨hcl,_⟩:=hst.own (k:=Sum.inl s) hL
  have hval:∀ k e',set1 (set1 L s e1) d e2 k=some e'→(k=d∧e'=e2)∨(k=s∧e'=e1)∨(k≠s∧k≠d∧L k=some e'):=by
    intro k e' hk
    unfold set1 at hk
    split at hk
    · rename_i hkd;exact .inl ⟨hkd,(Option.some.inj hk).symm⟩
    · rename_i hkd
      split at hk
      · rename_i hks;exact .inr (.inl ⟨hks,(Option.some.inj hk).symm⟩)
      · rename_i hks;exact .inr (.inr ⟨hks,hkd,hk⟩)
  refine ⟨hst.low,hst.base,fun x=>hst.ext x,?_,?_,hst.mark,fun x i y=>hst.nf x i y⟩
  · intro k e' hk
    cases k with
    | inr k=>exact hst.own (k:=Sum.inr k) hk
    | inl k =>
      rcases hval k e' hk with ⟨_,rfl⟩ | ⟨_,rfl⟩ | ⟨_,_,hk⟩
      · exact ⟨fun c hc=>hcl c (h2 c hc),k2⟩
      · exact ⟨fun c hc=>hcl c (h1 c hc),k1⟩
      · exact hst.own (k:=Sum.inl k) hk
  · have other : ∀ (k : Nat ⊕ κ) e', Sum.elim L F k = some e' → k ≠ Sum.inl s → ∀ c ∈ e.claims, ∀ c' ∈ e'.claims, c.1 ≠ c'.1 := fun k e' hk hne => hst.yH (k := Sum.inl s) hL hk (Ne.symm hne)
    intro k k' a a' hk hk' hne c hc c' hc'
    cases k with
    | inr k =>
      cases k' with
      | inr k'=>exact hst.yH (k:=Sum.inr k) (k':=Sum.inr k') hk hk' hne c hc c' hc'
      | inl k' =>
        rcases hval k' a' hk' with ⟨_,rfl⟩ | ⟨_,rfl⟩ | ⟨h3,_,hk'⟩
        · exact (other (.inr k) a hk (by simp) c' (h2 _ hc') c hc).symm
        · exact (other (.inr k) a hk (by simp) c' (h1 _ hc') c hc).symm
        · exact hst.yH (k:=Sum.inr k) (k':=Sum.inl k') hk hk' (by simp) c hc c' hc'
    | inl k =>
      cases k' with
      | inr k' =>
        rcases hval k a hk with ⟨_,rfl⟩ | ⟨_,rfl⟩ | ⟨h3,_,hk⟩
        · exact other (.inr k') a' hk' (by simp) c (h2 _ hc) c' hc'
        · exact other (.inr k') a' hk' (by simp) c (h1 _ hc) c' hc'
        · exact hst.yH (k:=Sum.inl k) (k':=Sum.inr k') hk hk' (by simp) c hc c' hc'
      | inl k' =>
        have hne':k≠k':=fun x=>hne (by rw [x])
        rcases hval k a hk with ⟨e3,rfl⟩ | ⟨e3,rfl⟩ | ⟨h3,h4,hk2⟩ <;> rcases hval k' a' hk' with ⟨e4,rfl⟩ | ⟨e4,rfl⟩ | ⟨h5,h6,VU⟩
        · exact absurd (e3.trans e4.symm) hne'
        · exact (hd c' hc' c hc).symm
        · exact other (.inl k') a' VU (fun x=>h5 (Sum.inl.inj x)) c (h2 _ hc) c' hc'
        · exact hd c hc c' hc'
        · exact absurd (e3.trans e4.symm) hne'
        · exact other (.inl k') a' VU (fun x=>h5 (Sum.inl.inj x)) c (h1 _ hc) c' hc'
        · exact (other (.inl k) a hk2 (fun x=>h3 (Sum.inl.inj x)) c' (h2 _ hc') c hc).symm
        · exact (other (.inl k) a hk2 (fun x=>h3 (Sum.inl.inj x)) c' (h1 _ hc') c hc).symm
        · exact hst.yH (k:=Sum.inl k) (k':=Sum.inl k') hk2 VU (fun x=>hne' (Sum.inl.inj x)) c hc c' hc'
def vW (L:Nat→Option gq) (s d:Nat) (e:gq):Nat→Option gq:=fun k=>if k=d then none else if k=s then some e else L k
theorem St.vW {κ:Type} {B:Base} {h:H} {L:Nat→Option gq} {F:κ→Option gq} {w:World} (hst:St B h (Sum.elim L F) w) {s d:Nat} {e e1 e2:gq} (hL:L s=some e1) (hL2:L d=some e2)
  (hc:∀ c ∈ e.claims,c ∈ e1.claims∨c ∈ e2.claims) (ho:e.ok h (World.mem w)):St B h (Sum.elim (vW L s d e) F) w:=by
 obtain ⟨hcl1,_⟩:=hst.own (k:=Sum.inl s) hL
 obtain ⟨hcl2,_⟩:=hst.own (k:=Sum.inl d) hL2
 have hval:∀ k e',KB.vW L s d e k=some e'→(k=s∧e'=e)∨(k≠s∧k≠d∧L k=some e'):=by
  intro k e' hk
  unfold KB.vW at hk
  split at hk
  ·cases hk
  ·rename_i hkd
   split at hk
   ·rename_i hks;exact .inl ⟨hks,(Option.some.inj hk).symm⟩
   ·rename_i hks;exact .inr ⟨hks,hkd,hk⟩
 refine ⟨hst.low,hst.base,fun x=>hst.ext x,?_,?_,hst.mark,fun x i y=>hst.nf x i y⟩
 ·intro k e' hk
  cases k with
  | inr k=>exact hst.own (k:=Sum.inr k) hk
  | inl k =>
   rcases hval k e' hk with ⟨_,rfl⟩ | ⟨_,_,hk⟩
   ·exact ⟨fun c hcc=>(hc c hcc).elim (hcl1 c) (hcl2 c),ho⟩
   ·exact hst.own (k:=Sum.inl k) hk
 ·have other:∀ (k:Nat ⊕ κ) e',Sum.elim L F k=some e'→k≠Sum.inl s→k≠Sum.inl d→∀ c ∈ e.claims,∀ c' ∈ e'.claims,c.1≠c'.1:=by
   intro k e' hk hn1 hn2 c hcc
   rcases hc c hcc with h1 | h1
   ·exact hst.yH (k:=Sum.inl s) hL hk (Ne.symm hn1) c h1
   ·exact hst.yH (k:=Sum.inl d) hL2 hk (Ne.symm hn2) c h1
  intro k k' a a' hk hk' hne c hcc c' Q9
  cases k with
  | inr k =>
   cases k' with
   | inr k'=>exact hst.yH (k:=Sum.inr k) (k':=Sum.inr k') hk hk' hne c hcc c' Q9
   | inl k' =>
    rcases hval k' a' hk' with ⟨_,rfl⟩ | ⟨h3,_,hk'⟩
    ·exact (other (.inr k) a hk (by simp) (by simp) c' Q9 c hcc).symm
    ·exact hst.yH (k:=Sum.inr k) (k':=Sum.inl k') hk hk' (by simp) c hcc c' Q9
  | inl k =>
   cases k' with
   | inr k' =>
    rcases hval k a hk with ⟨_,rfl⟩ | ⟨h3,_,hk⟩
    ·exact other (.inr k') a' hk' (by simp) (by simp) c hcc c' Q9
    ·exact hst.yH (k:=Sum.inl k) (k':=Sum.inr k') hk hk' (by simp) c hcc c' Q9
   | inl k' =>
    have hne':k≠k':=fun x=>hne (by rw [x])
    rcases hval k a hk with ⟨e3,rfl⟩ | ⟨h3,h4,hk2⟩ <;> rcases hval k' a' hk' with ⟨e4,rfl⟩ | ⟨h5,h6,VU⟩
    ·exact absurd (e3.trans e4.symm) hne'
    ·exact other (.inl k') a' VU (fun x=>h5 (Sum.inl.inj x)) (fun x=>h6 (Sum.inl.inj x)) c hcc c' Q9
    ·exact (other (.inl k) a hk2 (fun x=>h3 (Sum.inl.inj x)) (fun x=>h4 (Sum.inl.inj x)) c' Q9 c hcc).symm
    ·exact hst.yH (k:=Sum.inl k) (k':=Sum.inl k') hk2 VU (fun x=>hne' (Sum.inl.inj x)) c hcc c' Q9
theorem FP {κ:Type} {B:Base} {h:H} {L:Nat→Option gq} {F:κ→Option gq} {w:World} (hst:St B h (Sum.elim L F) w) {s b:Nat} {T:TypeId} {r:Rep α} {x:α} {us:List (Nat×Value×gq)}
  (hk:L s=some (kR b T r x us)):(∃ cs,w.heap[b]? = some (.cells cs.toArray T (0,0))∧r.rel h cs x∧∀ u ∈ us,cs[u.1]? = some u.2.1)∧∀ u ∈ us,u.2.2.ok h (World.mem w):=(hst.own (k:=Sum.inl s) hk).2
theorem yK {T T':TypeId} {r:Rep α} {y:α} {ts:List bK} {s i off:Nat} (hf:bQ P T i off) (ho:o.op = .fieldAddr T (.tmp s) i):di P o N [(s,bZ T' r y ts)] (Ci s off) []:=by
 intro κ B F L h a w hst hn hk _ next Q hnext _
 obtain ⟨e,_,b,us,hv,_⟩:=hk.1
 unfold Oper.rJ
 have hv':a.eval (.tmp s) = .pointer (some ⟨b,0,none⟩):=hv
 have:(execOp a.eval o).run P w = .ok (.value (.pointer (some ⟨b,off,none⟩))) w:=by simp [execOp,ho,hv',hf b 0 w]
 rw [this]
 exact hnext _ h w L (nI.refl h) ⟨b,hv,rfl⟩ hst nJ
theorem cZ {T T':TypeId} {r:Rep α} {y:α} {ts:List bK} {s i off:Nat} {sv:Value} {x:Operand} (hf:bQ P T i off) (ho:o.op = .fieldAddr T x i) (hx:bF N x (jk sv)):di P o N [(s,eX (bZ T' r y ts) sv)] (xJ sv off) []:=by
 intro κ B F L h a w hst hn hk _ next Q hnext _
 obtain ⟨e,_,b,us,hv,_⟩:=hk.1
 have hv':a.eval x = .pointer (some ⟨b,0,none⟩):=(hx h a hn:a.eval x=sv).trans hv
 unfold Oper.rJ
 have:(execOp a.eval o).run P w = .ok (.value (.pointer (some ⟨b,off,none⟩))) w:=by simp [execOp,ho,hv',hf b 0 w]
 rw [this]
 exact hnext _ h w L (nI.refl h) ⟨b,hv,rfl⟩ hst nJ
theorem qm {T:TypeId} {i off off':Nat} {sv:Value} {x:Operand} (hf:bQ P T i off) (ho:o.op = .fieldAddr T x i) (hx:bF N x (xJ sv off')):di P o N [] (xJ sv (off'+off)) [] :=
 di.qG fun h a w _ q=>by
  obtain ⟨b,hd,hv⟩:=hx h a q
  exact ⟨.pointer (some ⟨b,off'+off,none⟩),by simp [execOp,ho,hv,hf b off' w],b,hd,rfl⟩
theorem bF.off0 {T':TypeId} {r:Rep α} {y:α} {ts:List bK} {sv:Value} {x:Operand} {h:H} {a:Act} {e:gq} (hx:bF N x (jk sv)) (hn:Dl N h a) (hk:bZ T' r y ts sv e):∃ b,sv = .pointer (some ⟨b,0,none⟩)∧a.eval x = .pointer (some ⟨b,0,none⟩):=by
 obtain ⟨b,us,hv,_⟩:=hk
 exact ⟨b,hv,(hx h a hn:a.eval x=sv).trans hv⟩
theorem Jp {T T':TypeId} {r:Rep α} {q:Rep β} {ts:List bK} {s off:Nat} {x:Operand} {y:α} {get:α→β} {set:α→β→α} (l:Lens r q off get set) (t:fU P T q) (W:Wr) (ho:o.op = .load T x) (hx:Q8 N x W s off) :
  di P o N [(s,W.ap (bZ T' r y ts))] (fV q (get y)) []:=by
 intro κ B F L h a w hst hn hk _ next Q hnext _
 obtain ⟨b,hd,hv⟩:=hx h a hn
 obtain ⟨e,hL,Ye⟩:=hk.1
 obtain ⟨b',us,hv',_,_,rfl⟩:=Wr.iff.1 Ye
 have hd':W.v a s = .pointer (some ⟨b,0,none⟩):=hd
 rw [hd'] at hv';cases hv'
 obtain ⟨⟨cs,hb,hr,_⟩,_⟩:=FP hst hL
 obtain ⟨c,hc,hrun⟩:=yI t l hb hr
 unfold Oper.rJ
 have:(execOp a.eval o).run P w = .ok (.value (pack q.agg c)) w:=by simp [execOp,ho,hv,hrun]
 rw [this]
 exact hnext _ h w L (nI.refl h) ⟨c,hc,rfl⟩ hst nJ
theorem Gt {T T':TypeId} {r:Rep α} {q:Rep β} {ts:List bK} {s off:Nat} {x:Operand} {y:α} {get:α→β} {set:α→β→α} (l:Lens r q off get set) (t:fU P T q) (ho:o.op = .load T x) (hx:bF N x (Ci s off)) :
  di P o N [(s,bZ T' r y ts)] (fV q (get y)) []:=Jp l t .slot ho (.slot hx)
theorem fE {sv:Value} {T T':TypeId} {r:Rep α} {q:Rep β} {ts:List bK} {s off:Nat} {x:Operand} {y:α} {get:α→β} {set:α→β→α} (l:Lens r q off get set) (t:fU P T q) (ho:o.op = .load T x) (hx:bF N x (xJ sv off)) :
  di P o N [(s,eX (bZ T' r y ts) sv)] (fV q (get y)) []:=Jp l t (.val sv) ho (.val hx)
theorem QD {T T':TypeId} {r:Rep α} {ts:List bK} {s:Nat} {y:α} (t:fU P T r) (ho:o.op = .load T (.tmp s)) :
  di P o N [(s,bZ T' r y ts)] (fV r y) []:=by
 intro κ B F L h a w hst hn hk _ next Q hnext _
 obtain ⟨e,hL,b,us,hv,_,_,rfl⟩:=hk.1
 have hv':a.eval (.tmp s) = .pointer (some ⟨b,0,none⟩):=hv
 obtain ⟨⟨cs,hb,hr,_⟩,_⟩:=FP hst hL
 obtain ⟨c,hc,hrun⟩:=yI t (Lens.refl r) hb hr
 unfold Oper.rJ
 have:(execOp a.eval o).run P w = .ok (.value (pack r.agg c)) w:=by simp [execOp,ho,hv',hrun]
 rw [this]
 exact hnext _ h w L (nI.refl h) ⟨c,hc,rfl⟩ hst nJ
theorem sF {T T':TypeId} {r:Rep α} {ts:List bK} {s:Nat} {sv:Value} {y:α} {x:Operand} (t:fU P T r) (ho:o.op = .load T x) (hx:bF N x (jk sv)) :
  di P o N [(s,eX (bZ T' r y ts) sv)] (fV r y) []:=by
 intro κ B F L h a w hst hn hk _ next Q hnext _
 obtain ⟨e,hL,b,us,hv,_,_,rfl⟩:=hk.1
 have hv':a.eval x = .pointer (some ⟨b,0,none⟩):=(hx h a hn:a.eval x=sv).trans hv
 obtain ⟨⟨cs,hb,hr,_⟩,_⟩:=FP hst hL
 obtain ⟨c,hc,hrun⟩:=yI t (Lens.refl r) hb hr
 unfold Oper.rJ
 have:(execOp a.eval o).run P w = .ok (.value (pack r.agg c)) w:=by simp [execOp,ho,hv',hrun]
 rw [this]
 exact hnext _ h w L (nI.refl h) ⟨c,hc,rfl⟩ hst nJ
def Bh:Value:=.slice none 0 0
def yj (cs:List Value):List bK→Prop
 | []=>True
 | t :: ts=>cs[t.off]? = some Bh∧yj cs ts
def A7 (ts:List bK):List (Nat×Value×gq):=ts.map (fun t=>(t.off,Bh,oV))
theorem EG:∀ (ts:List bK),uz ts (A7 ts)
 | []=>trivial
 | _ :: ts=>⟨⟨rfl,.inl ⟨none,0,rfl,rfl⟩⟩,EG ts⟩
theorem EF {ts:List bK} {u:Nat×Value×gq} (hu:u ∈ A7 ts):u.2.2=oV∧u.2.1=Bh:=by
 obtain ⟨t,_,rfl⟩:=List.mem_map.1 hu;exact ⟨rfl,rfl⟩
theorem GU (b:Nat):∀ (ts:List bK),BoxOk b (A7 ts)
 | []=>⟨List.Pairwise.nil,fun u hu=>by cases hu⟩
 | t :: ts=>⟨List.Pairwise.cons (fun l _ c hc=>by cases hc) (GU b ts).1,fun u hu c hc=>by rw [(EF hu).1] at hc;cases hc⟩
theorem GR:∀ (ts:List bK),Ii (A7 ts)=[]
 | []=>rfl
 | _ :: ts=>GR ts
theorem yj.at {cs:List Value}:∀ {ts:List bK},yj cs ts→∀ u ∈ A7 ts,cs[u.1]? = some u.2.1:=by
 intro ts
 induction ts with
 | nil=>intro _ u hu;cases hu
 | cons t ts ih =>
  intro h u hu
  rcases List.mem_cons.1 hu with rfl | hu
  ·exact h.1
  ·exact ih h.2 u hu
theorem VD {T:TypeId} {r:Rep α} {d:Nat} (ts:List bK) (t:fU P T r) (hz:yj r.zc ts) (hd:o.dst=some d) (ho:o.op = .alloc T):di P o N [] aQ.rD [(d,some (bZ T r r.zero ts))]:=by
 intro κ B F L h a w hst hn _ hdn next Q hnext _
 unfold Oper.rJ
 have:(execOp a.eval o).run P w = .ok (.value (.pointer (some ⟨w.heap.size,0,none⟩))) (w.alloc (.cells r.zc.toArray T)):=by
  simp [execOp,ho,Instr.alloc,t.zero,Cj (r.xX h)]
 rw [this]
 refine hnext _ h _ (set1 L d (kR w.heap.size T r r.zero (A7 ts))) (nI.refl h) trivial (hst.BI _ d _ ?_ ⟨⟨_,BJ _ _,r.xX h,hz.at⟩,fun u hu=>by rw [(EF hu).1];trivial⟩) ?_
 ·intro c hc
  have:c ∈ (w.heap.size,0) :: Ii (A7 ts):=hc
  rw [GR] at this
  simp at this;rw [this]
 rw [hd]
 exact qL ⟨_,_,fG (hdn d hd),EG ts,GU _ ts,rfl⟩
def apartB (off sz:Nat) (ts:List bK):Bool:=ts.all (fun t=>Nat.blt t.off off||Nat.ble (off+sz) t.off)
theorem GV {off sz:Nat} {ts:List bK} (h:apartB off sz ts=true):∀ t ∈ ts,t.off<off∨off+sz≤t.off:=by
 intro t ht
 have:=List.all_eq_true.1 h t ht
 simpa [Nat.blt_eq] using this
theorem Oi {p c c' q:List Value} {off sz i:Nat} (hp:p.length=off) (hc:c.length=sz) (hc':c'.length=sz) (h:i<off∨off+sz≤i):(p ++ c' ++ q)[i]? = (p ++ c ++ q)[i]?:=by
  rcases h with h | h
  · rw [List.append_assoc,List.append_assoc,List.getElem?_append_left (by omega),List.getElem?_append_left (by omega)]
  · rw [List.getElem?_append_right (by simp; omega), List.getElem?_append_right (by simp; omega)]
    congr 1;simp;omega
theorem VW {h:H} {w w':World} {b:Nat} {us:List (Nat×Value×gq)} (Ip:BoxOk b us) (hw:∀ i,i≠b→w'.heap[i]? = w.heap[i]?) (h2:∀ u ∈ us,u.2.2.ok h (World.mem w)):∀ u ∈ us,u.2.2.ok h (World.mem w') :=
 fun u hu=>u.2.2.frame (fun c hc=>hw c.1 (Ip.2 u hu c hc)) (h2 u hu)
theorem BoxOk.sub {b:Nat} {us PN:List (Nat×Value×gq)} (h:PN.Sublist us) (hb:BoxOk b us):BoxOk b PN :=
 ⟨hb.1.sublist (h.map _),fun u hu=>hb.2 u (h.subset hu)⟩
theorem Rf {us PN:List (Nat×Value×gq)} (h:PN.Sublist us):∀ c ∈ Ii PN,c ∈ Ii us:=by
 intro c hc
 obtain ⟨u,hu,hcu⟩:=List.mem_flatMap.1 hc
 exact List.mem_flatMap.2 ⟨u,h.subset hu,hcu⟩
theorem I7 {T T':TypeId} {r:Rep α} {q:Rep β} {off:Nat} {y:α} {z:β} {get:α→β} {set:α→β→α} (l:Lens r q off get set) (t:fU P T q) {κ:Type} {B:Base} {F:κ→Option gq} {L:Nat→Option gq} {h:H} {w:World} {s b:Nat} {us PN:List (Nat×Value×gq)}
  (hst:St B h (Sum.elim L F) w) (hL:L s=some (kR b T' r y us)) (Ip:BoxOk b us) (hsub:PN.Sublist us) (hap:∀ u ∈ PN,u.1<off∨off+q.sz≤u.1) {c':List Value} (hc':q.rel h c' z) :
  ∃ p c q':List Value,p.length=off∧(Instr.storeAt T (.pointer (some ⟨b,off,none⟩)) (pack q.agg c')).run P w = .ok () (w.setRow b (p ++ c' ++ q').toArray)∧c.length=q.sz ∧
   (w.setRow b (p ++ c' ++ q').toArray).heap[b]? = some (.cells (p ++ c' ++ q').toArray T' (0,0))∧r.rel h (p ++ c' ++ q') (set y z)∧(∀ u ∈ PN,(p ++ c' ++ q')[u.1]? = some u.2.1) ∧
   St B h (Sum.elim (set1 L s (kR b T' r (set y z) PN)) F) (w.setRow b (p ++ c' ++ q').toArray):=by
 obtain ⟨⟨cs,hb,hr,hu1⟩,hu2⟩:=FP hst hL
 obtain ⟨p,c,q',rfl,hp,hc,hset⟩:=l h cs y hr
 have hrun:=qZ t hc' hb (q.len hc)
 rw [hp] at hrun
 have hmem:=wY w b _ (p ++ c' ++ q').toArray T' hb
 have hrel:=hset h c' z (nI.refl h) hc'
 have hget:∀ u ∈ PN,(p ++ c' ++ q')[u.1]? = some u.2.1:=fun u hu=>by
  rw [Oi hp (q.len hc) (q.len hc') (hap u hu)];exact hu1 u (hsub.subset hu)
 obtain ⟨hcl,_⟩:=hst.own (k:=Sum.inl s) hL
 have hno:=(hcl (b,0) (by simp [kR])).2.2
 refine ⟨p,c,q',hp,hrun,q.len hc,hmem,hrel,hget,?_⟩
 refine hst.write (Sum.inl s) (e:=kR b T' r y us) hL (b:=b) (lo:=0) (by simp [kR]) hmem (fun i hi=>setRow_other w b i _ hi) (by simp [World.setRow]) rfl rfl rfl ?_ vg ?_
 ·intro o' v hh;rw [hno o' (Nat.zero_le _)] at hh;cases hh
 ·intro e' he
  rw [vk he]
  refine ⟨fun c hc=>?_,⟨_,hmem,hrel,hget⟩,VW (Ip.sub hsub) (fun i hi=>setRow_other w b i _ hi) (fun u hu=>hu2 u (hsub.subset hu))⟩
  rcases List.mem_cons.1 hc with rfl | hc
  ·exact List.mem_cons_self
  ·exact List.mem_cons_of_mem _ (Rf hsub c hc)
theorem MS {T T':TypeId} {r:Rep α} {q:Rep β} {ts:List bK} {s off:Nat} {x v:Operand} {y:α} {z:β} {get:α→β} {set:α→β→α} {y':α} (l:Lens r q off get set) (t:fU P T q) (hap:apartB off q.sz ts=true) (hd:o.dst=none)
  (W:Wr) (ho:o.op = .store T x v) (hx:Q8 N x W s off) (hv:bF N v (fV q z)) (hy':y'=set y z):di P o N [(s,W.ap (bZ T' r y ts))] aQ.rD [(s,some (W.ap (bZ T' r y' ts)))]:=by
 subst hy'
 intro κ B F L h a w hst hn hk _ next Q hnext _
 obtain ⟨b,hdv,hxv⟩:=hx h a hn
 obtain ⟨e,hL,Ye⟩:=hk.1
 obtain ⟨b',us,hv',hta,Ip,rfl⟩:=Wr.iff.1 Ye
 have hd':W.v a s = .pointer (some ⟨b,0,none⟩):=hdv
 rw [hd'] at hv';cases hv'
 obtain ⟨c',hc',hvv⟩:=hv h a hn
 obtain ⟨p,c,q',hp,hrun,_,_,_,_,hst'⟩:=I7 l t hst hL Ip (List.Sublist.refl us) (fun u hu=>by
  obtain ⟨t,ht,e⟩:=hta.yO u hu;rw [e];exact GV hap t ht) hc'
 unfold Oper.rJ
 have:(execOp a.eval o).run P w = .ok .skip (w.setRow b (p ++ c' ++ q').toArray):=by
  simp only [execOp,ho,hxv,hvv,Sem.run_bind,hrun,Result.andThen_ok,Sem.run_pure]
 rw [this]
 refine hnext undef h _ _ (nI.refl h) trivial hst' ?_
 rw [hd]
 exact qL (Wr.iff.2 ⟨b,us,hd',hta,Ip,rfl⟩)
theorem VE {T T':TypeId} {r:Rep α} {q:Rep β} {ts:List bK} {s off:Nat} {x v:Operand} {y:α} {z:β} {get:α→β} {set:α→β→α} {y':α} (l:Lens r q off get set) (t:fU P T q) (hap:apartB off q.sz ts=true) (hd:o.dst=none)
  (ho:o.op = .store T x v) (hx:bF N x (Ci s off)) (hv:bF N v (fV q z)) (hy':y'=set y z):di P o N [(s,bZ T' r y ts)] aQ.rD [(s,some (bZ T' r y' ts))]:=MS l t hap hd .slot ho (.slot hx) hv hy'
theorem Mc {sv:Value} {T T':TypeId} {r:Rep α} {q:Rep β} {ts:List bK} {s off:Nat} {x v:Operand} {y:α} {z:β} {get:α→β} {set:α→β→α} {y':α} (l:Lens r q off get set) (t:fU P T q) (hap:apartB off q.sz ts=true) (hd:o.dst=none)
  (ho:o.op = .store T x v) (hx:bF N x (xJ sv off)) (hv:bF N v (fV q z)) (hy':y'=set y z):di P o N [(s,eX (bZ T' r y ts) sv)] aQ.rD [(s,some (eX (bZ T' r y' ts) sv))]:=MS l t hap hd (.val sv) ho (.val hx) hv hy'
theorem O8 {T T':TypeId} {r:Rep α} {s:Nat} {sv:Value} {x v:Operand} {y z:α} (t:fU P T r) (hd:o.dst=none) (ho:o.op = .store T x v) (hx:bF N x (jk sv)) (hv:bF N v (fV r z)) :
  di P o N [(s,eX (bZ T' r y []) sv)] aQ.rD [(s,some (eX (bZ T' r z []) sv))]:=by
 intro κ B F L h a w hst hn hk hdn next Q hnext _
 obtain ⟨e,hL,hq⟩:=hk.1
 obtain ⟨b,h1,h2⟩:=hx.off0 hn hq
 obtain ⟨b',us,hv',hta,Ip,rfl⟩:=hq
 rw [h1] at hv';cases hv'
 obtain ⟨c',hc',hvv⟩:=hv h a hn
 obtain ⟨p,c,q',hp,hrun,_,_,_,_,hst'⟩:=I7 (Lens.refl r) t hst hL Ip (List.nil_sublist us) (fun u hu=>by cases hu) hc'
 unfold Oper.rJ
 have:(execOp a.eval o).run P w = .ok .skip (w.setRow b (p ++ c' ++ q').toArray):=by
  simp only [execOp,ho,h2,hvv,Sem.run_bind,hrun,Result.andThen_ok,Sem.run_pure]
 rw [this]
 refine hnext undef h _ _ (nI.refl h) trivial hst' ?_
 rw [hd]
 exact qL ⟨b,[],h1,trivial,⟨List.Pairwise.nil,fun u hu=>by cases hu⟩,rfl⟩
theorem BoxOk.nil {b off:Nat} {qj rW:List (Nat×Value×gq)} (h:BoxOk b (qj ++ rW)):BoxOk b (qj ++ (off,Bh,oV) :: rW):=by
 obtain ⟨h1,h2⟩:=h
 constructor
 ·rw [List.map_append,List.pairwise_append] at h1 ⊢
  obtain ⟨k1,k2,k3⟩:=h1
  refine ⟨k1,List.Pairwise.cons (fun l _ c hc=>by cases hc) k2,fun x hx y hy=>?_⟩
  rcases List.mem_cons.1 hy with rfl | hy
  ·intro c _ c' hc';cases hc'
  ·exact k3 x hx y hy
 ·intro u hu c hc
  rcases List.mem_append.1 hu with hu | hu
  ·exact h2 u (List.mem_append_left _ hu) c hc
  ·rcases List.mem_cons.1 hu with rfl | hu
   ·cases hc
   ·exact h2 u (List.mem_append_right _ hu) c hc
theorem Rh {L:Nat→Option gq} {s d:Nat} {e1 e2:gq} {q1 q2:eP} {a:Act} (hsd:s≠d) (h1:q1 (a.gt s) e1) (h2:q2 (a.gt d) e2):Ea L (set1 (set1 L s e1) d e2) (full [(s,some q1),(d,some q2)] (some d)) a:=by
  intro k
  have WT:Nat.beq s d=false:=by rw [Bool.eq_false_iff,Ne,iQ];exact hsd
  by_cases hk:k=d
  · subst hk
    have:qw (full [(s,some q1),(k,some q2)] (some k)) k=some (some q2):=by simp [full,qw,WT,Nat.beq_refl]
    rw [this];exact ⟨e2,by simp [set1],h2⟩
  · have h3 : Nat.beq d k = false := by rw [Bool.eq_false_iff, Ne, iQ]; exact fun x => hk x.symm
    by_cases hk2:k=s
    · subst hk2
      have:qw (full [(k,some q1),(d,some q2)] (some d)) k=some (some q1):=by simp [full,qw,Nat.beq_refl]
      rw [this];exact ⟨e1,by simp [set1,hk],h1⟩
    · have h4 : Nat.beq s k = false := by rw [Bool.eq_false_iff, Ne, iQ]; exact fun x => hk2 x.symm
      have:qw (full [(s,some q1),(d,some q2)] (some d)) k=none:=by simp [full,qw,h3,h4]
      rw [this];simp [set1,hk,hk2]
theorem KN {T T' E:TypeId} {r:Rep α} {q:Rep β} {l1 l2:List bK} {s d off sz:Nat} {x:Operand} {y:α} {get:α→List β} {set:α→List β→α} (l:Lens r (Rep.slice q) off get set) (t:fU P T (Rep.slice q)) (hsd:Nat.beq s d=false) (hd:o.dst=some d) (W:Wr) (ho:o.op = .load T x) (hx:Q8 N x W s off) :
  di P o N [(s,W.ap (bZ T' r y (l1 ++ ⟨off,E,sz⟩ :: l2)))] (fV (Rep.slice q) (get y)) [(s,some (W.ap (bZ T' r y (l1 ++ l2)))),(d,some (eH E sz))]:=by
 have hne:s≠d:=fun x=>by rw [iQ.2 x] at hsd;cases hsd
 intro κ B F L h a w hst hn hk hdn next Q hnext _
 obtain ⟨b,hdv,hv⟩:=hx h a hn
 obtain ⟨e,hL,Ye⟩:=hk.1
 obtain ⟨b',us,hv',hta,Ip,rfl⟩:=Wr.iff.1 Ye
 have hd':W.v a s = .pointer (some ⟨b,0,none⟩):=hdv
 rw [hd'] at hv';cases hv'
 obtain ⟨qj,u0,rW,rfl,hoff,htip,h3,h4⟩:=hta.mid
 simp only [] at hoff htip
 have hsub:(qj ++ rW).Sublist (qj ++ u0 :: rW):=(List.Sublist.refl qj).append (List.sublist_cons_self _ _)
 obtain ⟨⟨cs,hb,hr,hu1⟩,hu2⟩:=FP hst hL
 have hm0:u0 ∈ qj ++ u0 :: rW:=List.mem_append_right _ List.mem_cons_self
 obtain ⟨p,c,q',rfl,hp,hc,_⟩:=l h cs y hr
 have hcl:=(Rep.slice q).len hc
 obtain ⟨c0,rfl,hc0⟩:=hc
 have hcv:c0=u0.2.1:=by
  have:=hu1 u0 hm0
  rw [hoff,List.append_assoc,List.getElem?_append_right (by omega),hp] at this
  simpa using this
 have hrun:=uP (b:=b) (off:=off) (w:=w) t hcl (fun j v hj=>by
  rw [xI _ _ _ _ _ _ hb]
  have hjl:=(List.getElem?_eq_some_iff.1 hj).1
  simp only [List.getElem?_toArray]
  rw [List.append_assoc,List.getElem?_append_right (by omega),← hp,Nat.add_sub_cancel_left,List.getElem?_append_left hjl];exact hj)
 unfold Oper.rJ
 have:(execOp a.eval o).run P w = .ok (.value c0) w:=by
  have hrun':(Instr.loadAt T (.pointer (some ⟨b,off,none⟩))).run P w = .ok c0 w:=hrun
  simp [execOp,ho,hv,hrun']
 rw [this]
 have hpw:=Ip.1
 rw [List.map_append,List.pairwise_append] at hpw
 obtain ⟨_,k2,k3⟩:=hpw
 have k4:=List.pairwise_cons.1 k2
 have hdis:Gl ((b,0) :: Ii (qj ++ rW)) u0.2.2.claims:=by
  intro c hc c' hc'
  rcases List.mem_cons.1 hc with rfl | hc
  ·exact (Ip.2 u0 hm0 c' hc').symm
  ·obtain ⟨u,hu,hcu⟩:=List.mem_flatMap.1 hc
   rcases List.mem_append.1 hu with hu | hu
   ·exact k3 _ (List.mem_map.2 ⟨u,hu,rfl⟩) _ (List.mem_cons_self) c hcu c' hc'
   ·exact (k4.1 _ (List.mem_map.2 ⟨u,hu,rfl⟩) c' hc' c hcu).symm
 have hst':=hst.split2 (d:=d) (e1:=kR b T' r y (qj ++ rW)) (e2:=u0.2.2) hL hne (fun c hc=>by
   rcases List.mem_cons.1 hc with rfl | hc
   ·exact List.mem_cons_self
   ·exact List.mem_cons_of_mem _ (Rf hsub c hc)) (fun c hc=>List.mem_cons_of_mem _ (List.mem_flatMap.2 ⟨u0,hm0,hc⟩)) hdis
  ⟨⟨_,hb,hr,fun u hu=>hu1 u (hsub.subset hu)⟩,fun u hu=>hu2 u (hsub.subset hu)⟩ (hu2 u0 hm0)
 refine hnext _ h w _ (nI.refl h) (pK.2 hc0) hst' ?_
 rw [hd]
 exact Rh hne (Wr.iff.2 (by rw [Wr.v_put hne];exact ⟨b,_,hd',h4.app h3,Ip.sub hsub,rfl⟩)) (by rw [fG (hdn d hd),hcv];exact htip)
theorem SI {T T' E:TypeId} {r:Rep α} {q:Rep β} {l1 l2:List bK} {s d off sz:Nat} {x:Operand} {y:α} {get:α→List β} {set:α→List β→α} (l:Lens r (Rep.slice q) off get set) (t:fU P T (Rep.slice q)) (hsd:Nat.beq s d=false) (hd:o.dst=some d) (ho:o.op = .load T x) (hx:bF N x (Ci s off)) :
  di P o N [(s,bZ T' r y (l1 ++ ⟨off,E,sz⟩ :: l2))] (fV (Rep.slice q) (get y)) [(s,some (bZ T' r y (l1 ++ l2))),(d,some (eH E sz))]:=KN l t hsd hd .slot ho (.slot hx)
theorem QK {sv:Value} {T T' E:TypeId} {r:Rep α} {q:Rep β} {l1 l2:List bK} {s d off sz:Nat} {x:Operand} {y:α} {get:α→List β} {set:α→List β→α} (l:Lens r (Rep.slice q) off get set) (t:fU P T (Rep.slice q)) (hsd:Nat.beq s d=false) (hd:o.dst=some d) (ho:o.op = .load T x) (hx:bF N x (xJ sv off)) :
  di P o N [(s,eX (bZ T' r y (l1 ++ ⟨off,E,sz⟩ :: l2)) sv)] (fV (Rep.slice q) (get y)) [(s,some (eX (bZ T' r y (l1 ++ l2)) sv)),(d,some (eH E sz))]:=KN l t hsd hd (.val sv) ho (.val hx)
theorem Kr {L:Nat→Option gq} {s d:Nat} {e:gq} {q:eP} {a:Act} (hsd:s≠d) (hq:q (a.gt s) e):Ea L (vW L s d e) (full [(s,some q),(d,none)] none) a:=by
  intro k
  by_cases hk:k=s
  · subst hk
    have:qw (full [(k,some q),(d,none)] none) k=some (some q):=by simp [full,qw,Nat.beq_refl]
    rw [this];exact ⟨e,by simp [vW,hsd],hq⟩
  · have h4 : Nat.beq s k = false := by rw [Bool.eq_false_iff, Ne, iQ]; exact fun x => hk x.symm
    by_cases hk2:k=d
    · subst hk2
      have:qw (full [(s,some q),(k,none)] none) k=some none:=by simp [full,qw,h4,Nat.beq_refl]
      rw [this];trivial
    · have h3 : Nat.beq d k = false := by rw [Bool.eq_false_iff, Ne, iQ]; exact fun x => hk2 x.symm
      have:qw (full [(s,some q),(d,none)] none) k=none:=by simp [full,qw,h3,h4]
      rw [this];simp [vW,hk,hk2]
theorem Jq {T T' E:TypeId} {r:Rep α} {q:Rep β} {l1 l2:List bK} {s d off sz:Nat} {x:Operand} {y:α} {zs:List β} {get:α→List β} {set:α→List β→α} {y':α} (l:Lens r (Rep.slice q) off get set) (t:fU P T (Rep.slice q)) (hap:apartB off 1 (l1 ++ l2)=true) (hsd:Nat.beq s d=false) (hd:o.dst=none)
  (W:Wr) (ho:o.op = .store T x (.tmp d)) (hx:Q8 N x W s off) (hv:bF N (.tmp d) (fV (Rep.slice q) zs)) (hy':y'=set y zs):di P o N [(s,W.ap (bZ T' r y (l1 ++ l2))),(d,eH E sz)] aQ.rD [(s,some (W.ap (bZ T' r y' (l1 ++ ⟨off,E,sz⟩ :: l2)))),(d,none)]:=by
 subst hy'
 have hne:s≠d:=fun x=>by rw [iQ.2 x] at hsd;cases hsd
 intro κ B F L h a w hst hn hk _ next Q hnext _
 obtain ⟨b,hdv,hxv⟩:=hx h a hn
 obtain ⟨e,hL,Ye⟩:=hk.1
 obtain ⟨b',us,hv',hta,Ip,rfl⟩:=Wr.iff.1 Ye
 obtain ⟨et,hLt,htip⟩:=hk.2.1
 have hLt:L d=some et:=hLt
 have htip:eH E sz (a.gt d) et:=htip
 have hd':W.v a s = .pointer (some ⟨b,0,none⟩):=hdv
 rw [hd'] at hv';cases hv'
 obtain ⟨c',hc',hvv⟩:=hv h a hn
 have hvd:a.gt d=pack (Rep.slice q).agg c':=hvv
 obtain ⟨p,c,q',hp,hrun,hcl,hmem,hrel,hget,hst'⟩:=I7 l t hst hL Ip (List.Sublist.refl us) (fun u hu=>by
  obtain ⟨t,ht,e⟩:=hta.yO u hu;rw [e];exact GV hap t ht) hc'
 obtain ⟨c0,rfl,hc0⟩:=hc'
 have hvd:a.gt d=c0:=hvd
 unfold Oper.rJ
 have:(execOp a.eval o).run P w = .ok .skip (w.setRow b (p ++ [c0] ++ q').toArray):=by
  simp only [execOp,ho,hxv,hvv,Sem.run_bind,hrun,Result.andThen_ok,Sem.run_pure]
 rw [this]
 obtain ⟨qj,rW,rfl,h3,h4⟩:=hta.cut
 have hta':uz (l1 ++ ⟨off,E,sz⟩ :: l2) (qj ++ (off,c0,et) :: rW):=uz.app (l2:=⟨off,E,sz⟩ :: l2) (rW:=(off,c0,et) :: rW) ⟨⟨rfl,by rw [← hvd];exact htip⟩,h4⟩ h3
 have hLd':set1 L s (kR b T' r (set y zs) (qj ++ rW)) d=some et:=by simp [set1,Ne.symm hne,hLt]
 have hdj:Gl ((b,0) :: Ii (qj ++ rW)) et.claims:=hst.yH (k:=Sum.inl s) (k':=Sum.inl d) hL hLt (fun x=>hne (Sum.inl.inj x))
 have hbo':BoxOk b (qj ++ (off,c0,et) :: rW):=by
  obtain ⟨g1,g2⟩:=Ip
  constructor
  ·rw [List.map_append,List.pairwise_append] at g1 ⊢
   obtain ⟨k1,k2,k3⟩:=g1
   refine ⟨k1,List.Pairwise.cons (fun l hl c hc c' hc'=>?_) k2,fun x hx y hy=>?_⟩
   ·obtain ⟨u,hu,rfl⟩:=List.mem_map.1 hl
    exact (hdj c' (List.mem_cons_of_mem _ (List.mem_flatMap.2 ⟨u,List.mem_append_right _ hu,hc'⟩)) c hc).symm
   ·rcases List.mem_cons.1 hy with rfl | hy
    ·intro c hc c' hc'
     obtain ⟨u,hu,rfl⟩:=List.mem_map.1 hx
     exact hdj c (List.mem_cons_of_mem _ (List.mem_flatMap.2 ⟨u,List.mem_append_left _ hu,hc⟩)) c' hc'
    ·exact k3 x hx y hy
  ·intro u hu c hc
   rcases List.mem_append.1 hu with hu | hu
   ·exact g2 u (List.mem_append_left _ hu) c hc
   ·rcases List.mem_cons.1 hu with rfl | hu
    ·exact (hdj (b,0) List.mem_cons_self c hc).symm
    ·exact g2 u (List.mem_append_right _ hu) c hc
 obtain ⟨_,hu2⟩:=FP hst' vw
 have hokt:et.ok h (World.mem (w.setRow b (p ++ [c0] ++ q').toArray)):=(hst'.own (k:=Sum.inl d) hLd').2
 have hj:=hst'.vW (e:=kR b T' r (set y zs) (qj ++ (off,c0,et) :: rW)) vw hLd' (fun c hc=>by
  rcases List.mem_cons.1 hc with rfl | hc
  ·exact .inl List.mem_cons_self
  ·obtain ⟨u,hu,hcu⟩:=List.mem_flatMap.1 hc
   rcases List.mem_append.1 hu with hu | hu
   ·exact .inl (List.mem_cons_of_mem _ (List.mem_flatMap.2 ⟨u,List.mem_append_left _ hu,hcu⟩))
   ·rcases List.mem_cons.1 hu with rfl | hu
    ·exact .inr hcu
    ·exact .inl (List.mem_cons_of_mem _ (List.mem_flatMap.2 ⟨u,List.mem_append_right _ hu,hcu⟩))) ⟨⟨_,hmem,hrel,fun u hu=>by
   rcases List.mem_append.1 hu with hu | hu
   ·exact hget u (List.mem_append_left _ hu)
   ·rcases List.mem_cons.1 hu with rfl | hu
    ·simp only []
     rw [List.append_assoc,List.getElem?_append_right (by omega),hp];simp
    ·exact hget u (List.mem_append_right _ hu)⟩,fun u hu=>by
   rcases List.mem_append.1 hu with hu | hu
   ·exact hu2 u (List.mem_append_left _ hu)
   ·rcases List.mem_cons.1 hu with rfl | hu
    ·exact hokt
    ·exact hu2 u (List.mem_append_right _ hu)⟩
 have hL':vW (set1 L s (kR b T' r (set y zs) (qj ++ rW))) s d (kR b T' r (set y zs) (qj ++ (off,c0,et) :: rW))=vW L s d (kR b T' r (set y zs) (qj ++ (off,c0,et) :: rW)):=by
  funext k;unfold vW set1
  by_cases h1:k=d
  ·rw [if_pos h1,if_pos h1]
  ·rw [if_neg h1,if_neg h1]
   by_cases h2:k=s
   ·rw [if_pos h2,if_pos h2]
   ·rw [if_neg h2,if_neg h2,if_neg h2]
 rw [hL'] at hj
 refine hnext undef h _ _ (nI.refl h) trivial hj ?_
 rw [hd]
 exact Kr hne (Wr.iff.2 ⟨b,_,hd',hta',hbo',rfl⟩)
theorem QC {T T' E:TypeId} {r:Rep α} {q:Rep β} {l1 l2:List bK} {s d off sz:Nat} {x:Operand} {y:α} {zs:List β} {get:α→List β} {set:α→List β→α} {y':α} (l:Lens r (Rep.slice q) off get set) (t:fU P T (Rep.slice q)) (hap:apartB off 1 (l1 ++ l2)=true) (hsd:Nat.beq s d=false) (hd:o.dst=none)
  (ho:o.op = .store T x (.tmp d)) (hx:bF N x (Ci s off)) (hv:bF N (.tmp d) (fV (Rep.slice q) zs)) (hy':y'=set y zs):di P o N [(s,bZ T' r y (l1 ++ l2)),(d,eH E sz)] aQ.rD [(s,some (bZ T' r y' (l1 ++ ⟨off,E,sz⟩ :: l2))),(d,none)]:=Jq l t hap hsd hd .slot ho (.slot hx) hv hy'
theorem Pq {sv:Value} {T T' E:TypeId} {r:Rep α} {q:Rep β} {l1 l2:List bK} {s d off sz:Nat} {x:Operand} {y:α} {zs:List β} {get:α→List β} {set:α→List β→α} {y':α} (l:Lens r (Rep.slice q) off get set) (t:fU P T (Rep.slice q)) (hap:apartB off 1 (l1 ++ l2)=true) (hsd:Nat.beq s d=false) (hd:o.dst=none)
  (ho:o.op = .store T x (.tmp d)) (hx:bF N x (xJ sv off)) (hv:bF N (.tmp d) (fV (Rep.slice q) zs)) (hy':y'=set y zs):di P o N [(s,eX (bZ T' r y (l1 ++ l2)) sv),(d,eH E sz)] aQ.rD [(s,some (eX (bZ T' r y' (l1 ++ ⟨off,E,sz⟩ :: l2)) sv)),(d,none)]:=Jq l t hap hsd hd (.val sv) ho (.val hx) hv hy'
end Go.KB
namespace Go.KB
variable {P:Program} {o:Oper} {N:List (Nat×aQ)} {f:aQ} {α β:Type}
def Q5 (P:Program) (T:TypeId) (i:Nat):Option (TypeId×Nat) :=
 match P.underlying T with
 | some (.struct fs)=>match fs[i]? with
  | some g=>some (g.type,g.offset)
  | none=>none
 | _=>none
theorem Q7 {T':TypeId} {q:Rep β} (t:fU P T' q) {h:H} {p c r:List Value} {y:β} (hc:q.rel h c y) (w:World):(part T' (p ++ c ++ r).toArray p.length).run P w = .ok (pack q.agg c) w:=by
 have hl:=q.len hc
 unfold part
 cases ha:q.agg with
 | true =>
  simp only [Sem.run_bind,t.agg,ha,Result.andThen_ok,if_true,t.size,Sem.run_pure,pack,cond_true]
  congr 2
  simp only [List.extract_toArray,List.extract_eq_take_drop]
  congr 1
  rw [List.append_assoc,List.drop_left' rfl,show p.length+q.sz - p.length=c.length by omega,List.take_left' rfl]
 | false =>
  rw [q.one ha] at hl
  match c,hl with
  | [v],_ =>
   have:(p ++ [v] ++ r).toArray[p.length]? = some v:=by simp
   simp only [Sem.run_bind,t.agg,ha,Result.andThen_ok,Bool.false_eq_true,if_false,this,Sem.run_pure,pack,cond_false]
def fVN (r:Rep α) (x:α) (ts:List bK):aQ:=⟨none,fun h _ v=>∃ cs,r.rel h cs x∧v=pack r.agg cs∧yj cs ts,fun hl ⟨cs,k,e,n⟩=>⟨cs,r.mono hl k,e,n⟩⟩
theorem yj.apart {p c c' q:List Value} {off sz:Nat} (hp:p.length=off) (hc:c.length=sz) (hc':c'.length=sz):∀ {ts:List bK},apartB off sz ts=true→yj (p ++ c ++ q) ts→yj (p ++ c' ++ q) ts:=by
 intro ts
 induction ts with
 | nil=>intro _ _;trivial
 | cons t ts ih =>
  intro ha hn
  have h1:=GV ha t List.mem_cons_self
  refine ⟨by rw [Oi hp hc hc' h1];exact hn.1,ih ?_ hn.2⟩
  unfold apartB at ha ⊢
  rw [List.all_cons,Bool.and_eq_true] at ha
  exact ha.2
def KO (P:Program) (N:List (Nat×aQ)) (place:Nat→Option (Nat×Nat)) {α:Type} (r:Rep α) (ts:List bK):List (Nat×Operand)→α→α→Prop
 | [],x,y=>x=y
 | (i,o) :: rest,x,y=>∃ (β:Type) (s:Rep β) (off:Nat) (get:α→β) (set:α→β→α) (z:β),Lens r s off get set∧place i=some (off,s.sz)∧apartB off s.sz ts=true∧bF N o (fV s z)∧KO P N place r ts rest (set x z) y
theorem O6 {place:Nat→Option (Nat×Nat)} {r:Rep α} {ts:List bK} {x:α}:KO P N place r ts [] x x:=rfl
theorem zM {place:Nat→Option (Nat×Nat)} {r:Rep α} {ts:List bK} {s:Rep β} {off i:Nat} {x':Operand} {get:α→β} {set:α→β→α} {z:β} {rest:List (Nat×Operand)} {x y:α} (l:Lens r s off get set) (hp:place i=some (off,s.sz)) (ha:apartB off s.sz ts=true) (ho:bF N x' (fV s z))
  (k:KO P N place r ts rest (set x z) y):KO P N place r ts ((i,x') :: rest) x y:=⟨β,s,off,get,set,z,l,hp,ha,ho,k⟩
theorem KO.run {place:Nat→Option (Nat×Nat)} {r:Rep α} {ts:List bK} {h:H} {a:Act} (n:Dl N h a):∀ {parts:List (Nat×Operand)} {x y:α} {cs:List Value},KO P N place r ts parts x y→r.rel h cs x→yj cs ts →
  ∃ cs',Instr.fill place cs.toArray (parts.map fun q=>(q.1,a.eval q.2))=some cs'.toArray∧r.rel h cs' y∧yj cs' ts:=by
 intro parts
 induction parts with
 | nil=>intro x y cs k hr ht;rw [show x=y from k] at hr;exact ⟨cs,rfl,hr,ht⟩
 | cons q rest ih =>
  obtain ⟨i,op⟩:=q
  rintro x y cs ⟨β,s,off,get,set,z,l,hp,ha,ho,k⟩ hr ht
  obtain ⟨p,c,q,rfl,hpl,hc,hset⟩:=l h cs x hr
  obtain ⟨c',hc',hv⟩:=ho h a n
  simp only [List.map_cons]
  rw [Oc hc' hv hp hpl (s.len hc)]
  exact ih k (hset h c' z (nI.refl h) hc') (ht.apart hpl (s.len hc) (s.len hc') ha)
theorem JY {T:TypeId} {r:Rep α} {place:Nat→Option (Nat×Nat)} {parts:Array (Nat×Operand)} {y:α} (ts:List bK) (t:fU P T r) (hag:r.agg=true) (hpl:ku P T place) (ho:o.op = .build T parts)
  (hz:yj r.zc ts) (k:KO P N place r ts parts.toList r.zero y):di P o N [] (fVN r y ts) [] :=
 di.qG fun h a w _ n=>by
  obtain ⟨cs',hf,hr,ht⟩:=k.run n (r.xX h) hz
  refine ⟨.agg cs'.toArray,?_,cs',hr,by rw [hag];rfl,ht⟩
  have h1:=hpl r.zc.toArray (parts.map fun q=>(q.1,a.eval q.2)) w cs'.toArray _ (t.zero w) (vY (r.xX h)) (by rw [Array.toList_map];exact hf)
  simp only [execOp,ho,Sem.run_bind,h1,Result.andThen_ok,Sem.run_pure]
theorem St.putT {κ:Type} {B:Base} {h:H} {L:Nat→Option gq} {F:κ→Option gq} {w:World} (hst:St B h (Sum.elim L F) w) {s b:Nat} {T:TypeId} {r:Rep α} {x y:α} {us:List (Nat×Value×gq)} {cs cs':List Value} {ts:List bK}
  (hk:L s=some (kR b T r x us)) (hb:w.heap[b]? = some (.cells cs.toArray T (0,0))) (hr:r.rel h cs' y) (ht:yj cs' ts) :
  St B h (Sum.elim (set1 L s (kR b T r y (A7 ts))) F) (w.setRow b cs'.toArray):=by
 obtain ⟨hcl,_⟩:=hst.own (k:=Sum.inl s) hk
 have hno:=(hcl (b,0) (by simp [kR])).2.2
 have hmem:=wY w b _ cs'.toArray T hb
 refine hst.write (Sum.inl s) (e:=kR b T r x us) hk (b:=b) (lo:=0) (by simp [kR]) hmem (fun i hi=>setRow_other w b i cs'.toArray hi) (by simp [World.setRow]) rfl rfl rfl ?_ vg ?_
 ·intro o' v hh
  rw [hno o' (Nat.zero_le _)] at hh;cases hh
 ·intro e' he
  rw [vk he]
  refine ⟨fun c hc=>?_,⟨cs',hmem,hr,ht.at⟩,fun u hu=>by rw [(EF hu).1];trivial⟩
  have hc:c ∈ (b,0) :: Ii (A7 ts):=hc
  rw [GR] at hc
  simp at hc
  subst hc
  exact List.mem_cons_self
theorem O7 {T:TypeId} {r:Rep α} {ts0 ts:List bK} {s:Nat} {v:Operand} {y z:α} (t:fU P T r) (hd:o.dst=none)
  (ho:o.op = .store T (.tmp s) v) (hv:bF N v (fVN r z ts)):di P o N [(s,bZ T r y ts0)] aQ.rD [(s,some (bZ T r z ts))]:=by
 intro κ B F L h a w hst hn hk _ next Q hnext _
 obtain ⟨e,hL,b,us,hxv,_,_,rfl⟩:=hk.1
 have Xp:a.eval (.tmp s) = .pointer (some ⟨b,0,none⟩):=hxv
 obtain ⟨⟨cs,hb,hr,_⟩,_⟩:=FP hst hL
 obtain ⟨c',hc',hvv,ht⟩:=hv h a hn
 have hrun:=qZ (p:=[]) (c:=cs) (q:=[]) t hc' (by simpa using hb) (r.len hr)
 unfold Oper.rJ
 have:(execOp a.eval o).run P w = .ok .skip (w.setRow b c'.toArray):=by
  simp only [List.length_nil,List.nil_append,List.append_nil] at hrun
  simp only [execOp,ho,Xp,hvv,Sem.run_bind,hrun,Result.andThen_ok,Sem.run_pure]
 rw [this]
 refine hnext undef h _ _ (nI.refl h) trivial (hst.putT hL hb hc' ht) ?_
 rw [hd]
 exact qL ⟨b,_,hxv,EG ts,GU b ts,rfl⟩
end Go.KB
namespace Go.KB
variable {P:Program} {o:Oper} {N:List (Nat×aQ)} {α β:Type}
section
variable [DecidableEq α]
def uG (z:β):List (α×β)→α→β
 | [],_=>z
 | p :: r,x=>bif decide (x=p.1) then p.2 else uG z r x
def VX:List (α×β)→α→Bool
 | [],_=>false
 | p :: r,x=>decide (x=p.1)||VX r x
def xB:List (α×β)→α→β→List (α×β)
 | [],x,y=>[(x,y)]
 | p :: r,x,y=>bif decide (x=p.1) then (p.1,y) :: r else p :: xB r x y
def FQ:List α→α→Option Nat
 | [],_=>none
 | y :: r,x=>bif decide (x=y) then some 0 else (FQ r x).map (· + 1)
structure zT (P:Program) (K:TypeId) (rk:Rep α) (f:α→Value):Prop where
 is:∀ {h u x},rk.val h u x→u=f x
 chk:∀ (e:Bool) (w:World) (x:α),(Instr.checkKey e 10000 K (f x)).run P w = .ok () w
 find:∀ (es:List MapEntry) (ks:List α) (x:α) (w:World),es.map (·.key)=ks.map f→(Instr.findKey K (f x) es).run P w = .ok ((FQ ks x).bind fun i=>es[i]?.map fun e=>(i,e.val)) w
 bits:∀ x,Instr.sameBits 10000 (f x) (f x)=true
 val:∀ h x,rk.val h (f x) x
theorem Jr {f:α→Value} {d:TypeDesc} (hd:∀ x y,Instr.sameNow d (f x) (f y)=some (decide (x=y))) (x:α):∀ (es:List MapEntry) (ks:List α) (n:Nat),es.map (·.key)=ks.map f →
  Instr.findNow d (f x) es n=some ((FQ ks x).bind fun i=>es[i]?.map fun e=>(n+i,e.val))
 | [],[],_,_=>rfl
 | [],_ :: _,_,h=>by cases h
 | _ :: _,[],_,h=>by cases h
 | e :: es,y :: ks,n,h=>by
  simp only [List.map_cons,List.cons.injEq] at h
  by_cases hx:x=y
  ·simp only [Instr.findNow,h.1,hd,hx,decide_true,FQ,cond_true];rfl
  ·simp only [Instr.findNow,h.1,hd,decide_eq_false hx,FQ,cond_false]
   rw [Jr hd x es ks (n+1) h.2]
   cases FQ ks x with
   | none=>rfl
   | some i=>simp only [Option.map_some,Option.bind_some,List.getElem?_cons_succ];rw [show n+1+i=n+(i+1) by omega]
theorem run_findKey {K:TypeId} {d:TypeDesc} {u:Value} {es:List MapEntry} {r:Option (Nat×Value)} {w:World} (hd:P.underlying K=some d) (h:Instr.findNow d u es 0=some r):(Instr.findKey K u es).run P w = .ok r w:=by
 unfold Instr.findKey
 simp only [Sem.run_bind,run_underlying hd,Result.andThen_ok,h,Sem.run_pure]
theorem MV {K : TypeId} {f : α → Value} {d : TypeDesc} (hK : P.underlying K = some d) (hd : ∀ x y, Instr.sameNow d (f x) (f y) = some (decide (x = y))) (es : List MapEntry) (ks : List α) (x : α) (w : World) (h : es.map (·.key) = ks.map f) :
  (Instr.findKey K (f x) es).run P w = .ok ((FQ ks x).bind fun i=>es[i]?.map fun e=>(i,e.val)) w :=
 run_findKey hK (by simpa using Jr hd x es ks 0 h)
theorem Js {K:TypeId} {f:α→Value} (hq:∀ x y w,(Op.equal K (f x) (f y)).run P w = .ok (decide (x=y)) w) (x:α) (w:World):∀ (es:List MapEntry) (ks:List α) (n:Nat),es.map (·.key)=ks.map f →
  (Instr.findAsking K (f x) es n).run P w = .ok ((FQ ks x).bind fun i=>es[i]?.map fun e=>(n+i,e.val)) w
 | [],[],_,_=>rfl
 | [],_ :: _,_,h=>by cases h
 | _ :: _,[],_,h=>by cases h
 | e :: es,y :: ks,n,h=>by
  simp only [List.map_cons,List.cons.injEq] at h
  by_cases hx:x=y
  ·simp only [Instr.findAsking,h.1,Sem.run_bind,hq,Result.andThen_ok,hx,decide_true,FQ,cond_true,if_true];rfl
  ·simp only [Instr.findAsking,h.1,Sem.run_bind,hq,Result.andThen_ok,decide_eq_false hx,FQ,cond_false,Bool.false_eq_true,if_false]
   rw [Js hq x w es ks (n+1) h.2]
   cases FQ ks x with
   | none=>rfl
   | some i=>simp only [Option.map_some,Option.bind_some,List.getElem?_cons_succ];rw [show n+1+i=n+(i+1) by omega]
theorem VY {K:TypeId} {f:α→Value} {d:TypeDesc} (hK:P.underlying K=some d) (hn:∀ x y,Instr.sameNow d (f x) (f y)=none) (hq:∀ x y w,(Op.equal K (f x) (f y)).run P w = .ok (decide (x=y)) w)
  (es:List MapEntry) (ks:List α) (x:α) (w:World) (h:es.map (·.key)=ks.map f) :
  (Instr.findKey K (f x) es).run P w = .ok ((FQ ks x).bind fun i=>es[i]?.map fun e=>(i,e.val)) w:=by
 cases es with
 | nil=>cases ks with
  | nil=>exact run_findKey hK rfl
  | cons y r=>cases h
 | cons e r =>
  have h1:Instr.findNow d (f x) (e :: r) 0=none:=by
   cases ks with
   | nil=>cases h
   | cons y ks =>
    simp only [List.map_cons,List.cons.injEq] at h
    simp only [Instr.findNow,h.1,hn]
  unfold Instr.findKey
  simp only [Sem.run_bind,run_underlying hK,Result.andThen_ok,h1]
  simpa using Js hq x w (e :: r) ks 0 h
def wL (s:Str):Value:=.string ⟨s.toArray⟩
theorem zT.str {K:TypeId} (hK:P.underlying K=some .string):zT P K Rep.str wL where
 is:=fun e=>wZ.1 e
 chk:=fun e w x=>MapKept.run_checkKey hK (by trivial) e 9999
 find:=MV hK fun x y=>by
  simp only [Instr.sameNow,wL]
  congr 1
  rw [Bool.eq_iff_iff,MapKept.bytes_beq]
  simp
 bits:=fun x=>(MapKept.bytes_beq _ _).2 rfl
 val:=fun _ _=>wZ.2 rfl
def FC (k:IntKind) (n:Int):Value:=.int k n
theorem zT.int {K:TypeId} {k:IntKind} (hK:P.underlying K=some (.int k)):zT P K (Rep.int k) (FC k) where
 is:=fun e=>eF.1 e
 chk:=fun e w x=>MapKept.run_checkKey hK (by trivial) e 9999
 find:=MV hK fun x y=>by
  simp only [Instr.sameNow,FC,if_true]
  congr 1
 bits:=fun x=>by simp [Instr.sameBits,FC]
 val:=fun _ _=>eF.2 rfl
end
def zU (f:α→Value) (rv:Rep β) (h:H):List MapEntry→List (α×β)→Prop
 | [],[]=>True
 | e :: es,p :: l=>(e.key=f p.1∧rv.val h e.val p.2)∧zU f rv h es l
 | _,_=>False
theorem zU.mono {f:α→Value} {rv:Rep β} {h h':H} (hl:nI h h'):∀ {es:List MapEntry} {l:List (α×β)},zU f rv h es l→zU f rv h' es l
 | [],[],_=>trivial
 | _ :: _,_ :: _,⟨⟨a,b⟩,c⟩=>⟨⟨a,rv.Gq hl b⟩,zU.mono hl c⟩
theorem zU.keys {f : α → Value} {rv : Rep β} {h : H} : ∀ {es : List MapEntry} {l : List (α × β)}, zU f rv h es l → es.map (·.key) = (l.map (·.1)).map f
 | [],[],_=>rfl
 | _ :: _,_ :: _,⟨⟨a,_⟩,c⟩=>by simp only [List.map_cons,a,zU.keys c]
theorem zU.snoc {f:α→Value} {rv:Rep β} {h:H} {e:MapEntry} {p:α×β} (he:e.key=f p.1∧rv.val h e.val p.2):∀ {es:List MapEntry} {l:List (α×β)},zU f rv h es l→zU f rv h (es ++ [e]) (l ++ [p])
 | [],[],_=>⟨he,trivial⟩
 | _ :: _,_ :: _,⟨a,c⟩=>⟨a,zU.snoc he c⟩
def Bv (es:List MapEntry) (c:Nat):Prop:=(es.map (·.born)).Nodup∧∀ e ∈ es,e.born<c
theorem Bv.push {es:List MapEntry} {c:Nat} {k v:Value} (h:Bv es c):Bv (es ++ [{ key:=k,val:=v,born:=c }]) (c+1):=by
 refine ⟨?_,fun e he=>?_⟩
 ·rw [List.map_append,List.nodup_append]
  refine ⟨h.1,by simp,fun a ha b hb=>?_⟩
  obtain ⟨e,he,rfl⟩:=List.mem_map.1 ha
  simp only [List.map_cons,List.map_nil,List.mem_singleton] at hb
  have:=h.2 e he
  omega
 ·rcases List.mem_append.1 he with he | he
  ·have:=h.2 e he;omega
  ·simp only [List.mem_singleton] at he;subst he;exact Nat.lt_succ_self _
theorem Bv.modify {es:List MapEntry} {c j:Nat} {g:MapEntry→MapEntry} (hg:∀ e,(g e).born=e.born) (h:Bv es c):Bv (es.modify j g) c:=by
 have hm:(es.modify j g).map (·.born)=es.map (·.born):=by
  refine List.ext_getElem? fun m=>?_
  simp only [List.getElem?_map,List.getElem?_modify]
  cases es[m]? with
  | none=>rfl
  | some e=>simp only [Option.map_some];split <;> simp [hg]
 refine ⟨by rw [hm];exact h.1,fun e he=>?_⟩
 have:e.born ∈ (es.modify j g).map (·.born):=List.mem_map.2 ⟨e,he,rfl⟩
 rw [hm] at this
 obtain ⟨e',he',hb⟩:=List.mem_map.1 this
 rw [← hb];exact h.2 e' he'
def xG (b:Nat) (f:α→Value) (rv:Rep β) (l:List (α×β)):gq where
 claims:=[(b,0)]
 ok:=fun h m=>∃ es clock,m b=some (.map es clock)∧zU f rv h es.toList l∧Bv es.toList clock
 mono:=by rintro h h' m hl ⟨es,c,e,k⟩;exact ⟨es,c,e,k.1.mono hl,k.2⟩
 frame:=fun hm ⟨es,c,e,k⟩=>⟨es,c,by rw [hm (b,0) (by simp)];exact e,k⟩
def qA (f:α→Value) (rv:Rep β) (l:List (α×β)):eP:=fun v e=>∃ b,v = .map (some b)∧e=xG b f rv l
theorem IJ {T:TypeId} {f:α→Value} {rv:Rep β} {d:Nat} (hd:o.dst=some d) (ho:o.op = .makeMap T none):di P o N [] aQ.rD [(d,some (qA f rv []))]:=by
 intro κ B F L h a w hst hn _ hdn next Q hnext _
 unfold Oper.rJ
 have:(execOp a.eval o).run P w = .ok (.value (.map (some w.heap.size))) (w.alloc (.map #[] 0)):=by
  have e:(Instr.makeMap T none).run P w = .ok (.map (some w.heap.size)) (w.alloc (.map #[] 0)):=rfl
  simp only [execOp,ho,Option.map_none,Sem.run_bind,e,Result.andThen_ok,Sem.run_pure]
 rw [this]
 refine hnext _ h _ (set1 L d (xG w.heap.size f rv [])) (nI.refl h) trivial (hst.BI _ d _ (by simp [xG]) ⟨#[],0,BJ _ _,trivial,by simp [Bv]⟩) ?_
 rw [hd]
 exact qL ⟨_,fG (hdn d hd),rfl⟩
theorem map_at {κ:Type} {B:Base} {h:H} {L:Nat→Option gq} {F:κ→Option gq} {w:World} (hst:St B h (Sum.elim L F) w) {s b:Nat} {f:α→Value} {rv:Rep β} {l:List (α×β)}
  (hk:L s=some (xG b f rv l)):∃ es clock,w.heap[b]? = some (.map es clock)∧zU f rv h es.toList l :=
 let ⟨es,c,h1,h2,_⟩:=(hst.own (k:=Sum.inl s) hk).2
 ⟨es,c,h1,h2⟩
theorem UM {κ:Type} {B:Base} {h:H} {L:Nat→Option gq} {F:κ→Option gq} {w:World} (hst:St B h (Sum.elim L F) w) {s b:Nat} {f:α→Value} {rv:Rep β} {l:List (α×β)}
  (hk:L s=some (xG b f rv l)):∃ es clock,w.heap[b]? = some (.map es clock)∧zU f rv h es.toList l∧Bv es.toList clock:=(hst.own (k:=Sum.inl s) hk).2
section
variable [DecidableEq α]
theorem MW {f:α→Value} {rv:Rep β} {h:H} (x:α):∀ {es:List MapEntry} {l:List (α×β)},zU f rv h es l →
    (FQ (l.map (·.1)) x=none∧VX l x=false∧(∀ z,uG z l x=z)∧∀ y,xB l x y=l ++ [(x,y)]) ∨
    ∃ i e0,FQ (l.map (·.1)) x=some i∧es[i]? = some e0∧e0.key=f x∧VX l x=true∧(∀ z,rv.val h e0.val (uG z l x)) ∧
      ∀ g y,(∀ e,(g e).key=e.key)→(∀ e,rv.val h (g e).val y)→zU f rv h (es.modify i g) (xB l x y)
  | [],[],_=>.inl ⟨rfl,rfl,fun _=>rfl,fun _=>rfl⟩
  | e :: es,p :: l,⟨⟨hk,hv⟩,hr⟩=>by
    by_cases hx:x=p.1
    · refine .inr ⟨0, e, ?_, rfl, by rw [hk, hx], by simp [VX, hx], fun z => by simpa [uG, hx] using hv, fun g y hg hy => ?_⟩
      · simp only [List.map_cons,FQ,hx,decide_true,cond_true]
      · simp only [List.modify_zero_cons,xB,hx,decide_true,cond_true]
        exact ⟨⟨by rw [hg,hk],hy e⟩,hr⟩
    · rcases MW x hr with ⟨h1,h2,h3,h4⟩ | ⟨i,e0,h1,h2,h3,h4,h5,h6⟩
      · exact .inl ⟨by simp [FQ,hx,h1],by simp [VX,hx,h2],fun z=>by simp [uG,hx,h3],fun y=>by simp [xB,hx,h4]⟩
      · refine .inr ⟨i + 1, e0, by simp [FQ, hx, h1], by simpa using h2, h3, by simp [VX, h4], fun z => by simpa [uG, hx] using h5 z, fun g y hg hy => ?_⟩
        simp only [List.modify_succ_cons,xB,hx,decide_false,cond_false]
        exact ⟨⟨hk,hv⟩,h6 g y hg hy⟩
theorem Oj {K:TypeId} {rk:Rep α} {f:α→Value} (hf:zT P K rk f) {rv:Rep β} {h:H} {es:List MapEntry} {l:List (α×β)} (hr:zU f rv h es l) {x:α} (h1:FQ (l.map (·.1)) x=none) (w:World):(Instr.findKey K (f x) es).run P w = .ok none w:=by
 rw [hf.find _ _ x w hr.keys,h1];rfl
theorem Ol {K:TypeId} {rk:Rep α} {f:α→Value} (hf:zT P K rk f) {rv:Rep β} {h:H} {es:List MapEntry} {l:List (α×β)} (hr:zU f rv h es l) {x:α} {i:Nat} {e0:MapEntry} (h1:FQ (l.map (·.1)) x=some i) (h2:es[i]? = some e0) (w:World):(Instr.findKey K (f x) es).run P w = .ok (some (i,e0.val)) w:=by
 rw [hf.find _ _ x w hr.keys,h1,Option.bind_some,h2];rfl
end
section
variable [DecidableEq α]
theorem MX {T K E:TypeId} {rk:Rep α} {f:α→Value} {rv:Rep β} {s:Nat} {x i:Operand} {l:List (α×β)} {y:α} (hf:zT P K rk f) (t:fU P E rv) (hT:P.underlying T=some (.map K E))
  (W:Wr) (ho:o.op = .lookup T x i false) (hx:VT N x W s) (hi:bF N i (fV rk y)):di P o N [(s,W.ap (qA f rv l))] (fV rv (uG rv.zero l y)) []:=by
 intro κ B F L h a w hst hn hk _ next Q hnext _
 obtain ⟨e,hL,hq⟩:=hk.1
 obtain ⟨b,hv,rfl⟩:=Wr.iff.1 hq
 have hx':a.eval x = .map (some b):=(hx h a hn).trans hv
 have hi':=hf.is (hi h a hn)
 obtain ⟨es,clock,hb,hr⟩:=map_at hst hL
 rcases MW y hr with ⟨h1,_,h3,_⟩ | ⟨j,e0,h1,h2,_,_,h5,_⟩
 ·have:(execOp a.eval o).run P w = .ok (.value (pack rv.agg rv.zc)) w:=by
   simp [execOp,ho,hx',hi',Instr.lookup,run_underlying hT,MapKept.run_getObj_map hb,hf.chk,Oj hf hr h1,t.zero]
  unfold Oper.rJ
  rw [this]
  exact hnext _ h w L (nI.refl h) ⟨rv.zc,by rw [h3];exact rv.xX h,rfl⟩ hst nJ
 ·have:(execOp a.eval o).run P w = .ok (.value e0.val) w:=by
   simp [execOp,ho,hx',hi',Instr.lookup,run_underlying hT,MapKept.run_getObj_map hb,hf.chk,Ol hf hr h1 h2]
  unfold Oper.rJ
  rw [this]
  exact hnext _ h w L (nI.refl h) (h5 _) hst nJ
theorem VL {T K E:TypeId} {rk:Rep α} {f:α→Value} {rv:Rep β} {s:Nat} {x i:Operand} {l:List (α×β)} {y:α} (hf:zT P K rk f) (t:fU P E rv) (hT:P.underlying T=some (.map K E))
  (ho:o.op = .lookup T x i false) (hx:bF N x (Qh s)) (hi:bF N i (fV rk y)):di P o N [(s,qA f rv l)] (fV rv (uG rv.zero l y)) []:=MX hf t hT .slot ho (.slot hx) hi
theorem S9 {T K E:TypeId} {rk:Rep α} {f:α→Value} {rv:Rep β} {s:Nat} {sv:Value} {x i:Operand} {l:List (α×β)} {y:α} (hf:zT P K rk f) (t:fU P E rv) (hT:P.underlying T=some (.map K E))
  (ho:o.op = .lookup T x i false) (hx:bF N x (jk sv)) (hi:bF N i (fV rk y)):di P o N [(s,eX (qA f rv l) sv)] (fV rv (uG rv.zero l y)) []:=MX hf t hT (.val sv) ho (.val hx) hi
theorem run_keyThatStays {u:Value} {w:World} (h:Instr.sameBits 10000 u u=true):(Instr.keyThatStays u u).run P w = .ok u w:=by
 unfold Instr.keyThatStays
 rw [if_pos h];rfl
def BQ (w:World) (b:Nat) (o:Obj):World:={ w with heap:=w.heap.setIfInBounds b o }
theorem TN {w:World} {b:Nat} {o o':Obj} (hb:w.heap[b]? = some o):(BQ w b o').heap[b]? = some o':=by
 have:=(Array.getElem?_eq_some_iff.1 hb).1
 simp [BQ,this]
theorem TP {w:World} {b i:Nat} {o':Obj} (hi:i≠b):(BQ w b o').heap[i]? = w.heap[i]?:=by
 simp [BQ,Ne.symm hi]
theorem Iq {T K E:TypeId} {rk:Rep α} {f:α→Value} {rv:Rep β} {s:Nat} {x i v:Operand} {l:List (α×β)} {y:α} {z:β} (hf:zT P K rk f) (hT:P.underlying T=some (.map K E)) (hd:o.dst=none)
    (W:Wr) (ho:o.op = .mapUpdate T x i v∨o.op = .insert T x i v) (hx:VT N x W s) (hi:bF N i (fV rk y)) (hv:bF N v (fV rv z)):di P o N [(s,W.ap (qA f rv l))] aQ.rD [(s,some (W.ap (qA f rv (xB l y z))))]:=by
  intro κ B F L h a w hst hn hk _ next Q hnext _
  obtain ⟨e,hL,hq⟩:=hk.1
  obtain ⟨b,hvb,rfl⟩:=Wr.iff.1 hq
  have hx':a.eval x = .map (some b):=(hx h a hn).trans hvb
  have hi':=hf.is (hi h a hn)
  have hv':=hv h a hn
  obtain ⟨es,clock,hb,hr,hB⟩:=UM hst hL
  have fin:∀ es' clock',zU f rv h es'.toList (xB l y z)→Bv es'.toList clock'→(execOp a.eval o).run P w = .ok .skip (BQ w b (.map es' clock'))→o.rJ P a w next Q:=by
    intro es' clock' hrel hbn hrun
    unfold Oper.rJ
    rw [hrun]
    refine hnext undef h _ (set1 L s (xG b f rv (xB l y z))) (nI.refl h) trivial ?_ ?_
    · obtain ⟨hcl,_⟩:=hst.own (k:=Sum.inl s) hL
      have hno:=(hcl (b,0) (by simp [xG])).2.2
      have hlt:=(hcl (b,0) (by simp [xG])).2.1
      refine hst.step (hnf:=hst.Xa (k:=Sum.inl s) hL (by simp [xG])) (Sum.inl s) (fun i=>i=b) (fun i hi _=>⟨_,hL,(b,0),by simp [xG],hi.symm⟩) (by simp [BQ]) rfl rfl rfl (fun i _ hi=>TP hi) (nI.refl h) (fun _ _ _ _=>rfl) ?_ vg ?_
      · rintro i o' u (rfl | hi) hu
        · rw [hno o' (Nat.zero_le _)] at hu;cases hu
        · rw [hst.fresh hi] at hu;cases hu
      · intro e' he
        rw [vk he]
        refine ⟨fun c hc=>?_,es',clock',TN hb,hrel,hbn⟩
        simp only [xG,List.mem_singleton] at hc
        subst hc
        exact ⟨.inr ⟨_,hL,(b,0),by simp [xG],rfl⟩,by simpa [BQ] using hlt,fun o' _=>hno o' (Nat.zero_le _)⟩
    · rw [hd]
      exact qL (Wr.iff.2 ⟨b,hvb,rfl⟩)
  rcases MW y hr with ⟨h1,_,_,h4⟩ | ⟨j,e0,h1,h2,h3,_,_,h6⟩
  · refine fin (es.push { key := f y, val := a.eval v, born := clock }) (clock + 1) ?_ (by rw [Array.toList_push]; exact hB.push) ?_
    · rw [h4,Array.toList_push]
      exact zU.snoc (e:=⟨f y,a.eval v,clock⟩) (p:=(y,z)) ⟨rfl,hv'⟩ hr
    · rcases ho with ho | ho <;> simp [execOp,ho,hx',hi',Instr.mapUpdate,run_underlying hT,MapKept.run_getObj_map hb,hf.chk,Oj hf hr h1,MapKept.run_setObj_map _ hb,BQ]
  · have h2' : es[j]? = some e0 := by simpa using h2
    refine fin (es.modify j fun e=>{ e with key:=f y,val:=a.eval v }) clock ?_ (by rw [Array.toList_modify];exact hB.modify (fun _=>rfl)) ?_
    · have hkey:es.toList.modify j (fun e=>{ e with key:=f y,val:=a.eval v })=es.toList.modify j (fun e=>{ e with val:=a.eval v }):=by
        refine List.ext_getElem? fun m=>?_
        simp only [List.getElem?_modify]
        by_cases hm:j=m
        · subst hm;simp [h2',← h3]
        · simp [hm]
      rw [Array.toList_modify,hkey]
      exact h6 _ z (fun _=>rfl) (fun _=>hv')
    · rcases ho with ho | ho <;> simp [execOp,ho,hx',hi',Instr.mapUpdate,run_underlying hT,MapKept.run_getObj_map hb,hf.chk,Ol hf hr h1 h2,h2',h3,run_keyThatStays (hf.bits y),MapKept.run_setObj_map _ hb,BQ]
theorem Px {T K E:TypeId} {rk:Rep α} {f:α→Value} {rv:Rep β} {s:Nat} {x i v:Operand} {l:List (α×β)} {y:α} {z:β} (hf:zT P K rk f) (hT:P.underlying T=some (.map K E)) (hd:o.dst=none)
  (ho:o.op = .mapUpdate T x i v∨o.op = .insert T x i v) (hx:bF N x (Qh s)) (hi:bF N i (fV rk y)) (hv:bF N v (fV rv z)):di P o N [(s,qA f rv l)] aQ.rD [(s,some (qA f rv (xB l y z)))]:=Iq hf hT hd .slot ho (.slot hx) hi hv
theorem NR {T K E:TypeId} {rk:Rep α} {f:α→Value} {rv:Rep β} {s:Nat} {sv:Value} {x i v:Operand} {l:List (α×β)} {y:α} {z:β} (hf:zT P K rk f) (hT:P.underlying T=some (.map K E)) (hd:o.dst=none)
  (ho:o.op = .mapUpdate T x i v∨o.op = .insert T x i v) (hx:bF N x (jk sv)) (hi:bF N i (fV rk y)) (hv:bF N v (fV rv z)):di P o N [(s,eX (qA f rv l) sv)] aQ.rD [(s,some (eX (qA f rv (xB l y z)) sv))]:=Iq hf hT hd (.val sv) ho (.val hx) hi hv
end
theorem XO {q:eP} {s d:Nat} {x:Operand} (hsd:Nat.beq s d=false) (hd:o.dst=some d) (ho:o.op = .move x∨o.op = .assign x) (hx:bF N x (Qh s)):di P o N [(s,q)] aQ.rD [(s,none),(d,some q)]:=by
 intro κ B F L h a w hst hn hk hdn next Q hnext _
 obtain ⟨e,hL,hq⟩:=hk.1
 have hx':a.eval x=a.gt s:=hx h a hn
 have hne:s≠d:=fun x=>by rw [iQ.2 x] at hsd;cases hsd
 unfold Oper.rJ
 have:(execOp a.eval o).run P w = .ok (.value (a.gt s)) w:=by rcases ho with ho | ho <;> simp [execOp,ho,hx']
 rw [this]
 refine hnext _ h w _ (nI.refl h) trivial (hst.mv s d) ?_
 rw [hd]
 exact Iz hne hL (by rw [fG (hdn d hd)];exact hq)
end Go.KB
namespace Go.KB
variable {P:Program} {o:Oper} {N:List (Nat×aQ)} {α β:Type}
def Yf (r:Rep α) (h:H) (v:Value):Option α→Prop
 | none=>v = .pointer none
 | some x=>∃ b off,v = .pointer (some ⟨b,off,none⟩)∧zJ r h b off x
def Rep.ptr (r:Rep α):Rep (Option α) where
 sz:=1
 agg:=false
 rel:=fun h cs x=>∃ v,cs=[v]∧Yf r h v x
 zero:=none
 zc:=[.pointer none]
 one:=fun _=>rfl
 len:=fun ⟨v,e,_⟩=>by rw [e];rfl
 flat:=fun {h cs x} ⟨v,e,k⟩ c hc=>by
  rw [e] at hc;simp at hc;rw [hc]
  cases x with
  | none=>rw [show v=_ from k];rfl
  | some x=>obtain ⟨b,off,rfl,_⟩:=k;rfl
 mono:=fun {h h' cs x} hl ⟨v,e,k⟩=>⟨v,e,by
  cases x with
  | none=>exact k
  | some x=>obtain ⟨b,off,e,k⟩:=k;exact ⟨b,off,e,k.mono hl⟩⟩
 xX:=fun _=>⟨_,rfl,rfl⟩
theorem ZF {r:Rep α} {h:H} {v:Value} {x:Option α}:(Rep.ptr r).val h v x↔Yf r h v x :=
 ⟨fun ⟨_,⟨v',e,k⟩,e'⟩=>by rw [e',e];exact k,fun k=>⟨[v],⟨v,rfl,k⟩,rfl⟩⟩
theorem opdP0 {r:Rep α}:bF N (.const (.pointer none)) (fV (Rep.ptr r) none):=fun _ _ _=>ZF.2 rfl
end Go.KB
namespace Go.KB
variable {P:Program} {o:Oper} {N:List (Nat×aQ)} {α β:Type}
theorem VG {s i:Nat} {ι:Type} {q0 q0':eP} {q q':ι→eP} {fx:aQ} {f:FuncId} {fn:Func} {args:List aQ} {post:aQ} {xs:Array Operand} {ts:Array TypeId} {y:Operand}
  (hc:∀ k,UA P f args i (q k) (q' k) post) (hb:IB s fx q0 q0' q q') (hfx:fx.dep=some s) (hf:P.funcs[f]? = some fn) (hbd:uQ fn=true) (hd:ul (post :: args)=true) (hds:Qq o.dst s=true)
  (ho:o.op = .call { callee:=.value (.func f),args:=xs,argTypes:=ts }) (hy:xs.toList[i]? = some y) (hyx:bF N y fx) (hargs:xg N args xs.toList):di P o N [(s,q0)] aQ.rD [(s,some q0')] :=
 di.out (og hd post List.mem_cons_self) (fun _ _ _ _=>trivial) (W9 hc hb hfx hf hbd hd hds ho hy hyx hargs)
end Go.KB
namespace Go.KB
variable {P:Program} {o:Oper} {N:List (Nat×aQ)} {α β:Type}
end Go.KB
namespace Go.KB
section
variable {P:Program} {o:Oper} {N:List (Nat×aQ)} {α:Type}
theorem aK {T:TypeId} {r:Rep α} {s:Nat} {y:α} (t:fU P T r) (ho:o.op = .load T (.tmp s)):di P o ((s,dn r y) :: N) [] (fV r y) []:=dA t ho ak
theorem bJ {β:Type} {T:TypeId} {r:Rep α} {q:Rep β} {s:Nat} {y:α} {i off:Nat} {get:α→β} {set:α→β→α} (l:Lens r q off get set) (hf:bQ P T i off) (ho:o.op = .fieldAddr T (.tmp s) i):di P o ((s,dn r y) :: N) [] (dn q (get y)) []:=dR l hf ho ak
theorem jO {T:TypeId} {r:Rep α} {s v:Nat} {y z:α} (t:fU P T r) (ho:o.op = .store T (.tmp s) (.tmp v)) (hd:o.dst=none:=by rfl):di P o ((v,fV r z) :: N) [(s,dJ T r y)] aQ.rD [(s,some (dJ T r z))]:=QA t hd ho ak
def Yg:BinOp→Bool
 | .eql | .neq | .lss | .leq | .gtr | .geq=>true
 | _=>false
theorem MZ {op:BinOp} (h:Yg op=true):op = .eql∨op = .neq∨op = .lss∨op = .leq∨op = .gtr∨op = .geq:=by
 cases op <;> first | (cases h;done) | simp
theorem gQ {op:BinOp} {k:IntKind} {T T':TypeId} {s:Nat} {m n:Int} (ho:o.op = .binOp op T (.tmp s) (.const (.int k n)) T') (hop:Yg op=true:=by rfl):di P o ((s,fV (Rep.int k) m) :: N) [] (fV Rep.bool (ax op m n)) []:=dS (MZ hop) rfl ho ak aP
theorem dK {op:BinOp} {k:IntKind} {T T':TypeId} {s t:Nat} {m n:Int} (ho:o.op = .binOp op T (.tmp s) (.tmp t) T') (hop:Yg op=true:=by rfl):di P o ((s,fV (Rep.int k) m) :: (t,fV (Rep.int k) n) :: N) [] (fV Rep.bool (ax op m n)) []:=dS (MZ hop) rfl ho ak aA
theorem dw {α β γ:Type} {x:Option α} {f:α→Option β} {g:α→β→Option γ} {r:γ} (h:(x.bind fun a=>(f a).bind (g a))=some r):∃ a,x=some a∧∃ b,f a=some b∧g a b=some r:=by
 obtain ⟨a,h1,h⟩:=aJ h
 obtain ⟨b,h2,h⟩:=aJ h
 exact ⟨a,h1,b,h2,h⟩
theorem tn {K:Act→World→Prop} {Q:Exit→Act→World→Prop} {a:Act} {w:World} (h:K a w):Exit.then K Q .normal a w:=h
theorem tr {K:Act→World→Prop} {Q:Exit→Act→World→Prop} {a:Act} {w:World} (h:Q .ret a w):Exit.then K Q .ret a w:=h
theorem ws {ρ:Option Nat} {Q:Exit→Act→World→Prop} {a:Act} {w:World} {x y:Code} (h:x.rJ ρ P (Exit.then (y.rJ ρ P Q) Q) a w):(Code.seq x y).rJ ρ P Q a w:=wp_seq h
theorem wk {ρ:Option Nat} {Q:Exit→Act→World→Prop} {a:Act} {w:World} (h:Q .normal a w):Code.skip.rJ ρ P Q a w:=wp_skip h
theorem wr {ρ:Option Nat} {Q:Exit→Act→World→Prop} {a:Act} {w:World} (h:Q .ret a w):Code.ret.rJ ρ P Q a w:=wp_ret h
abbrev ln {α:Type} (l:List α):Int:=(List.length l:Int)
abbrev w1:Int→Int:=IntKind.u16.wrap
abbrev lS {α:Type} (r:Rep α):Rep (List α):=Rep.slice r
theorem Yh {L:Nat→Option gq} {s:Nat} {d:Option Nat} {a:Act}:Ea L (fun k=>if k=s then none else L k) (full [(s,none)] d) a:=by
  intro k
  by_cases hk:k=s
  · subst hk
    have:qw (full [(k,none)] d) k=some none:=by simp [full,qw,Nat.beq_refl]
    rw [this];trivial
  · have h1 : Nat.beq s k = false := by rw [Bool.eq_false_iff, Ne, iQ]; exact fun x => hk x.symm
    cases d with
    | none =>
      have:qw (full [(s,none)] none) k=none:=by simp [full,qw,h1]
      rw [this];simp [hk]
    | some d =>
      cases h2:Nat.beq d k with
      | true =>
        have:qw (full [(s,none)] (some d)) k=some none:=by simp [full,qw,h1,h2]
        rw [this];trivial
      | false =>
        have:qw (full [(s,none)] (some d)) k=none:=by simp [full,qw,h1,h2]
        rw [this];simp [hk]
end
end Go.KB
