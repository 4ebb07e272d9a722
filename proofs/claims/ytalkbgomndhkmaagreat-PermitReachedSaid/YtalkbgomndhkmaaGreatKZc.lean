/- Variables whose fields are rows that are appended to. Fields of values; values whose fields are nil, and variables that take them. Maps that are owned: made, looked into, written. Pointers that are only read, nil among them; texts as rows of bytes. Functions that take a row over and hand a row back. Rows that grow from nothing: cap, cuts and appends of zeros at nil. Arrays: slices of arrays that are not written any more, elements of arrays. No condition. -/
import Derived.Test.YtalkbgomndhkmaaGreatKZb
import Derived.MapKept
import Derived.Laws.Pointers
import Derived.Lib.ConvBytes
import Derived.Lib.AppendZeros
namespace Go.KB
variable {P:Program} {o:Oper} {N:List (Nat×aZ)} {f:aZ} {α β:Type}
inductive Wr where
 | slot
 | val (sv:Value)
def iq (q:dU) (sv:Value):dU:=fun _ e=>q sv e
def Wr.ap (W:Wr) (q:dU):dU:=match W with | .slot=>q | .val sv=>iq q sv
def Wr.v (W:Wr) (a:Act) (g:Nat):Value:=match W with | .slot=>a.gt g | .val sv=>sv
theorem Wr.iff {W:Wr} {q:dU} {a:Act} {g:Nat} {e:iH}:W.ap q (a.gt g) e↔q (W.v a g) e:=by cases W <;> rfl
def O7 (N:List (Nat×aZ)) (x:Operand) (W:Wr) (g:Nat):Prop:=∀ h a,BR N h a→a.eval x=W.v a g
theorem O7.slot {x:Operand} {g:Nat} (hx:bW N x (QI g)):O7 N x .slot g:=fun h a n=>hx h a n
theorem O7.val {x:Operand} {g:Nat} {sv:Value} (hx:bW N x (jX sv)):O7 N x (.val sv) g:=fun h a n=>hx h a n
theorem Wr.v_put {W:Wr} {a:Act} {s d:Nat} {v:Value} (h:s≠d):W.v (a.put (some d) v) s=W.v a s:=by
 cases W with
 | slot=>exact Ib h
 | val sv=>rfl
def O8 (N:List (Nat×aZ)) (x:Operand) (W:Wr) (s off:Nat):Prop:=∀ h a,BR N h a→∃ b,W.v a s = .pointer (some ⟨b,0,none⟩)∧a.eval x = .pointer (some ⟨b,off,none⟩)
def xE (sv:Value) (off:Nat):aZ:=⟨none,fun _ _ v=>∃ b,sv = .pointer (some ⟨b,0,none⟩)∧v = .pointer (some ⟨b,off,none⟩),fun _ x=>x⟩
theorem O8.slot {x:Operand} {s off:Nat} (hx:bW N x (DN s off)):O8 N x .slot s off:=fun h a n=>hx h a n
theorem O8.val {x:Operand} {s off:Nat} {sv:Value} (hx:bW N x (xE sv off)):O8 N x (.val sv) s off:=fun h a n=>hx h a n
structure iY where
 off:Nat
 E:TypeId
 sz:Nat
def qW:List iY→List (Nat×Value×iH)→Prop
 | [],[]=>True
 | t :: ts,u :: us=>(u.1=t.off∧eU t.E t.sz u.2.1 u.2.2)∧qW ts us
 | _,_=>False
theorem qW.mid {t:iY} {l2:List iY}:∀ {l1:List iY} {us:List (Nat×Value×iH)},qW (l1 ++ t :: l2) us →
  ∃ Ee u Fg,us=Ee ++ u :: Fg∧u.1=t.off∧eU t.E t.sz u.2.1 u.2.2∧qW l1 Ee∧qW l2 Fg:=by
 intro l1
 induction l1 with
 | nil =>
  intro us h
  cases us with
  | nil=>exact h.elim
  | cons u us=>exact ⟨[],u,us,rfl,h.1.1,h.1.2,trivial,h.2⟩
 | cons t1 l1 ih =>
  intro us h
  cases us with
  | nil=>exact h.elim
  | cons u0 us =>
   obtain ⟨Ee,u,Fg,rfl,h1,h2,h3,h4⟩:=ih h.2
   exact ⟨u0 :: Ee,u,Fg,rfl,h1,h2,⟨h.1,h3⟩,h4⟩
theorem qW.app {l2:List iY} {Fg:List (Nat×Value×iH)} (h2:qW l2 Fg):∀ {l1:List iY} {Ee:List (Nat×Value×iH)},qW l1 Ee→qW (l1 ++ l2) (Ee ++ Fg):=by
 intro l1
 induction l1 with
 | nil =>
  intro Ee h
  cases Ee with
  | nil=>exact h2
  | cons u us=>exact h.elim
 | cons t1 l1 ih =>
  intro Ee h
  cases Ee with
  | nil=>exact h.elim
  | cons u0 us=>exact ⟨h.1,ih h.2⟩
theorem qW.XE:∀ {l:List iY} {us:List (Nat×Value×iH)},qW l us→∀ u ∈ us,∃ t ∈ l,u.1=t.off:=by
 intro l
 induction l with
 | nil =>
  intro us h u hu
  cases us with
  | nil=>cases hu
  | cons _ _=>exact h.elim
 | cons t l ih =>
  intro us h u hu
  cases us with
  | nil=>exact h.elim
  | cons u0 us =>
   rcases List.mem_cons.1 hu with rfl | hu
   ·exact ⟨t,List.mem_cons_self,h.1.1⟩
   ·obtain ⟨t',ht',e⟩:=ih h.2 u hu
    exact ⟨t',List.mem_cons_of_mem _ ht',e⟩
theorem qW.cut {l2:List iY}:∀ {l1:List iY} {us:List (Nat×Value×iH)},qW (l1 ++ l2) us→∃ Ee Fg,us=Ee ++ Fg∧qW l1 Ee∧qW l2 Fg:=by
 intro l1
 induction l1 with
 | nil=>intro us h;exact ⟨[],us,rfl,trivial,h⟩
 | cons t1 l1 ih =>
  intro us h
  cases us with
  | nil=>exact h.elim
  | cons u0 us =>
   obtain ⟨Ee,Fg,rfl,h3,h4⟩:=ih h.2
   exact ⟨u0 :: Ee,Fg,rfl,⟨h.1,h3⟩,h4⟩
def FW (a b:List (Nat×Nat)):Prop:=∀ c ∈ a,∀ c' ∈ b,c.1≠c'.1
def BoxOk (b:Nat) (us:List (Nat×Value×iH)):Prop:=(us.map (fun u=>u.2.2.claims)).Pairwise FW∧∀ u ∈ us,∀ c ∈ u.2.2.claims,c.1≠b
def Lc (us:List (Nat×Value×iH)):List (Nat×Nat):=us.flatMap (fun u=>u.2.2.claims)
def nC (b:Nat) (T:TypeId) (r:Rep α) (x:α) (us:List (Nat×Value×iH)):iH where
 claims:=(b,0) :: Lc us
 ok:=fun h m=>(∃ cs,m b=some (.cells cs.toArray T (0,0))∧r.rel h cs x∧∀ u ∈ us,cs[u.1]? = some u.2.1)∧∀ u ∈ us,u.2.2.ok h m
 mono:=by
  intro h h' m hl ⟨⟨cs,e,k,l⟩,q⟩
  exact ⟨⟨cs,e,r.mono hl k,l⟩,fun u hu=>u.2.2.mono hl (q u hu)⟩
 frame:=by
  intro h m m' hm ⟨⟨cs,e,k,l⟩,q⟩
  refine ⟨⟨cs,by rw [hm (b,0) (by simp)];exact e,k,l⟩,fun u hu=>u.2.2.frame (fun c hc=>hm c ?_) (q u hu)⟩
  exact List.mem_cons_of_mem _ (List.mem_flatMap.2 ⟨u,hu,hc⟩)
def jI (T:TypeId) (r:Rep α) (x:α) (ts:List iY):dU:=fun v e=>∃ b us,v = .pointer (some ⟨b,0,none⟩)∧qW ts us∧BoxOk b us∧e=nC b T r x us
theorem St.split2 {κ:Type} {B:Base} {h:H} {L:Nat→Option iH} {F:κ→Option iH} {w:World} (hst:St B h (Sum.elim L F) w) {s d:Nat} {e e1 e2:iH} (hL:L s=some e) (_:s≠d)
    (h1:∀ c ∈ e1.claims,c ∈ e.claims) (h2:∀ c ∈ e2.claims,c ∈ e.claims) (hd:FW e1.claims e2.claims) (k1:e1.ok h (World.mem w)) (k2:e2.ok h (World.mem w)) :
    St B h (Sum.elim (set1 (set1 L s e1) d e2) F) w:=by
  obtain ⟨hcl,_⟩:=hst.own (k:=Sum.inl s) hL
  have hval:∀ k e',set1 (set1 L s e1) d e2 k=some e'→(k=d∧e'=e2)∨(k=s∧e'=e1)∨(k≠s∧k≠d∧L k=some e'):=by
    intro k e' hk
    unfold set1 at hk
    split at hk
    · rename_i hkd;exact .inl ⟨hkd,(Option.some.inj hk).symm⟩
    · rename_i hkd
      split at hk
      · rename_i hks;exact .inr (.inl ⟨hks,(Option.some.inj hk).symm⟩)
      · rename_i hks;exact .inr (.inr ⟨hks,hkd,hk⟩)
  refine ⟨hst.low,hst.base,fun x=>hst.ext x,?_,?_⟩
  · intro k e' hk
    cases k with
    | inr k=>exact hst.own (k:=Sum.inr k) hk
    | inl k =>
      rcases hval k e' hk with ⟨_,rfl⟩ | ⟨_,rfl⟩ | ⟨_,_,hk⟩
      · exact ⟨fun c hc=>hcl c (h2 c hc),k2⟩
      · exact ⟨fun c hc=>hcl c (h1 c hc),k1⟩
      · exact hst.own (k:=Sum.inl k) hk
  · have other : ∀ (k : Nat ⊕ κ) e', Sum.elim L F k = some e' → k ≠ Sum.inl s → ∀ c ∈ e.claims, ∀ c' ∈ e'.claims, c.1 ≠ c'.1 := fun k e' hk hne => hst.uf (k := Sum.inl s) hL hk (Ne.symm hne)
    intro k k' a a' hk hk' hne c hc c' hc'
    cases k with
    | inr k =>
      cases k' with
      | inr k'=>exact hst.uf (k:=Sum.inr k) (k':=Sum.inr k') hk hk' hne c hc c' hc'
      | inl k' =>
        rcases hval k' a' hk' with ⟨_,rfl⟩ | ⟨_,rfl⟩ | ⟨h3,_,hk'⟩
        · exact (other (.inr k) a hk (by simp) c' (h2 _ hc') c hc).symm
        · exact (other (.inr k) a hk (by simp) c' (h1 _ hc') c hc).symm
        · exact hst.uf (k:=Sum.inr k) (k':=Sum.inl k') hk hk' (by simp) c hc c' hc'
    | inl k =>
      cases k' with
      | inr k' =>
        rcases hval k a hk with ⟨_,rfl⟩ | ⟨_,rfl⟩ | ⟨h3,_,hk⟩
        · exact other (.inr k') a' hk' (by simp) c (h2 _ hc) c' hc'
        · exact other (.inr k') a' hk' (by simp) c (h1 _ hc) c' hc'
        · exact hst.uf (k:=Sum.inl k) (k':=Sum.inr k') hk hk' (by simp) c hc c' hc'
      | inl k' =>
        have hne':k≠k':=fun x=>hne (by rw [x])
        rcases hval k a hk with ⟨e3,rfl⟩ | ⟨e3,rfl⟩ | ⟨h3,h4,hk2⟩ <;> rcases hval k' a' hk' with ⟨e4,rfl⟩ | ⟨e4,rfl⟩ | ⟨h5,h6,TQ⟩
        · exact absurd (e3.trans e4.symm) hne'
        · exact (hd c' hc' c hc).symm
        · exact other (.inl k') a' TQ (fun x=>h5 (Sum.inl.inj x)) c (h2 _ hc) c' hc'
        · exact hd c hc c' hc'
        · exact absurd (e3.trans e4.symm) hne'
        · exact other (.inl k') a' TQ (fun x=>h5 (Sum.inl.inj x)) c (h1 _ hc) c' hc'
        · exact (other (.inl k) a hk2 (fun x=>h3 (Sum.inl.inj x)) c' (h2 _ hc') c hc).symm
        · exact (other (.inl k) a hk2 (fun x=>h3 (Sum.inl.inj x)) c' (h1 _ hc') c hc).symm
        · exact hst.uf (k:=Sum.inl k) (k':=Sum.inl k') hk2 TQ (fun x=>hne' (Sum.inl.inj x)) c hc c' hc'
def Ac (L:Nat→Option iH) (s d:Nat) (e:iH):Nat→Option iH:=fun k=>if k=d then none else if k=s then some e else L k
theorem St.Ac {κ:Type} {B:Base} {h:H} {L:Nat→Option iH} {F:κ→Option iH} {w:World} (hst:St B h (Sum.elim L F) w) {s d:Nat} {e e1 e2:iH} (hL:L s=some e1) (hL2:L d=some e2)
  (hc:∀ c ∈ e.claims,c ∈ e1.claims∨c ∈ e2.claims) (ho:e.ok h (World.mem w)):St B h (Sum.elim (Ac L s d e) F) w:=by
 obtain ⟨hcl1,_⟩:=hst.own (k:=Sum.inl s) hL
 obtain ⟨hcl2,_⟩:=hst.own (k:=Sum.inl d) hL2
 have hval:∀ k e',KB.Ac L s d e k=some e'→(k=s∧e'=e)∨(k≠s∧k≠d∧L k=some e'):=by
  intro k e' hk
  unfold KB.Ac at hk
  split at hk
  ·cases hk
  ·rename_i hkd
   split at hk
   ·rename_i hks;exact .inl ⟨hks,(Option.some.inj hk).symm⟩
   ·rename_i hks;exact .inr ⟨hks,hkd,hk⟩
 refine ⟨hst.low,hst.base,fun x=>hst.ext x,?_,?_⟩
 ·intro k e' hk
  cases k with
  | inr k=>exact hst.own (k:=Sum.inr k) hk
  | inl k =>
   rcases hval k e' hk with ⟨_,rfl⟩ | ⟨_,_,hk⟩
   ·exact ⟨fun c hcc=>(hc c hcc).elim (hcl1 c) (hcl2 c),ho⟩
   ·exact hst.own (k:=Sum.inl k) hk
 ·have other:∀ (k:Nat ⊕ κ) e',Sum.elim L F k=some e'→k≠Sum.inl s→k≠Sum.inl d→∀ c ∈ e.claims,∀ c' ∈ e'.claims,c.1≠c'.1:=by
   intro k e' hk hn1 hn2 c hcc
   rcases hc c hcc with h1 | h1
   ·exact hst.uf (k:=Sum.inl s) hL hk (Ne.symm hn1) c h1
   ·exact hst.uf (k:=Sum.inl d) hL2 hk (Ne.symm hn2) c h1
  intro k k' a a' hk hk' hne c hcc c' JV
  cases k with
  | inr k =>
   cases k' with
   | inr k'=>exact hst.uf (k:=Sum.inr k) (k':=Sum.inr k') hk hk' hne c hcc c' JV
   | inl k' =>
    rcases hval k' a' hk' with ⟨_,rfl⟩ | ⟨h3,_,hk'⟩
    ·exact (other (.inr k) a hk (by simp) (by simp) c' JV c hcc).symm
    ·exact hst.uf (k:=Sum.inr k) (k':=Sum.inl k') hk hk' (by simp) c hcc c' JV
  | inl k =>
   cases k' with
   | inr k' =>
    rcases hval k a hk with ⟨_,rfl⟩ | ⟨h3,_,hk⟩
    ·exact other (.inr k') a' hk' (by simp) (by simp) c hcc c' JV
    ·exact hst.uf (k:=Sum.inl k) (k':=Sum.inr k') hk hk' (by simp) c hcc c' JV
   | inl k' =>
    have hne':k≠k':=fun x=>hne (by rw [x])
    rcases hval k a hk with ⟨e3,rfl⟩ | ⟨h3,h4,hk2⟩ <;> rcases hval k' a' hk' with ⟨e4,rfl⟩ | ⟨h5,h6,TQ⟩
    ·exact absurd (e3.trans e4.symm) hne'
    ·exact other (.inl k') a' TQ (fun x=>h5 (Sum.inl.inj x)) (fun x=>h6 (Sum.inl.inj x)) c hcc c' JV
    ·exact (other (.inl k) a hk2 (fun x=>h3 (Sum.inl.inj x)) (fun x=>h4 (Sum.inl.inj x)) c' JV c hcc).symm
    ·exact hst.uf (k:=Sum.inl k) (k':=Sum.inl k') hk2 TQ (fun x=>hne' (Sum.inl.inj x)) c hcc c' JV
theorem ED {κ:Type} {B:Base} {h:H} {L:Nat→Option iH} {F:κ→Option iH} {w:World} (hst:St B h (Sum.elim L F) w) {s b:Nat} {T:TypeId} {r:Rep α} {x:α} {us:List (Nat×Value×iH)}
  (hk:L s=some (nC b T r x us)):(∃ cs,w.heap[b]? = some (.cells cs.toArray T (0,0))∧r.rel h cs x∧∀ u ∈ us,cs[u.1]? = some u.2.1)∧∀ u ∈ us,u.2.2.ok h (World.mem w):=(hst.own (k:=Sum.inl s) hk).2
theorem wu {T T':TypeId} {r:Rep α} {y:α} {ts:List iY} {s i off:Nat} (hf:cO P T i off) (ho:o.op = .fieldAddr T (.tmp s) i):dR P o N [(s,jI T' r y ts)] (DN s off) []:=by
 intro κ B F L h a w hst hn hk _ next Q hnext _
 obtain ⟨e,_,b,us,hv,_⟩:=hk.1
 unfold Oper.pY
 have hv':a.eval (.tmp s) = .pointer (some ⟨b,0,none⟩):=hv
 have:(execOp a.eval o).run P w = .ok (.value (.pointer (some ⟨b,off,none⟩))) w:=by simp [execOp,ho,hv',hf b 0 w]
 rw [this]
 exact hnext _ h w L (mQ.refl h) ⟨b,hv,rfl⟩ hst mM
theorem eu {T T':TypeId} {r:Rep α} {y:α} {ts:List iY} {s i off:Nat} {sv:Value} {x:Operand} (hf:cO P T i off) (ho:o.op = .fieldAddr T x i) (hx:bW N x (jX sv)):dR P o N [(s,iq (jI T' r y ts) sv)] (xE sv off) []:=by
 intro κ B F L h a w hst hn hk _ next Q hnext _
 obtain ⟨e,_,b,us,hv,_⟩:=hk.1
 have hv':a.eval x = .pointer (some ⟨b,0,none⟩):=(hx h a hn:a.eval x=sv).trans hv
 unfold Oper.pY
 have:(execOp a.eval o).run P w = .ok (.value (.pointer (some ⟨b,off,none⟩))) w:=by simp [execOp,ho,hv',hf b 0 w]
 rw [this]
 exact hnext _ h w L (mQ.refl h) ⟨b,hv,rfl⟩ hst mM
theorem uO {T:TypeId} {i off off':Nat} {sv:Value} {x:Operand} (hf:cO P T i off) (ho:o.op = .fieldAddr T x i) (hx:bW N x (xE sv off')):dR P o N [] (xE sv (off'+off)) [] :=
 dR.rE fun h a w _ q=>by
  obtain ⟨b,hd,hv⟩:=hx h a q
  exact ⟨.pointer (some ⟨b,off'+off,none⟩),by simp [execOp,ho,hv,hf b off' w],b,hd,rfl⟩
theorem bW.off0 {T':TypeId} {r:Rep α} {y:α} {ts:List iY} {sv:Value} {x:Operand} {h:H} {a:Act} {e:iH} (hx:bW N x (jX sv)) (hn:BR N h a) (hk:jI T' r y ts sv e):∃ b,sv = .pointer (some ⟨b,0,none⟩)∧a.eval x = .pointer (some ⟨b,0,none⟩):=by
 obtain ⟨b,us,hv,_⟩:=hk
 exact ⟨b,hv,(hx h a hn:a.eval x=sv).trans hv⟩
theorem GL {T T':TypeId} {r:Rep α} {q:Rep β} {ts:List iY} {s off:Nat} {x:Operand} {y:α} {get:α→β} {set:α→β→α} (l:Lens r q off get set) (t:jT P T q) (W:Wr) (ho:o.op = .load T x) (hx:O8 N x W s off) :
  dR P o N [(s,W.ap (jI T' r y ts))] (fV q (get y)) []:=by
 intro κ B F L h a w hst hn hk _ next Q hnext _
 obtain ⟨b,hd,hv⟩:=hx h a hn
 obtain ⟨e,hL,Zo⟩:=hk.1
 obtain ⟨b',us,hv',_,_,rfl⟩:=Wr.iff.1 Zo
 have hd':W.v a s = .pointer (some ⟨b,0,none⟩):=hd
 rw [hd'] at hv';cases hv'
 obtain ⟨⟨cs,hb,hr,_⟩,_⟩:=ED hst hL
 obtain ⟨c,hc,hrun⟩:=xH t l hb hr
 unfold Oper.pY
 have:(execOp a.eval o).run P w = .ok (.value (pack q.agg c)) w:=by simp [execOp,ho,hv,hrun]
 rw [this]
 exact hnext _ h w L (mQ.refl h) ⟨c,hc,rfl⟩ hst mM
theorem xu {T T':TypeId} {r:Rep α} {q:Rep β} {ts:List iY} {s off:Nat} {x:Operand} {y:α} {get:α→β} {set:α→β→α} (l:Lens r q off get set) (t:jT P T q) (ho:o.op = .load T x) (hx:bW N x (DN s off)) :
  dR P o N [(s,jI T' r y ts)] (fV q (get y)) []:=GL l t .slot ho (.slot hx)
theorem gu {sv:Value} {T T':TypeId} {r:Rep α} {q:Rep β} {ts:List iY} {s off:Nat} {x:Operand} {y:α} {get:α→β} {set:α→β→α} (l:Lens r q off get set) (t:jT P T q) (ho:o.op = .load T x) (hx:bW N x (xE sv off)) :
  dR P o N [(s,iq (jI T' r y ts) sv)] (fV q (get y)) []:=GL l t (.val sv) ho (.val hx)
def O6:Value:=.slice none 0 0
def yD (cs:List Value):List iY→Prop
 | []=>True
 | t :: ts=>cs[t.off]? = some O6∧yD cs ts
def JM (ts:List iY):List (Nat×Value×iH):=ts.map (fun t=>(t.off,O6,Dc))
theorem L6:∀ (ts:List iY),qW ts (JM ts)
 | []=>trivial
 | _ :: ts=>⟨⟨rfl,.inl ⟨none,0,rfl,rfl⟩⟩,L6 ts⟩
theorem LZ {ts:List iY} {u:Nat×Value×iH} (hu:u ∈ JM ts):u.2.2=Dc∧u.2.1=O6:=by
 obtain ⟨t,_,rfl⟩:=List.mem_map.1 hu;exact ⟨rfl,rfl⟩
theorem OZ (b:Nat):∀ (ts:List iY),BoxOk b (JM ts)
 | []=>⟨List.Pairwise.nil,fun u hu=>by cases hu⟩
 | t :: ts=>⟨List.Pairwise.cons (fun l _ c hc=>by cases hc) (OZ b ts).1,fun u hu c hc=>by rw [(LZ hu).1] at hc;cases hc⟩
theorem OY:∀ (ts:List iY),Lc (JM ts)=[]
 | []=>rfl
 | _ :: ts=>OY ts
theorem yD.at {cs:List Value}:∀ {ts:List iY},yD cs ts→∀ u ∈ JM ts,cs[u.1]? = some u.2.1:=by
 intro ts
 induction ts with
 | nil=>intro _ u hu;cases hu
 | cons t ts ih =>
  intro h u hu
  rcases List.mem_cons.1 hu with rfl | hu
  ·exact h.1
  ·exact ih h.2 u hu
def apartB (off sz:Nat) (ts:List iY):Bool:=ts.all (fun t=>Nat.blt t.off off||Nat.ble (off+sz) t.off)
theorem yR {off sz:Nat} {ts:List iY} (h:apartB off sz ts=true):∀ t ∈ ts,t.off<off∨off+sz≤t.off:=by
 intro t ht
 have:=List.all_eq_true.1 h t ht
 simpa [Nat.blt_eq] using this
theorem Me {p c c' q:List Value} {off sz i:Nat} (hp:p.length=off) (hc:c.length=sz) (hc':c'.length=sz) (h:i<off∨off+sz≤i):(p ++ c' ++ q)[i]? = (p ++ c ++ q)[i]?:=by
  rcases h with h | h
  · rw [List.append_assoc,List.append_assoc,List.getElem?_append_left (by omega),List.getElem?_append_left (by omega)]
  · rw [List.getElem?_append_right (by simp; omega), List.getElem?_append_right (by simp; omega)]
    congr 1;simp;omega
theorem TR {h:H} {w w':World} {b:Nat} {us:List (Nat×Value×iH)} (Hz:BoxOk b us) (hw:∀ i,i≠b→w'.heap[i]? = w.heap[i]?) (h2:∀ u ∈ us,u.2.2.ok h (World.mem w)):∀ u ∈ us,u.2.2.ok h (World.mem w') :=
 fun u hu=>u.2.2.frame (fun c hc=>hw c.1 (Hz.2 u hu c hc)) (h2 u hu)
theorem BoxOk.sub {b:Nat} {us VI:List (Nat×Value×iH)} (h:VI.Sublist us) (hb:BoxOk b us):BoxOk b VI :=
 ⟨hb.1.sublist (h.map _),fun u hu=>hb.2 u (h.subset hu)⟩
theorem O9 {us VI:List (Nat×Value×iH)} (h:VI.Sublist us):∀ c ∈ Lc VI,c ∈ Lc us:=by
 intro c hc
 obtain ⟨u,hu,Yp⟩:=List.mem_flatMap.1 hc
 exact List.mem_flatMap.2 ⟨u,h.subset hu,Yp⟩
theorem Aa {T T':TypeId} {r:Rep α} {q:Rep β} {off:Nat} {y:α} {z:β} {get:α→β} {set:α→β→α} (l:Lens r q off get set) (t:jT P T q) {κ:Type} {B:Base} {F:κ→Option iH} {L:Nat→Option iH} {h:H} {w:World} {s b:Nat} {us VI:List (Nat×Value×iH)}
  (hst:St B h (Sum.elim L F) w) (hL:L s=some (nC b T' r y us)) (Hz:BoxOk b us) (hsub:VI.Sublist us) (hap:∀ u ∈ VI,u.1<off∨off+q.sz≤u.1) {c':List Value} (hc':q.rel h c' z) :
  ∃ p c q':List Value,p.length=off∧(Instr.storeAt T (.pointer (some ⟨b,off,none⟩)) (pack q.agg c')).run P w = .ok () (w.setRow b (p ++ c' ++ q').toArray)∧c.length=q.sz ∧
   (w.setRow b (p ++ c' ++ q').toArray).heap[b]? = some (.cells (p ++ c' ++ q').toArray T' (0,0))∧r.rel h (p ++ c' ++ q') (set y z)∧(∀ u ∈ VI,(p ++ c' ++ q')[u.1]? = some u.2.1) ∧
   St B h (Sum.elim (set1 L s (nC b T' r (set y z) VI)) F) (w.setRow b (p ++ c' ++ q').toArray):=by
 obtain ⟨⟨cs,hb,hr,hu1⟩,hu2⟩:=ED hst hL
 obtain ⟨p,c,q',rfl,hp,hc,hset⟩:=l h cs y hr
 have hrun:=vw t hc' hb (q.len hc)
 rw [hp] at hrun
 have hmem:=wY w b _ (p ++ c' ++ q').toArray T' hb
 have hrel:=hset h c' z (mQ.refl h) hc'
 have hget:∀ u ∈ VI,(p ++ c' ++ q')[u.1]? = some u.2.1:=fun u hu=>by
  rw [Me hp (q.len hc) (q.len hc') (hap u hu)];exact hu1 u (hsub.subset hu)
 obtain ⟨hcl,_⟩:=hst.own (k:=Sum.inl s) hL
 have hno:=(hcl (b,0) (by simp [nC])).2.2
 refine ⟨p,c,q',hp,hrun,q.len hc,hmem,hrel,hget,?_⟩
 refine hst.write (Sum.inl s) (e:=nC b T' r y us) hL (b:=b) (lo:=0) (by simp [nC]) hmem (fun i hi=>setRow_other w b i _ hi) (by simp [World.setRow]) rfl rfl rfl ?_ sN ?_
 ·intro o' v hh;rw [hno o' (Nat.zero_le _)] at hh;cases hh
 ·intro e' he
  rw [sO he]
  refine ⟨fun c hc=>?_,⟨_,hmem,hrel,hget⟩,TR (Hz.sub hsub) (fun i hi=>setRow_other w b i _ hi) (fun u hu=>hu2 u (hsub.subset hu))⟩
  rcases List.mem_cons.1 hc with rfl | hc
  ·exact List.mem_cons_self
  ·exact List.mem_cons_of_mem _ (O9 hsub c hc)
theorem QS {T T':TypeId} {r:Rep α} {q:Rep β} {ts:List iY} {s off:Nat} {x v:Operand} {y:α} {z:β} {get:α→β} {set:α→β→α} {y':α} (l:Lens r q off get set) (t:jT P T q) (hap:apartB off q.sz ts=true) (hd:o.dst=none)
  (W:Wr) (ho:o.op = .store T x v) (hx:O8 N x W s off) (hv:bW N v (fV q z)) (hy':y'=set y z):dR P o N [(s,W.ap (jI T' r y ts))] aZ.rf [(s,some (W.ap (jI T' r y' ts)))]:=by
 subst hy'
 intro κ B F L h a w hst hn hk _ next Q hnext _
 obtain ⟨b,hdv,hxv⟩:=hx h a hn
 obtain ⟨e,hL,Zo⟩:=hk.1
 obtain ⟨b',us,hv',hta,Hz,rfl⟩:=Wr.iff.1 Zo
 have hd':W.v a s = .pointer (some ⟨b,0,none⟩):=hdv
 rw [hd'] at hv';cases hv'
 obtain ⟨c',hc',hvv⟩:=hv h a hn
 obtain ⟨p,c,q',hp,hrun,_,_,_,_,hst'⟩:=Aa l t hst hL Hz (List.Sublist.refl us) (fun u hu=>by
  obtain ⟨t,ht,e⟩:=hta.XE u hu;rw [e];exact yR hap t ht) hc'
 unfold Oper.pY
 have:(execOp a.eval o).run P w = .ok .skip (w.setRow b (p ++ c' ++ q').toArray):=by
  simp only [execOp,ho,hxv,hvv,Sem.run_bind,hrun,Result.andThen_ok,Sem.run_pure]
 rw [this]
 refine hnext undef h _ _ (mQ.refl h) trivial hst' ?_
 rw [hd]
 exact nO (Wr.iff.2 ⟨b,us,hd',hta,Hz,rfl⟩)
theorem Qo {sv:Value} {T T':TypeId} {r:Rep α} {q:Rep β} {ts:List iY} {s off:Nat} {x v:Operand} {y:α} {z:β} {get:α→β} {set:α→β→α} {y':α} (l:Lens r q off get set) (t:jT P T q) (hap:apartB off q.sz ts=true) (hd:o.dst=none)
  (ho:o.op = .store T x v) (hx:bW N x (xE sv off)) (hv:bW N v (fV q z)) (hy':y'=set y z):dR P o N [(s,iq (jI T' r y ts) sv)] aZ.rf [(s,some (iq (jI T' r y' ts) sv))]:=QS l t hap hd (.val sv) ho (.val hx) hv hy'
theorem CG {T T':TypeId} {r:Rep α} {s:Nat} {sv:Value} {x v:Operand} {y z:α} (t:jT P T r) (hd:o.dst=none) (ho:o.op = .store T x v) (hx:bW N x (jX sv)) (hv:bW N v (fV r z)) :
  dR P o N [(s,iq (jI T' r y []) sv)] aZ.rf [(s,some (iq (jI T' r z []) sv))]:=by
 intro κ B F L h a w hst hn hk hdn next Q hnext _
 obtain ⟨e,hL,hq⟩:=hk.1
 obtain ⟨b,h1,h2⟩:=hx.off0 hn hq
 obtain ⟨b',us,hv',hta,Hz,rfl⟩:=hq
 rw [h1] at hv';cases hv'
 obtain ⟨c',hc',hvv⟩:=hv h a hn
 obtain ⟨p,c,q',hp,hrun,_,_,_,_,hst'⟩:=Aa (Lens.refl r) t hst hL Hz (List.nil_sublist us) (fun u hu=>by cases hu) hc'
 unfold Oper.pY
 have:(execOp a.eval o).run P w = .ok .skip (w.setRow b (p ++ c' ++ q').toArray):=by
  simp only [execOp,ho,h2,hvv,Sem.run_bind,hrun,Result.andThen_ok,Sem.run_pure]
 rw [this]
 refine hnext undef h _ _ (mQ.refl h) trivial hst' ?_
 rw [hd]
 exact nO ⟨b,[],h1,trivial,⟨List.Pairwise.nil,fun u hu=>by cases hu⟩,rfl⟩
theorem BoxOk.nil {b off:Nat} {Ee Fg:List (Nat×Value×iH)} (h:BoxOk b (Ee ++ Fg)):BoxOk b (Ee ++ (off,O6,Dc) :: Fg):=by
 obtain ⟨h1,h2⟩:=h
 constructor
 ·rw [List.map_append,List.pairwise_append] at h1 ⊢
  obtain ⟨k1,k2,k3⟩:=h1
  refine ⟨k1,List.Pairwise.cons (fun l _ c hc=>by cases hc) k2,fun x hx y hy=>?_⟩
  rcases List.mem_cons.1 hy with rfl | hy
  ·intro c _ c' hc';cases hc'
  ·exact k3 x hx y hy
 ·intro u hu c hc
  rcases List.mem_append.1 hu with hu | hu
  ·exact h2 u (List.mem_append_left _ hu) c hc
  ·rcases List.mem_cons.1 hu with rfl | hu
   ·cases hc
   ·exact h2 u (List.mem_append_right _ hu) c hc
theorem VJ {L:Nat→Option iH} {s d:Nat} {e1 e2:iH} {q1 q2:dU} {a:Act} (hsd:s≠d) (h1:q1 (a.gt s) e1) (h2:q2 (a.gt d) e2):Ec L (set1 (set1 L s e1) d e2) (full [(s,some q1),(d,some q2)] (some d)) a:=by
  intro k
  have VK:Nat.beq s d=false:=by rw [Bool.eq_false_iff,Ne,iP];exact hsd
  by_cases hk:k=d
  · subst hk
    have:qx (full [(s,some q1),(k,some q2)] (some k)) k=some (some q2):=by simp [full,qx,VK,Nat.beq_refl]
    rw [this];exact ⟨e2,by simp [set1],h2⟩
  · have h3 : Nat.beq d k = false := by rw [Bool.eq_false_iff, Ne, iP]; exact fun x => hk x.symm
    by_cases hk2:k=s
    · subst hk2
      have:qx (full [(k,some q1),(d,some q2)] (some d)) k=some (some q1):=by simp [full,qx,Nat.beq_refl]
      rw [this];exact ⟨e1,by simp [set1,hk],h1⟩
    · have h4 : Nat.beq s k = false := by rw [Bool.eq_false_iff, Ne, iP]; exact fun x => hk2 x.symm
      have:qx (full [(s,some q1),(d,some q2)] (some d)) k=none:=by simp [full,qx,h3,h4]
      rw [this];simp [set1,hk,hk2]
theorem Pg {T T' E:TypeId} {r:Rep α} {q:Rep β} {l1 l2:List iY} {s d off sz:Nat} {x:Operand} {y:α} {get:α→List β} {set:α→List β→α} (l:Lens r (Rep.slice q) off get set) (t:jT P T (Rep.slice q)) (hsd:Nat.beq s d=false) (hd:o.dst=some d) (W:Wr) (ho:o.op = .load T x) (hx:O8 N x W s off) :
  dR P o N [(s,W.ap (jI T' r y (l1 ++ ⟨off,E,sz⟩ :: l2)))] (fV (Rep.slice q) (get y)) [(s,some (W.ap (jI T' r y (l1 ++ l2)))),(d,some (eU E sz))]:=by
 have hne:s≠d:=fun x=>by rw [iP.2 x] at hsd;cases hsd
 intro κ B F L h a w hst hn hk hdn next Q hnext _
 obtain ⟨b,hdv,hv⟩:=hx h a hn
 obtain ⟨e,hL,Zo⟩:=hk.1
 obtain ⟨b',us,hv',hta,Hz,rfl⟩:=Wr.iff.1 Zo
 have hd':W.v a s = .pointer (some ⟨b,0,none⟩):=hdv
 rw [hd'] at hv';cases hv'
 obtain ⟨Ee,u0,Fg,rfl,hoff,htip,h3,h4⟩:=hta.mid
 simp only [] at hoff htip
 have hsub:(Ee ++ Fg).Sublist (Ee ++ u0 :: Fg):=(List.Sublist.refl Ee).append (List.sublist_cons_self _ _)
 obtain ⟨⟨cs,hb,hr,hu1⟩,hu2⟩:=ED hst hL
 have hm0:u0 ∈ Ee ++ u0 :: Fg:=List.mem_append_right _ List.mem_cons_self
 obtain ⟨p,c,q',rfl,hp,hc,_⟩:=l h cs y hr
 have hcl:=(Rep.slice q).len hc
 obtain ⟨c0,rfl,hc0⟩:=hc
 have hcv:c0=u0.2.1:=by
  have:=hu1 u0 hm0
  rw [hoff,List.append_assoc,List.getElem?_append_right (by omega),hp] at this
  simpa using this
 have hrun:=vX (b:=b) (off:=off) (w:=w) t hcl (fun j v hj=>by
  rw [vk _ _ _ _ _ _ hb]
  have hjl:=(List.getElem?_eq_some_iff.1 hj).1
  simp only [List.getElem?_toArray]
  rw [List.append_assoc,List.getElem?_append_right (by omega),← hp,Nat.add_sub_cancel_left,List.getElem?_append_left hjl];exact hj)
 unfold Oper.pY
 have:(execOp a.eval o).run P w = .ok (.value c0) w:=by
  have hrun':(Instr.loadAt T (.pointer (some ⟨b,off,none⟩))).run P w = .ok c0 w:=hrun
  simp [execOp,ho,hv,hrun']
 rw [this]
 have hpw:=Hz.1
 rw [List.map_append,List.pairwise_append] at hpw
 obtain ⟨_,k2,k3⟩:=hpw
 have k4:=List.pairwise_cons.1 k2
 have hdis:FW ((b,0) :: Lc (Ee ++ Fg)) u0.2.2.claims:=by
  intro c hc c' hc'
  rcases List.mem_cons.1 hc with rfl | hc
  ·exact (Hz.2 u0 hm0 c' hc').symm
  ·obtain ⟨u,hu,Yp⟩:=List.mem_flatMap.1 hc
   rcases List.mem_append.1 hu with hu | hu
   ·exact k3 _ (List.mem_map.2 ⟨u,hu,rfl⟩) _ (List.mem_cons_self) c Yp c' hc'
   ·exact (k4.1 _ (List.mem_map.2 ⟨u,hu,rfl⟩) c' hc' c Yp).symm
 have hst':=hst.split2 (d:=d) (e1:=nC b T' r y (Ee ++ Fg)) (e2:=u0.2.2) hL hne (fun c hc=>by
   rcases List.mem_cons.1 hc with rfl | hc
   ·exact List.mem_cons_self
   ·exact List.mem_cons_of_mem _ (O9 hsub c hc)) (fun c hc=>List.mem_cons_of_mem _ (List.mem_flatMap.2 ⟨u0,hm0,hc⟩)) hdis
  ⟨⟨_,hb,hr,fun u hu=>hu1 u (hsub.subset hu)⟩,fun u hu=>hu2 u (hsub.subset hu)⟩ (hu2 u0 hm0)
 refine hnext _ h w _ (mQ.refl h) (mP.2 hc0) hst' ?_
 rw [hd]
 exact VJ hne (Wr.iff.2 (by rw [Wr.v_put hne];exact ⟨b,_,hd',h4.app h3,Hz.sub hsub,rfl⟩)) (by rw [iF (hdn d hd),hcv];exact htip)
theorem Ov {sv:Value} {T T' E:TypeId} {r:Rep α} {q:Rep β} {l1 l2:List iY} {s d off sz:Nat} {x:Operand} {y:α} {get:α→List β} {set:α→List β→α} (l:Lens r (Rep.slice q) off get set) (t:jT P T (Rep.slice q)) (hsd:Nat.beq s d=false) (hd:o.dst=some d) (ho:o.op = .load T x) (hx:bW N x (xE sv off)) :
  dR P o N [(s,iq (jI T' r y (l1 ++ ⟨off,E,sz⟩ :: l2)) sv)] (fV (Rep.slice q) (get y)) [(s,some (iq (jI T' r y (l1 ++ l2)) sv)),(d,some (eU E sz))]:=Pg l t hsd hd (.val sv) ho (.val hx)
theorem L8 {L:Nat→Option iH} {s d:Nat} {e:iH} {q:dU} {a:Act} (hsd:s≠d) (hq:q (a.gt s) e):Ec L (Ac L s d e) (full [(s,some q),(d,none)] none) a:=by
  intro k
  by_cases hk:k=s
  · subst hk
    have:qx (full [(k,some q),(d,none)] none) k=some (some q):=by simp [full,qx,Nat.beq_refl]
    rw [this];exact ⟨e,by simp [Ac,hsd],hq⟩
  · have h4 : Nat.beq s k = false := by rw [Bool.eq_false_iff, Ne, iP]; exact fun x => hk x.symm
    by_cases hk2:k=d
    · subst hk2
      have:qx (full [(s,some q),(k,none)] none) k=some none:=by simp [full,qx,h4,Nat.beq_refl]
      rw [this];trivial
    · have h3 : Nat.beq d k = false := by rw [Bool.eq_false_iff, Ne, iP]; exact fun x => hk2 x.symm
      have:qx (full [(s,some q),(d,none)] none) k=none:=by simp [full,qx,h3,h4]
      rw [this];simp [Ac,hk,hk2]
theorem NG {T T' E:TypeId} {r:Rep α} {q:Rep β} {l1 l2:List iY} {s d off sz:Nat} {x:Operand} {y:α} {zs:List β} {get:α→List β} {set:α→List β→α} {y':α} (l:Lens r (Rep.slice q) off get set) (t:jT P T (Rep.slice q)) (hap:apartB off 1 (l1 ++ l2)=true) (hsd:Nat.beq s d=false) (hd:o.dst=none)
  (W:Wr) (ho:o.op = .store T x (.tmp d)) (hx:O8 N x W s off) (hv:bW N (.tmp d) (fV (Rep.slice q) zs)) (hy':y'=set y zs):dR P o N [(s,W.ap (jI T' r y (l1 ++ l2))),(d,eU E sz)] aZ.rf [(s,some (W.ap (jI T' r y' (l1 ++ ⟨off,E,sz⟩ :: l2)))),(d,none)]:=by
 subst hy'
 have hne:s≠d:=fun x=>by rw [iP.2 x] at hsd;cases hsd
 intro κ B F L h a w hst hn hk _ next Q hnext _
 obtain ⟨b,hdv,hxv⟩:=hx h a hn
 obtain ⟨e,hL,Zo⟩:=hk.1
 obtain ⟨b',us,hv',hta,Hz,rfl⟩:=Wr.iff.1 Zo
 obtain ⟨et,hLt,htip⟩:=hk.2.1
 have hLt:L d=some et:=hLt
 have htip:eU E sz (a.gt d) et:=htip
 have hd':W.v a s = .pointer (some ⟨b,0,none⟩):=hdv
 rw [hd'] at hv';cases hv'
 obtain ⟨c',hc',hvv⟩:=hv h a hn
 have hvd:a.gt d=pack (Rep.slice q).agg c':=hvv
 obtain ⟨p,c,q',hp,hrun,hcl,hmem,hrel,hget,hst'⟩:=Aa l t hst hL Hz (List.Sublist.refl us) (fun u hu=>by
  obtain ⟨t,ht,e⟩:=hta.XE u hu;rw [e];exact yR hap t ht) hc'
 obtain ⟨c0,rfl,hc0⟩:=hc'
 have hvd:a.gt d=c0:=hvd
 unfold Oper.pY
 have:(execOp a.eval o).run P w = .ok .skip (w.setRow b (p ++ [c0] ++ q').toArray):=by
  simp only [execOp,ho,hxv,hvv,Sem.run_bind,hrun,Result.andThen_ok,Sem.run_pure]
 rw [this]
 obtain ⟨Ee,Fg,rfl,h3,h4⟩:=hta.cut
 have hta':qW (l1 ++ ⟨off,E,sz⟩ :: l2) (Ee ++ (off,c0,et) :: Fg):=qW.app (l2:=⟨off,E,sz⟩ :: l2) (Fg:=(off,c0,et) :: Fg) ⟨⟨rfl,by rw [← hvd];exact htip⟩,h4⟩ h3
 have hLd':set1 L s (nC b T' r (set y zs) (Ee ++ Fg)) d=some et:=by simp [set1,Ne.symm hne,hLt]
 have hdj:FW ((b,0) :: Lc (Ee ++ Fg)) et.claims:=hst.uf (k:=Sum.inl s) (k':=Sum.inl d) hL hLt (fun x=>hne (Sum.inl.inj x))
 have hbo':BoxOk b (Ee ++ (off,c0,et) :: Fg):=by
  obtain ⟨g1,g2⟩:=Hz
  constructor
  ·rw [List.map_append,List.pairwise_append] at g1 ⊢
   obtain ⟨k1,k2,k3⟩:=g1
   refine ⟨k1,List.Pairwise.cons (fun l hl c hc c' hc'=>?_) k2,fun x hx y hy=>?_⟩
   ·obtain ⟨u,hu,rfl⟩:=List.mem_map.1 hl
    exact (hdj c' (List.mem_cons_of_mem _ (List.mem_flatMap.2 ⟨u,List.mem_append_right _ hu,hc'⟩)) c hc).symm
   ·rcases List.mem_cons.1 hy with rfl | hy
    ·intro c hc c' hc'
     obtain ⟨u,hu,rfl⟩:=List.mem_map.1 hx
     exact hdj c (List.mem_cons_of_mem _ (List.mem_flatMap.2 ⟨u,List.mem_append_left _ hu,hc⟩)) c' hc'
    ·exact k3 x hx y hy
  ·intro u hu c hc
   rcases List.mem_append.1 hu with hu | hu
   ·exact g2 u (List.mem_append_left _ hu) c hc
   ·rcases List.mem_cons.1 hu with rfl | hu
    ·exact (hdj (b,0) List.mem_cons_self c hc).symm
    ·exact g2 u (List.mem_append_right _ hu) c hc
 obtain ⟨_,hu2⟩:=ED hst' qU
 have hokt:et.ok h (World.mem (w.setRow b (p ++ [c0] ++ q').toArray)):=(hst'.own (k:=Sum.inl d) hLd').2
 have hj:=hst'.Ac (e:=nC b T' r (set y zs) (Ee ++ (off,c0,et) :: Fg)) qU hLd' (fun c hc=>by
  rcases List.mem_cons.1 hc with rfl | hc
  ·exact .inl List.mem_cons_self
  ·obtain ⟨u,hu,Yp⟩:=List.mem_flatMap.1 hc
   rcases List.mem_append.1 hu with hu | hu
   ·exact .inl (List.mem_cons_of_mem _ (List.mem_flatMap.2 ⟨u,List.mem_append_left _ hu,Yp⟩))
   ·rcases List.mem_cons.1 hu with rfl | hu
    ·exact .inr Yp
    ·exact .inl (List.mem_cons_of_mem _ (List.mem_flatMap.2 ⟨u,List.mem_append_right _ hu,Yp⟩))) ⟨⟨_,hmem,hrel,fun u hu=>by
   rcases List.mem_append.1 hu with hu | hu
   ·exact hget u (List.mem_append_left _ hu)
   ·rcases List.mem_cons.1 hu with rfl | hu
    ·simp only []
     rw [List.append_assoc,List.getElem?_append_right (by omega),hp];simp
    ·exact hget u (List.mem_append_right _ hu)⟩,fun u hu=>by
   rcases List.mem_append.1 hu with hu | hu
   ·exact hu2 u (List.mem_append_left _ hu)
   ·rcases List.mem_cons.1 hu with rfl | hu
    ·exact hokt
    ·exact hu2 u (List.mem_append_right _ hu)⟩
 have hL':Ac (set1 L s (nC b T' r (set y zs) (Ee ++ Fg))) s d (nC b T' r (set y zs) (Ee ++ (off,c0,et) :: Fg))=Ac L s d (nC b T' r (set y zs) (Ee ++ (off,c0,et) :: Fg)):=by
  funext k;unfold Ac set1
  by_cases h1:k=d
  ·rw [if_pos h1,if_pos h1]
  ·rw [if_neg h1,if_neg h1]
   by_cases h2:k=s
   ·rw [if_pos h2,if_pos h2]
   ·rw [if_neg h2,if_neg h2,if_neg h2]
 rw [hL'] at hj
 refine hnext undef h _ _ (mQ.refl h) trivial hj ?_
 rw [hd]
 exact L8 hne (Wr.iff.2 ⟨b,_,hd',hta',hbo',rfl⟩)
theorem MX {sv:Value} {T T' E:TypeId} {r:Rep α} {q:Rep β} {l1 l2:List iY} {s d off sz:Nat} {x:Operand} {y:α} {zs:List β} {get:α→List β} {set:α→List β→α} {y':α} (l:Lens r (Rep.slice q) off get set) (t:jT P T (Rep.slice q)) (hap:apartB off 1 (l1 ++ l2)=true) (hsd:Nat.beq s d=false) (hd:o.dst=none)
  (ho:o.op = .store T x (.tmp d)) (hx:bW N x (xE sv off)) (hv:bW N (.tmp d) (fV (Rep.slice q) zs)) (hy':y'=set y zs):dR P o N [(s,iq (jI T' r y (l1 ++ l2)) sv),(d,eU E sz)] aZ.rf [(s,some (iq (jI T' r y' (l1 ++ ⟨off,E,sz⟩ :: l2)) sv)),(d,none)]:=NG l t hap hsd hd (.val sv) ho (.val hx) hv hy'
end Go.KB
namespace Go.KB
variable {P:Program} {o:Oper} {N:List (Nat×aZ)} {f:aZ} {α β:Type}
def zY (P:Program) (T:TypeId) (i:Nat):Option (TypeId×Nat) :=
 match P.underlying T with
 | some (.struct fs)=>match fs[i]? with
  | some g=>some (g.type,g.offset)
  | none=>none
 | _=>none
theorem JW {T':TypeId} {q:Rep β} (t:jT P T' q) {h:H} {p c r:List Value} {y:β} (hc:q.rel h c y) (w:World):(part T' (p ++ c ++ r).toArray p.length).run P w = .ok (pack q.agg c) w:=by
 have hl:=q.len hc
 unfold part
 cases ha:q.agg with
 | true =>
  simp only [Sem.run_bind,t.agg,ha,Result.andThen_ok,if_true,t.size,Sem.run_pure,pack,cond_true]
  congr 2
  simp only [List.extract_toArray,List.extract_eq_take_drop]
  congr 1
  rw [List.append_assoc,List.drop_left' rfl,show p.length+q.sz - p.length=c.length by omega,List.take_left' rfl]
 | false =>
  rw [q.one ha] at hl
  match c,hl with
  | [v],_ =>
   have:(p ++ [v] ++ r).toArray[p.length]? = some v:=by simp
   simp only [Sem.run_bind,t.agg,ha,Result.andThen_ok,Bool.false_eq_true,if_false,this,Sem.run_pure,pack,cond_false]
theorem Hq {T T':TypeId} {r:Rep α} {q:Rep β} {x:Operand} {y:α} {i off:Nat} {get:α→β} {set:α→β→α} (l:Lens r q off get set) (hag:r.agg=true) (hf:zY P T i=some (T',off)) (t:jT P T' q) (ho:o.op = .field T x i) (hx:bW N x (fV r y)) :
  dR P o N [] (fV q (get y)) [] :=
 dR.rE fun h a w _ n=>by
  unfold zY at hf
  split at hf
  ·rename_i fs hT
   split at hf
   ·rename_i g hg
    simp only [Option.some.injEq,Prod.mk.injEq] at hf
    obtain ⟨h1,h2⟩:=hf
    obtain ⟨cs,hr,hv⟩:=hx h a n
    obtain ⟨p,c,q',rfl,hp,hc,_⟩:=l h cs y hr
    rw [hag] at hv
    refine ⟨pack q.agg c,?_,c,hc,rfl⟩
    have:=JW t (p:=p) (r:=q') hc w
    rw [List.append_assoc] at this
    simp [execOp,ho,hv,pack,Instr.field,run_underlying hT,hg,asAgg,h1,h2,← hp,this]
   ·cases hf
  ·cases hf
def fVN (r:Rep α) (x:α) (ts:List iY):aZ:=⟨none,fun h _ v=>∃ cs,r.rel h cs x∧v=pack r.agg cs∧yD cs ts,fun hl ⟨cs,k,e,n⟩=>⟨cs,r.mono hl k,e,n⟩⟩
theorem yD.apart {p c c' q:List Value} {off sz:Nat} (hp:p.length=off) (hc:c.length=sz) (hc':c'.length=sz):∀ {ts:List iY},apartB off sz ts=true→yD (p ++ c ++ q) ts→yD (p ++ c' ++ q) ts:=by
 intro ts
 induction ts with
 | nil=>intro _ _;trivial
 | cons t ts ih =>
  intro ha hn
  have h1:=yR ha t List.mem_cons_self
  refine ⟨by rw [Me hp hc hc' h1];exact hn.1,ih ?_ hn.2⟩
  unfold apartB at ha ⊢
  rw [List.all_cons,Bool.and_eq_true] at ha
  exact ha.2
def JX (P:Program) (N:List (Nat×aZ)) (place:Nat→Option (Nat×Nat)) {α:Type} (r:Rep α) (ts:List iY):List (Nat×Operand)→α→α→Prop
 | [],x,y=>x=y
 | (i,o) :: rest,x,y=>∃ (β:Type) (s:Rep β) (off:Nat) (get:α→β) (set:α→β→α) (z:β),Lens r s off get set∧place i=some (off,s.sz)∧apartB off s.sz ts=true∧bW N o (fV s z)∧JX P N place r ts rest (set x z) y
theorem YS {place:Nat→Option (Nat×Nat)} {r:Rep α} {ts:List iY} {x:α}:JX P N place r ts [] x x:=rfl
theorem Na {place:Nat→Option (Nat×Nat)} {r:Rep α} {ts:List iY} {s:Rep β} {off i:Nat} {x':Operand} {get:α→β} {set:α→β→α} {z:β} {rest:List (Nat×Operand)} {x y:α} (l:Lens r s off get set) (hp:place i=some (off,s.sz)) (ha:apartB off s.sz ts=true) (ho:bW N x' (fV s z))
  (k:JX P N place r ts rest (set x z) y):JX P N place r ts ((i,x') :: rest) x y:=⟨β,s,off,get,set,z,l,hp,ha,ho,k⟩
theorem JX.run {place:Nat→Option (Nat×Nat)} {r:Rep α} {ts:List iY} {h:H} {a:Act} (n:BR N h a):∀ {parts:List (Nat×Operand)} {x y:α} {cs:List Value},JX P N place r ts parts x y→r.rel h cs x→yD cs ts →
  ∃ cs',Instr.fill place cs.toArray (parts.map fun q=>(q.1,a.eval q.2))=some cs'.toArray∧r.rel h cs' y∧yD cs' ts:=by
 intro parts
 induction parts with
 | nil=>intro x y cs k hr ht;rw [show x=y from k] at hr;exact ⟨cs,rfl,hr,ht⟩
 | cons q rest ih =>
  obtain ⟨i,op⟩:=q
  rintro x y cs ⟨β,s,off,get,set,z,l,hp,ha,ho,k⟩ hr ht
  obtain ⟨p,c,q,rfl,hpl,hc,hset⟩:=l h cs x hr
  obtain ⟨c',hc',hv⟩:=ho h a n
  simp only [List.map_cons]
  rw [MB hc' hv hp hpl (s.len hc)]
  exact ih k (hset h c' z (mQ.refl h) hc') (ht.apart hpl (s.len hc) (s.len hc') ha)
theorem Tv {T:TypeId} {r:Rep α} {place:Nat→Option (Nat×Nat)} {parts:Array (Nat×Operand)} {y:α} (ts:List iY) (t:jT P T r) (hag:r.agg=true) (hpl:jV P T place) (ho:o.op = .build T parts)
  (hz:yD r.zc ts) (k:JX P N place r ts parts.toList r.zero y):dR P o N [] (fVN r y ts) [] :=
 dR.rE fun h a w _ n=>by
  obtain ⟨cs',hf,hr,ht⟩:=k.run n (r.wB h) hz
  refine ⟨.agg cs'.toArray,?_,cs',hr,by rw [hag];rfl,ht⟩
  have h1:=hpl r.zc.toArray (parts.map fun q=>(q.1,a.eval q.2)) w cs'.toArray _ (t.zero w) (tC (r.wB h)) (by rw [Array.toList_map];exact hf)
  simp only [execOp,ho,Sem.run_bind,h1,Result.andThen_ok,Sem.run_pure]
end Go.KB
namespace Go.KB
variable {P:Program} {o:Oper} {N:List (Nat×aZ)} {α β:Type}
section
variable [DecidableEq α]
def iC (z:β):List (α×β)→α→β
 | [],_=>z
 | p :: r,x=>bif decide (x=p.1) then p.2 else iC z r x
def mr:List (α×β)→α→Bool
 | [],_=>false
 | p :: r,x=>decide (x=p.1)||mr r x
def pI:List (α×β)→α→β→List (α×β)
 | [],x,y=>[(x,y)]
 | p :: r,x,y=>bif decide (x=p.1) then (p.1,y) :: r else p :: pI r x y
structure yQ (P:Program) (K:TypeId) (rk:Rep α) (f:α→Value):Prop where
 is:∀ {h u x},rk.val h u x→u=f x
 chk:∀ (e:Bool) (w:World) (x:α),(Instr.checkKey e 10000 K (f x)).run P w = .ok () w
 now:∃ d,P.underlying K=some d∧∀ x y,Instr.sameNow d (f x) (f y)=some (decide (x=y))
 bits:∀ x,Instr.sameBits 10000 (f x) (f x)=true
 val:∀ h x,rk.val h (f x) x
def dK (s:Str):Value:=.string ⟨s.toArray⟩
theorem yQ.str {K:TypeId} (hK:P.underlying K=some .string):yQ P K Rep.str dK where
 is:=fun e=>zG.1 e
 chk:=fun e w x=>MapKept.run_checkKey hK (by trivial) e 9999
 now:=⟨_,hK,fun x y=>by
  simp only [Instr.sameNow,dK]
  congr 1
  rw [Bool.eq_iff_iff,MapKept.bytes_beq]
  simp⟩
 bits:=fun x=>(MapKept.bytes_beq _ _).2 rfl
 val:=fun _ _=>zG.2 rfl
def Zp (k:IntKind) (n:Int):Value:=.int k n
theorem yQ.int {K:TypeId} {k:IntKind} (hK:P.underlying K=some (.int k)):yQ P K (Rep.int k) (Zp k) where
 is:=fun e=>jW.1 e
 chk:=fun e w x=>MapKept.run_checkKey hK (by trivial) e 9999
 now:=⟨_,hK,fun x y=>by
  simp only [Instr.sameNow,Zp,if_true]
  congr 1⟩
 bits:=fun x=>by simp [Instr.sameBits,Zp]
 val:=fun _ _=>jW.2 rfl
end
def yu (f:α→Value) (rv:Rep β) (h:H):List MapEntry→List (α×β)→Prop
 | [],[]=>True
 | e :: es,p :: l=>(e.key=f p.1∧rv.val h e.val p.2)∧yu f rv h es l
 | _,_=>False
theorem yu.mono {f:α→Value} {rv:Rep β} {h h':H} (hl:mQ h h'):∀ {es:List MapEntry} {l:List (α×β)},yu f rv h es l→yu f rv h' es l
 | [],[],_=>trivial
 | _ :: _,_ :: _,⟨⟨a,b⟩,c⟩=>⟨⟨a,rv.JR hl b⟩,yu.mono hl c⟩
theorem yu.snoc {f:α→Value} {rv:Rep β} {h:H} {e:MapEntry} {p:α×β} (he:e.key=f p.1∧rv.val h e.val p.2):∀ {es:List MapEntry} {l:List (α×β)},yu f rv h es l→yu f rv h (es ++ [e]) (l ++ [p])
 | [],[],_=>⟨he,trivial⟩
 | _ :: _,_ :: _,⟨a,c⟩=>⟨a,yu.snoc he c⟩
def wJ (es:List MapEntry) (c:Nat):Prop:=(es.map (·.born)).Nodup∧∀ e ∈ es,e.born<c
theorem wJ.push {es:List MapEntry} {c:Nat} {k v:Value} (h:wJ es c):wJ (es ++ [{ key:=k,val:=v,born:=c }]) (c+1):=by
 refine ⟨?_,fun e he=>?_⟩
 ·rw [List.map_append,List.nodup_append]
  refine ⟨h.1,by simp,fun a ha b hb=>?_⟩
  obtain ⟨e,he,rfl⟩:=List.mem_map.1 ha
  simp only [List.map_cons,List.map_nil,List.mem_singleton] at hb
  have:=h.2 e he
  omega
 ·rcases List.mem_append.1 he with he | he
  ·have:=h.2 e he;omega
  ·simp only [List.mem_singleton] at he;subst he;exact Nat.lt_succ_self _
theorem wJ.modify {es:List MapEntry} {c j:Nat} {g:MapEntry→MapEntry} (hg:∀ e,(g e).born=e.born) (h:wJ es c):wJ (es.modify j g) c:=by
 have hm:(es.modify j g).map (·.born)=es.map (·.born):=by
  refine List.ext_getElem? fun m=>?_
  simp only [List.getElem?_map,List.getElem?_modify]
  cases es[m]? with
  | none=>rfl
  | some e=>simp only [Option.map_some];split <;> simp [hg]
 refine ⟨by rw [hm];exact h.1,fun e he=>?_⟩
 have:e.born ∈ (es.modify j g).map (·.born):=List.mem_map.2 ⟨e,he,rfl⟩
 rw [hm] at this
 obtain ⟨e',he',hb⟩:=List.mem_map.1 this
 rw [← hb];exact h.2 e' he'
theorem wJ.eraseIdx {es:List MapEntry} {c i:Nat} (h:wJ es c):wJ (es.eraseIdx i) c :=
 ⟨(List.Sublist.map _ (List.eraseIdx_sublist es i)).nodup h.1,fun e he=>h.2 e ((List.eraseIdx_sublist es i).subset he)⟩
def qV (b:Nat) (f:α→Value) (rv:Rep β) (l:List (α×β)):iH where
 claims:=[(b,0)]
 ok:=fun h m=>∃ es clock,m b=some (.map es clock)∧yu f rv h es.toList l∧wJ es.toList clock
 mono:=by rintro h h' m hl ⟨es,c,e,k⟩;exact ⟨es,c,e,k.1.mono hl,k.2⟩
 frame:=fun hm ⟨es,c,e,k⟩=>⟨es,c,by rw [hm (b,0) (by simp)];exact e,k⟩
def dD (f:α→Value) (rv:Rep β) (l:List (α×β)):dU:=fun v e=>∃ b,v = .map (some b)∧e=qV b f rv l
theorem zT {T:TypeId} {f:α→Value} {rv:Rep β} {d:Nat} (hd:o.dst=some d) (ho:o.op = .makeMap T none):dR P o N [] aZ.rf [(d,some (dD f rv []))]:=by
 intro κ B F L h a w hst hn _ hdn next Q hnext _
 unfold Oper.pY
 have:(execOp a.eval o).run P w = .ok (.value (.map (some w.heap.size))) (w.alloc (.map #[] 0)):=by
  have e:(Instr.makeMap T none).run P w = .ok (.map (some w.heap.size)) (w.alloc (.map #[] 0)):=rfl
  simp only [execOp,ho,Option.map_none,Sem.run_bind,e,Result.andThen_ok,Sem.run_pure]
 rw [this]
 refine hnext _ h _ (set1 L d (qV w.heap.size f rv [])) (mQ.refl h) trivial (hst.AV _ d _ (by simp [qV]) ⟨#[],0,AX _ _,trivial,by simp [wJ]⟩) ?_
 rw [hd]
 exact nO ⟨_,iF (hdn d hd),rfl⟩
theorem VL {κ:Type} {B:Base} {h:H} {L:Nat→Option iH} {F:κ→Option iH} {w:World} (hst:St B h (Sum.elim L F) w) {s b:Nat} {f:α→Value} {rv:Rep β} {l:List (α×β)}
  (hk:L s=some (qV b f rv l)):∃ es clock,w.heap[b]? = some (.map es clock)∧yu f rv h es.toList l :=
 let ⟨es,c,h1,h2,_⟩:=(hst.own (k:=Sum.inl s) hk).2
 ⟨es,c,h1,h2⟩
theorem Ny {κ:Type} {B:Base} {h:H} {L:Nat→Option iH} {F:κ→Option iH} {w:World} (hst:St B h (Sum.elim L F) w) {s b:Nat} {f:α→Value} {rv:Rep β} {l:List (α×β)}
  (hk:L s=some (qV b f rv l)):∃ es clock,w.heap[b]? = some (.map es clock)∧yu f rv h es.toList l∧wJ es.toList clock:=(hst.own (k:=Sum.inl s) hk).2
section
variable [DecidableEq α]
theorem GN {f:α→Value} {rv:Rep β} {h:H} {d:TypeDesc} (hd:∀ x y,Instr.sameNow d (f x) (f y)=some (decide (x=y))) (x:α):∀ {es:List MapEntry} {l:List (α×β)} (n:Nat),yu f rv h es l →
    (Instr.findNow d (f x) es n=some none∧mr l x=false∧(∀ z,iC z l x=z)∧∀ y,pI l x y=l ++ [(x,y)]) ∨
    ∃ i e0,Instr.findNow d (f x) es n=some (some (n+i,e0.val))∧es[i]? = some e0∧e0.key=f x∧mr l x=true∧(∀ z,rv.val h e0.val (iC z l x)) ∧
      ∀ g y,(∀ e,(g e).key=e.key)→(∀ e,rv.val h (g e).val y)→yu f rv h (es.modify i g) (pI l x y)
  | [],[],_,_=>.inl ⟨rfl,rfl,fun _=>rfl,fun _=>rfl⟩
  | e :: es,p :: l,n,⟨⟨hk,hv⟩,hr⟩=>by
    by_cases hx:x=p.1
    · refine .inr ⟨0, e, ?_, rfl, by rw [hk, hx], by simp [mr, hx], fun z => by simpa [iC, hx] using hv, fun g y hg hy => ?_⟩
      · simp only [Instr.findNow,hk,hd,hx,decide_true];rfl
      · simp only [List.modify_zero_cons,pI,hx,decide_true,cond_true]
        exact ⟨⟨by rw [hg,hk],hy e⟩,hr⟩
    · have hn:∀ r,Instr.findNow d (f x) es (n+1)=r→Instr.findNow d (f x) (e :: es) n=r:=fun r h=>by
        simp only [Instr.findNow,hk,hd]
        rw [show decide (x=p.1)=false from decide_eq_false hx];exact h
      rcases GN hd x (n+1) hr with ⟨h1,h2,h3,h4⟩ | ⟨i,e0,h1,h2,h3,h4,h5,h6⟩
      · refine .inl ⟨hn _ h1,by simp [mr,hx,h2],fun z=>by simp [iC,hx,h3],fun y=>by simp [pI,hx,h4]⟩
      · refine .inr ⟨i + 1, e0, hn _ (by rw [h1]; congr 3; omega), by simpa using h2, h3, by simp [mr, h4], fun z => by simpa [iC, hx] using h5 z, fun g y hg hy => ?_⟩
        simp only [List.modify_succ_cons,pI,hx,decide_false,cond_false]
        exact ⟨⟨hk,hv⟩,h6 g y hg hy⟩

theorem run_findKey {K:TypeId} {d:TypeDesc} {u:Value} {es:List MapEntry} {r:Option (Nat×Value)} {w:World} (hd:P.underlying K=some d) (h:Instr.findNow d u es 0=some r):(Instr.findKey K u es).run P w = .ok r w:=by
 unfold Instr.findKey
 simp only [Sem.run_bind,run_underlying hd,Result.andThen_ok,h,Sem.run_pure]
end
section
variable [DecidableEq α]
theorem JY {T K E:TypeId} {rk:Rep α} {f:α→Value} {rv:Rep β} {s:Nat} {x i:Operand} {l:List (α×β)} {y:α} (hf:yQ P K rk f) (t:jT P E rv) (hT:P.underlying T=some (.map K E))
  (W:Wr) (ho:o.op = .lookup T x i false) (hx:O7 N x W s) (hi:bW N i (fV rk y)):dR P o N [(s,W.ap (dD f rv l))] (fV rv (iC rv.zero l y)) []:=by
 intro κ B F L h a w hst hn hk _ next Q hnext _
 obtain ⟨e,hL,hq⟩:=hk.1
 obtain ⟨b,hv,rfl⟩:=Wr.iff.1 hq
 have hx':a.eval x = .map (some b):=(hx h a hn).trans hv
 have hi':=hf.is (hi h a hn)
 obtain ⟨es,clock,hb,hr⟩:=VL hst hL
 obtain ⟨d,hd,QT⟩:=hf.now
 rcases GN QT y 0 hr with ⟨h1,_,h3,_⟩ | ⟨j,e0,h1,_,_,_,h5,_⟩
 ·have:(execOp a.eval o).run P w = .ok (.value (pack rv.agg rv.zc)) w:=by
   simp [execOp,ho,hx',hi',Instr.lookup,run_underlying hT,MapKept.run_getObj_map hb,hf.chk,run_findKey hd h1,t.zero]
  unfold Oper.pY
  rw [this]
  exact hnext _ h w L (mQ.refl h) ⟨rv.zc,by rw [h3];exact rv.wB h,rfl⟩ hst mM
 ·have:(execOp a.eval o).run P w = .ok (.value e0.val) w:=by
   simp [execOp,ho,hx',hi',Instr.lookup,run_underlying hT,MapKept.run_getObj_map hb,hf.chk,run_findKey hd h1]
  unfold Oper.pY
  rw [this]
  exact hnext _ h w L (mQ.refl h) (h5 _) hst mM
theorem Ph {T K E:TypeId} {rk:Rep α} {f:α→Value} {rv:Rep β} {s:Nat} {x i:Operand} {l:List (α×β)} {y:α} (hf:yQ P K rk f) (t:jT P E rv) (hT:P.underlying T=some (.map K E))
  (W:Wr) (ho:o.op = .lookup T x i true) (hx:O7 N x W s) (hi:bW N i (fV rk y)):dR P o N [(s,W.ap (dD f rv l))] (Fv (fV rv (iC rv.zero l y)) (fV Rep.bool (mr l y))) []:=by
 intro κ B F L h a w hst hn hk _ next Q hnext _
 obtain ⟨e,hL,hq⟩:=hk.1
 obtain ⟨b,hv,rfl⟩:=Wr.iff.1 hq
 have hx':a.eval x = .map (some b):=(hx h a hn).trans hv
 have hi':=hf.is (hi h a hn)
 obtain ⟨es,clock,hb,hr⟩:=VL hst hL
 obtain ⟨d,hd,QT⟩:=hf.now
 rcases GN QT y 0 hr with ⟨h1,h2,h3,_⟩ | ⟨j,e0,h1,_,_,h4,h5,_⟩
 ·have:(execOp a.eval o).run P w = .ok (.value (.tuple #[pack rv.agg rv.zc,.bool false])) w:=by
   simp [execOp,ho,hx',hi',Instr.lookup,run_underlying hT,MapKept.run_getObj_map hb,hf.chk,run_findKey hd h1,t.zero]
  unfold Oper.pY
  rw [this]
  exact hnext _ h w L (mQ.refl h) ⟨_,_,rfl,⟨rv.zc,by rw [h3];exact rv.wB h,rfl⟩,lu.2 (by rw [h2])⟩ hst mM
 ·have:(execOp a.eval o).run P w = .ok (.value (.tuple #[e0.val,.bool true])) w:=by
   simp [execOp,ho,hx',hi',Instr.lookup,run_underlying hT,MapKept.run_getObj_map hb,hf.chk,run_findKey hd h1]
  unfold Oper.pY
  rw [this]
  exact hnext _ h w L (mQ.refl h) ⟨_,_,rfl,h5 _,lu.2 (by rw [h4])⟩ hst mM
theorem Ht {T K E:TypeId} {rk:Rep α} {f:α→Value} {rv:Rep β} {s:Nat} {x i:Operand} {l:List (α×β)} {y:α} (hf:yQ P K rk f) (t:jT P E rv) (hT:P.underlying T=some (.map K E))
  (ho:o.op = .lookup T x i false) (hx:bW N x (QI s)) (hi:bW N i (fV rk y)):dR P o N [(s,dD f rv l)] (fV rv (iC rv.zero l y)) []:=JY hf t hT .slot ho (.slot hx) hi
theorem xY {T K E:TypeId} {rk:Rep α} {f:α→Value} {rv:Rep β} {s:Nat} {sv:Value} {x i:Operand} {l:List (α×β)} {y:α} (hf:yQ P K rk f) (t:jT P E rv) (hT:P.underlying T=some (.map K E))
  (ho:o.op = .lookup T x i false) (hx:bW N x (jX sv)) (hi:bW N i (fV rk y)):dR P o N [(s,iq (dD f rv l) sv)] (fV rv (iC rv.zero l y)) []:=JY hf t hT (.val sv) ho (.val hx) hi
theorem DY {T K E:TypeId} {rk:Rep α} {f:α→Value} {rv:Rep β} {s:Nat} {sv:Value} {x i:Operand} {l:List (α×β)} {y:α} (hf:yQ P K rk f) (t:jT P E rv) (hT:P.underlying T=some (.map K E))
  (ho:o.op = .lookup T x i true) (hx:bW N x (jX sv)) (hi:bW N i (fV rk y)):dR P o N [(s,iq (dD f rv l) sv)] (Fv (fV rv (iC rv.zero l y)) (fV Rep.bool (mr l y))) []:=Ph hf t hT (.val sv) ho (.val hx) hi
theorem run_keyThatStays {u:Value} {w:World} (h:Instr.sameBits 10000 u u=true):(Instr.keyThatStays u u).run P w = .ok u w:=by
 unfold Instr.keyThatStays
 rw [if_pos h];rfl
def vN (w:World) (b:Nat) (o:Obj):World:={ w with heap:=w.heap.setIfInBounds b o }
theorem JZ {w:World} {b:Nat} {o o':Obj} (hb:w.heap[b]? = some o):(vN w b o').heap[b]? = some o':=by
 have:=(Array.getElem?_eq_some_iff.1 hb).1
 simp [vN,this]
theorem J3 {w:World} {b i:Nat} {o':Obj} (hi:i≠b):(vN w b o').heap[i]? = w.heap[i]?:=by
 simp [vN,Ne.symm hi]
theorem Fh {T K E:TypeId} {rk:Rep α} {f:α→Value} {rv:Rep β} {s:Nat} {x i v:Operand} {l:List (α×β)} {y:α} {z:β} (hf:yQ P K rk f) (hT:P.underlying T=some (.map K E)) (hd:o.dst=none)
    (W:Wr) (ho:o.op = .mapUpdate T x i v∨o.op = .insert T x i v) (hx:O7 N x W s) (hi:bW N i (fV rk y)) (hv:bW N v (fV rv z)):dR P o N [(s,W.ap (dD f rv l))] aZ.rf [(s,some (W.ap (dD f rv (pI l y z))))]:=by
  intro κ B F L h a w hst hn hk _ next Q hnext _
  obtain ⟨e,hL,hq⟩:=hk.1
  obtain ⟨b,hvb,rfl⟩:=Wr.iff.1 hq
  have hx':a.eval x = .map (some b):=(hx h a hn).trans hvb
  have hi':=hf.is (hi h a hn)
  have hv':=hv h a hn
  obtain ⟨es,clock,hb,hr,hB⟩:=Ny hst hL
  obtain ⟨d,hdd,QT⟩:=hf.now
  have fin:∀ es' clock',yu f rv h es'.toList (pI l y z)→wJ es'.toList clock'→(execOp a.eval o).run P w = .ok .skip (vN w b (.map es' clock'))→o.pY P a w next Q:=by
    intro es' clock' hrel hbn hrun
    unfold Oper.pY
    rw [hrun]
    refine hnext undef h _ (set1 L s (qV b f rv (pI l y z))) (mQ.refl h) trivial ?_ ?_
    · obtain ⟨hcl,_⟩:=hst.own (k:=Sum.inl s) hL
      have hno:=(hcl (b,0) (by simp [qV])).2.2
      have hlt:=(hcl (b,0) (by simp [qV])).2.1
      refine hst.step (Sum.inl s) (fun i=>i=b) (fun i hi _=>⟨_,hL,(b,0),by simp [qV],hi.symm⟩) (by simp [vN]) rfl rfl rfl (fun i _ hi=>J3 hi) (mQ.refl h) (fun _ _ _ _=>rfl) ?_ sN ?_
      · rintro i o' u (rfl | hi) hu
        · rw [hno o' (Nat.zero_le _)] at hu;cases hu
        · rw [hst.fresh hi] at hu;cases hu
      · intro e' he
        rw [sO he]
        refine ⟨fun c hc=>?_,es',clock',JZ hb,hrel,hbn⟩
        simp only [qV,List.mem_singleton] at hc
        subst hc
        exact ⟨.inr ⟨_,hL,(b,0),by simp [qV],rfl⟩,by simpa [vN] using hlt,fun o' _=>hno o' (Nat.zero_le _)⟩
    · rw [hd]
      exact nO (Wr.iff.2 ⟨b,hvb,rfl⟩)
  rcases GN QT y 0 hr with ⟨h1,_,_,h4⟩ | ⟨j,e0,h1,h2,h3,_,_,h6⟩
  · refine fin (es.push { key := f y, val := a.eval v, born := clock }) (clock + 1) ?_ (by rw [Array.toList_push]; exact hB.push) ?_
    · rw [h4,Array.toList_push]
      exact yu.snoc (e:=⟨f y,a.eval v,clock⟩) (p:=(y,z)) ⟨rfl,hv'⟩ hr
    · rcases ho with ho | ho <;> simp [execOp,ho,hx',hi',Instr.mapUpdate,run_underlying hT,MapKept.run_getObj_map hb,hf.chk,run_findKey hdd h1,MapKept.run_setObj_map _ hb,vN]
  · have h2' : es[j]? = some e0 := by simpa using h2
    refine fin (es.modify j fun e=>{ e with key:=f y,val:=a.eval v }) clock ?_ (by rw [Array.toList_modify];exact hB.modify (fun _=>rfl)) ?_
    · have hkey:es.toList.modify j (fun e=>{ e with key:=f y,val:=a.eval v })=es.toList.modify j (fun e=>{ e with val:=a.eval v }):=by
        refine List.ext_getElem? fun m=>?_
        simp only [List.getElem?_modify]
        by_cases hm:j=m
        · subst hm;simp [h2',← h3]
        · simp [hm]
      rw [Array.toList_modify,hkey]
      exact h6 _ z (fun _=>rfl) (fun _=>hv')
    · rcases ho with ho | ho <;> simp [execOp,ho,hx',hi',Instr.mapUpdate,run_underlying hT,MapKept.run_getObj_map hb,hf.chk,run_findKey hdd h1,h2',h3,run_keyThatStays (hf.bits y),MapKept.run_setObj_map _ hb,vN]
theorem Gu {T K E:TypeId} {rk:Rep α} {f:α→Value} {rv:Rep β} {s:Nat} {x i v:Operand} {l:List (α×β)} {y:α} {z:β} (hf:yQ P K rk f) (hT:P.underlying T=some (.map K E)) (hd:o.dst=none)
  (ho:o.op = .mapUpdate T x i v∨o.op = .insert T x i v) (hx:bW N x (QI s)) (hi:bW N i (fV rk y)) (hv:bW N v (fV rv z)):dR P o N [(s,dD f rv l)] aZ.rf [(s,some (dD f rv (pI l y z)))]:=Fh hf hT hd .slot ho (.slot hx) hi hv
theorem vF {T K E:TypeId} {rk:Rep α} {f:α→Value} {rv:Rep β} {s:Nat} {sv:Value} {x i v:Operand} {l:List (α×β)} {y:α} {z:β} (hf:yQ P K rk f) (hT:P.underlying T=some (.map K E)) (hd:o.dst=none)
  (ho:o.op = .mapUpdate T x i v∨o.op = .insert T x i v) (hx:bW N x (jX sv)) (hi:bW N i (fV rk y)) (hv:bW N v (fV rv z)):dR P o N [(s,iq (dD f rv l) sv)] aZ.rf [(s,some (iq (dD f rv (pI l y z)) sv))]:=Fh hf hT hd (.val sv) ho (.val hx) hi hv
def DZ:List (α×β)→α→List (α×β)
 | [],_=>[]
 | p :: r,x=>bif decide (x=p.1) then r else p :: DZ r x
theorem Pj {f:α→Value} {rv:Rep β} {h:H} {d:TypeDesc} (hd:∀ x y,Instr.sameNow d (f x) (f y)=some (decide (x=y))) (x:α):∀ {es:List MapEntry} {l:List (α×β)} (n:Nat),yu f rv h es l →
    (Instr.findNow d (f x) es n=some none∧DZ l x=l)∨∃ i v,Instr.findNow d (f x) es n=some (some (n+i,v))∧yu f rv h (es.eraseIdx i) (DZ l x)
  | [],[],_,_=>.inl ⟨rfl,rfl⟩
  | e :: es,p :: l,n,⟨⟨hk,hv⟩,hr⟩=>by
    by_cases hx:x=p.1
    · refine .inr ⟨0,e.val,?_,?_⟩
      · simp only [Instr.findNow,hk,hd,hx,decide_true];rfl
      · simpa [DZ,hx] using hr
    · have hn:∀ r,Instr.findNow d (f x) es (n+1)=r→Instr.findNow d (f x) (e :: es) n=r:=fun r h=>by
        simp only [Instr.findNow,hk,hd]
        rw [show decide (x=p.1)=false from decide_eq_false hx];exact h
      rcases Pj hd x (n+1) hr with ⟨h1,h2⟩ | ⟨i,v,h1,h2⟩
      · exact .inl ⟨hn _ h1,by simp [DZ,hx,h2]⟩
      · refine .inr ⟨i + 1, v, hn _ (by rw [h1]; congr 3; omega), ?_⟩
        simp only [List.eraseIdx_cons_succ,DZ,hx,decide_false,cond_false]
        exact ⟨⟨hk,hv⟩,h2⟩
theorem QU {T K E:TypeId} {rk:Rep α} {f:α→Value} {rv:Rep β} {s:Nat} {x i:Operand} {l:List (α×β)} {y:α} {ts:Array TypeId} (hf:yQ P K rk f) (hT:P.underlying T=some (.map K E)) (hts:ts[0]? = some T) (W:Wr)
    (ho:o.op = .call { callee:=.builtin .delete,args:=#[x,i],argTypes:=ts }) (hx:O7 N x W s) (hi:bW N i (fV rk y)) (hds:IJ o.dst s=true):dR P o N [(s,W.ap (dD f rv l))] aZ.rf [(s,some (W.ap (dD f rv (DZ l y))))]:=by
  intro κ B F L h a w hst hn hk _ next Q hnext _
  obtain ⟨e,hL,hq⟩:=hk.1
  obtain ⟨b,hvb,rfl⟩:=Wr.iff.1 hq
  have hx':a.eval x = .map (some b):=(hx h a hn).trans hvb
  have hi':=hf.is (hi h a hn)
  obtain ⟨es,clock,hb,hr,hB⟩:=Ny hst hL
  obtain ⟨d,hdd,QT⟩:=hf.now
  have hgs:∀ v,(a.put o.dst v).gt s=a.gt s:=fun v=>wZ (by
    intro hd;unfold IJ at hds;rw [hd] at hds
    simp [Nat.beq_refl] at hds)
  have fin:∀ es':Array MapEntry,yu f rv h es'.toList (DZ l y)→wJ es'.toList clock→(execOp a.eval o).run P w = .ok (.value (.tuple #[])) (vN w b (.map es' clock))→o.pY P a w next Q:=by
    intro es' hrel hbn hrun
    unfold Oper.pY
    rw [hrun]
    refine hnext _ h _ (set1 L s (qV b f rv (DZ l y))) (mQ.refl h) trivial ?_ ?_
    · obtain ⟨hcl,_⟩:=hst.own (k:=Sum.inl s) hL
      have hno:=(hcl (b,0) (by simp [qV])).2.2
      have hlt:=(hcl (b,0) (by simp [qV])).2.1
      refine hst.step (Sum.inl s) (fun i=>i=b) (fun i hi _=>⟨_,hL,(b,0),by simp [qV],hi.symm⟩) (by simp [vN]) rfl rfl rfl (fun i _ hi=>J3 hi) (mQ.refl h) (fun _ _ _ _=>rfl) ?_ sN ?_
      · rintro i o' u (rfl | hi) hu
        · rw [hno o' (Nat.zero_le _)] at hu;cases hu
        · rw [hst.fresh hi] at hu;cases hu
      · intro e' he
        rw [sO he]
        refine ⟨fun c hc=>?_,es',clock,JZ hb,hrel,hbn⟩
        simp only [qV,List.mem_singleton] at hc
        subst hc
        exact ⟨.inr ⟨_,hL,(b,0),by simp [qV],rfl⟩,by simpa [vN] using hlt,fun o' _=>hno o' (Nat.zero_le _)⟩
    · refine nO ?_
      rw [hgs]
      exact Wr.iff.2 ⟨b,hvb,rfl⟩
  rcases Pj QT y 0 hr with ⟨h1,h2⟩ | ⟨j,v,h1,h2⟩
  · refine fin es (by rw [h2]; exact hr) hB ?_
    simp [execOp,ho,resolve,invoke,builtin,Builtin.delete_,hts,hx',hi',run_underlying hT,MapKept.run_getObj_map hb,hf.chk,run_findKey hdd h1,MapKept.run_setObj_map _ hb,vN]
  · rw [Nat.zero_add] at h1
    refine fin (es.eraseIdxIfInBounds j) (by rw [Array.toList_eraseIdxIfInBounds];exact h2) (by rw [Array.toList_eraseIdxIfInBounds];exact hB.eraseIdx) ?_
    simp [execOp,ho,resolve,invoke,builtin,Builtin.delete_,hts,hx',hi',run_underlying hT,MapKept.run_getObj_map hb,hf.chk,run_findKey hdd h1,MapKept.run_setObj_map _ hb,vN]
theorem Qw {T K E:TypeId} {rk:Rep α} {f:α→Value} {rv:Rep β} {s:Nat} {sv:Value} {x i:Operand} {l:List (α×β)} {y:α} {ts:Array TypeId} (hf:yQ P K rk f) (hT:P.underlying T=some (.map K E)) (hts:ts[0]? = some T)
  (ho:o.op = .call { callee:=.builtin .delete,args:=#[x,i],argTypes:=ts }) (hx:bW N x (jX sv)) (hi:bW N i (fV rk y)) (hds:IJ o.dst s=true):dR P o N [(s,iq (dD f rv l) sv)] aZ.rf [(s,some (iq (dD f rv (DZ l y)) sv))]:=QU hf hT hts (.val sv) ho (.val hx) hi hds
end
end Go.KB
namespace Go.KB
variable {P:Program} {o:Oper} {N:List (Nat×aZ)} {α β:Type}
def VN (r:Rep α) (h:H) (v:Value):Option α→Prop
 | none=>v = .pointer none
 | some x=>∃ b off,v = .pointer (some ⟨b,off,none⟩)∧yj r h b off x
def Rep.ptr (r:Rep α):Rep (Option α) where
 sz:=1
 agg:=false
 rel:=fun h cs x=>∃ v,cs=[v]∧VN r h v x
 zero:=none
 zc:=[.pointer none]
 one:=fun _=>rfl
 len:=fun ⟨v,e,_⟩=>by rw [e];rfl
 flat:=fun {h cs x} ⟨v,e,k⟩ c hc=>by
  rw [e] at hc;simp at hc;rw [hc]
  cases x with
  | none=>rw [show v=_ from k];rfl
  | some x=>obtain ⟨b,off,rfl,_⟩:=k;rfl
 mono:=fun {h h' cs x} hl ⟨v,e,k⟩=>⟨v,e,by
  cases x with
  | none=>exact k
  | some x=>obtain ⟨b,off,e,k⟩:=k;exact ⟨b,off,e,k.mono hl⟩⟩
 wB:=fun _=>⟨_,rfl,rfl⟩
theorem SH {r:Rep α} {h:H} {v:Value} {x:Option α}:(Rep.ptr r).val h v x↔VN r h v x :=
 ⟨fun ⟨_,⟨v',e,k⟩,e'⟩=>by rw [e',e];exact k,fun k=>⟨[v],⟨v,rfl,k⟩,rfl⟩⟩
theorem Yk {r:Rep α}:bW N (.const (.pointer none)) (fV (Rep.ptr r) none):=fun _ _ _=>SH.2 rfl
theorem UL {T T':TypeId} {r:Rep α} {x:Operand} {q:Option α} (hT:P.underlying T=some (.pointer (P.pointee T))) (ho:o.op = .binOp .eql T x (.const (.pointer none)) T') (hx:bW N x (fV (Rep.ptr r) q)):dR P o N [] (fV Rep.bool q.isNone) [] :=
 dR.rE fun h a w _ n=>by
  have hg:∀ p,(eqGuard .eql T x (.const (.pointer none)) (.pointer p) (.pointer none)).run P w = .ok () w:=by
   intro p;unfold eqGuard;rfl
  have hv:=SH.1 (hx h a n)
  cases q with
  | none =>
   have hv:a.eval x = .pointer none:=hv
   exact ⟨.bool true,by simp only [execOp,ho,hv,show a.eval (.const (.pointer none)) = .pointer none from rfl,hg,Sem.run_bind,Result.andThen_ok,Sem.run_pure,run_eql_pointer_nil w T none hT];rfl,lu.2 rfl⟩
  | some y =>
   obtain ⟨b,off,hv,_⟩:=hv
   exact ⟨.bool false,by simp only [execOp,ho,hv,show a.eval (.const (.pointer none)) = .pointer none from rfl,hg,Sem.run_bind,Result.andThen_ok,Sem.run_pure,run_eql_pointer_nil w T (some ⟨b,off,none⟩) hT];rfl,lu.2 rfl⟩
end Go.KB
namespace Go.KB
variable {P:Program} {o:Oper} {N:List (Nat×aZ)} {α β:Type}
theorem Hg {s i:Nat} {ι:Type} {q0 q0':dU} {q q':ι→dU} {fx:aZ} {f:FuncId} {fn:Func} {args:List aZ} {post:aZ} {xs:Array Operand} {ts:Array TypeId} {y:Operand}
  (hc:∀ k,LJ P f args i (q k) (q' k) post) (hb:Cm s fx q0 q0' q q') (hfx:fx.dep=some s) (hf:P.funcs[f]? = some fn) (hbd:qO fn=true) (hd:oL (post :: args)=true) (hds:IJ o.dst s=true)
  (ho:o.op = .call { callee:=.value (.func f),args:=xs,argTypes:=ts }) (hy:xs.toList[i]? = some y) (hyx:bW N y fx) (hargs:uT N args xs.toList):dR P o N [(s,q0)] aZ.rf [(s,some q0')] :=
 dR.out (mO hd post List.mem_cons_self) (fun _ _ _ _=>trivial) (VO hc hb hfx hf hbd hd hds ho hy hyx hargs)
end Go.KB
namespace Go.KB
variable {P:Program} {o:Oper} {N:List (Nat×aZ)} {α β:Type}
theorem J4 (z:Array Value) (n:Nat):(Builtin.zeroCells z (n+1)).toList=z.toList ++ (Builtin.zeroCells z n).toList:=by
  unfold Builtin.zeroCells
  simp only [Array.toList_map,Array.toList_range]
  rw [show (n+1) * z.size=z.size+n * z.size by rw [Nat.add_mul];omega,List.range_add,List.map_append,List.map_map]
  congr 1
  · refine List.ext_getElem (by simp) fun i h1 h2 => ?_
    have hi:i<z.size:=by simpa using h2
    simp [Nat.mod_eq_of_lt hi,hi]
  · refine List.map_congr_left fun i _ => ?_
    simp
theorem Eb (z:List Value):∀ n,(Builtin.zeroCells z.toArray n).toList=(List.replicate n z).flatten
 | 0=>by simp [Builtin.zeroCells]
 | n+1=>by rw [J4,Eb z n,List.replicate_succ,List.flatten_cons]
end Go.KB
namespace Go.KB
section
variable {P:Program} {o:Oper} {N:List (Nat×aZ)} {α:Type}
theorem bD {T:TypeId} {r:Rep α} {s:Nat} {y:α} (t:jT P T r) (ho:o.op = .load T (.tmp s)):dR P o ((s,bU r y) :: N) [] (fV r y) []:=gX t ho au
theorem dM {β:Type} {T:TypeId} {r:Rep α} {q:Rep β} {s:Nat} {y:α} {i off:Nat} {get:α→β} {set:α→β→α} (l:Lens r q off get set) (hf:cO P T i off) (ho:o.op = .fieldAddr T (.tmp s) i):dR P o ((s,bU r y) :: N) [] (bU q (get y)) []:=gZ l hf ho au
theorem iG {T:TypeId} {r:Rep α} {s v:Nat} {y z:α} (t:jT P T r) (ho:o.op = .store T (.tmp s) (.tmp v)) (hd:o.dst=none:=by rfl):dR P o ((v,fV r z) :: N) [(s,bI T r y)] aZ.rf [(s,some (bI T r z))]:=Pm t hd ho au
def VP:BinOp→Bool
 | .eql | .neq | .lss | .leq | .gtr | .geq=>true
 | _=>false
theorem J5 {op:BinOp} (h:VP op=true):op = .eql∨op = .neq∨op = .lss∨op = .leq∨op = .gtr∨op = .geq:=by
 cases op <;> first | (cases h;done) | simp
theorem ji {op:BinOp} {k:IntKind} {T T':TypeId} {s:Nat} {m n:Int} (ho:o.op = .binOp op T (.tmp s) (.const (.int k n)) T') (hop:VP op=true:=by rfl):dR P o ((s,fV (Rep.int k) m) :: N) [] (fV Rep.bool (aN op m n)) []:=eF (J5 hop) rfl ho au bf
theorem ja {op:BinOp} {k:IntKind} {T T':TypeId} {s t:Nat} {m n:Int} (ho:o.op = .binOp op T (.tmp s) (.tmp t) T') (hop:VP op=true:=by rfl):dR P o ((s,fV (Rep.int k) m) :: (t,fV (Rep.int k) n) :: N) [] (fV Rep.bool (aN op m n)) []:=eF (J5 hop) rfl ho au aF
theorem kH {α β γ:Type} {x:Option α} {f:α→Option β} {g:α→β→Option γ} {r:γ} (h:(x.bind fun a=>(f a).bind (g a))=some r):∃ a,x=some a∧∃ b,f a=some b∧g a b=some r:=by
 obtain ⟨a,h1,h⟩:=aV h
 obtain ⟨b,h2,h⟩:=aV h
 exact ⟨a,h1,b,h2,h⟩
theorem tn {K:Act→World→Prop} {Q:Exit→Act→World→Prop} {a:Act} {w:World} (h:K a w):Exit.then K Q .normal a w:=h
theorem tr {K:Act→World→Prop} {Q:Exit→Act→World→Prop} {a:Act} {w:World} (h:Q .ret a w):Exit.then K Q .ret a w:=h
theorem ws {ρ:Option Nat} {Q:Exit→Act→World→Prop} {a:Act} {w:World} {x y:Code} (h:x.pY ρ P (Exit.then (y.pY ρ P Q) Q) a w):(Code.seq x y).pY ρ P Q a w:=wp_seq h
theorem wk {ρ:Option Nat} {Q:Exit→Act→World→Prop} {a:Act} {w:World} (h:Q .normal a w):Code.skip.pY ρ P Q a w:=wp_skip h
theorem wr {ρ:Option Nat} {Q:Exit→Act→World→Prop} {a:Act} {w:World} (h:Q .ret a w):Code.ret.pY ρ P Q a w:=wp_ret h
abbrev ln {α:Type} (l:List α):Int:=(List.length l:Int)
abbrev w3:Int→Int:=IntKind.u32.wrap
abbrev w1:Int→Int:=IntKind.u16.wrap
abbrev lS {α:Type} (r:Rep α):Rep (List α):=Rep.slice r
end
end Go.KB
