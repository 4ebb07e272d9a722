/- Variables whose fields are rows that are appended to. Fields of values; values whose fields are nil, and variables that take them. Maps that are owned: made, looked into, written. Pointers that are only read, nil among them; texts as rows of bytes. Functions that take a row over and hand a row back. Rows that grow from nothing: cap, cuts and appends of zeros at nil. Arrays: slices of arrays that are not written any more, elements of arrays. No condition. -/
import Derived.Test.YtochfcfkpachcaaGreatDoorKZb
import Derived.MapKept
import Derived.Laws.Pointers
import Derived.Lib.ConvBytes
import Derived.Lib.AppendZeros
namespace Go.KB
variable {P:Program} {o:Oper} {N:List (Nat×bC)} {f:bC} {α β:Type}
inductive Wr where
 | slot
 | val (sv:Value)
def dB (q:gK) (sv:Value):gK:=fun _ e=>q sv e
def Wr.ap (W:Wr) (q:gK):gK:=match W with | .slot=>q | .val sv=>dB q sv
def Wr.v (W:Wr) (a:Act) (g:Nat):Value:=match W with | .slot=>a.gt g | .val sv=>sv
theorem Wr.iff {W:Wr} {q:gK} {a:Act} {g:Nat} {e:jh}:W.ap q (a.gt g) e↔q (W.v a g) e:=by cases W <;> rfl
def TQ (N:List (Nat×bC)) (x:Operand) (W:Wr) (g:Nat):Prop:=∀ h a,EY N h a→a.eval x=W.v a g
theorem TQ.slot {x:Operand} {g:Nat} (hx:dD N x (UH g)):TQ N x .slot g:=fun h a n=>hx h a n
theorem TQ.val {x:Operand} {g:Nat} {sv:Value} (hx:dD N x (gJ sv)):TQ N x (.val sv) g:=fun h a n=>hx h a n
theorem Wr.v_put {W:Wr} {a:Act} {s d:Nat} {v:Value} (h:s≠d):W.v (a.put (some d) v) s=W.v a s:=by
 cases W with
 | slot=>exact KQ h
 | val sv=>rfl
def TR (N:List (Nat×bC)) (x:Operand) (W:Wr) (s off:Nat):Prop:=∀ h a,EY N h a→∃ b,W.v a s = .pointer (some ⟨b,0,none⟩)∧a.eval x = .pointer (some ⟨b,off,none⟩)
def tY (sv:Value) (off:Nat):bC:=⟨none,fun _ _ v=>∃ b,sv = .pointer (some ⟨b,0,none⟩)∧v = .pointer (some ⟨b,off,none⟩),fun _ x=>x⟩
theorem TR.slot {x:Operand} {s off:Nat} (hx:dD N x (Cb s off)):TR N x .slot s off:=fun h a n=>hx h a n
theorem TR.val {x:Operand} {s off:Nat} {sv:Value} (hx:dD N x (tY sv off)):TR N x (.val sv) s off:=fun h a n=>hx h a n
structure dS where
 off:Nat
 E:TypeId
 sz:Nat
def tK:List dS→List (Nat×Value×jh)→Prop
 | [],[]=>True
 | t :: ts,u :: us=>(u.1=t.off∧dM t.E t.sz u.2.1 u.2.2)∧tK ts us
 | _,_=>False
theorem tK.mid {t:dS} {l2:List dS}:∀ {l1:List dS} {us:List (Nat×Value×jh)},tK (l1 ++ t :: l2) us →
  ∃ FX u GX,us=FX ++ u :: GX∧u.1=t.off∧dM t.E t.sz u.2.1 u.2.2∧tK l1 FX∧tK l2 GX:=by
 intro l1
 induction l1 with
 | nil =>
  intro us h
  cases us with
  | nil=>exact h.elim
  | cons u us=>exact ⟨[],u,us,rfl,h.1.1,h.1.2,trivial,h.2⟩
 | cons t1 l1 ih =>
  intro us h
  cases us with
  | nil=>exact h.elim
  | cons u0 us =>
   obtain ⟨FX,u,GX,rfl,h1,h2,h3,h4⟩:=ih h.2
   exact ⟨u0 :: FX,u,GX,rfl,h1,h2,⟨h.1,h3⟩,h4⟩
theorem tK.app {l2:List dS} {GX:List (Nat×Value×jh)} (h2:tK l2 GX):∀ {l1:List dS} {FX:List (Nat×Value×jh)},tK l1 FX→tK (l1 ++ l2) (FX ++ GX):=by
 intro l1
 induction l1 with
 | nil =>
  intro FX h
  cases FX with
  | nil=>exact h2
  | cons u us=>exact h.elim
 | cons t1 l1 ih =>
  intro FX h
  cases FX with
  | nil=>exact h.elim
  | cons u0 us=>exact ⟨h.1,ih h.2⟩
theorem tK.offs:∀ {l:List dS} {us:List (Nat×Value×jh)},tK l us→∀ u ∈ us,∃ t ∈ l,u.1=t.off:=by
 intro l
 induction l with
 | nil =>
  intro us h u hu
  cases us with
  | nil=>cases hu
  | cons _ _=>exact h.elim
 | cons t l ih =>
  intro us h u hu
  cases us with
  | nil=>exact h.elim
  | cons u0 us =>
   rcases List.mem_cons.1 hu with rfl | hu
   ·exact ⟨t,List.mem_cons_self,h.1.1⟩
   ·obtain ⟨t',ht',e⟩:=ih h.2 u hu
    exact ⟨t',List.mem_cons_of_mem _ ht',e⟩
theorem tK.cut {l2:List dS}:∀ {l1:List dS} {us:List (Nat×Value×jh)},tK (l1 ++ l2) us→∃ FX GX,us=FX ++ GX∧tK l1 FX∧tK l2 GX:=by
 intro l1
 induction l1 with
 | nil=>intro us h;exact ⟨[],us,rfl,trivial,h⟩
 | cons t1 l1 ih =>
  intro us h
  cases us with
  | nil=>exact h.elim
  | cons u0 us =>
   obtain ⟨FX,GX,rfl,h3,h4⟩:=ih h.2
   exact ⟨u0 :: FX,GX,rfl,⟨h.1,h3⟩,h4⟩
def Ju (a b:List (Nat×Nat)):Prop:=∀ c ∈ a,∀ c' ∈ b,c.1≠c'.1
def BoxOk (b:Nat) (us:List (Nat×Value×jh)):Prop:=(us.map (fun u=>u.2.2.claims)).Pairwise Ju∧∀ u ∈ us,∀ c ∈ u.2.2.claims,c.1≠b
def MN (us:List (Nat×Value×jh)):List (Nat×Nat):=us.flatMap (fun u=>u.2.2.claims)
def mJ (b:Nat) (T:TypeId) (r:Rep α) (x:α) (us:List (Nat×Value×jh)):jh where
 claims:=(b,0) :: MN us
 ok:=fun h m=>(∃ cs,m b=some (.cells cs.toArray T (0,0))∧r.rel h cs x∧∀ u ∈ us,cs[u.1]? = some u.2.1)∧∀ u ∈ us,u.2.2.ok h m
 mono:=by
  intro h h' m hl ⟨⟨cs,e,k,l⟩,q⟩
  exact ⟨⟨cs,e,r.mono hl k,l⟩,fun u hu=>u.2.2.mono hl (q u hu)⟩
 frame:=by
  intro h m m' hm ⟨⟨cs,e,k,l⟩,q⟩
  refine ⟨⟨cs,by rw [hm (b,0) (by simp)];exact e,k,l⟩,fun u hu=>u.2.2.frame (fun c hc=>hm c ?_) (q u hu)⟩
  exact List.mem_cons_of_mem _ (List.mem_flatMap.2 ⟨u,hu,hc⟩)
def dY (T:TypeId) (r:Rep α) (x:α) (ts:List dS):gK:=fun v e=>∃ b us,v = .pointer (some ⟨b,0,none⟩)∧tK ts us∧BoxOk b us∧e=mJ b T r x us
theorem St.split2 {κ:Type} {B:Base} {h:H} {L:Nat→Option jh} {F:κ→Option jh} {w:World} (hst:St B h (Sum.elim L F) w) {s d:Nat} {e e1 e2:jh} (hL:L s=some e) (_:s≠d)
    (h1:∀ c ∈ e1.claims,c ∈ e.claims) (h2:∀ c ∈ e2.claims,c ∈ e.claims) (hd:Ju e1.claims e2.claims) (k1:e1.ok h (World.mem w)) (k2:e2.ok h (World.mem w)) :
    St B h (Sum.elim (set1 (set1 L s e1) d e2) F) w:=by
  obtain ⟨hcl,_⟩:=hst.own (k:=Sum.inl s) hL
  have hval:∀ k e',set1 (set1 L s e1) d e2 k=some e'→(k=d∧e'=e2)∨(k=s∧e'=e1)∨(k≠s∧k≠d∧L k=some e'):=by
    intro k e' hk
    unfold set1 at hk
    split at hk
    · rename_i hkd;exact .inl ⟨hkd,(Option.some.inj hk).symm⟩
    · rename_i hkd
      split at hk
      · rename_i hks;exact .inr (.inl ⟨hks,(Option.some.inj hk).symm⟩)
      · rename_i hks;exact .inr (.inr ⟨hks,hkd,hk⟩)
  refine ⟨hst.low,hst.base,fun x=>hst.ext x,?_,?_,hst.mark,fun x i y=>hst.nf x i y⟩
  · intro k e' hk
    cases k with
    | inr k=>exact hst.own (k:=Sum.inr k) hk
    | inl k =>
      rcases hval k e' hk with ⟨_,rfl⟩ | ⟨_,rfl⟩ | ⟨_,_,hk⟩
      · exact ⟨fun c hc=>hcl c (h2 c hc),k2⟩
      · exact ⟨fun c hc=>hcl c (h1 c hc),k1⟩
      · exact hst.own (k:=Sum.inl k) hk
  · have other : ∀ (k : Nat ⊕ κ) e', Sum.elim L F k = some e' → k ≠ Sum.inl s → ∀ c ∈ e.claims, ∀ c' ∈ e'.claims, c.1 ≠ c'.1 := fun k e' hk hne => hst.vN (k := Sum.inl s) hL hk (Ne.symm hne)
    intro k k' a a' hk hk' hne c hc c' hc'
    cases k with
    | inr k =>
      cases k' with
      | inr k'=>exact hst.vN (k:=Sum.inr k) (k':=Sum.inr k') hk hk' hne c hc c' hc'
      | inl k' =>
        rcases hval k' a' hk' with ⟨_,rfl⟩ | ⟨_,rfl⟩ | ⟨h3,_,hk'⟩
        · exact (other (.inr k) a hk (by simp) c' (h2 _ hc') c hc).symm
        · exact (other (.inr k) a hk (by simp) c' (h1 _ hc') c hc).symm
        · exact hst.vN (k:=Sum.inr k) (k':=Sum.inl k') hk hk' (by simp) c hc c' hc'
    | inl k =>
      cases k' with
      | inr k' =>
        rcases hval k a hk with ⟨_,rfl⟩ | ⟨_,rfl⟩ | ⟨h3,_,hk⟩
        · exact other (.inr k') a' hk' (by simp) c (h2 _ hc) c' hc'
        · exact other (.inr k') a' hk' (by simp) c (h1 _ hc) c' hc'
        · exact hst.vN (k:=Sum.inl k) (k':=Sum.inr k') hk hk' (by simp) c hc c' hc'
      | inl k' =>
        have hne':k≠k':=fun x=>hne (by rw [x])
        rcases hval k a hk with ⟨e3,rfl⟩ | ⟨e3,rfl⟩ | ⟨h3,h4,hk2⟩ <;> rcases hval k' a' hk' with ⟨e4,rfl⟩ | ⟨e4,rfl⟩ | ⟨h5,h6,Xv⟩
        · exact absurd (e3.trans e4.symm) hne'
        · exact (hd c' hc' c hc).symm
        · exact other (.inl k') a' Xv (fun x=>h5 (Sum.inl.inj x)) c (h2 _ hc) c' hc'
        · exact hd c hc c' hc'
        · exact absurd (e3.trans e4.symm) hne'
        · exact other (.inl k') a' Xv (fun x=>h5 (Sum.inl.inj x)) c (h1 _ hc) c' hc'
        · exact (other (.inl k) a hk2 (fun x=>h3 (Sum.inl.inj x)) c' (h2 _ hc') c hc).symm
        · exact (other (.inl k) a hk2 (fun x=>h3 (Sum.inl.inj x)) c' (h1 _ hc') c hc).symm
        · exact hst.vN (k:=Sum.inl k) (k':=Sum.inl k') hk2 Xv (fun x=>hne' (Sum.inl.inj x)) c hc c' hc'
def Ef (L:Nat→Option jh) (s d:Nat) (e:jh):Nat→Option jh:=fun k=>if k=d then none else if k=s then some e else L k
theorem St.Ef {κ:Type} {B:Base} {h:H} {L:Nat→Option jh} {F:κ→Option jh} {w:World} (hst:St B h (Sum.elim L F) w) {s d:Nat} {e e1 e2:jh} (hL:L s=some e1) (hL2:L d=some e2)
  (hc:∀ c ∈ e.claims,c ∈ e1.claims∨c ∈ e2.claims) (ho:e.ok h (World.mem w)):St B h (Sum.elim (Ef L s d e) F) w:=by
 obtain ⟨hcl1,_⟩:=hst.own (k:=Sum.inl s) hL
 obtain ⟨hcl2,_⟩:=hst.own (k:=Sum.inl d) hL2
 have hval:∀ k e',KB.Ef L s d e k=some e'→(k=s∧e'=e)∨(k≠s∧k≠d∧L k=some e'):=by
  intro k e' hk
  unfold KB.Ef at hk
  split at hk
  ·cases hk
  ·rename_i hkd
   split at hk
   ·rename_i hks;exact .inl ⟨hks,(Option.some.inj hk).symm⟩
   ·rename_i hks;exact .inr ⟨hks,hkd,hk⟩
 refine ⟨hst.low,hst.base,fun x=>hst.ext x,?_,?_,hst.mark,fun x i y=>hst.nf x i y⟩
 ·intro k e' hk
  cases k with
  | inr k=>exact hst.own (k:=Sum.inr k) hk
  | inl k =>
   rcases hval k e' hk with ⟨_,rfl⟩ | ⟨_,_,hk⟩
   ·exact ⟨fun c hcc=>(hc c hcc).elim (hcl1 c) (hcl2 c),ho⟩
   ·exact hst.own (k:=Sum.inl k) hk
 ·have other:∀ (k:Nat ⊕ κ) e',Sum.elim L F k=some e'→k≠Sum.inl s→k≠Sum.inl d→∀ c ∈ e.claims,∀ c' ∈ e'.claims,c.1≠c'.1:=by
   intro k e' hk hn1 hn2 c hcc
   rcases hc c hcc with h1 | h1
   ·exact hst.vN (k:=Sum.inl s) hL hk (Ne.symm hn1) c h1
   ·exact hst.vN (k:=Sum.inl d) hL2 hk (Ne.symm hn2) c h1
  intro k k' a a' hk hk' hne c hcc c' Ou
  cases k with
  | inr k =>
   cases k' with
   | inr k'=>exact hst.vN (k:=Sum.inr k) (k':=Sum.inr k') hk hk' hne c hcc c' Ou
   | inl k' =>
    rcases hval k' a' hk' with ⟨_,rfl⟩ | ⟨h3,_,hk'⟩
    ·exact (other (.inr k) a hk (by simp) (by simp) c' Ou c hcc).symm
    ·exact hst.vN (k:=Sum.inr k) (k':=Sum.inl k') hk hk' (by simp) c hcc c' Ou
  | inl k =>
   cases k' with
   | inr k' =>
    rcases hval k a hk with ⟨_,rfl⟩ | ⟨h3,_,hk⟩
    ·exact other (.inr k') a' hk' (by simp) (by simp) c hcc c' Ou
    ·exact hst.vN (k:=Sum.inl k) (k':=Sum.inr k') hk hk' (by simp) c hcc c' Ou
   | inl k' =>
    have hne':k≠k':=fun x=>hne (by rw [x])
    rcases hval k a hk with ⟨e3,rfl⟩ | ⟨h3,h4,hk2⟩ <;> rcases hval k' a' hk' with ⟨e4,rfl⟩ | ⟨h5,h6,Xv⟩
    ·exact absurd (e3.trans e4.symm) hne'
    ·exact other (.inl k') a' Xv (fun x=>h5 (Sum.inl.inj x)) (fun x=>h6 (Sum.inl.inj x)) c hcc c' Ou
    ·exact (other (.inl k) a hk2 (fun x=>h3 (Sum.inl.inj x)) (fun x=>h4 (Sum.inl.inj x)) c' Ou c hcc).symm
    ·exact hst.vN (k:=Sum.inl k) (k':=Sum.inl k') hk2 Xv (fun x=>hne' (Sum.inl.inj x)) c hcc c' Ou
theorem Dw {κ:Type} {B:Base} {h:H} {L:Nat→Option jh} {F:κ→Option jh} {w:World} (hst:St B h (Sum.elim L F) w) {s b:Nat} {T:TypeId} {r:Rep α} {x:α} {us:List (Nat×Value×jh)}
  (hk:L s=some (mJ b T r x us)):(∃ cs,w.heap[b]? = some (.cells cs.toArray T (0,0))∧r.rel h cs x∧∀ u ∈ us,cs[u.1]? = some u.2.1)∧∀ u ∈ us,u.2.2.ok h (World.mem w):=(hst.own (k:=Sum.inl s) hk).2
theorem yR {T T':TypeId} {r:Rep α} {y:α} {ts:List dS} {s i off:Nat} (hf:dL P T i off) (ho:o.op = .fieldAddr T (.tmp s) i):fC P o N [(s,dY T' r y ts)] (Cb s off) []:=by
 intro κ B F L h a w hst hn hk _ next Q hnext _
 obtain ⟨e,_,b,us,hv,_⟩:=hk.1
 unfold Oper.qB
 have hv':a.eval (.tmp s) = .pointer (some ⟨b,0,none⟩):=hv
 have:(execOp a.eval o).run P w = .ok (.value (.pointer (some ⟨b,off,none⟩))) w:=by simp [execOp,ho,hv',hf b 0 w]
 rw [this]
 exact hnext _ h w L (nO.refl h) ⟨b,hv,rfl⟩ hst nY
theorem dh {T T':TypeId} {r:Rep α} {y:α} {ts:List dS} {s i off:Nat} {sv:Value} {x:Operand} (hf:dL P T i off) (ho:o.op = .fieldAddr T x i) (hx:dD N x (gJ sv)):fC P o N [(s,dB (dY T' r y ts) sv)] (tY sv off) []:=by
 intro κ B F L h a w hst hn hk _ next Q hnext _
 obtain ⟨e,_,b,us,hv,_⟩:=hk.1
 have hv':a.eval x = .pointer (some ⟨b,0,none⟩):=(hx h a hn:a.eval x=sv).trans hv
 unfold Oper.qB
 have:(execOp a.eval o).run P w = .ok (.value (.pointer (some ⟨b,off,none⟩))) w:=by simp [execOp,ho,hv',hf b 0 w]
 rw [this]
 exact hnext _ h w L (nO.refl h) ⟨b,hv,rfl⟩ hst nY
theorem pJ {T:TypeId} {i off off':Nat} {sv:Value} {x:Operand} (hf:dL P T i off) (ho:o.op = .fieldAddr T x i) (hx:dD N x (tY sv off')):fC P o N [] (tY sv (off'+off)) [] :=
 fC.rJ fun h a w _ q=>by
  obtain ⟨b,hd,hv⟩:=hx h a q
  exact ⟨.pointer (some ⟨b,off'+off,none⟩),by simp [execOp,ho,hv,hf b off' w],b,hd,rfl⟩
theorem dD.off0 {T':TypeId} {r:Rep α} {y:α} {ts:List dS} {sv:Value} {x:Operand} {h:H} {a:Act} {e:jh} (hx:dD N x (gJ sv)) (hn:EY N h a) (hk:dY T' r y ts sv e):∃ b,sv = .pointer (some ⟨b,0,none⟩)∧a.eval x = .pointer (some ⟨b,0,none⟩):=by
 obtain ⟨b,us,hv,_⟩:=hk
 exact ⟨b,hv,(hx h a hn:a.eval x=sv).trans hv⟩
theorem J8 {T T':TypeId} {r:Rep α} {q:Rep β} {ts:List dS} {s off:Nat} {x:Operand} {y:α} {get:α→β} {set:α→β→α} (l:Lens r q off get set) (t:kG P T q) (W:Wr) (ho:o.op = .load T x) (hx:TR N x W s off) :
  fC P o N [(s,W.ap (dY T' r y ts))] (fV q (get y)) []:=by
 intro κ B F L h a w hst hn hk _ next Q hnext _
 obtain ⟨b,hd,hv⟩:=hx h a hn
 obtain ⟨e,hL,hqW⟩:=hk.1
 obtain ⟨b',us,hv',_,_,rfl⟩:=Wr.iff.1 hqW
 have hd':W.v a s = .pointer (some ⟨b,0,none⟩):=hd
 rw [hd'] at hv';cases hv'
 obtain ⟨⟨cs,hb,hr,_⟩,_⟩:=Dw hst hL
 obtain ⟨c,hc,hrun⟩:=yO t l hb hr
 unfold Oper.qB
 have:(execOp a.eval o).run P w = .ok (.value (pack q.agg c)) w:=by simp [execOp,ho,hv,hrun]
 rw [this]
 exact hnext _ h w L (nO.refl h) ⟨c,hc,rfl⟩ hst nY
theorem zK {T T':TypeId} {r:Rep α} {q:Rep β} {ts:List dS} {s off:Nat} {x:Operand} {y:α} {get:α→β} {set:α→β→α} (l:Lens r q off get set) (t:kG P T q) (ho:o.op = .load T x) (hx:dD N x (Cb s off)) :
  fC P o N [(s,dY T' r y ts)] (fV q (get y)) []:=J8 l t .slot ho (.slot hx)
theorem dI {sv:Value} {T T':TypeId} {r:Rep α} {q:Rep β} {ts:List dS} {s off:Nat} {x:Operand} {y:α} {get:α→β} {set:α→β→α} (l:Lens r q off get set) (t:kG P T q) (ho:o.op = .load T x) (hx:dD N x (tY sv off)) :
  fC P o N [(s,dB (dY T' r y ts) sv)] (fV q (get y)) []:=J8 l t (.val sv) ho (.val hx)
theorem EF {T T':TypeId} {r:Rep α} {ts:List dS} {s:Nat} {sv:Value} {y:α} {x:Operand} (t:kG P T r) (ho:o.op = .load T x) (hx:dD N x (gJ sv)) :
  fC P o N [(s,dB (dY T' r y ts) sv)] (fV r y) []:=by
 intro κ B F L h a w hst hn hk _ next Q hnext _
 obtain ⟨e,hL,b,us,hv,_,_,rfl⟩:=hk.1
 have hv':a.eval x = .pointer (some ⟨b,0,none⟩):=(hx h a hn:a.eval x=sv).trans hv
 obtain ⟨⟨cs,hb,hr,_⟩,_⟩:=Dw hst hL
 obtain ⟨c,hc,hrun⟩:=yO t (Lens.refl r) hb hr
 unfold Oper.qB
 have:(execOp a.eval o).run P w = .ok (.value (pack r.agg c)) w:=by simp [execOp,ho,hv',hrun]
 rw [this]
 exact hnext _ h w L (nO.refl h) ⟨c,hc,rfl⟩ hst nY
def P6:Value:=.slice none 0 0
def zu (cs:List Value):List dS→Prop
 | []=>True
 | t :: ts=>cs[t.off]? = some P6∧zu cs ts
def Ht (ts:List dS):List (Nat×Value×jh):=ts.map (fun t=>(t.off,P6,FY))
theorem IB:∀ (ts:List dS),tK ts (Ht ts)
 | []=>trivial
 | _ :: ts=>⟨⟨rfl,.inl ⟨none,0,rfl,rfl⟩⟩,IB ts⟩
theorem IA {ts:List dS} {u:Nat×Value×jh} (hu:u ∈ Ht ts):u.2.2=FY∧u.2.1=P6:=by
 obtain ⟨t,_,rfl⟩:=List.mem_map.1 hu;exact ⟨rfl,rfl⟩
theorem J5 (b:Nat):∀ (ts:List dS),BoxOk b (Ht ts)
 | []=>⟨List.Pairwise.nil,fun u hu=>by cases hu⟩
 | t :: ts=>⟨List.Pairwise.cons (fun l _ c hc=>by cases hc) (J5 b ts).1,fun u hu c hc=>by rw [(IA hu).1] at hc;cases hc⟩
theorem J4:∀ (ts:List dS),MN (Ht ts)=[]
 | []=>rfl
 | _ :: ts=>J4 ts
theorem zu.at {cs:List Value}:∀ {ts:List dS},zu cs ts→∀ u ∈ Ht ts,cs[u.1]? = some u.2.1:=by
 intro ts
 induction ts with
 | nil=>intro _ u hu;cases hu
 | cons t ts ih =>
  intro h u hu
  rcases List.mem_cons.1 hu with rfl | hu
  ·exact h.1
  ·exact ih h.2 u hu
theorem Xf {T:TypeId} {r:Rep α} {d:Nat} (ts:List dS) (t:kG P T r) (hz:zu r.zc ts) (hd:o.dst=some d) (ho:o.op = .alloc T):fC P o N [] bC.qy [(d,some (dY T r r.zero ts))]:=by
 intro κ B F L h a w hst hn _ hdn next Q hnext _
 unfold Oper.qB
 have:(execOp a.eval o).run P w = .ok (.value (.pointer (some ⟨w.heap.size,0,none⟩))) (w.alloc (.cells r.zc.toArray T)):=by
  simp [execOp,ho,Instr.alloc,t.zero,DN (r.xq h)]
 rw [this]
 refine hnext _ h _ (set1 L d (mJ w.heap.size T r r.zero (Ht ts))) (nO.refl h) trivial (hst.zS _ d _ ?_ ⟨⟨_,zT _ _,r.xq h,hz.at⟩,fun u hu=>by rw [(IA hu).1];trivial⟩) ?_
 ·intro c hc
  have:c ∈ (w.heap.size,0) :: MN (Ht ts):=hc
  rw [J4] at this
  simp at this;rw [this]
 rw [hd]
 exact nP ⟨_,_,iQ (hdn d hd),IB ts,J5 _ ts,rfl⟩
def apartB (off sz:Nat) (ts:List dS):Bool:=ts.all (fun t=>Nat.blt t.off off||Nat.ble (off+sz) t.off)
theorem BU {off sz:Nat} {ts:List dS} (h:apartB off sz ts=true):∀ t ∈ ts,t.off<off∨off+sz≤t.off:=by
 intro t ht
 have:=List.all_eq_true.1 h t ht
 simpa [Nat.blt_eq] using this
theorem Qy {p c c' q:List Value} {off sz i:Nat} (hp:p.length=off) (hc:c.length=sz) (hc':c'.length=sz) (h:i<off∨off+sz≤i):(p ++ c' ++ q)[i]? = (p ++ c ++ q)[i]?:=by
  rcases h with h | h
  · rw [List.append_assoc,List.append_assoc,List.getElem?_append_left (by omega),List.getElem?_append_left (by omega)]
  · rw [List.getElem?_append_right (by simp; omega), List.getElem?_append_right (by simp; omega)]
    congr 1;simp;omega
theorem Xw {h:H} {w w':World} {b:Nat} {us:List (Nat×Value×jh)} (Lm:BoxOk b us) (hw:∀ i,i≠b→w'.heap[i]? = w.heap[i]?) (h2:∀ u ∈ us,u.2.2.ok h (World.mem w)):∀ u ∈ us,u.2.2.ok h (World.mem w') :=
 fun u hu=>u.2.2.frame (fun c hc=>hw c.1 (Lm.2 u hu c hc)) (h2 u hu)
theorem BoxOk.sub {b:Nat} {us YW:List (Nat×Value×jh)} (h:YW.Sublist us) (hb:BoxOk b us):BoxOk b YW :=
 ⟨hb.1.sublist (h.map _),fun u hu=>hb.2 u (h.subset hu)⟩
theorem Oj {us YW:List (Nat×Value×jh)} (h:YW.Sublist us):∀ c ∈ MN YW,c ∈ MN us:=by
 intro c hc
 obtain ⟨u,hu,hcu⟩:=List.mem_flatMap.1 hc
 exact List.mem_flatMap.2 ⟨u,h.subset hu,hcu⟩
theorem Ee {T T':TypeId} {r:Rep α} {q:Rep β} {off:Nat} {y:α} {z:β} {get:α→β} {set:α→β→α} (l:Lens r q off get set) (t:kG P T q) {κ:Type} {B:Base} {F:κ→Option jh} {L:Nat→Option jh} {h:H} {w:World} {s b:Nat} {us YW:List (Nat×Value×jh)}
  (hst:St B h (Sum.elim L F) w) (hL:L s=some (mJ b T' r y us)) (Lm:BoxOk b us) (hsub:YW.Sublist us) (hap:∀ u ∈ YW,u.1<off∨off+q.sz≤u.1) {c':List Value} (hc':q.rel h c' z) :
  ∃ p c q':List Value,p.length=off∧(Instr.storeAt T (.pointer (some ⟨b,off,none⟩)) (pack q.agg c')).run P w = .ok () (w.setRow b (p ++ c' ++ q').toArray)∧c.length=q.sz ∧
   (w.setRow b (p ++ c' ++ q').toArray).heap[b]? = some (.cells (p ++ c' ++ q').toArray T' (0,0))∧r.rel h (p ++ c' ++ q') (set y z)∧(∀ u ∈ YW,(p ++ c' ++ q')[u.1]? = some u.2.1) ∧
   St B h (Sum.elim (set1 L s (mJ b T' r (set y z) YW)) F) (w.setRow b (p ++ c' ++ q').toArray):=by
 obtain ⟨⟨cs,hb,hr,hu1⟩,hu2⟩:=Dw hst hL
 obtain ⟨p,c,q',rfl,hp,hc,hset⟩:=l h cs y hr
 have hrun:=uQ t hc' hb (q.len hc)
 rw [hp] at hrun
 have hmem:=yu w b _ (p ++ c' ++ q').toArray T' hb
 have hrel:=hset h c' z (nO.refl h) hc'
 have hget:∀ u ∈ YW,(p ++ c' ++ q')[u.1]? = some u.2.1:=fun u hu=>by
  rw [Qy hp (q.len hc) (q.len hc') (hap u hu)];exact hu1 u (hsub.subset hu)
 obtain ⟨hcl,_⟩:=hst.own (k:=Sum.inl s) hL
 have hno:=(hcl (b,0) (by simp [mJ])).2.2
 refine ⟨p,c,q',hp,hrun,q.len hc,hmem,hrel,hget,?_⟩
 refine hst.write (Sum.inl s) (e:=mJ b T' r y us) hL (b:=b) (lo:=0) (by simp [mJ]) hmem (fun i hi=>setRow_other w b i _ hi) (by simp [World.setRow]) rfl rfl rfl ?_ um ?_
 ·intro o' v hh;rw [hno o' (Nat.zero_le _)] at hh;cases hh
 ·intro e' he
  rw [uo he]
  refine ⟨fun c hc=>?_,⟨_,hmem,hrel,hget⟩,Xw (Lm.sub hsub) (fun i hi=>setRow_other w b i _ hi) (fun u hu=>hu2 u (hsub.subset hu))⟩
  rcases List.mem_cons.1 hc with rfl | hc
  ·exact List.mem_cons_self
  ·exact List.mem_cons_of_mem _ (Oj hsub c hc)
theorem Vo {T T':TypeId} {r:Rep α} {q:Rep β} {ts:List dS} {s off:Nat} {x v:Operand} {y:α} {z:β} {get:α→β} {set:α→β→α} {y':α} (l:Lens r q off get set) (t:kG P T q) (hap:apartB off q.sz ts=true) (hd:o.dst=none)
  (W:Wr) (ho:o.op = .store T x v) (hx:TR N x W s off) (hv:dD N v (fV q z)) (hy':y'=set y z):fC P o N [(s,W.ap (dY T' r y ts))] bC.qy [(s,some (W.ap (dY T' r y' ts)))]:=by
 subst hy'
 intro κ B F L h a w hst hn hk _ next Q hnext _
 obtain ⟨b,hdv,hxv⟩:=hx h a hn
 obtain ⟨e,hL,hqW⟩:=hk.1
 obtain ⟨b',us,hv',hta,Lm,rfl⟩:=Wr.iff.1 hqW
 have hd':W.v a s = .pointer (some ⟨b,0,none⟩):=hdv
 rw [hd'] at hv';cases hv'
 obtain ⟨c',hc',hvv⟩:=hv h a hn
 obtain ⟨p,c,q',hp,hrun,_,_,_,_,hst'⟩:=Ee l t hst hL Lm (List.Sublist.refl us) (fun u hu=>by
  obtain ⟨t,ht,e⟩:=hta.offs u hu;rw [e];exact BU hap t ht) hc'
 unfold Oper.qB
 have:(execOp a.eval o).run P w = .ok .skip (w.setRow b (p ++ c' ++ q').toArray):=by
  simp only [execOp,ho,hxv,hvv,Sem.run_bind,hrun,Result.andThen_ok,Sem.run_pure]
 rw [this]
 refine hnext undef h _ _ (nO.refl h) trivial hst' ?_
 rw [hd]
 exact nP (Wr.iff.2 ⟨b,us,hd',hta,Lm,rfl⟩)
theorem Jk {sv:Value} {T T':TypeId} {r:Rep α} {q:Rep β} {ts:List dS} {s off:Nat} {x v:Operand} {y:α} {z:β} {get:α→β} {set:α→β→α} {y':α} (l:Lens r q off get set) (t:kG P T q) (hap:apartB off q.sz ts=true) (hd:o.dst=none)
  (ho:o.op = .store T x v) (hx:dD N x (tY sv off)) (hv:dD N v (fV q z)) (hy':y'=set y z):fC P o N [(s,dB (dY T' r y ts) sv)] bC.qy [(s,some (dB (dY T' r y' ts) sv))]:=Vo l t hap hd (.val sv) ho (.val hx) hv hy'
theorem Gi {T T':TypeId} {r:Rep α} {s:Nat} {sv:Value} {x v:Operand} {y z:α} (t:kG P T r) (hd:o.dst=none) (ho:o.op = .store T x v) (hx:dD N x (gJ sv)) (hv:dD N v (fV r z)) :
  fC P o N [(s,dB (dY T' r y []) sv)] bC.qy [(s,some (dB (dY T' r z []) sv))]:=by
 intro κ B F L h a w hst hn hk hdn next Q hnext _
 obtain ⟨e,hL,hq⟩:=hk.1
 obtain ⟨b,h1,h2⟩:=hx.off0 hn hq
 obtain ⟨b',us,hv',hta,Lm,rfl⟩:=hq
 rw [h1] at hv';cases hv'
 obtain ⟨c',hc',hvv⟩:=hv h a hn
 obtain ⟨p,c,q',hp,hrun,_,_,_,_,hst'⟩:=Ee (Lens.refl r) t hst hL Lm (List.nil_sublist us) (fun u hu=>by cases hu) hc'
 unfold Oper.qB
 have:(execOp a.eval o).run P w = .ok .skip (w.setRow b (p ++ c' ++ q').toArray):=by
  simp only [execOp,ho,h2,hvv,Sem.run_bind,hrun,Result.andThen_ok,Sem.run_pure]
 rw [this]
 refine hnext undef h _ _ (nO.refl h) trivial hst' ?_
 rw [hd]
 exact nP ⟨b,[],h1,trivial,⟨List.Pairwise.nil,fun u hu=>by cases hu⟩,rfl⟩
theorem BoxOk.nil {b off:Nat} {FX GX:List (Nat×Value×jh)} (h:BoxOk b (FX ++ GX)):BoxOk b (FX ++ (off,P6,FY) :: GX):=by
 obtain ⟨h1,h2⟩:=h
 constructor
 ·rw [List.map_append,List.pairwise_append] at h1 ⊢
  obtain ⟨k1,k2,k3⟩:=h1
  refine ⟨k1,List.Pairwise.cons (fun l _ c hc=>by cases hc) k2,fun x hx y hy=>?_⟩
  rcases List.mem_cons.1 hy with rfl | hy
  ·intro c _ c' hc';cases hc'
  ·exact k3 x hx y hy
 ·intro u hu c hc
  rcases List.mem_append.1 hu with hu | hu
  ·exact h2 u (List.mem_append_left _ hu) c hc
  ·rcases List.mem_cons.1 hu with rfl | hu
   ·cases hc
   ·exact h2 u (List.mem_append_right _ hu) c hc
theorem YX {L:Nat→Option jh} {s d:Nat} {e1 e2:jh} {q1 q2:gK} {a:Act} (hsd:s≠d) (h1:q1 (a.gt s) e1) (h2:q2 (a.gt d) e2):GY L (set1 (set1 L s e1) d e2) (full [(s,some q1),(d,some q2)] (some d)) a:=by
  intro k
  have XZ:Nat.beq s d=false:=by rw [Bool.eq_false_iff,Ne,jg];exact hsd
  by_cases hk:k=d
  · subst hk
    have:rX (full [(s,some q1),(k,some q2)] (some k)) k=some (some q2):=by simp [full,rX,XZ,Nat.beq_refl]
    rw [this];exact ⟨e2,by simp [set1],h2⟩
  · have h3 : Nat.beq d k = false := by rw [Bool.eq_false_iff, Ne, jg]; exact fun x => hk x.symm
    by_cases hk2:k=s
    · subst hk2
      have:rX (full [(k,some q1),(d,some q2)] (some d)) k=some (some q1):=by simp [full,rX,Nat.beq_refl]
      rw [this];exact ⟨e1,by simp [set1,hk],h1⟩
    · have h4 : Nat.beq s k = false := by rw [Bool.eq_false_iff, Ne, jg]; exact fun x => hk2 x.symm
      have:rX (full [(s,some q1),(d,some q2)] (some d)) k=none:=by simp [full,rX,h3,h4]
      rw [this];simp [set1,hk,hk2]
theorem TS {T T' E:TypeId} {r:Rep α} {q:Rep β} {l1 l2:List dS} {s d off sz:Nat} {x:Operand} {y:α} {get:α→List β} {set:α→List β→α} (l:Lens r (Rep.slice q) off get set) (t:kG P T (Rep.slice q)) (hsd:Nat.beq s d=false) (hd:o.dst=some d) (W:Wr) (ho:o.op = .load T x) (hx:TR N x W s off) :
  fC P o N [(s,W.ap (dY T' r y (l1 ++ ⟨off,E,sz⟩ :: l2)))] (fV (Rep.slice q) (get y)) [(s,some (W.ap (dY T' r y (l1 ++ l2)))),(d,some (dM E sz))]:=by
 have hne:s≠d:=fun x=>by rw [jg.2 x] at hsd;cases hsd
 intro κ B F L h a w hst hn hk hdn next Q hnext _
 obtain ⟨b,hdv,hv⟩:=hx h a hn
 obtain ⟨e,hL,hqW⟩:=hk.1
 obtain ⟨b',us,hv',hta,Lm,rfl⟩:=Wr.iff.1 hqW
 have hd':W.v a s = .pointer (some ⟨b,0,none⟩):=hdv
 rw [hd'] at hv';cases hv'
 obtain ⟨FX,u0,GX,rfl,hoff,htip,h3,h4⟩:=hta.mid
 simp only [] at hoff htip
 have hsub:(FX ++ GX).Sublist (FX ++ u0 :: GX):=(List.Sublist.refl FX).append (List.sublist_cons_self _ _)
 obtain ⟨⟨cs,hb,hr,hu1⟩,hu2⟩:=Dw hst hL
 have hm0:u0 ∈ FX ++ u0 :: GX:=List.mem_append_right _ List.mem_cons_self
 obtain ⟨p,c,q',rfl,hp,hc,_⟩:=l h cs y hr
 have hcl:=(Rep.slice q).len hc
 obtain ⟨c0,rfl,hc0⟩:=hc
 have hcv:c0=u0.2.1:=by
  have:=hu1 u0 hm0
  rw [hoff,List.append_assoc,List.getElem?_append_right (by omega),hp] at this
  simpa using this
 have hrun:=yt (b:=b) (off:=off) (w:=w) t hcl (fun j v hj=>by
  rw [yh _ _ _ _ _ _ hb]
  have hjl:=(List.getElem?_eq_some_iff.1 hj).1
  simp only [List.getElem?_toArray]
  rw [List.append_assoc,List.getElem?_append_right (by omega),← hp,Nat.add_sub_cancel_left,List.getElem?_append_left hjl];exact hj)
 unfold Oper.qB
 have:(execOp a.eval o).run P w = .ok (.value c0) w:=by
  have hrun':(Instr.loadAt T (.pointer (some ⟨b,off,none⟩))).run P w = .ok c0 w:=hrun
  simp [execOp,ho,hv,hrun']
 rw [this]
 have hpw:=Lm.1
 rw [List.map_append,List.pairwise_append] at hpw
 obtain ⟨_,k2,k3⟩:=hpw
 have k4:=List.pairwise_cons.1 k2
 have hdis:Ju ((b,0) :: MN (FX ++ GX)) u0.2.2.claims:=by
  intro c hc c' hc'
  rcases List.mem_cons.1 hc with rfl | hc
  ·exact (Lm.2 u0 hm0 c' hc').symm
  ·obtain ⟨u,hu,hcu⟩:=List.mem_flatMap.1 hc
   rcases List.mem_append.1 hu with hu | hu
   ·exact k3 _ (List.mem_map.2 ⟨u,hu,rfl⟩) _ (List.mem_cons_self) c hcu c' hc'
   ·exact (k4.1 _ (List.mem_map.2 ⟨u,hu,rfl⟩) c' hc' c hcu).symm
 have hst':=hst.split2 (d:=d) (e1:=mJ b T' r y (FX ++ GX)) (e2:=u0.2.2) hL hne (fun c hc=>by
   rcases List.mem_cons.1 hc with rfl | hc
   ·exact List.mem_cons_self
   ·exact List.mem_cons_of_mem _ (Oj hsub c hc)) (fun c hc=>List.mem_cons_of_mem _ (List.mem_flatMap.2 ⟨u0,hm0,hc⟩)) hdis
  ⟨⟨_,hb,hr,fun u hu=>hu1 u (hsub.subset hu)⟩,fun u hu=>hu2 u (hsub.subset hu)⟩ (hu2 u0 hm0)
 refine hnext _ h w _ (nO.refl h) (nR.2 hc0) hst' ?_
 rw [hd]
 exact YX hne (Wr.iff.2 (by rw [Wr.v_put hne];exact ⟨b,_,hd',h4.app h3,Lm.sub hsub,rfl⟩)) (by rw [iQ (hdn d hd),hcv];exact htip)
theorem LY {sv:Value} {T T' E:TypeId} {r:Rep α} {q:Rep β} {l1 l2:List dS} {s d off sz:Nat} {x:Operand} {y:α} {get:α→List β} {set:α→List β→α} (l:Lens r (Rep.slice q) off get set) (t:kG P T (Rep.slice q)) (hsd:Nat.beq s d=false) (hd:o.dst=some d) (ho:o.op = .load T x) (hx:dD N x (tY sv off)) :
  fC P o N [(s,dB (dY T' r y (l1 ++ ⟨off,E,sz⟩ :: l2)) sv)] (fV (Rep.slice q) (get y)) [(s,some (dB (dY T' r y (l1 ++ l2)) sv)),(d,some (dM E sz))]:=TS l t hsd hd (.val sv) ho (.val hx)
theorem Qr {L:Nat→Option jh} {s d:Nat} {e:jh} {q:gK} {a:Act} (hsd:s≠d) (hq:q (a.gt s) e):GY L (Ef L s d e) (full [(s,some q),(d,none)] none) a:=by
  intro k
  by_cases hk:k=s
  · subst hk
    have:rX (full [(k,some q),(d,none)] none) k=some (some q):=by simp [full,rX,Nat.beq_refl]
    rw [this];exact ⟨e,by simp [Ef,hsd],hq⟩
  · have h4 : Nat.beq s k = false := by rw [Bool.eq_false_iff, Ne, jg]; exact fun x => hk x.symm
    by_cases hk2:k=d
    · subst hk2
      have:rX (full [(s,some q),(k,none)] none) k=some none:=by simp [full,rX,h4,Nat.beq_refl]
      rw [this];trivial
    · have h3 : Nat.beq d k = false := by rw [Bool.eq_false_iff, Ne, jg]; exact fun x => hk2 x.symm
      have:rX (full [(s,some q),(d,none)] none) k=none:=by simp [full,rX,h3,h4]
      rw [this];simp [Ef,hk,hk2]
theorem RI {T T' E:TypeId} {r:Rep α} {q:Rep β} {l1 l2:List dS} {s d off sz:Nat} {x:Operand} {y:α} {zs:List β} {get:α→List β} {set:α→List β→α} {y':α} (l:Lens r (Rep.slice q) off get set) (t:kG P T (Rep.slice q)) (hap:apartB off 1 (l1 ++ l2)=true) (hsd:Nat.beq s d=false) (hd:o.dst=none)
  (W:Wr) (ho:o.op = .store T x (.tmp d)) (hx:TR N x W s off) (hv:dD N (.tmp d) (fV (Rep.slice q) zs)) (hy':y'=set y zs):fC P o N [(s,W.ap (dY T' r y (l1 ++ l2))),(d,dM E sz)] bC.qy [(s,some (W.ap (dY T' r y' (l1 ++ ⟨off,E,sz⟩ :: l2)))),(d,none)]:=by
 subst hy'
 have hne:s≠d:=fun x=>by rw [jg.2 x] at hsd;cases hsd
 intro κ B F L h a w hst hn hk _ next Q hnext _
 obtain ⟨b,hdv,hxv⟩:=hx h a hn
 obtain ⟨e,hL,hqW⟩:=hk.1
 obtain ⟨b',us,hv',hta,Lm,rfl⟩:=Wr.iff.1 hqW
 obtain ⟨et,hLt,htip⟩:=hk.2.1
 have hLt:L d=some et:=hLt
 have htip:dM E sz (a.gt d) et:=htip
 have hd':W.v a s = .pointer (some ⟨b,0,none⟩):=hdv
 rw [hd'] at hv';cases hv'
 obtain ⟨c',hc',hvv⟩:=hv h a hn
 have hvd:a.gt d=pack (Rep.slice q).agg c':=hvv
 obtain ⟨p,c,q',hp,hrun,hcl,hmem,hrel,hget,hst'⟩:=Ee l t hst hL Lm (List.Sublist.refl us) (fun u hu=>by
  obtain ⟨t,ht,e⟩:=hta.offs u hu;rw [e];exact BU hap t ht) hc'
 obtain ⟨c0,rfl,hc0⟩:=hc'
 have hvd:a.gt d=c0:=hvd
 unfold Oper.qB
 have:(execOp a.eval o).run P w = .ok .skip (w.setRow b (p ++ [c0] ++ q').toArray):=by
  simp only [execOp,ho,hxv,hvv,Sem.run_bind,hrun,Result.andThen_ok,Sem.run_pure]
 rw [this]
 obtain ⟨FX,GX,rfl,h3,h4⟩:=hta.cut
 have hta':tK (l1 ++ ⟨off,E,sz⟩ :: l2) (FX ++ (off,c0,et) :: GX):=tK.app (l2:=⟨off,E,sz⟩ :: l2) (GX:=(off,c0,et) :: GX) ⟨⟨rfl,by rw [← hvd];exact htip⟩,h4⟩ h3
 have hLd':set1 L s (mJ b T' r (set y zs) (FX ++ GX)) d=some et:=by simp [set1,Ne.symm hne,hLt]
 have hdj:Ju ((b,0) :: MN (FX ++ GX)) et.claims:=hst.vN (k:=Sum.inl s) (k':=Sum.inl d) hL hLt (fun x=>hne (Sum.inl.inj x))
 have hbo':BoxOk b (FX ++ (off,c0,et) :: GX):=by
  obtain ⟨g1,g2⟩:=Lm
  constructor
  ·rw [List.map_append,List.pairwise_append] at g1 ⊢
   obtain ⟨k1,k2,k3⟩:=g1
   refine ⟨k1,List.Pairwise.cons (fun l hl c hc c' hc'=>?_) k2,fun x hx y hy=>?_⟩
   ·obtain ⟨u,hu,rfl⟩:=List.mem_map.1 hl
    exact (hdj c' (List.mem_cons_of_mem _ (List.mem_flatMap.2 ⟨u,List.mem_append_right _ hu,hc'⟩)) c hc).symm
   ·rcases List.mem_cons.1 hy with rfl | hy
    ·intro c hc c' hc'
     obtain ⟨u,hu,rfl⟩:=List.mem_map.1 hx
     exact hdj c (List.mem_cons_of_mem _ (List.mem_flatMap.2 ⟨u,List.mem_append_left _ hu,hc⟩)) c' hc'
    ·exact k3 x hx y hy
  ·intro u hu c hc
   rcases List.mem_append.1 hu with hu | hu
   ·exact g2 u (List.mem_append_left _ hu) c hc
   ·rcases List.mem_cons.1 hu with rfl | hu
    ·exact (hdj (b,0) List.mem_cons_self c hc).symm
    ·exact g2 u (List.mem_append_right _ hu) c hc
 obtain ⟨_,hu2⟩:=Dw hst' qQ
 have hokt:et.ok h (World.mem (w.setRow b (p ++ [c0] ++ q').toArray)):=(hst'.own (k:=Sum.inl d) hLd').2
 have hj:=hst'.Ef (e:=mJ b T' r (set y zs) (FX ++ (off,c0,et) :: GX)) qQ hLd' (fun c hc=>by
  rcases List.mem_cons.1 hc with rfl | hc
  ·exact .inl List.mem_cons_self
  ·obtain ⟨u,hu,hcu⟩:=List.mem_flatMap.1 hc
   rcases List.mem_append.1 hu with hu | hu
   ·exact .inl (List.mem_cons_of_mem _ (List.mem_flatMap.2 ⟨u,List.mem_append_left _ hu,hcu⟩))
   ·rcases List.mem_cons.1 hu with rfl | hu
    ·exact .inr hcu
    ·exact .inl (List.mem_cons_of_mem _ (List.mem_flatMap.2 ⟨u,List.mem_append_right _ hu,hcu⟩))) ⟨⟨_,hmem,hrel,fun u hu=>by
   rcases List.mem_append.1 hu with hu | hu
   ·exact hget u (List.mem_append_left _ hu)
   ·rcases List.mem_cons.1 hu with rfl | hu
    ·simp only []
     rw [List.append_assoc,List.getElem?_append_right (by omega),hp];simp
    ·exact hget u (List.mem_append_right _ hu)⟩,fun u hu=>by
   rcases List.mem_append.1 hu with hu | hu
   ·exact hu2 u (List.mem_append_left _ hu)
   ·rcases List.mem_cons.1 hu with rfl | hu
    ·exact hokt
    ·exact hu2 u (List.mem_append_right _ hu)⟩
 have hL':Ef (set1 L s (mJ b T' r (set y zs) (FX ++ GX))) s d (mJ b T' r (set y zs) (FX ++ (off,c0,et) :: GX))=Ef L s d (mJ b T' r (set y zs) (FX ++ (off,c0,et) :: GX)):=by
  funext k;unfold Ef set1
  by_cases h1:k=d
  ·rw [if_pos h1,if_pos h1]
  ·rw [if_neg h1,if_neg h1]
   by_cases h2:k=s
   ·rw [if_pos h2,if_pos h2]
   ·rw [if_neg h2,if_neg h2,if_neg h2]
 rw [hL'] at hj
 refine hnext undef h _ _ (nO.refl h) trivial hj ?_
 rw [hd]
 exact Qr hne (Wr.iff.2 ⟨b,_,hd',hta',hbo',rfl⟩)
theorem JP {sv:Value} {T T' E:TypeId} {r:Rep α} {q:Rep β} {l1 l2:List dS} {s d off sz:Nat} {x:Operand} {y:α} {zs:List β} {get:α→List β} {set:α→List β→α} {y':α} (l:Lens r (Rep.slice q) off get set) (t:kG P T (Rep.slice q)) (hap:apartB off 1 (l1 ++ l2)=true) (hsd:Nat.beq s d=false) (hd:o.dst=none)
  (ho:o.op = .store T x (.tmp d)) (hx:dD N x (tY sv off)) (hv:dD N (.tmp d) (fV (Rep.slice q) zs)) (hy':y'=set y zs):fC P o N [(s,dB (dY T' r y (l1 ++ l2)) sv),(d,dM E sz)] bC.qy [(s,some (dB (dY T' r y' (l1 ++ ⟨off,E,sz⟩ :: l2)) sv)),(d,none)]:=RI l t hap hsd hd (.val sv) ho (.val hx) hv hy'
end Go.KB
namespace Go.KB
variable {P:Program} {o:Oper} {N:List (Nat×bC)} {f:bC} {α β:Type}
def Eb (P:Program) (T:TypeId) (i:Nat):Option (TypeId×Nat) :=
 match P.underlying T with
 | some (.struct fs)=>match fs[i]? with
  | some g=>some (g.type,g.offset)
  | none=>none
 | _=>none
theorem Ov {T':TypeId} {q:Rep β} (t:kG P T' q) {h:H} {p c r:List Value} {y:β} (hc:q.rel h c y) (w:World):(part T' (p ++ c ++ r).toArray p.length).run P w = .ok (pack q.agg c) w:=by
 have hl:=q.len hc
 unfold part
 cases ha:q.agg with
 | true =>
  simp only [Sem.run_bind,t.agg,ha,Result.andThen_ok,if_true,t.size,Sem.run_pure,pack,cond_true]
  congr 2
  simp only [List.extract_toArray,List.extract_eq_take_drop]
  congr 1
  rw [List.append_assoc,List.drop_left' rfl,show p.length+q.sz - p.length=c.length by omega,List.take_left' rfl]
 | false =>
  rw [q.one ha] at hl
  match c,hl with
  | [v],_ =>
   have:(p ++ [v] ++ r).toArray[p.length]? = some v:=by simp
   simp only [Sem.run_bind,t.agg,ha,Result.andThen_ok,Bool.false_eq_true,if_false,this,Sem.run_pure,pack,cond_false]
theorem Dy {T T':TypeId} {r:Rep α} {q:Rep β} {x:Operand} {y:α} {i off:Nat} {get:α→β} {set:α→β→α} (l:Lens r q off get set) (hag:r.agg=true) (hf:Eb P T i=some (T',off)) (t:kG P T' q) (ho:o.op = .field T x i) (hx:dD N x (fV r y)) :
  fC P o N [] (fV q (get y)) [] :=
 fC.rJ fun h a w _ n=>by
  unfold Eb at hf
  split at hf
  ·rename_i fs hT
   split at hf
   ·rename_i g hg
    simp only [Option.some.injEq,Prod.mk.injEq] at hf
    obtain ⟨h1,h2⟩:=hf
    obtain ⟨cs,hr,hv⟩:=hx h a n
    obtain ⟨p,c,q',rfl,hp,hc,_⟩:=l h cs y hr
    rw [hag] at hv
    refine ⟨pack q.agg c,?_,c,hc,rfl⟩
    have:=Ov t (p:=p) (r:=q') hc w
    rw [List.append_assoc] at this
    simp [execOp,ho,hv,pack,Instr.field,run_underlying hT,hg,asAgg,h1,h2,← hp,this]
   ·cases hf
  ·cases hf
def fVN (r:Rep α) (x:α) (ts:List dS):bC:=⟨none,fun h _ v=>∃ cs,r.rel h cs x∧v=pack r.agg cs∧zu cs ts,fun hl ⟨cs,k,e,n⟩=>⟨cs,r.mono hl k,e,n⟩⟩
theorem zu.apart {p c c' q:List Value} {off sz:Nat} (hp:p.length=off) (hc:c.length=sz) (hc':c'.length=sz):∀ {ts:List dS},apartB off sz ts=true→zu (p ++ c ++ q) ts→zu (p ++ c' ++ q) ts:=by
 intro ts
 induction ts with
 | nil=>intro _ _;trivial
 | cons t ts ih =>
  intro ha hn
  have h1:=BU ha t List.mem_cons_self
  refine ⟨by rw [Qy hp hc hc' h1];exact hn.1,ih ?_ hn.2⟩
  unfold apartB at ha ⊢
  rw [List.all_cons,Bool.and_eq_true] at ha
  exact ha.2
def Ox (P:Program) (N:List (Nat×bC)) (place:Nat→Option (Nat×Nat)) {α:Type} (r:Rep α) (ts:List dS):List (Nat×Operand)→α→α→Prop
 | [],x,y=>x=y
 | (i,o) :: rest,x,y=>∃ (β:Type) (s:Rep β) (off:Nat) (get:α→β) (set:α→β→α) (z:β),Lens r s off get set∧place i=some (off,s.sz)∧apartB off s.sz ts=true∧dD N o (fV s z)∧Ox P N place r ts rest (set x z) y
theorem fillNN {place:Nat→Option (Nat×Nat)} {r:Rep α} {ts:List dS} {x:α}:Ox P N place r ts [] x x:=rfl
theorem Ro {place:Nat→Option (Nat×Nat)} {r:Rep α} {ts:List dS} {s:Rep β} {off i:Nat} {x':Operand} {get:α→β} {set:α→β→α} {z:β} {rest:List (Nat×Operand)} {x y:α} (l:Lens r s off get set) (hp:place i=some (off,s.sz)) (ha:apartB off s.sz ts=true) (ho:dD N x' (fV s z))
  (k:Ox P N place r ts rest (set x z) y):Ox P N place r ts ((i,x') :: rest) x y:=⟨β,s,off,get,set,z,l,hp,ha,ho,k⟩
theorem Ox.run {place:Nat→Option (Nat×Nat)} {r:Rep α} {ts:List dS} {h:H} {a:Act} (n:EY N h a):∀ {parts:List (Nat×Operand)} {x y:α} {cs:List Value},Ox P N place r ts parts x y→r.rel h cs x→zu cs ts →
  ∃ cs',Instr.fill place cs.toArray (parts.map fun q=>(q.1,a.eval q.2))=some cs'.toArray∧r.rel h cs' y∧zu cs' ts:=by
 intro parts
 induction parts with
 | nil=>intro x y cs k hr ht;rw [show x=y from k] at hr;exact ⟨cs,rfl,hr,ht⟩
 | cons q rest ih =>
  obtain ⟨i,op⟩:=q
  rintro x y cs ⟨β,s,off,get,set,z,l,hp,ha,ho,k⟩ hr ht
  obtain ⟨p,c,q,rfl,hpl,hc,hset⟩:=l h cs x hr
  obtain ⟨c',hc',hv⟩:=ho h a n
  simp only [List.map_cons]
  rw [Qh hc' hv hp hpl (s.len hc)]
  exact ih k (hset h c' z (nO.refl h) hc') (ht.apart hpl (s.len hc) (s.len hc') ha)
theorem Xh {T:TypeId} {r:Rep α} {place:Nat→Option (Nat×Nat)} {parts:Array (Nat×Operand)} {y:α} (ts:List dS) (t:kG P T r) (hag:r.agg=true) (hpl:lY P T place) (ho:o.op = .build T parts)
  (hz:zu r.zc ts) (k:Ox P N place r ts parts.toList r.zero y):fC P o N [] (fVN r y ts) [] :=
 fC.rJ fun h a w _ n=>by
  obtain ⟨cs',hf,hr,ht⟩:=k.run n (r.xq h) hz
  refine ⟨.agg cs'.toArray,?_,cs',hr,by rw [hag];rfl,ht⟩
  have h1:=hpl r.zc.toArray (parts.map fun q=>(q.1,a.eval q.2)) w cs'.toArray _ (t.zero w) (vK (r.xq h)) (by rw [Array.toList_map];exact hf)
  simp only [execOp,ho,Sem.run_bind,h1,Result.andThen_ok,Sem.run_pure]
theorem St.putT {κ:Type} {B:Base} {h:H} {L:Nat→Option jh} {F:κ→Option jh} {w:World} (hst:St B h (Sum.elim L F) w) {s b:Nat} {T:TypeId} {r:Rep α} {x y:α} {us:List (Nat×Value×jh)} {cs cs':List Value} {ts:List dS}
  (hk:L s=some (mJ b T r x us)) (hb:w.heap[b]? = some (.cells cs.toArray T (0,0))) (hr:r.rel h cs' y) (ht:zu cs' ts) :
  St B h (Sum.elim (set1 L s (mJ b T r y (Ht ts))) F) (w.setRow b cs'.toArray):=by
 obtain ⟨hcl,_⟩:=hst.own (k:=Sum.inl s) hk
 have hno:=(hcl (b,0) (by simp [mJ])).2.2
 have hmem:=yu w b _ cs'.toArray T hb
 refine hst.write (Sum.inl s) (e:=mJ b T r x us) hk (b:=b) (lo:=0) (by simp [mJ]) hmem (fun i hi=>setRow_other w b i cs'.toArray hi) (by simp [World.setRow]) rfl rfl rfl ?_ um ?_
 ·intro o' v hh
  rw [hno o' (Nat.zero_le _)] at hh;cases hh
 ·intro e' he
  rw [uo he]
  refine ⟨fun c hc=>?_,⟨cs',hmem,hr,ht.at⟩,fun u hu=>by rw [(IA hu).1];trivial⟩
  have hc:c ∈ (b,0) :: MN (Ht ts):=hc
  rw [J4] at hc
  simp at hc
  subst hc
  exact List.mem_cons_self
theorem RJ {T:TypeId} {r:Rep α} {ts0 ts:List dS} {s:Nat} {v:Operand} {y z:α} (t:kG P T r) (hd:o.dst=none)
  (ho:o.op = .store T (.tmp s) v) (hv:dD N v (fVN r z ts)):fC P o N [(s,dY T r y ts0)] bC.qy [(s,some (dY T r z ts))]:=by
 intro κ B F L h a w hst hn hk _ next Q hnext _
 obtain ⟨e,hL,b,us,hxv,_,_,rfl⟩:=hk.1
 have hxv':a.eval (.tmp s) = .pointer (some ⟨b,0,none⟩):=hxv
 obtain ⟨⟨cs,hb,hr,_⟩,_⟩:=Dw hst hL
 obtain ⟨c',hc',hvv,ht⟩:=hv h a hn
 have hrun:=uQ (p:=[]) (c:=cs) (q:=[]) t hc' (by simpa using hb) (r.len hr)
 unfold Oper.qB
 have:(execOp a.eval o).run P w = .ok .skip (w.setRow b c'.toArray):=by
  simp only [List.length_nil,List.nil_append,List.append_nil] at hrun
  simp only [execOp,ho,hxv',hvv,Sem.run_bind,hrun,Result.andThen_ok,Sem.run_pure]
 rw [this]
 refine hnext undef h _ _ (nO.refl h) trivial (hst.putT hL hb hc' ht) ?_
 rw [hd]
 exact nP ⟨b,_,hxv,IB ts,J5 b ts,rfl⟩
theorem Rn {T:TypeId} {r:Rep α} {ts0:List dS} {s:Nat} {v:Operand} {y z:α} (t:kG P T r) (hd:o.dst=none)
  (ho:o.op = .store T (.tmp s) v) (hv:dD N v (fV r z)):fC P o N [(s,dY T r y ts0)] bC.qy [(s,some (dY T r z []))] :=
 RJ (ts:=[]) t hd ho (fun h a n=>let ⟨cs,k,e⟩:=hv h a n;⟨cs,k,e,trivial⟩)
end Go.KB
namespace Go.KB
variable {P:Program} {o:Oper} {N:List (Nat×bC)} {α β:Type}
section
variable [DecidableEq α]
def fP (z:β):List (α×β)→α→β
 | [],_=>z
 | p :: r,x=>bif decide (x=p.1) then p.2 else fP z r x
def kH:List (α×β)→α→Bool
 | [],_=>false
 | p :: r,x=>decide (x=p.1)||kH r x
def qL:List (α×β)→α→β→List (α×β)
 | [],x,y=>[(x,y)]
 | p :: r,x,y=>bif decide (x=p.1) then (p.1,y) :: r else p :: qL r x y
def Dx:List α→α→Option Nat
 | [],_=>none
 | y :: r,x=>bif decide (x=y) then some 0 else (Dx r x).map (· + 1)
structure zh (P:Program) (K:TypeId) (rk:Rep α) (f:α→Value):Prop where
 is:∀ {h u x},rk.val h u x→u=f x
 chk:∀ (e:Bool) (w:World) (x:α),(Instr.checkKey e 10000 K (f x)).run P w = .ok () w
 find:∀ (es:List MapEntry) (ks:List α) (x:α) (w:World),es.map (·.key)=ks.map f→(Instr.findKey K (f x) es).run P w = .ok ((Dx ks x).bind fun i=>es[i]?.map fun e=>(i,e.val)) w
 bits:∀ x,Instr.sameBits 10000 (f x) (f x)=true
 val:∀ h x,rk.val h (f x) x
theorem J9 {f:α→Value} {d:TypeDesc} (hd:∀ x y,Instr.sameNow d (f x) (f y)=some (decide (x=y))) (x:α):∀ (es:List MapEntry) (ks:List α) (n:Nat),es.map (·.key)=ks.map f →
  Instr.findNow d (f x) es n=some ((Dx ks x).bind fun i=>es[i]?.map fun e=>(n+i,e.val))
 | [],[],_,_=>rfl
 | [],_ :: _,_,h=>by cases h
 | _ :: _,[],_,h=>by cases h
 | e :: es,y :: ks,n,h=>by
  simp only [List.map_cons,List.cons.injEq] at h
  by_cases hx:x=y
  ·simp only [Instr.findNow,h.1,hd,hx,decide_true,Dx,cond_true];rfl
  ·simp only [Instr.findNow,h.1,hd,decide_eq_false hx,Dx,cond_false]
   rw [J9 hd x es ks (n+1) h.2]
   cases Dx ks x with
   | none=>rfl
   | some i=>simp only [Option.map_some,Option.bind_some,List.getElem?_cons_succ];rw [show n+1+i=n+(i+1) by omega]
theorem run_findKey {K:TypeId} {d:TypeDesc} {u:Value} {es:List MapEntry} {r:Option (Nat×Value)} {w:World} (hd:P.underlying K=some d) (h:Instr.findNow d u es 0=some r):(Instr.findKey K u es).run P w = .ok r w:=by
 unfold Instr.findKey
 simp only [Sem.run_bind,run_underlying hd,Result.andThen_ok,h,Sem.run_pure]
theorem Oy {K : TypeId} {f : α → Value} {d : TypeDesc} (hK : P.underlying K = some d) (hd : ∀ x y, Instr.sameNow d (f x) (f y) = some (decide (x = y))) (es : List MapEntry) (ks : List α) (x : α) (w : World) (h : es.map (·.key) = ks.map f) :
  (Instr.findKey K (f x) es).run P w = .ok ((Dx ks x).bind fun i=>es[i]?.map fun e=>(i,e.val)) w :=
 run_findKey hK (by simpa using J9 hd x es ks 0 h)
theorem Ko {K:TypeId} {f:α→Value} (hq:∀ x y w,(Op.equal K (f x) (f y)).run P w = .ok (decide (x=y)) w) (x:α) (w:World):∀ (es:List MapEntry) (ks:List α) (n:Nat),es.map (·.key)=ks.map f →
  (Instr.findAsking K (f x) es n).run P w = .ok ((Dx ks x).bind fun i=>es[i]?.map fun e=>(n+i,e.val)) w
 | [],[],_,_=>rfl
 | [],_ :: _,_,h=>by cases h
 | _ :: _,[],_,h=>by cases h
 | e :: es,y :: ks,n,h=>by
  simp only [List.map_cons,List.cons.injEq] at h
  by_cases hx:x=y
  ·simp only [Instr.findAsking,h.1,Sem.run_bind,hq,Result.andThen_ok,hx,decide_true,Dx,cond_true,if_true];rfl
  ·simp only [Instr.findAsking,h.1,Sem.run_bind,hq,Result.andThen_ok,decide_eq_false hx,Dx,cond_false,Bool.false_eq_true,if_false]
   rw [Ko hq x w es ks (n+1) h.2]
   cases Dx ks x with
   | none=>rfl
   | some i=>simp only [Option.map_some,Option.bind_some,List.getElem?_cons_succ];rw [show n+1+i=n+(i+1) by omega]
theorem Xj {K:TypeId} {f:α→Value} {d:TypeDesc} (hK:P.underlying K=some d) (hn:∀ x y,Instr.sameNow d (f x) (f y)=none) (hq:∀ x y w,(Op.equal K (f x) (f y)).run P w = .ok (decide (x=y)) w)
  (es:List MapEntry) (ks:List α) (x:α) (w:World) (h:es.map (·.key)=ks.map f) :
  (Instr.findKey K (f x) es).run P w = .ok ((Dx ks x).bind fun i=>es[i]?.map fun e=>(i,e.val)) w:=by
 cases es with
 | nil=>cases ks with
  | nil=>exact run_findKey hK rfl
  | cons y r=>cases h
 | cons e r =>
  have h1:Instr.findNow d (f x) (e :: r) 0=none:=by
   cases ks with
   | nil=>cases h
   | cons y ks =>
    simp only [List.map_cons,List.cons.injEq] at h
    simp only [Instr.findNow,h.1,hn]
  unfold Instr.findKey
  simp only [Sem.run_bind,run_underlying hK,Result.andThen_ok,h1]
  simpa using Ko hq x w (e :: r) ks 0 h
def bJ (s:Str):Value:=.string ⟨s.toArray⟩
theorem zh.str {K:TypeId} (hK:P.underlying K=some .string):zh P K Rep.str bJ where
 is:=fun e=>uq.1 e
 chk:=fun e w x=>MapKept.run_checkKey hK (by trivial) e 9999
 find:=Oy hK fun x y=>by
  simp only [Instr.sameNow,bJ]
  congr 1
  rw [Bool.eq_iff_iff,MapKept.bytes_beq]
  simp
 bits:=fun x=>(MapKept.bytes_beq _ _).2 rfl
 val:=fun _ _=>uq.2 rfl
def kInt (k:IntKind) (n:Int):Value:=.int k n
theorem zh.int {K:TypeId} {k:IntKind} (hK:P.underlying K=some (.int k)):zh P K (Rep.int k) (kInt k) where
 is:=fun e=>nD.1 e
 chk:=fun e w x=>MapKept.run_checkKey hK (by trivial) e 9999
 find:=Oy hK fun x y=>by
  simp only [Instr.sameNow,kInt,if_true]
  congr 1
 bits:=fun x=>by simp [Instr.sameBits,kInt]
 val:=fun _ _=>nD.2 rfl
end
def zi (f:α→Value) (rv:Rep β) (h:H):List MapEntry→List (α×β)→Prop
 | [],[]=>True
 | e :: es,p :: l=>(e.key=f p.1∧rv.val h e.val p.2)∧zi f rv h es l
 | _,_=>False
theorem zi.mono {f:α→Value} {rv:Rep β} {h h':H} (hl:nO h h'):∀ {es:List MapEntry} {l:List (α×β)},zi f rv h es l→zi f rv h' es l
 | [],[],_=>trivial
 | _ :: _,_ :: _,⟨⟨a,b⟩,c⟩=>⟨⟨a,rv.NE hl b⟩,zi.mono hl c⟩
theorem zi.keys {f : α → Value} {rv : Rep β} {h : H} : ∀ {es : List MapEntry} {l : List (α × β)}, zi f rv h es l → es.map (·.key) = (l.map (·.1)).map f
 | [],[],_=>rfl
 | _ :: _,_ :: _,⟨⟨a,_⟩,c⟩=>by simp only [List.map_cons,a,zi.keys c]
theorem zi.snoc {f:α→Value} {rv:Rep β} {h:H} {e:MapEntry} {p:α×β} (he:e.key=f p.1∧rv.val h e.val p.2):∀ {es:List MapEntry} {l:List (α×β)},zi f rv h es l→zi f rv h (es ++ [e]) (l ++ [p])
 | [],[],_=>⟨he,trivial⟩
 | _ :: _,_ :: _,⟨a,c⟩=>⟨a,zi.snoc he c⟩
def y8 (es:List MapEntry) (c:Nat):Prop:=(es.map (·.born)).Nodup∧∀ e ∈ es,e.born<c
theorem y8.push {es:List MapEntry} {c:Nat} {k v:Value} (h:y8 es c):y8 (es ++ [{ key:=k,val:=v,born:=c }]) (c+1):=by
 refine ⟨?_,fun e he=>?_⟩
 ·rw [List.map_append,List.nodup_append]
  refine ⟨h.1,by simp,fun a ha b hb=>?_⟩
  obtain ⟨e,he,rfl⟩:=List.mem_map.1 ha
  simp only [List.map_cons,List.map_nil,List.mem_singleton] at hb
  have:=h.2 e he
  omega
 ·rcases List.mem_append.1 he with he | he
  ·have:=h.2 e he;omega
  ·simp only [List.mem_singleton] at he;subst he;exact Nat.lt_succ_self _
theorem y8.modify {es:List MapEntry} {c j:Nat} {g:MapEntry→MapEntry} (hg:∀ e,(g e).born=e.born) (h:y8 es c):y8 (es.modify j g) c:=by
 have hm:(es.modify j g).map (·.born)=es.map (·.born):=by
  refine List.ext_getElem? fun m=>?_
  simp only [List.getElem?_map,List.getElem?_modify]
  cases es[m]? with
  | none=>rfl
  | some e=>simp only [Option.map_some];split <;> simp [hg]
 refine ⟨by rw [hm];exact h.1,fun e he=>?_⟩
 have:e.born ∈ (es.modify j g).map (·.born):=List.mem_map.2 ⟨e,he,rfl⟩
 rw [hm] at this
 obtain ⟨e',he',hb⟩:=List.mem_map.1 this
 rw [← hb];exact h.2 e' he'
theorem y8.eraseIdx {es:List MapEntry} {c i:Nat} (h:y8 es c):y8 (es.eraseIdx i) c :=
 ⟨(List.Sublist.map _ (List.eraseIdx_sublist es i)).nodup h.1,fun e he=>h.2 e ((List.eraseIdx_sublist es i).subset he)⟩
def qP (b:Nat) (f:α→Value) (rv:Rep β) (l:List (α×β)):jh where
 claims:=[(b,0)]
 ok:=fun h m=>∃ es clock,m b=some (.map es clock)∧zi f rv h es.toList l∧y8 es.toList clock
 mono:=by rintro h h' m hl ⟨es,c,e,k⟩;exact ⟨es,c,e,k.1.mono hl,k.2⟩
 frame:=fun hm ⟨es,c,e,k⟩=>⟨es,c,by rw [hm (b,0) (by simp)];exact e,k⟩
def bH (f:α→Value) (rv:Rep β) (l:List (α×β)):gK:=fun v e=>∃ b,v = .map (some b)∧e=qP b f rv l
theorem D8 {T:TypeId} {f:α→Value} {rv:Rep β} {d:Nat} (hd:o.dst=some d) (ho:o.op = .makeMap T none):fC P o N [] bC.qy [(d,some (bH f rv []))]:=by
 intro κ B F L h a w hst hn _ hdn next Q hnext _
 unfold Oper.qB
 have:(execOp a.eval o).run P w = .ok (.value (.map (some w.heap.size))) (w.alloc (.map #[] 0)):=by
  have e:(Instr.makeMap T none).run P w = .ok (.map (some w.heap.size)) (w.alloc (.map #[] 0)):=rfl
  simp only [execOp,ho,Option.map_none,Sem.run_bind,e,Result.andThen_ok,Sem.run_pure]
 rw [this]
 refine hnext _ h _ (set1 L d (qP w.heap.size f rv [])) (nO.refl h) trivial (hst.zS _ d _ (by simp [qP]) ⟨#[],0,zT _ _,trivial,by simp [y8]⟩) ?_
 rw [hd]
 exact nP ⟨_,iQ (hdn d hd),rfl⟩
theorem YZ {κ:Type} {B:Base} {h:H} {L:Nat→Option jh} {F:κ→Option jh} {w:World} (hst:St B h (Sum.elim L F) w) {s b:Nat} {f:α→Value} {rv:Rep β} {l:List (α×β)}
  (hk:L s=some (qP b f rv l)):∃ es clock,w.heap[b]? = some (.map es clock)∧zi f rv h es.toList l :=
 let ⟨es,c,h1,h2,_⟩:=(hst.own (k:=Sum.inl s) hk).2
 ⟨es,c,h1,h2⟩
theorem Np {κ:Type} {B:Base} {h:H} {L:Nat→Option jh} {F:κ→Option jh} {w:World} (hst:St B h (Sum.elim L F) w) {s b:Nat} {f:α→Value} {rv:Rep β} {l:List (α×β)}
  (hk:L s=some (qP b f rv l)):∃ es clock,w.heap[b]? = some (.map es clock)∧zi f rv h es.toList l∧y8 es.toList clock:=(hst.own (k:=Sum.inl s) hk).2
section
variable [DecidableEq α]
theorem Kq {f:α→Value} {rv:Rep β} {h:H} (x:α):∀ {es:List MapEntry} {l:List (α×β)},zi f rv h es l →
    (Dx (l.map (·.1)) x=none∧kH l x=false∧(∀ z,fP z l x=z)∧∀ y,qL l x y=l ++ [(x,y)]) ∨
    ∃ i e0,Dx (l.map (·.1)) x=some i∧es[i]? = some e0∧e0.key=f x∧kH l x=true∧(∀ z,rv.val h e0.val (fP z l x)) ∧
      ∀ g y,(∀ e,(g e).key=e.key)→(∀ e,rv.val h (g e).val y)→zi f rv h (es.modify i g) (qL l x y)
  | [],[],_=>.inl ⟨rfl,rfl,fun _=>rfl,fun _=>rfl⟩
  | e :: es,p :: l,⟨⟨hk,hv⟩,hr⟩=>by
    by_cases hx:x=p.1
    · refine .inr ⟨0, e, ?_, rfl, by rw [hk, hx], by simp [kH, hx], fun z => by simpa [fP, hx] using hv, fun g y hg hy => ?_⟩
      · simp only [List.map_cons,Dx,hx,decide_true,cond_true]
      · simp only [List.modify_zero_cons,qL,hx,decide_true,cond_true]
        exact ⟨⟨by rw [hg,hk],hy e⟩,hr⟩
    · rcases Kq x hr with ⟨h1,h2,h3,h4⟩ | ⟨i,e0,h1,h2,h3,h4,h5,h6⟩
      · exact .inl ⟨by simp [Dx,hx,h1],by simp [kH,hx,h2],fun z=>by simp [fP,hx,h3],fun y=>by simp [qL,hx,h4]⟩
      · refine .inr ⟨i + 1, e0, by simp [Dx, hx, h1], by simpa using h2, h3, by simp [kH, h4], fun z => by simpa [fP, hx] using h5 z, fun g y hg hy => ?_⟩
        simp only [List.modify_succ_cons,qL,hx,decide_false,cond_false]
        exact ⟨⟨hk,hv⟩,h6 g y hg hy⟩
theorem IC {K:TypeId} {rk:Rep α} {f:α→Value} (hf:zh P K rk f) {rv:Rep β} {h:H} {es:List MapEntry} {l:List (α×β)} (hr:zi f rv h es l) {x:α} (h1:Dx (l.map (·.1)) x=none) (w:World):(Instr.findKey K (f x) es).run P w = .ok none w:=by
 rw [hf.find _ _ x w hr.keys,h1];rfl
theorem IE {K:TypeId} {rk:Rep α} {f:α→Value} (hf:zh P K rk f) {rv:Rep β} {h:H} {es:List MapEntry} {l:List (α×β)} (hr:zi f rv h es l) {x:α} {i:Nat} {e0:MapEntry} (h1:Dx (l.map (·.1)) x=some i) (h2:es[i]? = some e0) (w:World):(Instr.findKey K (f x) es).run P w = .ok (some (i,e0.val)) w:=by
 rw [hf.find _ _ x w hr.keys,h1,Option.bind_some,h2];rfl
end
section
variable [DecidableEq α]
theorem Oz {T K E:TypeId} {rk:Rep α} {f:α→Value} {rv:Rep β} {s:Nat} {x i:Operand} {l:List (α×β)} {y:α} (hf:zh P K rk f) (t:kG P E rv) (hT:P.underlying T=some (.map K E))
  (W:Wr) (ho:o.op = .lookup T x i false) (hx:TQ N x W s) (hi:dD N i (fV rk y)):fC P o N [(s,W.ap (bH f rv l))] (fV rv (fP rv.zero l y)) []:=by
 intro κ B F L h a w hst hn hk _ next Q hnext _
 obtain ⟨e,hL,hq⟩:=hk.1
 obtain ⟨b,hv,rfl⟩:=Wr.iff.1 hq
 have hx':a.eval x = .map (some b):=(hx h a hn).trans hv
 have hi':=hf.is (hi h a hn)
 obtain ⟨es,clock,hb,hr⟩:=YZ hst hL
 rcases Kq y hr with ⟨h1,_,h3,_⟩ | ⟨j,e0,h1,h2,_,_,h5,_⟩
 ·have:(execOp a.eval o).run P w = .ok (.value (pack rv.agg rv.zc)) w:=by
   simp [execOp,ho,hx',hi',Instr.lookup,run_underlying hT,MapKept.run_getObj_map hb,hf.chk,IC hf hr h1,t.zero]
  unfold Oper.qB
  rw [this]
  exact hnext _ h w L (nO.refl h) ⟨rv.zc,by rw [h3];exact rv.xq h,rfl⟩ hst nY
 ·have:(execOp a.eval o).run P w = .ok (.value e0.val) w:=by
   simp [execOp,ho,hx',hi',Instr.lookup,run_underlying hT,MapKept.run_getObj_map hb,hf.chk,IE hf hr h1 h2]
  unfold Oper.qB
  rw [this]
  exact hnext _ h w L (nO.refl h) (h5 _) hst nY
theorem TT {T K E:TypeId} {rk:Rep α} {f:α→Value} {rv:Rep β} {s:Nat} {x i:Operand} {l:List (α×β)} {y:α} (hf:zh P K rk f) (t:kG P E rv) (hT:P.underlying T=some (.map K E))
  (W:Wr) (ho:o.op = .lookup T x i true) (hx:TQ N x W s) (hi:dD N i (fV rk y)):fC P o N [(s,W.ap (bH f rv l))] (BZ (fV rv (fP rv.zero l y)) (fV Rep.bool (kH l y))) []:=by
 intro κ B F L h a w hst hn hk _ next Q hnext _
 obtain ⟨e,hL,hq⟩:=hk.1
 obtain ⟨b,hv,rfl⟩:=Wr.iff.1 hq
 have hx':a.eval x = .map (some b):=(hx h a hn).trans hv
 have hi':=hf.is (hi h a hn)
 obtain ⟨es,clock,hb,hr⟩:=YZ hst hL
 rcases Kq y hr with ⟨h1,h2,h3,_⟩ | ⟨j,e0,h1,h2,_,h4,h5,_⟩
 ·have:(execOp a.eval o).run P w = .ok (.value (.tuple #[pack rv.agg rv.zc,.bool false])) w:=by
   simp [execOp,ho,hx',hi',Instr.lookup,run_underlying hT,MapKept.run_getObj_map hb,hf.chk,IC hf hr h1,t.zero]
  unfold Oper.qB
  rw [this]
  exact hnext _ h w L (nO.refl h) ⟨_,_,rfl,⟨rv.zc,by rw [h3];exact rv.xq h,rfl⟩,kV.2 (by rw [h2])⟩ hst nY
 ·have:(execOp a.eval o).run P w = .ok (.value (.tuple #[e0.val,.bool true])) w:=by
   simp [execOp,ho,hx',hi',Instr.lookup,run_underlying hT,MapKept.run_getObj_map hb,hf.chk,IE hf hr h1 h2]
  unfold Oper.qB
  rw [this]
  exact hnext _ h w L (nO.refl h) ⟨_,_,rfl,h5 _,kV.2 (by rw [h4])⟩ hst nY
theorem Lh {T K E:TypeId} {rk:Rep α} {f:α→Value} {rv:Rep β} {s:Nat} {x i:Operand} {l:List (α×β)} {y:α} (hf:zh P K rk f) (t:kG P E rv) (hT:P.underlying T=some (.map K E))
  (ho:o.op = .lookup T x i false) (hx:dD N x (UH s)) (hi:dD N i (fV rk y)):fC P o N [(s,bH f rv l)] (fV rv (fP rv.zero l y)) []:=Oz hf t hT .slot ho (.slot hx) hi
theorem wY {T K E:TypeId} {rk:Rep α} {f:α→Value} {rv:Rep β} {s:Nat} {sv:Value} {x i:Operand} {l:List (α×β)} {y:α} (hf:zh P K rk f) (t:kG P E rv) (hT:P.underlying T=some (.map K E))
  (ho:o.op = .lookup T x i false) (hx:dD N x (gJ sv)) (hi:dD N i (fV rk y)):fC P o N [(s,dB (bH f rv l) sv)] (fV rv (fP rv.zero l y)) []:=Oz hf t hT (.val sv) ho (.val hx) hi
theorem zJ {T K E:TypeId} {rk:Rep α} {f:α→Value} {rv:Rep β} {s:Nat} {sv:Value} {x i:Operand} {l:List (α×β)} {y:α} (hf:zh P K rk f) (t:kG P E rv) (hT:P.underlying T=some (.map K E))
  (ho:o.op = .lookup T x i true) (hx:dD N x (gJ sv)) (hi:dD N i (fV rk y)):fC P o N [(s,dB (bH f rv l) sv)] (BZ (fV rv (fP rv.zero l y)) (fV Rep.bool (kH l y))) []:=TT hf t hT (.val sv) ho (.val hx) hi
theorem run_keyThatStays {u:Value} {w:World} (h:Instr.sameBits 10000 u u=true):(Instr.keyThatStays u u).run P w = .ok u w:=by
 unfold Instr.keyThatStays
 rw [if_pos h];rfl
def xY (w:World) (b:Nat) (o:Obj):World:={ w with heap:=w.heap.setIfInBounds b o }
theorem OA {w:World} {b:Nat} {o o':Obj} (hb:w.heap[b]? = some o):(xY w b o').heap[b]? = some o':=by
 have:=(Array.getElem?_eq_some_iff.1 hb).1
 simp [xY,this]
theorem OB {w:World} {b i:Nat} {o':Obj} (hi:i≠b):(xY w b o').heap[i]? = w.heap[i]?:=by
 simp [xY,Ne.symm hi]
theorem I7 {T K E:TypeId} {rk:Rep α} {f:α→Value} {rv:Rep β} {s:Nat} {x i v:Operand} {l:List (α×β)} {y:α} {z:β} (hf:zh P K rk f) (hT:P.underlying T=some (.map K E)) (hd:o.dst=none)
    (W:Wr) (ho:o.op = .mapUpdate T x i v∨o.op = .insert T x i v) (hx:TQ N x W s) (hi:dD N i (fV rk y)) (hv:dD N v (fV rv z)):fC P o N [(s,W.ap (bH f rv l))] bC.qy [(s,some (W.ap (bH f rv (qL l y z))))]:=by
  intro κ B F L h a w hst hn hk _ next Q hnext _
  obtain ⟨e,hL,hq⟩:=hk.1
  obtain ⟨b,hvb,rfl⟩:=Wr.iff.1 hq
  have hx':a.eval x = .map (some b):=(hx h a hn).trans hvb
  have hi':=hf.is (hi h a hn)
  have hv':=hv h a hn
  obtain ⟨es,clock,hb,hr,hB⟩:=Np hst hL
  have fin:∀ es' clock',zi f rv h es'.toList (qL l y z)→y8 es'.toList clock'→(execOp a.eval o).run P w = .ok .skip (xY w b (.map es' clock'))→o.qB P a w next Q:=by
    intro es' clock' hrel hbn hrun
    unfold Oper.qB
    rw [hrun]
    refine hnext undef h _ (set1 L s (qP b f rv (qL l y z))) (nO.refl h) trivial ?_ ?_
    · obtain ⟨hcl,_⟩:=hst.own (k:=Sum.inl s) hL
      have hno:=(hcl (b,0) (by simp [qP])).2.2
      have hlt:=(hcl (b,0) (by simp [qP])).2.1
      refine hst.step (hnf:=hst.KP (k:=Sum.inl s) hL (by simp [qP])) (Sum.inl s) (fun i=>i=b) (fun i hi _=>⟨_,hL,(b,0),by simp [qP],hi.symm⟩) (by simp [xY]) rfl rfl rfl (fun i _ hi=>OB hi) (nO.refl h) (fun _ _ _ _=>rfl) ?_ um ?_
      · rintro i o' u (rfl | hi) hu
        · rw [hno o' (Nat.zero_le _)] at hu;cases hu
        · rw [hst.fresh hi] at hu;cases hu
      · intro e' he
        rw [uo he]
        refine ⟨fun c hc=>?_,es',clock',OA hb,hrel,hbn⟩
        simp only [qP,List.mem_singleton] at hc
        subst hc
        exact ⟨.inr ⟨_,hL,(b,0),by simp [qP],rfl⟩,by simpa [xY] using hlt,fun o' _=>hno o' (Nat.zero_le _)⟩
    · rw [hd]
      exact nP (Wr.iff.2 ⟨b,hvb,rfl⟩)
  rcases Kq y hr with ⟨h1,_,_,h4⟩ | ⟨j,e0,h1,h2,h3,_,_,h6⟩
  · refine fin (es.push { key := f y, val := a.eval v, born := clock }) (clock + 1) ?_ (by rw [Array.toList_push]; exact hB.push) ?_
    · rw [h4,Array.toList_push]
      exact zi.snoc (e:=⟨f y,a.eval v,clock⟩) (p:=(y,z)) ⟨rfl,hv'⟩ hr
    · rcases ho with ho | ho <;> simp [execOp,ho,hx',hi',Instr.mapUpdate,run_underlying hT,MapKept.run_getObj_map hb,hf.chk,IC hf hr h1,MapKept.run_setObj_map _ hb,xY]
  · have h2' : es[j]? = some e0 := by simpa using h2
    refine fin (es.modify j fun e=>{ e with key:=f y,val:=a.eval v }) clock ?_ (by rw [Array.toList_modify];exact hB.modify (fun _=>rfl)) ?_
    · have hkey:es.toList.modify j (fun e=>{ e with key:=f y,val:=a.eval v })=es.toList.modify j (fun e=>{ e with val:=a.eval v }):=by
        refine List.ext_getElem? fun m=>?_
        simp only [List.getElem?_modify]
        by_cases hm:j=m
        · subst hm;simp [h2',← h3]
        · simp [hm]
      rw [Array.toList_modify,hkey]
      exact h6 _ z (fun _=>rfl) (fun _=>hv')
    · rcases ho with ho | ho <;> simp [execOp,ho,hx',hi',Instr.mapUpdate,run_underlying hT,MapKept.run_getObj_map hb,hf.chk,IE hf hr h1 h2,h2',h3,run_keyThatStays (hf.bits y),MapKept.run_setObj_map _ hb,xY]
theorem JV {T K E:TypeId} {rk:Rep α} {f:α→Value} {rv:Rep β} {s:Nat} {x i v:Operand} {l:List (α×β)} {y:α} {z:β} (hf:zh P K rk f) (hT:P.underlying T=some (.map K E)) (hd:o.dst=none)
  (ho:o.op = .mapUpdate T x i v∨o.op = .insert T x i v) (hx:dD N x (UH s)) (hi:dD N i (fV rk y)) (hv:dD N v (fV rv z)):fC P o N [(s,bH f rv l)] bC.qy [(s,some (bH f rv (qL l y z)))]:=I7 hf hT hd .slot ho (.slot hx) hi hv
theorem xK {T K E:TypeId} {rk:Rep α} {f:α→Value} {rv:Rep β} {s:Nat} {sv:Value} {x i v:Operand} {l:List (α×β)} {y:α} {z:β} (hf:zh P K rk f) (hT:P.underlying T=some (.map K E)) (hd:o.dst=none)
  (ho:o.op = .mapUpdate T x i v∨o.op = .insert T x i v) (hx:dD N x (gJ sv)) (hi:dD N i (fV rk y)) (hv:dD N v (fV rv z)):fC P o N [(s,dB (bH f rv l) sv)] bC.qy [(s,some (dB (bH f rv (qL l y z)) sv))]:=I7 hf hT hd (.val sv) ho (.val hx) hi hv
def Hl:List (α×β)→α→List (α×β)
 | [],_=>[]
 | p :: r,x=>bif decide (x=p.1) then r else p :: Hl r x
theorem TU {f:α→Value} {rv:Rep β} {h:H} (x:α):∀ {es:List MapEntry} {l:List (α×β)},zi f rv h es l →
    (Dx (l.map (·.1)) x=none∧Hl l x=l)∨∃ i e0,Dx (l.map (·.1)) x=some i∧es[i]? = some e0∧zi f rv h (es.eraseIdx i) (Hl l x)
  | [],[],_=>.inl ⟨rfl,rfl⟩
  | e :: es,p :: l,⟨⟨hk,hv⟩,hr⟩=>by
    by_cases hx:x=p.1
    · refine .inr ⟨0,e,?_,rfl,?_⟩
      · simp only [List.map_cons,Dx,hx,decide_true,cond_true]
      · simpa [Hl,hx] using hr
    · rcases TU x hr with ⟨h1,h2⟩ | ⟨i,e0,h1,h2,h3⟩
      · exact .inl ⟨by simp [Dx,hx,h1],by simp [Hl,hx,h2]⟩
      · refine .inr ⟨i + 1, e0, by simp [Dx, hx, h1], by simpa using h2, ?_⟩
        simp only [List.eraseIdx_cons_succ,Hl,hx,decide_false,cond_false]
        exact ⟨⟨hk,hv⟩,h3⟩
theorem Vp {T K E:TypeId} {rk:Rep α} {f:α→Value} {rv:Rep β} {s:Nat} {x i:Operand} {l:List (α×β)} {y:α} {ts:Array TypeId} (hf:zh P K rk f) (hT:P.underlying T=some (.map K E)) (hts:ts[0]? = some T) (W:Wr)
    (ho:o.op = .call { callee:=.builtin .delete,args:=#[x,i],argTypes:=ts }) (hx:TQ N x W s) (hi:dD N i (fV rk y)) (hds:LP o.dst s=true):fC P o N [(s,W.ap (bH f rv l))] bC.qy [(s,some (W.ap (bH f rv (Hl l y))))]:=by
  intro κ B F L h a w hst hn hk _ next Q hnext _
  obtain ⟨e,hL,hq⟩:=hk.1
  obtain ⟨b,hvb,rfl⟩:=Wr.iff.1 hq
  have hx':a.eval x = .map (some b):=(hx h a hn).trans hvb
  have hi':=hf.is (hi h a hn)
  obtain ⟨es,clock,hb,hr,hB⟩:=Np hst hL
  have hgs:∀ v,(a.put o.dst v).gt s=a.gt s:=fun v=>zA (by
    intro hd;unfold LP at hds;rw [hd] at hds
    simp [Nat.beq_refl] at hds)
  have fin:∀ es':Array MapEntry,zi f rv h es'.toList (Hl l y)→y8 es'.toList clock→(execOp a.eval o).run P w = .ok (.value (.tuple #[])) (xY w b (.map es' clock))→o.qB P a w next Q:=by
    intro es' hrel hbn hrun
    unfold Oper.qB
    rw [hrun]
    refine hnext _ h _ (set1 L s (qP b f rv (Hl l y))) (nO.refl h) trivial ?_ ?_
    · obtain ⟨hcl,_⟩:=hst.own (k:=Sum.inl s) hL
      have hno:=(hcl (b,0) (by simp [qP])).2.2
      have hlt:=(hcl (b,0) (by simp [qP])).2.1
      refine hst.step (hnf:=hst.KP (k:=Sum.inl s) hL (by simp [qP])) (Sum.inl s) (fun i=>i=b) (fun i hi _=>⟨_,hL,(b,0),by simp [qP],hi.symm⟩) (by simp [xY]) rfl rfl rfl (fun i _ hi=>OB hi) (nO.refl h) (fun _ _ _ _=>rfl) ?_ um ?_
      · rintro i o' u (rfl | hi) hu
        · rw [hno o' (Nat.zero_le _)] at hu;cases hu
        · rw [hst.fresh hi] at hu;cases hu
      · intro e' he
        rw [uo he]
        refine ⟨fun c hc=>?_,es',clock,OA hb,hrel,hbn⟩
        simp only [qP,List.mem_singleton] at hc
        subst hc
        exact ⟨.inr ⟨_,hL,(b,0),by simp [qP],rfl⟩,by simpa [xY] using hlt,fun o' _=>hno o' (Nat.zero_le _)⟩
    · refine nP ?_
      rw [hgs]
      exact Wr.iff.2 ⟨b,hvb,rfl⟩
  rcases TU y hr with ⟨h1,h2⟩ | ⟨j,e0,h1,h2,h3⟩
  · refine fin es (by rw [h2]; exact hr) hB ?_
    simp [execOp,ho,resolve,invoke,builtin,Builtin.delete_,hts,hx',hi',run_underlying hT,MapKept.run_getObj_map hb,hf.chk,IC hf hr h1,MapKept.run_setObj_map _ hb,xY]
  · refine fin (es.eraseIdxIfInBounds j) (by rw [Array.toList_eraseIdxIfInBounds]; exact h3) (by rw [Array.toList_eraseIdxIfInBounds]; exact hB.eraseIdx) ?_
    simp [execOp,ho,resolve,invoke,builtin,Builtin.delete_,hts,hx',hi',run_underlying hT,MapKept.run_getObj_map hb,hf.chk,IE hf hr h1 h2,MapKept.run_setObj_map _ hb,xY]
theorem Va {T K E:TypeId} {rk:Rep α} {f:α→Value} {rv:Rep β} {s:Nat} {sv:Value} {x i:Operand} {l:List (α×β)} {y:α} {ts:Array TypeId} (hf:zh P K rk f) (hT:P.underlying T=some (.map K E)) (hts:ts[0]? = some T)
  (ho:o.op = .call { callee:=.builtin .delete,args:=#[x,i],argTypes:=ts }) (hx:dD N x (gJ sv)) (hi:dD N i (fV rk y)) (hds:LP o.dst s=true):fC P o N [(s,dB (bH f rv l) sv)] bC.qy [(s,some (dB (bH f rv (Hl l y)) sv))]:=Vp hf hT hts (.val sv) ho (.val hx) hi hds
end
end Go.KB
namespace Go.KB
variable {P:Program} {o:Oper} {N:List (Nat×bC)} {α β:Type}
def Y0 (r:Rep α) (h:H) (v:Value):Option α→Prop
 | none=>v = .pointer none
 | some x=>∃ b off,v = .pointer (some ⟨b,off,none⟩)∧zQ r h b off x
def Rep.ptr (r:Rep α):Rep (Option α) where
 sz:=1
 agg:=false
 rel:=fun h cs x=>∃ v,cs=[v]∧Y0 r h v x
 zero:=none
 zc:=[.pointer none]
 one:=fun _=>rfl
 len:=fun ⟨v,e,_⟩=>by rw [e];rfl
 flat:=fun {h cs x} ⟨v,e,k⟩ c hc=>by
  rw [e] at hc;simp at hc;rw [hc]
  cases x with
  | none=>rw [show v=_ from k];rfl
  | some x=>obtain ⟨b,off,rfl,_⟩:=k;rfl
 mono:=fun {h h' cs x} hl ⟨v,e,k⟩=>⟨v,e,by
  cases x with
  | none=>exact k
  | some x=>obtain ⟨b,off,e,k⟩:=k;exact ⟨b,off,e,k.mono hl⟩⟩
 xq:=fun _=>⟨_,rfl,rfl⟩
theorem Wl {r:Rep α} {h:H} {v:Value} {x:Option α}:(Rep.ptr r).val h v x↔Y0 r h v x :=
 ⟨fun ⟨_,⟨v',e,k⟩,e'⟩=>by rw [e',e];exact k,fun k=>⟨[v],⟨v,rfl,k⟩,rfl⟩⟩
theorem NZ {r:Rep α}:dD N (.const (.pointer none)) (fV (Rep.ptr r) none):=fun _ _ _=>Wl.2 rfl
theorem KX {T T':TypeId} {r:Rep α} {x:Operand} {q:Option α} (hT:P.underlying T=some (.pointer (P.pointee T))) (ho:o.op = .binOp .eql T x (.const (.pointer none)) T') (hx:dD N x (fV (Rep.ptr r) q)):fC P o N [] (fV Rep.bool q.isNone) [] :=
 fC.rJ fun h a w _ n=>by
  have hg:∀ p,(eqGuard .eql T x (.const (.pointer none)) (.pointer p) (.pointer none)).run P w = .ok () w:=by
   intro p;unfold eqGuard;rfl
  have hv:=Wl.1 (hx h a n)
  cases q with
  | none =>
   have hv:a.eval x = .pointer none:=hv
   exact ⟨.bool true,by simp only [execOp,ho,hv,show a.eval (.const (.pointer none)) = .pointer none from rfl,hg,Sem.run_bind,Result.andThen_ok,Sem.run_pure,run_eql_pointer_nil w T none hT];rfl,kV.2 rfl⟩
  | some y =>
   obtain ⟨b,off,hv,_⟩:=hv
   exact ⟨.bool false,by simp only [execOp,ho,hv,show a.eval (.const (.pointer none)) = .pointer none from rfl,hg,Sem.run_bind,Result.andThen_ok,Sem.run_pure,run_eql_pointer_nil w T (some ⟨b,off,none⟩) hT];rfl,kV.2 rfl⟩
end Go.KB
namespace Go.KB
variable {P:Program} {o:Oper} {N:List (Nat×bC)} {α β:Type}
theorem Fq {s i:Nat} {ι:Type} {q0 q0':gK} {q q':ι→gK} {fx:bC} {f:FuncId} {fn:Func} {args:List bC} {post:bC} {xs:Array Operand} {ts:Array TypeId} {y:Operand}
  (hc:∀ k,VI P f args i (q k) (q' k) post) (hb:DI s fx q0 q0' q q') (hfx:fx.dep=some s) (hf:P.funcs[f]? = some fn) (hbd:vO fn=true) (hd:qw (post :: args)=true) (hds:LP o.dst s=true)
  (ho:o.op = .call { callee:=.value (.func f),args:=xs,argTypes:=ts }) (hy:xs.toList[i]? = some y) (hyx:dD N y fx) (hargs:wW N args xs.toList):fC P o N [(s,q0)] bC.qy [(s,some q0')] :=
 fC.out (oz hd post List.mem_cons_self) (fun _ _ _ _=>trivial) (X8 hc hb hfx hf hbd hd hds ho hy hyx hargs)
end Go.KB
namespace Go.KB
variable {P:Program} {o:Oper} {N:List (Nat×bC)} {α β:Type}
def NM:bC:=⟨none,fun _ _ v=>v = .slice none 0 0,fun _ x=>x⟩
theorem opdN0:dD N (.const (.slice none 0 0)) NM:=fun _ _ _=>rfl
theorem opdNS {r:Rep α} {x:Operand} (hx:dD N x NM):dD N x (fV (Rep.slice r) []):=fun h a n=>by
 rw [show a.eval x=_ from hx h a n]
 exact nR.2 (.inl ⟨⟨none,rfl⟩,rfl⟩)
theorem OC (z:Array Value) (n:Nat):(Builtin.zeroCells z (n+1)).toList=z.toList ++ (Builtin.zeroCells z n).toList:=by
  unfold Builtin.zeroCells
  simp only [Array.toList_map,Array.toList_range]
  rw [show (n+1) * z.size=z.size+n * z.size by rw [Nat.add_mul];omega,List.range_add,List.map_append,List.map_map]
  congr 1
  · refine List.ext_getElem (by simp) fun i h1 h2 => ?_
    have hi:i<z.size:=by simpa using h2
    simp [Nat.mod_eq_of_lt hi,hi]
  · refine List.map_congr_left fun i _ => ?_
    simp
theorem Hu (z:List Value):∀ n,(Builtin.zeroCells z.toArray n).toList=(List.replicate n z).flatten
 | 0=>by simp [Builtin.zeroCells]
 | n+1=>by rw [OC,Hu z n,List.replicate_succ,List.flatten_cons]
end Go.KB
namespace Go.KB
section
variable {P:Program} {o:Oper} {N:List (Nat×bC)} {α:Type}
theorem cu {T:TypeId} {r:Rep α} {s:Nat} {y:α} (t:kG P T r) (ho:o.op = .load T (.tmp s)):fC P o ((s,bY r y) :: N) [] (fV r y) []:=jy t ho aj
theorem fD {β:Type} {T:TypeId} {r:Rep α} {q:Rep β} {s:Nat} {y:α} {i off:Nat} {get:α→β} {set:α→β→α} (l:Lens r q off get set) (hf:dL P T i off) (ho:o.op = .fieldAddr T (.tmp s) i):fC P o ((s,bY r y) :: N) [] (bY q (get y)) []:=ja l hf ho aj
theorem iE {T:TypeId} {r:Rep α} {s v:Nat} {y z:α} (t:kG P T r) (ho:o.op = .store T (.tmp s) (.tmp v)) (hd:o.dst=none:=by rfl):fC P o ((v,fV r z) :: N) [(s,bT T r y)] bC.qy [(s,some (bT T r z))]:=Tc t hd ho aj
def Y1:BinOp→Bool
 | .eql | .neq | .lss | .leq | .gtr | .geq=>true
 | _=>false
theorem OD {op:BinOp} (h:Y1 op=true):op = .eql∨op = .neq∨op = .lss∨op = .leq∨op = .gtr∨op = .geq:=by
 cases op <;> first | (cases h;done) | simp
theorem jl {op:BinOp} {k:IntKind} {T T':TypeId} {s:Nat} {m n:Int} (ho:o.op = .binOp op T (.tmp s) (.const (.int k n)) T') (hop:Y1 op=true:=by rfl):fC P o ((s,fV (Rep.int k) m) :: N) [] (fV Rep.bool (aS op m n)) []:=fJ (OD hop) rfl ho aj bI
theorem kF {op:BinOp} {k:IntKind} {T T':TypeId} {s t:Nat} {m n:Int} (ho:o.op = .binOp op T (.tmp s) (.tmp t) T') (hop:Y1 op=true:=by rfl):fC P o ((s,fV (Rep.int k) m) :: (t,fV (Rep.int k) n) :: N) [] (fV Rep.bool (aS op m n)) []:=fJ (OD hop) rfl ho aj aG
theorem iF {α β γ:Type} {x:Option α} {f:α→Option β} {g:α→β→Option γ} {r:γ} (h:(x.bind fun a=>(f a).bind (g a))=some r):∃ a,x=some a∧∃ b,f a=some b∧g a b=some r:=by
 obtain ⟨a,h1,h⟩:=aZ h
 obtain ⟨b,h2,h⟩:=aZ h
 exact ⟨a,h1,b,h2,h⟩
theorem tn {K:Act→World→Prop} {Q:Exit→Act→World→Prop} {a:Act} {w:World} (h:K a w):Exit.then K Q .normal a w:=h
theorem tr {K:Act→World→Prop} {Q:Exit→Act→World→Prop} {a:Act} {w:World} (h:Q .ret a w):Exit.then K Q .ret a w:=h
theorem ws {ρ:Option Nat} {Q:Exit→Act→World→Prop} {a:Act} {w:World} {x y:Code} (h:x.qB ρ P (Exit.then (y.qB ρ P Q) Q) a w):(Code.seq x y).qB ρ P Q a w:=wp_seq h
theorem wk {ρ:Option Nat} {Q:Exit→Act→World→Prop} {a:Act} {w:World} (h:Q .normal a w):Code.skip.qB ρ P Q a w:=wp_skip h
theorem wr {ρ:Option Nat} {Q:Exit→Act→World→Prop} {a:Act} {w:World} (h:Q .ret a w):Code.ret.qB ρ P Q a w:=wp_ret h
abbrev ln {α:Type} (l:List α):Int:=(List.length l:Int)
abbrev w3:Int→Int:=IntKind.u32.wrap
abbrev w1:Int→Int:=IntKind.u16.wrap
abbrev lS {α:Type} (r:Rep α):Rep (List α):=Rep.slice r
end
end Go.KB
