/- Variables whose fields are rows that are appended to. Fields of values; values whose fields are nil, and variables that take them. Maps that are owned: made, looked into, written. Pointers that are only read, nil among them; texts as rows of bytes. Functions that take a row over and hand a row back. Rows that grow from nothing: cap, cuts and appends of zeros at nil. Arrays: slices of arrays that are not written any more, elements of arrays. No condition. -/
import Derived.Test.YtalkbgomndhkmaaGreatKZb
import Derived.MapKept
import Derived.Laws.Pointers
import Derived.Lib.ConvBytes
import Derived.Lib.AppendZeros
namespace Go.KB
variable {P:Program} {o:Oper} {N:List (Nat×aZ)} {f:aZ} {α β:Type}
inductive Wr where
 | slot
 | val (sv:Value)
def ig (q:dR) (sv:Value):dR:=fun _ e=>q sv e
def Wr.ap (W:Wr) (q:dR):dR:=match W with | .slot=>q | .val sv=>ig q sv
def Wr.v (W:Wr) (a:Act) (g:Nat):Value:=match W with | .slot=>a.gt g | .val sv=>sv
theorem Wr.iff {W:Wr} {q:dR} {a:Act} {g:Nat} {e:gy}:W.ap q (a.gt g) e↔q (W.v a g) e:=by cases W <;> rfl
def Nh (N:List (Nat×aZ)) (x:Operand) (W:Wr) (g:Nat):Prop:=∀ h a,Bz N h a→a.eval x=W.v a g
theorem Nh.slot {x:Operand} {g:Nat} (hx:bV N x (Ov g)):Nh N x .slot g:=fun h a n=>hx h a n
theorem Nh.val {x:Operand} {g:Nat} {sv:Value} (hx:bV N x (jK sv)):Nh N x (.val sv) g:=fun h a n=>hx h a n
theorem Wr.v_put {W:Wr} {a:Act} {s d:Nat} {v:Value} (h:s≠d):W.v (a.put (some d) v) s=W.v a s:=by
 cases W with
 | slot=>exact F8 h
 | val sv=>rfl
def Nj (N:List (Nat×aZ)) (x:Operand) (W:Wr) (s off:Nat):Prop:=∀ h a,Bz N h a→∃ b,W.v a s = .pointer (some ⟨b,0,none⟩)∧a.eval x = .pointer (some ⟨b,off,none⟩)
def wP (sv:Value) (off:Nat):aZ:=⟨none,fun _ _ v=>∃ b,sv = .pointer (some ⟨b,0,none⟩)∧v = .pointer (some ⟨b,off,none⟩),fun _ x=>x⟩
theorem Nj.slot {x:Operand} {s off:Nat} (hx:bV N x (Dc s off)):Nj N x .slot s off:=fun h a n=>hx h a n
theorem Nj.val {x:Operand} {s off:Nat} {sv:Value} (hx:bV N x (wP sv off)):Nj N x (.val sv) s off:=fun h a n=>hx h a n
structure iL where
 off:Nat
 E:TypeId
 sz:Nat
def qh:List iL→List (Nat×Value×gy)→Prop
 | [],[]=>True
 | t :: ts,u :: us=>(u.1=t.off∧dP t.E t.sz u.2.1 u.2.2)∧qh ts us
 | _,_=>False
theorem qh.mid {t:iL} {l2:List iL}:∀ {l1:List iL} {us:List (Nat×Value×gy)},qh (l1 ++ t :: l2) us →
  ∃ Dy u Eb,us=Dy ++ u :: Eb∧u.1=t.off∧dP t.E t.sz u.2.1 u.2.2∧qh l1 Dy∧qh l2 Eb:=by
 intro l1
 induction l1 with
 | nil =>
  intro us h
  cases us with
  | nil=>exact h.elim
  | cons u us=>exact ⟨[],u,us,rfl,h.1.1,h.1.2,trivial,h.2⟩
 | cons t1 l1 ih =>
  intro us h
  cases us with
  | nil=>exact h.elim
  | cons u0 us =>
   obtain ⟨Dy,u,Eb,rfl,h1,h2,h3,h4⟩:=ih h.2
   exact ⟨u0 :: Dy,u,Eb,rfl,h1,h2,⟨h.1,h3⟩,h4⟩
theorem qh.app {l2:List iL} {Eb:List (Nat×Value×gy)} (h2:qh l2 Eb):∀ {l1:List iL} {Dy:List (Nat×Value×gy)},qh l1 Dy→qh (l1 ++ l2) (Dy ++ Eb):=by
 intro l1
 induction l1 with
 | nil =>
  intro Dy h
  cases Dy with
  | nil=>exact h2
  | cons u us=>exact h.elim
 | cons t1 l1 ih =>
  intro Dy h
  cases Dy with
  | nil=>exact h.elim
  | cons u0 us=>exact ⟨h.1,ih h.2⟩
theorem qh.UR:∀ {l:List iL} {us:List (Nat×Value×gy)},qh l us→∀ u ∈ us,∃ t ∈ l,u.1=t.off:=by
 intro l
 induction l with
 | nil =>
  intro us h u hu
  cases us with
  | nil=>cases hu
  | cons _ _=>exact h.elim
 | cons t l ih =>
  intro us h u hu
  cases us with
  | nil=>exact h.elim
  | cons u0 us =>
   rcases List.mem_cons.1 hu with rfl | hu
   ·exact ⟨t,List.mem_cons_self,h.1.1⟩
   ·obtain ⟨t',ht',e⟩:=ih h.2 u hu
    exact ⟨t',List.mem_cons_of_mem _ ht',e⟩
theorem qh.cut {l2:List iL}:∀ {l1:List iL} {us:List (Nat×Value×gy)},qh (l1 ++ l2) us→∃ Dy Eb,us=Dy ++ Eb∧qh l1 Dy∧qh l2 Eb:=by
 intro l1
 induction l1 with
 | nil=>intro us h;exact ⟨[],us,rfl,trivial,h⟩
 | cons t1 l1 ih =>
  intro us h
  cases us with
  | nil=>exact h.elim
  | cons u0 us =>
   obtain ⟨Dy,Eb,rfl,h3,h4⟩:=ih h.2
   exact ⟨u0 :: Dy,Eb,rfl,⟨h.1,h3⟩,h4⟩
def Ez (a b:List (Nat×Nat)):Prop:=∀ c ∈ a,∀ c' ∈ b,c.1≠c'.1
def BoxOk (b:Nat) (us:List (Nat×Value×gy)):Prop:=(us.map (fun u=>u.2.2.claims)).Pairwise Ez∧∀ u ∈ us,∀ c ∈ u.2.2.claims,c.1≠b
def Jt (us:List (Nat×Value×gy)):List (Nat×Nat):=us.flatMap (fun u=>u.2.2.claims)
def lQ (b:Nat) (T:TypeId) (r:Rep α) (x:α) (us:List (Nat×Value×gy)):gy where
 claims:=(b,0) :: Jt us
 ok:=fun h m=>(∃ cs,m b=some (.cells cs.toArray T (0,0))∧r.rel h cs x∧∀ u ∈ us,cs[u.1]? = some u.2.1)∧∀ u ∈ us,u.2.2.ok h m
 mono:=by
  intro h h' m hl ⟨⟨cs,e,k,l⟩,q⟩
  exact ⟨⟨cs,e,r.mono hl k,l⟩,fun u hu=>u.2.2.mono hl (q u hu)⟩
 frame:=by
  intro h m m' hm ⟨⟨cs,e,k,l⟩,q⟩
  refine ⟨⟨cs,by rw [hm (b,0) (by simp)];exact e,k,l⟩,fun u hu=>u.2.2.frame (fun c hc=>hm c ?_) (q u hu)⟩
  exact List.mem_cons_of_mem _ (List.mem_flatMap.2 ⟨u,hu,hc⟩)
def jl (T:TypeId) (r:Rep α) (x:α) (ts:List iL):dR:=fun v e=>∃ b us,v = .pointer (some ⟨b,0,none⟩)∧qh ts us∧BoxOk b us∧e=lQ b T r x us
theorem St.split2 {κ:Type} {B:Base} {h:H} {L:Nat→Option gy} {F:κ→Option gy} {w:World} (hst:St B h (Sum.elim L F) w) {s d:Nat} {e e1 e2:gy} (hL:L s=some e) (_:s≠d)
    (h1:∀ c ∈ e1.claims,c ∈ e.claims) (h2:∀ c ∈ e2.claims,c ∈ e.claims) (hd:Ez e1.claims e2.claims) (k1:e1.ok h (World.mem w)) (k2:e2.ok h (World.mem w)) :
    St B h (Sum.elim (set1 (set1 L s e1) d e2) F) w:=by
  obtain ⟨hcl,_⟩:=hst.own (k:=Sum.inl s) hL
  have hval:∀ k e',set1 (set1 L s e1) d e2 k=some e'→(k=d∧e'=e2)∨(k=s∧e'=e1)∨(k≠s∧k≠d∧L k=some e'):=by
    intro k e' hk
    unfold set1 at hk
    split at hk
    · rename_i hkd;exact .inl ⟨hkd,(Option.some.inj hk).symm⟩
    · rename_i hkd
      split at hk
      · rename_i hks;exact .inr (.inl ⟨hks,(Option.some.inj hk).symm⟩)
      · rename_i hks;exact .inr (.inr ⟨hks,hkd,hk⟩)
  refine ⟨hst.low,hst.base,fun x=>hst.ext x,?_,?_⟩
  · intro k e' hk
    cases k with
    | inr k=>exact hst.own (k:=Sum.inr k) hk
    | inl k =>
      rcases hval k e' hk with ⟨_,rfl⟩ | ⟨_,rfl⟩ | ⟨_,_,hk⟩
      · exact ⟨fun c hc=>hcl c (h2 c hc),k2⟩
      · exact ⟨fun c hc=>hcl c (h1 c hc),k1⟩
      · exact hst.own (k:=Sum.inl k) hk
  · have other : ∀ (k : Nat ⊕ κ) e', Sum.elim L F k = some e' → k ≠ Sum.inl s → ∀ c ∈ e.claims, ∀ c' ∈ e'.claims, c.1 ≠ c'.1 := fun k e' hk hne => hst.sJ (k := Sum.inl s) hL hk (Ne.symm hne)
    intro k k' a a' hk hk' hne c hc c' hc'
    cases k with
    | inr k =>
      cases k' with
      | inr k'=>exact hst.sJ (k:=Sum.inr k) (k':=Sum.inr k') hk hk' hne c hc c' hc'
      | inl k' =>
        rcases hval k' a' hk' with ⟨_,rfl⟩ | ⟨_,rfl⟩ | ⟨h3,_,hk'⟩
        · exact (other (.inr k) a hk (by simp) c' (h2 _ hc') c hc).symm
        · exact (other (.inr k) a hk (by simp) c' (h1 _ hc') c hc).symm
        · exact hst.sJ (k:=Sum.inr k) (k':=Sum.inl k') hk hk' (by simp) c hc c' hc'
    | inl k =>
      cases k' with
      | inr k' =>
        rcases hval k a hk with ⟨_,rfl⟩ | ⟨_,rfl⟩ | ⟨h3,_,hk⟩
        · exact other (.inr k') a' hk' (by simp) c (h2 _ hc) c' hc'
        · exact other (.inr k') a' hk' (by simp) c (h1 _ hc) c' hc'
        · exact hst.sJ (k:=Sum.inl k) (k':=Sum.inr k') hk hk' (by simp) c hc c' hc'
      | inl k' =>
        have hne':k≠k':=fun x=>hne (by rw [x])
        rcases hval k a hk with ⟨e3,rfl⟩ | ⟨e3,rfl⟩ | ⟨h3,h4,hk2⟩ <;> rcases hval k' a' hk' with ⟨e4,rfl⟩ | ⟨e4,rfl⟩ | ⟨h5,h6,QE⟩
        · exact absurd (e3.trans e4.symm) hne'
        · exact (hd c' hc' c hc).symm
        · exact other (.inl k') a' QE (fun x=>h5 (Sum.inl.inj x)) c (h2 _ hc) c' hc'
        · exact hd c hc c' hc'
        · exact absurd (e3.trans e4.symm) hne'
        · exact other (.inl k') a' QE (fun x=>h5 (Sum.inl.inj x)) c (h1 _ hc) c' hc'
        · exact (other (.inl k) a hk2 (fun x=>h3 (Sum.inl.inj x)) c' (h2 _ hc') c hc).symm
        · exact (other (.inl k) a hk2 (fun x=>h3 (Sum.inl.inj x)) c' (h1 _ hc') c hc).symm
        · exact hst.sJ (k:=Sum.inl k) (k':=Sum.inl k') hk2 QE (fun x=>hne' (Sum.inl.inj x)) c hc c' hc'
def zM (L:Nat→Option gy) (s d:Nat) (e:gy):Nat→Option gy:=fun k=>if k=d then none else if k=s then some e else L k
theorem St.zM {κ:Type} {B:Base} {h:H} {L:Nat→Option gy} {F:κ→Option gy} {w:World} (hst:St B h (Sum.elim L F) w) {s d:Nat} {e e1 e2:gy} (hL:L s=some e1) (hL2:L d=some e2)
  (hc:∀ c ∈ e.claims,c ∈ e1.claims∨c ∈ e2.claims) (ho:e.ok h (World.mem w)):St B h (Sum.elim (zM L s d e) F) w:=by
 obtain ⟨hcl1,_⟩:=hst.own (k:=Sum.inl s) hL
 obtain ⟨hcl2,_⟩:=hst.own (k:=Sum.inl d) hL2
 have hval:∀ k e',KB.zM L s d e k=some e'→(k=s∧e'=e)∨(k≠s∧k≠d∧L k=some e'):=by
  intro k e' hk
  unfold KB.zM at hk
  split at hk
  ·cases hk
  ·rename_i hkd
   split at hk
   ·rename_i hks;exact .inl ⟨hks,(Option.some.inj hk).symm⟩
   ·rename_i hks;exact .inr ⟨hks,hkd,hk⟩
 refine ⟨hst.low,hst.base,fun x=>hst.ext x,?_,?_⟩
 ·intro k e' hk
  cases k with
  | inr k=>exact hst.own (k:=Sum.inr k) hk
  | inl k =>
   rcases hval k e' hk with ⟨_,rfl⟩ | ⟨_,_,hk⟩
   ·exact ⟨fun c hcc=>(hc c hcc).elim (hcl1 c) (hcl2 c),ho⟩
   ·exact hst.own (k:=Sum.inl k) hk
 ·have other:∀ (k:Nat ⊕ κ) e',Sum.elim L F k=some e'→k≠Sum.inl s→k≠Sum.inl d→∀ c ∈ e.claims,∀ c' ∈ e'.claims,c.1≠c'.1:=by
   intro k e' hk hn1 hn2 c hcc
   rcases hc c hcc with h1 | h1
   ·exact hst.sJ (k:=Sum.inl s) hL hk (Ne.symm hn1) c h1
   ·exact hst.sJ (k:=Sum.inl d) hL2 hk (Ne.symm hn2) c h1
  intro k k' a a' hk hk' hne c hcc c' IG
  cases k with
  | inr k =>
   cases k' with
   | inr k'=>exact hst.sJ (k:=Sum.inr k) (k':=Sum.inr k') hk hk' hne c hcc c' IG
   | inl k' =>
    rcases hval k' a' hk' with ⟨_,rfl⟩ | ⟨h3,_,hk'⟩
    ·exact (other (.inr k) a hk (by simp) (by simp) c' IG c hcc).symm
    ·exact hst.sJ (k:=Sum.inr k) (k':=Sum.inl k') hk hk' (by simp) c hcc c' IG
  | inl k =>
   cases k' with
   | inr k' =>
    rcases hval k a hk with ⟨_,rfl⟩ | ⟨h3,_,hk⟩
    ·exact other (.inr k') a' hk' (by simp) (by simp) c hcc c' IG
    ·exact hst.sJ (k:=Sum.inl k) (k':=Sum.inr k') hk hk' (by simp) c hcc c' IG
   | inl k' =>
    have hne':k≠k':=fun x=>hne (by rw [x])
    rcases hval k a hk with ⟨e3,rfl⟩ | ⟨h3,h4,hk2⟩ <;> rcases hval k' a' hk' with ⟨e4,rfl⟩ | ⟨h5,h6,QE⟩
    ·exact absurd (e3.trans e4.symm) hne'
    ·exact other (.inl k') a' QE (fun x=>h5 (Sum.inl.inj x)) (fun x=>h6 (Sum.inl.inj x)) c hcc c' IG
    ·exact (other (.inl k) a hk2 (fun x=>h3 (Sum.inl.inj x)) (fun x=>h4 (Sum.inl.inj x)) c' IG c hcc).symm
    ·exact hst.sJ (k:=Sum.inl k) (k':=Sum.inl k') hk2 QE (fun x=>hne' (Sum.inl.inj x)) c hcc c' IG
theorem DN {κ:Type} {B:Base} {h:H} {L:Nat→Option gy} {F:κ→Option gy} {w:World} (hst:St B h (Sum.elim L F) w) {s b:Nat} {T:TypeId} {r:Rep α} {x:α} {us:List (Nat×Value×gy)}
  (hk:L s=some (lQ b T r x us)):(∃ cs,w.heap[b]? = some (.cells cs.toArray T (0,0))∧r.rel h cs x∧∀ u ∈ us,cs[u.1]? = some u.2.1)∧∀ u ∈ us,u.2.2.ok h (World.mem w):=(hst.own (k:=Sum.inl s) hk).2
theorem vF {T T':TypeId} {r:Rep α} {y:α} {ts:List iL} {s i off:Nat} (hf:cu P T i off) (ho:o.op = .fieldAddr T (.tmp s) i):dM P o N [(s,jl T' r y ts)] (Dc s off) []:=by
 intro κ B F L h a w hst hn hk _ next Q hnext _
 obtain ⟨e,_,b,us,hv,_⟩:=hk.1
 unfold Oper.oq
 have hv':a.eval (.tmp s) = .pointer (some ⟨b,0,none⟩):=hv
 have:(execOp a.eval o).run P w = .ok (.value (.pointer (some ⟨b,off,none⟩))) w:=by simp [execOp,ho,hv',hf b 0 w]
 rw [this]
 exact hnext _ h w L (lD.refl h) ⟨b,hv,rfl⟩ hst lm
theorem dW {T T':TypeId} {r:Rep α} {y:α} {ts:List iL} {s i off:Nat} {sv:Value} {x:Operand} (hf:cu P T i off) (ho:o.op = .fieldAddr T x i) (hx:bV N x (jK sv)):dM P o N [(s,ig (jl T' r y ts) sv)] (wP sv off) []:=by
 intro κ B F L h a w hst hn hk _ next Q hnext _
 obtain ⟨e,_,b,us,hv,_⟩:=hk.1
 have hv':a.eval x = .pointer (some ⟨b,0,none⟩):=(hx h a hn:a.eval x=sv).trans hv
 unfold Oper.oq
 have:(execOp a.eval o).run P w = .ok (.value (.pointer (some ⟨b,off,none⟩))) w:=by simp [execOp,ho,hv',hf b 0 w]
 rw [this]
 exact hnext _ h w L (lD.refl h) ⟨b,hv,rfl⟩ hst lm
theorem tZ {T:TypeId} {i off off':Nat} {sv:Value} {x:Operand} (hf:cu P T i off) (ho:o.op = .fieldAddr T x i) (hx:bV N x (wP sv off')):dM P o N [] (wP sv (off'+off)) [] :=
 dM.qA fun h a w _ q=>by
  obtain ⟨b,hd,hv⟩:=hx h a q
  exact ⟨.pointer (some ⟨b,off'+off,none⟩),by simp [execOp,ho,hv,hf b off' w],b,hd,rfl⟩
theorem bV.off0 {T':TypeId} {r:Rep α} {y:α} {ts:List iL} {sv:Value} {x:Operand} {h:H} {a:Act} {e:gy} (hx:bV N x (jK sv)) (hn:Bz N h a) (hk:jl T' r y ts sv e):∃ b,sv = .pointer (some ⟨b,0,none⟩)∧a.eval x = .pointer (some ⟨b,0,none⟩):=by
 obtain ⟨b,us,hv,_⟩:=hk
 exact ⟨b,hv,(hx h a hn:a.eval x=sv).trans hv⟩
theorem Fh {T T':TypeId} {r:Rep α} {q:Rep β} {ts:List iL} {s off:Nat} {x:Operand} {y:α} {get:α→β} {set:α→β→α} (l:Lens r q off get set) (t:jk P T q) (W:Wr) (ho:o.op = .load T x) (hx:Nj N x W s off) :
  dM P o N [(s,W.ap (jl T' r y ts))] (fV q (get y)) []:=by
 intro κ B F L h a w hst hn hk _ next Q hnext _
 obtain ⟨b,hd,hv⟩:=hx h a hn
 obtain ⟨e,hL,Xa⟩:=hk.1
 obtain ⟨b',us,hv',_,_,rfl⟩:=Wr.iff.1 Xa
 have hd':W.v a s = .pointer (some ⟨b,0,none⟩):=hd
 rw [hd'] at hv';cases hv'
 obtain ⟨⟨cs,hb,hr,_⟩,_⟩:=DN hst hL
 obtain ⟨c,hc,hrun⟩:=wV t l hb hr
 unfold Oper.oq
 have:(execOp a.eval o).run P w = .ok (.value (pack q.agg c)) w:=by simp [execOp,ho,hv,hrun]
 rw [this]
 exact hnext _ h w L (lD.refl h) ⟨c,hc,rfl⟩ hst lm
theorem wH {T T':TypeId} {r:Rep α} {q:Rep β} {ts:List iL} {s off:Nat} {x:Operand} {y:α} {get:α→β} {set:α→β→α} (l:Lens r q off get set) (t:jk P T q) (ho:o.op = .load T x) (hx:bV N x (Dc s off)) :
  dM P o N [(s,jl T' r y ts)] (fV q (get y)) []:=Fh l t .slot ho (.slot hx)
theorem fE {sv:Value} {T T':TypeId} {r:Rep α} {q:Rep β} {ts:List iL} {s off:Nat} {x:Operand} {y:α} {get:α→β} {set:α→β→α} (l:Lens r q off get set) (t:jk P T q) (ho:o.op = .load T x) (hx:bV N x (wP sv off)) :
  dM P o N [(s,ig (jl T' r y ts) sv)] (fV q (get y)) []:=Fh l t (.val sv) ho (.val hx)
def Nc:Value:=.slice none 0 0
def xY (cs:List Value):List iL→Prop
 | []=>True
 | t :: ts=>cs[t.off]? = some Nc∧xY cs ts
def Iu (ts:List iL):List (Nat×Value×gy):=ts.map (fun t=>(t.off,Nc,Cf))
theorem JQ:∀ (ts:List iL),qh ts (Iu ts)
 | []=>trivial
 | _ :: ts=>⟨⟨rfl,.inl ⟨none,0,rfl,rfl⟩⟩,JQ ts⟩
theorem JP {ts:List iL} {u:Nat×Value×gy} (hu:u ∈ Iu ts):u.2.2=Cf∧u.2.1=Nc:=by
 obtain ⟨t,_,rfl⟩:=List.mem_map.1 hu;exact ⟨rfl,rfl⟩
theorem MV (b:Nat):∀ (ts:List iL),BoxOk b (Iu ts)
 | []=>⟨List.Pairwise.nil,fun u hu=>by cases hu⟩
 | t :: ts=>⟨List.Pairwise.cons (fun l _ c hc=>by cases hc) (MV b ts).1,fun u hu c hc=>by rw [(JP hu).1] at hc;cases hc⟩
theorem MS:∀ (ts:List iL),Jt (Iu ts)=[]
 | []=>rfl
 | _ :: ts=>MS ts
theorem xY.at {cs:List Value}:∀ {ts:List iL},xY cs ts→∀ u ∈ Iu ts,cs[u.1]? = some u.2.1:=by
 intro ts
 induction ts with
 | nil=>intro _ u hu;cases hu
 | cons t ts ih =>
  intro h u hu
  rcases List.mem_cons.1 hu with rfl | hu
  ·exact h.1
  ·exact ih h.2 u hu
def apartB (off sz:Nat) (ts:List iL):Bool:=ts.all (fun t=>Nat.blt t.off off||Nat.ble (off+sz) t.off)
theorem yG {off sz:Nat} {ts:List iL} (h:apartB off sz ts=true):∀ t ∈ ts,t.off<off∨off+sz≤t.off:=by
 intro t ht
 have:=List.all_eq_true.1 h t ht
 simpa [Nat.blt_eq] using this
theorem JW {p c c' q:List Value} {off sz i:Nat} (hp:p.length=off) (hc:c.length=sz) (hc':c'.length=sz) (h:i<off∨off+sz≤i):(p ++ c' ++ q)[i]? = (p ++ c ++ q)[i]?:=by
  rcases h with h | h
  · rw [List.append_assoc,List.append_assoc,List.getElem?_append_left (by omega),List.getElem?_append_left (by omega)]
  · rw [List.getElem?_append_right (by simp; omega), List.getElem?_append_right (by simp; omega)]
    congr 1;simp;omega
theorem QF {h:H} {w w':World} {b:Nat} {us:List (Nat×Value×gy)} (FX:BoxOk b us) (hw:∀ i,i≠b→w'.heap[i]? = w.heap[i]?) (h2:∀ u ∈ us,u.2.2.ok h (World.mem w)):∀ u ∈ us,u.2.2.ok h (World.mem w') :=
 fun u hu=>u.2.2.frame (fun c hc=>hw c.1 (FX.2 u hu c hc)) (h2 u hu)
theorem BoxOk.sub {b:Nat} {us SN:List (Nat×Value×gy)} (h:SN.Sublist us) (hb:BoxOk b us):BoxOk b SN :=
 ⟨hb.1.sublist (h.map _),fun u hu=>hb.2 u (h.subset hu)⟩
theorem Nk {us SN:List (Nat×Value×gy)} (h:SN.Sublist us):∀ c ∈ Jt SN,c ∈ Jt us:=by
 intro c hc
 obtain ⟨u,hu,Vu⟩:=List.mem_flatMap.1 hc
 exact List.mem_flatMap.2 ⟨u,h.subset hu,Vu⟩
theorem zL {T T':TypeId} {r:Rep α} {q:Rep β} {off:Nat} {y:α} {z:β} {get:α→β} {set:α→β→α} (l:Lens r q off get set) (t:jk P T q) {κ:Type} {B:Base} {F:κ→Option gy} {L:Nat→Option gy} {h:H} {w:World} {s b:Nat} {us SN:List (Nat×Value×gy)}
  (hst:St B h (Sum.elim L F) w) (hL:L s=some (lQ b T' r y us)) (FX:BoxOk b us) (hsub:SN.Sublist us) (hap:∀ u ∈ SN,u.1<off∨off+q.sz≤u.1) {c':List Value} (hc':q.rel h c' z) :
  ∃ p c q':List Value,p.length=off∧(Instr.storeAt T (.pointer (some ⟨b,off,none⟩)) (pack q.agg c')).run P w = .ok () (w.setRow b (p ++ c' ++ q').toArray)∧c.length=q.sz ∧
   (w.setRow b (p ++ c' ++ q').toArray).heap[b]? = some (.cells (p ++ c' ++ q').toArray T' (0,0))∧r.rel h (p ++ c' ++ q') (set y z)∧(∀ u ∈ SN,(p ++ c' ++ q')[u.1]? = some u.2.1) ∧
   St B h (Sum.elim (set1 L s (lQ b T' r (set y z) SN)) F) (w.setRow b (p ++ c' ++ q').toArray):=by
 obtain ⟨⟨cs,hb,hr,hu1⟩,hu2⟩:=DN hst hL
 obtain ⟨p,c,q',rfl,hp,hc,hset⟩:=l h cs y hr
 have hrun:=uG t hc' hb (q.len hc)
 rw [hp] at hrun
 have hmem:=wC w b _ (p ++ c' ++ q').toArray T' hb
 have hrel:=hset h c' z (lD.refl h) hc'
 have hget:∀ u ∈ SN,(p ++ c' ++ q')[u.1]? = some u.2.1:=fun u hu=>by
  rw [JW hp (q.len hc) (q.len hc') (hap u hu)];exact hu1 u (hsub.subset hu)
 obtain ⟨hcl,_⟩:=hst.own (k:=Sum.inl s) hL
 have hno:=(hcl (b,0) (by simp [lQ])).2.2
 refine ⟨p,c,q',hp,hrun,q.len hc,hmem,hrel,hget,?_⟩
 refine hst.write (Sum.inl s) (e:=lQ b T' r y us) hL (b:=b) (lo:=0) (by simp [lQ]) hmem (fun i hi=>setRow_other w b i _ hi) (by simp [World.setRow]) rfl rfl rfl ?_ rE ?_
 ·intro o' v hh;rw [hno o' (Nat.zero_le _)] at hh;cases hh
 ·intro e' he
  rw [rF he]
  refine ⟨fun c hc=>?_,⟨_,hmem,hrel,hget⟩,QF (FX.sub hsub) (fun i hi=>setRow_other w b i _ hi) (fun u hu=>hu2 u (hsub.subset hu))⟩
  rcases List.mem_cons.1 hc with rfl | hc
  ·exact List.mem_cons_self
  ·exact List.mem_cons_of_mem _ (Nk hsub c hc)
theorem OE {T T':TypeId} {r:Rep α} {q:Rep β} {ts:List iL} {s off:Nat} {x v:Operand} {y:α} {z:β} {get:α→β} {set:α→β→α} {y':α} (l:Lens r q off get set) (t:jk P T q) (hap:apartB off q.sz ts=true) (hd:o.dst=none)
  (W:Wr) (ho:o.op = .store T x v) (hx:Nj N x W s off) (hv:bV N v (fV q z)) (hy':y'=set y z):dM P o N [(s,W.ap (jl T' r y ts))] aZ.qm [(s,some (W.ap (jl T' r y' ts)))]:=by
 subst hy'
 intro κ B F L h a w hst hn hk _ next Q hnext _
 obtain ⟨b,hdv,hxv⟩:=hx h a hn
 obtain ⟨e,hL,Xa⟩:=hk.1
 obtain ⟨b',us,hv',hta,FX,rfl⟩:=Wr.iff.1 Xa
 have hd':W.v a s = .pointer (some ⟨b,0,none⟩):=hdv
 rw [hd'] at hv';cases hv'
 obtain ⟨c',hc',hvv⟩:=hv h a hn
 obtain ⟨p,c,q',hp,hrun,_,_,_,_,hst'⟩:=zL l t hst hL FX (List.Sublist.refl us) (fun u hu=>by
  obtain ⟨t,ht,e⟩:=hta.UR u hu;rw [e];exact yG hap t ht) hc'
 unfold Oper.oq
 have:(execOp a.eval o).run P w = .ok .skip (w.setRow b (p ++ c' ++ q').toArray):=by
  simp only [execOp,ho,hxv,hvv,Sem.run_bind,hrun,Result.andThen_ok,Sem.run_pure]
 rw [this]
 refine hnext undef h _ _ (lD.refl h) trivial hst' ?_
 rw [hd]
 exact mg (Wr.iff.2 ⟨b,us,hd',hta,FX,rfl⟩)
theorem N7 {sv:Value} {T T':TypeId} {r:Rep α} {q:Rep β} {ts:List iL} {s off:Nat} {x v:Operand} {y:α} {z:β} {get:α→β} {set:α→β→α} {y':α} (l:Lens r q off get set) (t:jk P T q) (hap:apartB off q.sz ts=true) (hd:o.dst=none)
  (ho:o.op = .store T x v) (hx:bV N x (wP sv off)) (hv:bV N v (fV q z)) (hy':y'=set y z):dM P o N [(s,ig (jl T' r y ts) sv)] aZ.qm [(s,some (ig (jl T' r y' ts) sv))]:=OE l t hap hd (.val sv) ho (.val hx) hv hy'
theorem BN {T T':TypeId} {r:Rep α} {s:Nat} {sv:Value} {x v:Operand} {y z:α} (t:jk P T r) (hd:o.dst=none) (ho:o.op = .store T x v) (hx:bV N x (jK sv)) (hv:bV N v (fV r z)) :
  dM P o N [(s,ig (jl T' r y []) sv)] aZ.qm [(s,some (ig (jl T' r z []) sv))]:=by
 intro κ B F L h a w hst hn hk hdn next Q hnext _
 obtain ⟨e,hL,hq⟩:=hk.1
 obtain ⟨b,h1,h2⟩:=hx.off0 hn hq
 obtain ⟨b',us,hv',hta,FX,rfl⟩:=hq
 rw [h1] at hv';cases hv'
 obtain ⟨c',hc',hvv⟩:=hv h a hn
 obtain ⟨p,c,q',hp,hrun,_,_,_,_,hst'⟩:=zL (Lens.refl r) t hst hL FX (List.nil_sublist us) (fun u hu=>by cases hu) hc'
 unfold Oper.oq
 have:(execOp a.eval o).run P w = .ok .skip (w.setRow b (p ++ c' ++ q').toArray):=by
  simp only [execOp,ho,h2,hvv,Sem.run_bind,hrun,Result.andThen_ok,Sem.run_pure]
 rw [this]
 refine hnext undef h _ _ (lD.refl h) trivial hst' ?_
 rw [hd]
 exact mg ⟨b,[],h1,trivial,⟨List.Pairwise.nil,fun u hu=>by cases hu⟩,rfl⟩
theorem BoxOk.nil {b off:Nat} {Dy Eb:List (Nat×Value×gy)} (h:BoxOk b (Dy ++ Eb)):BoxOk b (Dy ++ (off,Nc,Cf) :: Eb):=by
 obtain ⟨h1,h2⟩:=h
 constructor
 ·rw [List.map_append,List.pairwise_append] at h1 ⊢
  obtain ⟨k1,k2,k3⟩:=h1
  refine ⟨k1,List.Pairwise.cons (fun l _ c hc=>by cases hc) k2,fun x hx y hy=>?_⟩
  rcases List.mem_cons.1 hy with rfl | hy
  ·intro c _ c' hc';cases hc'
  ·exact k3 x hx y hy
 ·intro u hu c hc
  rcases List.mem_append.1 hu with hu | hu
  ·exact h2 u (List.mem_append_left _ hu) c hc
  ·rcases List.mem_cons.1 hu with rfl | hu
   ·cases hc
   ·exact h2 u (List.mem_append_right _ hu) c hc
theorem SQ {L:Nat→Option gy} {s d:Nat} {e1 e2:gy} {q1 q2:dR} {a:Act} (hsd:s≠d) (h1:q1 (a.gt s) e1) (h2:q2 (a.gt d) e2):Dw L (set1 (set1 L s e1) d e2) (full [(s,some q1),(d,some q2)] (some d)) a:=by
  intro k
  have SS:Nat.beq s d=false:=by rw [Bool.eq_false_iff,Ne,gQ];exact hsd
  by_cases hk:k=d
  · subst hk
    have:oQ (full [(s,some q1),(k,some q2)] (some k)) k=some (some q2):=by simp [full,oQ,SS,Nat.beq_refl]
    rw [this];exact ⟨e2,by simp [set1],h2⟩
  · have h3 : Nat.beq d k = false := by rw [Bool.eq_false_iff, Ne, gQ]; exact fun x => hk x.symm
    by_cases hk2:k=s
    · subst hk2
      have:oQ (full [(k,some q1),(d,some q2)] (some d)) k=some (some q1):=by simp [full,oQ,Nat.beq_refl]
      rw [this];exact ⟨e1,by simp [set1,hk],h1⟩
    · have h4 : Nat.beq s k = false := by rw [Bool.eq_false_iff, Ne, gQ]; exact fun x => hk2 x.symm
      have:oQ (full [(s,some q1),(d,some q2)] (some d)) k=none:=by simp [full,oQ,h3,h4]
      rw [this];simp [set1,hk,hk2]
theorem Nl {T T' E:TypeId} {r:Rep α} {q:Rep β} {l1 l2:List iL} {s d off sz:Nat} {x:Operand} {y:α} {get:α→List β} {set:α→List β→α} (l:Lens r (Rep.slice q) off get set) (t:jk P T (Rep.slice q)) (hsd:Nat.beq s d=false) (hd:o.dst=some d) (W:Wr) (ho:o.op = .load T x) (hx:Nj N x W s off) :
  dM P o N [(s,W.ap (jl T' r y (l1 ++ ⟨off,E,sz⟩ :: l2)))] (fV (Rep.slice q) (get y)) [(s,some (W.ap (jl T' r y (l1 ++ l2)))),(d,some (dP E sz))]:=by
 have hne:s≠d:=fun x=>by rw [gQ.2 x] at hsd;cases hsd
 intro κ B F L h a w hst hn hk hdn next Q hnext _
 obtain ⟨b,hdv,hv⟩:=hx h a hn
 obtain ⟨e,hL,Xa⟩:=hk.1
 obtain ⟨b',us,hv',hta,FX,rfl⟩:=Wr.iff.1 Xa
 have hd':W.v a s = .pointer (some ⟨b,0,none⟩):=hdv
 rw [hd'] at hv';cases hv'
 obtain ⟨Dy,u0,Eb,rfl,hoff,htip,h3,h4⟩:=hta.mid
 simp only [] at hoff htip
 have hsub:(Dy ++ Eb).Sublist (Dy ++ u0 :: Eb):=(List.Sublist.refl Dy).append (List.sublist_cons_self _ _)
 obtain ⟨⟨cs,hb,hr,hu1⟩,hu2⟩:=DN hst hL
 have hm0:u0 ∈ Dy ++ u0 :: Eb:=List.mem_append_right _ List.mem_cons_self
 obtain ⟨p,c,q',rfl,hp,hc,_⟩:=l h cs y hr
 have hcl:=(Rep.slice q).len hc
 obtain ⟨c0,rfl,hc0⟩:=hc
 have hcv:c0=u0.2.1:=by
  have:=hu1 u0 hm0
  rw [hoff,List.append_assoc,List.getElem?_append_right (by omega),hp] at this
  simpa using this
 have hrun:=ve (b:=b) (off:=off) (w:=w) t hcl (fun j v hj=>by
  rw [uF _ _ _ _ _ _ hb]
  have hjl:=(List.getElem?_eq_some_iff.1 hj).1
  simp only [List.getElem?_toArray]
  rw [List.append_assoc,List.getElem?_append_right (by omega),← hp,Nat.add_sub_cancel_left,List.getElem?_append_left hjl];exact hj)
 unfold Oper.oq
 have:(execOp a.eval o).run P w = .ok (.value c0) w:=by
  have hrun':(Instr.loadAt T (.pointer (some ⟨b,off,none⟩))).run P w = .ok c0 w:=hrun
  simp [execOp,ho,hv,hrun']
 rw [this]
 have hpw:=FX.1
 rw [List.map_append,List.pairwise_append] at hpw
 obtain ⟨_,k2,k3⟩:=hpw
 have k4:=List.pairwise_cons.1 k2
 have hdis:Ez ((b,0) :: Jt (Dy ++ Eb)) u0.2.2.claims:=by
  intro c hc c' hc'
  rcases List.mem_cons.1 hc with rfl | hc
  ·exact (FX.2 u0 hm0 c' hc').symm
  ·obtain ⟨u,hu,Vu⟩:=List.mem_flatMap.1 hc
   rcases List.mem_append.1 hu with hu | hu
   ·exact k3 _ (List.mem_map.2 ⟨u,hu,rfl⟩) _ (List.mem_cons_self) c Vu c' hc'
   ·exact (k4.1 _ (List.mem_map.2 ⟨u,hu,rfl⟩) c' hc' c Vu).symm
 have hst':=hst.split2 (d:=d) (e1:=lQ b T' r y (Dy ++ Eb)) (e2:=u0.2.2) hL hne (fun c hc=>by
   rcases List.mem_cons.1 hc with rfl | hc
   ·exact List.mem_cons_self
   ·exact List.mem_cons_of_mem _ (Nk hsub c hc)) (fun c hc=>List.mem_cons_of_mem _ (List.mem_flatMap.2 ⟨u0,hm0,hc⟩)) hdis
  ⟨⟨_,hb,hr,fun u hu=>hu1 u (hsub.subset hu)⟩,fun u hu=>hu2 u (hsub.subset hu)⟩ (hu2 u0 hm0)
 refine hnext _ h w _ (lD.refl h) (lu.2 hc0) hst' ?_
 rw [hd]
 exact SQ hne (Wr.iff.2 (by rw [Wr.v_put hne];exact ⟨b,_,hd',h4.app h3,FX.sub hsub,rfl⟩)) (by rw [fZ (hdn d hd),hcv];exact htip)
theorem L6 {sv:Value} {T T' E:TypeId} {r:Rep α} {q:Rep β} {l1 l2:List iL} {s d off sz:Nat} {x:Operand} {y:α} {get:α→List β} {set:α→List β→α} (l:Lens r (Rep.slice q) off get set) (t:jk P T (Rep.slice q)) (hsd:Nat.beq s d=false) (hd:o.dst=some d) (ho:o.op = .load T x) (hx:bV N x (wP sv off)) :
  dM P o N [(s,ig (jl T' r y (l1 ++ ⟨off,E,sz⟩ :: l2)) sv)] (fV (Rep.slice q) (get y)) [(s,some (ig (jl T' r y (l1 ++ l2)) sv)),(d,some (dP E sz))]:=Nl l t hsd hd (.val sv) ho (.val hx)
theorem JR {L:Nat→Option gy} {s d:Nat} {e:gy} {q:dR} {a:Act} (hsd:s≠d) (hq:q (a.gt s) e):Dw L (zM L s d e) (full [(s,some q),(d,none)] none) a:=by
  intro k
  by_cases hk:k=s
  · subst hk
    have:oQ (full [(k,some q),(d,none)] none) k=some (some q):=by simp [full,oQ,Nat.beq_refl]
    rw [this];exact ⟨e,by simp [zM,hsd],hq⟩
  · have h4 : Nat.beq s k = false := by rw [Bool.eq_false_iff, Ne, gQ]; exact fun x => hk x.symm
    by_cases hk2:k=d
    · subst hk2
      have:oQ (full [(s,some q),(k,none)] none) k=some none:=by simp [full,oQ,h4,Nat.beq_refl]
      rw [this];trivial
    · have h3 : Nat.beq d k = false := by rw [Bool.eq_false_iff, Ne, gQ]; exact fun x => hk2 x.symm
      have:oQ (full [(s,some q),(d,none)] none) k=none:=by simp [full,oQ,h3,h4]
      rw [this];simp [zM,hk,hk2]
theorem KY {T T' E:TypeId} {r:Rep α} {q:Rep β} {l1 l2:List iL} {s d off sz:Nat} {x:Operand} {y:α} {zs:List β} {get:α→List β} {set:α→List β→α} {y':α} (l:Lens r (Rep.slice q) off get set) (t:jk P T (Rep.slice q)) (hap:apartB off 1 (l1 ++ l2)=true) (hsd:Nat.beq s d=false) (hd:o.dst=none)
  (W:Wr) (ho:o.op = .store T x (.tmp d)) (hx:Nj N x W s off) (hv:bV N (.tmp d) (fV (Rep.slice q) zs)) (hy':y'=set y zs):dM P o N [(s,W.ap (jl T' r y (l1 ++ l2))),(d,dP E sz)] aZ.qm [(s,some (W.ap (jl T' r y' (l1 ++ ⟨off,E,sz⟩ :: l2)))),(d,none)]:=by
 subst hy'
 have hne:s≠d:=fun x=>by rw [gQ.2 x] at hsd;cases hsd
 intro κ B F L h a w hst hn hk _ next Q hnext _
 obtain ⟨b,hdv,hxv⟩:=hx h a hn
 obtain ⟨e,hL,Xa⟩:=hk.1
 obtain ⟨b',us,hv',hta,FX,rfl⟩:=Wr.iff.1 Xa
 obtain ⟨et,hLt,htip⟩:=hk.2.1
 have hLt:L d=some et:=hLt
 have htip:dP E sz (a.gt d) et:=htip
 have hd':W.v a s = .pointer (some ⟨b,0,none⟩):=hdv
 rw [hd'] at hv';cases hv'
 obtain ⟨c',hc',hvv⟩:=hv h a hn
 have hvd:a.gt d=pack (Rep.slice q).agg c':=hvv
 obtain ⟨p,c,q',hp,hrun,hcl,hmem,hrel,hget,hst'⟩:=zL l t hst hL FX (List.Sublist.refl us) (fun u hu=>by
  obtain ⟨t,ht,e⟩:=hta.UR u hu;rw [e];exact yG hap t ht) hc'
 obtain ⟨c0,rfl,hc0⟩:=hc'
 have hvd:a.gt d=c0:=hvd
 unfold Oper.oq
 have:(execOp a.eval o).run P w = .ok .skip (w.setRow b (p ++ [c0] ++ q').toArray):=by
  simp only [execOp,ho,hxv,hvv,Sem.run_bind,hrun,Result.andThen_ok,Sem.run_pure]
 rw [this]
 obtain ⟨Dy,Eb,rfl,h3,h4⟩:=hta.cut
 have hta':qh (l1 ++ ⟨off,E,sz⟩ :: l2) (Dy ++ (off,c0,et) :: Eb):=qh.app (l2:=⟨off,E,sz⟩ :: l2) (Eb:=(off,c0,et) :: Eb) ⟨⟨rfl,by rw [← hvd];exact htip⟩,h4⟩ h3
 have hLd':set1 L s (lQ b T' r (set y zs) (Dy ++ Eb)) d=some et:=by simp [set1,Ne.symm hne,hLt]
 have hdj:Ez ((b,0) :: Jt (Dy ++ Eb)) et.claims:=hst.sJ (k:=Sum.inl s) (k':=Sum.inl d) hL hLt (fun x=>hne (Sum.inl.inj x))
 have hbo':BoxOk b (Dy ++ (off,c0,et) :: Eb):=by
  obtain ⟨g1,g2⟩:=FX
  constructor
  ·rw [List.map_append,List.pairwise_append] at g1 ⊢
   obtain ⟨k1,k2,k3⟩:=g1
   refine ⟨k1,List.Pairwise.cons (fun l hl c hc c' hc'=>?_) k2,fun x hx y hy=>?_⟩
   ·obtain ⟨u,hu,rfl⟩:=List.mem_map.1 hl
    exact (hdj c' (List.mem_cons_of_mem _ (List.mem_flatMap.2 ⟨u,List.mem_append_right _ hu,hc'⟩)) c hc).symm
   ·rcases List.mem_cons.1 hy with rfl | hy
    ·intro c hc c' hc'
     obtain ⟨u,hu,rfl⟩:=List.mem_map.1 hx
     exact hdj c (List.mem_cons_of_mem _ (List.mem_flatMap.2 ⟨u,List.mem_append_left _ hu,hc⟩)) c' hc'
    ·exact k3 x hx y hy
  ·intro u hu c hc
   rcases List.mem_append.1 hu with hu | hu
   ·exact g2 u (List.mem_append_left _ hu) c hc
   ·rcases List.mem_cons.1 hu with rfl | hu
    ·exact (hdj (b,0) List.mem_cons_self c hc).symm
    ·exact g2 u (List.mem_append_right _ hu) c hc
 obtain ⟨_,hu2⟩:=DN hst' qf
 have hokt:et.ok h (World.mem (w.setRow b (p ++ [c0] ++ q').toArray)):=(hst'.own (k:=Sum.inl d) hLd').2
 have hj:=hst'.zM (e:=lQ b T' r (set y zs) (Dy ++ (off,c0,et) :: Eb)) qf hLd' (fun c hc=>by
  rcases List.mem_cons.1 hc with rfl | hc
  ·exact .inl List.mem_cons_self
  ·obtain ⟨u,hu,Vu⟩:=List.mem_flatMap.1 hc
   rcases List.mem_append.1 hu with hu | hu
   ·exact .inl (List.mem_cons_of_mem _ (List.mem_flatMap.2 ⟨u,List.mem_append_left _ hu,Vu⟩))
   ·rcases List.mem_cons.1 hu with rfl | hu
    ·exact .inr Vu
    ·exact .inl (List.mem_cons_of_mem _ (List.mem_flatMap.2 ⟨u,List.mem_append_right _ hu,Vu⟩))) ⟨⟨_,hmem,hrel,fun u hu=>by
   rcases List.mem_append.1 hu with hu | hu
   ·exact hget u (List.mem_append_left _ hu)
   ·rcases List.mem_cons.1 hu with rfl | hu
    ·simp only []
     rw [List.append_assoc,List.getElem?_append_right (by omega),hp];simp
    ·exact hget u (List.mem_append_right _ hu)⟩,fun u hu=>by
   rcases List.mem_append.1 hu with hu | hu
   ·exact hu2 u (List.mem_append_left _ hu)
   ·rcases List.mem_cons.1 hu with rfl | hu
    ·exact hokt
    ·exact hu2 u (List.mem_append_right _ hu)⟩
 have hL':zM (set1 L s (lQ b T' r (set y zs) (Dy ++ Eb))) s d (lQ b T' r (set y zs) (Dy ++ (off,c0,et) :: Eb))=zM L s d (lQ b T' r (set y zs) (Dy ++ (off,c0,et) :: Eb)):=by
  funext k;unfold zM set1
  by_cases h1:k=d
  ·rw [if_pos h1,if_pos h1]
  ·rw [if_neg h1,if_neg h1]
   by_cases h2:k=s
   ·rw [if_pos h2,if_pos h2]
   ·rw [if_neg h2,if_neg h2,if_neg h2]
 rw [hL'] at hj
 refine hnext undef h _ _ (lD.refl h) trivial hj ?_
 rw [hd]
 exact JR hne (Wr.iff.2 ⟨b,_,hd',hta',hbo',rfl⟩)
theorem Kt {sv:Value} {T T' E:TypeId} {r:Rep α} {q:Rep β} {l1 l2:List iL} {s d off sz:Nat} {x:Operand} {y:α} {zs:List β} {get:α→List β} {set:α→List β→α} {y':α} (l:Lens r (Rep.slice q) off get set) (t:jk P T (Rep.slice q)) (hap:apartB off 1 (l1 ++ l2)=true) (hsd:Nat.beq s d=false) (hd:o.dst=none)
  (ho:o.op = .store T x (.tmp d)) (hx:bV N x (wP sv off)) (hv:bV N (.tmp d) (fV (Rep.slice q) zs)) (hy':y'=set y zs):dM P o N [(s,ig (jl T' r y (l1 ++ l2)) sv),(d,dP E sz)] aZ.qm [(s,some (ig (jl T' r y' (l1 ++ ⟨off,E,sz⟩ :: l2)) sv)),(d,none)]:=KY l t hap hsd hd (.val sv) ho (.val hx) hv hy'
end Go.KB
namespace Go.KB
variable {P:Program} {o:Oper} {N:List (Nat×aZ)} {f:aZ} {α β:Type}
def zJ (P:Program) (T:TypeId) (i:Nat):Option (TypeId×Nat) :=
 match P.underlying T with
 | some (.struct fs)=>match fs[i]? with
  | some g=>some (g.type,g.offset)
  | none=>none
 | _=>none
theorem II {T':TypeId} {q:Rep β} (t:jk P T' q) {h:H} {p c r:List Value} {y:β} (hc:q.rel h c y) (w:World):(part T' (p ++ c ++ r).toArray p.length).run P w = .ok (pack q.agg c) w:=by
 have hl:=q.len hc
 unfold part
 cases ha:q.agg with
 | true =>
  simp only [Sem.run_bind,t.agg,ha,Result.andThen_ok,if_true,t.size,Sem.run_pure,pack,cond_true]
  congr 2
  simp only [List.extract_toArray,List.extract_eq_take_drop]
  congr 1
  rw [List.append_assoc,List.drop_left' rfl,show p.length+q.sz - p.length=c.length by omega,List.take_left' rfl]
 | false =>
  rw [q.one ha] at hl
  match c,hl with
  | [v],_ =>
   have:(p ++ [v] ++ r).toArray[p.length]? = some v:=by simp
   simp only [Sem.run_bind,t.agg,ha,Result.andThen_ok,Bool.false_eq_true,if_false,this,Sem.run_pure,pack,cond_false]
theorem FQ {T T':TypeId} {r:Rep α} {q:Rep β} {x:Operand} {y:α} {i off:Nat} {get:α→β} {set:α→β→α} (l:Lens r q off get set) (hag:r.agg=true) (hf:zJ P T i=some (T',off)) (t:jk P T' q) (ho:o.op = .field T x i) (hx:bV N x (fV r y)) :
  dM P o N [] (fV q (get y)) [] :=
 dM.qA fun h a w _ n=>by
  unfold zJ at hf
  split at hf
  ·rename_i fs hT
   split at hf
   ·rename_i g hg
    simp only [Option.some.injEq,Prod.mk.injEq] at hf
    obtain ⟨h1,h2⟩:=hf
    obtain ⟨cs,hr,hv⟩:=hx h a n
    obtain ⟨p,c,q',rfl,hp,hc,_⟩:=l h cs y hr
    rw [hag] at hv
    refine ⟨pack q.agg c,?_,c,hc,rfl⟩
    have:=II t (p:=p) (r:=q') hc w
    rw [List.append_assoc] at this
    simp [execOp,ho,hv,pack,Instr.field,run_underlying hT,hg,asAgg,h1,h2,← hp,this]
   ·cases hf
  ·cases hf
def fVN (r:Rep α) (x:α) (ts:List iL):aZ:=⟨none,fun h _ v=>∃ cs,r.rel h cs x∧v=pack r.agg cs∧xY cs ts,fun hl ⟨cs,k,e,n⟩=>⟨cs,r.mono hl k,e,n⟩⟩
theorem xY.apart {p c c' q:List Value} {off sz:Nat} (hp:p.length=off) (hc:c.length=sz) (hc':c'.length=sz):∀ {ts:List iL},apartB off sz ts=true→xY (p ++ c ++ q) ts→xY (p ++ c' ++ q) ts:=by
 intro ts
 induction ts with
 | nil=>intro _ _;trivial
 | cons t ts ih =>
  intro ha hn
  have h1:=yG ha t List.mem_cons_self
  refine ⟨by rw [JW hp hc hc' h1];exact hn.1,ih ?_ hn.2⟩
  unfold apartB at ha ⊢
  rw [List.all_cons,Bool.and_eq_true] at ha
  exact ha.2
def IJ (P:Program) (N:List (Nat×aZ)) (place:Nat→Option (Nat×Nat)) {α:Type} (r:Rep α) (ts:List iL):List (Nat×Operand)→α→α→Prop
 | [],x,y=>x=y
 | (i,o) :: rest,x,y=>∃ (β:Type) (s:Rep β) (off:Nat) (get:α→β) (set:α→β→α) (z:β),Lens r s off get set∧place i=some (off,s.sz)∧apartB off s.sz ts=true∧bV N o (fV s z)∧IJ P N place r ts rest (set x z) y
theorem V9 {place:Nat→Option (Nat×Nat)} {r:Rep α} {ts:List iL} {x:α}:IJ P N place r ts [] x x:=rfl
theorem Kw {place:Nat→Option (Nat×Nat)} {r:Rep α} {ts:List iL} {s:Rep β} {off i:Nat} {x':Operand} {get:α→β} {set:α→β→α} {z:β} {rest:List (Nat×Operand)} {x y:α} (l:Lens r s off get set) (hp:place i=some (off,s.sz)) (ha:apartB off s.sz ts=true) (ho:bV N x' (fV s z))
  (k:IJ P N place r ts rest (set x z) y):IJ P N place r ts ((i,x') :: rest) x y:=⟨β,s,off,get,set,z,l,hp,ha,ho,k⟩
theorem IJ.run {place:Nat→Option (Nat×Nat)} {r:Rep α} {ts:List iL} {h:H} {a:Act} (n:Bz N h a):∀ {parts:List (Nat×Operand)} {x y:α} {cs:List Value},IJ P N place r ts parts x y→r.rel h cs x→xY cs ts →
  ∃ cs',Instr.fill place cs.toArray (parts.map fun q=>(q.1,a.eval q.2))=some cs'.toArray∧r.rel h cs' y∧xY cs' ts:=by
 intro parts
 induction parts with
 | nil=>intro x y cs k hr ht;rw [show x=y from k] at hr;exact ⟨cs,rfl,hr,ht⟩
 | cons q rest ih =>
  obtain ⟨i,op⟩:=q
  rintro x y cs ⟨β,s,off,get,set,z,l,hp,ha,ho,k⟩ hr ht
  obtain ⟨p,c,q,rfl,hpl,hc,hset⟩:=l h cs x hr
  obtain ⟨c',hc',hv⟩:=ho h a n
  simp only [List.map_cons]
  rw [JX hc' hv hp hpl (s.len hc)]
  exact ih k (hset h c' z (lD.refl h) hc') (ht.apart hpl (s.len hc) (s.len hc') ha)
theorem Qo {T:TypeId} {r:Rep α} {place:Nat→Option (Nat×Nat)} {parts:Array (Nat×Operand)} {y:α} (ts:List iL) (t:jk P T r) (hag:r.agg=true) (hpl:jo P T place) (ho:o.op = .build T parts)
  (hz:xY r.zc ts) (k:IJ P N place r ts parts.toList r.zero y):dM P o N [] (fVN r y ts) [] :=
 dM.qA fun h a w _ n=>by
  obtain ⟨cs',hf,hr,ht⟩:=k.run n (r.vH h) hz
  refine ⟨.agg cs'.toArray,?_,cs',hr,by rw [hag];rfl,ht⟩
  have h1:=hpl r.zc.toArray (parts.map fun q=>(q.1,a.eval q.2)) w cs'.toArray _ (t.zero w) (rW (r.vH h)) (by rw [Array.toList_map];exact hf)
  simp only [execOp,ho,Sem.run_bind,h1,Result.andThen_ok,Sem.run_pure]
end Go.KB
namespace Go.KB
variable {P:Program} {o:Oper} {N:List (Nat×aZ)} {α β:Type}
section
variable [DecidableEq α]
def gB (z:β):List (α×β)→α→β
 | [],_=>z
 | p :: r,x=>bif decide (x=p.1) then p.2 else gB z r x
def nD:List (α×β)→α→Bool
 | [],_=>false
 | p :: r,x=>decide (x=p.1)||nD r x
def pK:List (α×β)→α→β→List (α×β)
 | [],x,y=>[(x,y)]
 | p :: r,x,y=>bif decide (x=p.1) then (p.1,y) :: r else p :: pK r x y
structure yF (P:Program) (K:TypeId) (rk:Rep α) (f:α→Value):Prop where
 is:∀ {h u x},rk.val h u x→u=f x
 chk:∀ (e:Bool) (w:World) (x:α),(Instr.checkKey e 10000 K (f x)).run P w = .ok () w
 now:∃ d,P.underlying K=some d∧∀ x y,Instr.sameNow d (f x) (f y)=some (decide (x=y))
 bits:∀ x,Instr.sameBits 10000 (f x) (f x)=true
 val:∀ h x,rk.val h (f x) x
def dQ (s:Str):Value:=.string ⟨s.toArray⟩
theorem yF.str {K:TypeId} (hK:P.underlying K=some .string):yF P K Rep.str dQ where
 is:=fun e=>zl.1 e
 chk:=fun e w x=>MapKept.run_checkKey hK (by trivial) e 9999
 now:=⟨_,hK,fun x y=>by
  simp only [Instr.sameNow,dQ]
  congr 1
  rw [Bool.eq_iff_iff,MapKept.bytes_beq]
  simp⟩
 bits:=fun x=>(MapKept.bytes_beq _ _).2 rfl
 val:=fun _ _=>zl.2 rfl
def Xb (k:IntKind) (n:Int):Value:=.int k n
theorem yF.int {K:TypeId} {k:IntKind} (hK:P.underlying K=some (.int k)):yF P K (Rep.int k) (Xb k) where
 is:=fun e=>jq.1 e
 chk:=fun e w x=>MapKept.run_checkKey hK (by trivial) e 9999
 now:=⟨_,hK,fun x y=>by
  simp only [Instr.sameNow,Xb,if_true]
  congr 1⟩
 bits:=fun x=>by simp [Instr.sameBits,Xb]
 val:=fun _ _=>jq.2 rfl
end
def xQ (f:α→Value) (rv:Rep β) (h:H):List MapEntry→List (α×β)→Prop
 | [],[]=>True
 | e :: es,p :: l=>(e.key=f p.1∧rv.val h e.val p.2)∧xQ f rv h es l
 | _,_=>False
theorem xQ.mono {f:α→Value} {rv:Rep β} {h h':H} (hl:lD h h'):∀ {es:List MapEntry} {l:List (α×β)},xQ f rv h es l→xQ f rv h' es l
 | [],[],_=>trivial
 | _ :: _,_ :: _,⟨⟨a,b⟩,c⟩=>⟨⟨a,rv.IB hl b⟩,xQ.mono hl c⟩
theorem xQ.snoc {f:α→Value} {rv:Rep β} {h:H} {e:MapEntry} {p:α×β} (he:e.key=f p.1∧rv.val h e.val p.2):∀ {es:List MapEntry} {l:List (α×β)},xQ f rv h es l→xQ f rv h (es ++ [e]) (l ++ [p])
 | [],[],_=>⟨he,trivial⟩
 | _ :: _,_ :: _,⟨a,c⟩=>⟨a,xQ.snoc he c⟩
def vS (es:List MapEntry) (c:Nat):Prop:=(es.map (·.born)).Nodup∧∀ e ∈ es,e.born<c
theorem vS.push {es:List MapEntry} {c:Nat} {k v:Value} (h:vS es c):vS (es ++ [{ key:=k,val:=v,born:=c }]) (c+1):=by
 refine ⟨?_,fun e he=>?_⟩
 ·rw [List.map_append,List.nodup_append]
  refine ⟨h.1,by simp,fun a ha b hb=>?_⟩
  obtain ⟨e,he,rfl⟩:=List.mem_map.1 ha
  simp only [List.map_cons,List.map_nil,List.mem_singleton] at hb
  have:=h.2 e he
  omega
 ·rcases List.mem_append.1 he with he | he
  ·have:=h.2 e he;omega
  ·simp only [List.mem_singleton] at he;subst he;exact Nat.lt_succ_self _
theorem vS.modify {es:List MapEntry} {c j:Nat} {g:MapEntry→MapEntry} (hg:∀ e,(g e).born=e.born) (h:vS es c):vS (es.modify j g) c:=by
 have hm:(es.modify j g).map (·.born)=es.map (·.born):=by
  refine List.ext_getElem? fun m=>?_
  simp only [List.getElem?_map,List.getElem?_modify]
  cases es[m]? with
  | none=>rfl
  | some e=>simp only [Option.map_some];split <;> simp [hg]
 refine ⟨by rw [hm];exact h.1,fun e he=>?_⟩
 have:e.born ∈ (es.modify j g).map (·.born):=List.mem_map.2 ⟨e,he,rfl⟩
 rw [hm] at this
 obtain ⟨e',he',hb⟩:=List.mem_map.1 this
 rw [← hb];exact h.2 e' he'
theorem vS.eraseIdx {es:List MapEntry} {c i:Nat} (h:vS es c):vS (es.eraseIdx i) c :=
 ⟨(List.Sublist.map _ (List.eraseIdx_sublist es i)).nodup h.1,fun e he=>h.2 e ((List.eraseIdx_sublist es i).subset he)⟩
def qg (b:Nat) (f:α→Value) (rv:Rep β) (l:List (α×β)):gy where
 claims:=[(b,0)]
 ok:=fun h m=>∃ es clock,m b=some (.map es clock)∧xQ f rv h es.toList l∧vS es.toList clock
 mono:=by rintro h h' m hl ⟨es,c,e,k⟩;exact ⟨es,c,e,k.1.mono hl,k.2⟩
 frame:=fun hm ⟨es,c,e,k⟩=>⟨es,c,by rw [hm (b,0) (by simp)];exact e,k⟩
def dL (f:α→Value) (rv:Rep β) (l:List (α×β)):dR:=fun v e=>∃ b,v = .map (some b)∧e=qg b f rv l
theorem zC {T:TypeId} {f:α→Value} {rv:Rep β} {d:Nat} (hd:o.dst=some d) (ho:o.op = .makeMap T none):dM P o N [] aZ.qm [(d,some (dL f rv []))]:=by
 intro κ B F L h a w hst hn _ hdn next Q hnext _
 unfold Oper.oq
 have:(execOp a.eval o).run P w = .ok (.value (.map (some w.heap.size))) (w.alloc (.map #[] 0)):=by
  have e:(Instr.makeMap T none).run P w = .ok (.map (some w.heap.size)) (w.alloc (.map #[] 0)):=rfl
  simp only [execOp,ho,Option.map_none,Sem.run_bind,e,Result.andThen_ok,Sem.run_pure]
 rw [this]
 refine hnext _ h _ (set1 L d (qg w.heap.size f rv [])) (lD.refl h) trivial (hst.Ak _ d _ (by simp [qg]) ⟨#[],0,Am _ _,trivial,by simp [vS]⟩) ?_
 rw [hd]
 exact mg ⟨_,fZ (hdn d hd),rfl⟩
theorem SV {κ:Type} {B:Base} {h:H} {L:Nat→Option gy} {F:κ→Option gy} {w:World} (hst:St B h (Sum.elim L F) w) {s b:Nat} {f:α→Value} {rv:Rep β} {l:List (α×β)}
  (hk:L s=some (qg b f rv l)):∃ es clock,w.heap[b]? = some (.map es clock)∧xQ f rv h es.toList l :=
 let ⟨es,c,h1,h2,_⟩:=(hst.own (k:=Sum.inl s) hk).2
 ⟨es,c,h1,h2⟩
theorem KR {κ:Type} {B:Base} {h:H} {L:Nat→Option gy} {F:κ→Option gy} {w:World} (hst:St B h (Sum.elim L F) w) {s b:Nat} {f:α→Value} {rv:Rep β} {l:List (α×β)}
  (hk:L s=some (qg b f rv l)):∃ es clock,w.heap[b]? = some (.map es clock)∧xQ f rv h es.toList l∧vS es.toList clock:=(hst.own (k:=Sum.inl s) hk).2
section
variable [DecidableEq α]
theorem Fj {f:α→Value} {rv:Rep β} {h:H} {d:TypeDesc} (hd:∀ x y,Instr.sameNow d (f x) (f y)=some (decide (x=y))) (x:α):∀ {es:List MapEntry} {l:List (α×β)} (n:Nat),xQ f rv h es l →
    (Instr.findNow d (f x) es n=some none∧nD l x=false∧(∀ z,gB z l x=z)∧∀ y,pK l x y=l ++ [(x,y)]) ∨
    ∃ i e0,Instr.findNow d (f x) es n=some (some (n+i,e0.val))∧es[i]? = some e0∧e0.key=f x∧nD l x=true∧(∀ z,rv.val h e0.val (gB z l x)) ∧
      ∀ g y,(∀ e,(g e).key=e.key)→(∀ e,rv.val h (g e).val y)→xQ f rv h (es.modify i g) (pK l x y)
  | [],[],_,_=>.inl ⟨rfl,rfl,fun _=>rfl,fun _=>rfl⟩
  | e :: es,p :: l,n,⟨⟨hk,hv⟩,hr⟩=>by
    by_cases hx:x=p.1
    · refine .inr ⟨0, e, ?_, rfl, by rw [hk, hx], by simp [nD, hx], fun z => by simpa [gB, hx] using hv, fun g y hg hy => ?_⟩
      · simp only [Instr.findNow,hk,hd,hx,decide_true];rfl
      · simp only [List.modify_zero_cons,pK,hx,decide_true,cond_true]
        exact ⟨⟨by rw [hg,hk],hy e⟩,hr⟩
    · have hn:∀ r,Instr.findNow d (f x) es (n+1)=r→Instr.findNow d (f x) (e :: es) n=r:=fun r h=>by
        simp only [Instr.findNow,hk,hd]
        rw [show decide (x=p.1)=false from decide_eq_false hx];exact h
      rcases Fj hd x (n+1) hr with ⟨h1,h2,h3,h4⟩ | ⟨i,e0,h1,h2,h3,h4,h5,h6⟩
      · refine .inl ⟨hn _ h1,by simp [nD,hx,h2],fun z=>by simp [gB,hx,h3],fun y=>by simp [pK,hx,h4]⟩
      · refine .inr ⟨i + 1, e0, hn _ (by rw [h1]; congr 3; omega), by simpa using h2, h3, by simp [nD, h4], fun z => by simpa [gB, hx] using h5 z, fun g y hg hy => ?_⟩
        simp only [List.modify_succ_cons,pK,hx,decide_false,cond_false]
        exact ⟨⟨hk,hv⟩,h6 g y hg hy⟩

theorem run_findKey {K:TypeId} {d:TypeDesc} {u:Value} {es:List MapEntry} {r:Option (Nat×Value)} {w:World} (hd:P.underlying K=some d) (h:Instr.findNow d u es 0=some r):(Instr.findKey K u es).run P w = .ok r w:=by
 unfold Instr.findKey
 simp only [Sem.run_bind,run_underlying hd,Result.andThen_ok,h,Sem.run_pure]
end
section
variable [DecidableEq α]
theorem IK {T K E:TypeId} {rk:Rep α} {f:α→Value} {rv:Rep β} {s:Nat} {x i:Operand} {l:List (α×β)} {y:α} (hf:yF P K rk f) (t:jk P E rv) (hT:P.underlying T=some (.map K E))
  (W:Wr) (ho:o.op = .lookup T x i false) (hx:Nh N x W s) (hi:bV N i (fV rk y)):dM P o N [(s,W.ap (dL f rv l))] (fV rv (gB rv.zero l y)) []:=by
 intro κ B F L h a w hst hn hk _ next Q hnext _
 obtain ⟨e,hL,hq⟩:=hk.1
 obtain ⟨b,hv,rfl⟩:=Wr.iff.1 hq
 have hx':a.eval x = .map (some b):=(hx h a hn).trans hv
 have hi':=hf.is (hi h a hn)
 obtain ⟨es,clock,hb,hr⟩:=SV hst hL
 obtain ⟨d,hd,OG⟩:=hf.now
 rcases Fj OG y 0 hr with ⟨h1,_,h3,_⟩ | ⟨j,e0,h1,_,_,_,h5,_⟩
 ·have:(execOp a.eval o).run P w = .ok (.value (pack rv.agg rv.zc)) w:=by
   simp [execOp,ho,hx',hi',Instr.lookup,run_underlying hT,MapKept.run_getObj_map hb,hf.chk,run_findKey hd h1,t.zero]
  unfold Oper.oq
  rw [this]
  exact hnext _ h w L (lD.refl h) ⟨rv.zc,by rw [h3];exact rv.vH h,rfl⟩ hst lm
 ·have:(execOp a.eval o).run P w = .ok (.value e0.val) w:=by
   simp [execOp,ho,hx',hi',Instr.lookup,run_underlying hT,MapKept.run_getObj_map hb,hf.chk,run_findKey hd h1]
  unfold Oper.oq
  rw [this]
  exact hnext _ h w L (lD.refl h) (h5 _) hst lm
theorem Np {T K E:TypeId} {rk:Rep α} {f:α→Value} {rv:Rep β} {s:Nat} {x i:Operand} {l:List (α×β)} {y:α} (hf:yF P K rk f) (t:jk P E rv) (hT:P.underlying T=some (.map K E))
  (W:Wr) (ho:o.op = .lookup T x i true) (hx:Nh N x W s) (hi:bV N i (fV rk y)):dM P o N [(s,W.ap (dL f rv l))] (FH (fV rv (gB rv.zero l y)) (fV Rep.bool (nD l y))) []:=by
 intro κ B F L h a w hst hn hk _ next Q hnext _
 obtain ⟨e,hL,hq⟩:=hk.1
 obtain ⟨b,hv,rfl⟩:=Wr.iff.1 hq
 have hx':a.eval x = .map (some b):=(hx h a hn).trans hv
 have hi':=hf.is (hi h a hn)
 obtain ⟨es,clock,hb,hr⟩:=SV hst hL
 obtain ⟨d,hd,OG⟩:=hf.now
 rcases Fj OG y 0 hr with ⟨h1,h2,h3,_⟩ | ⟨j,e0,h1,_,_,h4,h5,_⟩
 ·have:(execOp a.eval o).run P w = .ok (.value (.tuple #[pack rv.agg rv.zc,.bool false])) w:=by
   simp [execOp,ho,hx',hi',Instr.lookup,run_underlying hT,MapKept.run_getObj_map hb,hf.chk,run_findKey hd h1,t.zero]
  unfold Oper.oq
  rw [this]
  exact hnext _ h w L (lD.refl h) ⟨_,_,rfl,⟨rv.zc,by rw [h3];exact rv.vH h,rfl⟩,jY.2 (by rw [h2])⟩ hst lm
 ·have:(execOp a.eval o).run P w = .ok (.value (.tuple #[e0.val,.bool true])) w:=by
   simp [execOp,ho,hx',hi',Instr.lookup,run_underlying hT,MapKept.run_getObj_map hb,hf.chk,run_findKey hd h1]
  unfold Oper.oq
  rw [this]
  exact hnext _ h w L (lD.refl h) ⟨_,_,rfl,h5 _,jY.2 (by rw [h4])⟩ hst lm
theorem FU {T K E:TypeId} {rk:Rep α} {f:α→Value} {rv:Rep β} {s:Nat} {x i:Operand} {l:List (α×β)} {y:α} (hf:yF P K rk f) (t:jk P E rv) (hT:P.underlying T=some (.map K E))
  (ho:o.op = .lookup T x i false) (hx:bV N x (Ov s)) (hi:bV N i (fV rk y)):dM P o N [(s,dL f rv l)] (fV rv (gB rv.zero l y)) []:=IK hf t hT .slot ho (.slot hx) hi
theorem xH {T K E:TypeId} {rk:Rep α} {f:α→Value} {rv:Rep β} {s:Nat} {sv:Value} {x i:Operand} {l:List (α×β)} {y:α} (hf:yF P K rk f) (t:jk P E rv) (hT:P.underlying T=some (.map K E))
  (ho:o.op = .lookup T x i false) (hx:bV N x (jK sv)) (hi:bV N i (fV rk y)):dM P o N [(s,ig (dL f rv l) sv)] (fV rv (gB rv.zero l y)) []:=IK hf t hT (.val sv) ho (.val hx) hi
theorem Dl {T K E:TypeId} {rk:Rep α} {f:α→Value} {rv:Rep β} {s:Nat} {sv:Value} {x i:Operand} {l:List (α×β)} {y:α} (hf:yF P K rk f) (t:jk P E rv) (hT:P.underlying T=some (.map K E))
  (ho:o.op = .lookup T x i true) (hx:bV N x (jK sv)) (hi:bV N i (fV rk y)):dM P o N [(s,ig (dL f rv l) sv)] (FH (fV rv (gB rv.zero l y)) (fV Rep.bool (nD l y))) []:=Np hf t hT (.val sv) ho (.val hx) hi
theorem run_keyThatStays {u:Value} {w:World} (h:Instr.sameBits 10000 u u=true):(Instr.keyThatStays u u).run P w = .ok u w:=by
 unfold Instr.keyThatStays
 rw [if_pos h];rfl
def uQ (w:World) (b:Nat) (o:Obj):World:={ w with heap:=w.heap.setIfInBounds b o }
theorem IL {w:World} {b:Nat} {o o':Obj} (hb:w.heap[b]? = some o):(uQ w b o').heap[b]? = some o':=by
 have:=(Array.getElem?_eq_some_iff.1 hb).1
 simp [uQ,this]
theorem IQ {w:World} {b i:Nat} {o':Obj} (hi:i≠b):(uQ w b o').heap[i]? = w.heap[i]?:=by
 simp [uQ,Ne.symm hi]
theorem Ec {T K E:TypeId} {rk:Rep α} {f:α→Value} {rv:Rep β} {s:Nat} {x i v:Operand} {l:List (α×β)} {y:α} {z:β} (hf:yF P K rk f) (hT:P.underlying T=some (.map K E)) (hd:o.dst=none)
    (W:Wr) (ho:o.op = .mapUpdate T x i v∨o.op = .insert T x i v) (hx:Nh N x W s) (hi:bV N i (fV rk y)) (hv:bV N v (fV rv z)):dM P o N [(s,W.ap (dL f rv l))] aZ.qm [(s,some (W.ap (dL f rv (pK l y z))))]:=by
  intro κ B F L h a w hst hn hk _ next Q hnext _
  obtain ⟨e,hL,hq⟩:=hk.1
  obtain ⟨b,hvb,rfl⟩:=Wr.iff.1 hq
  have hx':a.eval x = .map (some b):=(hx h a hn).trans hvb
  have hi':=hf.is (hi h a hn)
  have hv':=hv h a hn
  obtain ⟨es,clock,hb,hr,hB⟩:=KR hst hL
  obtain ⟨d,hdd,OG⟩:=hf.now
  have fin:∀ es' clock',xQ f rv h es'.toList (pK l y z)→vS es'.toList clock'→(execOp a.eval o).run P w = .ok .skip (uQ w b (.map es' clock'))→o.oq P a w next Q:=by
    intro es' clock' hrel hbn hrun
    unfold Oper.oq
    rw [hrun]
    refine hnext undef h _ (set1 L s (qg b f rv (pK l y z))) (lD.refl h) trivial ?_ ?_
    · obtain ⟨hcl,_⟩:=hst.own (k:=Sum.inl s) hL
      have hno:=(hcl (b,0) (by simp [qg])).2.2
      have hlt:=(hcl (b,0) (by simp [qg])).2.1
      refine hst.step (Sum.inl s) (fun i=>i=b) (fun i hi _=>⟨_,hL,(b,0),by simp [qg],hi.symm⟩) (by simp [uQ]) rfl rfl rfl (fun i _ hi=>IQ hi) (lD.refl h) (fun _ _ _ _=>rfl) ?_ rE ?_
      · rintro i o' u (rfl | hi) hu
        · rw [hno o' (Nat.zero_le _)] at hu;cases hu
        · rw [hst.fresh hi] at hu;cases hu
      · intro e' he
        rw [rF he]
        refine ⟨fun c hc=>?_,es',clock',IL hb,hrel,hbn⟩
        simp only [qg,List.mem_singleton] at hc
        subst hc
        exact ⟨.inr ⟨_,hL,(b,0),by simp [qg],rfl⟩,by simpa [uQ] using hlt,fun o' _=>hno o' (Nat.zero_le _)⟩
    · rw [hd]
      exact mg (Wr.iff.2 ⟨b,hvb,rfl⟩)
  rcases Fj OG y 0 hr with ⟨h1,_,_,h4⟩ | ⟨j,e0,h1,h2,h3,_,_,h6⟩
  · refine fin (es.push { key := f y, val := a.eval v, born := clock }) (clock + 1) ?_ (by rw [Array.toList_push]; exact hB.push) ?_
    · rw [h4,Array.toList_push]
      exact xQ.snoc (e:=⟨f y,a.eval v,clock⟩) (p:=(y,z)) ⟨rfl,hv'⟩ hr
    · rcases ho with ho | ho <;> simp [execOp,ho,hx',hi',Instr.mapUpdate,run_underlying hT,MapKept.run_getObj_map hb,hf.chk,run_findKey hdd h1,MapKept.run_setObj_map _ hb,uQ]
  · have h2' : es[j]? = some e0 := by simpa using h2
    refine fin (es.modify j fun e=>{ e with key:=f y,val:=a.eval v }) clock ?_ (by rw [Array.toList_modify];exact hB.modify (fun _=>rfl)) ?_
    · have hkey:es.toList.modify j (fun e=>{ e with key:=f y,val:=a.eval v })=es.toList.modify j (fun e=>{ e with val:=a.eval v }):=by
        refine List.ext_getElem? fun m=>?_
        simp only [List.getElem?_modify]
        by_cases hm:j=m
        · subst hm;simp [h2',← h3]
        · simp [hm]
      rw [Array.toList_modify,hkey]
      exact h6 _ z (fun _=>rfl) (fun _=>hv')
    · rcases ho with ho | ho <;> simp [execOp,ho,hx',hi',Instr.mapUpdate,run_underlying hT,MapKept.run_getObj_map hb,hf.chk,run_findKey hdd h1,h2',h3,run_keyThatStays (hf.bits y),MapKept.run_setObj_map _ hb,uQ]
theorem EX {T K E:TypeId} {rk:Rep α} {f:α→Value} {rv:Rep β} {s:Nat} {x i v:Operand} {l:List (α×β)} {y:α} {z:β} (hf:yF P K rk f) (hT:P.underlying T=some (.map K E)) (hd:o.dst=none)
  (ho:o.op = .mapUpdate T x i v∨o.op = .insert T x i v) (hx:bV N x (Ov s)) (hi:bV N i (fV rk y)) (hv:bV N v (fV rv z)):dM P o N [(s,dL f rv l)] aZ.qm [(s,some (dL f rv (pK l y z)))]:=Ec hf hT hd .slot ho (.slot hx) hi hv
theorem uJ {T K E:TypeId} {rk:Rep α} {f:α→Value} {rv:Rep β} {s:Nat} {sv:Value} {x i v:Operand} {l:List (α×β)} {y:α} {z:β} (hf:yF P K rk f) (hT:P.underlying T=some (.map K E)) (hd:o.dst=none)
  (ho:o.op = .mapUpdate T x i v∨o.op = .insert T x i v) (hx:bV N x (jK sv)) (hi:bV N i (fV rk y)) (hv:bV N v (fV rv z)):dM P o N [(s,ig (dL f rv l) sv)] aZ.qm [(s,some (ig (dL f rv (pK l y z)) sv))]:=Ec hf hT hd (.val sv) ho (.val hx) hi hv
def ES:List (α×β)→α→List (α×β)
 | [],_=>[]
 | p :: r,x=>bif decide (x=p.1) then r else p :: ES r x
theorem Nq {f:α→Value} {rv:Rep β} {h:H} {d:TypeDesc} (hd:∀ x y,Instr.sameNow d (f x) (f y)=some (decide (x=y))) (x:α):∀ {es:List MapEntry} {l:List (α×β)} (n:Nat),xQ f rv h es l →
    (Instr.findNow d (f x) es n=some none∧ES l x=l)∨∃ i v,Instr.findNow d (f x) es n=some (some (n+i,v))∧xQ f rv h (es.eraseIdx i) (ES l x)
  | [],[],_,_=>.inl ⟨rfl,rfl⟩
  | e :: es,p :: l,n,⟨⟨hk,hv⟩,hr⟩=>by
    by_cases hx:x=p.1
    · refine .inr ⟨0,e.val,?_,?_⟩
      · simp only [Instr.findNow,hk,hd,hx,decide_true];rfl
      · simpa [ES,hx] using hr
    · have hn:∀ r,Instr.findNow d (f x) es (n+1)=r→Instr.findNow d (f x) (e :: es) n=r:=fun r h=>by
        simp only [Instr.findNow,hk,hd]
        rw [show decide (x=p.1)=false from decide_eq_false hx];exact h
      rcases Nq hd x (n+1) hr with ⟨h1,h2⟩ | ⟨i,v,h1,h2⟩
      · exact .inl ⟨hn _ h1,by simp [ES,hx,h2]⟩
      · refine .inr ⟨i + 1, v, hn _ (by rw [h1]; congr 3; omega), ?_⟩
        simp only [List.eraseIdx_cons_succ,ES,hx,decide_false,cond_false]
        exact ⟨⟨hk,hv⟩,h2⟩
theorem OH {T K E:TypeId} {rk:Rep α} {f:α→Value} {rv:Rep β} {s:Nat} {x i:Operand} {l:List (α×β)} {y:α} {ts:Array TypeId} (hf:yF P K rk f) (hT:P.underlying T=some (.map K E)) (hts:ts[0]? = some T) (W:Wr)
    (ho:o.op = .call { callee:=.builtin .delete,args:=#[x,i],argTypes:=ts }) (hx:Nh N x W s) (hi:bV N i (fV rk y)) (hds:GL o.dst s=true):dM P o N [(s,W.ap (dL f rv l))] aZ.qm [(s,some (W.ap (dL f rv (ES l y))))]:=by
  intro κ B F L h a w hst hn hk _ next Q hnext _
  obtain ⟨e,hL,hq⟩:=hk.1
  obtain ⟨b,hvb,rfl⟩:=Wr.iff.1 hq
  have hx':a.eval x = .map (some b):=(hx h a hn).trans hvb
  have hi':=hf.is (hi h a hn)
  obtain ⟨es,clock,hb,hr,hB⟩:=KR hst hL
  obtain ⟨d,hdd,OG⟩:=hf.now
  have hgs:∀ v,(a.put o.dst v).gt s=a.gt s:=fun v=>wE (by
    intro hd;unfold GL at hds;rw [hd] at hds
    simp [Nat.beq_refl] at hds)
  have fin:∀ es':Array MapEntry,xQ f rv h es'.toList (ES l y)→vS es'.toList clock→(execOp a.eval o).run P w = .ok (.value (.tuple #[])) (uQ w b (.map es' clock))→o.oq P a w next Q:=by
    intro es' hrel hbn hrun
    unfold Oper.oq
    rw [hrun]
    refine hnext _ h _ (set1 L s (qg b f rv (ES l y))) (lD.refl h) trivial ?_ ?_
    · obtain ⟨hcl,_⟩:=hst.own (k:=Sum.inl s) hL
      have hno:=(hcl (b,0) (by simp [qg])).2.2
      have hlt:=(hcl (b,0) (by simp [qg])).2.1
      refine hst.step (Sum.inl s) (fun i=>i=b) (fun i hi _=>⟨_,hL,(b,0),by simp [qg],hi.symm⟩) (by simp [uQ]) rfl rfl rfl (fun i _ hi=>IQ hi) (lD.refl h) (fun _ _ _ _=>rfl) ?_ rE ?_
      · rintro i o' u (rfl | hi) hu
        · rw [hno o' (Nat.zero_le _)] at hu;cases hu
        · rw [hst.fresh hi] at hu;cases hu
      · intro e' he
        rw [rF he]
        refine ⟨fun c hc=>?_,es',clock,IL hb,hrel,hbn⟩
        simp only [qg,List.mem_singleton] at hc
        subst hc
        exact ⟨.inr ⟨_,hL,(b,0),by simp [qg],rfl⟩,by simpa [uQ] using hlt,fun o' _=>hno o' (Nat.zero_le _)⟩
    · refine mg ?_
      rw [hgs]
      exact Wr.iff.2 ⟨b,hvb,rfl⟩
  rcases Nq OG y 0 hr with ⟨h1,h2⟩ | ⟨j,v,h1,h2⟩
  · refine fin es (by rw [h2]; exact hr) hB ?_
    simp [execOp,ho,resolve,invoke,builtin,Builtin.delete_,hts,hx',hi',run_underlying hT,MapKept.run_getObj_map hb,hf.chk,run_findKey hdd h1,MapKept.run_setObj_map _ hb,uQ]
  · rw [Nat.zero_add] at h1
    refine fin (es.eraseIdxIfInBounds j) (by rw [Array.toList_eraseIdxIfInBounds];exact h2) (by rw [Array.toList_eraseIdxIfInBounds];exact hB.eraseIdx) ?_
    simp [execOp,ho,resolve,invoke,builtin,Builtin.delete_,hts,hx',hi',run_underlying hT,MapKept.run_getObj_map hb,hf.chk,run_findKey hdd h1,MapKept.run_setObj_map _ hb,uQ]
theorem Oe {T K E:TypeId} {rk:Rep α} {f:α→Value} {rv:Rep β} {s:Nat} {sv:Value} {x i:Operand} {l:List (α×β)} {y:α} {ts:Array TypeId} (hf:yF P K rk f) (hT:P.underlying T=some (.map K E)) (hts:ts[0]? = some T)
  (ho:o.op = .call { callee:=.builtin .delete,args:=#[x,i],argTypes:=ts }) (hx:bV N x (jK sv)) (hi:bV N i (fV rk y)) (hds:GL o.dst s=true):dM P o N [(s,ig (dL f rv l) sv)] aZ.qm [(s,some (ig (dL f rv (ES l y)) sv))]:=OH hf hT hts (.val sv) ho (.val hx) hi hds
end
end Go.KB
namespace Go.KB
variable {P:Program} {o:Oper} {N:List (Nat×aZ)} {α β:Type}
def SX (r:Rep α) (h:H) (v:Value):Option α→Prop
 | none=>v = .pointer none
 | some x=>∃ b off,v = .pointer (some ⟨b,off,none⟩)∧xO r h b off x
def Rep.ptr (r:Rep α):Rep (Option α) where
 sz:=1
 agg:=false
 rel:=fun h cs x=>∃ v,cs=[v]∧SX r h v x
 zero:=none
 zc:=[.pointer none]
 one:=fun _=>rfl
 len:=fun ⟨v,e,_⟩=>by rw [e];rfl
 flat:=fun {h cs x} ⟨v,e,k⟩ c hc=>by
  rw [e] at hc;simp at hc;rw [hc]
  cases x with
  | none=>rw [show v=_ from k];rfl
  | some x=>obtain ⟨b,off,rfl,_⟩:=k;rfl
 mono:=fun {h h' cs x} hl ⟨v,e,k⟩=>⟨v,e,by
  cases x with
  | none=>exact k
  | some x=>obtain ⟨b,off,e,k⟩:=k;exact ⟨b,off,e,k.mono hl⟩⟩
 vH:=fun _=>⟨_,rfl,rfl⟩
theorem P5 {r:Rep α} {h:H} {v:Value} {x:Option α}:(Rep.ptr r).val h v x↔SX r h v x :=
 ⟨fun ⟨_,⟨v',e,k⟩,e'⟩=>by rw [e',e];exact k,fun k=>⟨[v],⟨v,rfl,k⟩,rfl⟩⟩
theorem Vp {r:Rep α}:bV N (.const (.pointer none)) (fV (Rep.ptr r) none):=fun _ _ _=>P5.2 rfl
theorem Wj {T T':TypeId} {r:Rep α} {x:Operand} {q:Option α} (hT:P.underlying T=some (.pointer (P.pointee T))) (ho:o.op = .binOp .eql T x (.const (.pointer none)) T') (hx:bV N x (fV (Rep.ptr r) q)):dM P o N [] (fV Rep.bool q.isNone) [] :=
 dM.qA fun h a w _ n=>by
  have hg:∀ p,(eqGuard .eql T x (.const (.pointer none)) (.pointer p) (.pointer none)).run P w = .ok () w:=by
   intro p;unfold eqGuard;rfl
  have hv:=P5.1 (hx h a n)
  cases q with
  | none =>
   have hv:a.eval x = .pointer none:=hv
   exact ⟨.bool true,by simp only [execOp,ho,hv,show a.eval (.const (.pointer none)) = .pointer none from rfl,hg,Sem.run_bind,Result.andThen_ok,Sem.run_pure,run_eql_pointer_nil w T none hT];rfl,jY.2 rfl⟩
  | some y =>
   obtain ⟨b,off,hv,_⟩:=hv
   exact ⟨.bool false,by simp only [execOp,ho,hv,show a.eval (.const (.pointer none)) = .pointer none from rfl,hg,Sem.run_bind,Result.andThen_ok,Sem.run_pure,run_eql_pointer_nil w T (some ⟨b,off,none⟩) hT];rfl,jY.2 rfl⟩
end Go.KB
namespace Go.KB
variable {P:Program} {o:Oper} {N:List (Nat×aZ)} {α β:Type}
theorem FP {s i:Nat} {ι:Type} {q0 q0':dR} {q q':ι→dR} {fx:aZ} {f:FuncId} {fn:Func} {args:List aZ} {post:aZ} {xs:Array Operand} {ts:Array TypeId} {y:Operand}
  (hc:∀ k,JE P f args i (q k) (q' k) post) (hb:BL s fx q0 q0' q q') (hfx:fx.dep=some s) (hf:P.funcs[f]? = some fn) (hbd:qx fn=true) (hd:ny (post :: args)=true) (hds:GL o.dst s=true)
  (ho:o.op = .call { callee:=.value (.func f),args:=xs,argTypes:=ts }) (hy:xs.toList[i]? = some y) (hyx:bV N y fx) (hargs:uj N args xs.toList):dM P o N [(s,q0)] aZ.qm [(s,some q0')] :=
 dM.out (lq hd post List.mem_cons_self) (fun _ _ _ _=>trivial) (SY hc hb hfx hf hbd hd hds ho hy hyx hargs)
end Go.KB
namespace Go.KB
variable {P:Program} {o:Oper} {N:List (Nat×aZ)} {α β:Type}
theorem IU (z:Array Value) (n:Nat):(Builtin.zeroCells z (n+1)).toList=z.toList ++ (Builtin.zeroCells z n).toList:=by
  unfold Builtin.zeroCells
  simp only [Array.toList_map,Array.toList_range]
  rw [show (n+1) * z.size=z.size+n * z.size by rw [Nat.add_mul];omega,List.range_add,List.map_append,List.map_map]
  congr 1
  · refine List.ext_getElem (by simp) fun i h1 h2 => ?_
    have hi:i<z.size:=by simpa using h2
    simp [Nat.mod_eq_of_lt hi,hi]
  · refine List.map_congr_left fun i _ => ?_
    simp
theorem Dv (z:List Value):∀ n,(Builtin.zeroCells z.toArray n).toList=(List.replicate n z).flatten
 | 0=>by simp [Builtin.zeroCells]
 | n+1=>by rw [IU,Dv z n,List.replicate_succ,List.flatten_cons]
end Go.KB
namespace Go.KB
section
variable {P:Program} {o:Oper} {N:List (Nat×aZ)} {α:Type}
theorem bC {T:TypeId} {r:Rep α} {s:Nat} {y:α} (t:jk P T r) (ho:o.op = .load T (.tmp s)):dM P o ((s,bM r y) :: N) [] (fV r y) []:=gq t ho au
theorem dG {β:Type} {T:TypeId} {r:Rep α} {q:Rep β} {s:Nat} {y:α} {i off:Nat} {get:α→β} {set:α→β→α} (l:Lens r q off get set) (hf:cu P T i off) (ho:o.op = .fieldAddr T (.tmp s) i):dM P o ((s,bM r y) :: N) [] (bM q (get y)) []:=fP l hf ho au
theorem fU {T:TypeId} {r:Rep α} {s v:Nat} {y z:α} (t:jk P T r) (ho:o.op = .store T (.tmp s) (.tmp v)) (hd:o.dst=none:=by rfl):dM P o ((v,fV r z) :: N) [(s,bH T r y)] aZ.qm [(s,some (bH T r z))]:=Nr t hd ho au
def S9:BinOp→Bool
 | .eql | .neq | .lss | .leq | .gtr | .geq=>true
 | _=>false
theorem IV {op:BinOp} (h:S9 op=true):op = .eql∨op = .neq∨op = .lss∨op = .leq∨op = .gtr∨op = .geq:=by
 cases op <;> first | (cases h;done) | simp
theorem iM {op:BinOp} {k:IntKind} {T T':TypeId} {s:Nat} {m n:Int} (ho:o.op = .binOp op T (.tmp s) (.const (.int k n)) T') (hop:S9 op=true:=by rfl):dM P o ((s,fV (Rep.int k) m) :: N) [] (fV Rep.bool (aO op m n)) []:=dV (IV hop) rfl ho au aY
theorem gY {op:BinOp} {k:IntKind} {T T':TypeId} {s t:Nat} {m n:Int} (ho:o.op = .binOp op T (.tmp s) (.tmp t) T') (hop:S9 op=true:=by rfl):dM P o ((s,fV (Rep.int k) m) :: (t,fV (Rep.int k) n) :: N) [] (fV Rep.bool (aO op m n)) []:=dV (IV hop) rfl ho au aF
theorem ji {α β γ:Type} {x:Option α} {f:α→Option β} {g:α→β→Option γ} {r:γ} (h:(x.bind fun a=>(f a).bind (g a))=some r):∃ a,x=some a∧∃ b,f a=some b∧g a b=some r:=by
 obtain ⟨a,h1,h⟩:=aU h
 obtain ⟨b,h2,h⟩:=aU h
 exact ⟨a,h1,b,h2,h⟩
theorem tn {K:Act→World→Prop} {Q:Exit→Act→World→Prop} {a:Act} {w:World} (h:K a w):Exit.then K Q .normal a w:=h
theorem tr {K:Act→World→Prop} {Q:Exit→Act→World→Prop} {a:Act} {w:World} (h:Q .ret a w):Exit.then K Q .ret a w:=h
theorem ws {ρ:Option Nat} {Q:Exit→Act→World→Prop} {a:Act} {w:World} {x y:Code} (h:x.oq ρ P (Exit.then (y.oq ρ P Q) Q) a w):(Code.seq x y).oq ρ P Q a w:=wp_seq h
theorem wk {ρ:Option Nat} {Q:Exit→Act→World→Prop} {a:Act} {w:World} (h:Q .normal a w):Code.skip.oq ρ P Q a w:=wp_skip h
theorem wr {ρ:Option Nat} {Q:Exit→Act→World→Prop} {a:Act} {w:World} (h:Q .ret a w):Code.ret.oq ρ P Q a w:=wp_ret h
abbrev ln {α:Type} (l:List α):Int:=(List.length l:Int)
abbrev w3:Int→Int:=IntKind.u32.wrap
abbrev w1:Int→Int:=IntKind.u16.wrap
abbrev lS {α:Type} (r:Rep α):Rep (List α):=Rep.slice r
end
end Go.KB
