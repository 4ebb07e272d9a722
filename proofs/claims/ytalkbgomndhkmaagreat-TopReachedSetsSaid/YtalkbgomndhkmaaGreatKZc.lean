/- Variables whose fields are rows that are appended to. Fields of values; values whose fields are nil, and variables that take them. Maps that are owned: made, looked into, written. Pointers that are only read, nil among them; texts as rows of bytes. Functions that take a row over and hand a row back. Rows that grow from nothing: cap, cuts and appends of zeros at nil. Arrays: slices of arrays that are not written any more, elements of arrays. No condition. -/
import Derived.Test.YtalkbgomndhkmaaGreatKZb
import Derived.MapKept
import Derived.Laws.Pointers
import Derived.Lib.ConvBytes
import Derived.Lib.AppendZeros
namespace Go.KB
variable {P:Program} {o:Oper} {N:List (Nat×aZ)} {f:aZ} {α β:Type}
inductive Wr where
 | slot
 | val (sv:Value)
def iO (q:eu) (sv:Value):eu:=fun _ e=>q sv e
def Wr.ap (W:Wr) (q:eu):eu:=match W with | .slot=>q | .val sv=>iO q sv
def Wr.v (W:Wr) (a:Act) (g:Nat):Value:=match W with | .slot=>a.gt g | .val sv=>sv
theorem Wr.iff {W:Wr} {q:eu} {a:Act} {g:Nat} {e:iI}:W.ap q (a.gt g) e↔q (W.v a g) e:=by cases W <;> rfl
def Qh (N:List (Nat×aZ)) (x:Operand) (W:Wr) (g:Nat):Prop:=∀ h a,CV N h a→a.eval x=W.v a g
theorem Qh.slot {x:Operand} {g:Nat} (hx:bQ N x (RQ g)):Qh N x .slot g:=fun h a n=>hx h a n
theorem Qh.val {x:Operand} {g:Nat} {sv:Value} (hx:bQ N x (jZ sv)):Qh N x (.val sv) g:=fun h a n=>hx h a n
theorem Wr.v_put {W:Wr} {a:Act} {s d:Nat} {v:Value} (h:s≠d):W.v (a.put (some d) v) s=W.v a s:=by
 cases W with
 | slot=>exact IW h
 | val sv=>rfl
def OD (N:List (Nat×aZ)) (x:Operand) (W:Wr) (s off:Nat):Prop:=∀ h a,CV N h a→∃ b,W.v a s = .pointer (some ⟨b,0,none⟩)∧a.eval x = .pointer (some ⟨b,off,none⟩)
def xX (sv:Value) (off:Nat):aZ:=⟨none,fun _ _ v=>∃ b,sv = .pointer (some ⟨b,0,none⟩)∧v = .pointer (some ⟨b,off,none⟩),fun _ x=>x⟩
theorem OD.slot {x:Operand} {s off:Nat} (hx:bQ N x (BQ s off)):OD N x .slot s off:=fun h a n=>hx h a n
theorem OD.val {x:Operand} {s off:Nat} {sv:Value} (hx:bQ N x (xX sv off)):OD N x (.val sv) s off:=fun h a n=>hx h a n
structure dQ where
 off:Nat
 E:TypeId
 sz:Nat
def qI:List dQ→List (Nat×Value×iI)→Prop
 | [],[]=>True
 | t :: ts,u :: us=>(u.1=t.off∧eX t.E t.sz u.2.1 u.2.2)∧qI ts us
 | _,_=>False
theorem qI.mid {t:dQ} {l2:List dQ}:∀ {l1:List dQ} {us:List (Nat×Value×iI)},qI (l1 ++ t :: l2) us →
  ∃ Ef u Es,us=Ef ++ u :: Es∧u.1=t.off∧eX t.E t.sz u.2.1 u.2.2∧qI l1 Ef∧qI l2 Es:=by
 intro l1
 induction l1 with
 | nil =>
  intro us h
  cases us with
  | nil=>exact h.elim
  | cons u us=>exact ⟨[],u,us,rfl,h.1.1,h.1.2,trivial,h.2⟩
 | cons t1 l1 ih =>
  intro us h
  cases us with
  | nil=>exact h.elim
  | cons u0 us =>
   obtain ⟨Ef,u,Es,rfl,h1,h2,h3,h4⟩:=ih h.2
   exact ⟨u0 :: Ef,u,Es,rfl,h1,h2,⟨h.1,h3⟩,h4⟩
theorem qI.app {l2:List dQ} {Es:List (Nat×Value×iI)} (h2:qI l2 Es):∀ {l1:List dQ} {Ef:List (Nat×Value×iI)},qI l1 Ef→qI (l1 ++ l2) (Ef ++ Es):=by
 intro l1
 induction l1 with
 | nil =>
  intro Ef h
  cases Ef with
  | nil=>exact h2
  | cons u us=>exact h.elim
 | cons t1 l1 ih =>
  intro Ef h
  cases Ef with
  | nil=>exact h.elim
  | cons u0 us=>exact ⟨h.1,ih h.2⟩
theorem qI.WJ:∀ {l:List dQ} {us:List (Nat×Value×iI)},qI l us→∀ u ∈ us,∃ t ∈ l,u.1=t.off:=by
 intro l
 induction l with
 | nil =>
  intro us h u hu
  cases us with
  | nil=>cases hu
  | cons _ _=>exact h.elim
 | cons t l ih =>
  intro us h u hu
  cases us with
  | nil=>exact h.elim
  | cons u0 us =>
   rcases List.mem_cons.1 hu with rfl | hu
   ·exact ⟨t,List.mem_cons_self,h.1.1⟩
   ·obtain ⟨t',ht',e⟩:=ih h.2 u hu
    exact ⟨t',List.mem_cons_of_mem _ ht',e⟩
theorem qI.cut {l2:List dQ}:∀ {l1:List dQ} {us:List (Nat×Value×iI)},qI (l1 ++ l2) us→∃ Ef Es,us=Ef ++ Es∧qI l1 Ef∧qI l2 Es:=by
 intro l1
 induction l1 with
 | nil=>intro us h;exact ⟨[],us,rfl,trivial,h⟩
 | cons t1 l1 ih =>
  intro us h
  cases us with
  | nil=>exact h.elim
  | cons u0 us =>
   obtain ⟨Ef,Es,rfl,h3,h4⟩:=ih h.2
   exact ⟨u0 :: Ef,Es,rfl,⟨h.1,h3⟩,h4⟩
def Gm (a b:List (Nat×Nat)):Prop:=∀ c ∈ a,∀ c' ∈ b,c.1≠c'.1
def BoxOk (b:Nat) (us:List (Nat×Value×iI)):Prop:=(us.map (fun u=>u.2.2.claims)).Pairwise Gm∧∀ u ∈ us,∀ c ∈ u.2.2.claims,c.1≠b
def IG (us:List (Nat×Value×iI)):List (Nat×Nat):=us.flatMap (fun u=>u.2.2.claims)
def kN (b:Nat) (T:TypeId) (r:Rep α) (x:α) (us:List (Nat×Value×iI)):iI where
 claims:=(b,0) :: IG us
 ok:=fun h m=>(∃ cs,m b=some (.cells cs.toArray T (0,0))∧r.rel h cs x∧∀ u ∈ us,cs[u.1]? = some u.2.1)∧∀ u ∈ us,u.2.2.ok h m
 mono:=by
  intro h h' m hl ⟨⟨cs,e,k,l⟩,q⟩
  exact ⟨⟨cs,e,r.mono hl k,l⟩,fun u hu=>u.2.2.mono hl (q u hu)⟩
 frame:=by
  intro h m m' hm ⟨⟨cs,e,k,l⟩,q⟩
  refine ⟨⟨cs,by rw [hm (b,0) (by simp)];exact e,k,l⟩,fun u hu=>u.2.2.frame (fun c hc=>hm c ?_) (q u hu)⟩
  exact List.mem_cons_of_mem _ (List.mem_flatMap.2 ⟨u,hu,hc⟩)
def eU (T:TypeId) (r:Rep α) (x:α) (ts:List dQ):eu:=fun v e=>∃ b us,v = .pointer (some ⟨b,0,none⟩)∧qI ts us∧BoxOk b us∧e=kN b T r x us
theorem St.split2 {κ:Type} {B:Base} {h:H} {L:Nat→Option iI} {F:κ→Option iI} {w:World} (hst:St B h (Sum.elim L F) w) {s d:Nat} {e e1 e2:iI} (hL:L s=some e) (_:s≠d)
    (h1:∀ c ∈ e1.claims,c ∈ e.claims) (h2:∀ c ∈ e2.claims,c ∈ e.claims) (hd:Gm e1.claims e2.claims) (k1:e1.ok h (World.mem w)) (k2:e2.ok h (World.mem w)) :
    St B h (Sum.elim (set1 (set1 L s e1) d e2) F) w:=by
  obtain ⟨hcl,_⟩:=hst.own (k:=Sum.inl s) hL
  have hval:∀ k e',set1 (set1 L s e1) d e2 k=some e'→(k=d∧e'=e2)∨(k=s∧e'=e1)∨(k≠s∧k≠d∧L k=some e'):=by
    intro k e' hk
    unfold set1 at hk
    split at hk
    · rename_i hkd;exact .inl ⟨hkd,(Option.some.inj hk).symm⟩
    · rename_i hkd
      split at hk
      · rename_i hks;exact .inr (.inl ⟨hks,(Option.some.inj hk).symm⟩)
      · rename_i hks;exact .inr (.inr ⟨hks,hkd,hk⟩)
  refine ⟨hst.low,hst.base,fun x=>hst.ext x,?_,?_⟩
  · intro k e' hk
    cases k with
    | inr k=>exact hst.own (k:=Sum.inr k) hk
    | inl k =>
      rcases hval k e' hk with ⟨_,rfl⟩ | ⟨_,rfl⟩ | ⟨_,_,hk⟩
      · exact ⟨fun c hc=>hcl c (h2 c hc),k2⟩
      · exact ⟨fun c hc=>hcl c (h1 c hc),k1⟩
      · exact hst.own (k:=Sum.inl k) hk
  · have other : ∀ (k : Nat ⊕ κ) e', Sum.elim L F k = some e' → k ≠ Sum.inl s → ∀ c ∈ e.claims, ∀ c' ∈ e'.claims, c.1 ≠ c'.1 := fun k e' hk hne => hst.uo (k := Sum.inl s) hL hk (Ne.symm hne)
    intro k k' a a' hk hk' hne c hc c' hc'
    cases k with
    | inr k =>
      cases k' with
      | inr k'=>exact hst.uo (k:=Sum.inr k) (k':=Sum.inr k') hk hk' hne c hc c' hc'
      | inl k' =>
        rcases hval k' a' hk' with ⟨_,rfl⟩ | ⟨_,rfl⟩ | ⟨h3,_,hk'⟩
        · exact (other (.inr k) a hk (by simp) c' (h2 _ hc') c hc).symm
        · exact (other (.inr k) a hk (by simp) c' (h1 _ hc') c hc).symm
        · exact hst.uo (k:=Sum.inr k) (k':=Sum.inl k') hk hk' (by simp) c hc c' hc'
    | inl k =>
      cases k' with
      | inr k' =>
        rcases hval k a hk with ⟨_,rfl⟩ | ⟨_,rfl⟩ | ⟨h3,_,hk⟩
        · exact other (.inr k') a' hk' (by simp) c (h2 _ hc) c' hc'
        · exact other (.inr k') a' hk' (by simp) c (h1 _ hc) c' hc'
        · exact hst.uo (k:=Sum.inl k) (k':=Sum.inr k') hk hk' (by simp) c hc c' hc'
      | inl k' =>
        have hne':k≠k':=fun x=>hne (by rw [x])
        rcases hval k a hk with ⟨e3,rfl⟩ | ⟨e3,rfl⟩ | ⟨h3,h4,hk2⟩ <;> rcases hval k' a' hk' with ⟨e4,rfl⟩ | ⟨e4,rfl⟩ | ⟨h5,h6,UY⟩
        · exact absurd (e3.trans e4.symm) hne'
        · exact (hd c' hc' c hc).symm
        · exact other (.inl k') a' UY (fun x=>h5 (Sum.inl.inj x)) c (h2 _ hc) c' hc'
        · exact hd c hc c' hc'
        · exact absurd (e3.trans e4.symm) hne'
        · exact other (.inl k') a' UY (fun x=>h5 (Sum.inl.inj x)) c (h1 _ hc) c' hc'
        · exact (other (.inl k) a hk2 (fun x=>h3 (Sum.inl.inj x)) c' (h2 _ hc') c hc).symm
        · exact (other (.inl k) a hk2 (fun x=>h3 (Sum.inl.inj x)) c' (h1 _ hc') c hc).symm
        · exact hst.uo (k:=Sum.inl k) (k':=Sum.inl k') hk2 UY (fun x=>hne' (Sum.inl.inj x)) c hc c' hc'
def AV (L:Nat→Option iI) (s d:Nat) (e:iI):Nat→Option iI:=fun k=>if k=d then none else if k=s then some e else L k
theorem St.AV {κ:Type} {B:Base} {h:H} {L:Nat→Option iI} {F:κ→Option iI} {w:World} (hst:St B h (Sum.elim L F) w) {s d:Nat} {e e1 e2:iI} (hL:L s=some e1) (hL2:L d=some e2)
  (hc:∀ c ∈ e.claims,c ∈ e1.claims∨c ∈ e2.claims) (ho:e.ok h (World.mem w)):St B h (Sum.elim (AV L s d e) F) w:=by
 obtain ⟨hcl1,_⟩:=hst.own (k:=Sum.inl s) hL
 obtain ⟨hcl2,_⟩:=hst.own (k:=Sum.inl d) hL2
 have hval:∀ k e',KB.AV L s d e k=some e'→(k=s∧e'=e)∨(k≠s∧k≠d∧L k=some e'):=by
  intro k e' hk
  unfold KB.AV at hk
  split at hk
  ·cases hk
  ·rename_i hkd
   split at hk
   ·rename_i hks;exact .inl ⟨hks,(Option.some.inj hk).symm⟩
   ·rename_i hks;exact .inr ⟨hks,hkd,hk⟩
 refine ⟨hst.low,hst.base,fun x=>hst.ext x,?_,?_⟩
 ·intro k e' hk
  cases k with
  | inr k=>exact hst.own (k:=Sum.inr k) hk
  | inl k =>
   rcases hval k e' hk with ⟨_,rfl⟩ | ⟨_,_,hk⟩
   ·exact ⟨fun c hcc=>(hc c hcc).elim (hcl1 c) (hcl2 c),ho⟩
   ·exact hst.own (k:=Sum.inl k) hk
 ·have other:∀ (k:Nat ⊕ κ) e',Sum.elim L F k=some e'→k≠Sum.inl s→k≠Sum.inl d→∀ c ∈ e.claims,∀ c' ∈ e'.claims,c.1≠c'.1:=by
   intro k e' hk hn1 hn2 c hcc
   rcases hc c hcc with h1 | h1
   ·exact hst.uo (k:=Sum.inl s) hL hk (Ne.symm hn1) c h1
   ·exact hst.uo (k:=Sum.inl d) hL2 hk (Ne.symm hn2) c h1
  intro k k' a a' hk hk' hne c hcc c' KX
  cases k with
  | inr k =>
   cases k' with
   | inr k'=>exact hst.uo (k:=Sum.inr k) (k':=Sum.inr k') hk hk' hne c hcc c' KX
   | inl k' =>
    rcases hval k' a' hk' with ⟨_,rfl⟩ | ⟨h3,_,hk'⟩
    ·exact (other (.inr k) a hk (by simp) (by simp) c' KX c hcc).symm
    ·exact hst.uo (k:=Sum.inr k) (k':=Sum.inl k') hk hk' (by simp) c hcc c' KX
  | inl k =>
   cases k' with
   | inr k' =>
    rcases hval k a hk with ⟨_,rfl⟩ | ⟨h3,_,hk⟩
    ·exact other (.inr k') a' hk' (by simp) (by simp) c hcc c' KX
    ·exact hst.uo (k:=Sum.inl k) (k':=Sum.inr k') hk hk' (by simp) c hcc c' KX
   | inl k' =>
    have hne':k≠k':=fun x=>hne (by rw [x])
    rcases hval k a hk with ⟨e3,rfl⟩ | ⟨h3,h4,hk2⟩ <;> rcases hval k' a' hk' with ⟨e4,rfl⟩ | ⟨h5,h6,UY⟩
    ·exact absurd (e3.trans e4.symm) hne'
    ·exact other (.inl k') a' UY (fun x=>h5 (Sum.inl.inj x)) (fun x=>h6 (Sum.inl.inj x)) c hcc c' KX
    ·exact (other (.inl k) a hk2 (fun x=>h3 (Sum.inl.inj x)) (fun x=>h4 (Sum.inl.inj x)) c' KX c hcc).symm
    ·exact hst.uo (k:=Sum.inl k) (k':=Sum.inl k') hk2 UY (fun x=>hne' (Sum.inl.inj x)) c hcc c' KX
theorem zX {κ:Type} {B:Base} {h:H} {L:Nat→Option iI} {F:κ→Option iI} {w:World} (hst:St B h (Sum.elim L F) w) {s b:Nat} {T:TypeId} {r:Rep α} {x:α} {us:List (Nat×Value×iI)}
  (hk:L s=some (kN b T r x us)):(∃ cs,w.heap[b]? = some (.cells cs.toArray T (0,0))∧r.rel h cs x∧∀ u ∈ us,cs[u.1]? = some u.2.1)∧∀ u ∈ us,u.2.2.ok h (World.mem w):=(hst.own (k:=Sum.inl s) hk).2
theorem jK {T T':TypeId} {r:Rep α} {y:α} {ts:List dQ} {s i off:Nat} (hf:bZ P T i off) (ho:o.op = .fieldAddr T (.tmp s) i):dK P o N [(s,eU T' r y ts)] (BQ s off) []:=by
 intro κ B F L h a w hst hn hk _ next Q hnext _
 obtain ⟨e,_,b,us,hv,_⟩:=hk.1
 unfold Oper.qf
 have hv':a.eval (.tmp s) = .pointer (some ⟨b,0,none⟩):=hv
 have:(execOp a.eval o).run P w = .ok (.value (.pointer (some ⟨b,off,none⟩))) w:=by simp [execOp,ho,hv',hf b 0 w]
 rw [this]
 exact hnext _ h w L (mW.refl h) ⟨b,hv,rfl⟩ hst mM
theorem eF {T T':TypeId} {r:Rep α} {y:α} {ts:List dQ} {s i off:Nat} {sv:Value} {x:Operand} (hf:bZ P T i off) (ho:o.op = .fieldAddr T x i) (hx:bQ N x (jZ sv)):dK P o N [(s,iO (eU T' r y ts) sv)] (xX sv off) []:=by
 intro κ B F L h a w hst hn hk _ next Q hnext _
 obtain ⟨e,_,b,us,hv,_⟩:=hk.1
 have hv':a.eval x = .pointer (some ⟨b,0,none⟩):=(hx h a hn:a.eval x=sv).trans hv
 unfold Oper.qf
 have:(execOp a.eval o).run P w = .ok (.value (.pointer (some ⟨b,off,none⟩))) w:=by simp [execOp,ho,hv',hf b 0 w]
 rw [this]
 exact hnext _ h w L (mW.refl h) ⟨b,hv,rfl⟩ hst mM
theorem uS {T:TypeId} {i off off':Nat} {sv:Value} {x:Operand} (hf:bZ P T i off) (ho:o.op = .fieldAddr T x i) (hx:bQ N x (xX sv off')):dK P o N [] (xX sv (off'+off)) [] :=
 dK.qY fun h a w _ q=>by
  obtain ⟨b,hd,hv⟩:=hx h a q
  exact ⟨.pointer (some ⟨b,off'+off,none⟩),by simp [execOp,ho,hv,hf b off' w],b,hd,rfl⟩
theorem bQ.off0 {T':TypeId} {r:Rep α} {y:α} {ts:List dQ} {sv:Value} {x:Operand} {h:H} {a:Act} {e:iI} (hx:bQ N x (jZ sv)) (hn:CV N h a) (hk:eU T' r y ts sv e):∃ b,sv = .pointer (some ⟨b,0,none⟩)∧a.eval x = .pointer (some ⟨b,0,none⟩):=by
 obtain ⟨b,us,hv,_⟩:=hk
 exact ⟨b,hv,(hx h a hn:a.eval x=sv).trans hv⟩
theorem HY {T T':TypeId} {r:Rep α} {q:Rep β} {ts:List dQ} {s off:Nat} {x:Operand} {y:α} {get:α→β} {set:α→β→α} (l:Lens r q off get set) (t:jJ P T q) (W:Wr) (ho:o.op = .load T x) (hx:OD N x W s off) :
  dK P o N [(s,W.ap (eU T' r y ts))] (fV q (get y)) []:=by
 intro κ B F L h a w hst hn hk _ next Q hnext _
 obtain ⟨b,hd,hv⟩:=hx h a hn
 obtain ⟨e,hL,YQ⟩:=hk.1
 obtain ⟨b',us,hv',_,_,rfl⟩:=Wr.iff.1 YQ
 have hd':W.v a s = .pointer (some ⟨b,0,none⟩):=hd
 rw [hd'] at hv';cases hv'
 obtain ⟨⟨cs,hb,hr,_⟩,_⟩:=zX hst hL
 obtain ⟨c,hc,hrun⟩:=wL t l hb hr
 unfold Oper.qf
 have:(execOp a.eval o).run P w = .ok (.value (pack q.agg c)) w:=by simp [execOp,ho,hv,hrun]
 rw [this]
 exact hnext _ h w L (mW.refl h) ⟨c,hc,rfl⟩ hst mM
theorem lW {T T':TypeId} {r:Rep α} {q:Rep β} {ts:List dQ} {s off:Nat} {x:Operand} {y:α} {get:α→β} {set:α→β→α} (l:Lens r q off get set) (t:jJ P T q) (ho:o.op = .load T x) (hx:bQ N x (BQ s off)) :
  dK P o N [(s,eU T' r y ts)] (fV q (get y)) []:=HY l t .slot ho (.slot hx)
theorem gK {sv:Value} {T T':TypeId} {r:Rep α} {q:Rep β} {ts:List dQ} {s off:Nat} {x:Operand} {y:α} {get:α→β} {set:α→β→α} (l:Lens r q off get set) (t:jJ P T q) (ho:o.op = .load T x) (hx:bQ N x (xX sv off)) :
  dK P o N [(s,iO (eU T' r y ts) sv)] (fV q (get y)) []:=HY l t (.val sv) ho (.val hx)
theorem yX {T T':TypeId} {r:Rep α} {ts:List dQ} {s:Nat} {y:α} (t:jJ P T r) (ho:o.op = .load T (.tmp s)) :
  dK P o N [(s,eU T' r y ts)] (fV r y) []:=by
 intro κ B F L h a w hst hn hk _ next Q hnext _
 obtain ⟨e,hL,b,us,hv,_,_,rfl⟩:=hk.1
 have hv':a.eval (.tmp s) = .pointer (some ⟨b,0,none⟩):=hv
 obtain ⟨⟨cs,hb,hr,_⟩,_⟩:=zX hst hL
 obtain ⟨c,hc,hrun⟩:=wL t (Lens.refl r) hb hr
 unfold Oper.qf
 have:(execOp a.eval o).run P w = .ok (.value (pack r.agg c)) w:=by simp [execOp,ho,hv',hrun]
 rw [this]
 exact hnext _ h w L (mW.refl h) ⟨c,hc,rfl⟩ hst mM
def Hz:Value:=.slice none 0 0
def xw (cs:List Value):List dQ→Prop
 | []=>True
 | t :: ts=>cs[t.off]? = some Hz∧xw cs ts
def EN (ts:List dQ):List (Nat×Value×iI):=ts.map (fun t=>(t.off,Hz,yT))
theorem Fp:∀ (ts:List dQ),qI ts (EN ts)
 | []=>trivial
 | _ :: ts=>⟨⟨rfl,.inl ⟨none,0,rfl,rfl⟩⟩,Fp ts⟩
theorem Fj {ts:List dQ} {u:Nat×Value×iI} (hu:u ∈ EN ts):u.2.2=yT∧u.2.1=Hz:=by
 obtain ⟨t,_,rfl⟩:=List.mem_map.1 hu;exact ⟨rfl,rfl⟩
theorem Ht (b:Nat):∀ (ts:List dQ),BoxOk b (EN ts)
 | []=>⟨List.Pairwise.nil,fun u hu=>by cases hu⟩
 | t :: ts=>⟨List.Pairwise.cons (fun l _ c hc=>by cases hc) (Ht b ts).1,fun u hu c hc=>by rw [(Fj hu).1] at hc;cases hc⟩
theorem Hr:∀ (ts:List dQ),IG (EN ts)=[]
 | []=>rfl
 | _ :: ts=>Hr ts
theorem xw.at {cs:List Value}:∀ {ts:List dQ},xw cs ts→∀ u ∈ EN ts,cs[u.1]? = some u.2.1:=by
 intro ts
 induction ts with
 | nil=>intro _ u hu;cases hu
 | cons t ts ih =>
  intro h u hu
  rcases List.mem_cons.1 hu with rfl | hu
  ·exact h.1
  ·exact ih h.2 u hu
theorem Uy {T:TypeId} {r:Rep α} {d:Nat} (ts:List dQ) (t:jJ P T r) (hz:xw r.zc ts) (hd:o.dst=some d) (ho:o.op = .alloc T):dK P o N [] aZ.qH [(d,some (eU T r r.zero ts))]:=by
 intro κ B F L h a w hst hn _ hdn next Q hnext _
 unfold Oper.qf
 have:(execOp a.eval o).run P w = .ok (.value (.pointer (some ⟨w.heap.size,0,none⟩))) (w.alloc (.cells r.zc.toArray T)):=by
  simp [execOp,ho,Instr.alloc,t.zero,DJ (r.vS h)]
 rw [this]
 refine hnext _ h _ (set1 L d (kN w.heap.size T r r.zero (EN ts))) (mW.refl h) trivial (hst.Aa _ d _ ?_ ⟨⟨_,Ac _ _,r.vS h,hz.at⟩,fun u hu=>by rw [(Fj hu).1];trivial⟩) ?_
 ·intro c hc
  have:c ∈ (w.heap.size,0) :: IG (EN ts):=hc
  rw [Hr] at this
  simp at this;rw [this]
 rw [hd]
 exact mg ⟨_,_,iq (hdn d hd),Fp ts,Ht _ ts,rfl⟩
def apartB (off sz:Nat) (ts:List dQ):Bool:=ts.all (fun t=>Nat.blt t.off off||Nat.ble (off+sz) t.off)
theorem xM {off sz:Nat} {ts:List dQ} (h:apartB off sz ts=true):∀ t ∈ ts,t.off<off∨off+sz≤t.off:=by
 intro t ht
 have:=List.all_eq_true.1 h t ht
 simpa [Nat.blt_eq] using this
theorem NF {p c c' q:List Value} {off sz i:Nat} (hp:p.length=off) (hc:c.length=sz) (hc':c'.length=sz) (h:i<off∨off+sz≤i):(p ++ c' ++ q)[i]? = (p ++ c ++ q)[i]?:=by
  rcases h with h | h
  · rw [List.append_assoc,List.append_assoc,List.getElem?_append_left (by omega),List.getElem?_append_left (by omega)]
  · rw [List.getElem?_append_right (by simp; omega), List.getElem?_append_right (by simp; omega)]
    congr 1;simp;omega
theorem UZ {h:H} {w w':World} {b:Nat} {us:List (Nat×Value×iI)} (GL:BoxOk b us) (hw:∀ i,i≠b→w'.heap[i]? = w.heap[i]?) (h2:∀ u ∈ us,u.2.2.ok h (World.mem w)):∀ u ∈ us,u.2.2.ok h (World.mem w') :=
 fun u hu=>u.2.2.frame (fun c hc=>hw c.1 (GL.2 u hu c hc)) (h2 u hu)
theorem BoxOk.sub {b:Nat} {us WW:List (Nat×Value×iI)} (h:WW.Sublist us) (hb:BoxOk b us):BoxOk b WW :=
 ⟨hb.1.sublist (h.map _),fun u hu=>hb.2 u (h.subset hu)⟩
theorem Qi {us WW:List (Nat×Value×iI)} (h:WW.Sublist us):∀ c ∈ IG WW,c ∈ IG us:=by
 intro c hc
 obtain ⟨u,hu,Zp⟩:=List.mem_flatMap.1 hc
 exact List.mem_flatMap.2 ⟨u,h.subset hu,Zp⟩
theorem yR {T T':TypeId} {r:Rep α} {q:Rep β} {off:Nat} {y:α} {z:β} {get:α→β} {set:α→β→α} (l:Lens r q off get set) (t:jJ P T q) {κ:Type} {B:Base} {F:κ→Option iI} {L:Nat→Option iI} {h:H} {w:World} {s b:Nat} {us WW:List (Nat×Value×iI)}
  (hst:St B h (Sum.elim L F) w) (hL:L s=some (kN b T' r y us)) (GL:BoxOk b us) (hsub:WW.Sublist us) (hap:∀ u ∈ WW,u.1<off∨off+q.sz≤u.1) {c':List Value} (hc':q.rel h c' z) :
  ∃ p c q':List Value,p.length=off∧(Instr.storeAt T (.pointer (some ⟨b,off,none⟩)) (pack q.agg c')).run P w = .ok () (w.setRow b (p ++ c' ++ q').toArray)∧c.length=q.sz ∧
   (w.setRow b (p ++ c' ++ q').toArray).heap[b]? = some (.cells (p ++ c' ++ q').toArray T' (0,0))∧r.rel h (p ++ c' ++ q') (set y z)∧(∀ u ∈ WW,(p ++ c' ++ q')[u.1]? = some u.2.1) ∧
   St B h (Sum.elim (set1 L s (kN b T' r (set y z) WW)) F) (w.setRow b (p ++ c' ++ q').toArray):=by
 obtain ⟨⟨cs,hb,hr,hu1⟩,hu2⟩:=zX hst hL
 obtain ⟨p,c,q',rfl,hp,hc,hset⟩:=l h cs y hr
 have hrun:=sJ t hc' hb (q.len hc)
 rw [hp] at hrun
 have hmem:=wu w b _ (p ++ c' ++ q').toArray T' hb
 have hrel:=hset h c' z (mW.refl h) hc'
 have hget:∀ u ∈ WW,(p ++ c' ++ q')[u.1]? = some u.2.1:=fun u hu=>by
  rw [NF hp (q.len hc) (q.len hc') (hap u hu)];exact hu1 u (hsub.subset hu)
 obtain ⟨hcl,_⟩:=hst.own (k:=Sum.inl s) hL
 have hno:=(hcl (b,0) (by simp [kN])).2.2
 refine ⟨p,c,q',hp,hrun,q.len hc,hmem,hrel,hget,?_⟩
 refine hst.write (Sum.inl s) (e:=kN b T' r y us) hL (b:=b) (lo:=0) (by simp [kN]) hmem (fun i hi=>setRow_other w b i _ hi) (by simp [World.setRow]) rfl rfl rfl ?_ rW ?_
 ·intro o' v hh;rw [hno o' (Nat.zero_le _)] at hh;cases hh
 ·intro e' he
  rw [rX he]
  refine ⟨fun c hc=>?_,⟨_,hmem,hrel,hget⟩,UZ (GL.sub hsub) (fun i hi=>setRow_other w b i _ hi) (fun u hu=>hu2 u (hsub.subset hu))⟩
  rcases List.mem_cons.1 hc with rfl | hc
  ·exact List.mem_cons_self
  ·exact List.mem_cons_of_mem _ (Qi hsub c hc)
theorem Sj {T T':TypeId} {r:Rep α} {q:Rep β} {ts:List dQ} {s off:Nat} {x v:Operand} {y:α} {z:β} {get:α→β} {set:α→β→α} {y':α} (l:Lens r q off get set) (t:jJ P T q) (hap:apartB off q.sz ts=true) (hd:o.dst=none)
  (W:Wr) (ho:o.op = .store T x v) (hx:OD N x W s off) (hv:bQ N v (fV q z)) (hy':y'=set y z):dK P o N [(s,W.ap (eU T' r y ts))] aZ.qH [(s,some (W.ap (eU T' r y' ts)))]:=by
 subst hy'
 intro κ B F L h a w hst hn hk _ next Q hnext _
 obtain ⟨b,hdv,hxv⟩:=hx h a hn
 obtain ⟨e,hL,YQ⟩:=hk.1
 obtain ⟨b',us,hv',hta,GL,rfl⟩:=Wr.iff.1 YQ
 have hd':W.v a s = .pointer (some ⟨b,0,none⟩):=hdv
 rw [hd'] at hv';cases hv'
 obtain ⟨c',hc',hvv⟩:=hv h a hn
 obtain ⟨p,c,q',hp,hrun,_,_,_,_,hst'⟩:=yR l t hst hL GL (List.Sublist.refl us) (fun u hu=>by
  obtain ⟨t,ht,e⟩:=hta.WJ u hu;rw [e];exact xM hap t ht) hc'
 unfold Oper.qf
 have:(execOp a.eval o).run P w = .ok .skip (w.setRow b (p ++ c' ++ q').toArray):=by
  simp only [execOp,ho,hxv,hvv,Sem.run_bind,hrun,Result.andThen_ok,Sem.run_pure]
 rw [this]
 refine hnext undef h _ _ (mW.refl h) trivial hst' ?_
 rw [hd]
 exact mg (Wr.iff.2 ⟨b,us,hd',hta,GL,rfl⟩)
theorem Ru {sv:Value} {T T':TypeId} {r:Rep α} {q:Rep β} {ts:List dQ} {s off:Nat} {x v:Operand} {y:α} {z:β} {get:α→β} {set:α→β→α} {y':α} (l:Lens r q off get set) (t:jJ P T q) (hap:apartB off q.sz ts=true) (hd:o.dst=none)
  (ho:o.op = .store T x v) (hx:bQ N x (xX sv off)) (hv:bQ N v (fV q z)) (hy':y'=set y z):dK P o N [(s,iO (eU T' r y ts) sv)] aZ.qH [(s,some (iO (eU T' r y' ts) sv))]:=Sj l t hap hd (.val sv) ho (.val hx) hv hy'
theorem Dq {T T':TypeId} {r:Rep α} {s:Nat} {sv:Value} {x v:Operand} {y z:α} (t:jJ P T r) (hd:o.dst=none) (ho:o.op = .store T x v) (hx:bQ N x (jZ sv)) (hv:bQ N v (fV r z)) :
  dK P o N [(s,iO (eU T' r y []) sv)] aZ.qH [(s,some (iO (eU T' r z []) sv))]:=by
 intro κ B F L h a w hst hn hk hdn next Q hnext _
 obtain ⟨e,hL,hq⟩:=hk.1
 obtain ⟨b,h1,h2⟩:=hx.off0 hn hq
 obtain ⟨b',us,hv',hta,GL,rfl⟩:=hq
 rw [h1] at hv';cases hv'
 obtain ⟨c',hc',hvv⟩:=hv h a hn
 obtain ⟨p,c,q',hp,hrun,_,_,_,_,hst'⟩:=yR (Lens.refl r) t hst hL GL (List.nil_sublist us) (fun u hu=>by cases hu) hc'
 unfold Oper.qf
 have:(execOp a.eval o).run P w = .ok .skip (w.setRow b (p ++ c' ++ q').toArray):=by
  simp only [execOp,ho,h2,hvv,Sem.run_bind,hrun,Result.andThen_ok,Sem.run_pure]
 rw [this]
 refine hnext undef h _ _ (mW.refl h) trivial hst' ?_
 rw [hd]
 exact mg ⟨b,[],h1,trivial,⟨List.Pairwise.nil,fun u hu=>by cases hu⟩,rfl⟩
theorem BoxOk.nil {b off:Nat} {Ef Es:List (Nat×Value×iI)} (h:BoxOk b (Ef ++ Es)):BoxOk b (Ef ++ (off,Hz,yT) :: Es):=by
 obtain ⟨h1,h2⟩:=h
 constructor
 ·rw [List.map_append,List.pairwise_append] at h1 ⊢
  obtain ⟨k1,k2,k3⟩:=h1
  refine ⟨k1,List.Pairwise.cons (fun l _ c hc=>by cases hc) k2,fun x hx y hy=>?_⟩
  rcases List.mem_cons.1 hy with rfl | hy
  ·intro c _ c' hc';cases hc'
  ·exact k3 x hx y hy
 ·intro u hu c hc
  rcases List.mem_append.1 hu with hu | hu
  ·exact h2 u (List.mem_append_left _ hu) c hc
  ·rcases List.mem_cons.1 hu with rfl | hu
   ·cases hc
   ·exact h2 u (List.mem_append_right _ hu) c hc
theorem MO {T T' E:TypeId} {r:Rep α} {q:Rep β} {l1 l2:List dQ} {s off sz:Nat} {x:Operand} {y:α} {get:α→List β} {set:α→List β→α} {y':α} (l:Lens r (Rep.slice q) off get set) (t:jJ P T (Rep.slice q)) (hap:apartB off 1 (l1 ++ l2)=true) (hd:o.dst=none)
  (W:Wr) (ho:o.op = .store T x (.const (.slice none 0 0))) (hx:OD N x W s off) (hy':y'=set y []):dK P o N [(s,W.ap (eU T' r y (l1 ++ l2)))] aZ.qH [(s,some (W.ap (eU T' r y' (l1 ++ ⟨off,E,sz⟩ :: l2))))]:=by
 subst hy'
 intro κ B F L h a w hst hn hk _ next Q hnext _
 obtain ⟨b,hdv,hxv⟩:=hx h a hn
 obtain ⟨e,hL,YQ⟩:=hk.1
 obtain ⟨b',us,hv',hta,GL,rfl⟩:=Wr.iff.1 YQ
 have hd':W.v a s = .pointer (some ⟨b,0,none⟩):=hdv
 rw [hd'] at hv';cases hv'
 have hc':(Rep.slice q).rel h [Hz] []:=⟨_,rfl,.inl ⟨⟨none,rfl⟩,rfl⟩⟩
 obtain ⟨p,c,q',hp,hrun,hcl,hmem,hrel,hget,hst'⟩:=yR l t hst hL GL (List.Sublist.refl us) (fun u hu=>by
  obtain ⟨t,ht,e⟩:=hta.WJ u hu;rw [e];exact xM hap t ht) hc'
 unfold Oper.qf
 have:(execOp a.eval o).run P w = .ok .skip (w.setRow b (p ++ [Hz] ++ q').toArray):=by
  have hrun':(Instr.storeAt T (.pointer (some ⟨b,off,none⟩)) (a.eval (.const (.slice none 0 0)))).run P w = .ok () (w.setRow b (p ++ [Hz] ++ q').toArray):=hrun
  simp only [execOp,ho,hxv,Sem.run_bind,hrun',Result.andThen_ok,Sem.run_pure]
 rw [this]
 obtain ⟨Ef,Es,rfl,h3,h4⟩:=hta.cut
 have hta':qI (l1 ++ ⟨off,E,sz⟩ :: l2) (Ef ++ (off,Hz,yT) :: Es):=qI.app (l2:=⟨off,E,sz⟩ :: l2) (Es:=(off,Hz,yT) :: Es) ⟨⟨rfl,.inl ⟨none,0,rfl,rfl⟩⟩,h4⟩ h3
 obtain ⟨_,hu2⟩:=zX hst' qG
 have hsw:=hst'.swap (e':=kN b T' r (set y []) (Ef ++ (off,Hz,yT) :: Es)) qG (fun c hc=>by
  refine ⟨c,?_,rfl,Nat.le_refl _⟩
  simpa [kN,IG,yT] using hc) ⟨⟨_,hmem,hrel,fun u hu=>by
   rcases List.mem_append.1 hu with hu | hu
   ·exact hget u (List.mem_append_left _ hu)
   ·rcases List.mem_cons.1 hu with rfl | hu
    ·simp only []
     rw [List.append_assoc,List.getElem?_append_right (by omega),hp];simp
    ·exact hget u (List.mem_append_right _ hu)⟩,fun u hu=>by
   rcases List.mem_append.1 hu with hu | hu
   ·exact hu2 u (List.mem_append_left _ hu)
   ·rcases List.mem_cons.1 hu with rfl | hu
    ·trivial
    ·exact hu2 u (List.mem_append_right _ hu)⟩
 rw [Ah] at hsw
 refine hnext undef h _ _ (mW.refl h) trivial hsw ?_
 rw [hd]
 exact mg (Wr.iff.2 ⟨b,_,hd',hta',GL.nil,rfl⟩)
theorem NZ {T T' E:TypeId} {r:Rep α} {q:Rep β} {l1 l2:List dQ} {s off sz:Nat} {x:Operand} {y:α} {get:α→List β} {set:α→List β→α} {y':α} (l:Lens r (Rep.slice q) off get set) (t:jJ P T (Rep.slice q)) (hap:apartB off 1 (l1 ++ l2)=true) (hd:o.dst=none)
  (ho:o.op = .store T x (.const (.slice none 0 0))) (hx:bQ N x (BQ s off)) (hy':y'=set y []):dK P o N [(s,eU T' r y (l1 ++ l2))] aZ.qH [(s,some (eU T' r y' (l1 ++ ⟨off,E,sz⟩ :: l2)))]:=MO l t hap hd .slot ho (.slot hx) hy'
theorem WX {L:Nat→Option iI} {s d:Nat} {e1 e2:iI} {q1 q2:eu} {a:Act} (hsd:s≠d) (h1:q1 (a.gt s) e1) (h2:q2 (a.gt d) e2):EP L (set1 (set1 L s e1) d e2) (full [(s,some q1),(d,some q2)] (some d)) a:=by
  intro k
  have WY:Nat.beq s d=false:=by rw [Bool.eq_false_iff,Ne,iT];exact hsd
  by_cases hk:k=d
  · subst hk
    have:qL (full [(s,some q1),(k,some q2)] (some k)) k=some (some q2):=by simp [full,qL,WY,Nat.beq_refl]
    rw [this];exact ⟨e2,by simp [set1],h2⟩
  · have h3 : Nat.beq d k = false := by rw [Bool.eq_false_iff, Ne, iT]; exact fun x => hk x.symm
    by_cases hk2:k=s
    · subst hk2
      have:qL (full [(k,some q1),(d,some q2)] (some d)) k=some (some q1):=by simp [full,qL,Nat.beq_refl]
      rw [this];exact ⟨e1,by simp [set1,hk],h1⟩
    · have h4 : Nat.beq s k = false := by rw [Bool.eq_false_iff, Ne, iT]; exact fun x => hk2 x.symm
      have:qL (full [(s,some q1),(d,some q2)] (some d)) k=none:=by simp [full,qL,h3,h4]
      rw [this];simp [set1,hk,hk2]
theorem Jv {T T' E:TypeId} {r:Rep α} {q:Rep β} {l1 l2:List dQ} {s d off sz:Nat} {x:Operand} {y:α} {get:α→List β} {set:α→List β→α} (l:Lens r (Rep.slice q) off get set) (t:jJ P T (Rep.slice q)) (hsd:Nat.beq s d=false) (hd:o.dst=some d) (W:Wr) (ho:o.op = .load T x) (hx:OD N x W s off) :
  dK P o N [(s,W.ap (eU T' r y (l1 ++ ⟨off,E,sz⟩ :: l2)))] (fV (Rep.slice q) (get y)) [(s,some (W.ap (eU T' r y (l1 ++ l2)))),(d,some (eX E sz))]:=by
 have hne:s≠d:=fun x=>by rw [iT.2 x] at hsd;cases hsd
 intro κ B F L h a w hst hn hk hdn next Q hnext _
 obtain ⟨b,hdv,hv⟩:=hx h a hn
 obtain ⟨e,hL,YQ⟩:=hk.1
 obtain ⟨b',us,hv',hta,GL,rfl⟩:=Wr.iff.1 YQ
 have hd':W.v a s = .pointer (some ⟨b,0,none⟩):=hdv
 rw [hd'] at hv';cases hv'
 obtain ⟨Ef,u0,Es,rfl,hoff,htip,h3,h4⟩:=hta.mid
 simp only [] at hoff htip
 have hsub:(Ef ++ Es).Sublist (Ef ++ u0 :: Es):=(List.Sublist.refl Ef).append (List.sublist_cons_self _ _)
 obtain ⟨⟨cs,hb,hr,hu1⟩,hu2⟩:=zX hst hL
 have hm0:u0 ∈ Ef ++ u0 :: Es:=List.mem_append_right _ List.mem_cons_self
 obtain ⟨p,c,q',rfl,hp,hc,_⟩:=l h cs y hr
 have hcl:=(Rep.slice q).len hc
 obtain ⟨c0,rfl,hc0⟩:=hc
 have hcv:c0=u0.2.1:=by
  have:=hu1 u0 hm0
  rw [hoff,List.append_assoc,List.getElem?_append_right (by omega),hp] at this
  simpa using this
 have hrun:=wz (b:=b) (off:=off) (w:=w) t hcl (fun j v hj=>by
  rw [vz _ _ _ _ _ _ hb]
  have hjl:=(List.getElem?_eq_some_iff.1 hj).1
  simp only [List.getElem?_toArray]
  rw [List.append_assoc,List.getElem?_append_right (by omega),← hp,Nat.add_sub_cancel_left,List.getElem?_append_left hjl];exact hj)
 unfold Oper.qf
 have:(execOp a.eval o).run P w = .ok (.value c0) w:=by
  have hrun':(Instr.loadAt T (.pointer (some ⟨b,off,none⟩))).run P w = .ok c0 w:=hrun
  simp [execOp,ho,hv,hrun']
 rw [this]
 have hpw:=GL.1
 rw [List.map_append,List.pairwise_append] at hpw
 obtain ⟨_,k2,k3⟩:=hpw
 have k4:=List.pairwise_cons.1 k2
 have hdis:Gm ((b,0) :: IG (Ef ++ Es)) u0.2.2.claims:=by
  intro c hc c' hc'
  rcases List.mem_cons.1 hc with rfl | hc
  ·exact (GL.2 u0 hm0 c' hc').symm
  ·obtain ⟨u,hu,Zp⟩:=List.mem_flatMap.1 hc
   rcases List.mem_append.1 hu with hu | hu
   ·exact k3 _ (List.mem_map.2 ⟨u,hu,rfl⟩) _ (List.mem_cons_self) c Zp c' hc'
   ·exact (k4.1 _ (List.mem_map.2 ⟨u,hu,rfl⟩) c' hc' c Zp).symm
 have hst':=hst.split2 (d:=d) (e1:=kN b T' r y (Ef ++ Es)) (e2:=u0.2.2) hL hne (fun c hc=>by
   rcases List.mem_cons.1 hc with rfl | hc
   ·exact List.mem_cons_self
   ·exact List.mem_cons_of_mem _ (Qi hsub c hc)) (fun c hc=>List.mem_cons_of_mem _ (List.mem_flatMap.2 ⟨u0,hm0,hc⟩)) hdis
  ⟨⟨_,hb,hr,fun u hu=>hu1 u (hsub.subset hu)⟩,fun u hu=>hu2 u (hsub.subset hu)⟩ (hu2 u0 hm0)
 refine hnext _ h w _ (mW.refl h) (nD.2 hc0) hst' ?_
 rw [hd]
 exact WX hne (Wr.iff.2 (by rw [Wr.v_put hne];exact ⟨b,_,hd',h4.app h3,GL.sub hsub,rfl⟩)) (by rw [iq (hdn d hd),hcv];exact htip)
theorem Rf {T T' E:TypeId} {r:Rep α} {q:Rep β} {l1 l2:List dQ} {s d off sz:Nat} {x:Operand} {y:α} {get:α→List β} {set:α→List β→α} (l:Lens r (Rep.slice q) off get set) (t:jJ P T (Rep.slice q)) (hsd:Nat.beq s d=false) (hd:o.dst=some d) (ho:o.op = .load T x) (hx:bQ N x (BQ s off)) :
  dK P o N [(s,eU T' r y (l1 ++ ⟨off,E,sz⟩ :: l2))] (fV (Rep.slice q) (get y)) [(s,some (eU T' r y (l1 ++ l2))),(d,some (eX E sz))]:=Jv l t hsd hd .slot ho (.slot hx)
theorem PI {sv:Value} {T T' E:TypeId} {r:Rep α} {q:Rep β} {l1 l2:List dQ} {s d off sz:Nat} {x:Operand} {y:α} {get:α→List β} {set:α→List β→α} (l:Lens r (Rep.slice q) off get set) (t:jJ P T (Rep.slice q)) (hsd:Nat.beq s d=false) (hd:o.dst=some d) (ho:o.op = .load T x) (hx:bQ N x (xX sv off)) :
  dK P o N [(s,iO (eU T' r y (l1 ++ ⟨off,E,sz⟩ :: l2)) sv)] (fV (Rep.slice q) (get y)) [(s,some (iO (eU T' r y (l1 ++ l2)) sv)),(d,some (eX E sz))]:=Jv l t hsd hd (.val sv) ho (.val hx)
theorem Nz {L:Nat→Option iI} {s d:Nat} {e:iI} {q:eu} {a:Act} (hsd:s≠d) (hq:q (a.gt s) e):EP L (AV L s d e) (full [(s,some q),(d,none)] none) a:=by
  intro k
  by_cases hk:k=s
  · subst hk
    have:qL (full [(k,some q),(d,none)] none) k=some (some q):=by simp [full,qL,Nat.beq_refl]
    rw [this];exact ⟨e,by simp [AV,hsd],hq⟩
  · have h4 : Nat.beq s k = false := by rw [Bool.eq_false_iff, Ne, iT]; exact fun x => hk x.symm
    by_cases hk2:k=d
    · subst hk2
      have:qL (full [(s,some q),(k,none)] none) k=some none:=by simp [full,qL,h4,Nat.beq_refl]
      rw [this];trivial
    · have h3 : Nat.beq d k = false := by rw [Bool.eq_false_iff, Ne, iT]; exact fun x => hk2 x.symm
      have:qL (full [(s,some q),(d,none)] none) k=none:=by simp [full,qL,h3,h4]
      rw [this];simp [AV,hk,hk2]
theorem H6 {T T' E:TypeId} {r:Rep α} {q:Rep β} {l1 l2:List dQ} {s d off sz:Nat} {x:Operand} {y:α} {zs:List β} {get:α→List β} {set:α→List β→α} {y':α} (l:Lens r (Rep.slice q) off get set) (t:jJ P T (Rep.slice q)) (hap:apartB off 1 (l1 ++ l2)=true) (hsd:Nat.beq s d=false) (hd:o.dst=none)
  (W:Wr) (ho:o.op = .store T x (.tmp d)) (hx:OD N x W s off) (hv:bQ N (.tmp d) (fV (Rep.slice q) zs)) (hy':y'=set y zs):dK P o N [(s,W.ap (eU T' r y (l1 ++ l2))),(d,eX E sz)] aZ.qH [(s,some (W.ap (eU T' r y' (l1 ++ ⟨off,E,sz⟩ :: l2)))),(d,none)]:=by
 subst hy'
 have hne:s≠d:=fun x=>by rw [iT.2 x] at hsd;cases hsd
 intro κ B F L h a w hst hn hk _ next Q hnext _
 obtain ⟨b,hdv,hxv⟩:=hx h a hn
 obtain ⟨e,hL,YQ⟩:=hk.1
 obtain ⟨b',us,hv',hta,GL,rfl⟩:=Wr.iff.1 YQ
 obtain ⟨et,hLt,htip⟩:=hk.2.1
 have hLt:L d=some et:=hLt
 have htip:eX E sz (a.gt d) et:=htip
 have hd':W.v a s = .pointer (some ⟨b,0,none⟩):=hdv
 rw [hd'] at hv';cases hv'
 obtain ⟨c',hc',hvv⟩:=hv h a hn
 have hvd:a.gt d=pack (Rep.slice q).agg c':=hvv
 obtain ⟨p,c,q',hp,hrun,hcl,hmem,hrel,hget,hst'⟩:=yR l t hst hL GL (List.Sublist.refl us) (fun u hu=>by
  obtain ⟨t,ht,e⟩:=hta.WJ u hu;rw [e];exact xM hap t ht) hc'
 obtain ⟨c0,rfl,hc0⟩:=hc'
 have hvd:a.gt d=c0:=hvd
 unfold Oper.qf
 have:(execOp a.eval o).run P w = .ok .skip (w.setRow b (p ++ [c0] ++ q').toArray):=by
  simp only [execOp,ho,hxv,hvv,Sem.run_bind,hrun,Result.andThen_ok,Sem.run_pure]
 rw [this]
 obtain ⟨Ef,Es,rfl,h3,h4⟩:=hta.cut
 have hta':qI (l1 ++ ⟨off,E,sz⟩ :: l2) (Ef ++ (off,c0,et) :: Es):=qI.app (l2:=⟨off,E,sz⟩ :: l2) (Es:=(off,c0,et) :: Es) ⟨⟨rfl,by rw [← hvd];exact htip⟩,h4⟩ h3
 have hLd':set1 L s (kN b T' r (set y zs) (Ef ++ Es)) d=some et:=by simp [set1,Ne.symm hne,hLt]
 have hdj:Gm ((b,0) :: IG (Ef ++ Es)) et.claims:=hst.uo (k:=Sum.inl s) (k':=Sum.inl d) hL hLt (fun x=>hne (Sum.inl.inj x))
 have hbo':BoxOk b (Ef ++ (off,c0,et) :: Es):=by
  obtain ⟨g1,g2⟩:=GL
  constructor
  ·rw [List.map_append,List.pairwise_append] at g1 ⊢
   obtain ⟨k1,k2,k3⟩:=g1
   refine ⟨k1,List.Pairwise.cons (fun l hl c hc c' hc'=>?_) k2,fun x hx y hy=>?_⟩
   ·obtain ⟨u,hu,rfl⟩:=List.mem_map.1 hl
    exact (hdj c' (List.mem_cons_of_mem _ (List.mem_flatMap.2 ⟨u,List.mem_append_right _ hu,hc'⟩)) c hc).symm
   ·rcases List.mem_cons.1 hy with rfl | hy
    ·intro c hc c' hc'
     obtain ⟨u,hu,rfl⟩:=List.mem_map.1 hx
     exact hdj c (List.mem_cons_of_mem _ (List.mem_flatMap.2 ⟨u,List.mem_append_left _ hu,hc⟩)) c' hc'
    ·exact k3 x hx y hy
  ·intro u hu c hc
   rcases List.mem_append.1 hu with hu | hu
   ·exact g2 u (List.mem_append_left _ hu) c hc
   ·rcases List.mem_cons.1 hu with rfl | hu
    ·exact (hdj (b,0) List.mem_cons_self c hc).symm
    ·exact g2 u (List.mem_append_right _ hu) c hc
 obtain ⟨_,hu2⟩:=zX hst' qG
 have hokt:et.ok h (World.mem (w.setRow b (p ++ [c0] ++ q').toArray)):=(hst'.own (k:=Sum.inl d) hLd').2
 have hj:=hst'.AV (e:=kN b T' r (set y zs) (Ef ++ (off,c0,et) :: Es)) qG hLd' (fun c hc=>by
  rcases List.mem_cons.1 hc with rfl | hc
  ·exact .inl List.mem_cons_self
  ·obtain ⟨u,hu,Zp⟩:=List.mem_flatMap.1 hc
   rcases List.mem_append.1 hu with hu | hu
   ·exact .inl (List.mem_cons_of_mem _ (List.mem_flatMap.2 ⟨u,List.mem_append_left _ hu,Zp⟩))
   ·rcases List.mem_cons.1 hu with rfl | hu
    ·exact .inr Zp
    ·exact .inl (List.mem_cons_of_mem _ (List.mem_flatMap.2 ⟨u,List.mem_append_right _ hu,Zp⟩))) ⟨⟨_,hmem,hrel,fun u hu=>by
   rcases List.mem_append.1 hu with hu | hu
   ·exact hget u (List.mem_append_left _ hu)
   ·rcases List.mem_cons.1 hu with rfl | hu
    ·simp only []
     rw [List.append_assoc,List.getElem?_append_right (by omega),hp];simp
    ·exact hget u (List.mem_append_right _ hu)⟩,fun u hu=>by
   rcases List.mem_append.1 hu with hu | hu
   ·exact hu2 u (List.mem_append_left _ hu)
   ·rcases List.mem_cons.1 hu with rfl | hu
    ·exact hokt
    ·exact hu2 u (List.mem_append_right _ hu)⟩
 have hL':AV (set1 L s (kN b T' r (set y zs) (Ef ++ Es))) s d (kN b T' r (set y zs) (Ef ++ (off,c0,et) :: Es))=AV L s d (kN b T' r (set y zs) (Ef ++ (off,c0,et) :: Es)):=by
  funext k;unfold AV set1
  by_cases h1:k=d
  ·rw [if_pos h1,if_pos h1]
  ·rw [if_neg h1,if_neg h1]
   by_cases h2:k=s
   ·rw [if_pos h2,if_pos h2]
   ·rw [if_neg h2,if_neg h2,if_neg h2]
 rw [hL'] at hj
 refine hnext undef h _ _ (mW.refl h) trivial hj ?_
 rw [hd]
 exact Nz hne (Wr.iff.2 ⟨b,_,hd',hta',hbo',rfl⟩)
theorem Px {T T' E:TypeId} {r:Rep α} {q:Rep β} {l1 l2:List dQ} {s d off sz:Nat} {x:Operand} {y:α} {zs:List β} {get:α→List β} {set:α→List β→α} {y':α} (l:Lens r (Rep.slice q) off get set) (t:jJ P T (Rep.slice q)) (hap:apartB off 1 (l1 ++ l2)=true) (hsd:Nat.beq s d=false) (hd:o.dst=none)
  (ho:o.op = .store T x (.tmp d)) (hx:bQ N x (BQ s off)) (hv:bQ N (.tmp d) (fV (Rep.slice q) zs)) (hy':y'=set y zs):dK P o N [(s,eU T' r y (l1 ++ l2)),(d,eX E sz)] aZ.qH [(s,some (eU T' r y' (l1 ++ ⟨off,E,sz⟩ :: l2))),(d,none)]:=H6 l t hap hsd hd .slot ho (.slot hx) hv hy'
theorem N7 {sv:Value} {T T' E:TypeId} {r:Rep α} {q:Rep β} {l1 l2:List dQ} {s d off sz:Nat} {x:Operand} {y:α} {zs:List β} {get:α→List β} {set:α→List β→α} {y':α} (l:Lens r (Rep.slice q) off get set) (t:jJ P T (Rep.slice q)) (hap:apartB off 1 (l1 ++ l2)=true) (hsd:Nat.beq s d=false) (hd:o.dst=none)
  (ho:o.op = .store T x (.tmp d)) (hx:bQ N x (xX sv off)) (hv:bQ N (.tmp d) (fV (Rep.slice q) zs)) (hy':y'=set y zs):dK P o N [(s,iO (eU T' r y (l1 ++ l2)) sv),(d,eX E sz)] aZ.qH [(s,some (iO (eU T' r y' (l1 ++ ⟨off,E,sz⟩ :: l2)) sv)),(d,none)]:=H6 l t hap hsd hd (.val sv) ho (.val hx) hv hy'
end Go.KB
namespace Go.KB
variable {P:Program} {o:Oper} {N:List (Nat×aZ)} {f:aZ} {α β:Type}
def AQ (P:Program) (T:TypeId) (i:Nat):Option (TypeId×Nat) :=
 match P.underlying T with
 | some (.struct fs)=>match fs[i]? with
  | some g=>some (g.type,g.offset)
  | none=>none
 | _=>none
theorem KY {T':TypeId} {q:Rep β} (t:jJ P T' q) {h:H} {p c r:List Value} {y:β} (hc:q.rel h c y) (w:World):(part T' (p ++ c ++ r).toArray p.length).run P w = .ok (pack q.agg c) w:=by
 have hl:=q.len hc
 unfold part
 cases ha:q.agg with
 | true =>
  simp only [Sem.run_bind,t.agg,ha,Result.andThen_ok,if_true,t.size,Sem.run_pure,pack,cond_true]
  congr 2
  simp only [List.extract_toArray,List.extract_eq_take_drop]
  congr 1
  rw [List.append_assoc,List.drop_left' rfl,show p.length+q.sz - p.length=c.length by omega,List.take_left' rfl]
 | false =>
  rw [q.one ha] at hl
  match c,hl with
  | [v],_ =>
   have:(p ++ [v] ++ r).toArray[p.length]? = some v:=by simp
   simp only [Sem.run_bind,t.agg,ha,Result.andThen_ok,Bool.false_eq_true,if_false,this,Sem.run_pure,pack,cond_false]
theorem Iz {T T':TypeId} {r:Rep α} {q:Rep β} {x:Operand} {y:α} {i off:Nat} {get:α→β} {set:α→β→α} (l:Lens r q off get set) (hag:r.agg=true) (hf:AQ P T i=some (T',off)) (t:jJ P T' q) (ho:o.op = .field T x i) (hx:bQ N x (fV r y)) :
  dK P o N [] (fV q (get y)) [] :=
 dK.qY fun h a w _ n=>by
  unfold AQ at hf
  split at hf
  ·rename_i fs hT
   split at hf
   ·rename_i g hg
    simp only [Option.some.injEq,Prod.mk.injEq] at hf
    obtain ⟨h1,h2⟩:=hf
    obtain ⟨cs,hr,hv⟩:=hx h a n
    obtain ⟨p,c,q',rfl,hp,hc,_⟩:=l h cs y hr
    rw [hag] at hv
    refine ⟨pack q.agg c,?_,c,hc,rfl⟩
    have:=KY t (p:=p) (r:=q') hc w
    rw [List.append_assoc] at this
    simp [execOp,ho,hv,pack,Instr.field,run_underlying hT,hg,asAgg,h1,h2,← hp,this]
   ·cases hf
  ·cases hf
def fVN (r:Rep α) (x:α) (ts:List dQ):aZ:=⟨none,fun h _ v=>∃ cs,r.rel h cs x∧v=pack r.agg cs∧xw cs ts,fun hl ⟨cs,k,e,n⟩=>⟨cs,r.mono hl k,e,n⟩⟩
theorem xw.apart {p c c' q:List Value} {off sz:Nat} (hp:p.length=off) (hc:c.length=sz) (hc':c'.length=sz):∀ {ts:List dQ},apartB off sz ts=true→xw (p ++ c ++ q) ts→xw (p ++ c' ++ q) ts:=by
 intro ts
 induction ts with
 | nil=>intro _ _;trivial
 | cons t ts ih =>
  intro ha hn
  have h1:=xM ha t List.mem_cons_self
  refine ⟨by rw [NF hp hc hc' h1];exact hn.1,ih ?_ hn.2⟩
  unfold apartB at ha ⊢
  rw [List.all_cons,Bool.and_eq_true] at ha
  exact ha.2
def KZ (P:Program) (N:List (Nat×aZ)) (place:Nat→Option (Nat×Nat)) {α:Type} (r:Rep α) (ts:List dQ):List (Nat×Operand)→α→α→Prop
 | [],x,y=>x=y
 | (i,o) :: rest,x,y=>∃ (β:Type) (s:Rep β) (off:Nat) (get:α→β) (set:α→β→α) (z:β),Lens r s off get set∧place i=some (off,s.sz)∧apartB off s.sz ts=true∧bQ N o (fV s z)∧KZ P N place r ts rest (set x z) y
theorem fillNN {place:Nat→Option (Nat×Nat)} {r:Rep α} {ts:List dQ} {x:α}:KZ P N place r ts [] x x:=rfl
theorem Og {place:Nat→Option (Nat×Nat)} {r:Rep α} {ts:List dQ} {s:Rep β} {off i:Nat} {x':Operand} {get:α→β} {set:α→β→α} {z:β} {rest:List (Nat×Operand)} {x y:α} (l:Lens r s off get set) (hp:place i=some (off,s.sz)) (ha:apartB off s.sz ts=true) (ho:bQ N x' (fV s z))
  (k:KZ P N place r ts rest (set x z) y):KZ P N place r ts ((i,x') :: rest) x y:=⟨β,s,off,get,set,z,l,hp,ha,ho,k⟩
theorem KZ.run {place:Nat→Option (Nat×Nat)} {r:Rep α} {ts:List dQ} {h:H} {a:Act} (n:CV N h a):∀ {parts:List (Nat×Operand)} {x y:α} {cs:List Value},KZ P N place r ts parts x y→r.rel h cs x→xw cs ts →
  ∃ cs',Instr.fill place cs.toArray (parts.map fun q=>(q.1,a.eval q.2))=some cs'.toArray∧r.rel h cs' y∧xw cs' ts:=by
 intro parts
 induction parts with
 | nil=>intro x y cs k hr ht;rw [show x=y from k] at hr;exact ⟨cs,rfl,hr,ht⟩
 | cons q rest ih =>
  obtain ⟨i,op⟩:=q
  rintro x y cs ⟨β,s,off,get,set,z,l,hp,ha,ho,k⟩ hr ht
  obtain ⟨p,c,q,rfl,hpl,hc,hset⟩:=l h cs x hr
  obtain ⟨c',hc',hv⟩:=ho h a n
  simp only [List.map_cons]
  rw [NG hc' hv hp hpl (s.len hc)]
  exact ih k (hset h c' z (mW.refl h) hc') (ht.apart hpl (s.len hc) (s.len hc') ha)
theorem UI {T:TypeId} {r:Rep α} {place:Nat→Option (Nat×Nat)} {parts:Array (Nat×Operand)} {y:α} (ts:List dQ) (t:jJ P T r) (hag:r.agg=true) (hpl:kG P T place) (ho:o.op = .build T parts)
  (hz:xw r.zc ts) (k:KZ P N place r ts parts.toList r.zero y):dK P o N [] (fVN r y ts) [] :=
 dK.qY fun h a w _ n=>by
  obtain ⟨cs',hf,hr,ht⟩:=k.run n (r.vS h) hz
  refine ⟨.agg cs'.toArray,?_,cs',hr,by rw [hag];rfl,ht⟩
  have h1:=hpl r.zc.toArray (parts.map fun q=>(q.1,a.eval q.2)) w cs'.toArray _ (t.zero w) (tV (r.vS h)) (by rw [Array.toList_map];exact hf)
  simp only [execOp,ho,Sem.run_bind,h1,Result.andThen_ok,Sem.run_pure]
theorem St.putT {κ:Type} {B:Base} {h:H} {L:Nat→Option iI} {F:κ→Option iI} {w:World} (hst:St B h (Sum.elim L F) w) {s b:Nat} {T:TypeId} {r:Rep α} {x y:α} {us:List (Nat×Value×iI)} {cs cs':List Value} {ts:List dQ}
  (hk:L s=some (kN b T r x us)) (hb:w.heap[b]? = some (.cells cs.toArray T (0,0))) (hr:r.rel h cs' y) (ht:xw cs' ts) :
  St B h (Sum.elim (set1 L s (kN b T r y (EN ts))) F) (w.setRow b cs'.toArray):=by
 obtain ⟨hcl,_⟩:=hst.own (k:=Sum.inl s) hk
 have hno:=(hcl (b,0) (by simp [kN])).2.2
 have hmem:=wu w b _ cs'.toArray T hb
 refine hst.write (Sum.inl s) (e:=kN b T r x us) hk (b:=b) (lo:=0) (by simp [kN]) hmem (fun i hi=>setRow_other w b i cs'.toArray hi) (by simp [World.setRow]) rfl rfl rfl ?_ rW ?_
 ·intro o' v hh
  rw [hno o' (Nat.zero_le _)] at hh;cases hh
 ·intro e' he
  rw [rX he]
  refine ⟨fun c hc=>?_,⟨cs',hmem,hr,ht.at⟩,fun u hu=>by rw [(Fj hu).1];trivial⟩
  have hc:c ∈ (b,0) :: IG (EN ts):=hc
  rw [Hr] at hc
  simp at hc
  subst hc
  exact List.mem_cons_self
theorem OE {T:TypeId} {r:Rep α} {ts0 ts:List dQ} {s:Nat} {v:Operand} {y z:α} (t:jJ P T r) (hd:o.dst=none)
  (ho:o.op = .store T (.tmp s) v) (hv:bQ N v (fVN r z ts)):dK P o N [(s,eU T r y ts0)] aZ.qH [(s,some (eU T r z ts))]:=by
 intro κ B F L h a w hst hn hk _ next Q hnext _
 obtain ⟨e,hL,b,us,hxv,_,_,rfl⟩:=hk.1
 have hxv':a.eval (.tmp s) = .pointer (some ⟨b,0,none⟩):=hxv
 obtain ⟨⟨cs,hb,hr,_⟩,_⟩:=zX hst hL
 obtain ⟨c',hc',hvv,ht⟩:=hv h a hn
 have hrun:=sJ (p:=[]) (c:=cs) (q:=[]) t hc' (by simpa using hb) (r.len hr)
 unfold Oper.qf
 have:(execOp a.eval o).run P w = .ok .skip (w.setRow b c'.toArray):=by
  simp only [List.length_nil,List.nil_append,List.append_nil] at hrun
  simp only [execOp,ho,hxv',hvv,Sem.run_bind,hrun,Result.andThen_ok,Sem.run_pure]
 rw [this]
 refine hnext undef h _ _ (mW.refl h) trivial (hst.putT hL hb hc' ht) ?_
 rw [hd]
 exact mg ⟨b,_,hxv,Fp ts,Ht b ts,rfl⟩
theorem NY {T:TypeId} {r:Rep α} {ts0:List dQ} {s:Nat} {v:Operand} {y z:α} (t:jJ P T r) (hd:o.dst=none)
  (ho:o.op = .store T (.tmp s) v) (hv:bQ N v (fV r z)):dK P o N [(s,eU T r y ts0)] aZ.qH [(s,some (eU T r z []))] :=
 OE (ts:=[]) t hd ho (fun h a n=>let ⟨cs,k,e⟩:=hv h a n;⟨cs,k,e,trivial⟩)
end Go.KB
namespace Go.KB
variable {P:Program} {o:Oper} {N:List (Nat×aZ)} {α β:Type}
section
variable [DecidableEq α]
def iw (z:β):List (α×β)→α→β
 | [],_=>z
 | p :: r,x=>bif decide (x=p.1) then p.2 else iw z r x
def mP:List (α×β)→α→Bool
 | [],_=>false
 | p :: r,x=>decide (x=p.1)||mP r x
def qc:List (α×β)→α→β→List (α×β)
 | [],x,y=>[(x,y)]
 | p :: r,x,y=>bif decide (x=p.1) then (p.1,y) :: r else p :: qc r x y
structure zl (P:Program) (K:TypeId) (rk:Rep α) (f:α→Value):Prop where
 is:∀ {h u x},rk.val h u x→u=f x
 chk:∀ (e:Bool) (w:World) (x:α),(Instr.checkKey e 10000 K (f x)).run P w = .ok () w
 now:∃ d,P.underlying K=some d∧∀ x y,Instr.sameNow d (f x) (f y)=some (decide (x=y))
 bits:∀ x,Instr.sameBits 10000 (f x) (f x)=true
 val:∀ h x,rk.val h (f x) x
def dV (s:Str):Value:=.string ⟨s.toArray⟩
theorem zl.str {K:TypeId} (hK:P.underlying K=some .string):zl P K Rep.str dV where
 is:=fun e=>Ae.1 e
 chk:=fun e w x=>MapKept.run_checkKey hK (by trivial) e 9999
 now:=⟨_,hK,fun x y=>by
  simp only [Instr.sameNow,dV]
  congr 1
  rw [Bool.eq_iff_iff,MapKept.bytes_beq]
  simp⟩
 bits:=fun x=>(MapKept.bytes_beq _ _).2 rfl
 val:=fun _ _=>Ae.2 rfl
def kInt (k:IntKind) (n:Int):Value:=.int k n
theorem zl.int {K:TypeId} {k:IntKind} (hK:P.underlying K=some (.int k)):zl P K (Rep.int k) (kInt k) where
 is:=fun e=>jU.1 e
 chk:=fun e w x=>MapKept.run_checkKey hK (by trivial) e 9999
 now:=⟨_,hK,fun x y=>by
  simp only [Instr.sameNow,kInt,if_true]
  congr 1⟩
 bits:=fun x=>by simp [Instr.sameBits,kInt]
 val:=fun _ _=>jU.2 rfl
end
def yS (f:α→Value) (rv:Rep β) (h:H):List MapEntry→List (α×β)→Prop
 | [],[]=>True
 | e :: es,p :: l=>(e.key=f p.1∧rv.val h e.val p.2)∧yS f rv h es l
 | _,_=>False
theorem yS.mono {f:α→Value} {rv:Rep β} {h h':H} (hl:mW h h'):∀ {es:List MapEntry} {l:List (α×β)},yS f rv h es l→yS f rv h' es l
 | [],[],_=>trivial
 | _ :: _,_ :: _,⟨⟨a,b⟩,c⟩=>⟨⟨a,rv.KT hl b⟩,yS.mono hl c⟩
theorem yS.snoc {f:α→Value} {rv:Rep β} {h:H} {e:MapEntry} {p:α×β} (he:e.key=f p.1∧rv.val h e.val p.2):∀ {es:List MapEntry} {l:List (α×β)},yS f rv h es l→yS f rv h (es ++ [e]) (l ++ [p])
 | [],[],_=>⟨he,trivial⟩
 | _ :: _,_ :: _,⟨a,c⟩=>⟨a,yS.snoc he c⟩
def wV (es:List MapEntry) (c:Nat):Prop:=(es.map (·.born)).Nodup∧∀ e ∈ es,e.born<c
theorem wV.push {es:List MapEntry} {c:Nat} {k v:Value} (h:wV es c):wV (es ++ [{ key:=k,val:=v,born:=c }]) (c+1):=by
 refine ⟨?_,fun e he=>?_⟩
 ·rw [List.map_append,List.nodup_append]
  refine ⟨h.1,by simp,fun a ha b hb=>?_⟩
  obtain ⟨e,he,rfl⟩:=List.mem_map.1 ha
  simp only [List.map_cons,List.map_nil,List.mem_singleton] at hb
  have:=h.2 e he
  omega
 ·rcases List.mem_append.1 he with he | he
  ·have:=h.2 e he;omega
  ·simp only [List.mem_singleton] at he;subst he;exact Nat.lt_succ_self _
theorem wV.modify {es:List MapEntry} {c j:Nat} {g:MapEntry→MapEntry} (hg:∀ e,(g e).born=e.born) (h:wV es c):wV (es.modify j g) c:=by
 have hm:(es.modify j g).map (·.born)=es.map (·.born):=by
  refine List.ext_getElem? fun m=>?_
  simp only [List.getElem?_map,List.getElem?_modify]
  cases es[m]? with
  | none=>rfl
  | some e=>simp only [Option.map_some];split <;> simp [hg]
 refine ⟨by rw [hm];exact h.1,fun e he=>?_⟩
 have:e.born ∈ (es.modify j g).map (·.born):=List.mem_map.2 ⟨e,he,rfl⟩
 rw [hm] at this
 obtain ⟨e',he',hb⟩:=List.mem_map.1 this
 rw [← hb];exact h.2 e' he'
theorem wV.eraseIdx {es:List MapEntry} {c i:Nat} (h:wV es c):wV (es.eraseIdx i) c :=
 ⟨(List.Sublist.map _ (List.eraseIdx_sublist es i)).nodup h.1,fun e he=>h.2 e ((List.eraseIdx_sublist es i).subset he)⟩
def rD (b:Nat) (f:α→Value) (rv:Rep β) (l:List (α×β)):iI where
 claims:=[(b,0)]
 ok:=fun h m=>∃ es clock,m b=some (.map es clock)∧yS f rv h es.toList l∧wV es.toList clock
 mono:=by rintro h h' m hl ⟨es,c,e,k⟩;exact ⟨es,c,e,k.1.mono hl,k.2⟩
 frame:=fun hm ⟨es,c,e,k⟩=>⟨es,c,by rw [hm (b,0) (by simp)];exact e,k⟩
def dL (f:α→Value) (rv:Rep β) (l:List (α×β)):eu:=fun v e=>∃ b,v = .map (some b)∧e=rD b f rv l
theorem AB {T:TypeId} {f:α→Value} {rv:Rep β} {d:Nat} (hd:o.dst=some d) (ho:o.op = .makeMap T none):dK P o N [] aZ.qH [(d,some (dL f rv []))]:=by
 intro κ B F L h a w hst hn _ hdn next Q hnext _
 unfold Oper.qf
 have:(execOp a.eval o).run P w = .ok (.value (.map (some w.heap.size))) (w.alloc (.map #[] 0)):=by
  have e:(Instr.makeMap T none).run P w = .ok (.map (some w.heap.size)) (w.alloc (.map #[] 0)):=rfl
  simp only [execOp,ho,Option.map_none,Sem.run_bind,e,Result.andThen_ok,Sem.run_pure]
 rw [this]
 refine hnext _ h _ (set1 L d (rD w.heap.size f rv [])) (mW.refl h) trivial (hst.Aa _ d _ (by simp [rD]) ⟨#[],0,Ac _ _,trivial,by simp [wV]⟩) ?_
 rw [hd]
 exact mg ⟨_,iq (hdn d hd),rfl⟩
theorem WZ {κ:Type} {B:Base} {h:H} {L:Nat→Option iI} {F:κ→Option iI} {w:World} (hst:St B h (Sum.elim L F) w) {s b:Nat} {f:α→Value} {rv:Rep β} {l:List (α×β)}
  (hk:L s=some (rD b f rv l)):∃ es clock,w.heap[b]? = some (.map es clock)∧yS f rv h es.toList l :=
 let ⟨es,c,h1,h2,_⟩:=(hst.own (k:=Sum.inl s) hk).2
 ⟨es,c,h1,h2⟩
theorem Oy {κ:Type} {B:Base} {h:H} {L:Nat→Option iI} {F:κ→Option iI} {w:World} (hst:St B h (Sum.elim L F) w) {s b:Nat} {f:α→Value} {rv:Rep β} {l:List (α×β)}
  (hk:L s=some (rD b f rv l)):∃ es clock,w.heap[b]? = some (.map es clock)∧yS f rv h es.toList l∧wV es.toList clock:=(hst.own (k:=Sum.inl s) hk).2
section
variable [DecidableEq α]
theorem H7 {f:α→Value} {rv:Rep β} {h:H} {d:TypeDesc} (hd:∀ x y,Instr.sameNow d (f x) (f y)=some (decide (x=y))) (x:α):∀ {es:List MapEntry} {l:List (α×β)} (n:Nat),yS f rv h es l →
    (Instr.findNow d (f x) es n=some none∧mP l x=false∧(∀ z,iw z l x=z)∧∀ y,qc l x y=l ++ [(x,y)]) ∨
    ∃ i e0,Instr.findNow d (f x) es n=some (some (n+i,e0.val))∧es[i]? = some e0∧e0.key=f x∧mP l x=true∧(∀ z,rv.val h e0.val (iw z l x)) ∧
      ∀ g y,(∀ e,(g e).key=e.key)→(∀ e,rv.val h (g e).val y)→yS f rv h (es.modify i g) (qc l x y)
  | [],[],_,_=>.inl ⟨rfl,rfl,fun _=>rfl,fun _=>rfl⟩
  | e :: es,p :: l,n,⟨⟨hk,hv⟩,hr⟩=>by
    by_cases hx:x=p.1
    · refine .inr ⟨0, e, ?_, rfl, by rw [hk, hx], by simp [mP, hx], fun z => by simpa [iw, hx] using hv, fun g y hg hy => ?_⟩
      · simp only [Instr.findNow,hk,hd,hx,decide_true];rfl
      · simp only [List.modify_zero_cons,qc,hx,decide_true,cond_true]
        exact ⟨⟨by rw [hg,hk],hy e⟩,hr⟩
    · have hn:∀ r,Instr.findNow d (f x) es (n+1)=r→Instr.findNow d (f x) (e :: es) n=r:=fun r h=>by
        simp only [Instr.findNow,hk,hd]
        rw [show decide (x=p.1)=false from decide_eq_false hx];exact h
      rcases H7 hd x (n+1) hr with ⟨h1,h2,h3,h4⟩ | ⟨i,e0,h1,h2,h3,h4,h5,h6⟩
      · refine .inl ⟨hn _ h1,by simp [mP,hx,h2],fun z=>by simp [iw,hx,h3],fun y=>by simp [qc,hx,h4]⟩
      · refine .inr ⟨i + 1, e0, hn _ (by rw [h1]; congr 3; omega), by simpa using h2, h3, by simp [mP, h4], fun z => by simpa [iw, hx] using h5 z, fun g y hg hy => ?_⟩
        simp only [List.modify_succ_cons,qc,hx,decide_false,cond_false]
        exact ⟨⟨hk,hv⟩,h6 g y hg hy⟩

theorem run_findKey {K:TypeId} {d:TypeDesc} {u:Value} {es:List MapEntry} {r:Option (Nat×Value)} {w:World} (hd:P.underlying K=some d) (h:Instr.findNow d u es 0=some r):(Instr.findKey K u es).run P w = .ok r w:=by
 unfold Instr.findKey
 simp only [Sem.run_bind,run_underlying hd,Result.andThen_ok,h,Sem.run_pure]
end
section
variable [DecidableEq α]
theorem La {T K E:TypeId} {rk:Rep α} {f:α→Value} {rv:Rep β} {s:Nat} {x i:Operand} {l:List (α×β)} {y:α} (hf:zl P K rk f) (t:jJ P E rv) (hT:P.underlying T=some (.map K E))
  (W:Wr) (ho:o.op = .lookup T x i false) (hx:Qh N x W s) (hi:bQ N i (fV rk y)):dK P o N [(s,W.ap (dL f rv l))] (fV rv (iw rv.zero l y)) []:=by
 intro κ B F L h a w hst hn hk _ next Q hnext _
 obtain ⟨e,hL,hq⟩:=hk.1
 obtain ⟨b,hv,rfl⟩:=Wr.iff.1 hq
 have hx':a.eval x = .map (some b):=(hx h a hn).trans hv
 have hi':=hf.is (hi h a hn)
 obtain ⟨es,clock,hb,hr⟩:=WZ hst hL
 obtain ⟨d,hd,Sl⟩:=hf.now
 rcases H7 Sl y 0 hr with ⟨h1,_,h3,_⟩ | ⟨j,e0,h1,_,_,_,h5,_⟩
 ·have:(execOp a.eval o).run P w = .ok (.value (pack rv.agg rv.zc)) w:=by
   simp [execOp,ho,hx',hi',Instr.lookup,run_underlying hT,MapKept.run_getObj_map hb,hf.chk,run_findKey hd h1,t.zero]
  unfold Oper.qf
  rw [this]
  exact hnext _ h w L (mW.refl h) ⟨rv.zc,by rw [h3];exact rv.vS h,rfl⟩ hst mM
 ·have:(execOp a.eval o).run P w = .ok (.value e0.val) w:=by
   simp [execOp,ho,hx',hi',Instr.lookup,run_underlying hT,MapKept.run_getObj_map hb,hf.chk,run_findKey hd h1]
  unfold Oper.qf
  rw [this]
  exact hnext _ h w L (mW.refl h) (h5 _) hst mM
theorem Qj {T K E:TypeId} {rk:Rep α} {f:α→Value} {rv:Rep β} {s:Nat} {x i:Operand} {l:List (α×β)} {y:α} (hf:zl P K rk f) (t:jJ P E rv) (hT:P.underlying T=some (.map K E))
  (W:Wr) (ho:o.op = .lookup T x i true) (hx:Qh N x W s) (hi:bQ N i (fV rk y)):dK P o N [(s,W.ap (dL f rv l))] (F6 (fV rv (iw rv.zero l y)) (fV Rep.bool (mP l y))) []:=by
 intro κ B F L h a w hst hn hk _ next Q hnext _
 obtain ⟨e,hL,hq⟩:=hk.1
 obtain ⟨b,hv,rfl⟩:=Wr.iff.1 hq
 have hx':a.eval x = .map (some b):=(hx h a hn).trans hv
 have hi':=hf.is (hi h a hn)
 obtain ⟨es,clock,hb,hr⟩:=WZ hst hL
 obtain ⟨d,hd,Sl⟩:=hf.now
 rcases H7 Sl y 0 hr with ⟨h1,h2,h3,_⟩ | ⟨j,e0,h1,_,_,h4,h5,_⟩
 ·have:(execOp a.eval o).run P w = .ok (.value (.tuple #[pack rv.agg rv.zc,.bool false])) w:=by
   simp [execOp,ho,hx',hi',Instr.lookup,run_underlying hT,MapKept.run_getObj_map hb,hf.chk,run_findKey hd h1,t.zero]
  unfold Oper.qf
  rw [this]
  exact hnext _ h w L (mW.refl h) ⟨_,_,rfl,⟨rv.zc,by rw [h3];exact rv.vS h,rfl⟩,kP.2 (by rw [h2])⟩ hst mM
 ·have:(execOp a.eval o).run P w = .ok (.value (.tuple #[e0.val,.bool true])) w:=by
   simp [execOp,ho,hx',hi',Instr.lookup,run_underlying hT,MapKept.run_getObj_map hb,hf.chk,run_findKey hd h1]
  unfold Oper.qf
  rw [this]
  exact hnext _ h w L (mW.refl h) ⟨_,_,rfl,h5 _,kP.2 (by rw [h4])⟩ hst mM
theorem IA {T K E:TypeId} {rk:Rep α} {f:α→Value} {rv:Rep β} {s:Nat} {x i:Operand} {l:List (α×β)} {y:α} (hf:zl P K rk f) (t:jJ P E rv) (hT:P.underlying T=some (.map K E))
  (ho:o.op = .lookup T x i false) (hx:bQ N x (RQ s)) (hi:bQ N i (fV rk y)):dK P o N [(s,dL f rv l)] (fV rv (iw rv.zero l y)) []:=La hf t hT .slot ho (.slot hx) hi
theorem yL {T K E:TypeId} {rk:Rep α} {f:α→Value} {rv:Rep β} {s:Nat} {sv:Value} {x i:Operand} {l:List (α×β)} {y:α} (hf:zl P K rk f) (t:jJ P E rv) (hT:P.underlying T=some (.map K E))
  (ho:o.op = .lookup T x i false) (hx:bQ N x (jZ sv)) (hi:bQ N i (fV rk y)):dK P o N [(s,iO (dL f rv l) sv)] (fV rv (iw rv.zero l y)) []:=La hf t hT (.val sv) ho (.val hx) hi
theorem BB {T K E:TypeId} {rk:Rep α} {f:α→Value} {rv:Rep β} {s:Nat} {sv:Value} {x i:Operand} {l:List (α×β)} {y:α} (hf:zl P K rk f) (t:jJ P E rv) (hT:P.underlying T=some (.map K E))
  (ho:o.op = .lookup T x i true) (hx:bQ N x (jZ sv)) (hi:bQ N i (fV rk y)):dK P o N [(s,iO (dL f rv l) sv)] (F6 (fV rv (iw rv.zero l y)) (fV Rep.bool (mP l y))) []:=Qj hf t hT (.val sv) ho (.val hx) hi
theorem run_keyThatStays {u:Value} {w:World} (h:Instr.sameBits 10000 u u=true):(Instr.keyThatStays u u).run P w = .ok u w:=by
 unfold Instr.keyThatStays
 rw [if_pos h];rfl
def vP (w:World) (b:Nat) (o:Obj):World:={ w with heap:=w.heap.setIfInBounds b o }
theorem Lc {w:World} {b:Nat} {o o':Obj} (hb:w.heap[b]? = some o):(vP w b o').heap[b]? = some o':=by
 have:=(Array.getElem?_eq_some_iff.1 hb).1
 simp [vP,this]
theorem Ld {w:World} {b i:Nat} {o':Obj} (hi:i≠b):(vP w b o').heap[i]? = w.heap[i]?:=by
 simp [vP,Ne.symm hi]
theorem FV {T K E:TypeId} {rk:Rep α} {f:α→Value} {rv:Rep β} {s:Nat} {x i v:Operand} {l:List (α×β)} {y:α} {z:β} (hf:zl P K rk f) (hT:P.underlying T=some (.map K E)) (hd:o.dst=none)
    (W:Wr) (ho:o.op = .mapUpdate T x i v∨o.op = .insert T x i v) (hx:Qh N x W s) (hi:bQ N i (fV rk y)) (hv:bQ N v (fV rv z)):dK P o N [(s,W.ap (dL f rv l))] aZ.qH [(s,some (W.ap (dL f rv (qc l y z))))]:=by
  intro κ B F L h a w hst hn hk _ next Q hnext _
  obtain ⟨e,hL,hq⟩:=hk.1
  obtain ⟨b,hvb,rfl⟩:=Wr.iff.1 hq
  have hx':a.eval x = .map (some b):=(hx h a hn).trans hvb
  have hi':=hf.is (hi h a hn)
  have hv':=hv h a hn
  obtain ⟨es,clock,hb,hr,hB⟩:=Oy hst hL
  obtain ⟨d,hdd,Sl⟩:=hf.now
  have fin:∀ es' clock',yS f rv h es'.toList (qc l y z)→wV es'.toList clock'→(execOp a.eval o).run P w = .ok .skip (vP w b (.map es' clock'))→o.qf P a w next Q:=by
    intro es' clock' hrel hbn hrun
    unfold Oper.qf
    rw [hrun]
    refine hnext undef h _ (set1 L s (rD b f rv (qc l y z))) (mW.refl h) trivial ?_ ?_
    · obtain ⟨hcl,_⟩:=hst.own (k:=Sum.inl s) hL
      have hno:=(hcl (b,0) (by simp [rD])).2.2
      have hlt:=(hcl (b,0) (by simp [rD])).2.1
      refine hst.step (Sum.inl s) (fun i=>i=b) (fun i hi _=>⟨_,hL,(b,0),by simp [rD],hi.symm⟩) (by simp [vP]) rfl rfl rfl (fun i _ hi=>Ld hi) (mW.refl h) (fun _ _ _ _=>rfl) ?_ rW ?_
      · rintro i o' u (rfl | hi) hu
        · rw [hno o' (Nat.zero_le _)] at hu;cases hu
        · rw [hst.fresh hi] at hu;cases hu
      · intro e' he
        rw [rX he]
        refine ⟨fun c hc=>?_,es',clock',Lc hb,hrel,hbn⟩
        simp only [rD,List.mem_singleton] at hc
        subst hc
        exact ⟨.inr ⟨_,hL,(b,0),by simp [rD],rfl⟩,by simpa [vP] using hlt,fun o' _=>hno o' (Nat.zero_le _)⟩
    · rw [hd]
      exact mg (Wr.iff.2 ⟨b,hvb,rfl⟩)
  rcases H7 Sl y 0 hr with ⟨h1,_,_,h4⟩ | ⟨j,e0,h1,h2,h3,_,_,h6⟩
  · refine fin (es.push { key := f y, val := a.eval v, born := clock }) (clock + 1) ?_ (by rw [Array.toList_push]; exact hB.push) ?_
    · rw [h4,Array.toList_push]
      exact yS.snoc (e:=⟨f y,a.eval v,clock⟩) (p:=(y,z)) ⟨rfl,hv'⟩ hr
    · rcases ho with ho | ho <;> simp [execOp,ho,hx',hi',Instr.mapUpdate,run_underlying hT,MapKept.run_getObj_map hb,hf.chk,run_findKey hdd h1,MapKept.run_setObj_map _ hb,vP]
  · have h2' : es[j]? = some e0 := by simpa using h2
    refine fin (es.modify j fun e=>{ e with key:=f y,val:=a.eval v }) clock ?_ (by rw [Array.toList_modify];exact hB.modify (fun _=>rfl)) ?_
    · have hkey:es.toList.modify j (fun e=>{ e with key:=f y,val:=a.eval v })=es.toList.modify j (fun e=>{ e with val:=a.eval v }):=by
        refine List.ext_getElem? fun m=>?_
        simp only [List.getElem?_modify]
        by_cases hm:j=m
        · subst hm;simp [h2',← h3]
        · simp [hm]
      rw [Array.toList_modify,hkey]
      exact h6 _ z (fun _=>rfl) (fun _=>hv')
    · rcases ho with ho | ho <;> simp [execOp,ho,hx',hi',Instr.mapUpdate,run_underlying hT,MapKept.run_getObj_map hb,hf.chk,run_findKey hdd h1,h2',h3,run_keyThatStays (hf.bits y),MapKept.run_setObj_map _ hb,vP]
theorem G9 {T K E:TypeId} {rk:Rep α} {f:α→Value} {rv:Rep β} {s:Nat} {x i v:Operand} {l:List (α×β)} {y:α} {z:β} (hf:zl P K rk f) (hT:P.underlying T=some (.map K E)) (hd:o.dst=none)
  (ho:o.op = .mapUpdate T x i v∨o.op = .insert T x i v) (hx:bQ N x (RQ s)) (hi:bQ N i (fV rk y)) (hv:bQ N v (fV rv z)):dK P o N [(s,dL f rv l)] aZ.qH [(s,some (dL f rv (qc l y z)))]:=FV hf hT hd .slot ho (.slot hx) hi hv
theorem vC {T K E:TypeId} {rk:Rep α} {f:α→Value} {rv:Rep β} {s:Nat} {sv:Value} {x i v:Operand} {l:List (α×β)} {y:α} {z:β} (hf:zl P K rk f) (hT:P.underlying T=some (.map K E)) (hd:o.dst=none)
  (ho:o.op = .mapUpdate T x i v∨o.op = .insert T x i v) (hx:bQ N x (jZ sv)) (hi:bQ N i (fV rk y)) (hv:bQ N v (fV rv z)):dK P o N [(s,iO (dL f rv l) sv)] aZ.qH [(s,some (iO (dL f rv (qc l y z)) sv))]:=FV hf hT hd (.val sv) ho (.val hx) hi hv
def EC:List (α×β)→α→List (α×β)
 | [],_=>[]
 | p :: r,x=>bif decide (x=p.1) then r else p :: EC r x
theorem Qk {f:α→Value} {rv:Rep β} {h:H} {d:TypeDesc} (hd:∀ x y,Instr.sameNow d (f x) (f y)=some (decide (x=y))) (x:α):∀ {es:List MapEntry} {l:List (α×β)} (n:Nat),yS f rv h es l →
    (Instr.findNow d (f x) es n=some none∧EC l x=l)∨∃ i v,Instr.findNow d (f x) es n=some (some (n+i,v))∧yS f rv h (es.eraseIdx i) (EC l x)
  | [],[],_,_=>.inl ⟨rfl,rfl⟩
  | e :: es,p :: l,n,⟨⟨hk,hv⟩,hr⟩=>by
    by_cases hx:x=p.1
    · refine .inr ⟨0,e.val,?_,?_⟩
      · simp only [Instr.findNow,hk,hd,hx,decide_true];rfl
      · simpa [EC,hx] using hr
    · have hn:∀ r,Instr.findNow d (f x) es (n+1)=r→Instr.findNow d (f x) (e :: es) n=r:=fun r h=>by
        simp only [Instr.findNow,hk,hd]
        rw [show decide (x=p.1)=false from decide_eq_false hx];exact h
      rcases Qk hd x (n+1) hr with ⟨h1,h2⟩ | ⟨i,v,h1,h2⟩
      · exact .inl ⟨hn _ h1,by simp [EC,hx,h2]⟩
      · refine .inr ⟨i + 1, v, hn _ (by rw [h1]; congr 3; omega), ?_⟩
        simp only [List.eraseIdx_cons_succ,EC,hx,decide_false,cond_false]
        exact ⟨⟨hk,hv⟩,h2⟩
theorem Sm {T K E:TypeId} {rk:Rep α} {f:α→Value} {rv:Rep β} {s:Nat} {x i:Operand} {l:List (α×β)} {y:α} {ts:Array TypeId} (hf:zl P K rk f) (hT:P.underlying T=some (.map K E)) (hts:ts[0]? = some T) (W:Wr)
    (ho:o.op = .call { callee:=.builtin .delete,args:=#[x,i],argTypes:=ts }) (hx:Qh N x W s) (hi:bQ N i (fV rk y)) (hds:Jt o.dst s=true):dK P o N [(s,W.ap (dL f rv l))] aZ.qH [(s,some (W.ap (dL f rv (EC l y))))]:=by
  intro κ B F L h a w hst hn hk _ next Q hnext _
  obtain ⟨e,hL,hq⟩:=hk.1
  obtain ⟨b,hvb,rfl⟩:=Wr.iff.1 hq
  have hx':a.eval x = .map (some b):=(hx h a hn).trans hvb
  have hi':=hf.is (hi h a hn)
  obtain ⟨es,clock,hb,hr,hB⟩:=Oy hst hL
  obtain ⟨d,hdd,Sl⟩:=hf.now
  have hgs:∀ v,(a.put o.dst v).gt s=a.gt s:=fun v=>xE (by
    intro hd;unfold Jt at hds;rw [hd] at hds
    simp [Nat.beq_refl] at hds)
  have fin:∀ es':Array MapEntry,yS f rv h es'.toList (EC l y)→wV es'.toList clock→(execOp a.eval o).run P w = .ok (.value (.tuple #[])) (vP w b (.map es' clock))→o.qf P a w next Q:=by
    intro es' hrel hbn hrun
    unfold Oper.qf
    rw [hrun]
    refine hnext _ h _ (set1 L s (rD b f rv (EC l y))) (mW.refl h) trivial ?_ ?_
    · obtain ⟨hcl,_⟩:=hst.own (k:=Sum.inl s) hL
      have hno:=(hcl (b,0) (by simp [rD])).2.2
      have hlt:=(hcl (b,0) (by simp [rD])).2.1
      refine hst.step (Sum.inl s) (fun i=>i=b) (fun i hi _=>⟨_,hL,(b,0),by simp [rD],hi.symm⟩) (by simp [vP]) rfl rfl rfl (fun i _ hi=>Ld hi) (mW.refl h) (fun _ _ _ _=>rfl) ?_ rW ?_
      · rintro i o' u (rfl | hi) hu
        · rw [hno o' (Nat.zero_le _)] at hu;cases hu
        · rw [hst.fresh hi] at hu;cases hu
      · intro e' he
        rw [rX he]
        refine ⟨fun c hc=>?_,es',clock,Lc hb,hrel,hbn⟩
        simp only [rD,List.mem_singleton] at hc
        subst hc
        exact ⟨.inr ⟨_,hL,(b,0),by simp [rD],rfl⟩,by simpa [vP] using hlt,fun o' _=>hno o' (Nat.zero_le _)⟩
    · refine mg ?_
      rw [hgs]
      exact Wr.iff.2 ⟨b,hvb,rfl⟩
  rcases Qk Sl y 0 hr with ⟨h1,h2⟩ | ⟨j,v,h1,h2⟩
  · refine fin es (by rw [h2]; exact hr) hB ?_
    simp [execOp,ho,resolve,invoke,builtin,Builtin.delete_,hts,hx',hi',run_underlying hT,MapKept.run_getObj_map hb,hf.chk,run_findKey hdd h1,MapKept.run_setObj_map _ hb,vP]
  · rw [Nat.zero_add] at h1
    refine fin (es.eraseIdxIfInBounds j) (by rw [Array.toList_eraseIdxIfInBounds];exact h2) (by rw [Array.toList_eraseIdxIfInBounds];exact hB.eraseIdx) ?_
    simp [execOp,ho,resolve,invoke,builtin,Builtin.delete_,hts,hx',hi',run_underlying hT,MapKept.run_getObj_map hb,hf.chk,run_findKey hdd h1,MapKept.run_setObj_map _ hb,vP]
theorem Rk {T K E:TypeId} {rk:Rep α} {f:α→Value} {rv:Rep β} {s:Nat} {sv:Value} {x i:Operand} {l:List (α×β)} {y:α} {ts:Array TypeId} (hf:zl P K rk f) (hT:P.underlying T=some (.map K E)) (hts:ts[0]? = some T)
  (ho:o.op = .call { callee:=.builtin .delete,args:=#[x,i],argTypes:=ts }) (hx:bQ N x (jZ sv)) (hi:bQ N i (fV rk y)) (hds:Jt o.dst s=true):dK P o N [(s,iO (dL f rv l) sv)] aZ.qH [(s,some (iO (dL f rv (EC l y)) sv))]:=Sm hf hT hts (.val sv) ho (.val hx) hi hds
end
end Go.KB
namespace Go.KB
variable {P:Program} {o:Oper} {N:List (Nat×aZ)} {α β:Type}
def W9 (r:Rep α) (h:H) (v:Value):Option α→Prop
 | none=>v = .pointer none
 | some x=>∃ b off,v = .pointer (some ⟨b,off,none⟩)∧yP r h b off x
def Rep.ptr (r:Rep α):Rep (Option α) where
 sz:=1
 agg:=false
 rel:=fun h cs x=>∃ v,cs=[v]∧W9 r h v x
 zero:=none
 zc:=[.pointer none]
 one:=fun _=>rfl
 len:=fun ⟨v,e,_⟩=>by rw [e];rfl
 flat:=fun {h cs x} ⟨v,e,k⟩ c hc=>by
  rw [e] at hc;simp at hc;rw [hc]
  cases x with
  | none=>rw [show v=_ from k];rfl
  | some x=>obtain ⟨b,off,rfl,_⟩:=k;rfl
 mono:=fun {h h' cs x} hl ⟨v,e,k⟩=>⟨v,e,by
  cases x with
  | none=>exact k
  | some x=>obtain ⟨b,off,e,k⟩:=k;exact ⟨b,off,e,k.mono hl⟩⟩
 vS:=fun _=>⟨_,rfl,rfl⟩
theorem Ub {r:Rep α} {h:H} {v:Value} {x:Option α}:(Rep.ptr r).val h v x↔W9 r h v x :=
 ⟨fun ⟨_,⟨v',e,k⟩,e'⟩=>by rw [e',e];exact k,fun k=>⟨[v],⟨v,rfl,k⟩,rfl⟩⟩
theorem Zl {r:Rep α}:bQ N (.const (.pointer none)) (fV (Rep.ptr r) none):=fun _ _ _=>Ub.2 rfl
theorem ZC {T T':TypeId} {r:Rep α} {x:Operand} {q:Option α} (hT:P.underlying T=some (.pointer (P.pointee T))) (ho:o.op = .binOp .eql T x (.const (.pointer none)) T') (hx:bQ N x (fV (Rep.ptr r) q)):dK P o N [] (fV Rep.bool q.isNone) [] :=
 dK.qY fun h a w _ n=>by
  have hg:∀ p,(eqGuard .eql T x (.const (.pointer none)) (.pointer p) (.pointer none)).run P w = .ok () w:=by
   intro p;unfold eqGuard;rfl
  have hv:=Ub.1 (hx h a n)
  cases q with
  | none =>
   have hv:a.eval x = .pointer none:=hv
   exact ⟨.bool true,by simp only [execOp,ho,hv,show a.eval (.const (.pointer none)) = .pointer none from rfl,hg,Sem.run_bind,Result.andThen_ok,Sem.run_pure,run_eql_pointer_nil w T none hT];rfl,kP.2 rfl⟩
  | some y =>
   obtain ⟨b,off,hv,_⟩:=hv
   exact ⟨.bool false,by simp only [execOp,ho,hv,show a.eval (.const (.pointer none)) = .pointer none from rfl,hg,Sem.run_bind,Result.andThen_ok,Sem.run_pure,run_eql_pointer_nil w T (some ⟨b,off,none⟩) hT];rfl,kP.2 rfl⟩
end Go.KB
namespace Go.KB
variable {P:Program} {o:Oper} {N:List (Nat×aZ)} {α β:Type}
theorem Iy {s i:Nat} {ι:Type} {q0 q0':eu} {q q':ι→eu} {fx:aZ} {f:FuncId} {fn:Func} {args:List aZ} {post:aZ} {xs:Array Operand} {ts:Array TypeId} {y:Operand}
  (hc:∀ k,Nl P f args i (q k) (q' k) post) (hb:Dp s fx q0 q0' q q') (hfx:fx.dep=some s) (hf:P.funcs[f]? = some fn) (hbd:rf fn=true) (hd:pF (post :: args)=true) (hds:Jt o.dst s=true)
  (ho:o.op = .call { callee:=.value (.func f),args:=xs,argTypes:=ts }) (hy:xs.toList[i]? = some y) (hyx:bQ N y fx) (hargs:uV N args xs.toList):dK P o N [(s,q0)] aZ.qH [(s,some q0')] :=
 dK.out (nC hd post List.mem_cons_self) (fun _ _ _ _=>trivial) (Xa hc hb hfx hf hbd hd hds ho hy hyx hargs)
end Go.KB
namespace Go.KB
variable {P:Program} {o:Oper} {N:List (Nat×aZ)} {α β:Type}
theorem Le (z:Array Value) (n:Nat):(Builtin.zeroCells z (n+1)).toList=z.toList ++ (Builtin.zeroCells z n).toList:=by
  unfold Builtin.zeroCells
  simp only [Array.toList_map,Array.toList_range]
  rw [show (n+1) * z.size=z.size+n * z.size by rw [Nat.add_mul];omega,List.range_add,List.map_append,List.map_map]
  congr 1
  · refine List.ext_getElem (by simp) fun i h1 h2 => ?_
    have hi:i<z.size:=by simpa using h2
    simp [Nat.mod_eq_of_lt hi,hi]
  · refine List.map_congr_left fun i _ => ?_
    simp
theorem EO (z:List Value):∀ n,(Builtin.zeroCells z.toArray n).toList=(List.replicate n z).flatten
 | 0=>by simp [Builtin.zeroCells]
 | n+1=>by rw [Le,EO z n,List.replicate_succ,List.flatten_cons]
end Go.KB
namespace Go.KB
section
variable {P:Program} {o:Oper} {N:List (Nat×aZ)} {α:Type}
theorem bG {T:TypeId} {r:Rep α} {s:Nat} {y:α} (t:jJ P T r) (ho:o.op = .load T (.tmp s)):dK P o ((s,bT r y) :: N) [] (fV r y) []:=jb t ho ax
theorem dJ {β:Type} {T:TypeId} {r:Rep α} {q:Rep β} {s:Nat} {y:α} {i off:Nat} {get:α→β} {set:α→β→α} (l:Lens r q off get set) (hf:bZ P T i off) (ho:o.op = .fieldAddr T (.tmp s) i):dK P o ((s,bT r y) :: N) [] (bT q (get y)) []:=iF l hf ho ax
theorem iG {T:TypeId} {r:Rep α} {s v:Nat} {y z:α} (t:jJ P T r) (ho:o.op = .store T (.tmp s) (.tmp v)) (hd:o.dst=none:=by rfl):dK P o ((v,fV r z) :: N) [(s,bK T r y)] aZ.qH [(s,some (bK T r z))]:=Ql t hd ho ax
def Xb:BinOp→Bool
 | .eql | .neq | .lss | .leq | .gtr | .geq=>true
 | _=>false
theorem Lh {op:BinOp} (h:Xb op=true):op = .eql∨op = .neq∨op = .lss∨op = .leq∨op = .gtr∨op = .geq:=by
 cases op <;> first | (cases h;done) | simp
theorem ja {op:BinOp} {k:IntKind} {T T':TypeId} {s:Nat} {m n:Int} (ho:o.op = .binOp op T (.tmp s) (.const (.int k n)) T') (hop:Xb op=true:=by rfl):dK P o ((s,fV (Rep.int k) m) :: N) [] (fV Rep.bool (aS op m n)) []:=fJ (Lh hop) rfl ho ax bn
theorem jm {op:BinOp} {k:IntKind} {T T':TypeId} {s t:Nat} {m n:Int} (ho:o.op = .binOp op T (.tmp s) (.tmp t) T') (hop:Xb op=true:=by rfl):dK P o ((s,fV (Rep.int k) m) :: (t,fV (Rep.int k) n) :: N) [] (fV Rep.bool (aS op m n)) []:=fJ (Lh hop) rfl ho ax aI
theorem jL {α β γ:Type} {x:Option α} {f:α→Option β} {g:α→β→Option γ} {r:γ} (h:(x.bind fun a=>(f a).bind (g a))=some r):∃ a,x=some a∧∃ b,f a=some b∧g a b=some r:=by
 obtain ⟨a,h1,h⟩:=aV h
 obtain ⟨b,h2,h⟩:=aV h
 exact ⟨a,h1,b,h2,h⟩
theorem tn {K:Act→World→Prop} {Q:Exit→Act→World→Prop} {a:Act} {w:World} (h:K a w):Exit.then K Q .normal a w:=h
theorem tr {K:Act→World→Prop} {Q:Exit→Act→World→Prop} {a:Act} {w:World} (h:Q .ret a w):Exit.then K Q .ret a w:=h
theorem ws {ρ:Option Nat} {Q:Exit→Act→World→Prop} {a:Act} {w:World} {x y:Code} (h:x.qf ρ P (Exit.then (y.qf ρ P Q) Q) a w):(Code.seq x y).qf ρ P Q a w:=wp_seq h
theorem wk {ρ:Option Nat} {Q:Exit→Act→World→Prop} {a:Act} {w:World} (h:Q .normal a w):Code.skip.qf ρ P Q a w:=wp_skip h
theorem wr {ρ:Option Nat} {Q:Exit→Act→World→Prop} {a:Act} {w:World} (h:Q .ret a w):Code.ret.qf ρ P Q a w:=wp_ret h
abbrev ln {α:Type} (l:List α):Int:=(List.length l:Int)
abbrev w3:Int→Int:=IntKind.u32.wrap
abbrev w1:Int→Int:=IntKind.u16.wrap
abbrev lS {α:Type} (r:Rep α):Rep (List α):=Rep.slice r
end
end Go.KB
