/- Variables whose fields are rows that are appended to. Fields of values; values whose fields are nil, and variables that take them. Maps that are owned: made, looked into, written. Pointers that are only read, nil among them; texts as rows of bytes. Functions that take a row over and hand a row back. Rows that grow from nothing: cap, cuts and appends of zeros at nil. Arrays: slices of arrays that are not written any more, elements of arrays. No condition. -/
import Derived.Test.YtmkofmfndcoflaaKZb
import Derived.MapKept
import Derived.Laws.Pointers
import Derived.Lib.ConvBytes
import Derived.Lib.AppendZeros
namespace Go.KB
variable {P:Program} {o:Oper} {N:List (Nat×ay)} {f:ay} {α β:Type}
inductive Wr where
 | slot
 | val (sv:Value)
def atV (q:dw) (sv:Value):dw:=fun _ e=>q sv e
def Wr.ap (W:Wr) (q:dw):dw:=match W with | .slot=>q | .val sv=>atV q sv
def Wr.v (W:Wr) (a:Act) (g:Nat):Value:=match W with | .slot=>a.gt g | .val sv=>sv
theorem Wr.iff {W:Wr} {q:dw} {a:Act} {g:Nat} {e:cZ}:W.ap q (a.gt g) e↔q (W.v a g) e:=by cases W <;> rfl
def JG (N:List (Nat×ay)) (x:Operand) (W:Wr) (g:Nat):Prop:=∀ h a,vk N h a→a.eval x=W.v a g
theorem JG.slot {x:Operand} {g:Nat} (hx:aO N x (Aw g)):JG N x .slot g:=fun h a n=>hx h a n
theorem JG.val {x:Operand} {g:Nat} {sv:Value} (hx:aO N x (EI sv)):JG N x (.val sv) g:=fun h a n=>hx h a n
def IA (N:List (Nat×ay)) (x:Operand) (W:Wr) (s off:Nat):Prop:=∀ h a,vk N h a→∃ b,W.v a s = .pointer (some ⟨b,0,none⟩)∧a.eval x = .pointer (some ⟨b,off,none⟩)
def fOffV (sv:Value) (off:Nat):ay:=⟨none,fun _ _ v=>∃ b,sv = .pointer (some ⟨b,0,none⟩)∧v = .pointer (some ⟨b,off,none⟩),fun _ x=>x⟩
theorem IA.slot {x:Operand} {s off:Nat} (hx:aO N x (BM s off)):IA N x .slot s off:=fun h a n=>hx h a n
theorem IA.val {x:Operand} {s off:Nat} {sv:Value} (hx:aO N x (fOffV sv off)):IA N x (.val sv) s off:=fun h a n=>hx h a n
structure qf where
 off:Nat
 E:TypeId
 sz:Nat
def mr:List qf→List (Nat×Value×cZ)→Prop
 | [],[]=>True
 | t :: ts,u :: us=>(u.1=t.off∧fM t.E t.sz u.2.1 u.2.2)∧mr ts us
 | _,_=>False
theorem mr.app {l2:List qf} {Ju:List (Nat×Value×cZ)} (h2:mr l2 Ju):∀ {l1:List qf} {FV:List (Nat×Value×cZ)},mr l1 FV→mr (l1 ++ l2) (FV ++ Ju):=by
 intro l1
 induction l1 with
 | nil =>
  intro FV h
  cases FV with
  | nil=>exact h2
  | cons u us=>exact h.elim
 | cons t1 l1 ih =>
  intro FV h
  cases FV with
  | nil=>exact h.elim
  | cons u0 us=>exact ⟨h.1,ih h.2⟩
theorem mr.offs:∀ {l:List qf} {us:List (Nat×Value×cZ)},mr l us→∀ u ∈ us,∃ t ∈ l,u.1=t.off:=by
 intro l
 induction l with
 | nil =>
  intro us h u hu
  cases us with
  | nil=>cases hu
  | cons _ _=>exact h.elim
 | cons t l ih =>
  intro us h u hu
  cases us with
  | nil=>exact h.elim
  | cons u0 us =>
   rcases List.mem_cons.1 hu with rfl | hu
   ·exact ⟨t,List.mem_cons_self,h.1.1⟩
   ·obtain ⟨t',ht',e⟩:=ih h.2 u hu
    exact ⟨t',List.mem_cons_of_mem _ ht',e⟩
theorem mr.cut {l2:List qf}:∀ {l1:List qf} {us:List (Nat×Value×cZ)},mr (l1 ++ l2) us→∃ FV Ju,us=FV ++ Ju∧mr l1 FV∧mr l2 Ju:=by
 intro l1
 induction l1 with
 | nil=>intro us h;exact ⟨[],us,rfl,trivial,h⟩
 | cons t1 l1 ih =>
  intro us h
  cases us with
  | nil=>exact h.elim
  | cons u0 us =>
   obtain ⟨FV,Ju,rfl,h3,h4⟩:=ih h.2
   exact ⟨u0 :: FV,Ju,rfl,⟨h.1,h3⟩,h4⟩
def y8 (a b:List (Nat×Nat)):Prop:=∀ c ∈ a,∀ c' ∈ b,c.1≠c'.1
def BoxOk (b:Nat) (us:List (Nat×Value×cZ)):Prop:=(us.map (fun u=>u.2.2.claims)).Pairwise y8∧∀ u ∈ us,∀ c ∈ u.2.2.claims,c.1≠b
def Iz (us:List (Nat×Value×cZ)):List (Nat×Nat):=us.flatMap (fun u=>u.2.2.claims)
def jA (b:Nat) (T:TypeId) (r:Rep α) (x:α) (us:List (Nat×Value×cZ)):cZ where
 claims:=(b,0) :: Iz us
 ok:=fun h m=>(∃ cs,m b=some (.cells cs.toArray T (0,0))∧r.rel h cs x∧∀ u ∈ us,cs[u.1]? = some u.2.1)∧∀ u ∈ us,u.2.2.ok h m
 mono:=by
  intro h h' m hl ⟨⟨cs,e,k,l⟩,q⟩
  exact ⟨⟨cs,e,r.mono hl k,l⟩,fun u hu=>u.2.2.mono hl (q u hu)⟩
 frame:=by
  intro h m m' hm ⟨⟨cs,e,k,l⟩,q⟩
  refine ⟨⟨cs,by rw [hm (b,0) (by simp)];exact e,k,l⟩,fun u hu=>u.2.2.frame (fun c hc=>hm c ?_) (q u hu)⟩
  exact List.mem_cons_of_mem _ (List.mem_flatMap.2 ⟨u,hu,hc⟩)
def BL (T:TypeId) (r:Rep α) (x:α) (ts:List qf):dw:=fun v e=>∃ b us,v = .pointer (some ⟨b,0,none⟩)∧mr ts us∧BoxOk b us∧e=jA b T r x us
theorem St.split2 {κ:Type} {B:Base} {h:H} {L:Nat→Option cZ} {F:κ→Option cZ} {w:World} (hst:St B h (Sum.elim L F) w) {s d:Nat} {e e1 e2:cZ} (hL:L s=some e) (_:s≠d)
    (h1:∀ c ∈ e1.claims,c ∈ e.claims) (h2:∀ c ∈ e2.claims,c ∈ e.claims) (hd:y8 e1.claims e2.claims) (k1:e1.ok h (World.mem w)) (k2:e2.ok h (World.mem w)) :
    St B h (Sum.elim (set1 (set1 L s e1) d e2) F) w:=by
  obtain ⟨hcl,_⟩:=hst.own (k:=Sum.inl s) hL
  have hval:∀ k e',set1 (set1 L s e1) d e2 k=some e'→(k=d∧e'=e2)∨(k=s∧e'=e1)∨(k≠s∧k≠d∧L k=some e'):=by
    intro k e' hk
    unfold set1 at hk
    split at hk
    · rename_i hkd;exact .inl ⟨hkd,(Option.some.inj hk).symm⟩
    · rename_i hkd
      split at hk
      · rename_i hks;exact .inr (.inl ⟨hks,(Option.some.inj hk).symm⟩)
      · rename_i hks;exact .inr (.inr ⟨hks,hkd,hk⟩)
  refine ⟨hst.low,hst.base,fun x=>hst.ext x,?_,?_⟩
  · intro k e' hk
    cases k with
    | inr k=>exact hst.own (k:=Sum.inr k) hk
    | inl k =>
      rcases hval k e' hk with ⟨_,rfl⟩ | ⟨_,rfl⟩ | ⟨_,_,hk⟩
      · exact ⟨fun c hc=>hcl c (h2 c hc),k2⟩
      · exact ⟨fun c hc=>hcl c (h1 c hc),k1⟩
      · exact hst.own (k:=Sum.inl k) hk
  · have other : ∀ (k : Nat ⊕ κ) e', Sum.elim L F k = some e' → k ≠ Sum.inl s → ∀ c ∈ e.claims, ∀ c' ∈ e'.claims, c.1 ≠ c'.1 := fun k e' hk hne => hst.lY (k := Sum.inl s) hL hk (Ne.symm hne)
    intro k k' a a' hk hk' hne c hc c' hc'
    cases k with
    | inr k =>
      cases k' with
      | inr k'=>exact hst.lY (k:=Sum.inr k) (k':=Sum.inr k') hk hk' hne c hc c' hc'
      | inl k' =>
        rcases hval k' a' hk' with ⟨_,rfl⟩ | ⟨_,rfl⟩ | ⟨h3,_,hk'⟩
        · exact (other (.inr k) a hk (by simp) c' (h2 _ hc') c hc).symm
        · exact (other (.inr k) a hk (by simp) c' (h1 _ hc') c hc).symm
        · exact hst.lY (k:=Sum.inr k) (k':=Sum.inl k') hk hk' (by simp) c hc c' hc'
    | inl k =>
      cases k' with
      | inr k' =>
        rcases hval k a hk with ⟨_,rfl⟩ | ⟨_,rfl⟩ | ⟨h3,_,hk⟩
        · exact other (.inr k') a' hk' (by simp) c (h2 _ hc) c' hc'
        · exact other (.inr k') a' hk' (by simp) c (h1 _ hc) c' hc'
        · exact hst.lY (k:=Sum.inl k) (k':=Sum.inr k') hk hk' (by simp) c hc c' hc'
      | inl k' =>
        have hne':k≠k':=fun x=>hne (by rw [x])
        rcases hval k a hk with ⟨e3,rfl⟩ | ⟨e3,rfl⟩ | ⟨h3,h4,hk2⟩ <;> rcases hval k' a' hk' with ⟨e4,rfl⟩ | ⟨e4,rfl⟩ | ⟨h5,h6,GL⟩
        · exact absurd (e3.trans e4.symm) hne'
        · exact (hd c' hc' c hc).symm
        · exact other (.inl k') a' GL (fun x=>h5 (Sum.inl.inj x)) c (h2 _ hc) c' hc'
        · exact hd c hc c' hc'
        · exact absurd (e3.trans e4.symm) hne'
        · exact other (.inl k') a' GL (fun x=>h5 (Sum.inl.inj x)) c (h1 _ hc) c' hc'
        · exact (other (.inl k) a hk2 (fun x=>h3 (Sum.inl.inj x)) c' (h2 _ hc') c hc).symm
        · exact (other (.inl k) a hk2 (fun x=>h3 (Sum.inl.inj x)) c' (h1 _ hc') c hc).symm
        · exact hst.lY (k:=Sum.inl k) (k':=Sum.inl k') hk2 GL (fun x=>hne' (Sum.inl.inj x)) c hc c' hc'
def ve (L:Nat→Option cZ) (s d:Nat) (e:cZ):Nat→Option cZ:=fun k=>if k=d then none else if k=s then some e else L k
theorem St.ve {κ:Type} {B:Base} {h:H} {L:Nat→Option cZ} {F:κ→Option cZ} {w:World} (hst:St B h (Sum.elim L F) w) {s d:Nat} {e e1 e2:cZ} (hL:L s=some e1) (hL2:L d=some e2)
  (hc:∀ c ∈ e.claims,c ∈ e1.claims∨c ∈ e2.claims) (ho:e.ok h (World.mem w)):St B h (Sum.elim (ve L s d e) F) w:=by
 obtain ⟨hcl1,_⟩:=hst.own (k:=Sum.inl s) hL
 obtain ⟨hcl2,_⟩:=hst.own (k:=Sum.inl d) hL2
 have hval:∀ k e',KB.ve L s d e k=some e'→(k=s∧e'=e)∨(k≠s∧k≠d∧L k=some e'):=by
  intro k e' hk
  unfold KB.ve at hk
  split at hk
  ·cases hk
  ·rename_i hkd
   split at hk
   ·rename_i hks;exact .inl ⟨hks,(Option.some.inj hk).symm⟩
   ·rename_i hks;exact .inr ⟨hks,hkd,hk⟩
 refine ⟨hst.low,hst.base,fun x=>hst.ext x,?_,?_⟩
 ·intro k e' hk
  cases k with
  | inr k=>exact hst.own (k:=Sum.inr k) hk
  | inl k =>
   rcases hval k e' hk with ⟨_,rfl⟩ | ⟨_,_,hk⟩
   ·exact ⟨fun c hcc=>(hc c hcc).elim (hcl1 c) (hcl2 c),ho⟩
   ·exact hst.own (k:=Sum.inl k) hk
 ·have other:∀ (k:Nat ⊕ κ) e',Sum.elim L F k=some e'→k≠Sum.inl s→k≠Sum.inl d→∀ c ∈ e.claims,∀ c' ∈ e'.claims,c.1≠c'.1:=by
   intro k e' hk hn1 hn2 c hcc
   rcases hc c hcc with h1 | h1
   ·exact hst.lY (k:=Sum.inl s) hL hk (Ne.symm hn1) c h1
   ·exact hst.lY (k:=Sum.inl d) hL2 hk (Ne.symm hn2) c h1
  intro k k' a a' hk hk' hne c hcc c' DK
  cases k with
  | inr k =>
   cases k' with
   | inr k'=>exact hst.lY (k:=Sum.inr k) (k':=Sum.inr k') hk hk' hne c hcc c' DK
   | inl k' =>
    rcases hval k' a' hk' with ⟨_,rfl⟩ | ⟨h3,_,hk'⟩
    ·exact (other (.inr k) a hk (by simp) (by simp) c' DK c hcc).symm
    ·exact hst.lY (k:=Sum.inr k) (k':=Sum.inl k') hk hk' (by simp) c hcc c' DK
  | inl k =>
   cases k' with
   | inr k' =>
    rcases hval k a hk with ⟨_,rfl⟩ | ⟨h3,_,hk⟩
    ·exact other (.inr k') a' hk' (by simp) (by simp) c hcc c' DK
    ·exact hst.lY (k:=Sum.inl k) (k':=Sum.inr k') hk hk' (by simp) c hcc c' DK
   | inl k' =>
    have hne':k≠k':=fun x=>hne (by rw [x])
    rcases hval k a hk with ⟨e3,rfl⟩ | ⟨h3,h4,hk2⟩ <;> rcases hval k' a' hk' with ⟨e4,rfl⟩ | ⟨h5,h6,GL⟩
    ·exact absurd (e3.trans e4.symm) hne'
    ·exact other (.inl k') a' GL (fun x=>h5 (Sum.inl.inj x)) (fun x=>h6 (Sum.inl.inj x)) c hcc c' DK
    ·exact (other (.inl k) a hk2 (fun x=>h3 (Sum.inl.inj x)) (fun x=>h4 (Sum.inl.inj x)) c' DK c hcc).symm
    ·exact hst.lY (k:=Sum.inl k) (k':=Sum.inl k') hk2 GL (fun x=>hne' (Sum.inl.inj x)) c hcc c' DK
theorem BN {κ:Type} {B:Base} {h:H} {L:Nat→Option cZ} {F:κ→Option cZ} {w:World} (hst:St B h (Sum.elim L F) w) {s b:Nat} {T:TypeId} {r:Rep α} {x:α} {us:List (Nat×Value×cZ)}
  (hk:L s=some (jA b T r x us)):(∃ cs,w.heap[b]? = some (.cells cs.toArray T (0,0))∧r.rel h cs x∧∀ u ∈ us,cs[u.1]? = some u.2.1)∧∀ u ∈ us,u.2.2.ok h (World.mem w):=(hst.own (k:=Sum.inl s) hk).2
theorem wX {T T':TypeId} {r:Rep α} {y:α} {ts:List qf} {s i off:Nat} (hf:bW P T i off) (ho:o.op = .fieldAddr T (.tmp s) i):bn P o N [(s,BL T' r y ts)] (BM s off) []:=by
 intro κ B F L h a w hst hn hk _ next Q hnext _
 obtain ⟨e,_,b,us,hv,_⟩:=hk.1
 unfold Oper.jy
 have hv':a.eval (.tmp s) = .pointer (some ⟨b,0,none⟩):=hv
 have:(execOp a.eval o).run P w = .ok (.value (.pointer (some ⟨b,off,none⟩))) w:=by simp [execOp,ho,hv',hf b 0 w]
 rw [this]
 exact hnext _ h w L (gW.refl h) ⟨b,hv,rfl⟩ hst gX
theorem BQ {T T':TypeId} {r:Rep α} {q:Rep β} {ts:List qf} {s off:Nat} {x:Operand} {y:α} {get:α→β} {set:α→β→α} (l:Lens r q off get set) (t:fQ P T q) (W:Wr) (ho:o.op = .load T x) (hx:IA N x W s off) :
  bn P o N [(s,W.ap (BL T' r y ts))] (fV q (get y)) []:=by
 intro κ B F L h a w hst hn hk _ next Q hnext _
 obtain ⟨b,hd,hv⟩:=hx h a hn
 obtain ⟨e,hL,hqW⟩:=hk.1
 obtain ⟨b',us,hv',_,_,rfl⟩:=Wr.iff.1 hqW
 have hd':W.v a s = .pointer (some ⟨b,0,none⟩):=hd
 rw [hd'] at hv';cases hv'
 obtain ⟨⟨cs,hb,hr,_⟩,_⟩:=BN hst hL
 obtain ⟨c,hc,hrun⟩:=qB t l hb hr
 unfold Oper.jy
 have:(execOp a.eval o).run P w = .ok (.value (pack q.agg c)) w:=by simp [execOp,ho,hv,hrun]
 rw [this]
 exact hnext _ h w L (gW.refl h) ⟨c,hc,rfl⟩ hst gX
theorem yJ {T T':TypeId} {r:Rep α} {q:Rep β} {ts:List qf} {s off:Nat} {x:Operand} {y:α} {get:α→β} {set:α→β→α} (l:Lens r q off get set) (t:fQ P T q) (ho:o.op = .load T x) (hx:aO N x (BM s off)) :
  bn P o N [(s,BL T' r y ts)] (fV q (get y)) []:=BQ l t .slot ho (.slot hx)
def EM:Value:=.slice none 0 0
def rG (cs:List Value):List qf→Prop
 | []=>True
 | t :: ts=>cs[t.off]? = some EM∧rG cs ts
def nilUs (ts:List qf):List (Nat×Value×cZ):=ts.map (fun t=>(t.off,EM,oM))
theorem rG.at {cs:List Value}:∀ {ts:List qf},rG cs ts→∀ u ∈ nilUs ts,cs[u.1]? = some u.2.1:=by
 intro ts
 induction ts with
 | nil=>intro _ u hu;cases hu
 | cons t ts ih =>
  intro h u hu
  rcases List.mem_cons.1 hu with rfl | hu
  ·exact h.1
  ·exact ih h.2 u hu
def apartB (off sz:Nat) (ts:List qf):Bool:=ts.all (fun t=>Nat.blt t.off off||Nat.ble (off+sz) t.off)
theorem yO {off sz:Nat} {ts:List qf} (h:apartB off sz ts=true):∀ t ∈ ts,t.off<off∨off+sz≤t.off:=by
 intro t ht
 have:=List.all_eq_true.1 h t ht
 simpa [Nat.blt_eq] using this
theorem Be {p c c' q:List Value} {off sz i:Nat} (hp:p.length=off) (hc:c.length=sz) (hc':c'.length=sz) (h:i<off∨off+sz≤i):(p ++ c' ++ q)[i]? = (p ++ c ++ q)[i]?:=by
  rcases h with h | h
  · rw [List.append_assoc,List.append_assoc,List.getElem?_append_left (by omega),List.getElem?_append_left (by omega)]
  · rw [List.getElem?_append_right (by simp; omega), List.getElem?_append_right (by simp; omega)]
    congr 1;simp;omega
theorem GN {h:H} {w w':World} {b:Nat} {us:List (Nat×Value×cZ)} (Ht:BoxOk b us) (hw:∀ i,i≠b→w'.heap[i]? = w.heap[i]?) (h2:∀ u ∈ us,u.2.2.ok h (World.mem w)):∀ u ∈ us,u.2.2.ok h (World.mem w') :=
 fun u hu=>u.2.2.frame (fun c hc=>hw c.1 (Ht.2 u hu c hc)) (h2 u hu)
theorem BoxOk.sub {b:Nat} {us IB:List (Nat×Value×cZ)} (h:IB.Sublist us) (hb:BoxOk b us):BoxOk b IB :=
 ⟨hb.1.sublist (h.map _),fun u hu=>hb.2 u (h.subset hu)⟩
theorem IC {us IB:List (Nat×Value×cZ)} (h:IB.Sublist us):∀ c ∈ Iz IB,c ∈ Iz us:=by
 intro c hc
 obtain ⟨u,hu,hcu⟩:=List.mem_flatMap.1 hc
 exact List.mem_flatMap.2 ⟨u,h.subset hu,hcu⟩
theorem EL {T T':TypeId} {r:Rep α} {q:Rep β} {off:Nat} {y:α} {z:β} {get:α→β} {set:α→β→α} (l:Lens r q off get set) (t:fQ P T q) {κ:Type} {B:Base} {F:κ→Option cZ} {L:Nat→Option cZ} {h:H} {w:World} {s b:Nat} {us IB:List (Nat×Value×cZ)}
  (hst:St B h (Sum.elim L F) w) (hL:L s=some (jA b T' r y us)) (Ht:BoxOk b us) (hsub:IB.Sublist us) (hap:∀ u ∈ IB,u.1<off∨off+q.sz≤u.1) {c':List Value} (hc':q.rel h c' z) :
  ∃ p c q':List Value,p.length=off∧(Instr.storeAt T (.pointer (some ⟨b,off,none⟩)) (pack q.agg c')).run P w = .ok () (w.setRow b (p ++ c' ++ q').toArray)∧c.length=q.sz ∧
   (w.setRow b (p ++ c' ++ q').toArray).heap[b]? = some (.cells (p ++ c' ++ q').toArray T' (0,0))∧r.rel h (p ++ c' ++ q') (set y z)∧(∀ u ∈ IB,(p ++ c' ++ q')[u.1]? = some u.2.1) ∧
   St B h (Sum.elim (set1 L s (jA b T' r (set y z) IB)) F) (w.setRow b (p ++ c' ++ q').toArray):=by
 obtain ⟨⟨cs,hb,hr,hu1⟩,hu2⟩:=BN hst hL
 obtain ⟨p,c,q',rfl,hp,hc,hset⟩:=l h cs y hr
 have hrun:=kM t hc' hb (q.len hc)
 rw [hp] at hrun
 have hmem:=kF w b _ (p ++ c' ++ q').toArray T' hb
 have hrel:=hset h c' z (gW.refl h) hc'
 have hget:∀ u ∈ IB,(p ++ c' ++ q')[u.1]? = some u.2.1:=fun u hu=>by
  rw [Be hp (q.len hc) (q.len hc') (hap u hu)];exact hu1 u (hsub.subset hu)
 obtain ⟨hcl,_⟩:=hst.own (k:=Sum.inl s) hL
 have hno:=(hcl (b,0) (by simp [jA])).2.2
 refine ⟨p,c,q',hp,hrun,q.len hc,hmem,hrel,hget,?_⟩
 refine hst.write (Sum.inl s) (e:=jA b T' r y us) hL (b:=b) (lo:=0) (by simp [jA]) hmem (fun i hi=>setRow_other w b i _ hi) (by simp [World.setRow]) rfl rfl rfl ?_ jO ?_
 ·intro o' v hh;rw [hno o' (Nat.zero_le _)] at hh;cases hh
 ·intro e' he
  rw [jP he]
  refine ⟨fun c hc=>?_,⟨_,hmem,hrel,hget⟩,GN (Ht.sub hsub) (fun i hi=>setRow_other w b i _ hi) (fun u hu=>hu2 u (hsub.subset hu))⟩
  rcases List.mem_cons.1 hc with rfl | hc
  ·exact List.mem_cons_self
  ·exact List.mem_cons_of_mem _ (IC hsub c hc)
theorem BoxOk.nil {b off:Nat} {FV Ju:List (Nat×Value×cZ)} (h:BoxOk b (FV ++ Ju)):BoxOk b (FV ++ (off,EM,oM) :: Ju):=by
 obtain ⟨h1,h2⟩:=h
 constructor
 ·rw [List.map_append,List.pairwise_append] at h1 ⊢
  obtain ⟨k1,k2,k3⟩:=h1
  refine ⟨k1,List.Pairwise.cons (fun l _ c hc=>by cases hc) k2,fun x hx y hy=>?_⟩
  rcases List.mem_cons.1 hy with rfl | hy
  ·intro c _ c' hc';cases hc'
  ·exact k3 x hx y hy
 ·intro u hu c hc
  rcases List.mem_append.1 hu with hu | hu
  ·exact h2 u (List.mem_append_left _ hu) c hc
  ·rcases List.mem_cons.1 hu with rfl | hu
   ·cases hc
   ·exact h2 u (List.mem_append_right _ hu) c hc
theorem Gx {L:Nat→Option cZ} {s d:Nat} {e:cZ} {q:dw} {a:Act} (hsd:s≠d) (hq:q (a.gt s) e):xH L (ve L s d e) (full [(s,some q),(d,none)] none) a:=by
  intro k
  by_cases hk:k=s
  · subst hk
    have:lN (full [(k,some q),(d,none)] none) k=some (some q):=by simp [full,lN,Nat.beq_refl]
    rw [this];exact ⟨e,by simp [ve,hsd],hq⟩
  · have h4 : Nat.beq s k = false := by rw [Bool.eq_false_iff, Ne, gY]; exact fun x => hk x.symm
    by_cases hk2:k=d
    · subst hk2
      have:lN (full [(s,some q),(k,none)] none) k=some none:=by simp [full,lN,h4,Nat.beq_refl]
      rw [this];trivial
    · have h3 : Nat.beq d k = false := by rw [Bool.eq_false_iff, Ne, gY]; exact fun x => hk2 x.symm
      have:lN (full [(s,some q),(d,none)] none) k=none:=by simp [full,lN,h3,h4]
      rw [this];simp [ve,hk,hk2]
end Go.KB
namespace Go.KB
variable {P:Program} {o:Oper} {N:List (Nat×ay)} {f:ay} {α β:Type}
def DI (P:Program) (T:TypeId) (i:Nat):Option (TypeId×Nat) :=
 match P.underlying T with
 | some (.struct fs)=>match fs[i]? with
  | some g=>some (g.type,g.offset)
  | none=>none
 | _=>none
theorem zS {T':TypeId} {q:Rep β} (t:fQ P T' q) {h:H} {p c r:List Value} {y:β} (hc:q.rel h c y) (w:World):(part T' (p ++ c ++ r).toArray p.length).run P w = .ok (pack q.agg c) w:=by
 have hl:=q.len hc
 unfold part
 cases ha:q.agg with
 | true =>
  simp only [Sem.run_bind,t.agg,ha,Result.andThen_ok,if_true,t.size,Sem.run_pure,pack,cond_true]
  congr 2
  simp only [List.extract_toArray,List.extract_eq_take_drop]
  congr 1
  rw [List.append_assoc,List.drop_left' rfl,show p.length+q.sz - p.length=c.length by omega,List.take_left' rfl]
 | false =>
  rw [q.one ha] at hl
  match c,hl with
  | [v],_ =>
   have:(p ++ [v] ++ r).toArray[p.length]? = some v:=by simp
   simp only [Sem.run_bind,t.agg,ha,Result.andThen_ok,Bool.false_eq_true,if_false,this,Sem.run_pure,pack,cond_false]
theorem rG.apart {p c c' q:List Value} {off sz:Nat} (hp:p.length=off) (hc:c.length=sz) (hc':c'.length=sz):∀ {ts:List qf},apartB off sz ts=true→rG (p ++ c ++ q) ts→rG (p ++ c' ++ q) ts:=by
 intro ts
 induction ts with
 | nil=>intro _ _;trivial
 | cons t ts ih =>
  intro ha hn
  have h1:=yO ha t List.mem_cons_self
  refine ⟨by rw [Be hp hc hc' h1];exact hn.1,ih ?_ hn.2⟩
  unfold apartB at ha ⊢
  rw [List.all_cons,Bool.and_eq_true] at ha
  exact ha.2
def IE (P:Program) (N:List (Nat×ay)) (place:Nat→Option (Nat×Nat)) {α:Type} (r:Rep α) (ts:List qf):List (Nat×Operand)→α→α→Prop
 | [],x,y=>x=y
 | (i,o) :: rest,x,y=>∃ (β:Type) (s:Rep β) (off:Nat) (get:α→β) (set:α→β→α) (z:β),Lens r s off get set∧place i=some (off,s.sz)∧apartB off s.sz ts=true∧aO N o (fV s z)∧IE P N place r ts rest (set x z) y
theorem IE.run {place:Nat→Option (Nat×Nat)} {r:Rep α} {ts:List qf} {h:H} {a:Act} (n:vk N h a):∀ {parts:List (Nat×Operand)} {x y:α} {cs:List Value},IE P N place r ts parts x y→r.rel h cs x→rG cs ts →
  ∃ cs',Instr.fill place cs.toArray (parts.map fun q=>(q.1,a.eval q.2))=some cs'.toArray∧r.rel h cs' y∧rG cs' ts:=by
 intro parts
 induction parts with
 | nil=>intro x y cs k hr ht;rw [show x=y from k] at hr;exact ⟨cs,rfl,hr,ht⟩
 | cons q rest ih =>
  obtain ⟨i,op⟩:=q
  rintro x y cs ⟨β,s,off,get,set,z,l,hp,ha,ho,k⟩ hr ht
  obtain ⟨p,c,q,rfl,hpl,hc,hset⟩:=l h cs x hr
  obtain ⟨c',hc',hv⟩:=ho h a n
  simp only [List.map_cons]
  rw [Bf hc' hv hp hpl (s.len hc)]
  exact ih k (hset h c' z (gW.refl h) hc') (ht.apart hpl (s.len hc) (s.len hc') ha)
end Go.KB
namespace Go.KB
variable {P:Program} {o:Oper} {N:List (Nat×ay)} {α β:Type}
section
variable [DecidableEq α]
structure FW (P:Program) (K:TypeId) (rk:Rep α) (f:α→Value):Prop where
 is:∀ {h u x},rk.val h u x→u=f x
 chk:∀ (e:Bool) (w:World) (x:α),(Instr.checkKey e 10000 K (f x)).run P w = .ok () w
 now:∃ d,P.underlying K=some d∧∀ x y,Instr.sameNow d (f x) (f y)=some (decide (x=y))
 bits:∀ x,Instr.sameBits 10000 (f x) (f x)=true
 val:∀ h x,rk.val h (f x) x
def kStr (s:Str):Value:=.string ⟨s.toArray⟩
theorem FW.str {K:TypeId} (hK:P.underlying K=some .string):FW P K Rep.str kStr where
 is:=fun e=>uh.1 e
 chk:=fun e w x=>MapKept.run_checkKey hK (by trivial) e 9999
 now:=⟨_,hK,fun x y=>by
  simp only [Instr.sameNow,kStr]
  congr 1
  rw [Bool.eq_iff_iff,MapKept.bytes_beq]
  simp⟩
 bits:=fun x=>(MapKept.bytes_beq _ _).2 rfl
 val:=fun _ _=>uh.2 rfl
def Lr (k:IntKind) (n:Int):Value:=.int k n
theorem FW.int {K:TypeId} {k:IntKind} (hK:P.underlying K=some (.int k)):FW P K (Rep.int k) (Lr k) where
 is:=fun e=>aZ.1 e
 chk:=fun e w x=>MapKept.run_checkKey hK (by trivial) e 9999
 now:=⟨_,hK,fun x y=>by
  simp only [Instr.sameNow,Lr,if_true]
  congr 1⟩
 bits:=fun x=>by simp [Instr.sameBits,Lr]
 val:=fun _ _=>aZ.2 rfl
end
def BO (f:α→Value) (rv:Rep β) (h:H):List MapEntry→List (α×β)→Prop
 | [],[]=>True
 | e :: es,p :: l=>(e.key=f p.1∧rv.val h e.val p.2)∧BO f rv h es l
 | _,_=>False
theorem BO.mono {f:α→Value} {rv:Rep β} {h h':H} (hl:gW h h'):∀ {es:List MapEntry} {l:List (α×β)},BO f rv h es l→BO f rv h' es l
 | [],[],_=>trivial
 | _ :: _,_ :: _,⟨⟨a,b⟩,c⟩=>⟨⟨a,rv.DL hl b⟩,BO.mono hl c⟩
section
variable [DecidableEq α]
end
section
variable [DecidableEq α]
end
end Go.KB
namespace Go.KB
variable {P:Program} {o:Oper} {N:List (Nat×ay)} {α β:Type}
end Go.KB
namespace Go.KB
variable {P:Program} {o:Oper} {N:List (Nat×ay)} {α β:Type}
def Dk (P:Program) (f:FuncId) (args:List ay) (i:Nat) (q q':dw) (post:ay):Prop :=
 ∀ (κ:Type) (B:Base) (L:κ→Option cZ) (h:H) (w:World) (vs:List Value) (x:cZ) (v:Value),St B h (Sum.elim (fun _:Unit=>some x) L) w→args.length=vs.length→vs[i]? = some v→q v x →
  (∀ (j:Nat) (g:ay) (u:Value),args[j]? = some g→vs[j]? = some u→g.p h undef u) →
  Calls P f vs.toArray w (fun e w'=>∃ u h' x',e = .returned u∧gW h h'∧St B h' (Sum.elim (fun _:Unit=>some x') L) w'∧post.p h' undef u∧q' u x')
theorem Ba {n:Nat} {f:FuncId} {fn:Func} {c:Code} {args:List ay} {i:Nat} {q q':dw} {post:ay} (hf:P.funcs[f]? = some fn) (hb:fn.body=some c) (hn:fn.ntmps=n) (lQ:(Nat.ble args.length n&&ji args)=true)
  (hwp:∀ (κ:Type) (B:Base) (h0:H) (F:κ→Option cZ) (a:Act) (w:World),At B h0 (FX (wQ 0 args)) (CX [(i,q)]) F n a w→c.jy none P (xI P fn B h0 F q' post) a w):Dk P f args i q q' post:=by
 intro κ B L h w vs x v hst hl zT hq hargs
 rw [Bool.and_eq_true,Nat.ble_eq] at lQ
 obtain ⟨hlen,hdp⟩:=lQ
 have qC:=iy hdp
 have hget:∀ (j:Nat) u,vs[j]? = some u→Act.gt { tmps:=vs.toArray ++ Array.replicate (fn.ntmps - vs.toArray.size) undef,defers:=[] } j=u:=by
  intro j u hu
  have hj:=(List.getElem?_eq_some_iff.1 hu).1
  simp only [Act.gt,Array.getD_eq_getD_getElem?]
  rw [Array.getElem?_append_left (by simpa using hj)]
  simp [hu]
 refine qE rfl hf hb (hwp _ B.e h L _ w ⟨h,_,gW.refl h,(hst.enter i).toE,?_,?_,?_,rfl⟩) (fun _ _ ⟨v,h',x,he,hl,hs,hp⟩=>⟨v,h',x,he,hl,hs.ofE,hp⟩)
 ·intro s q1 hs
  simp only [CX,lkO] at hs
  cases hk:Nat.beq i s with
  | true =>
   rw [hk] at hs;cases hs
   rw [gY] at hk;subst hk
   exact ⟨x,by simp,by rw [hget _ _ zT];exact hq⟩
  | false=>rw [hk] at hs;cases hs
 ·intro s
  rcases vJ args 0 s with h1 | ⟨j,g,h1,h2,h3⟩
  ·show (GR (wQ 0 args) s).at _ _ _;rw [h1];exact trivial
  ·show (GR (wQ 0 args) s).at _ _ _;rw [h3]
   have hj:=(List.getElem?_eq_some_iff.1 h1).1
   have hv:vs[j]? = some vs[j]:=List.getElem?_eq_getElem (by omega)
   have:=hargs j g _ h1 hv
   unfold ay.at ay.dv
   rw [qC g (List.mem_of_getElem? h1),h2,Nat.zero_add,hget _ _ hv]
   exact this
 ·simp;omega
theorem GU {s d i:Nat} {q q' Q:dw} {f:FuncId} {fn:Func} {args:List ay} {post:ay} {xs:Array Operand} {ts:Array TypeId} {y:Operand}
    (hc:Dk P f args i q q' post) (hf:P.funcs[f]? = some fn) (hbd:kE fn=true) (hd:ji (post :: args)=true) (hsd:Nat.beq s d=false) (hdst:o.dst=some d)
    (ho:o.op = .call { callee:=.value (.func f),args:=xs,argTypes:=ts }) (hy:xs.toList[i]? = some y) (hyx:∀ h a e,vk N h a→Q (a.gt s) e→q (a.eval y) e) (hargs:lD N args xs.toList):bn P o N [(s,Q)] post [(s,none),(d,some q')]:=by
  intro κ B F L h a w hst hn hk hdn next Q hnext _
  obtain ⟨e,hL,hq⟩:=hk.1
  have hL:L s=some e:=hL
  have hq:q (a.eval y) e:=hyx h a e hn hq
  simp only [kE,Bool.and_eq_true,Bool.not_eq_true'] at hbd
  have hbody:fn.body≠none:=by
    intro hx;rw [hx] at hbd;cases hbd.1
  have hname:fn.name ≠ "runtime.NumGoroutine":=by simpa using hbd.2
  have hdp:=iy hd
  have hne:s≠d:=fun x=>by rw [gY.2 x] at hsd;cases hsd
  obtain ⟨hlen,hall⟩:=hargs.spec
  unfold Oper.jy
  have:(execOp a.eval o).run P w = .ok (.enter f (xs.toList.map a.eval).toArray) w:=by
    have e:(xs.toList.map a.eval).toArray=xs.map a.eval:=by apply Array.ext';simp
    rw [e]
    simp [execOp,ho,resolve,Act.eval,Deferred.ofValue,invoke,callFunc,hf,hname,hbody]
  rw [this,sQ]
  have hst1:St B h (Sum.elim (set1 L s e) F) w:=by rw [sO hL];exact hst
  refine (hc _ B _ h w (xs.toList.map a.eval) e (a.eval y) hst1.out (by rw [List.length_map];exact hlen) (by rw [List.getElem?_map,hy];rfl) hq ?_).mono ?_
  · intro j g v hg hv
    rw [List.getElem?_map] at hv
    cases hx:xs.toList[j]? with
    | none=>rw [hx] at hv;cases hv
    | some x =>
      rw [hx] at hv;cases hv
      have:=hall j g x hg hx h a hn
      unfold ay.dv at this
      rw [hdp g (List.mem_cons_of_mem _ (List.mem_of_getElem? hg))] at this
      exact this
  · rintro e' w' ⟨v,h',x',rfl,hl,hst',hp,hq'⟩
    refine hnext v h' w' (set1 (fun k=>if k=s then none else L k) d x') hl ?_ ?_ ?_
    · unfold ay.dv
      rw [hdp post List.mem_cons_self]
      exact hp
    · generalize (fun k => if k = s then none else L k) = L0 at hst'
      refine hst'.wF (fun k=>match k with | .inl k=>if k=d then .inl () else .inr (.inl k) | .inr k=>.inr (.inr k)) ?_ ?_
      · intro k e hk
        cases k with
        | inr k=>exact hk
        | inl k =>
          by_cases hkd:k=d
          · subst hkd;simp [set1] at hk;simp [hk]
          · simp [set1,hkd] at hk;simp [hkd,hk]
      · intro k k' e1 e2 h1 h2 hne
        cases k with
        | inr k=>cases k' with
          | inr k'=>intro he;exact hne (by rw [Sum.inr.inj (Sum.inr.inj he)])
          | inl k'=>intro he;simp only [] at he;split at he <;> cases he
        | inl k=>cases k' with
          | inr k'=>intro he;simp only [] at he;split at he <;> cases he
          | inl k' =>
            have hne':k≠k':=fun x=>hne (by rw [x])
            simp only []
            intro he
            split at he <;> split at he
            · rename_i h3 h4;exact hne' (h3.trans h4.symm)
            · cases he
            · cases he
            · exact hne' (Sum.inl.inj (Sum.inr.inj he))
    · rw [hdst]
      intro k
      have IG:Nat.beq s d=false:=hsd
      by_cases hk:k=d
      · subst hk
        have:lN (full [(s,none),(k,some q')] (some k)) k=some (some q'):=by simp [full,lN,IG,Nat.beq_refl]
        rw [this];exact ⟨x',by simp [set1],by rw [bP (hdn k hdst)];exact hq'⟩
      · by_cases hks : k = s
        · subst hks
          have:lN (full [(k,none),(d,some q')] (some d)) k=some none:=by simp [full,lN,Nat.beq_refl]
          rw [this];trivial
        · have h1 : Nat.beq s k = false := by rw [Bool.eq_false_iff, Ne, gY]; exact fun x => hks x.symm
          have h2:Nat.beq d k=false:=by rw [Bool.eq_false_iff,Ne,gY];exact fun x=>hk x.symm
          have:lN (full [(s,none),(d,some q')] (some d)) k=none:=by simp [full,lN,h1,h2]
          rw [this];simp [set1,hk,hks]
theorem Dt {s d i:Nat} {q q':dw} {f:FuncId} {fn:Func} {args:List ay} {post:ay} {xs:Array Operand} {ts:Array TypeId} {y:Operand}
  (hc:Dk P f args i q q' post) (hf:P.funcs[f]? = some fn) (hbd:kE fn=true) (hd:ji (post :: args)=true) (hsd:Nat.beq s d=false) (hdst:o.dst=some d)
  (ho:o.op = .call { callee:=.value (.func f),args:=xs,argTypes:=ts }) (hy:xs.toList[i]? = some y) (hyx:aO N y (Aw s)) (hargs:lD N args xs.toList):bn P o N [(s,q)] post [(s,none),(d,some q')] :=
 GU hc hf hbd hd hsd hdst ho hy (fun h a e n k=>by rw [show a.eval y=a.gt s from hyx h a n];exact k) hargs
theorem yc {s i:Nat} {ι:Type} {q0 q0':dw} {q q':ι→dw} {fx:ay} {f:FuncId} {fn:Func} {args:List ay} {post:ay} {xs:Array Operand} {ts:Array TypeId} {y:Operand}
  (hc:∀ k,wZ P f args i (q k) (q' k) post) (hb:pR s fx q0 q0' q q') (hfx:fx.dep=some s) (hf:P.funcs[f]? = some fn) (hbd:kE fn=true) (hd:ji (post :: args)=true) (hds:II o.dst s=true)
  (ho:o.op = .call { callee:=.value (.func f),args:=xs,argTypes:=ts }) (hy:xs.toList[i]? = some y) (hyx:aO N y fx) (hargs:lD N args xs.toList):bn P o N [(s,q0)] ay.kV [(s,some q0')] :=
 bn.out (iy hd post List.mem_cons_self) (fun _ _ _ _=>trivial) (Dz hc hb hfx hf hbd hd hds ho hy hyx hargs)
end Go.KB
namespace Go.KB
variable {P:Program} {o:Oper} {N:List (Nat×ay)} {α β:Type}
end Go.KB
namespace Go.KB
section
variable {P:Program} {o:Oper} {N:List (Nat×ay)} {α:Type}
theorem aK {T:TypeId} {r:Rep α} {s:Nat} {y:α} (t:fQ P T r) (ho:o.op = .load T (.tmp s)):bn P o ((s,fC r y) :: N) [] (fV r y) []:=bJ t ho ah
theorem bI {β:Type} {T:TypeId} {r:Rep α} {q:Rep β} {s:Nat} {y:α} {i off:Nat} {get:α→β} {set:α→β→α} (l:Lens r q off get set) (hf:bW P T i off) (ho:o.op = .fieldAddr T (.tmp s) i):bn P o ((s,fC r y) :: N) [] (fC q (get y)) []:=bH l hf ho ah
theorem iC {T:TypeId} {r:Rep α} {s v:Nat} {y z:α} (t:fQ P T r) (ho:o.op = .store T (.tmp s) (.tmp v)) (hd:o.dst=none:=by rfl):bn P o ((v,fV r z) :: N) [(s,dH T r y)] ay.kV [(s,some (dH T r z))]:=DN t hd ho ah
def IJ:BinOp→Bool
 | .eql | .neq | .lss | .leq | .gtr | .geq=>true
 | _=>false
theorem zU {op:BinOp} (h:IJ op=true):op = .eql∨op = .neq∨op = .lss∨op = .leq∨op = .gtr∨op = .geq:=by
 cases op <;> first | (cases h;done) | simp
theorem dG {op:BinOp} {k:IntKind} {T T':TypeId} {s:Nat} {m n:Int} (ho:o.op = .binOp op T (.tmp s) (.const (.int k n)) T') (hop:IJ op=true:=by rfl):bn P o ((s,fV (Rep.int k) m) :: N) [] (fV Rep.bool (ai op m n)) []:=bZ (zU hop) rfl ho ah aC
theorem dP {op:BinOp} {k:IntKind} {T T':TypeId} {s t:Nat} {m n:Int} (ho:o.op = .binOp op T (.tmp s) (.tmp t) T') (hop:IJ op=true:=by rfl):bn P o ((s,fV (Rep.int k) m) :: (t,fV (Rep.int k) n) :: N) [] (fV Rep.bool (ai op m n)) []:=bZ (zU hop) rfl ho ah aj
theorem bf {α β γ:Type} {x:Option α} {f:α→Option β} {g:α→β→Option γ} {r:γ} (h:(x.bind fun a=>(f a).bind (g a))=some r):∃ a,x=some a∧∃ b,f a=some b∧g a b=some r:=by
 obtain ⟨a,h1,h⟩:=aH h
 obtain ⟨b,h2,h⟩:=aH h
 exact ⟨a,h1,b,h2,h⟩
theorem tn {K:Act→World→Prop} {Q:Exit→Act→World→Prop} {a:Act} {w:World} (h:K a w):Exit.then K Q .normal a w:=h
theorem tr {K:Act→World→Prop} {Q:Exit→Act→World→Prop} {a:Act} {w:World} (h:Q .ret a w):Exit.then K Q .ret a w:=h
theorem ws {ρ:Option Nat} {Q:Exit→Act→World→Prop} {a:Act} {w:World} {x y:Code} (h:x.jy ρ P (Exit.then (y.jy ρ P Q) Q) a w):(Code.seq x y).jy ρ P Q a w:=wp_seq h
theorem wk {ρ:Option Nat} {Q:Exit→Act→World→Prop} {a:Act} {w:World} (h:Q .normal a w):Code.skip.jy ρ P Q a w:=wp_skip h
theorem wr {ρ:Option Nat} {Q:Exit→Act→World→Prop} {a:Act} {w:World} (h:Q .ret a w):Code.ret.jy ρ P Q a w:=wp_ret h
abbrev ln {α:Type} (l:List α):Int:=(List.length l:Int)
abbrev w3:Int→Int:=IntKind.u32.wrap
abbrev w6:Int→Int:=IntKind.u64.wrap
abbrev w1:Int→Int:=IntKind.u16.wrap
abbrev lS {α:Type} (r:Rep α):Rep (List α):=Rep.slice r
theorem yL {T E T':TypeId} {r:Rep α} {m s:Nat} {k:IntKind} {i:Operand} {xs:List α} {n:Int} {y:α} (hq:idx xs n=some y) (t:fQ P E r) (hT:P.underlying T=some (.array m E)) (ho:o.op = .indexAddr T (.tmp s) i)
  (hi:aO N i (fV (Rep.int k) n)):bn P o N [(s,dH T' (Rep.arr r m) xs)] (BM s (n.toNat * r.sz)) []:=by
 intro κ B F L h a w hst hn hk _ next Q hnext _
 obtain ⟨h0,hlt,_⟩:=bF hq
 obtain ⟨e,hL,b,hv,rfl⟩:=hk.1
 have hv':a.eval (.tmp s) = .pointer (some ⟨b,0,none⟩):=hv
 obtain ⟨cs,hb,hlen,hr⟩:=wP hst hL
 unfold Oper.jy
 have h1:0≤n∧n<(m:Int):=by omega
 have:(execOp a.eval o).run P w = .ok (.value (.pointer (some ⟨b,n.toNat * r.sz,none⟩))) w:=by
  simp [execOp,ho,hv',aZ.1 (hi h a hn),Instr.indexAt,Instr.sureAddr,asIntOf,run_underlying hT,h1,t.size,Addr.add_mid]
 rw [this]
 exact hnext _ h w L (gW.refl h) ⟨b,hv,rfl⟩ hst gX
theorem Ls {κ:Type} {B:Base} {h:H} {L:Nat→Option cZ} {F:κ→Option cZ} {a:Act} {w:World} {T':TypeId} {r:Rep α} {m s:Nat} {xs:List α} (hst:St B h (Sum.elim L F) w) (hk:GV [(s,dH T' (Rep.arr r m) xs)] L a):xs.length=m:=by
 obtain ⟨e,hL,b,hv,rfl⟩:=hk.1
 obtain ⟨cs,hb,hlen,hr⟩:=wP hst hL
 exact hlen
theorem yM {T T':TypeId} {r:Rep α} {m s:Nat} {x:Operand} {xs:List α} {n:Int} {y:α} (hq:idx xs n=some y) (t:fQ P T r) (ho:o.op = .load T x) (hx:aO N x (BM s (n.toNat * r.sz))) :
  bn P o N [(s,dH T' (Rep.arr r m) xs)] (fV r y) []:=by
 intro κ B F L h a w hst hn hk hd next Q hnext hnx
 have hm:=Ls hst hk
 obtain ⟨h0,hlt,hy⟩:=bF hq
 have hg:xs.getD n.toNat r.zero=y:=by rw [List.getD_eq_getElem?_getD,hy];rfl
 have:=iI (N:=N) (T':=T') (y:=xs) (Lens.arr r m n.toNat (by omega)) t ho hx
 rw [hg] at this
 exact this κ B F L h a w hst hn hk hd next Q hnext hnx
theorem Gs {T E:TypeId} {r:Rep α} {m:Nat} {k:IntKind} {x i:Operand} {xs:List α} {n:Int} {y:α} (hq:idx xs n=some y) (t:fQ P E r) (hT:P.underlying T=some (.array m E)) (ho:o.op = .index T x i) (hx:aO N x (fV (Rep.arr r m) xs)) (hi:aO N i (fV (Rep.int k) n)) :
  bn P o N [] (fV r y) [] :=
 bn.iU fun h a w _ q=>by
  obtain ⟨h0,hlt,hy⟩:=bF hq
  obtain ⟨cs,⟨hlen,hr⟩,hv⟩:=hx h a q
  obtain ⟨p,c,q',rfl,hp,hc,_⟩:=hr.get hy
  refine ⟨pack r.agg c,?_,c,hc,rfl⟩
  have h1:0≤n∧n<(m:Int):=by omega
  have hv':a.eval x = .agg (p ++ c ++ q').toArray:=hv
  have hrun:=zS t (p:=p) (r:=q') hc w
  rw [hp] at hrun
  simp only [execOp,ho,hv',aZ.1 (hi h a q),Instr.index,asIntOf,Sem.run_bind,Sem.run_pure,Result.andThen_ok,run_underlying hT,h1,and_self,if_true,t.size]
  rw [hrun]
  rfl
end
end Go.KB
