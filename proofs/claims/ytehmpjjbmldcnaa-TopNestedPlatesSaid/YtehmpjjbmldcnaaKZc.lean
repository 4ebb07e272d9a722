/- Variables whose fields are rows that are appended to. Fields of values; values whose fields are nil, and variables that take them. Maps that are owned: made, looked into, written. Pointers that are only read, nil among them; texts as rows of bytes. Functions that take a row over and hand a row back. Rows that grow from nothing: cap, cuts and appends of zeros at nil. Arrays: slices of arrays that are not written any more, elements of arrays. No condition. -/
import Derived.Test.YtehmpjjbmldcnaaKZb
import Derived.MapKept
import Derived.Laws.Pointers
import Derived.Lib.ConvBytes
import Derived.Lib.AppendZeros
namespace Go.KB
variable {P:Program} {o:Oper} {N:List (Nat×aO)} {f:aO} {α β:Type}
inductive Wr where
 | slot
 | val (sv:Value)
def vK (q:gK) (sv:Value):gK:=fun _ e=>q sv e
def Wr.ap (W:Wr) (q:gK):gK:=match W with | .slot=>q | .val sv=>vK q sv
def Wr.v (W:Wr) (a:Act) (g:Nat):Value:=match W with | .slot=>a.gt g | .val sv=>sv
theorem Wr.iff {W:Wr} {q:gK} {a:Act} {g:Nat} {e:gQ}:W.ap q (a.gt g) e↔q (W.v a g) e:=by cases W <;> rfl
def S9 (N:List (Nat×aO)) (x:Operand) (W:Wr) (g:Nat):Prop:=∀ h a,AU N h a→a.eval x=W.v a g
theorem S9.slot {x:Operand} {g:Nat} (hx:bJ N x (Ls g)):S9 N x .slot g:=fun h a n=>hx h a n
theorem S9.val {x:Operand} {g:Nat} {sv:Value} (hx:bJ N x (xE sv)):S9 N x (.val sv) g:=fun h a n=>hx h a n
theorem Wr.UF {W:Wr} {a:Act} {s d:Nat} {v:Value} (h:s≠d):W.v (a.put (some d) v) s=W.v a s:=by
 cases W with
 | slot=>exact Ic h
 | val sv=>rfl
def Tc (N:List (Nat×aO)) (x:Operand) (W:Wr) (s off:Nat):Prop:=∀ h a,AU N h a→∃ b,W.v a s = .pointer (some ⟨b,0,none⟩)∧a.eval x = .pointer (some ⟨b,off,none⟩)
def fOffV (sv:Value) (off:Nat):aO:=⟨none,fun _ _ v=>∃ b,sv = .pointer (some ⟨b,0,none⟩)∧v = .pointer (some ⟨b,off,none⟩),fun _ x=>x⟩
theorem Tc.slot {x:Operand} {s off:Nat} (hx:bJ N x (rZ s off)):Tc N x .slot s off:=fun h a n=>hx h a n
theorem Tc.val {x:Operand} {s off:Nat} {sv:Value} (hx:bJ N x (fOffV sv off)):Tc N x (.val sv) s off:=fun h a n=>hx h a n
structure pR where
 off:Nat
 E:TypeId
 sz:Nat
def pI:List pR→List (Nat×Value×gQ)→Prop
 | [],[]=>True
 | t :: ts,u :: us=>(u.1=t.off∧fH t.E t.sz u.2.1 u.2.2)∧pI ts us
 | _,_=>False
theorem pI.mid {t:pR} {l2:List pR}:∀ {l1:List pR} {us:List (Nat×Value×gQ)},pI (l1 ++ t :: l2) us →
  ∃ lI u nD,us=lI ++ u :: nD∧u.1=t.off∧fH t.E t.sz u.2.1 u.2.2∧pI l1 lI∧pI l2 nD:=by
 intro l1
 induction l1 with
 | nil =>
  intro us h
  cases us with
  | nil=>exact h.elim
  | cons u us=>exact ⟨[],u,us,rfl,h.1.1,h.1.2,trivial,h.2⟩
 | cons t1 l1 ih =>
  intro us h
  cases us with
  | nil=>exact h.elim
  | cons u0 us =>
   obtain ⟨lI,u,nD,rfl,h1,h2,h3,h4⟩:=ih h.2
   exact ⟨u0 :: lI,u,nD,rfl,h1,h2,⟨h.1,h3⟩,h4⟩
theorem pI.app {l2:List pR} {nD:List (Nat×Value×gQ)} (h2:pI l2 nD):∀ {l1:List pR} {lI:List (Nat×Value×gQ)},pI l1 lI→pI (l1 ++ l2) (lI ++ nD):=by
 intro l1
 induction l1 with
 | nil =>
  intro lI h
  cases lI with
  | nil=>exact h2
  | cons u us=>exact h.elim
 | cons t1 l1 ih =>
  intro lI h
  cases lI with
  | nil=>exact h.elim
  | cons u0 us=>exact ⟨h.1,ih h.2⟩
theorem pI.offs:∀ {l:List pR} {us:List (Nat×Value×gQ)},pI l us→∀ u ∈ us,∃ t ∈ l,u.1=t.off:=by
 intro l
 induction l with
 | nil =>
  intro us h u hu
  cases us with
  | nil=>cases hu
  | cons _ _=>exact h.elim
 | cons t l ih =>
  intro us h u hu
  cases us with
  | nil=>exact h.elim
  | cons u0 us =>
   rcases List.mem_cons.1 hu with rfl | hu
   ·exact ⟨t,List.mem_cons_self,h.1.1⟩
   ·obtain ⟨t',ht',e⟩:=ih h.2 u hu
    exact ⟨t',List.mem_cons_of_mem _ ht',e⟩
theorem pI.cut {l2:List pR}:∀ {l1:List pR} {us:List (Nat×Value×gQ)},pI (l1 ++ l2) us→∃ lI nD,us=lI ++ nD∧pI l1 lI∧pI l2 nD:=by
 intro l1
 induction l1 with
 | nil=>intro us h;exact ⟨[],us,rfl,trivial,h⟩
 | cons t1 l1 ih =>
  intro us h
  cases us with
  | nil=>exact h.elim
  | cons u0 us =>
   obtain ⟨lI,nD,rfl,h3,h4⟩:=ih h.2
   exact ⟨u0 :: lI,nD,rfl,⟨h.1,h3⟩,h4⟩
def Ff (a b:List (Nat×Nat)):Prop:=∀ c ∈ a,∀ c' ∈ b,c.1≠c'.1
def BoxOk (b:Nat) (us:List (Nat×Value×gQ)):Prop:=(us.map (fun u=>u.2.2.claims)).Pairwise Ff∧∀ u ∈ us,∀ c ∈ u.2.2.claims,c.1≠b
def OJ (us:List (Nat×Value×gQ)):List (Nat×Nat):=us.flatMap (fun u=>u.2.2.claims)
def pJ (b:Nat) (T:TypeId) (r:Rep α) (x:α) (us:List (Nat×Value×gQ)):gQ where
 claims:=(b,0) :: OJ us
 ok:=fun h m=>(∃ cs,m b=some (.cells cs.toArray T (0,0))∧r.rel h cs x∧∀ u ∈ us,cs[u.1]? = some u.2.1)∧∀ u ∈ us,u.2.2.ok h m
 mono:=by
  intro h h' m hl ⟨⟨cs,e,k,l⟩,q⟩
  exact ⟨⟨cs,e,r.mono hl k,l⟩,fun u hu=>u.2.2.mono hl (q u hu)⟩
 frame:=by
  intro h m m' hm ⟨⟨cs,e,k,l⟩,q⟩
  refine ⟨⟨cs,by rw [hm (b,0) (by simp)];exact e,k,l⟩,fun u hu=>u.2.2.frame (fun c hc=>hm c ?_) (q u hu)⟩
  exact List.mem_cons_of_mem _ (List.mem_flatMap.2 ⟨u,hu,hc⟩)
def BU (T:TypeId) (r:Rep α) (x:α) (ts:List pR):gK:=fun v e=>∃ b us,v = .pointer (some ⟨b,0,none⟩)∧pI ts us∧BoxOk b us∧e=pJ b T r x us
theorem St.split2 {κ:Type} {B:Base} {h:H} {L:Nat→Option gQ} {F:κ→Option gQ} {w:World} (hst:St B h (Sum.elim L F) w) {s d:Nat} {e e1 e2:gQ} (hL:L s=some e) (_:s≠d)
    (h1:∀ c ∈ e1.claims,c ∈ e.claims) (h2:∀ c ∈ e2.claims,c ∈ e.claims) (hd:Ff e1.claims e2.claims) (k1:e1.ok h (World.mem w)) (k2:e2.ok h (World.mem w)) :
    St B h (Sum.elim (set1 (set1 L s e1) d e2) F) w:=by
  obtain ⟨hcl,_⟩:=hst.own (k:=Sum.inl s) hL
  have hval:∀ k e',set1 (set1 L s e1) d e2 k=some e'→(k=d∧e'=e2)∨(k=s∧e'=e1)∨(k≠s∧k≠d∧L k=some e'):=by
    intro k e' hk
    unfold set1 at hk
    split at hk
    · rename_i hkd;exact .inl ⟨hkd,(Option.some.inj hk).symm⟩
    · rename_i hkd
      split at hk
      · rename_i hks;exact .inr (.inl ⟨hks,(Option.some.inj hk).symm⟩)
      · rename_i hks;exact .inr (.inr ⟨hks,hkd,hk⟩)
  refine ⟨hst.low,hst.base,fun x=>hst.ext x,?_,?_,hst.mark,fun x i y=>hst.nf x i y⟩
  · intro k e' hk
    cases k with
    | inr k=>exact hst.own (k:=Sum.inr k) hk
    | inl k =>
      rcases hval k e' hk with ⟨_,rfl⟩ | ⟨_,rfl⟩ | ⟨_,_,hk⟩
      · exact ⟨fun c hc=>hcl c (h2 c hc),k2⟩
      · exact ⟨fun c hc=>hcl c (h1 c hc),k1⟩
      · exact hst.own (k:=Sum.inl k) hk
  · have other : ∀ (k : Nat ⊕ κ) e', Sum.elim L F k = some e' → k ≠ Sum.inl s → ∀ c ∈ e.claims, ∀ c' ∈ e'.claims, c.1 ≠ c'.1 := fun k e' hk hne => hst.zN (k := Sum.inl s) hL hk (Ne.symm hne)
    intro k k' a a' hk hk' hne c hc c' hc'
    cases k with
    | inr k =>
      cases k' with
      | inr k'=>exact hst.zN (k:=Sum.inr k) (k':=Sum.inr k') hk hk' hne c hc c' hc'
      | inl k' =>
        rcases hval k' a' hk' with ⟨_,rfl⟩ | ⟨_,rfl⟩ | ⟨h3,_,hk'⟩
        · exact (other (.inr k) a hk (by simp) c' (h2 _ hc') c hc).symm
        · exact (other (.inr k) a hk (by simp) c' (h1 _ hc') c hc).symm
        · exact hst.zN (k:=Sum.inr k) (k':=Sum.inl k') hk hk' (by simp) c hc c' hc'
    | inl k =>
      cases k' with
      | inr k' =>
        rcases hval k a hk with ⟨_,rfl⟩ | ⟨_,rfl⟩ | ⟨h3,_,hk⟩
        · exact other (.inr k') a' hk' (by simp) c (h2 _ hc) c' hc'
        · exact other (.inr k') a' hk' (by simp) c (h1 _ hc) c' hc'
        · exact hst.zN (k:=Sum.inl k) (k':=Sum.inr k') hk hk' (by simp) c hc c' hc'
      | inl k' =>
        have hne':k≠k':=fun x=>hne (by rw [x])
        rcases hval k a hk with ⟨e3,rfl⟩ | ⟨e3,rfl⟩ | ⟨h3,h4,hk2⟩ <;> rcases hval k' a' hk' with ⟨e4,rfl⟩ | ⟨e4,rfl⟩ | ⟨h5,h6,Td⟩
        · exact absurd (e3.trans e4.symm) hne'
        · exact (hd c' hc' c hc).symm
        · exact other (.inl k') a' Td (fun x=>h5 (Sum.inl.inj x)) c (h2 _ hc) c' hc'
        · exact hd c hc c' hc'
        · exact absurd (e3.trans e4.symm) hne'
        · exact other (.inl k') a' Td (fun x=>h5 (Sum.inl.inj x)) c (h1 _ hc) c' hc'
        · exact (other (.inl k) a hk2 (fun x=>h3 (Sum.inl.inj x)) c' (h2 _ hc') c hc).symm
        · exact (other (.inl k) a hk2 (fun x=>h3 (Sum.inl.inj x)) c' (h1 _ hc') c hc).symm
        · exact hst.zN (k:=Sum.inl k) (k':=Sum.inl k') hk2 Td (fun x=>hne' (Sum.inl.inj x)) c hc c' hc'
def xq (L:Nat→Option gQ) (s d:Nat) (e:gQ):Nat→Option gQ:=fun k=>if k=d then none else if k=s then some e else L k
theorem St.xq {κ:Type} {B:Base} {h:H} {L:Nat→Option gQ} {F:κ→Option gQ} {w:World} (hst:St B h (Sum.elim L F) w) {s d:Nat} {e e1 e2:gQ} (hL:L s=some e1) (hL2:L d=some e2)
  (hc:∀ c ∈ e.claims,c ∈ e1.claims∨c ∈ e2.claims) (ho:e.ok h (World.mem w)):St B h (Sum.elim (xq L s d e) F) w:=by
 obtain ⟨hcl1,_⟩:=hst.own (k:=Sum.inl s) hL
 obtain ⟨hcl2,_⟩:=hst.own (k:=Sum.inl d) hL2
 have hval:∀ k e',KB.xq L s d e k=some e'→(k=s∧e'=e)∨(k≠s∧k≠d∧L k=some e'):=by
  intro k e' hk
  unfold KB.xq at hk
  split at hk
  ·cases hk
  ·rename_i hkd
   split at hk
   ·rename_i hks;exact .inl ⟨hks,(Option.some.inj hk).symm⟩
   ·rename_i hks;exact .inr ⟨hks,hkd,hk⟩
 refine ⟨hst.low,hst.base,fun x=>hst.ext x,?_,?_,hst.mark,fun x i y=>hst.nf x i y⟩
 ·intro k e' hk
  cases k with
  | inr k=>exact hst.own (k:=Sum.inr k) hk
  | inl k =>
   rcases hval k e' hk with ⟨_,rfl⟩ | ⟨_,_,hk⟩
   ·exact ⟨fun c hcc=>(hc c hcc).elim (hcl1 c) (hcl2 c),ho⟩
   ·exact hst.own (k:=Sum.inl k) hk
 ·have other:∀ (k:Nat ⊕ κ) e',Sum.elim L F k=some e'→k≠Sum.inl s→k≠Sum.inl d→∀ c ∈ e.claims,∀ c' ∈ e'.claims,c.1≠c'.1:=by
   intro k e' hk hn1 hn2 c hcc
   rcases hc c hcc with h1 | h1
   ·exact hst.zN (k:=Sum.inl s) hL hk (Ne.symm hn1) c h1
   ·exact hst.zN (k:=Sum.inl d) hL2 hk (Ne.symm hn2) c h1
  intro k k' a a' hk hk' hne c hcc c' OL
  cases k with
  | inr k =>
   cases k' with
   | inr k'=>exact hst.zN (k:=Sum.inr k) (k':=Sum.inr k') hk hk' hne c hcc c' OL
   | inl k' =>
    rcases hval k' a' hk' with ⟨_,rfl⟩ | ⟨h3,_,hk'⟩
    ·exact (other (.inr k) a hk (by simp) (by simp) c' OL c hcc).symm
    ·exact hst.zN (k:=Sum.inr k) (k':=Sum.inl k') hk hk' (by simp) c hcc c' OL
  | inl k =>
   cases k' with
   | inr k' =>
    rcases hval k a hk with ⟨_,rfl⟩ | ⟨h3,_,hk⟩
    ·exact other (.inr k') a' hk' (by simp) (by simp) c hcc c' OL
    ·exact hst.zN (k:=Sum.inl k) (k':=Sum.inr k') hk hk' (by simp) c hcc c' OL
   | inl k' =>
    have hne':k≠k':=fun x=>hne (by rw [x])
    rcases hval k a hk with ⟨e3,rfl⟩ | ⟨h3,h4,hk2⟩ <;> rcases hval k' a' hk' with ⟨e4,rfl⟩ | ⟨h5,h6,Td⟩
    ·exact absurd (e3.trans e4.symm) hne'
    ·exact other (.inl k') a' Td (fun x=>h5 (Sum.inl.inj x)) (fun x=>h6 (Sum.inl.inj x)) c hcc c' OL
    ·exact (other (.inl k) a hk2 (fun x=>h3 (Sum.inl.inj x)) (fun x=>h4 (Sum.inl.inj x)) c' OL c hcc).symm
    ·exact hst.zN (k:=Sum.inl k) (k':=Sum.inl k') hk2 Td (fun x=>hne' (Sum.inl.inj x)) c hcc c' OL
theorem Gv {κ:Type} {B:Base} {h:H} {L:Nat→Option gQ} {F:κ→Option gQ} {w:World} (hst:St B h (Sum.elim L F) w) {s b:Nat} {T:TypeId} {r:Rep α} {x:α} {us:List (Nat×Value×gQ)}
  (hk:L s=some (pJ b T r x us)):(∃ cs,w.heap[b]? = some (.cells cs.toArray T (0,0))∧r.rel h cs x∧∀ u ∈ us,cs[u.1]? = some u.2.1)∧∀ u ∈ us,u.2.2.ok h (World.mem w):=(hst.own (k:=Sum.inl s) hk).2
theorem F8 {T T':TypeId} {r:Rep α} {y:α} {ts:List pR} {s i off:Nat} (hf:bK P T i off) (ho:o.op = .fieldAddr T (.tmp s) i):dw P o N [(s,BU T' r y ts)] (rZ s off) []:=by
 intro κ B F L h a w hst hn hk _ next Q hnext _
 obtain ⟨e,_,b,us,hv,_⟩:=hk.1
 unfold Oper.oK
 have hv':a.eval (.tmp s) = .pointer (some ⟨b,0,none⟩):=hv
 have:(execOp a.eval o).run P w = .ok (.value (.pointer (some ⟨b,off,none⟩))) w:=by simp [execOp,ho,hv',hf b 0 w]
 rw [this]
 exact hnext _ h w L (lD.refl h) ⟨b,hv,rfl⟩ hst lU
theorem Oz {T T':TypeId} {r:Rep α} {ts:List pR} {s:Nat} {y:α} (t:iV P T r) (ho:o.op = .load T (.tmp s)) :
  dw P o N [(s,BU T' r y ts)] (fV r y) []:=by
 intro κ B F L h a w hst hn hk _ next Q hnext _
 obtain ⟨e,hL,b,us,hv,_,_,rfl⟩:=hk.1
 have hv':a.eval (.tmp s) = .pointer (some ⟨b,0,none⟩):=hv
 obtain ⟨⟨cs,hb,hr,_⟩,_⟩:=Gv hst hL
 obtain ⟨c,hc,hrun⟩:=zh t (Lens.refl r) hb hr
 unfold Oper.oK
 have:(execOp a.eval o).run P w = .ok (.value (pack r.agg c)) w:=by simp [execOp,ho,hv',hrun]
 rw [this]
 exact hnext _ h w L (lD.refl h) ⟨c,hc,rfl⟩ hst lU
def zL:Value:=.slice none 0 0
def wC (cs:List Value):List pR→Prop
 | []=>True
 | t :: ts=>cs[t.off]? = some zL∧wC cs ts
def Gw (ts:List pR):List (Nat×Value×gQ):=ts.map (fun t=>(t.off,zL,kM))
theorem Ie:∀ (ts:List pR),pI ts (Gw ts)
 | []=>trivial
 | _ :: ts=>⟨⟨rfl,.inl ⟨none,0,rfl,rfl⟩⟩,Ie ts⟩
theorem Ig {ts:List pR} {u:Nat×Value×gQ} (hu:u ∈ Gw ts):u.2.2=kM∧u.2.1=zL:=by
 obtain ⟨t,_,rfl⟩:=List.mem_map.1 hu;exact ⟨rfl,rfl⟩
theorem Kq (b:Nat):∀ (ts:List pR),BoxOk b (Gw ts)
 | []=>⟨List.Pairwise.nil,fun u hu=>by cases hu⟩
 | t :: ts=>⟨List.Pairwise.cons (fun l _ c hc=>by cases hc) (Kq b ts).1,fun u hu c hc=>by rw [(Ig hu).1] at hc;cases hc⟩
theorem Kr:∀ (ts:List pR),OJ (Gw ts)=[]
 | []=>rfl
 | _ :: ts=>Kr ts
theorem wC.at {cs:List Value}:∀ {ts:List pR},wC cs ts→∀ u ∈ Gw ts,cs[u.1]? = some u.2.1:=by
 intro ts
 induction ts with
 | nil=>intro _ u hu;cases hu
 | cons t ts ih =>
  intro h u hu
  rcases List.mem_cons.1 hu with rfl | hu
  ·exact h.1
  ·exact ih h.2 u hu
theorem SB {T:TypeId} {r:Rep α} {d:Nat} (ts:List pR) (t:iV P T r) (hz:wC r.zc ts) (hd:o.dst=some d) (ho:o.op = .alloc T):dw P o N [] aO.pX [(d,some (BU T r r.zero ts))]:=by
 intro κ B F L h a w hst hn _ hdn next Q hnext _
 unfold Oper.oK
 have:(execOp a.eval o).run P w = .ok (.value (.pointer (some ⟨w.heap.size,0,none⟩))) (w.alloc (.cells r.zc.toArray T)):=by
  simp [execOp,ho,Instr.alloc,t.zero,Fg (r.uy h)]
 rw [this]
 refine hnext _ h _ (set1 L d (pJ w.heap.size T r r.zero (Gw ts))) (lD.refl h) trivial (hst.y8 _ d _ ?_ ⟨⟨_,y9 _ _,r.uy h,hz.at⟩,fun u hu=>by rw [(Ig hu).1];trivial⟩) ?_
 ·intro c hc
  have:c ∈ (w.heap.size,0) :: OJ (Gw ts):=hc
  rw [Kr] at this
  simp at this;rw [this]
 rw [hd]
 exact lH ⟨_,_,fO (hdn d hd),Ie ts,Kq _ ts,rfl⟩
def apartB (off sz:Nat) (ts:List pR):Bool:=ts.all (fun t=>Nat.blt t.off off||Nat.ble (off+sz) t.off)
theorem IU {off sz:Nat} {ts:List pR} (h:apartB off sz ts=true):∀ t ∈ ts,t.off<off∨off+sz≤t.off:=by
 intro t ht
 have:=List.all_eq_true.1 h t ht
 simpa [Nat.blt_eq] using this
theorem Mc {p c c' q:List Value} {off sz i:Nat} (hp:p.length=off) (hc:c.length=sz) (hc':c'.length=sz) (h:i<off∨off+sz≤i):(p ++ c' ++ q)[i]? = (p ++ c ++ q)[i]?:=by
  rcases h with h | h
  · rw [List.append_assoc,List.append_assoc,List.getElem?_append_left (by omega),List.getElem?_append_left (by omega)]
  · rw [List.getElem?_append_right (by simp; omega), List.getElem?_append_right (by simp; omega)]
    congr 1;simp;omega
theorem Tf {h:H} {w w':World} {b:Nat} {us:List (Nat×Value×gQ)} (Ih:BoxOk b us) (hw:∀ i,i≠b→w'.heap[i]? = w.heap[i]?) (h2:∀ u ∈ us,u.2.2.ok h (World.mem w)):∀ u ∈ us,u.2.2.ok h (World.mem w') :=
 fun u hu=>u.2.2.frame (fun c hc=>hw c.1 (Ih.2 u hu c hc)) (h2 u hu)
theorem BoxOk.sub {b:Nat} {us NH:List (Nat×Value×gQ)} (h:NH.Sublist us) (hb:BoxOk b us):BoxOk b NH :=
 ⟨hb.1.sublist (h.map _),fun u hu=>hb.2 u (h.subset hu)⟩
theorem OM {us NH:List (Nat×Value×gQ)} (h:NH.Sublist us):∀ c ∈ OJ NH,c ∈ OJ us:=by
 intro c hc
 obtain ⟨u,hu,XU⟩:=List.mem_flatMap.1 hc
 exact List.mem_flatMap.2 ⟨u,h.subset hu,XU⟩
theorem Qz {T T':TypeId} {r:Rep α} {q:Rep β} {off:Nat} {y:α} {z:β} {get:α→β} {set:α→β→α} (l:Lens r q off get set) (t:iV P T q) {κ:Type} {B:Base} {F:κ→Option gQ} {L:Nat→Option gQ} {h:H} {w:World} {s b:Nat} {us NH:List (Nat×Value×gQ)}
  (hst:St B h (Sum.elim L F) w) (hL:L s=some (pJ b T' r y us)) (Ih:BoxOk b us) (hsub:NH.Sublist us) (hap:∀ u ∈ NH,u.1<off∨off+q.sz≤u.1) {c':List Value} (hc':q.rel h c' z) :
  ∃ p c q':List Value,p.length=off∧(Instr.storeAt T (.pointer (some ⟨b,off,none⟩)) (pack q.agg c')).run P w = .ok () (w.setRow b (p ++ c' ++ q').toArray)∧c.length=q.sz ∧
   (w.setRow b (p ++ c' ++ q').toArray).heap[b]? = some (.cells (p ++ c' ++ q').toArray T' (0,0))∧r.rel h (p ++ c' ++ q') (set y z)∧(∀ u ∈ NH,(p ++ c' ++ q')[u.1]? = some u.2.1) ∧
   St B h (Sum.elim (set1 L s (pJ b T' r (set y z) NH)) F) (w.setRow b (p ++ c' ++ q').toArray):=by
 obtain ⟨⟨cs,hb,hr,hu1⟩,hu2⟩:=Gv hst hL
 obtain ⟨p,c,q',rfl,hp,hc,hset⟩:=l h cs y hr
 have hrun:=ni t hc' hb (q.len hc)
 rw [hp] at hrun
 have hmem:=sW w b _ (p ++ c' ++ q').toArray T' hb
 have hrel:=hset h c' z (lD.refl h) hc'
 have hget:∀ u ∈ NH,(p ++ c' ++ q')[u.1]? = some u.2.1:=fun u hu=>by
  rw [Mc hp (q.len hc) (q.len hc') (hap u hu)];exact hu1 u (hsub.subset hu)
 obtain ⟨hcl,_⟩:=hst.own (k:=Sum.inl s) hL
 have hno:=(hcl (b,0) (by simp [pJ])).2.2
 refine ⟨p,c,q',hp,hrun,q.len hc,hmem,hrel,hget,?_⟩
 refine hst.write (Sum.inl s) (e:=pJ b T' r y us) hL (b:=b) (lo:=0) (by simp [pJ]) hmem (fun i hi=>setRow_other w b i _ hi) (by simp [World.setRow]) rfl rfl rfl ?_ qw ?_
 ·intro o' v hh;rw [hno o' (Nat.zero_le _)] at hh;cases hh
 ·intro e' he
  rw [qx he]
  refine ⟨fun c hc=>?_,⟨_,hmem,hrel,hget⟩,Tf (Ih.sub hsub) (fun i hi=>setRow_other w b i _ hi) (fun u hu=>hu2 u (hsub.subset hu))⟩
  rcases List.mem_cons.1 hc with rfl | hc
  ·exact List.mem_cons_self
  ·exact List.mem_cons_of_mem _ (OM hsub c hc)
theorem BoxOk.nil {b off:Nat} {lI nD:List (Nat×Value×gQ)} (h:BoxOk b (lI ++ nD)):BoxOk b (lI ++ (off,zL,kM) :: nD):=by
 obtain ⟨h1,h2⟩:=h
 constructor
 ·rw [List.map_append,List.pairwise_append] at h1 ⊢
  obtain ⟨k1,k2,k3⟩:=h1
  refine ⟨k1,List.Pairwise.cons (fun l _ c hc=>by cases hc) k2,fun x hx y hy=>?_⟩
  rcases List.mem_cons.1 hy with rfl | hy
  ·intro c _ c' hc';cases hc'
  ·exact k3 x hx y hy
 ·intro u hu c hc
  rcases List.mem_append.1 hu with hu | hu
  ·exact h2 u (List.mem_append_left _ hu) c hc
  ·rcases List.mem_cons.1 hu with rfl | hu
   ·cases hc
   ·exact h2 u (List.mem_append_right _ hu) c hc
theorem OO {L:Nat→Option gQ} {s d:Nat} {e1 e2:gQ} {q1 q2:gK} {a:Act} (hsd:s≠d) (h1:q1 (a.gt s) e1) (h2:q2 (a.gt d) e2):DJ L (set1 (set1 L s e1) d e2) (full [(s,some q1),(d,some q2)] (some d)) a:=by
  intro k
  have QA:Nat.beq s d=false:=by rw [Bool.eq_false_iff,Ne,kL];exact hsd
  by_cases hk:k=d
  · subst hk
    have:oz (full [(s,some q1),(k,some q2)] (some k)) k=some (some q2):=by simp [full,oz,QA,Nat.beq_refl]
    rw [this];exact ⟨e2,by simp [set1],h2⟩
  · have h3 : Nat.beq d k = false := by rw [Bool.eq_false_iff, Ne, kL]; exact fun x => hk x.symm
    by_cases hk2:k=s
    · subst hk2
      have:oz (full [(k,some q1),(d,some q2)] (some d)) k=some (some q1):=by simp [full,oz,Nat.beq_refl]
      rw [this];exact ⟨e1,by simp [set1,hk],h1⟩
    · have h4 : Nat.beq s k = false := by rw [Bool.eq_false_iff, Ne, kL]; exact fun x => hk2 x.symm
      have:oz (full [(s,some q1),(d,some q2)] (some d)) k=none:=by simp [full,oz,h3,h4]
      rw [this];simp [set1,hk,hk2]
theorem OQ {T T' E:TypeId} {r:Rep α} {q:Rep β} {l1 l2:List pR} {s d off sz:Nat} {x:Operand} {y:α} {get:α→List β} {set:α→List β→α} (l:Lens r (Rep.slice q) off get set) (t:iV P T (Rep.slice q)) (hsd:Nat.beq s d=false) (hd:o.dst=some d) (W:Wr) (ho:o.op = .load T x) (hx:Tc N x W s off) :
  dw P o N [(s,W.ap (BU T' r y (l1 ++ ⟨off,E,sz⟩ :: l2)))] (fV (Rep.slice q) (get y)) [(s,some (W.ap (BU T' r y (l1 ++ l2)))),(d,some (fH E sz))]:=by
 have hne:s≠d:=fun x=>by rw [kL.2 x] at hsd;cases hsd
 intro κ B F L h a w hst hn hk hdn next Q hnext _
 obtain ⟨b,hdv,hv⟩:=hx h a hn
 obtain ⟨e,hL,WE⟩:=hk.1
 obtain ⟨b',us,hv',hta,Ih,rfl⟩:=Wr.iff.1 WE
 have hd':W.v a s = .pointer (some ⟨b,0,none⟩):=hdv
 rw [hd'] at hv';cases hv'
 obtain ⟨lI,u0,nD,rfl,hoff,htip,h3,h4⟩:=hta.mid
 simp only [] at hoff htip
 have hsub:(lI ++ nD).Sublist (lI ++ u0 :: nD):=(List.Sublist.refl lI).append (List.sublist_cons_self _ _)
 obtain ⟨⟨cs,hb,hr,hu1⟩,hu2⟩:=Gv hst hL
 have hm0:u0 ∈ lI ++ u0 :: nD:=List.mem_append_right _ List.mem_cons_self
 obtain ⟨p,c,q',rfl,hp,hc,_⟩:=l h cs y hr
 have hcl:=(Rep.slice q).len hc
 obtain ⟨c0,rfl,hc0⟩:=hc
 have hcv:c0=u0.2.1:=by
  have:=hu1 u0 hm0
  rw [hoff,List.append_assoc,List.getElem?_append_right (by omega),hp] at this
  simpa using this
 have hrun:=rW (b:=b) (off:=off) (w:=w) t hcl (fun j v hj=>by
  rw [uQ _ _ _ _ _ _ hb]
  have hjl:=(List.getElem?_eq_some_iff.1 hj).1
  simp only [List.getElem?_toArray]
  rw [List.append_assoc,List.getElem?_append_right (by omega),← hp,Nat.add_sub_cancel_left,List.getElem?_append_left hjl];exact hj)
 unfold Oper.oK
 have:(execOp a.eval o).run P w = .ok (.value c0) w:=by
  have hrun':(Instr.loadAt T (.pointer (some ⟨b,off,none⟩))).run P w = .ok c0 w:=hrun
  simp [execOp,ho,hv,hrun']
 rw [this]
 have hpw:=Ih.1
 rw [List.map_append,List.pairwise_append] at hpw
 obtain ⟨_,k2,k3⟩:=hpw
 have k4:=List.pairwise_cons.1 k2
 have hdis:Ff ((b,0) :: OJ (lI ++ nD)) u0.2.2.claims:=by
  intro c hc c' hc'
  rcases List.mem_cons.1 hc with rfl | hc
  ·exact (Ih.2 u0 hm0 c' hc').symm
  ·obtain ⟨u,hu,XU⟩:=List.mem_flatMap.1 hc
   rcases List.mem_append.1 hu with hu | hu
   ·exact k3 _ (List.mem_map.2 ⟨u,hu,rfl⟩) _ (List.mem_cons_self) c XU c' hc'
   ·exact (k4.1 _ (List.mem_map.2 ⟨u,hu,rfl⟩) c' hc' c XU).symm
 have hst':=hst.split2 (d:=d) (e1:=pJ b T' r y (lI ++ nD)) (e2:=u0.2.2) hL hne (fun c hc=>by
   rcases List.mem_cons.1 hc with rfl | hc
   ·exact List.mem_cons_self
   ·exact List.mem_cons_of_mem _ (OM hsub c hc)) (fun c hc=>List.mem_cons_of_mem _ (List.mem_flatMap.2 ⟨u0,hm0,hc⟩)) hdis
  ⟨⟨_,hb,hr,fun u hu=>hu1 u (hsub.subset hu)⟩,fun u hu=>hu2 u (hsub.subset hu)⟩ (hu2 u0 hm0)
 refine hnext _ h w _ (lD.refl h) (jR.2 hc0) hst' ?_
 rw [hd]
 exact OO hne (Wr.iff.2 (by rw [Wr.UF hne];exact ⟨b,_,hd',h4.app h3,Ih.sub hsub,rfl⟩)) (by rw [fO (hdn d hd),hcv];exact htip)
theorem Qj {T T' E:TypeId} {r:Rep α} {q:Rep β} {l1 l2:List pR} {s d off sz:Nat} {x:Operand} {y:α} {get:α→List β} {set:α→List β→α} (l:Lens r (Rep.slice q) off get set) (t:iV P T (Rep.slice q)) (hsd:Nat.beq s d=false) (hd:o.dst=some d) (ho:o.op = .load T x) (hx:bJ N x (rZ s off)) :
  dw P o N [(s,BU T' r y (l1 ++ ⟨off,E,sz⟩ :: l2))] (fV (Rep.slice q) (get y)) [(s,some (BU T' r y (l1 ++ l2))),(d,some (fH E sz))]:=OQ l t hsd hd .slot ho (.slot hx)
theorem Ii {L:Nat→Option gQ} {s d:Nat} {e:gQ} {q:gK} {a:Act} (hsd:s≠d) (hq:q (a.gt s) e):DJ L (xq L s d e) (full [(s,some q),(d,none)] none) a:=by
  intro k
  by_cases hk:k=s
  · subst hk
    have:oz (full [(k,some q),(d,none)] none) k=some (some q):=by simp [full,oz,Nat.beq_refl]
    rw [this];exact ⟨e,by simp [xq,hsd],hq⟩
  · have h4 : Nat.beq s k = false := by rw [Bool.eq_false_iff, Ne, kL]; exact fun x => hk x.symm
    by_cases hk2:k=d
    · subst hk2
      have:oz (full [(s,some q),(k,none)] none) k=some none:=by simp [full,oz,h4,Nat.beq_refl]
      rw [this];trivial
    · have h3 : Nat.beq d k = false := by rw [Bool.eq_false_iff, Ne, kL]; exact fun x => hk2 x.symm
      have:oz (full [(s,some q),(d,none)] none) k=none:=by simp [full,oz,h3,h4]
      rw [this];simp [xq,hk,hk2]
theorem NI {T T' E:TypeId} {r:Rep α} {q:Rep β} {l1 l2:List pR} {s d off sz:Nat} {x:Operand} {y:α} {zs:List β} {get:α→List β} {set:α→List β→α} {y':α} (l:Lens r (Rep.slice q) off get set) (t:iV P T (Rep.slice q)) (hap:apartB off 1 (l1 ++ l2)=true) (hsd:Nat.beq s d=false) (hd:o.dst=none)
  (W:Wr) (ho:o.op = .store T x (.tmp d)) (hx:Tc N x W s off) (hv:bJ N (.tmp d) (fV (Rep.slice q) zs)) (hy':y'=set y zs):dw P o N [(s,W.ap (BU T' r y (l1 ++ l2))),(d,fH E sz)] aO.pX [(s,some (W.ap (BU T' r y' (l1 ++ ⟨off,E,sz⟩ :: l2)))),(d,none)]:=by
 subst hy'
 have hne:s≠d:=fun x=>by rw [kL.2 x] at hsd;cases hsd
 intro κ B F L h a w hst hn hk _ next Q hnext _
 obtain ⟨b,hdv,hxv⟩:=hx h a hn
 obtain ⟨e,hL,WE⟩:=hk.1
 obtain ⟨b',us,hv',hta,Ih,rfl⟩:=Wr.iff.1 WE
 obtain ⟨et,hLt,htip⟩:=hk.2.1
 have hLt:L d=some et:=hLt
 have htip:fH E sz (a.gt d) et:=htip
 have hd':W.v a s = .pointer (some ⟨b,0,none⟩):=hdv
 rw [hd'] at hv';cases hv'
 obtain ⟨c',hc',hvv⟩:=hv h a hn
 have hvd:a.gt d=pack (Rep.slice q).agg c':=hvv
 obtain ⟨p,c,q',hp,hrun,hcl,hmem,hrel,hget,hst'⟩:=Qz l t hst hL Ih (List.Sublist.refl us) (fun u hu=>by
  obtain ⟨t,ht,e⟩:=hta.offs u hu;rw [e];exact IU hap t ht) hc'
 obtain ⟨c0,rfl,hc0⟩:=hc'
 have hvd:a.gt d=c0:=hvd
 unfold Oper.oK
 have:(execOp a.eval o).run P w = .ok .skip (w.setRow b (p ++ [c0] ++ q').toArray):=by
  simp only [execOp,ho,hxv,hvv,Sem.run_bind,hrun,Result.andThen_ok,Sem.run_pure]
 rw [this]
 obtain ⟨lI,nD,rfl,h3,h4⟩:=hta.cut
 have hta':pI (l1 ++ ⟨off,E,sz⟩ :: l2) (lI ++ (off,c0,et) :: nD):=pI.app (l2:=⟨off,E,sz⟩ :: l2) (nD:=(off,c0,et) :: nD) ⟨⟨rfl,by rw [← hvd];exact htip⟩,h4⟩ h3
 have hLd':set1 L s (pJ b T' r (set y zs) (lI ++ nD)) d=some et:=by simp [set1,Ne.symm hne,hLt]
 have hdj:Ff ((b,0) :: OJ (lI ++ nD)) et.claims:=hst.zN (k:=Sum.inl s) (k':=Sum.inl d) hL hLt (fun x=>hne (Sum.inl.inj x))
 have YN:BoxOk b (lI ++ (off,c0,et) :: nD):=by
  obtain ⟨g1,g2⟩:=Ih
  constructor
  ·rw [List.map_append,List.pairwise_append] at g1 ⊢
   obtain ⟨k1,k2,k3⟩:=g1
   refine ⟨k1,List.Pairwise.cons (fun l hl c hc c' hc'=>?_) k2,fun x hx y hy=>?_⟩
   ·obtain ⟨u,hu,rfl⟩:=List.mem_map.1 hl
    exact (hdj c' (List.mem_cons_of_mem _ (List.mem_flatMap.2 ⟨u,List.mem_append_right _ hu,hc'⟩)) c hc).symm
   ·rcases List.mem_cons.1 hy with rfl | hy
    ·intro c hc c' hc'
     obtain ⟨u,hu,rfl⟩:=List.mem_map.1 hx
     exact hdj c (List.mem_cons_of_mem _ (List.mem_flatMap.2 ⟨u,List.mem_append_left _ hu,hc⟩)) c' hc'
    ·exact k3 x hx y hy
  ·intro u hu c hc
   rcases List.mem_append.1 hu with hu | hu
   ·exact g2 u (List.mem_append_left _ hu) c hc
   ·rcases List.mem_cons.1 hu with rfl | hu
    ·exact (hdj (b,0) List.mem_cons_self c hc).symm
    ·exact g2 u (List.mem_append_right _ hu) c hc
 obtain ⟨_,hu2⟩:=Gv hst' sZ
 have hokt:et.ok h (World.mem (w.setRow b (p ++ [c0] ++ q').toArray)):=(hst'.own (k:=Sum.inl d) hLd').2
 have hj:=hst'.xq (e:=pJ b T' r (set y zs) (lI ++ (off,c0,et) :: nD)) sZ hLd' (fun c hc=>by
  rcases List.mem_cons.1 hc with rfl | hc
  ·exact .inl List.mem_cons_self
  ·obtain ⟨u,hu,XU⟩:=List.mem_flatMap.1 hc
   rcases List.mem_append.1 hu with hu | hu
   ·exact .inl (List.mem_cons_of_mem _ (List.mem_flatMap.2 ⟨u,List.mem_append_left _ hu,XU⟩))
   ·rcases List.mem_cons.1 hu with rfl | hu
    ·exact .inr XU
    ·exact .inl (List.mem_cons_of_mem _ (List.mem_flatMap.2 ⟨u,List.mem_append_right _ hu,XU⟩))) ⟨⟨_,hmem,hrel,fun u hu=>by
   rcases List.mem_append.1 hu with hu | hu
   ·exact hget u (List.mem_append_left _ hu)
   ·rcases List.mem_cons.1 hu with rfl | hu
    ·simp only []
     rw [List.append_assoc,List.getElem?_append_right (by omega),hp];simp
    ·exact hget u (List.mem_append_right _ hu)⟩,fun u hu=>by
   rcases List.mem_append.1 hu with hu | hu
   ·exact hu2 u (List.mem_append_left _ hu)
   ·rcases List.mem_cons.1 hu with rfl | hu
    ·exact hokt
    ·exact hu2 u (List.mem_append_right _ hu)⟩
 have hL':xq (set1 L s (pJ b T' r (set y zs) (lI ++ nD))) s d (pJ b T' r (set y zs) (lI ++ (off,c0,et) :: nD))=xq L s d (pJ b T' r (set y zs) (lI ++ (off,c0,et) :: nD)):=by
  funext k;unfold xq set1
  by_cases h1:k=d
  ·rw [if_pos h1,if_pos h1]
  ·rw [if_neg h1,if_neg h1]
   by_cases h2:k=s
   ·rw [if_pos h2,if_pos h2]
   ·rw [if_neg h2,if_neg h2,if_neg h2]
 rw [hL'] at hj
 refine hnext undef h _ _ (lD.refl h) trivial hj ?_
 rw [hd]
 exact Ii hne (Wr.iff.2 ⟨b,_,hd',hta',YN,rfl⟩)
theorem Oy {T T' E:TypeId} {r:Rep α} {q:Rep β} {l1 l2:List pR} {s d off sz:Nat} {x:Operand} {y:α} {zs:List β} {get:α→List β} {set:α→List β→α} {y':α} (l:Lens r (Rep.slice q) off get set) (t:iV P T (Rep.slice q)) (hap:apartB off 1 (l1 ++ l2)=true) (hsd:Nat.beq s d=false) (hd:o.dst=none)
  (ho:o.op = .store T x (.tmp d)) (hx:bJ N x (rZ s off)) (hv:bJ N (.tmp d) (fV (Rep.slice q) zs)) (hy':y'=set y zs):dw P o N [(s,BU T' r y (l1 ++ l2)),(d,fH E sz)] aO.pX [(s,some (BU T' r y' (l1 ++ ⟨off,E,sz⟩ :: l2))),(d,none)]:=NI l t hap hsd hd .slot ho (.slot hx) hv hy'
end Go.KB
namespace Go.KB
variable {P:Program} {o:Oper} {N:List (Nat×aO)} {f:aO} {α β:Type}
def DC (P:Program) (T:TypeId) (i:Nat):Option (TypeId×Nat) :=
 match P.underlying T with
 | some (.struct fs)=>match fs[i]? with
  | some g=>some (g.type,g.offset)
  | none=>none
 | _=>none
theorem Gu {T':TypeId} {q:Rep β} (t:iV P T' q) {h:H} {p c r:List Value} {y:β} (hc:q.rel h c y) (w:World):(part T' (p ++ c ++ r).toArray p.length).run P w = .ok (pack q.agg c) w:=by
 have hl:=q.len hc
 unfold part
 cases ha:q.agg with
 | true =>
  simp only [Sem.run_bind,t.agg,ha,Result.andThen_ok,if_true,t.size,Sem.run_pure,pack,cond_true]
  congr 2
  simp only [List.extract_toArray,List.extract_eq_take_drop]
  congr 1
  rw [List.append_assoc,List.drop_left' rfl,show p.length+q.sz - p.length=c.length by omega,List.take_left' rfl]
 | false =>
  rw [q.one ha] at hl
  match c,hl with
  | [v],_ =>
   have:(p ++ [v] ++ r).toArray[p.length]? = some v:=by simp
   simp only [Sem.run_bind,t.agg,ha,Result.andThen_ok,Bool.false_eq_true,if_false,this,Sem.run_pure,pack,cond_false]
theorem SE {T T':TypeId} {r:Rep α} {q:Rep β} {x:Operand} {y:α} {i off:Nat} {get:α→β} {set:α→β→α} (l:Lens r q off get set) (hag:r.agg=true) (hf:DC P T i=some (T',off)) (t:iV P T' q) (ho:o.op = .field T x i) (hx:bJ N x (fV r y)) :
  dw P o N [] (fV q (get y)) [] :=
 dw.lX fun h a w _ n=>by
  unfold DC at hf
  split at hf
  ·rename_i fs hT
   split at hf
   ·rename_i g hg
    simp only [Option.some.injEq,Prod.mk.injEq] at hf
    obtain ⟨h1,h2⟩:=hf
    obtain ⟨cs,hr,hv⟩:=hx h a n
    obtain ⟨p,c,q',rfl,hp,hc,_⟩:=l h cs y hr
    rw [hag] at hv
    refine ⟨pack q.agg c,?_,c,hc,rfl⟩
    have:=Gu t (p:=p) (r:=q') hc w
    rw [List.append_assoc] at this
    simp [execOp,ho,hv,pack,Instr.field,run_underlying hT,hg,asAgg,h1,h2,← hp,this]
   ·cases hf
  ·cases hf
def fVN (r:Rep α) (x:α) (ts:List pR):aO:=⟨none,fun h _ v=>∃ cs,r.rel h cs x∧v=pack r.agg cs∧wC cs ts,fun hl ⟨cs,k,e,n⟩=>⟨cs,r.mono hl k,e,n⟩⟩
theorem wC.apart {p c c' q:List Value} {off sz:Nat} (hp:p.length=off) (hc:c.length=sz) (hc':c'.length=sz):∀ {ts:List pR},apartB off sz ts=true→wC (p ++ c ++ q) ts→wC (p ++ c' ++ q) ts:=by
 intro ts
 induction ts with
 | nil=>intro _ _;trivial
 | cons t ts ih =>
  intro ha hn
  have h1:=IU ha t List.mem_cons_self
  refine ⟨by rw [Mc hp hc hc' h1];exact hn.1,ih ?_ hn.2⟩
  unfold apartB at ha ⊢
  rw [List.all_cons,Bool.and_eq_true] at ha
  exact ha.2
def Kt (P:Program) (N:List (Nat×aO)) (place:Nat→Option (Nat×Nat)) {α:Type} (r:Rep α) (ts:List pR):List (Nat×Operand)→α→α→Prop
 | [],x,y=>x=y
 | (i,o) :: rest,x,y=>∃ (β:Type) (s:Rep β) (off:Nat) (get:α→β) (set:α→β→α) (z:β),Lens r s off get set∧place i=some (off,s.sz)∧apartB off s.sz ts=true∧bJ N o (fV s z)∧Kt P N place r ts rest (set x z) y
theorem Yp {place:Nat→Option (Nat×Nat)} {r:Rep α} {ts:List pR} {x:α}:Kt P N place r ts [] x x:=rfl
theorem Yo {place:Nat→Option (Nat×Nat)} {r:Rep α} {ts:List pR} {s:Rep β} {off i:Nat} {x':Operand} {get:α→β} {set:α→β→α} {z:β} {rest:List (Nat×Operand)} {x y:α} (l:Lens r s off get set) (hp:place i=some (off,s.sz)) (ha:apartB off s.sz ts=true) (ho:bJ N x' (fV s z))
  (k:Kt P N place r ts rest (set x z) y):Kt P N place r ts ((i,x') :: rest) x y:=⟨β,s,off,get,set,z,l,hp,ha,ho,k⟩
theorem Kt.run {place:Nat→Option (Nat×Nat)} {r:Rep α} {ts:List pR} {h:H} {a:Act} (n:AU N h a):∀ {parts:List (Nat×Operand)} {x y:α} {cs:List Value},Kt P N place r ts parts x y→r.rel h cs x→wC cs ts →
  ∃ cs',Instr.fill place cs.toArray (parts.map fun q=>(q.1,a.eval q.2))=some cs'.toArray∧r.rel h cs' y∧wC cs' ts:=by
 intro parts
 induction parts with
 | nil=>intro x y cs k hr ht;rw [show x=y from k] at hr;exact ⟨cs,rfl,hr,ht⟩
 | cons q rest ih =>
  obtain ⟨i,op⟩:=q
  rintro x y cs ⟨β,s,off,get,set,z,l,hp,ha,ho,k⟩ hr ht
  obtain ⟨p,c,q,rfl,hpl,hc,hset⟩:=l h cs x hr
  obtain ⟨c',hc',hv⟩:=ho h a n
  simp only [List.map_cons]
  rw [Md hc' hv hp hpl (s.len hc)]
  exact ih k (hset h c' z (lD.refl h) hc') (ht.apart hpl (s.len hc) (s.len hc') ha)
theorem SA {T:TypeId} {r:Rep α} {place:Nat→Option (Nat×Nat)} {parts:Array (Nat×Operand)} {y:α} (ts:List pR) (t:iV P T r) (hag:r.agg=true) (hpl:iW P T place) (ho:o.op = .build T parts)
  (hz:wC r.zc ts) (k:Kt P N place r ts parts.toList r.zero y):dw P o N [] (fVN r y ts) [] :=
 dw.lX fun h a w _ n=>by
  obtain ⟨cs',hf,hr,ht⟩:=k.run n (r.uy h) hz
  refine ⟨.agg cs'.toArray,?_,cs',hr,by rw [hag];rfl,ht⟩
  have h1:=hpl r.zc.toArray (parts.map fun q=>(q.1,a.eval q.2)) w cs'.toArray _ (t.zero w) (ql (r.uy h)) (by rw [Array.toList_map];exact hf)
  simp only [execOp,ho,Sem.run_bind,h1,Result.andThen_ok,Sem.run_pure]
theorem St.putT {κ:Type} {B:Base} {h:H} {L:Nat→Option gQ} {F:κ→Option gQ} {w:World} (hst:St B h (Sum.elim L F) w) {s b:Nat} {T:TypeId} {r:Rep α} {x y:α} {us:List (Nat×Value×gQ)} {cs cs':List Value} {ts:List pR}
  (hk:L s=some (pJ b T r x us)) (hb:w.heap[b]? = some (.cells cs.toArray T (0,0))) (hr:r.rel h cs' y) (ht:wC cs' ts) :
  St B h (Sum.elim (set1 L s (pJ b T r y (Gw ts))) F) (w.setRow b cs'.toArray):=by
 obtain ⟨hcl,_⟩:=hst.own (k:=Sum.inl s) hk
 have hno:=(hcl (b,0) (by simp [pJ])).2.2
 have hmem:=sW w b _ cs'.toArray T hb
 refine hst.write (Sum.inl s) (e:=pJ b T r x us) hk (b:=b) (lo:=0) (by simp [pJ]) hmem (fun i hi=>setRow_other w b i cs'.toArray hi) (by simp [World.setRow]) rfl rfl rfl ?_ qw ?_
 ·intro o' v hh
  rw [hno o' (Nat.zero_le _)] at hh;cases hh
 ·intro e' he
  rw [qx he]
  refine ⟨fun c hc=>?_,⟨cs',hmem,hr,ht.at⟩,fun u hu=>by rw [(Ig hu).1];trivial⟩
  have hc:c ∈ (b,0) :: OJ (Gw ts):=hc
  rw [Kr] at hc
  simp at hc
  subst hc
  exact List.mem_cons_self
theorem Nj {T:TypeId} {r:Rep α} {ts0 ts:List pR} {s:Nat} {v:Operand} {y z:α} (t:iV P T r) (hd:o.dst=none)
  (ho:o.op = .store T (.tmp s) v) (hv:bJ N v (fVN r z ts)):dw P o N [(s,BU T r y ts0)] aO.pX [(s,some (BU T r z ts))]:=by
 intro κ B F L h a w hst hn hk _ next Q hnext _
 obtain ⟨e,hL,b,us,hxv,_,_,rfl⟩:=hk.1
 have UG:a.eval (.tmp s) = .pointer (some ⟨b,0,none⟩):=hxv
 obtain ⟨⟨cs,hb,hr,_⟩,_⟩:=Gv hst hL
 obtain ⟨c',hc',hvv,ht⟩:=hv h a hn
 have hrun:=ni (p:=[]) (c:=cs) (q:=[]) t hc' (by simpa using hb) (r.len hr)
 unfold Oper.oK
 have:(execOp a.eval o).run P w = .ok .skip (w.setRow b c'.toArray):=by
  simp only [List.length_nil,List.nil_append,List.append_nil] at hrun
  simp only [execOp,ho,UG,hvv,Sem.run_bind,hrun,Result.andThen_ok,Sem.run_pure]
 rw [this]
 refine hnext undef h _ _ (lD.refl h) trivial (hst.putT hL hb hc' ht) ?_
 rw [hd]
 exact lH ⟨b,_,hxv,Ie ts,Kq b ts,rfl⟩
end Go.KB
namespace Go.KB
variable {P:Program} {o:Oper} {N:List (Nat×aO)} {α β:Type}
section
variable [DecidableEq α]
def Dq (z:β):List (α×β)→α→β
 | [],_=>z
 | p :: r,x=>bif decide (x=p.1) then p.2 else Dq z r x
def Ti:List (α×β)→α→Bool
 | [],_=>false
 | p :: r,x=>decide (x=p.1)||Ti r x
def Be:List (α×β)→α→β→List (α×β)
 | [],x,y=>[(x,y)]
 | p :: r,x,y=>bif decide (x=p.1) then (p.1,y) :: r else p :: Be r x y
structure EH (P:Program) (K:TypeId) (rk:Rep α) (f:α→Value):Prop where
 is:∀ {h u x},rk.val h u x→u=f x
 chk:∀ (e:Bool) (w:World) (x:α),(Instr.checkKey e 10000 K (f x)).run P w = .ok () w
 now:∃ d,P.underlying K=some d∧∀ x y,Instr.sameNow d (f x) (f y)=some (decide (x=y))
 bits:∀ x,Instr.sameBits 10000 (f x) (f x)=true
 val:∀ h x,rk.val h (f x) x
def Qr (s:Str):Value:=.string ⟨s.toArray⟩
theorem EH.str {K:TypeId} (hK:P.underlying K=some .string):EH P K Rep.str Qr where
 is:=fun e=>zf.1 e
 chk:=fun e w x=>MapKept.run_checkKey hK (by trivial) e 9999
 now:=⟨_,hK,fun x y=>by
  simp only [Instr.sameNow,Qr]
  congr 1
  rw [Bool.eq_iff_iff,MapKept.bytes_beq]
  simp⟩
 bits:=fun x=>(MapKept.bytes_beq _ _).2 rfl
 val:=fun _ _=>zf.2 rfl
def YO (k:IntKind) (n:Int):Value:=.int k n
theorem EH.int {K:TypeId} {k:IntKind} (hK:P.underlying K=some (.int k)):EH P K (Rep.int k) (YO k) where
 is:=fun e=>eG.1 e
 chk:=fun e w x=>MapKept.run_checkKey hK (by trivial) e 9999
 now:=⟨_,hK,fun x y=>by
  simp only [Instr.sameNow,YO,if_true]
  congr 1⟩
 bits:=fun x=>by simp [Instr.sameBits,YO]
 val:=fun _ _=>eG.2 rfl
end
def Bh (f:α→Value) (rv:Rep β) (h:H):List MapEntry→List (α×β)→Prop
 | [],[]=>True
 | e :: es,p :: l=>(e.key=f p.1∧rv.val h e.val p.2)∧Bh f rv h es l
 | _,_=>False
theorem Bh.mono {f:α→Value} {rv:Rep β} {h h':H} (hl:lD h h'):∀ {es:List MapEntry} {l:List (α×β)},Bh f rv h es l→Bh f rv h' es l
 | [],[],_=>trivial
 | _ :: _,_ :: _,⟨⟨a,b⟩,c⟩=>⟨⟨a,rv.OT hl b⟩,Bh.mono hl c⟩
theorem Bh.snoc {f:α→Value} {rv:Rep β} {h:H} {e:MapEntry} {p:α×β} (he:e.key=f p.1∧rv.val h e.val p.2):∀ {es:List MapEntry} {l:List (α×β)},Bh f rv h es l→Bh f rv h (es ++ [e]) (l ++ [p])
 | [],[],_=>⟨he,trivial⟩
 | _ :: _,_ :: _,⟨a,c⟩=>⟨a,Bh.snoc he c⟩
def xW (es:List MapEntry) (c:Nat):Prop:=(es.map (·.born)).Nodup∧∀ e ∈ es,e.born<c
theorem xW.push {es:List MapEntry} {c:Nat} {k v:Value} (h:xW es c):xW (es ++ [{ key:=k,val:=v,born:=c }]) (c+1):=by
 refine ⟨?_,fun e he=>?_⟩
 ·rw [List.map_append,List.nodup_append]
  refine ⟨h.1,by simp,fun a ha b hb=>?_⟩
  obtain ⟨e,he,rfl⟩:=List.mem_map.1 ha
  simp only [List.map_cons,List.map_nil,List.mem_singleton] at hb
  have:=h.2 e he
  omega
 ·rcases List.mem_append.1 he with he | he
  ·have:=h.2 e he;omega
  ·simp only [List.mem_singleton] at he;subst he;exact Nat.lt_succ_self _
theorem xW.modify {es:List MapEntry} {c j:Nat} {g:MapEntry→MapEntry} (hg:∀ e,(g e).born=e.born) (h:xW es c):xW (es.modify j g) c:=by
 have hm:(es.modify j g).map (·.born)=es.map (·.born):=by
  refine List.ext_getElem? fun m=>?_
  simp only [List.getElem?_map,List.getElem?_modify]
  cases es[m]? with
  | none=>rfl
  | some e=>simp only [Option.map_some];split <;> simp [hg]
 refine ⟨by rw [hm];exact h.1,fun e he=>?_⟩
 have:e.born ∈ (es.modify j g).map (·.born):=List.mem_map.2 ⟨e,he,rfl⟩
 rw [hm] at this
 obtain ⟨e',he',hb⟩:=List.mem_map.1 this
 rw [← hb];exact h.2 e' he'
theorem xW.eraseIdx {es:List MapEntry} {c i:Nat} (h:xW es c):xW (es.eraseIdx i) c :=
 ⟨(List.Sublist.map _ (List.eraseIdx_sublist es i)).nodup h.1,fun e he=>h.2 e ((List.eraseIdx_sublist es i).subset he)⟩
def yR (b:Nat) (f:α→Value) (rv:Rep β) (l:List (α×β)):gQ where
 claims:=[(b,0)]
 ok:=fun h m=>∃ es clock,m b=some (.map es clock)∧Bh f rv h es.toList l∧xW es.toList clock
 mono:=by rintro h h' m hl ⟨es,c,e,k⟩;exact ⟨es,c,e,k.1.mono hl,k.2⟩
 frame:=fun hm ⟨es,c,e,k⟩=>⟨es,c,by rw [hm (b,0) (by simp)];exact e,k⟩
def J4 (f:α→Value) (rv:Rep β) (l:List (α×β)):gK:=fun v e=>∃ b,v = .map (some b)∧e=yR b f rv l
theorem Qs {T:TypeId} {f:α→Value} {rv:Rep β} {d:Nat} (hd:o.dst=some d) (ho:o.op = .makeMap T none):dw P o N [] aO.pX [(d,some (J4 f rv []))]:=by
 intro κ B F L h a w hst hn _ hdn next Q hnext _
 unfold Oper.oK
 have:(execOp a.eval o).run P w = .ok (.value (.map (some w.heap.size))) (w.alloc (.map #[] 0)):=by
  have e:(Instr.makeMap T none).run P w = .ok (.map (some w.heap.size)) (w.alloc (.map #[] 0)):=rfl
  simp only [execOp,ho,Option.map_none,Sem.run_bind,e,Result.andThen_ok,Sem.run_pure]
 rw [this]
 refine hnext _ h _ (set1 L d (yR w.heap.size f rv [])) (lD.refl h) trivial (hst.y8 _ d _ (by simp [yR]) ⟨#[],0,y9 _ _,trivial,by simp [xW]⟩) ?_
 rw [hd]
 exact lH ⟨_,fO (hdn d hd),rfl⟩
theorem YP {κ:Type} {B:Base} {h:H} {L:Nat→Option gQ} {F:κ→Option gQ} {w:World} (hst:St B h (Sum.elim L F) w) {s b:Nat} {f:α→Value} {rv:Rep β} {l:List (α×β)}
  (hk:L s=some (yR b f rv l)):∃ es clock,w.heap[b]? = some (.map es clock)∧Bh f rv h es.toList l :=
 let ⟨es,c,h1,h2,_⟩:=(hst.own (k:=Sum.inl s) hk).2
 ⟨es,c,h1,h2⟩
theorem WG {κ:Type} {B:Base} {h:H} {L:Nat→Option gQ} {F:κ→Option gQ} {w:World} (hst:St B h (Sum.elim L F) w) {s b:Nat} {f:α→Value} {rv:Rep β} {l:List (α×β)}
  (hk:L s=some (yR b f rv l)):∃ es clock,w.heap[b]? = some (.map es clock)∧Bh f rv h es.toList l∧xW es.toList clock:=(hst.own (k:=Sum.inl s) hk).2
section
variable [DecidableEq α]
theorem Ku {f:α→Value} {rv:Rep β} {h:H} {d:TypeDesc} (hd:∀ x y,Instr.sameNow d (f x) (f y)=some (decide (x=y))) (x:α):∀ {es:List MapEntry} {l:List (α×β)} (n:Nat),Bh f rv h es l →
    (Instr.findNow d (f x) es n=some none∧Ti l x=false∧(∀ z,Dq z l x=z)∧∀ y,Be l x y=l ++ [(x,y)]) ∨
    ∃ i e0,Instr.findNow d (f x) es n=some (some (n+i,e0.val))∧es[i]? = some e0∧e0.key=f x∧Ti l x=true∧(∀ z,rv.val h e0.val (Dq z l x)) ∧
      ∀ g y,(∀ e,(g e).key=e.key)→(∀ e,rv.val h (g e).val y)→Bh f rv h (es.modify i g) (Be l x y)
  | [],[],_,_=>.inl ⟨rfl,rfl,fun _=>rfl,fun _=>rfl⟩
  | e :: es,p :: l,n,⟨⟨hk,hv⟩,hr⟩=>by
    by_cases hx:x=p.1
    · refine .inr ⟨0, e, ?_, rfl, by rw [hk, hx], by simp [Ti, hx], fun z => by simpa [Dq, hx] using hv, fun g y hg hy => ?_⟩
      · simp only [Instr.findNow,hk,hd,hx,decide_true];rfl
      · simp only [List.modify_zero_cons,Be,hx,decide_true,cond_true]
        exact ⟨⟨by rw [hg,hk],hy e⟩,hr⟩
    · have hn:∀ r,Instr.findNow d (f x) es (n+1)=r→Instr.findNow d (f x) (e :: es) n=r:=fun r h=>by
        simp only [Instr.findNow,hk,hd]
        rw [show decide (x=p.1)=false from decide_eq_false hx];exact h
      rcases Ku hd x (n+1) hr with ⟨h1,h2,h3,h4⟩ | ⟨i,e0,h1,h2,h3,h4,h5,h6⟩
      · refine .inl ⟨hn _ h1,by simp [Ti,hx,h2],fun z=>by simp [Dq,hx,h3],fun y=>by simp [Be,hx,h4]⟩
      · refine .inr ⟨i + 1, e0, hn _ (by rw [h1]; congr 3; omega), by simpa using h2, h3, by simp [Ti, h4], fun z => by simpa [Dq, hx] using h5 z, fun g y hg hy => ?_⟩
        simp only [List.modify_succ_cons,Be,hx,decide_false,cond_false]
        exact ⟨⟨hk,hv⟩,h6 g y hg hy⟩

theorem run_findKey {K:TypeId} {d:TypeDesc} {u:Value} {es:List MapEntry} {r:Option (Nat×Value)} {w:World} (hd:P.underlying K=some d) (h:Instr.findNow d u es 0=some r):(Instr.findKey K u es).run P w = .ok r w:=by
 unfold Instr.findKey
 simp only [Sem.run_bind,run_underlying hd,Result.andThen_ok,h,Sem.run_pure]
end
section
variable [DecidableEq α]
theorem QB {T K E:TypeId} {rk:Rep α} {f:α→Value} {rv:Rep β} {s:Nat} {x i:Operand} {l:List (α×β)} {y:α} (hf:EH P K rk f) (t:iV P E rv) (hT:P.underlying T=some (.map K E))
  (W:Wr) (ho:o.op = .lookup T x i false) (hx:S9 N x W s) (hi:bJ N i (fV rk y)):dw P o N [(s,W.ap (J4 f rv l))] (fV rv (Dq rv.zero l y)) []:=by
 intro κ B F L h a w hst hn hk _ next Q hnext _
 obtain ⟨e,hL,hq⟩:=hk.1
 obtain ⟨b,hv,rfl⟩:=Wr.iff.1 hq
 have hx':a.eval x = .map (some b):=(hx h a hn).trans hv
 have hi':=hf.is (hi h a hn)
 obtain ⟨es,clock,hb,hr⟩:=YP hst hL
 obtain ⟨d,hd,YQ⟩:=hf.now
 rcases Ku YQ y 0 hr with ⟨h1,_,h3,_⟩ | ⟨j,e0,h1,_,_,_,h5,_⟩
 ·have:(execOp a.eval o).run P w = .ok (.value (pack rv.agg rv.zc)) w:=by
   simp [execOp,ho,hx',hi',Instr.lookup,run_underlying hT,MapKept.run_getObj_map hb,hf.chk,run_findKey hd h1,t.zero]
  unfold Oper.oK
  rw [this]
  exact hnext _ h w L (lD.refl h) ⟨rv.zc,by rw [h3];exact rv.uy h,rfl⟩ hst lU
 ·have:(execOp a.eval o).run P w = .ok (.value e0.val) w:=by
   simp [execOp,ho,hx',hi',Instr.lookup,run_underlying hT,MapKept.run_getObj_map hb,hf.chk,run_findKey hd h1]
  unfold Oper.oK
  rw [this]
  exact hnext _ h w L (lD.refl h) (h5 _) hst lU
theorem SH {T K E:TypeId} {rk:Rep α} {f:α→Value} {rv:Rep β} {s:Nat} {x i:Operand} {l:List (α×β)} {y:α} (hf:EH P K rk f) (t:iV P E rv) (hT:P.underlying T=some (.map K E))
  (ho:o.op = .lookup T x i false) (hx:bJ N x (Ls s)) (hi:bJ N i (fV rk y)):dw P o N [(s,J4 f rv l)] (fV rv (Dq rv.zero l y)) []:=QB hf t hT .slot ho (.slot hx) hi
theorem run_keyThatStays {u:Value} {w:World} (h:Instr.sameBits 10000 u u=true):(Instr.keyThatStays u u).run P w = .ok u w:=by
 unfold Instr.keyThatStays
 rw [if_pos h];rfl
def zi (w:World) (b:Nat) (o:Obj):World:={ w with heap:=w.heap.setIfInBounds b o }
theorem QC {w:World} {b:Nat} {o o':Obj} (hb:w.heap[b]? = some o):(zi w b o').heap[b]? = some o':=by
 have:=(Array.getElem?_eq_some_iff.1 hb).1
 simp [zi,this]
theorem QD {w:World} {b i:Nat} {o':Obj} (hi:i≠b):(zi w b o').heap[i]? = w.heap[i]?:=by
 simp [zi,Ne.symm hi]
theorem Lu {T K E:TypeId} {rk:Rep α} {f:α→Value} {rv:Rep β} {s:Nat} {x i v:Operand} {l:List (α×β)} {y:α} {z:β} (hf:EH P K rk f) (hT:P.underlying T=some (.map K E)) (hd:o.dst=none)
    (W:Wr) (ho:o.op = .mapUpdate T x i v∨o.op = .insert T x i v) (hx:S9 N x W s) (hi:bJ N i (fV rk y)) (hv:bJ N v (fV rv z)):dw P o N [(s,W.ap (J4 f rv l))] aO.pX [(s,some (W.ap (J4 f rv (Be l y z))))]:=by
  intro κ B F L h a w hst hn hk _ next Q hnext _
  obtain ⟨e,hL,hq⟩:=hk.1
  obtain ⟨b,hvb,rfl⟩:=Wr.iff.1 hq
  have hx':a.eval x = .map (some b):=(hx h a hn).trans hvb
  have hi':=hf.is (hi h a hn)
  have hv':=hv h a hn
  obtain ⟨es,clock,hb,hr,hB⟩:=WG hst hL
  obtain ⟨d,hdd,YQ⟩:=hf.now
  have fin:∀ es' clock',Bh f rv h es'.toList (Be l y z)→xW es'.toList clock'→(execOp a.eval o).run P w = .ok .skip (zi w b (.map es' clock'))→o.oK P a w next Q:=by
    intro es' clock' hrel hbn hrun
    unfold Oper.oK
    rw [hrun]
    refine hnext undef h _ (set1 L s (yR b f rv (Be l y z))) (lD.refl h) trivial ?_ ?_
    · obtain ⟨hcl,_⟩:=hst.own (k:=Sum.inl s) hL
      have hno:=(hcl (b,0) (by simp [yR])).2.2
      have hlt:=(hcl (b,0) (by simp [yR])).2.1
      refine hst.step (hnf:=hst.YR (k:=Sum.inl s) hL (by simp [yR])) (Sum.inl s) (fun i=>i=b) (fun i hi _=>⟨_,hL,(b,0),by simp [yR],hi.symm⟩) (by simp [zi]) rfl rfl rfl (fun i _ hi=>QD hi) (lD.refl h) (fun _ _ _ _=>rfl) ?_ qw ?_
      · rintro i o' u (rfl | hi) hu
        · rw [hno o' (Nat.zero_le _)] at hu;cases hu
        · rw [hst.fresh hi] at hu;cases hu
      · intro e' he
        rw [qx he]
        refine ⟨fun c hc=>?_,es',clock',QC hb,hrel,hbn⟩
        simp only [yR,List.mem_singleton] at hc
        subst hc
        exact ⟨.inr ⟨_,hL,(b,0),by simp [yR],rfl⟩,by simpa [zi] using hlt,fun o' _=>hno o' (Nat.zero_le _)⟩
    · rw [hd]
      exact lH (Wr.iff.2 ⟨b,hvb,rfl⟩)
  rcases Ku YQ y 0 hr with ⟨h1,_,_,h4⟩ | ⟨j,e0,h1,h2,h3,_,_,h6⟩
  · refine fin (es.push { key := f y, val := a.eval v, born := clock }) (clock + 1) ?_ (by rw [Array.toList_push]; exact hB.push) ?_
    · rw [h4,Array.toList_push]
      exact Bh.snoc (e:=⟨f y,a.eval v,clock⟩) (p:=(y,z)) ⟨rfl,hv'⟩ hr
    · rcases ho with ho | ho <;> simp [execOp,ho,hx',hi',Instr.mapUpdate,run_underlying hT,MapKept.run_getObj_map hb,hf.chk,run_findKey hdd h1,MapKept.run_setObj_map _ hb,zi]
  · have h2' : es[j]? = some e0 := by simpa using h2
    refine fin (es.modify j fun e=>{ e with key:=f y,val:=a.eval v }) clock ?_ (by rw [Array.toList_modify];exact hB.modify (fun _=>rfl)) ?_
    · have hkey:es.toList.modify j (fun e=>{ e with key:=f y,val:=a.eval v })=es.toList.modify j (fun e=>{ e with val:=a.eval v }):=by
        refine List.ext_getElem? fun m=>?_
        simp only [List.getElem?_modify]
        by_cases hm:j=m
        · subst hm;simp [h2',← h3]
        · simp [hm]
      rw [Array.toList_modify,hkey]
      exact h6 _ z (fun _=>rfl) (fun _=>hv')
    · rcases ho with ho | ho <;> simp [execOp,ho,hx',hi',Instr.mapUpdate,run_underlying hT,MapKept.run_getObj_map hb,hf.chk,run_findKey hdd h1,h2',h3,run_keyThatStays (hf.bits y),MapKept.run_setObj_map _ hb,zi]
theorem Ny {T K E:TypeId} {rk:Rep α} {f:α→Value} {rv:Rep β} {s:Nat} {x i v:Operand} {l:List (α×β)} {y:α} {z:β} (hf:EH P K rk f) (hT:P.underlying T=some (.map K E)) (hd:o.dst=none)
  (ho:o.op = .mapUpdate T x i v∨o.op = .insert T x i v) (hx:bJ N x (Ls s)) (hi:bJ N i (fV rk y)) (hv:bJ N v (fV rv z)):dw P o N [(s,J4 f rv l)] aO.pX [(s,some (J4 f rv (Be l y z)))]:=Lu hf hT hd .slot ho (.slot hx) hi hv
end
end Go.KB
namespace Go.KB
variable {P:Program} {o:Oper} {N:List (Nat×aO)} {α β:Type}
theorem YB {ρ:Option Nat} {Q:Exit→Act→World→Prop} {x y:Code} {a:Act} {w:World} (h:y.oK ρ P Q a w):(Code.cond (.const (.bool false)) x y).oK ρ P Q a w :=
 wp_cond_split (t:=false) rfl (fun e=>by cases e) (fun _=>h)
end Go.KB
namespace Go.KB
variable {P:Program} {o:Oper} {N:List (Nat×aO)} {α β:Type}
def Gj (P:Program) (f:FuncId) (args:List aO) (i:Nat) (q q':gK) (post:aO):Prop :=
 ∀ (κ:Type) (B:Base) (L:κ→Option gQ) (h:H) (w:World) (vs:List Value) (x:gQ) (v:Value),St B h (Sum.elim (fun _:Unit=>some x) L) w→args.length=vs.length→vs[i]? = some v→q v x →
  (∀ (j:Nat) (g:aO) (u:Value),args[j]? = some g→vs[j]? = some u→g.p h undef u) →
  Calls P f vs.toArray w (fun e w'=>∃ u h' x',e = .returned u∧lD h h'∧St B h' (Sum.elim (fun _:Unit=>some x') L) w'∧post.p h' undef u∧q' u x')
theorem Hq {n:Nat} {f:FuncId} {fn:Func} {c:Code} {args:List aO} {i:Nat} {q q':gK} {post:aO} (hf:P.funcs[f]? = some fn) (hb:fn.body=some c) (hn:fn.ntmps=n) (rV:(Nat.ble args.length n&&mM args)=true)
  (hwp:∀ (κ:Type) (B:Base) (h0:H) (F:κ→Option gQ) (a:Act) (w:World),At B h0 (Qy (Ci 0 args)) (NF [(i,q)]) F n a w→c.oK none P (Gx P fn B h0 F q' post) a w):Gj P f args i q q' post:=by
 intro κ B L h w vs x v hst hl YS hq hargs
 rw [Bool.and_eq_true,Nat.ble_eq] at rV
 obtain ⟨hlen,hdp⟩:=rV
 have yI:=jI hdp
 have hget:∀ (j:Nat) u,vs[j]? = some u→Act.gt { tmps:=vs.toArray ++ Array.replicate (fn.ntmps - vs.toArray.size) undef,defers:=[] } j=u:=by
  intro j u hu
  have hj:=(List.getElem?_eq_some_iff.1 hu).1
  simp only [Act.gt,Array.getD_eq_getD_getElem?]
  rw [Array.getElem?_append_left (by simpa using hj)]
  simp [hu]
 refine xk rfl hf hb (hwp _ B.e h L _ w ⟨h,_,lD.refl h,(hst.enter i).toE,?_,?_,?_,rfl⟩) (fun _ _ ⟨v,h',x,he,hl,hs,hp⟩=>⟨v,h',x,he,hl,hs.ofE,hp⟩)
 ·intro s q1 hs
  simp only [NF,lkO] at hs
  cases hk:Nat.beq i s with
  | true =>
   rw [hk] at hs;cases hs
   rw [kL] at hk;subst hk
   exact ⟨x,by simp,by rw [hget _ _ YS];exact hq⟩
  | false=>rw [hk] at hs;cases hs
 ·intro s
  rcases Bg args 0 s with h1 | ⟨j,g,h1,h2,h3⟩
  ·show (L6 (Ci 0 args) s).at _ _ _;rw [h1];exact trivial
  ·show (L6 (Ci 0 args) s).at _ _ _;rw [h3]
   have hj:=(List.getElem?_eq_some_iff.1 h1).1
   have hv:vs[j]? = some vs[j]:=List.getElem?_eq_getElem (by omega)
   have:=hargs j g _ h1 hv
   unfold aO.at aO.dv
   rw [yI g (List.mem_of_getElem? h1),h2,Nat.zero_add,hget _ _ hv]
   exact this
 ·simp;omega
theorem L9 {s d i:Nat} {q q' Q:gK} {f:FuncId} {fn:Func} {args:List aO} {post:aO} {xs:Array Operand} {ts:Array TypeId} {y:Operand}
    (hc:Gj P f args i q q' post) (hf:P.funcs[f]? = some fn) (hbd:qm fn=true) (hd:mM (post :: args)=true) (hsd:Nat.beq s d=false) (hdst:o.dst=some d)
    (ho:o.op = .call { callee:=.value (.func f),args:=xs,argTypes:=ts }) (hy:xs.toList[i]? = some y) (hyx:∀ h a e,AU N h a→Q (a.gt s) e→q (a.eval y) e) (hargs:qA N args xs.toList):dw P o N [(s,Q)] post [(s,none),(d,some q')]:=by
  intro κ B F L h a w hst hn hk hdn next Q hnext _
  obtain ⟨e,hL,hq⟩:=hk.1
  have hL:L s=some e:=hL
  have hq:q (a.eval y) e:=hyx h a e hn hq
  simp only [qm,Bool.and_eq_true,Bool.not_eq_true'] at hbd
  have hbody:fn.body≠none:=by
    intro hx;rw [hx] at hbd;cases hbd.1
  have hname:fn.name ≠ "runtime.NumGoroutine":=by simpa using hbd.2
  have hdp:=jI hd
  have hne:s≠d:=fun x=>by rw [kL.2 x] at hsd;cases hsd
  obtain ⟨hlen,hall⟩:=hargs.spec
  unfold Oper.oK
  have:(execOp a.eval o).run P w = .ok (.enter f (xs.toList.map a.eval).toArray) w:=by
    have e:(xs.toList.map a.eval).toArray=xs.map a.eval:=by apply Array.ext';simp
    rw [e]
    simp [execOp,ho,resolve,Act.eval,Deferred.ofValue,invoke,callFunc,hf,hname,hbody]
  rw [this,zu]
  have hst1:St B h (Sum.elim (set1 L s e) F) w:=by rw [zq hL];exact hst
  refine (hc _ B _ h w (xs.toList.map a.eval) e (a.eval y) hst1.out (by rw [List.length_map];exact hlen) (by rw [List.getElem?_map,hy];rfl) hq ?_).mono ?_
  · intro j g v hg hv
    rw [List.getElem?_map] at hv
    cases hx:xs.toList[j]? with
    | none=>rw [hx] at hv;cases hv
    | some x =>
      rw [hx] at hv;cases hv
      have:=hall j g x hg hx h a hn
      unfold aO.dv at this
      rw [hdp g (List.mem_cons_of_mem _ (List.mem_of_getElem? hg))] at this
      exact this
  · rintro e' w' ⟨v,h',x',rfl,hl,hst',hp,hq'⟩
    refine hnext v h' w' (set1 (fun k=>if k=s then none else L k) d x') hl ?_ ?_ ?_
    · unfold aO.dv
      rw [hdp post List.mem_cons_self]
      exact hp
    · generalize (fun k => if k = s then none else L k) = L0 at hst'
      refine hst'.Dc (fun k=>match k with | .inl k=>if k=d then .inl () else .inr (.inl k) | .inr k=>.inr (.inr k)) ?_ ?_
      · intro k e hk
        cases k with
        | inr k=>exact hk
        | inl k =>
          by_cases hkd:k=d
          · subst hkd;simp [set1] at hk;simp [hk]
          · simp [set1,hkd] at hk;simp [hkd,hk]
      · intro k k' e1 e2 h1 h2 hne
        cases k with
        | inr k=>cases k' with
          | inr k'=>intro he;exact hne (by rw [Sum.inr.inj (Sum.inr.inj he)])
          | inl k'=>intro he;simp only [] at he;split at he <;> cases he
        | inl k=>cases k' with
          | inr k'=>intro he;simp only [] at he;split at he <;> cases he
          | inl k' =>
            have hne':k≠k':=fun x=>hne (by rw [x])
            simp only []
            intro he
            split at he <;> split at he
            · rename_i h3 h4;exact hne' (h3.trans h4.symm)
            · cases he
            · cases he
            · exact hne' (Sum.inl.inj (Sum.inr.inj he))
    · rw [hdst]
      intro k
      have QA:Nat.beq s d=false:=hsd
      by_cases hk:k=d
      · subst hk
        have:oz (full [(s,none),(k,some q')] (some k)) k=some (some q'):=by simp [full,oz,QA,Nat.beq_refl]
        rw [this];exact ⟨x',by simp [set1],by rw [fO (hdn k hdst)];exact hq'⟩
      · by_cases hks : k = s
        · subst hks
          have:oz (full [(k,none),(d,some q')] (some d)) k=some none:=by simp [full,oz,Nat.beq_refl]
          rw [this];trivial
        · have h1 : Nat.beq s k = false := by rw [Bool.eq_false_iff, Ne, kL]; exact fun x => hks x.symm
          have h2:Nat.beq d k=false:=by rw [Bool.eq_false_iff,Ne,kL];exact fun x=>hk x.symm
          have:oz (full [(s,none),(d,some q')] (some d)) k=none:=by simp [full,oz,h1,h2]
          rw [this];simp [set1,hk,hks]
theorem Gl {s d i:Nat} {q q':gK} {f:FuncId} {fn:Func} {args:List aO} {post:aO} {xs:Array Operand} {ts:Array TypeId} {y:Operand}
  (hc:Gj P f args i q q' post) (hf:P.funcs[f]? = some fn) (hbd:qm fn=true) (hd:mM (post :: args)=true) (hsd:Nat.beq s d=false) (hdst:o.dst=some d)
  (ho:o.op = .call { callee:=.value (.func f),args:=xs,argTypes:=ts }) (hy:xs.toList[i]? = some y) (hyx:bJ N y (Ls s)) (hargs:qA N args xs.toList):dw P o N [(s,q)] post [(s,none),(d,some q')] :=
 L9 hc hf hbd hd hsd hdst ho hy (fun h a e n k=>by rw [show a.eval y=a.gt s from hyx h a n];exact k) hargs
theorem qB {s i:Nat} {ι:Type} {q0 q0':gK} {q q':ι→gK} {fx:aO} {f:FuncId} {fn:Func} {args:List aO} {post:aO} {xs:Array Operand} {ts:Array TypeId} {y:Operand}
  (hc:∀ k,CW P f args i (q k) (q' k) post) (hb:qR s fx q0 q0' q q') (hfx:fx.dep=some s) (hf:P.funcs[f]? = some fn) (hbd:qm fn=true) (hd:mM (post :: args)=true) (hds:UH o.dst s=true)
  (ho:o.op = .call { callee:=.value (.func f),args:=xs,argTypes:=ts }) (hy:xs.toList[i]? = some y) (hyx:bJ N y fx) (hargs:qA N args xs.toList):dw P o N [(s,q0)] aO.pX [(s,some q0')] :=
 dw.out (jI hd post List.mem_cons_self) (fun _ _ _ _=>trivial) (Ov hc hb hfx hf hbd hd hds ho hy hyx hargs)
end Go.KB
namespace Go.KB
variable {P:Program} {o:Oper} {N:List (Nat×aO)} {α β:Type}
theorem Kv (z:Array Value) (n:Nat):(Builtin.zeroCells z (n+1)).toList=z.toList ++ (Builtin.zeroCells z n).toList:=by
  unfold Builtin.zeroCells
  simp only [Array.toList_map,Array.toList_range]
  rw [show (n+1) * z.size=z.size+n * z.size by rw [Nat.add_mul];omega,List.range_add,List.map_append,List.map_map]
  congr 1
  · refine List.ext_getElem (by simp) fun i h1 h2 => ?_
    have hi:i<z.size:=by simpa using h2
    simp [Nat.mod_eq_of_lt hi,hi]
  · refine List.map_congr_left fun i _ => ?_
    simp
theorem DI (z:List Value):∀ n,(Builtin.zeroCells z.toArray n).toList=(List.replicate n z).flatten
 | 0=>by simp [Builtin.zeroCells]
 | n+1=>by rw [Kv,DI z n,List.replicate_succ,List.flatten_cons]
end Go.KB
namespace Go.KB
section
variable {P:Program} {o:Oper} {N:List (Nat×aO)} {α:Type}
theorem aT {T:TypeId} {r:Rep α} {s:Nat} {y:α} (t:iV P T r) (ho:o.op = .load T (.tmp s)):dw P o ((s,bT r y) :: N) [] (fV r y) []:=fD t ho aj
theorem bI {β:Type} {T:TypeId} {r:Rep α} {q:Rep β} {s:Nat} {y:α} {i off:Nat} {get:α→β} {set:α→β→α} (l:Lens r q off get set) (hf:bK P T i off) (ho:o.op = .fieldAddr T (.tmp s) i):dw P o ((s,bT r y) :: N) [] (bT q (get y)) []:=dU l hf ho aj
theorem iJ {T:TypeId} {r:Rep α} {s v:Nat} {y z:α} (t:iV P T r) (ho:o.op = .store T (.tmp s) (.tmp v)) (hd:o.dst=none:=by rfl):dw P o ((v,fV r z) :: N) [(s,dM T r y)] aO.pX [(s,some (dM T r z))]:=OU t hd ho aj
def UI:BinOp→Bool
 | .eql | .neq | .lss | .leq | .gtr | .geq=>true
 | _=>false
theorem Kw {op:BinOp} (h:UI op=true):op = .eql∨op = .neq∨op = .lss∨op = .leq∨op = .gtr∨op = .geq:=by
 cases op <;> first | (cases h;done) | simp
theorem eY {op:BinOp} {k:IntKind} {T T':TypeId} {s:Nat} {m n:Int} (ho:o.op = .binOp op T (.tmp s) (.const (.int k n)) T') (hop:UI op=true:=by rfl):dw P o ((s,fV (Rep.int k) m) :: N) [] (fV Rep.bool (aB op m n)) []:=dP (Kw hop) rfl ho aj aJ
theorem gy {op:BinOp} {k:IntKind} {T T':TypeId} {s t:Nat} {m n:Int} (ho:o.op = .binOp op T (.tmp s) (.tmp t) T') (hop:UI op=true:=by rfl):dw P o ((s,fV (Rep.int k) m) :: (t,fV (Rep.int k) n) :: N) [] (fV Rep.bool (aB op m n)) []:=dP (Kw hop) rfl ho aj ax
theorem bH {α β γ:Type} {x:Option α} {f:α→Option β} {g:α→β→Option γ} {r:γ} (h:(x.bind fun a=>(f a).bind (g a))=some r):∃ a,x=some a∧∃ b,f a=some b∧g a b=some r:=by
 obtain ⟨a,h1,h⟩:=aK h
 obtain ⟨b,h2,h⟩:=aK h
 exact ⟨a,h1,b,h2,h⟩
theorem tn {K:Act→World→Prop} {Q:Exit→Act→World→Prop} {a:Act} {w:World} (h:K a w):Exit.then K Q .normal a w:=h
theorem tr {K:Act→World→Prop} {Q:Exit→Act→World→Prop} {a:Act} {w:World} (h:Q .ret a w):Exit.then K Q .ret a w:=h
theorem ws {ρ:Option Nat} {Q:Exit→Act→World→Prop} {a:Act} {w:World} {x y:Code} (h:x.oK ρ P (Exit.then (y.oK ρ P Q) Q) a w):(Code.seq x y).oK ρ P Q a w:=wp_seq h
theorem wk {ρ:Option Nat} {Q:Exit→Act→World→Prop} {a:Act} {w:World} (h:Q .normal a w):Code.skip.oK ρ P Q a w:=wp_skip h
theorem wr {ρ:Option Nat} {Q:Exit→Act→World→Prop} {a:Act} {w:World} (h:Q .ret a w):Code.ret.oK ρ P Q a w:=wp_ret h
abbrev ln {α:Type} (l:List α):Int:=(List.length l:Int)
abbrev w3:Int→Int:=IntKind.u32.wrap
abbrev w6:Int→Int:=IntKind.u64.wrap
abbrev w1:Int→Int:=IntKind.u16.wrap
abbrev lS {α:Type} (r:Rep α):Rep (List α):=Rep.slice r
theorem OV {L:Nat→Option gQ} {s:Nat} {d:Option Nat} {a:Act}:DJ L (fun k=>if k=s then none else L k) (full [(s,none)] d) a:=by
  intro k
  by_cases hk:k=s
  · subst hk
    have:oz (full [(k,none)] d) k=some none:=by simp [full,oz,Nat.beq_refl]
    rw [this];trivial
  · have h1 : Nat.beq s k = false := by rw [Bool.eq_false_iff, Ne, kL]; exact fun x => hk x.symm
    cases d with
    | none =>
      have:oz (full [(s,none)] none) k=none:=by simp [full,oz,h1]
      rw [this];simp [hk]
    | some d =>
      cases h2:Nat.beq d k with
      | true =>
        have:oz (full [(s,none)] (some d)) k=some none:=by simp [full,oz,h1,h2]
        rw [this];trivial
      | false =>
        have:oz (full [(s,none)] (some d)) k=none:=by simp [full,oz,h1,h2]
        rw [this];simp [hk]
theorem SG {T E:TypeId} {r:Rep α} {m:Nat} {k:IntKind} {x i:Operand} {xs:List α} {n:Int} {y:α} (hq:idx xs n=some y) (t:iV P E r) (hT:P.underlying T=some (.array m E)) (ho:o.op = .index T x i) (hx:bJ N x (fV (Rep.arr r m) xs)) (hi:bJ N i (fV (Rep.int k) n)) :
  dw P o N [] (fV r y) [] :=
 dw.lX fun h a w _ q=>by
  obtain ⟨h0,hlt,hy⟩:=cZ hq
  obtain ⟨cs,⟨hlen,hr⟩,hv⟩:=hx h a q
  obtain ⟨p,c,q',rfl,hp,hc,_⟩:=hr.get hy
  refine ⟨pack r.agg c,?_,c,hc,rfl⟩
  have h1:0≤n∧n<(m:Int):=by omega
  have hv':a.eval x = .agg (p ++ c ++ q').toArray:=hv
  have hrun:=Gu t (p:=p) (r:=q') hc w
  rw [hp] at hrun
  simp only [execOp,ho,hv',eG.1 (hi h a q),Instr.index,asIntOf,Sem.run_bind,Sem.run_pure,Result.andThen_ok,run_underlying hT,h1,and_self,if_true,t.size]
  rw [hrun]
  rfl
end
end Go.KB
