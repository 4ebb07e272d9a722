/- The logic of this seat's proofs: what is known of memory. Facts on the slots of a frame, operations, regions in any order, loops, calls. How plain data lie in slots and cells. The operations, one rule each. The operations that look into memory, write it or make it. Rows of elements: slices that are built, grown, made and written; structs that are built. No condition. -/
import Derived.Calls
import Derived.Orders
import Derived.Below
import Derived.KernelRfl
import Derived.Test.YtdmioehoinnamaaGreatDoorKGlob
import Derived.OrdersIn
import Derived.RangeFuncCalls
import Derived.Laws.CopyRow
import Derived.Deep.MidRow
import GoSem.ClaimData
import Derived.WalkArith
import Derived.WideLaws
import Derived.Laws.AppendOwn
namespace Go.KB
structure H where
 f:Nat→Nat→Option Value
 n:Nat
instance:CoeFun H (fun _=>Nat→Nat→Option Value):=⟨H.f⟩
structure nI (h h':H):Prop where
 le:∀ b o v,h b o=some v→h' b o=some v
 n:h'.n=h.n
instance {h h':H}:CoeFun (nI h h') (fun _=>∀ b o v,h b o=some v→h' b o=some v):=⟨nI.le⟩
theorem nI.refl (h:H):nI h h:=⟨fun _ _ _ x=>x,rfl⟩
theorem nI.trans {a b c:H} (x:nI a b) (y:nI b c):nI a c:=⟨fun _ _ _ k=>y _ _ _ (x _ _ _ k),y.n.trans x.n⟩
structure gq where
 claims:List (Nat×Nat)
 ok:H→(Nat→Option Obj)→Prop
 mono:∀ {h h' m},nI h h'→ok h m→ok h' m
 frame:∀ {h m m'},(∀ c ∈ claims,m' c.1=m c.1)→ok h m→ok h m'
structure Base where
 n:Nat
 w:World
 df:List Deferred
 ok:gN≤n∧gP fun b=>w.heap[b]?
def Base.e (B:Base):Base:=⟨B.n,B.w,[],B.ok⟩
def Base.d (B:Base) (d:Deferred):Base:=⟨B.n,B.w,d :: B.df,B.ok⟩
def World.mem (w:World):Nat→Option Obj:=fun b=>w.heap[b]?
structure DV (B:Nat) (w w':World):Prop where
 os:w'.os=w.os
 tape:w'.tape=w.tape
 output:w'.output=w.output
 size:w.heap.size≤w'.heap.size
 block:∀ k,k<B→w'.heap[k]? = w.heap[k]?
 drawn:dOn→w.drawn≤w'.drawn
theorem DV.refl (B:Nat) (w:World):DV B w w:=⟨rfl,rfl,rfl,Nat.le_refl _,fun _ _=>rfl,fun _=>Nat.le_refl _⟩
theorem DV.trans {B:Nat} {a b c:World} (h:DV B a b) (k:DV B b c):DV B a c :=
 ⟨k.os.trans h.os,k.tape.trans h.tape,k.output.trans h.output,Nat.le_trans h.size k.size,fun i hi=>(k.block i hi).trans (h.block i hi),fun d=>Nat.le_trans (h.drawn d) (k.drawn d)⟩
theorem DV.toB {B:Nat} {a b:World} (h:DV B a b):RowKit.Below B a b:=⟨h.os,h.tape,h.output,h.size,h.block⟩
def isI (v:Value):Prop:=∃ n,v = .int .i64 n
structure St {κ:Type} (B:Base) (h:H) (L:κ→Option gq) (w:World):Prop where
 low:B.n≤w.heap.size
 base:DV B.n B.w w
 ext:∀ {b o v},h b o=some v→w.cell? ⟨b,o,none⟩=some v
 own:∀ {k e},L k=some e→(∀ c ∈ e.claims,B.n≤c.1∧c.1<w.heap.size∧∀ o,c.2≤o→h c.1 o=none)∧e.ok h (World.mem w)
 yH:∀ {k k' e e'},L k=some e→L k'=some e'→k≠k'→∀ c ∈ e.claims,∀ c' ∈ e'.claims,c.1≠c'.1
 mark:h.n≤B.n
 nf:∀ {b o v},h.n≤b→isI v→h b o=some v→∃ c t,w.heap[b]? = some (.cells c t (0,0))
section
variable {κ:Type} {B:Base} {h:H} {L:κ→Option gq} {w:World}
theorem St.toE (s:St B h L w):St B.e h L w:=⟨s.low,s.base,fun x=>s.ext x,fun x=>s.own x,fun x=>s.yH x,s.mark,fun x i y=>s.nf x i y⟩
theorem St.ofE (s:St B.e h L w):St B h L w:=⟨s.low,s.base,fun x=>s.ext x,fun x=>s.own x,fun x=>s.yH x,s.mark,fun x i y=>s.nf x i y⟩
theorem St.drawn (s:St B h L w) (n:Nat) (hn:w.drawn≤n):St B h L { w with drawn:=n } :=
 ⟨s.low,⟨s.base.os,s.base.tape,s.base.output,s.base.size,s.base.block,fun d=>Nat.le_trans (s.base.drawn d) hn⟩,fun x=>s.ext x,fun x=>s.own x,fun x=>s.yH x,s.mark,fun x i y=>s.nf x i y⟩
theorem St.FX {κ':Type} {L':κ'→Option gq} (s:St B h L w) (f:κ'→κ) (hf:∀ k' e,L' k'=some e→L (f k')=some e)
  (hi:∀ k k' e e',L' k=some e→L' k'=some e'→k≠k'→f k≠f k'):St B h L' w :=
 ⟨s.low,s.base,fun x=>s.ext x,fun x=>s.own (hf _ _ x),fun x y n=>s.yH (hf _ _ x) (hf _ _ y) (hi _ _ _ _ x y n),s.mark,fun x i y=>s.nf x i y⟩
theorem St.less {L':κ→Option gq} (s:St B h L w) (hf:∀ k e,L' k=some e→L k=some e):St B h L' w :=
 s.FX id hf (fun _ _ _ _ _ _ n=>n)
theorem St.mn (s:St B h L w):h.n≤w.heap.size:=Nat.le_trans s.mark s.low
theorem St.mo (s:St B h L w) {k:κ} {e:gq} {c:Nat×Nat} (hk:L k=some e) (hc:c ∈ e.claims):h.n≤c.1:=Nat.le_trans s.mark ((s.own hk).1 c hc).1
theorem St.lt (s:St B h L w) {b o v} (x:h b o=some v):b<w.heap.size:=World.block_lt_of_cell? w ⟨b,o,none⟩ (s.ext x)
theorem St.fresh (s:St B h L w) {b:Nat} (hb:w.heap.size≤b) (o:Nat):h b o=none:=by
 cases hh:h b o with
 | none=>rfl
 | some v=>have:=s.lt hh;omega
theorem xI (w:World) (b o:Nat) (c:Array Value) (t:TypeId) (fr:Nat×Nat) (hb:w.heap[b]? = some (.cells c t fr)):w.cell? ⟨b,o,none⟩=c[o]?:=by
 simp [World.cell?,hb]
theorem BM (w:World) (o:Obj) {b:Nat} (hb:b<w.heap.size):(w.alloc o).heap[b]? = w.heap[b]?:=by first | exact heap_alloc_old w o b hb | exact heap_alloc_old w o hb
theorem St.nf_new (s:St B h L w) {w':World}:∀ b o v,(False∨w.heap.size≤b)→h.n≤b→isI v→h b o=some v→∃ c t,w'.heap[b]? = some (.cells c t (0,0)):=by
 rintro b o v (hb | hb) _ _ hv
 ·exact hb.elim
 ·rw [s.fresh hb] at hv;cases hv
theorem St.Xa (s:St B h L w) {k:κ} {e:gq} {b':Nat} (hk:L k=some e) (hc:(b',0) ∈ e.claims) {w':World}:∀ b o v,(b=b'∨w.heap.size≤b)→h.n≤b→isI v→h b o=some v→∃ c t,w'.heap[b]? = some (.cells c t (0,0)):=by
 rintro b o v (hb | hb) _ _ hv
 ·subst hb;rw [((s.own hk).1 _ hc).2.2 o (Nat.zero_le _)] at hv;cases hv
 ·rw [s.fresh hb] at hv;cases hv
theorem St.UB (s:St B h L w) {w':World}:∀ b o v,(b=w.heap.size∨w.heap.size≤b)→h.n≤b→isI v→h b o=some v→∃ c t,w'.heap[b]? = some (.cells c t (0,0)):=by
 rintro b o v hb _ _ hv
 rw [s.fresh (by rcases hb with hb | hb <;> omega)] at hv;cases hv
theorem St.step (s:St B h L w) (k:κ) (T:Nat→Prop) {L':κ→Option gq} {h':H} {w':World}
    (hT:∀ b,T b→b<w.heap.size→∃ e,L k=some e∧∃ c ∈ e.claims,c.1=b)
    (hsz:w.heap.size≤w'.heap.size) (hos:w'.os=w.os) (htp:w'.tape=w.tape) (hout:w'.output=w.output)
    (hw:∀ b,b<w.heap.size→¬ T b→w'.heap[b]? = w.heap[b]?)
    (hle:nI h h') (hh:∀ b o,b<w.heap.size→¬ T b→h' b o=h b o)
    (hext:∀ b o v,(T b∨w.heap.size≤b)→h' b o=some v→w'.cell? ⟨b,o,none⟩=some v)
    (hL:∀ k' e,k'≠k→L' k'=some e→L k'=some e)
    (hk:∀ e,L' k=some e→(∀ c ∈ e.claims,(w.heap.size≤c.1∨∃ e0,L k=some e0∧∃ c0 ∈ e0.claims,c0.1=c.1)∧c.1<w'.heap.size∧∀ o,c.2≤o→h' c.1 o=none)∧e.ok h' (World.mem w'))
    (hdr:dOn→w.drawn≤w'.drawn:=by first | exact fun _=>Nat.le_refl _ | exact fun _=>Nat.le_add_right _ _ | (intro _;assumption) | assumption)
    (hnf:∀ b o v,(T b∨w.heap.size≤b)→h.n≤b→isI v→h' b o=some v→∃ c t,w'.heap[b]? = some (.cells c t (0,0)):=by exact St.nf_new (by assumption)) :
    St B h' L' w':=by
  have hTB:∀ b,T b→b<w.heap.size→B.n≤b:=by
    intro b hb hlt
    obtain ⟨e,he,c,hc,rfl⟩:=hT b hb hlt
    exact ((s.own he).1 c hc).1
  have hother:∀ k' e,k'≠k→L k'=some e→∀ c ∈ e.claims,¬ T c.1:=by
    intro k' e hne he c hc ht
    have hlt:=((s.own he).1 c hc).2.1
    obtain ⟨e0,he0,c0,hc0,heq⟩:=hT c.1 ht hlt
    exact s.yH he he0 hne c hc c0 hc0 heq.symm
  refine ⟨Nat.le_trans s.low hsz,s.base.trans ⟨hos,htp,hout,hsz,fun i hi=>hw i (Nat.lt_of_lt_of_le hi s.low) ?_,hdr⟩,?_,?_,?_,by rw [hle.n];exact s.mark,?_⟩
  · intro ht
    have:=hTB i ht (Nat.lt_of_lt_of_le hi s.low);omega
  · intro b o v hv
    by_cases ht:T b∨w.heap.size≤b
    · exact hext b o v ht hv
    · have h1 : ¬ T b := fun x => ht (.inl x)
      have h2:b<w.heap.size:=Nat.lt_of_not_le fun x=>ht (.inr x)
      rw [hh b o h2 h1] at hv
      rw [← s.ext hv]
      exact World.cell?_of_block (hw b h2 h1)
  · intro k' e he
    by_cases hkk:k'=k
    · subst hkk
      obtain ⟨h1,h2⟩:=hk e he
      refine ⟨fun c hc=>?_,h2⟩
      obtain ⟨h3,h4,h5⟩:=h1 c hc
      refine ⟨?_,h4,h5⟩
      rcases h3 with h3 | ⟨e0,he0,c0,hc0,h6⟩
      · exact Nat.le_trans s.low h3
      · rw [← h6];exact ((s.own he0).1 c0 hc0).1
    · have he':=hL k' e hkk he
      obtain ⟨h1,h2⟩:=s.own he'
      have hnt:=hother k' e hkk he'
      refine ⟨fun c hc=>?_,e.mono hle (e.frame (fun c hc=>hw c.1 (h1 c hc).2.1 (hnt c hc)) h2)⟩
      obtain ⟨h3,h4,h5⟩:=h1 c hc
      exact ⟨h3,Nat.lt_of_lt_of_le h4 hsz,fun o ho=>by rw [hh c.1 o h4 (hnt c hc)];exact h5 o ho⟩
  · have key:∀ {k1 k2 e1 e2},L' k1=some e1→L' k2=some e2→k1≠k2→k1≠k→∀ c ∈ e1.claims,∀ c' ∈ e2.claims,c.1≠c'.1:=by
      intro k1 k2 e1 e2 x1 x2 hne hk1 c hc c' hc' heq
      have x1':=hL _ _ hk1 x1
      have hlt:=((s.own x1').1 c hc).2.1
      by_cases hk2:k2=k
      · subst hk2
        rcases ((hk _ x2).1 c' hc').1 with h3 | ⟨e0,he0,c0,hc0,h6⟩
        · omega
        · exact s.yH x1' he0 hne c hc c0 hc0 (heq.trans h6.symm)
      · exact s.yH x1' (hL _ _ hk2 x2) hne c hc c' hc' heq
    intro k1 k2 e1 e2 x1 x2 hne c hc c' hc' heq
    by_cases hk1:k1=k
    · exact key x2 x1 (Ne.symm hne) (fun e=>hne (hk1.trans e.symm)) c' hc' c hc heq.symm
    · exact key x1 x2 hne hk1 c hc c' hc' heq
  · intro b o v hn hi hv
    by_cases ht:T b∨w.heap.size≤b
    · exact hnf b o v ht (by rw [← hle.n];exact hn) hi hv
    · have h1 : ¬ T b := fun x => ht (.inl x)
      have h2:b<w.heap.size:=Nat.lt_of_not_le fun x=>ht (.inr x)
      rw [hh b o h2 h1] at hv
      rw [hw b h2 h1]
      exact s.nf (by rw [← hle.n];exact hn) hi hv

def hadd (h:H) (b:Nat) (cs:List Value):H:=⟨fun b' o=>if b'=b then (if o<cs.length then cs[o]? else h b' o) else h b' o,h.n⟩
theorem Lh (h:H) (b:Nat) (cs:List Value) (b' o:Nat):hadd h b cs b' o=if b'=b then (if o<cs.length then cs[o]? else h b' o) else h b' o:=rfl
theorem Cc {h:H} {b:Nat} {cs:List Value} {b' o:Nat} (hb:b'≠b):hadd h b cs b' o=h b' o:=by simp [hadd,hb]
theorem zK {h:H} {b:Nat} {cs:List Value} {o:Nat} (ho:o<cs.length):hadd h b cs b o=some cs[o]:=by simp [hadd,ho]
theorem Qv {h:H} {b:Nat} {cs:List Value} {o:Nat} (ho:cs.length≤o):hadd h b cs b o=h b o:=by
 rw [Lh];rw [if_pos rfl,if_neg (by omega)]
theorem OV {h:H} {b:Nat} {cs:List Value} (hc:∀ o v,h b o=some v→o<cs.length→cs[o]? = some v):nI h (hadd h b cs):=by
 refine ⟨?_,rfl⟩
 intro b' o v x
 rw [Lh]
 split
 ·rename_i hb;subst hb
  split
  ·rename_i ho;exact hc o v x ho
  ·exact x
 ·exact x
theorem St.Xb (s:St B h L w) (cs:List Value) (t:TypeId):nI h (hadd h w.heap.size cs)∧St B (hadd h w.heap.size cs) L (w.alloc (.cells cs.toArray t)):=by
 have hle:nI h (hadd h w.heap.size cs):=OV (fun o v x _=>by rw [s.fresh (Nat.le_refl _)] at x;cases x)
 refine ⟨hle,?_⟩
 have key:St B (hadd h w.heap.size cs) (fun k:Option κ=>match k with | some k=>L k | none=>none) (w.alloc (.cells cs.toArray t)):=by
  have s':St B h (fun k:Option κ=>match k with | some k=>L k | none=>none) w:=by
   refine ⟨s.low,s.base,fun x=>s.ext x,?_,?_,s.mark,fun x i y=>s.nf x i y⟩
   ·intro k e he;cases k with
    | none=>cases he
    | some k=>exact s.own he
   ·intro k k' e e' he he' hne;cases k with
    | none=>cases he
    | some k=>cases k' with
     | none=>cases he'
     | some k'=>exact s.yH he he' (fun x=>hne (by rw [x]))
  refine s'.step none (fun b=>b=w.heap.size) (fun b hb hlt=>by omega) (by simp) rfl rfl rfl (fun b hb _=>BM w _ hb) hle (fun b o hb _=>Cc (by omega)) ?_ (fun k' e _ he=>he) (fun e he=>by cases he) (hnf:=fun b o v hb _ _ hv=>by
   by_cases hbs:b=w.heap.size
   ·subst hbs;exact ⟨_,_,heap_alloc_new w _⟩
   ·rw [Cc hbs,s.fresh (by rcases hb with hb | hb <;> omega)] at hv;cases hv)
  intro b o v hb hv
  by_cases hbs:b=w.heap.size
  ·subst hbs
   rw [xI _ _ _ _ _ _ (heap_alloc_new w _)]
   rw [Lh] at hv
   rw [if_pos rfl] at hv
   split at hv
   ·simpa using hv
   ·rw [s.fresh (Nat.le_refl _)] at hv;cases hv
  ·rw [Cc hbs,s.fresh (by rcases hb with hb | hb <;> omega)] at hv;cases hv
 exact key.FX some (fun _ _ x=>x) (fun _ _ _ _ _ _ n e=>n (Option.some.inj e))
theorem St.alloc (s:St B h L w) (o:Obj) (k:κ) {L':κ→Option gq} (hL:∀ k' e,k'≠k→L' k'=some e→L k'=some e)
  (hk:∀ e,L' k=some e→(∀ c ∈ e.claims,c.1=w.heap.size)∧e.ok h (World.mem (w.alloc o))):St B h L' (w.alloc o):=by
 refine s.step k (fun b=>b=w.heap.size) (fun b hb hlt=>by omega) (by simp) rfl rfl rfl (fun b hb _=>BM w _ hb) (nI.refl h) (fun _ _ _ _=>rfl) ?_ hL ?_ (hnf:=s.UB)
 ·intro b o' v hb hv
  rw [s.fresh (by rcases hb with hb | hb <;> omega)] at hv;cases hv
 ·intro e he
  obtain ⟨h1,h2⟩:=hk e he
  refine ⟨fun c hc=>?_,h2⟩
  have:=h1 c hc
  exact ⟨.inl (by omega),by simp;omega,fun o' _=>s.fresh (by omega) o'⟩
theorem St.write (s:St B h L w) (k:κ) {e:gq} (hk:L k=some e) {b lo:Nat} (hb:(b,lo) ∈ e.claims) {w':World} {c:Array Value} {t:TypeId}
  (hw:w'.heap[b]? = some (.cells c t (0,0))) (hwo:∀ i,i≠b→w'.heap[i]? = w.heap[i]?) (hsz:w'.heap.size=w.heap.size) (hos:w'.os=w.os) (htp:w'.tape=w.tape) (hout:w'.output=w.output)
  (hold:∀ o v,h b o=some v→c[o]? = some v) {L':κ→Option gq} (hL:∀ k' e,k'≠k→L' k'=some e→L k'=some e)
  (hk':∀ e',L' k=some e'→(∀ c ∈ e'.claims,c ∈ e.claims)∧e'.ok h (World.mem w')) 
  (hdr:w.drawn≤w'.drawn:=by first | exact Nat.le_refl _ | exact Nat.le_add_right _ _ | assumption): St B h L' w':=by
 obtain ⟨hcl,_⟩:=s.own hk
 refine s.step k (fun i=>i=b) ?_ (by omega) hos htp hout (fun i _ hi=>hwo i hi) (nI.refl h) (fun _ _ _ _=>rfl) ?_ hL ?_ (hnf:=fun i o v hi _ _ hv=>by
  by_cases hib:i=b
  ·subst hib;exact ⟨c,t,hw⟩
  ·rw [s.fresh (by rcases hi with hi | hi <;> omega)] at hv;cases hv)
 ·intro i hi _;subst hi;exact ⟨e,hk,_,hb,rfl⟩
 ·intro i o v hi hv
  by_cases hib:i=b
  ·subst hib;rw [xI _ _ _ _ _ _ hw];exact hold o v hv
  ·rw [s.fresh (by rcases hi with hi | hi <;> omega)] at hv;cases hv
 ·intro e' he'
  obtain ⟨h1,h2⟩:=hk' e' he'
  refine ⟨fun c hc=>?_,h2⟩
  obtain ⟨h3,h4,h5⟩:=hcl c (h1 c hc)
  exact ⟨.inr ⟨e,hk,c,h1 c hc,rfl⟩,by omega,h5⟩
theorem St.freeze (s:St B h L w) (k:κ) {e:gq} (hk:L k=some e) {b lo:Nat} (hb:(b,lo) ∈ e.claims) {c:Array Value} {t:TypeId} (hc:w.heap[b]? = some (.cells c t (0,0)))
    (n:Nat) (hn:n≤c.size) {L':κ→Option gq} (hL:∀ k' e,k'≠k→L' k'=some e→L k'=some e)
    (hk':∀ e',L' k=some e'→(∀ q ∈ e'.claims,(∃ q0 ∈ e.claims,q0.1=q.1∧q0.2≤q.2)∧(q.1=b→n≤q.2))∧e'.ok (hadd h b (c.toList.take n)) (World.mem w)) :
    nI h (hadd h b (c.toList.take n))∧St B (hadd h b (c.toList.take n)) L' w:=by
  have hcell:∀ o,w.cell? ⟨b,o,none⟩=c[o]?:=fun o=>xI _ _ _ _ _ _ hc
  have hlen:(c.toList.take n).length=n:=by simp;omega
  have hle:nI h (hadd h b (c.toList.take n)):=OV (fun o v x ho=>by
    have:=s.ext x
    rw [hcell] at this
    rw [List.getElem?_take];rw [hlen] at ho;simpa [ho] using this)
  obtain ⟨hcl,_⟩:=s.own hk
  refine ⟨hle,s.step k (fun i=>i=b) ?_ (Nat.le_refl _) rfl rfl rfl (fun _ _ _=>rfl) hle (fun i o _ hi=>Cc hi) ?_ hL ?_ (hnf:=fun i o v hi _ _ hv=>by
    by_cases hib:i=b
    · subst hib;exact ⟨c,t,hc⟩
    · rw [Cc hib,s.fresh (by rcases hi with hi | hi <;> omega)] at hv;cases hv)⟩
  · intro i hi _;subst hi;exact ⟨e,hk,_,hb,rfl⟩
  · intro i o v hi hv
    by_cases hib:i=b
    · subst hib
      rw [Lh] at hv
      rw [if_pos rfl] at hv
      split at hv
      · rename_i ho
        rw [hcell];rw [hlen] at ho
        rw [List.getElem?_take] at hv;simpa [ho] using hv
      · exact s.ext hv
    · rw [Cc hib,s.fresh (by rcases hi with hi | hi <;> omega)] at hv;cases hv
  · intro e' he'
    obtain ⟨h1,h2⟩:=hk' e' he'
    refine ⟨fun q hq=>?_,h2⟩
    obtain ⟨⟨q0,hq0,h3,h4⟩,h5⟩:=h1 q hq
    obtain ⟨h6,h7,h8⟩:=hcl q0 hq0
    refine ⟨.inr ⟨e,hk,q0,hq0,h3⟩,by omega,fun o ho=>?_⟩
    by_cases hqb:q.1=b
    · rw [hqb, Qv (by rw [hlen]; have := h5 hqb; omega), ← hqb, ← h3]
      exact h8 o (by omega)
    · rw [Cc hqb,← h3];exact h8 o (by omega)
theorem St.gok (s:St B h L w):gN≤w.heap.size∧gP fun b=>w.heap[b]? :=
 ⟨Nat.le_trans B.ok.1 s.low,Xc (fun b hb=>s.base.block b (Nat.lt_of_lt_of_le hb B.ok.1)) B.ok.2⟩
theorem St.below {w':World} (s:St B h L w) (hb:RowKit.Below w.heap.size w w') (hd:dOn→w.drawn≤w'.drawn):St B h L w':=by
 have key:St B h (fun k:Option κ=>match k with | some k=>L k | none=>none) w':=by
  have s':St B h (fun k:Option κ=>match k with | some k=>L k | none=>none) w:=by
   refine ⟨s.low,s.base,fun x=>s.ext x,?_,?_,s.mark,fun x i y=>s.nf x i y⟩
   ·intro k e he;cases k with
    | none=>cases he
    | some k=>exact s.own he
   ·intro k k' e e' he he' hne;cases k with
    | none=>cases he
    | some k=>cases k' with
     | none=>cases he'
     | some k'=>exact s.yH he he' (fun x=>hne (by rw [x]))
  refine s'.step none (fun _=>False) (fun b hb _=>hb.elim) hb.size hb.os hb.tape hb.output (fun b hlt _=>hb.block b hlt) (nI.refl h) (fun _ _ _ _=>rfl) ?_ (fun k' e _ he=>he) (fun e he=>by cases he) hd
  intro b o v hb hv
  rcases hb with hb | hb
  ·exact hb.elim
  ·rw [s.fresh hb] at hv;cases hv
 exact key.FX some (fun _ _ x=>x) (fun _ _ _ _ _ _ n e=>n (Option.some.inj e))
end
end Go.KB
namespace Go.KB
def _root_.Go.Act.gt (a:Act) (s:Nat):Value:=a.tmps.getD s undef
theorem fG {a:Act} {d:Nat} {v:Value} (hd:d<a.tmps.size):(a.put (some d) v).gt d=v:=by
 simp [Act.gt,Act.put,hd]
theorem JS {a:Act} {d s:Nat} {v:Value} (h:s≠d):(a.put (some d) v).gt s=a.gt s:=by
 simp [Act.gt,Act.put,Array.getElem?_setIfInBounds_ne (Ne.symm h)]
theorem Ah {a:Act} {d:Option Nat} {s:Nat} {v:Value} (h:d≠some s):(a.put d v).gt s=a.gt s:=by
 cases d with
 | none=>rfl
 | some d=>exact JS (fun e=>h (by rw [e]))
theorem size_put (a:Act) (d:Option Nat) (v:Value):(a.put d v).tmps.size=a.tmps.size:=by cases d <;> simp [Act.put]
theorem SA (a:Act) (d:Option Nat) (v:Value):(a.put d v).defers=a.defers:=by cases d <;> rfl
structure aQ where
 dep:Option Nat
 p:H→Value→Value→Prop
 mono:∀ {h h' d v},nI h h'→p h d v→p h' d v
def aQ.rD:aQ:=⟨none,fun _ _ _=>True,fun _ _=>trivial⟩
def aQ.dv (f:aQ) (a:Act):Value:=match f.dep with | none=>undef | some d=>a.gt d
def aQ.at (f:aQ) (h:H) (a:Act) (s:Nat):Prop:=f.p h (f.dv a) (a.gt s)
def aQ.when (c:Prop) (f:aQ):aQ:=⟨f.dep,fun h d v=>(c→f.p h d v)∧(¬c→v=undef),fun hl x=>⟨fun hc=>f.mono hl (x.1 hc),x.2⟩⟩
abbrev eP:=Value→gq→Prop
abbrev Ctx:=Nat→aQ
abbrev Own:=Nat→Option eP
def Sat (Γ:Ctx) (h:H) (a:Act):Prop:=∀ s,(Γ s).at h a s
def LP (Λ:Own) (L:Nat→Option gq) (a:Act):Prop:=∀ s q,Λ s=some q→∃ e,L s=some e∧q (a.gt s) e
def At {κ:Type} (B:Base) (h0:H) (Γ:Ctx) (Λ:Own) (F:κ→Option gq) (n:Nat) (a:Act) (w:World):Prop :=
 ∃ h L,nI h0 h∧St B h (Sum.elim L F) w∧LP Λ L a∧Sat Γ h a∧a.tmps.size=n∧a.defers=B.df
def Qi:List (Nat×aQ)→Nat→aQ
 | [],_=>aQ.rD
 | (k,f) :: r,s=>bif Nat.beq k s then f else Qi r s
def Za:List (Nat×(eP))→Nat→Option (eP)
 | [],_=>none
 | (k,f) :: r,s=>bif Nat.beq k s then some f else Za r s
def Sm (l:List (Nat×aQ)):Ctx:=Qi l
def NJ (l:List (Nat×(eP))):Own:=Za l
def Dl:List (Nat×aQ)→H→Act→Prop
 | [],_,_=>True
 | q :: l,h,a=>q.2.at h a q.1∧Dl l h a
def Vw:List (Nat×(eP))→(Nat→Option gq)→Act→Prop
 | [],_,_=>True
 | q :: l,L,a=>(∃ e,L q.1=some e∧q.2 (a.gt q.1) e)∧Vw l L a
abbrev Hr:=List (Nat×Option (eP))
def qw:Hr→Nat→Option (Option (eP))
 | [],_=>none
 | (k,e) :: r,s=>bif Nat.beq k s then some e else qw r s
def full (U:Hr) (dst:Option Nat):Hr:=U ++ (match dst with | some d=>[(d,none)] | none=>[])
def Ea (L L':Nat→Option gq) (U:Hr) (a:Act):Prop:=∀ s,
 match qw U s with
 | some (some q)=>∃ e,L' s=some e∧q (a.gt s) e
 | some none=>True
 | none=>L' s=L s
def UpdS (K:List (Nat×eP)) (L L':Nat→Option gq) (U:Hr) (a:Act):Prop:=∀ s,
 match qw U s with
 | some (some q)=>∃ e,L' s=some e∧q (a.gt s) e
 | some none=>True
 | none=>L' s=L s∨∃ q,(s,q) ∈ K∧∃ e,L' s=some e∧q (a.gt s) e
theorem Ea.soft {K:List (Nat×eP)} {L L':Nat→Option gq} {U:Hr} {a:Act} (h:Ea L L' U a):UpdS K L L' U a:=by
 intro s
 have:=h s
 cases hl:qw U s with
 | some e=>rw [hl] at this;cases e <;> exact this
 | none=>rw [hl] at this;exact .inl this
def LG (ρ:Option Nat):Fence:={ fn:=fun _=>True,depth:=none,alive:=false,round:=ρ }
def _root_.Go.Code.rJ (c:Code) (ρ:Option Nat) (P:Program) (Q:Exit→Act→World→Prop) (a:Act) (w:World):Prop:=c.wpIn (LG ρ) 0 P Q a w
theorem N7 {ρ:Option Nat} {n:Nat} {P:Program} {f:FuncId} {args:Array Value} {w:World} {R:Ending→World→Prop}:CallsIn (LG ρ) n P f args w R↔Calls P f args w R:=callsIn_wide (n:=n)
def _root_.Go.Oper.upK (P:Program) (o:Oper) (a:Act) (next:Act→World→Prop) (Q:Exit→Act→World→Prop):Result Next→Prop
  | .ok (.value v) w'=>next (a.put o.dst v) w'
  | .ok .skip w'=>next (a.put o.dst undef) w'
  | .ok (.enter f args) w' => Calls P f args w' fun
      | .returned v,w''=>next (a.put o.dst v) w''
      | .panicked chain,w''=>Q (.panic chain) a w''
      | .outgrown,_=>LetsOut Q
  | .ok (.round l f tmps assign body) w' => RoundIn (LG none) 0 P l f tmps assign body w' fun
      | .returned v,w''=>next (a.put o.dst v) w''
      | .panicked chain,w''=>Q (.panic chain) a w''
      | .outgrown,_=>LetsOut Q
  | _=>False
def _root_.Go.Oper.rJ (P:Program) (o:Oper) (a:Act) (w:World) (next:Act→World→Prop) (Q:Exit→Act→World→Prop):Prop:=o.upK P a next Q ((execOp a.eval o).run P w)
theorem Ec {P:Program} {o:Oper} {a:Act} {next:Act→World→Prop} {Q:Exit→Act→World→Prop} (f:FuncId) (args:Array Value) (w:World):o.upK P a next Q (.ok (.enter f args) w)=Calls P f args w fun
  | .returned v,w''=>next (a.put o.dst v) w''
  | .panicked chain,w''=>Q (.panic chain) a w''
  | .outgrown,_=>LetsOut Q:=rfl
theorem Xd {ρ:Option Nat} {P:Program} {o:Oper} {a:Act} {w:World} {next:Act→World→Prop} {Q:Exit→Act→World→Prop} (h:o.rJ P a w next Q):o.wpIn (LG ρ) 0 P a w next Q:=by
  refine ⟨fun _ _=>trivial,?_⟩
  unfold Oper.rJ at h
  by_cases hd:∃ c,o.op = .defer c
  · obtain ⟨c,hc⟩:=hd
    exfalso
    simp only [execOp,hc,Sem.run_bind] at h
    cases hr:(resolve a.eval c o.type).run P w with
    | ok d w'=>rw [hr] at h;exact h
    | halt x w'=>rw [hr] at h;exact h
  · rw [Oper.semAt_eq _ _ _ (fun c hc => hd ⟨c, hc⟩)]
    generalize (execOp a.eval o).run P w=r at h
    cases r with
    | halt x w'=>exact h.elim
    | ok x w' =>
      cases x <;> first
        | exact h.elim
        | exact h
        | exact ⟨fun hh=>(by cases hh),N7.2 h⟩
        | exact ⟨fun hh=>(by cases hh),h⟩

def di (P:Program) (o:Oper) (N:List (Nat×aQ)) (K:List (Nat×(eP))) (f:aQ) (U:Hr):Prop :=
 ∀ (κ:Type) (B:Base) (F:κ→Option gq) (L:Nat→Option gq) (h:H) (a:Act) (w:World),
  St B h (Sum.elim L F) w→Dl N h a→Vw K L a→(∀ d,o.dst=some d→d<a.tmps.size) →
  ∀ (next:Act→World→Prop) (Q:Exit→Act→World→Prop),
   (∀ v h' w' L',nI h h'→f.p h' (f.dv a) v→St B h' (Sum.elim L' F) w'→Ea L L' (full U o.dst) (a.put o.dst v)→next (a.put o.dst v) w') →
   (∀ v h' w' L',nI h h'→f.p h' (f.dv a) v→St B h' (Sum.elim L' F) w'→UpdS K L L' (full U o.dst) (a.put o.dst v)→next (a.put o.dst v) w')→o.rJ P a w next Q
theorem di.imp {P:Program} {o:Oper} {N N':List (Nat×aQ)} {K:List (Nat×(eP))} {f:aQ} {U:Hr} (hN:∀ h a,Dl N' h a→Dl N h a)
  (x:di P o N K f U):di P o N' K f U:=fun _ B F L h a w s n k d=>x _ B F L h a w s (hN h a n) k d
theorem di.out {P:Program} {o:Oper} {N:List (Nat×aQ)} {K:List (Nat×(eP))} {f f':aQ} {U:Hr} (hd:f.dep=f'.dep) (hf:∀ h d v,f.p h d v→f'.p h d v)
  (x:di P o N K f U):di P o N K f' U:=fun _ B F L h a w s n k d next Q hn hn' =>
 x _ B F L h a w s n k d next Q (fun v h' w' L' hl hp=>hn v h' w' L' hl (by have:=hf _ _ _ hp;simpa [aQ.dv,hd] using this)) (fun v h' w' L' hl hp=>hn' v h' w' L' hl (by have:=hf _ _ _ hp;simpa [aQ.dv,hd] using this))
structure OS where
 f:aQ
 U:Hr:=[]
 rd:List (Nat×Option Nat):=[]
 kd:List (Nat×Option Nat):=[]
def nth (l:List OS):Nat→OS
 | 0=>match l with | []=>⟨aQ.rD,[],[],[]⟩ | x :: _=>x
 | n+1=>match l with | []=>⟨aQ.rD,[],[],[]⟩ | _ :: r=>nth r n
def um (l:List Oper):Nat→Option Oper
 | 0=>match l with | []=>none | x :: _=>some x
 | n+1=>match l with | []=>none | _ :: r=>um r n
theorem zf (l:List Oper):∀ i,um l i=l[i]?:=by
 induction l with
 | nil=>intro i;cases i <;> rfl
 | cons x r ih=>intro i;cases i with
  | zero=>rfl
  | succ n=>simpa [um] using ih n
def E5 (all:List OS) (Γ:Ctx) (q:Nat×Option Nat):Nat×aQ:=(q.1,match q.2 with | some j=>(nth all j).f | none=>Γ q.1)
def Ai (all:List OS) (Λ:Own) (q:Nat×Option Nat):Nat×(eP) :=
 (q.1,match (match q.2 with | some j=>(qw (nth all j).U q.1).getD none | none=>Λ q.1) with | some e=>e | none=>fun _ _=>False)
def DJ (K:List (Nat×eP)) (U:Hr) (dst:Option Nat):Prop:=∀ s e,qw U s=some e→dst≠some s∧∃ q q',e=some q'∧(s,q) ∈ K∧∀ v x,q v x→q' v x
theorem DJ.nil {K:List (Nat×eP)} {dst:Option Nat}:DJ K [] dst:=fun s e h=>by cases h
theorem Vw.mem {L:Nat→Option gq} {a:Act}:∀ {K:List (Nat×eP)},Vw K L a→∀ {s q},(s,q) ∈ K→∃ e,L s=some e∧q (a.gt s) e:=by
 intro K
 induction K with
 | nil=>intro _ s q h;cases h
 | cons x r ih =>
  intro h s q hm
  rcases List.mem_cons.1 hm with rfl | hm
  ·exact h.1
  ·exact ih h.2 hm
def OW (P:Program) (all:List OS) (ops:List Oper) (Γ:Ctx) (Λ:Own) (o:Oper) (s:OS):Prop :=
 match o.guard with
 | none=>di P o (s.rd.map (E5 all Γ)) (s.kd.map (Ai all Λ)) s.f s.U
 | some (j,want)=>∃ (C:Prop) (d:Nat),((um ops j).bind (·.dst))=some d∧s.rd.head? = some (d,some j)∧(C→∀ h dv v,(nth all j).f.p h dv v→v = .bool want)∧(¬C→∀ h dv v,(nth all j).f.p h dv v→v ≠ .bool want) ∧
   (C→di P o (s.rd.map (E5 all Γ)) (s.kd.map (Ai all Λ)) s.f s.U)∧(¬C→DJ (s.kd.map (Ai all Λ)) s.U o.dst∧o.dst.isSome=true∧∀ h dv,s.f.p h dv undef)
def LQ (P:Program) (all:List OS) (ops:List Oper) (Γ:Ctx) (Λ:Own):List Oper→List OS→Prop
 | o :: os,s :: ss=>OW P all ops Γ Λ o s∧LQ P all ops Γ Λ os ss
 | [],[]=>True
 | _,_=>False
def always:Ground→Bool
 | .data | .chain | .guard | .phase=>true
 | _=>false
def preds (o:Oper):List Nat:=o.after.toList.filterMap (fun e=>bif always e.ground then some e.on else none)
def has:List Nat→Nat→Bool
 | [],_=>false
 | x :: r,n=>Nat.beq x n||has r n
theorem iQ {a b:Nat}:Nat.beq a b=true↔a=b:=by rw [Nat.beq_eq]
theorem OX {l:List Nat} {n:Nat}:has l n=true↔n ∈ l:=by
 induction l with
 | nil=>simp [has]
 | cons x r ih =>
  rw [has,Bool.or_eq_true,ih,List.mem_cons,Nat.beq_eq]
  exact ⟨fun h=>h.imp Eq.symm id,fun h=>h.imp Eq.symm id⟩
structure Num where
 pre:Nat→Bool
 dst:Option Nat
 dep:Option Nat
 sets:Nat→Bool
 owns:Nat→Bool
 rd:List (Nat×Option Nat)
 kd:List (Nat×Option Nat)
def Ce (U:Hr) (s:Nat):Bool:=match qw U s with | some _=>true | none=>false
def ownsU (U:Hr) (s:Nat):Bool:=match qw U s with | some (some _)=>true | _=>false
def Qw:Hr→List Nat
 | []=>[]
 | (k,_) :: r=>k :: Qw r
def numOf (draw:Bool) (i:Nat) (o:Oper) (s:OS):Num :=
 ⟨(bif draw then has (preds o) else fun j=>Nat.blt j i),o.dst,s.f.dep,Ce (full s.U o.dst),ownsU s.U,s.rd,s.kd⟩
def nums (draw:Bool):Nat→List Oper→List OS→List Num
 | i,o :: os,s :: ss=>numOf draw i o s :: nums draw (i+1) os ss
 | _,_,_=>[]
def LW (l:List Num):Nat→Option Num
 | 0=>match l with | []=>none | x :: _=>some x
 | n+1=>match l with | []=>none | _ :: r=>LW r n
def allI (p:Nat→Num→Bool):Nat→List Num→Bool
 | _,[]=>true
 | i,x :: r=>p i x&&allI p (i+1) r
def WM (a:Option Nat) (n:Nat):Bool:=match a with | some m=>Nat.beq m n | none=>false
theorem Ht {a:Option Nat} {n:Nat}:WM a n=true↔a=some n:=by
 cases a with
 | none=>simp [WM]
 | some m=>simp [WM,Nat.beq_eq]
def sub:List Nat→List (Nat×Option (eP))→List Nat
 | l,[]=>l
 | l,(k,_) :: r=>k :: sub l r
def anyI (p:Nat→Num→Bool):Nat→List Num→Bool
 | _,[]=>false
 | i,x :: r=>p i x||anyI p (i+1) r
def pre2 (l:List Num) (y:Num) (i:Nat):Bool:=y.pre i||anyI (fun j z=>y.pre j&&z.pre i) 0 l
def Xe (Γ:Ctx) (Λ:Own) (l:List Num) (i:Nat) (x:Num):Bool :=
 (x.rd.all fun q=>match q.2 with
  | some j=>x.pre j&&(match LW l j with | some y=>WM y.dst q.1&&(match y.dep with | none=>true | some e=>allI (fun m z=>(!(WM z.dst e))||pre2 l z i||Nat.beq m i) 0 l) | none=>false)
  | none=>allI (fun _ y=>(!(WM y.dst q.1))||pre2 l y i) 0 l&&(match (Γ q.1).dep with | none=>true | some d=>allI (fun _ y=>!(WM y.dst d)) 0 l))
 && (match x.dst with | none=>true | some d=>allI (fun k y=>Nat.beq k i || !(WM y.dst d)) 0 l)
 && (x.kd.all fun q=>match q.2 with
  | some j=>x.pre j&&(match LW l j with | some y=>y.owns q.1 | none=>false)&&allI (fun m y=>(!(y.sets q.1))||pre2 l y i||Nat.ble m j||Nat.beq m i) 0 l
  | none=>(Λ q.1).isSome&&allI (fun m y=>(!(y.sets q.1))||pre2 l y i||Nat.beq m i) 0 l)
def Xf (l:List Num) (i:Nat) (k:List Nat):Bool :=
 k.all fun s=>allI (fun m y=>(!(y.sets s))||Nat.ble m i||pre2 l y i) 0 l
def Lj (l:List Num):Nat→List Oper→List OS→Bool
 | i,o :: os,s :: ss=>Xf l i (Qw (full s.U o.dst))&&Lj l (i+1) os ss
 | _,_,_=>true
def chk (Γ:Ctx) (Λ:Own) (draw:Bool) (os:List Oper) (ss:List OS):Bool :=
 allI (Xe Γ Λ (nums draw 0 os ss)) 0 (nums draw 0 os ss)&&Lj (nums draw 0 os ss) 0 os ss
theorem Vx {p:Nat→Num→Bool}:∀ (l:List Num) (i:Nat),allI p i l=true→∀ k x,LW l k=some x→p (i+k) x=true:=by
 intro l
 induction l with
 | nil=>intro i _ k x hx;cases k <;> cases hx
 | cons y r ih =>
  intro i hall k x hx
  simp only [allI,Bool.and_eq_true] at hall
  cases k with
  | zero=>cases hx;exact hall.1
  | succ k=>have:=ih (i+1) hall.2 k x hx;rw [show i+1+k=i+(k+1) from by omega] at this;exact this
theorem zA {p:Nat→Num→Bool} {l:List Num} (h:allI p 0 l=true) {k:Nat} {x:Num} (hx:LW l k=some x):p k x=true:=by
 have:=Vx l 0 h k x hx;rwa [Nat.zero_add] at this
theorem Vy {p:Nat→Num→Bool}:∀ (l:List Num) (i:Nat),anyI p i l=true→∃ k x,LW l k=some x∧p (i+k) x=true:=by
 intro l
 induction l with
 | nil=>intro i h;cases h
 | cons y r ih =>
  intro i h
  simp only [anyI,Bool.or_eq_true] at h
  rcases h with h | h
  ·exact ⟨0,y,rfl,h⟩
  ·obtain ⟨k,x,hx,hp⟩:=ih (i+1) h
   exact ⟨k+1,x,hx,by rwa [show i+(k+1)=i+1+k from by omega]⟩
theorem Xg (draw:Bool):∀ (os:List Oper) (ss:List OS) (i:Nat),os.length=ss.length→∀ k o,um os k=some o →
  LW (nums draw i os ss) k=some (numOf draw (i+k) o (nth ss k)):=by
 intro os
 induction os with
 | nil=>intro ss i _ k o ho;cases k <;> cases ho
 | cons x r ih =>
  intro ss i hlen k o ho
  cases ss with
  | nil=>simp at hlen
  | cons s ss =>
   cases k with
   | zero=>cases ho;rfl
   | succ k =>
    have:=ih ss (i+1) (by simpa using hlen) k o ho
    simp only [nums,LW,nth]
    rw [this,show i+1+k=i+(k+1) from by omega]
theorem JU (draw:Bool):∀ (os:List Oper) (ss:List OS) (i:Nat) (k:Nat) (x:Num),LW (nums draw i os ss) k=some x→∃ o,um os k=some o:=by
 intro os
 induction os with
 | nil=>intro ss i k x h;cases ss <;> simp [nums] at h <;> cases k <;> cases h
 | cons o r ih =>
  intro ss i k x h
  cases ss with
  | nil=>simp [nums] at h;cases k <;> cases h
  | cons s ss =>
   cases k with
   | zero=>exact ⟨o,rfl⟩
   | succ k=>exact ih ss (i+1) k x h
theorem OY {l:List Num}:∀ (os:List Oper) (ss:List OS) (i:Nat),os.length=ss.length→Lj l i os ss=true→∀ k o,um os k=some o →
  Xf l (i+k) (Qw (full (nth ss k).U o.dst))=true:=by
 intro os
 induction os with
 | nil=>intro ss i _ _ k o ho;cases k <;> cases ho
 | cons x r ih =>
  intro ss i hlen hc k o ho
  cases ss with
  | nil=>simp at hlen
  | cons s ss =>
   simp only [Lj,Bool.and_eq_true] at hc
   cases k with
   | zero=>cases ho;exact hc.1
   | succ k=>have:=ih ss (i+1) (by simpa using hlen) hc.2 k o ho;rwa [show i+1+k=i+(k+1) from by omega] at this
theorem Hu {P:Program} {all:List OS} {ops:List Oper} {Γ:Ctx} {Λ:Own}:∀ (os:List Oper) (ss:List OS),LQ P all ops Γ Λ os ss →
  os.length=ss.length∧∀ k o,um os k=some o→OW P all ops Γ Λ o (nth ss k):=by
 intro os
 induction os with
 | nil=>intro ss h;cases ss with
  | nil=>exact ⟨rfl,fun k o ho=>by cases k <;> cases ho⟩
  | cons _ _=>exact h.elim
 | cons x r ih =>
  intro ss h
  cases ss with
  | nil=>exact h.elim
  | cons s ss =>
   obtain ⟨h1,h2⟩:=h
   obtain ⟨h3,h4⟩:=ih ss h2
   refine ⟨by simp [h3],fun k o ho=>?_⟩
   cases k with
   | zero=>cases ho;exact h1
   | succ k=>exact h4 k o ho
theorem Qx {U:Hr} {dst:Option Nat} {s:Nat} {e:Option (eP)} (h:qw U s=some e):qw (full U dst) s=some e:=by
 unfold full
 induction U with
 | nil=>cases h
 | cons q r ih =>
  obtain ⟨k,f⟩:=q
  simp only [List.cons_append,qw] at h ⊢
  cases hk:Nat.beq k s with
  | true=>rw [hk] at h;exact h
  | false=>rw [hk] at h;exact ih h
theorem OZ {U:Hr} {d:Nat}:∃ e,qw (full U (some d)) d=some e:=by
 unfold full
 induction U with
 | nil=>exact ⟨none,by simp [qw]⟩
 | cons q r ih =>
  obtain ⟨k,f⟩:=q
  simp only [List.cons_append,qw]
  cases hk:Nat.beq k d with
  | true=>exact ⟨f,rfl⟩
  | false=>exact ih
theorem Vz {U:Hr} {s:Nat} (h:Ce U s=true):s ∈ Qw U:=by
 induction U with
 | nil=>simp [Ce,qw] at h
 | cons q r ih =>
  obtain ⟨k,f⟩:=q
  simp only [Ce,qw] at h
  cases hk:Nat.beq k s with
  | true=>rw [Nat.beq_eq] at hk;simp [Qw,hk]
  | false=>rw [hk] at h;exact List.mem_cons_of_mem _ (ih h)
def J {κ:Type} (B:Base) (h0:H) (Γ:Ctx) (Λ:Own) (F:κ→Option gq) (n:Nat) (ops:List Oper) (sp:List OS) (S:Nat→Bool) (a:Act) (w:World):Prop :=
 ∃ h Λ' L,nI h0 h∧St B h (Sum.elim L F) w∧LP Λ' L a∧a.tmps.size=n∧a.defers=B.df ∧
  (∀ s,(∀ k o,um ops k=some o→S k=true→o.dst≠some s)→((Γ s).dep=none∨∃ d,(Γ s).dep=some d∧∀ k o,um ops k=some o→o.dst≠some d)→(Γ s).at h a s) ∧
  (∀ k o d,um ops k=some o→S k=true→o.dst=some d→(∀ e m o',(nth sp k).f.dep=some e→um ops m=some o'→S m=true→o'.dst≠some e)→(nth sp k).f.at h a d) ∧
  (∀ s j o e,um ops j=some o→S j=true→qw (full (nth sp j).U o.dst) s=some e →
   (∀ m o',um ops m=some o'→S m=true→Ce (full (nth sp m).U o'.dst) s=true→m≤j)→Λ' s=e) ∧
  (∀ s,(∀ m o',um ops m=some o'→S m=true→Ce (full (nth sp m).U o'.dst) s=false)→Λ' s=Λ s)
theorem Xh {f:aQ} {h:H} {a:Act} {dst:Option Nat} {v:Value} {s:Nat} (x:f.at h a s) (hs:dst≠some s) (hd:∀ d,f.dep=some d→dst≠some d):f.at h (a.put dst v) s:=by
 unfold aQ.at aQ.dv at *
 rw [Ah hs]
 cases BL:f.dep with
 | none=>rw [BL] at x;exact x
 | some d=>rw [BL] at x;simp only at x ⊢;rw [Ah (hd d BL)];exact x
section step
variable {ρ:Option Nat} {κ:Type} {P:Program} {B:Base} {h0:H} {Γ:Ctx} {Λ:Own} {F:κ→Option gq} {n:Nat} {ops:Array Oper} {sp:List OS} {draw:Bool} {S:Nat→Bool} {a:Act} {w:World}
theorem O0 (Ed:LQ P sp ops.toList Γ Λ ops.toList sp) (vZ:chk Γ Λ draw ops.toList sp=true) (DW:∀ o ∈ ops.toList,∀ d,o.dst=some d→d<n) {i:Nat} {o:Oper} (hi:um ops.toList i=some o)
    (hS0:S i=false) (hS1:∀ j,(numOf draw i o (nth sp i)).pre j=true→S j=true)
    (hS2:∀ m o',um ops.toList m=some o'→(numOf draw m o' (nth sp m)).pre i=true→S m=false)
    (hS3:∀ m o',um ops.toList m=some o'→S m=true→∀ j,(numOf draw m o' (nth sp m)).pre j=true→S j=true)
    (hJ:J B h0 Γ Λ F n ops.toList sp S a w) {Q:Exit→Act→World→Prop} :
    wpOpIn (LG ρ) 0 P ops Q i (J B h0 Γ Λ F n ops.toList sp (fun k=>bif Nat.beq k i then true else S k)) a w:=by
  obtain ⟨hlen,hob⟩:=Hu _ _ Ed
  simp only [chk,Bool.and_eq_true] at vZ
  obtain ⟨hc1,hc2⟩:=vZ
  have hnum:=Xg draw ops.toList sp 0 hlen
  simp only [Nat.zero_add] at hnum
  have Xi:∀ m o',um ops.toList m=some o'→pre2 (nums draw 0 ops.toList sp) (numOf draw m o' (nth sp m)) i=true→S m=false:=by
    intro m o' hm hp
    simp only [pre2,Bool.or_eq_true] at hp
    rcases hp with hp | hp
    · exact hS2 m o' hm hp
    · obtain ⟨j,z,hz,hp⟩:=Vy _ 0 hp
      simp only [Nat.zero_add,Bool.and_eq_true] at hp
      obtain ⟨oj,hoj⟩:=JU draw _ _ 0 j z hz
      rw [hnum j oj hoj] at hz;cases hz
      have h1:=hS2 j oj hoj hp.2
      cases NK:S m with
      | false=>rfl
      | true=>rw [hS3 m o' hm NK j hp.1] at h1;cases h1
  have hone:=zA hc1 (hnum i o hi)
  have hset:=OY _ _ 0 hlen hc2 i o hi
  simp only [Nat.zero_add] at hset
  simp only [Xe,Bool.and_eq_true] at hone
  obtain ⟨⟨hrd,hdst⟩,hkd⟩:=hone
  obtain ⟨h,Λ',L,hle,hst,vN,hsz,hdf,hbase,hops,hown,hown0⟩:=hJ
  have hopI:ops[i]? = some o:=by rw [← hi,zf];simp
  have hSi:∀ k,S k=true→k≠i:=fun k hk e=>by rw [e,hS0] at hk;cases hk
  -- its slot is its own
  have hd1:∀ d,o.dst=some d→∀ k o',um ops.toList k=some o'→k≠i→o'.dst≠some d:=by
    intro d hd k o' hk hne e
    have:(numOf draw i o (nth sp i)).dst=some d:=hd
    rw [this] at hdst
    have:=zA hdst (hnum k o' hk)
    simp only [numOf,Bool.or_eq_true,Nat.beq_eq,Bool.not_eq_true'] at this
    rcases this with h1 | h1
    · exact hne h1
    · rw [e] at h1;simp [WM] at h1
  -- what it reads
  have Zf:∀ q ∈ (nth sp i).rd,(E5 sp Γ q).2.at h a (E5 sp Γ q).1:=by
    intro q hq
    have:=List.all_eq_true.1 hrd q hq
    unfold E5
    cases hq2:q.2 with
    | some j =>
      rw [hq2] at this
      simp only [Bool.and_eq_true] at this
      obtain ⟨hp,hj⟩:=this
      cases hy:LW (nums draw 0 ops.toList sp) j with
      | none=>rw [hy] at hj;cases hj
      | some y =>
        obtain ⟨oj,hoj⟩:=JU draw _ _ 0 j y hy
        rw [hnum j oj hoj] at hy;cases hy
        rw [hnum j oj hoj] at hj
        simp only [Bool.and_eq_true] at hj
        refine hops j oj q.1 hoj (hS1 j hp) (Ht.1 hj.1) ?_
        intro e m o' hde hm NK hdm
        have hj2:=hj.2
        rw [show (numOf draw j oj (nth sp j)).dep=some e from hde] at hj2
        have:=zA hj2 (hnum m o' hm)
        simp only [Bool.or_eq_true,Bool.not_eq_true',Nat.beq_eq] at this
        rcases this with (h1 | h1) | h1
        · rw [Ht.2 (show (numOf draw m o' (nth sp m)).dst=some e from hdm)] at h1;cases h1
        · rw [Xi m o' hm h1] at NK;cases NK
        · exact hSi m NK h1
    | none =>
      rw [hq2] at this
      simp only [Bool.and_eq_true] at this
      refine hbase q.1 ?_ ?_
      · intro k o' hk hSk e
        have:=zA this.1 (hnum k o' hk)
        simp only [Bool.or_eq_true,Bool.not_eq_true'] at this
        rcases this with h1 | h1
        · rw [Ht.2 (show (numOf draw k o' (nth sp k)).dst=some q.1 from e)] at h1;cases h1
        · rw [Xi k o' hk h1] at hSk;cases hSk
      · cases BL:(Γ q.1).dep with
        | none=>exact .inl rfl
        | some d =>
          refine .inr ⟨d,rfl,fun k o' hk e=>?_⟩
          rw [BL] at this
          have:=zA this.2 (hnum k o' hk)
          simp only [Bool.not_eq_true'] at this
          rw [Ht.2 (show (numOf draw k o' (nth sp k)).dst=some d from e)] at this;cases this
  have hN:Dl ((nth sp i).rd.map (E5 sp Γ)) h a:=by
    clear hrd
    generalize (nth sp i).rd=l at Zf
    induction l with
    | nil=>trivial
    | cons q r ih=>exact ⟨Zf q (by simp),ih (fun q' hq'=>Zf q' (by simp [hq']))⟩
  -- what it uses as an owner
  have hkd2:∀ q ∈ (nth sp i).kd,Λ' (Ai sp Λ q).1=some (Ai sp Λ q).2:=by
    intro q hq
    have:=List.all_eq_true.1 hkd q hq
    unfold Ai
    cases hq2:q.2 with
    | some j =>
      rw [hq2] at this
      simp only [Bool.and_eq_true] at this
      obtain ⟨⟨hp,hj⟩,hm⟩:=this
      cases hy:LW (nums draw 0 ops.toList sp) j with
      | none=>rw [hy] at hj;cases hj
      | some y =>
        obtain ⟨oj,hoj⟩:=JU draw _ _ 0 j y hy
        rw [hnum j oj hoj] at hj
        simp only [numOf,ownsU] at hj
        cases hl:qw (nth sp j).U q.1 with
        | none=>rw [hl] at hj;cases hj
        | some e =>
          cases e with
          | none=>rw [hl] at hj;cases hj
          | some e =>
            have:Λ' q.1=some e:=by
              refine hown q.1 j oj (some e) hoj (hS1 j hp) (Qx hl) ?_
              intro m o' hm' NK hs
              have:=zA hm (hnum m o' hm')
              simp only [Bool.or_eq_true,Bool.not_eq_true',Nat.beq_eq,Nat.ble_eq] at this
              rcases this with ((h1 | h1) | h1) | h1
              · rw [show (numOf draw m o' (nth sp m)).sets q.1=Ce (full (nth sp m).U o'.dst) q.1 from rfl,hs] at h1;cases h1
              · rw [Xi m o' hm' h1] at NK;cases NK
              · exact h1
              · exact absurd h1 (hSi m NK)
            simpa [hl] using this
    | none =>
      rw [hq2] at this
      simp only [Bool.and_eq_true] at this
      obtain ⟨h1,hm⟩:=this
      have h2:Λ' q.1=Λ q.1:=by
        refine hown0 q.1 ?_
        intro m o' hm' NK
        have:=zA hm (hnum m o' hm')
        simp only [Bool.or_eq_true,Bool.not_eq_true',Nat.beq_eq] at this
        rcases this with (h1 | h1) | h1
        · exact h1
        · rw [Xi m o' hm' h1] at NK;cases NK
        · exact absurd h1 (hSi m NK)
      cases hl:Λ q.1 with
      | none=>rw [hl] at h1;cases h1
      | some e=>simp [h2,hl]
  have hkd':∀ q ∈ (nth sp i).kd,∃ e,L (Ai sp Λ q).1=some e∧(Ai sp Λ q).2 (a.gt (Ai sp Λ q).1) e:=fun q hq=>vN _ _ (hkd2 q hq)
  have hK:Vw ((nth sp i).kd.map (Ai sp Λ)) L a:=by
    clear hkd
    generalize (nth sp i).kd=l at hkd'
    induction l with
    | nil=>trivial
    | cons q r ih=>exact ⟨hkd' q (by simp),ih (fun q' hq'=>hkd' q' (by simp [hq']))⟩
  -- behind it
  have hafter:∀ v h' w' L',nI h h'→(nth sp i).f.p h' ((nth sp i).f.dv a) v→St B h' (Sum.elim L' F) w'→UpdS ((nth sp i).kd.map (Ai sp Λ)) L L' (full (nth sp i).U o.dst) (a.put o.dst v) →
      J B h0 Γ Λ F n ops.toList sp (fun k=>bif Nat.beq k i then true else S k) (a.put o.dst v) w':=by
    intro v h' w' L' hl hf hst' Zg
    have hS':∀ k,(bif Nat.beq k i then true else S k)=true→k=i∨S k=true:=by
      intro k hk
      cases hb:Nat.beq k i with
      | true=>exact .inl (iQ.1 hb)
      | false=>rw [hb] at hk;exact .inr hk
    have hSk:∀ k,S k=true→(bif Nat.beq k i then true else S k)=true:=by
      intro k hk;rw [hk];cases Nat.beq k i <;> rfl
    have Xj:(bif Nat.beq i i then true else S i)=true:=by rw [iQ.2 rfl];rfl
    refine ⟨h',fun s=>match qw (full (nth sp i).U o.dst) s with | some e=>e | none=>Λ' s,L',hle.trans hl,hst',?_,by rw [size_put];exact hsz,by rw [SA];exact hdf,?_,?_,?_,?_⟩
    · intro s q hq
      have hu:=Zg s
      simp only [] at hq
      cases hlk:qw (full (nth sp i).U o.dst) s with
      | some e =>
        rw [hlk] at hq hu
        simp only [] at hq
        subst hq
        exact hu
      | none =>
        rw [hlk] at hq hu
        simp only [] at hq hu
        rcases hu with hu | ⟨q',hm,hu⟩
        · rw [hu,Ah]
          · exact vN s q hq
          · intro e
            obtain ⟨e',he'⟩:=OZ (U:=(nth sp i).U) (d:=s)
            rw [e,he'] at hlk;cases hlk
        · obtain ⟨qq,hqq,he⟩:=List.mem_map.1 hm
          have h3:=hkd2 qq hqq
          rw [he] at h3
          have hq:Λ' s=some q:=hq
          have h3:Λ' s=some q':=h3
          rw [h3] at hq;cases hq
          exact hu
    · intro s hs BL
      have h1:o.dst≠some s:=hs i o hi Xj
      refine Xh ((Γ s).mono hl (hbase s (fun k o' hk hSk'=>hs k o' hk (hSk k hSk')) BL)) h1 ?_
      intro d hd
      rcases BL with h2 | ⟨d',h2,h3⟩
      · rw [h2] at hd;cases hd
      · rw [h2] at hd;cases hd;exact h3 i o hi
    · intro k o' d hk hSk' hd hal
      rcases hS' k hSk' with rfl | hSk''
      · rw [hi] at hk;cases hk
        have hdn:d<a.tmps.size:=by
          rw [hsz];refine DW o ?_ d hd
          rw [zf] at hi;exact List.mem_of_getElem? hi
        unfold aQ.at
        rw [hd,fG hdn]
        have:(nth sp k).f.dv (a.put (some d) v)=(nth sp k).f.dv a:=by
          unfold aQ.dv
          cases BL:(nth sp k).f.dep with
          | none=>rfl
          | some d' =>
            simp only []
            refine JS ?_
            intro e;subst e
            exact hal _ k o BL hi Xj hd
        rw [this];exact hf
      · have hne:k≠i:=hSi k hSk''
        refine Xh ((nth sp k).f.mono hl (hops k o' d hk hSk'' hd (fun e m o2 he hm NK=>hal e m o2 he hm (hSk m NK)))) ?_ ?_
        · intro e;exact hd1 d e k o' hk hne hd
        · intro d' hd' e
          exact hal d' i o hd' hi Xj e
    · intro s j o' e hj hSj hlk hmax
      simp only []
      rcases hS' j hSj with rfl | hSj'
      · rw [hi] at hj;cases hj;rw [hlk]
      · cases hli:qw (full (nth sp i).U o.dst) s with
        | some e' =>
          exfalso
          have hsi:Ce (full (nth sp i).U o.dst) s=true:=by simp [Ce,hli]
          have hij:=hmax i o hi Xj hsi
          have:=List.all_eq_true.1 hset s (Vz hsi)
          have:=zA this (hnum j o' hj)
          simp only [Bool.or_eq_true,Bool.not_eq_true',Nat.ble_eq] at this
          rcases this with (h1 | h1) | h1
          · rw [show (numOf draw j o' (nth sp j)).sets s = Ce (full (nth sp j).U o'.dst) s from rfl] at h1
            simp [Ce,hlk] at h1
          · exact hSi j hSj' (by omega)
          · rw [Xi j o' hj h1] at hSj';cases hSj'
        | none =>
          exact hown s j o' e hj hSj' hlk (fun m o'' hm NK hs=>hmax m o'' hm (hSk m NK) hs)
    · intro s hs
      simp only []
      have:=hs i o hi Xj
      cases hli:qw (full (nth sp i).U o.dst) s with
      | some e'=>simp [Ce,hli] at this
      | none=>exact hown0 s (fun m o' hm NK=>hs m o' hm (hSk m NK))
  have hdn:∀ d,o.dst=some d→d<a.tmps.size:=fun d hd=>by
    rw [hsz];refine DW o ?_ d hd
    rw [zf] at hi;exact List.mem_of_getElem? hi
  have hO:=hob i o hi
  unfold wpOpIn
  rw [hopI]
  simp only []
  unfold OW at hO
  cases hg:o.guard with
  | none =>
    rw [hg] at hO
    have:Region.wanted o (yielded ops a.tmps)=true:=by simp [Region.wanted,hg]
    rw [this,if_pos rfl]
    exact Xd (hO _ B F _ h a w hst hN hK hdn _ Q (fun v h' w' L' hl hf hst' hu=>hafter v h' w' L' hl hf hst' hu.soft) (fun v h' w' L' hl hf hst' hu=>hafter v h' w' L' hl hf hst' hu))
  | some g =>
    obtain ⟨j,want⟩:=g
    rw [hg] at hO
    simp only [] at hO
    obtain ⟨C,d,hjd,hhead,hbt,hbf,hyes,hno⟩:=hO
    have hmem:(d,some j) ∈ (nth sp i).rd:=List.mem_of_mem_head? hhead
    have hfact:=Zf _ hmem
    simp only [E5] at hfact
    have hjd':(ops[j]?).bind (·.dst)=some d:=by rw [zf] at hjd;simpa using hjd
    by_cases hw:C
    · have hv:=hbt hw _ _ _ hfact
      have hdn':a.tmps[d]? = some (.bool want):=by
        unfold Act.gt at hv
        cases hx:a.tmps[d]? with
        | none=>rw [Array.getD_eq_getD_getElem?,hx] at hv;cases hv
        | some x=>rw [Array.getD_eq_getD_getElem?,hx] at hv;exact congrArg some hv
      have:Region.wanted o (yielded ops a.tmps)=true:=by
        unfold Region.wanted;rw [hg];show (yielded ops a.tmps j == some want)=true
        unfold yielded;rw [hjd'];simp only [Option.bind_some,hdn'];exact beq_self_eq_true _
      rw [this,if_pos rfl]
      exact Xd (hyes hw _ B F _ h a w hst hN hK hdn _ Q (fun v h' w' L' hl hf hst' hu=>hafter v h' w' L' hl hf hst' hu.soft) (fun v h' w' L' hl hf hst' hu=>hafter v h' w' L' hl hf hst' hu))
    · have hv:=hbf hw _ _ _ hfact
      have:Region.wanted o (yielded ops a.tmps)=false:=by
        unfold Region.wanted;rw [hg];show (yielded ops a.tmps j == some want)=false
        rw [beq_eq_false_iff_ne]
        unfold yielded;rw [hjd'];simp only [Option.bind_some]
        intro e
        apply hv
        unfold Act.gt
        rw [Array.getD_eq_getD_getElem?]
        cases hx:a.tmps[d]? with
        | none=>rw [hx] at e;cases e
        | some x=>rw [hx] at e;cases x <;> simp at e;rw [e];rfl
      rw [this,if_neg (by simp)]
      obtain ⟨hU,hds,hf⟩:=hno hw
      refine ⟨fun _ _=>trivial,hafter undef h w L (nI.refl h) (hf _ _) hst ?_⟩
      intro s
      cases hlu:qw (nth sp i).U s with
      | some e =>
        rw [Qx hlu]
        obtain ⟨hne,q,q',rfl,hm,himp⟩:=hU s e hlu
        obtain ⟨e',h1,h2⟩:=hK.mem hm
        exact ⟨e',h1,by rw [Ah hne];exact himp _ _ h2⟩
      | none =>
        cases hlk:qw (full (nth sp i).U o.dst) s with
        | none=>exact .inl rfl
        | some e =>
          have:e=none:=by
            have h0:∀ U:Hr,qw U s=none→qw (full U o.dst) s=some e→e=none:=by
              intro U
              induction U with
              | nil =>
                intro _
                unfold full
                cases o.dst with
                | none=>intro h;cases h
                | some d'=>simp only [List.nil_append,qw];cases Nat.beq d' s <;> intro h <;> cases h;rfl
              | cons x r ih =>
                obtain ⟨k,f⟩:=x
                intro h1 h2
                simp only [qw] at h1
                cases hb:Nat.beq k s with
                | true=>rw [hb] at h1;cases h1
                | false =>
                  rw [hb] at h1
                  refine ih h1 ?_
                  unfold full at h2 ⊢
                  simpa only [List.cons_append,qw,hb,cond_false] using h2
            exact h0 _ hlu hlk
          subst this
          trivial

theorem Hw {S':Nat→Bool} {ol:List Oper} (hS:∀ k o,um ol k=some o→S k=S' k) (hJ:J B h0 Γ Λ F n ol sp S a w):J B h0 Γ Λ F n ol sp S' a w:=by
 obtain ⟨h,Λ',L,hle,hst,vN,hsz,hdf,h1,h2,h3,h4⟩:=hJ
 refine ⟨h,Λ',L,hle,hst,vN,hsz,hdf,?_,?_,?_,?_⟩
 ·exact fun s hs=>h1 s (fun k o hk hS1=>hs k o hk (hS k o hk ▸ hS1))
 ·exact fun k o d hk hS1 hd hal=>h2 k o d hk ((hS k o hk).trans hS1) hd (fun e m o' he hm NK=>hal e m o' he hm (hS m o' hm ▸ NK))
 ·exact fun s j o e hj hS1 hl hm=>h3 s j o e hj ((hS j o hj).trans hS1) hl (fun m o' hm' hS2=>hm m o' hm' (hS m o' hm' ▸ hS2))
 ·exact fun s hs=>h4 s (fun m o' hm' hS2=>hs m o' hm' (hS m o' hm' ▸ hS2))
theorem O1 (hAt:At B h0 Γ Λ F n a w) (ol:List Oper) (sp:List OS):J B h0 Γ Λ F n ol sp (fun _=>false) a w:=by
 obtain ⟨h,L,hle,hst,vN,oO,hsz,hdf⟩:=hAt
 exact ⟨h,Λ,L,hle,hst,vN,hsz,hdf,fun s _ _=>oO s,fun _ _ _ _ hS _ _=>(by cases hS),fun _ _ _ _ _ hS=>(by cases hS),fun _ _=>rfl⟩
theorem Zh {ol:List Oper} (hJ:J B h0 Γ Λ F n ol sp S a w) (k:Nat) (hk:w.drawn≤k):J B h0 Γ Λ F n ol sp S a { w with drawn:=k }:=by
 obtain ⟨h,Λ',L,hle,hst,r⟩:=hJ
 exact ⟨h,Λ',L,hle,hst.drawn k hk,r⟩
def SB (Γ:Ctx):List Oper→List OS→Ctx
 | o :: os,x :: ss,s=>bif WM o.dst s then x.f else SB Γ os ss s
 | _,_,s=>Γ s
def Cf:List Oper→Nat→Bool
 | [],_=>false
 | o :: os,s=>WM o.dst s||Cf os s
def Ik (Γ:Ctx) (os:List Oper) (ss:List OS):Ctx:=fun s =>
 bif Cf os s then (match (SB Γ os ss s).dep with | none=>SB Γ os ss s | some d=>bif Cf os d then aQ.rD else SB Γ os ss s) else (match (Γ s).dep with | none=>Γ s | some d=>bif Cf os d then aQ.rD else Γ s)
def Cb (Λ:Own):List Oper→List OS→Own
 | o :: os,x :: ss,s=>(match Ee os ss s with | some e=>e | none=>match qw (full x.U o.dst) s with | some e=>e | none=>Λ s)
 | _,_,s=>Λ s
where Ee:List Oper→List OS→Nat→Option (Option (eP))
 | o :: os,x :: ss,s=>(match Ee os ss s with | some e=>some e | none=>qw (full x.U o.dst) s)
 | _,_,_=>none
theorem IC {os:List Oper} {s:Nat}:Cf os s=true↔∃ k o,um os k=some o∧o.dst=some s:=by
  induction os with
  | nil => constructor
           · intro h;cases h
           · rintro ⟨k,o,h,_⟩;cases k <;> cases h
  | cons x r ih =>
    simp only [Cf,Bool.or_eq_true,Ht,ih]
    constructor
    · rintro (h | ⟨k,o,h1,h2⟩)
      · exact ⟨0,x,rfl,h⟩
      · exact ⟨k+1,o,h1,h2⟩
    · rintro ⟨k,o,h1,h2⟩
      cases k with
      | zero=>cases h1;exact .inl h2
      | succ k=>exact .inr ⟨k,o,h1,h2⟩

theorem VA {Γ:Ctx} {s:Nat}:∀ (os:List Oper) (ss:List OS),os.length=ss.length→Cf os s=true→∃ k o,um os k=some o∧o.dst=some s∧SB Γ os ss s=(nth ss k).f:=by
 intro os
 induction os with
 | nil=>intro ss _ h;cases h
 | cons o r ih =>
  intro ss hlen h
  cases ss with
  | nil=>simp at hlen
  | cons x ss =>
   cases hd:WM o.dst s with
   | true=>exact ⟨0,o,rfl,Ht.1 hd,by simp [SB,hd,nth]⟩
   | false =>
    simp only [Cf,hd,Bool.false_or] at h
    obtain ⟨k,o',h1,h2,h3⟩:=ih ss (by simpa using hlen) h
    exact ⟨k+1,o',h1,h2,by simp only [SB,hd,cond_false,nth];exact h3⟩
theorem SC {s:Nat}:∀ (os:List Oper) (ss:List OS),os.length=ss.length →
  (∀ e,Cb.Ee os ss s=some e→∃ j o,um os j=some o∧qw (full (nth ss j).U o.dst) s=some e∧∀ m o',um os m=some o'→Ce (full (nth ss m).U o'.dst) s=true→m≤j) ∧
  (Cb.Ee os ss s=none→∀ m o',um os m=some o'→Ce (full (nth ss m).U o'.dst) s=false):=by
 intro os
 induction os with
 | nil=>intro ss _;exact ⟨fun e h=>(by cases ss <;> cases h),fun _ m o' h=>(by cases m <;> cases h)⟩
 | cons o r ih =>
  intro ss hlen
  cases ss with
  | nil=>simp at hlen
  | cons x ss =>
   obtain ⟨ih1,ih2⟩:=ih ss (by simpa using hlen)
   cases he:Cb.Ee r ss s with
   | some e' =>
    obtain ⟨j,oj,h1,h2,h3⟩:=ih1 e' he
    constructor
    ·intro e h
     simp only [Cb.Ee,he] at h;cases h
     refine ⟨j+1,oj,h1,h2,fun m o' hm hs=>?_⟩
     cases m with
     | zero=>omega
     | succ m=>have:=h3 m o' hm hs;omega
    ·intro h;simp only [Cb.Ee,he] at h;cases h
   | none =>
    have hr:=ih2 he
    constructor
    ·intro e h
     simp only [Cb.Ee,he] at h
     refine ⟨0,o,rfl,h,fun m o' hm hs=>?_⟩
     cases m with
     | zero=>omega
     | succ m=>have:=hr m o' hm;simp only [nth] at hs;rw [this] at hs;cases hs
    ·intro h
     simp only [Cb.Ee,he] at h
     intro m o' hm
     cases m with
     | zero=>cases hm;simp [nth,Ce,h]
     | succ m=>exact hr m o' hm
theorem Xk (hlen:ops.toList.length=sp.length) (hJ:J B h0 Γ Λ F n ops.toList sp S a w) (hall:∀ k o,um ops.toList k=some o→S k=true) :
  At B h0 (Ik Γ ops.toList sp) (Cb Λ ops.toList sp) F n a w:=by
 obtain ⟨h,Λ',L,hle,hst,vN,hsz,hdf,h1,h2,h3,h4⟩:=hJ
 refine ⟨h,L,hle,hst,?_,?_,hsz,hdf⟩
 ·have:Λ'=Cb Λ ops.toList sp:=by
   funext s
   obtain ⟨e1,e2⟩:=SC (s:=s) ops.toList sp hlen
   have hdef:Cb Λ ops.toList sp s=match Cb.Ee ops.toList sp s with | some e=>e | none=>Λ s:=by
    cases ho:ops.toList with
    | nil=>cases hs:sp <;> rfl
    | cons o r=>cases hs:sp with
     | nil=>rw [ho,hs] at hlen;simp at hlen
     | cons x ss =>
      simp only [Cb,Cb.Ee]
      cases Cb.Ee r ss s with
      | some e=>rfl
      | none=>cases qw (full x.U o.dst) s <;> rfl
   rw [hdef]
   cases he:Cb.Ee ops.toList sp s with
   | some e =>
    obtain ⟨j,o,hj,hl,hm⟩:=e1 e he
    exact h3 s j o e hj (hall j o hj) hl (fun m o' hm' _ hs=>hm m o' hm' hs)
   | none=>exact h4 s (fun m o' hm' _=>e2 he m o' hm')
  rw [← this];exact vN
 ·intro s
  unfold Ik
  cases ha:Cf ops.toList s with
  | true =>
   obtain ⟨k,o,hk,hd,he⟩:=VA (Γ:=Γ) ops.toList sp hlen ha
   rw [cond_true,he]
   cases BL:(nth sp k).f.dep with
   | none =>
    simp only []
    exact h2 k o s hk (hall k o hk) hd (fun e m o' h=>by rw [BL] at h;cases h)
   | some d =>
    simp only []
    cases hb:Cf ops.toList d with
    | true=>exact trivial
    | false =>
     refine h2 k o s hk (hall k o hk) hd (fun e m o' h hm _ hdm=>?_)
     rw [BL] at h;cases h
     have:=IC.2 ⟨m,o',hm,hdm⟩;rw [hb] at this;cases this
  | false =>
   rw [cond_false]
   have hns:∀ k o,um ops.toList k=some o→S k=true→o.dst≠some s:=fun k o hk _ e=>by
    have:=IC.2 ⟨k,o,hk,e⟩;rw [ha] at this;cases this
   cases BL:(Γ s).dep with
   | none=>exact h1 s hns (.inl BL)
   | some d =>
    simp only []
    cases hb:Cf ops.toList d with
    | true=>exact trivial
    | false =>
     refine h1 s hns (.inr ⟨d,BL,fun k o hk e=>?_⟩)
     have:=IC.2 ⟨k,o,hk,e⟩;rw [hb] at this;cases this
theorem wp_reg {id:Nat} {Q:Exit→Act→World→Prop} (sp:List OS) (hAt:At B h0 Γ Λ F n a w) (Ed:LQ P sp ops.toList Γ Λ ops.toList sp)
  (vZ:chk Γ Λ false ops.toList sp=true) (DW:∀ o ∈ ops.toList,∀ d,o.dst=some d→d<n)
  (hnext:∀ a w,At B h0 (Ik Γ ops.toList sp) (Cb Λ ops.toList sp) F n a w→Q .normal a w):(Code.region id ops false).rJ ρ P Q a w:=by
 have hlen:=(Hu _ _ Ed).1
 refine wpIn_region ?_
 have key:∀ m k a w,k+m=ops.size→J B h0 Γ Λ F n ops.toList sp (fun j=>Nat.blt j k) a w→wpOpsIn (LG ρ) 0 P ops Q ((List.range' k m)) a w:=by
  intro m
  induction m with
  | zero =>
   intro k a w hk hJ
   refine hnext a w (Xk hlen hJ ?_)
   intro j o hj
   have:j<ops.size:=by rw [zf] at hj;have:=(List.getElem?_eq_some_iff.1 hj).1;simpa using this
   rw [Nat.blt_eq];omega
  | succ m ih =>
   intro k a w hk hJ
   rw [List.range'_succ,wpOpsIn_cons]
   have hkl:k<ops.size:=by omega
   have hi:um ops.toList k=some ops[k]:=by rw [zf];simp [hkl]
   refine wpOpIn_mono ?_ (O0 Ed vZ DW hi ?_ ?_ ?_ ?_ hJ)
   ·intro a w hJ'
    refine ih (k+1) a w (by omega) (Hw (fun j o _=>?_) hJ')
    cases hb:Nat.beq j k with
    | true=>rw [iQ] at hb;subst hb;simp [Nat.blt_eq]
    | false =>
     have:j≠k:=fun e=>by rw [iQ.2 e] at hb;cases hb
     simp only [cond_false]
     rw [Bool.eq_iff_iff,Nat.blt_eq,Nat.blt_eq];omega
   ·rw [Bool.eq_false_iff,Ne,Nat.blt_eq];omega
   ·intro j hj;simpa [numOf] using hj
   ·intro j o' _ hj
    simp only [numOf,cond_false,Nat.blt_eq] at hj
    rw [Bool.eq_false_iff,Ne,Nat.blt_eq];omega
   ·intro m o' _ hm j hj
    simp only [numOf,cond_false,Nat.blt_eq] at hj hm ⊢
    omega
 have:=key ops.size 0 a w (by omega) (Hw (fun j o _=>by rw [eq_comm,Bool.eq_false_iff,Ne,Nat.blt_eq];omega) (O1 hAt _ sp))
 rwa [← List.range_eq_range'] at this
def posOf:List Nat→Nat→Nat
 | [],_=>0
 | x :: r,i=>bif Nat.beq x i then 0 else posOf r i+1
def zL (md:Region.Mode) (rk:List Nat):Nat→List Oper→Bool
 | _,[]=>true
 | i,o :: os=>o.after.toList.all (fun e=>!(Region.binds md e)||Nat.blt (posOf rk e.on) (posOf rk i))&&zL md rk (i+1) os
def inRange (m:Nat):List Oper→Bool
 | []=>true
 | o :: os=>o.after.toList.all (fun e=>Nat.blt e.on m)&&inRange m os
theorem Qy {md:Region.Mode} {rk:List Nat}:∀ (os:List Oper) (i:Nat),zL md rk i os=true→∀ k o,um os k=some o→∀ e ∈ o.after,Region.binds md e=true→posOf rk e.on<posOf rk (i+k):=by
 intro os
 induction os with
 | nil=>intro i _ k o h;cases k <;> cases h
 | cons x r ih =>
  intro i h k o hk e he hb
  simp only [zL,Bool.and_eq_true] at h
  cases k with
  | zero =>
   cases hk
   have:=List.all_eq_true.1 h.1 e (Array.mem_toList_iff.2 he)
   simp only [hb,Bool.not_true,Bool.false_or,Nat.blt_eq] at this
   exact this
  | succ k=>have:=ih (i+1) h.2 k o hk e he hb;rwa [show i+1+k=i+(k+1) from by omega] at this
theorem O3 {m:Nat}:∀ (os:List Oper),inRange m os=true→∀ k o,um os k=some o→∀ e ∈ o.after,e.on<m:=by
 intro os
 induction os with
 | nil=>intro _ k o h;cases k <;> cases h
 | cons x r ih =>
  intro h k o hk e he
  simp only [inRange,Bool.and_eq_true] at h
  cases k with
  | zero =>
   cases hk
   have:=List.all_eq_true.1 h.1 e (Array.mem_toList_iff.2 he)
   rwa [Nat.blt_eq] at this
  | succ k=>exact ih h.2 k o hk e he
theorem E8 (md:Region.Mode) {e:Edge} (h:always e.ground=true):Region.binds md e=true:=by
 unfold Region.binds
 cases hg:e.ground <;> rw [hg] at h <;> simp [always] at h ⊢
theorem Zi {Q:Exit→Act→World→Prop} {md:Region.Mode} (sp:List OS) (Ed:LQ P sp ops.toList Γ Λ ops.toList sp)
    (vZ:chk Γ Λ true ops.toList sp=true) (DW:∀ o ∈ ops.toList,∀ d,o.dst=some d→d<n) (rk:List Nat) (hrk:zL md rk 0 ops.toList=true) (hin:inRange ops.size ops.toList=true)
    (hnext:∀ a w,At B h0 (Ik Γ ops.toList sp) (Cb Λ ops.toList sp) F n a w→Q .normal a w) :
    ∀ (fuel:Nat) (listed:Array Bool) (a:Act) (w:World),listed.size=ops.size→(∀ l:List Nat,l.Nodup→(∀ i ∈ l,i<ops.size∧listed.getD i false=false)→l.length≤fuel) →
      (∀ i o,um ops.toList i=some o→listed.getD i false=true→∀ e ∈ o.after,Region.binds md e=true→listed.getD e.on false=true) →
      J B h0 Γ Λ F n ops.toList sp (fun i=>listed.getD i false) a w→wpAnyIn (LG ρ) 0 P md ops Q fuel listed a w:=by
  have hlen:=(Hu _ _ Ed).1
  have hnth:∀ i,i<ops.size→∃ o,um ops.toList i=some o∧ops[i]? = some o:=fun i hi=>⟨ops[i],by rw [zf];simp [hi],by simp [hi]⟩
  have hlt:∀ i o,um ops.toList i=some o→i<ops.size:=fun i o h=>by rw [zf] at h;have:=(List.getElem?_eq_some_iff.1 h).1;simpa using this
  -- if nothing is ready,all is done
  have hdone:∀ (listed:Array Bool) a w,listed.size=ops.size→Region.ready md ops listed=[]→J B h0 Γ Λ F n ops.toList sp (fun i=>listed.getD i false) a w→Q .normal a w:=by
    intro listed a w hsz hr hJ
    refine hnext a w (Xk hlen hJ ?_)
    have main:∀ p i o,posOf rk i=p→um ops.toList i=some o→listed.getD i false=true:=by
      intro p
      induction p using Nat.strongRecOn with
      | _ p ih =>
        intro i o hp hi
        cases hl:listed.getD i false with
        | true=>rfl
        | false =>
          exfalso
          have hmem:i ∈ Region.ready md ops listed:=by
            rw [mem_ready]
            have hii:=hlt i o hi
            refine ⟨?_,o,by rw [zf] at hi;simpa using hi,?_⟩
            · have : i < listed.size := by omega
              simp only [Array.getD_eq_getD_getElem?,this,Array.getElem?_eq_getElem,Option.getD_some] at hl ⊢
              exact hl
            · intro e he hb
              obtain ⟨o',ho',_⟩:=hnth e.on (O3 _ hin i o hi e he)
              have:=Qy _ 0 hrk i o hi e he hb
              rw [Nat.zero_add] at this
              exact ih _ (hp ▸ this) e.on o' rfl ho'
          rw [hr] at hmem;cases hmem
    exact fun k o hk=>main _ k o rfl hk
  intro fuel
  induction fuel with
  | zero =>
    intro listed a w hsz hcnt hcl hJ
    have hr:Region.ready md ops listed=[]:=by
      cases hr:Region.ready md ops listed with
      | nil=>rfl
      | cons x xs =>
        exfalso
        have hx:x ∈ Region.ready md ops listed:=by rw [hr];simp
        obtain ⟨h1,o,h2,_⟩:=mem_ready.1 hx
        have hxs:x<ops.size:=(Array.getElem?_eq_some_iff.1 h2).1
        have:=hcnt [x] (by simp) (by
          intro i hi;simp at hi;subst hi
          refine ⟨hxs,?_⟩
          have:i<listed.size:=by omega
          simp only [Array.getD_eq_getD_getElem?,this,Array.getElem?_eq_getElem,Option.getD_some] at h1 ⊢
          exact h1)
        simp at this
    exact ⟨hr,hdone listed a w hsz hr hJ⟩
  | succ fuel ih =>
    intro listed a w hsz hcnt hcl hJ
    refine ⟨fun hr=>hdone listed a w hsz hr hJ,?_⟩
    intro i hi
    obtain ⟨h1,o,h2,h3⟩:=mem_ready.1 hi
    have his:i<ops.size:=(Array.getElem?_eq_some_iff.1 h2).1
    have hil:i<listed.size:=by omega
    have hiO:um ops.toList i=some o:=by rw [zf];simpa using h2
    have hif:listed.getD i false=false:=by
      simp only [Array.getD_eq_getD_getElem?,hil,Array.getElem?_eq_getElem,Option.getD_some] at h1 ⊢
      exact h1
    refine wpOpIn_mono ?_ (O0 Ed vZ DW hiO hif ?_ ?_ ?_ hJ)
    · intro a' w' hJ'
      have hset:∀ j,(listed.setIfInBounds i true).getD j false=bif Nat.beq j i then true else listed.getD j false:=by
        intro j
        cases hb:Nat.beq j i with
        | true=>rw [iQ] at hb;subst hb;simp [hil]
        | false =>
          have:i≠j:=fun e=>by rw [iQ.2 e.symm] at hb;cases hb
          rw [cond_false,getD_set_ne false this]
      refine ih _ a' w' (by simp [hsz]) ?_ ?_ (Hw (fun j _ _=>(hset j).symm) hJ')
      · intro l hnd hl
        have hil':i ∉ l:=fun hm=>by
          have:=(hl i hm).2;rw [hset,iQ.2 rfl] at this;cases this
        have:=hcnt (i :: l) (List.nodup_cons.2 ⟨hil',hnd⟩) (by
          intro j hj
          rcases List.mem_cons.1 hj with rfl | hj
          · exact ⟨his,hif⟩
          · obtain ⟨h4,h5⟩:=hl j hj
            refine ⟨h4,?_⟩
            rw [hset] at h5
            cases hb:Nat.beq j i with
            | true=>rw [hb] at h5;cases h5
            | false=>rw [hb] at h5;exact h5)
        simp only [List.length_cons] at this;omega
      · intro j oj hj hlj e he hb
        have hmono:∀ m,listed.getD m false=true→(listed.setIfInBounds i true).getD m false=true:=fun m hm=>by rw [hset,hm];cases Nat.beq m i <;> rfl
        rw [hset] at hlj
        cases hbj:Nat.beq j i with
        | true =>
          rw [iQ] at hbj;subst hbj
          rw [hiO] at hj;cases hj
          exact hmono _ (h3 e he hb)
        | false=>rw [hbj] at hlj;exact hmono _ (hcl j oj hj hlj e he hb)
    · intro j hj
      simp only [numOf,cond_true] at hj
      obtain ⟨e,he,Qz⟩:=List.mem_filterMap.1 (OX.1 hj)
      cases hal:always e.ground with
      | false=>rw [hal] at Qz;cases Qz
      | true =>
        rw [hal] at Qz;simp only [cond_true,Option.some.injEq] at Qz
        subst Qz
        exact h3 e (Array.mem_toList_iff.1 he) (E8 md hal)
    · intro m o' hm hj
      simp only [numOf,cond_true] at hj
      obtain ⟨e,he,Qz⟩:=List.mem_filterMap.1 (OX.1 hj)
      cases hal:always e.ground with
      | false=>rw [hal] at Qz;cases Qz
      | true =>
        rw [hal] at Qz;simp only [cond_true,Option.some.injEq] at Qz
        cases hlm:listed.getD m false with
        | false=>rfl
        | true =>
          have:=hcl m o' hm hlm e (Array.mem_toList_iff.1 he) (E8 md hal)
          rw [Qz,hif] at this;cases this
    · intro m o' hm hlm j hj
      simp only [numOf,cond_true] at hj
      obtain ⟨e,he,Qz⟩:=List.mem_filterMap.1 (OX.1 hj)
      cases hal:always e.ground with
      | false=>rw [hal] at Qz;cases Qz
      | true =>
        rw [hal] at Qz;simp only [cond_true,Option.some.injEq] at Qz
        subst Qz
        exact hcl m o' hm hlm e (Array.mem_toList_iff.1 he) (E8 md hal)

theorem Xl:∀ (m:Nat) (l:List Nat),l.Nodup→(∀ i ∈ l,i<m)→l.length≤m:=by
 intro m
 induction m with
 | zero=>intro l _ h;cases l with
  | nil=>simp
  | cons x r=>exact absurd (h x (by simp)) (by omega)
 | succ m ih =>
  intro l hnd h
  by_cases hm:m ∈ l
  ·have h1:=ih (l.erase m) (hnd.erase m) (fun i hi=>by
    have h2:=h i (List.mem_of_mem_erase hi)
    have h3:i≠m:=fun e=>by subst e;exact (List.Nodup.not_mem_erase hnd) hi
    omega)
   rw [List.length_erase_of_mem hm] at h1;omega
  ·have:=ih l hnd (fun i hi=>by
    have h2:=h i hi
    have h3:i≠m:=fun e=>by subst e;exact hm hi
    omega)
   omega
theorem Ze {id:Nat} {Q:Exit→Act→World→Prop} (sp:List OS) (rt rg:List Nat) (hAt:At B h0 Γ Λ F n a w) (Ed:LQ P sp ops.toList Γ Λ ops.toList sp)
  (vZ:(chk Γ Λ true ops.toList sp&&inRange ops.size ops.toList&&zL .text rt 0 ops.toList&&zL .gc rg 0 ops.toList&&zL .any rt 0 ops.toList)=true) (DW:∀ o ∈ ops.toList,∀ d,o.dst=some d→d<n)
  (hnext:∀ a w,At B h0 (Ik Γ ops.toList sp) (Cb Λ ops.toList sp) F n a w→Q .normal a w):(Code.region id ops true).rJ ρ P Q a w:=by
 simp only [Bool.and_eq_true] at vZ
 obtain ⟨⟨⟨⟨hc,hin⟩,hrt⟩,hrg⟩,hra⟩:=vZ
 have hstart:J B h0 Γ Λ F n ops.toList sp (fun i=>(Array.replicate ops.size false).getD i false) a { w with drawn:=w.drawn+1 }:=by
  refine Hw (fun k _ _=>?_) (Zh (O1 hAt _ sp) _ (Nat.le_succ _))
  simp only [Array.getD_eq_getD_getElem?,Array.getElem?_replicate]
  split <;> rfl
 have hany:∀ md rk,zL md rk 0 ops.toList=true→∀ t,wpOpsIn (LG ρ) 0 P ops Q (Region.linearise md ops t) a { w with drawn:=w.drawn+1 }:=by
  intro md rk hrk t
  refine wpAnyIn_sound ops.size t _ a _ (Zi sp Ed hc DW rk hrk hin hnext ops.size _ a _ (by simp) ?_ ?_ hstart)
  ·intro l hnd hl
   exact Xl _ l hnd (fun i hi=>(hl i hi).1)
  ·intro i o _ hl
   simp only [Array.getD_eq_getD_getElem?,Array.getElem?_replicate] at hl
   split at hl <;> cases hl
 refine wpIn_region_draw fun t=>?_
 unfold Region.schedule
 split
 ·exact hany .any rt hra t
 ·split
  ·exact hany .text rt hrt _
  ·exact hany .gc rg hrg _
end step
end Go.KB
namespace Go.KB
abbrev Str:=List UInt8
def pack (agg:Bool) (cs:List Value):Value:=bif agg then .agg cs.toArray else (match cs with | c :: _=>c | []=>undef)
def gI (k:IntKind) (n:Int):Prop:=k.min≤n∧n≤k.max
def gS (s:Str):Prop:=s.length≤maxLen
def gL {α:Type} (G:α→Prop) (l:List α):Prop:=l.length≤maxLen∧∀ x ∈ l,G x
def gA {α:Type} (n:Nat) (G:α→Prop) (l:List α):Prop:=l.length=n∧∀ x ∈ l,G x
structure Rep (α:Type) where
 sz:Nat
 agg:Bool
 rel:H→List Value→α→Prop
 zero:α
 zc:List Value
 fr:Bool:=false
 one:agg=false→sz=1
 len:∀ {h cs x},rel h cs x→cs.length=sz
 flat:∀ {h cs x},rel h cs x→∀ c ∈ cs,c.oneCell'=true
 mono:∀ {h h' cs x},nI h h'→rel h cs x→rel h' cs x
 xX:∀ h,rel h zc zero
section
variable {α β:Type}
def Rep.val (r:Rep α) (h:H) (v:Value) (x:α):Prop:=∃ cs,r.rel h cs x∧v=pack r.agg cs
theorem Rep.Gq (r:Rep α) {h h':H} {v:Value} {x:α} (hl:nI h h'):r.val h v x→r.val h' v x:=fun ⟨cs,a,b⟩=>⟨cs,r.mono hl a,b⟩
def zJ (r:Rep α) (h:H) (b off:Nat) (x:α):Prop:=∃ cs,r.rel h cs x∧∀ j v,cs[j]? = some v→h b (off+j)=some v
theorem zJ.mono {r:Rep α} {h h':H} {b off:Nat} {x:α} (hl:nI h h'):zJ r h b off x→zJ r h' b off x :=
 fun ⟨cs,a,c⟩=>⟨cs,r.mono hl a,fun j v hj=>hl _ _ _ (c j v hj)⟩
def fV (r:Rep α) (x:α):aQ:=⟨none,fun h _ v=>r.val h v x,fun hl=>r.Gq hl⟩
def dn (r:Rep α) (x:α):aQ:=⟨none,fun h _ v=>∃ b off,v = .pointer (some ⟨b,off,none⟩)∧zJ r h b off x,fun hl ⟨b,off,e,x⟩=>⟨b,off,e,x.mono hl⟩⟩
def Rep.scalar (f:α→Value) (z:α) (h1:∀ x,(f x).oneCell'=true):Rep α where
 sz:=1
 agg:=false
 rel:=fun _ cs x=>cs=[f x]
 zero:=z
 zc:=[f z]
 one:=fun _=>rfl
 len:=fun e=>by rw [e];rfl
 flat:=fun e c hc=>by rw [e] at hc;simp at hc;rw [hc];exact h1 _
 mono:=fun _ e=>e
 xX:=fun _=>rfl
def Rep.int (k:IntKind):Rep Int:=Rep.scalar (fun n=>.int k n) 0 (fun _=>rfl)
def Rep.bool:Rep Bool:=Rep.scalar (fun b=>.bool b) false (fun _=>rfl)
def Rep.str:Rep Str:=Rep.scalar (fun s=>.string ⟨s.toArray⟩) [] (fun _=>rfl)
theorem eF {k:IntKind} {h:H} {v:Value} {x:Int}:(Rep.int k).val h v x↔v = .int k x :=
 ⟨fun ⟨_,e,e'⟩=>by rw [e',show _=_ from e];rfl,fun e=>⟨[.int k x],rfl,e⟩⟩
theorem qF {h:H} {v:Value} {x:Bool}:Rep.bool.val h v x↔v = .bool x :=
 ⟨fun ⟨_,e,e'⟩=>by rw [e',show _=_ from e];rfl,fun e=>⟨[.bool x],rfl,e⟩⟩
theorem wZ {h:H} {v:Value} {x:Str}:Rep.str.val h v x↔v = .string ⟨x.toArray⟩ :=
 ⟨fun ⟨_,e,e'⟩=>by rw [e',show _=_ from e];rfl,fun e=>⟨[.string ⟨x.toArray⟩],rfl,e⟩⟩
def wH (r:Rep α) (h:H) (v:Value) (xs:List α):Prop :=
 ((∃ base,v = .slice base 0 0)∧xs=[]) ∨
 ∃ b off cap,v = .slice (some ⟨b,off,none⟩) xs.length cap∧xs.length≤cap∧(∀ i x,xs[i]? = some x→zJ r h b (off+i * r.sz) x)∧(r.fr=true→h.n≤b)
theorem wH.mono {r:Rep α} {h h':H} {v:Value} {xs:List α} (hl:nI h h'):wH r h v xs→wH r h' v xs
 | .inl e=>.inl e
 | .inr ⟨b,off,cap,e,hc,k,m⟩=>.inr ⟨b,off,cap,e,hc,fun i x hx=>(k i x hx).mono hl,fun e=>by rw [hl.n];exact m e⟩
def Rep.slice (r:Rep α):Rep (List α) where
 sz:=1
 agg:=false
 rel:=fun h cs xs=>∃ v,cs=[v]∧wH r h v xs
 zero:=[]
 zc:=[.slice none 0 0]
 one:=fun _=>rfl
 len:=fun ⟨v,e,_⟩=>by rw [e];rfl
 flat:=fun ⟨v,e,k⟩ c hc=>by
  rw [e] at hc;simp at hc;rw [hc]
  rcases k with ⟨⟨base,rfl⟩,_⟩ | ⟨b,off,cap,rfl,_⟩ <;> rfl
 mono:=fun hl ⟨v,e,k⟩=>⟨v,e,k.mono hl⟩
 xX:=fun _=>⟨_,rfl,.inl ⟨⟨none,rfl⟩,rfl⟩⟩
theorem pK {r:Rep α} {h:H} {v:Value} {xs:List α}:(Rep.slice r).val h v xs↔wH r h v xs :=
 ⟨fun ⟨_,⟨v',e,k⟩,e'⟩=>by rw [e',e];exact k,fun k=>⟨[v],⟨v,rfl,k⟩,rfl⟩⟩
def Rep.unit:Rep Unit where
 sz:=0
 agg:=true
 rel:=fun _ cs _=>cs=[]
 zero:=()
 zc:=[]
 one:=fun e=>by cases e
 len:=fun e=>by rw [e];rfl
 flat:=fun e c hc=>by rw [e] at hc;cases hc
 mono:=fun _ e=>e
 xX:=fun _=>rfl
def Rep.prod (r:Rep α) (s:Rep β):Rep (α×β) where
 sz:=r.sz+s.sz
 agg:=true
 rel:=fun h cs x=>∃ c d,cs=c ++ d∧r.rel h c x.1∧s.rel h d x.2
 zero:=(r.zero,s.zero)
 zc:=r.zc ++ s.zc
 one:=fun e=>by cases e
 len:=fun ⟨c,d,e,a,b⟩=>by rw [e,List.length_append,r.len a,s.len b]
 flat:=fun ⟨c,d,e,a,b⟩ x hx=>by
  rw [e] at hx
  rcases List.mem_append.1 hx with hx | hx
  ·exact r.flat a x hx
  ·exact s.flat b x hx
 mono:=fun hl ⟨c,d,e,a,b⟩=>⟨c,d,e,r.mono hl a,s.mono hl b⟩
 xX:=fun h=>⟨r.zc,s.zc,rfl,r.xX h,s.xX h⟩
def Rep.yw (r:Rep α) (f:β→α) (g:α→β) (fg:∀ x,f (g x)=x):Rep β where
 sz:=r.sz
 agg:=r.agg
 rel:=fun h cs x=>r.rel h cs (f x)
 zero:=g r.zero
 zc:=r.zc
 one:=r.one
 len:=fun e=>r.len e
 flat:=fun e=>r.flat e
 mono:=fun hl e=>r.mono hl e
 xX:=fun h=>by rw [fg];exact r.xX h
def Lens (r:Rep α) (s:Rep β) (off:Nat) (get:α→β) (set:α→β→α):Prop :=
 ∀ h cs x,r.rel h cs x→∃ p c q,cs=p ++ c ++ q∧p.length=off∧s.rel h c (get x)∧∀ h' c' y,nI h h'→s.rel h' c' y→r.rel h' (p ++ c' ++ q) (set x y)
theorem Lens.fst (r:Rep α) (s:Rep β):Lens (r.prod s) r 0 (fun x=>x.1) (fun x y=>(y,x.2)) :=
 fun _ _ _ ⟨c,d,e,a,b⟩=>⟨[],c,d,by simp [e],rfl,a,fun _ c' _ hl hy=>⟨c',d,by simp,hy,s.mono hl b⟩⟩
theorem Lens.snd (r:Rep α) (s:Rep β):Lens (r.prod s) s r.sz (fun x=>x.2) (fun x y=>(x.1,y)) :=
 fun _ _ _ ⟨c,d,e,a,b⟩=>⟨c,d,[],by simp [e],r.len a,b,fun _ d' _ hl hy=>⟨c,d',by simp,r.mono hl a,hy⟩⟩
theorem Lens.yw (r:Rep α) (f:β→α) (g:α→β) (fg:∀ x,f (g x)=x):Lens (r.yw f g fg) r 0 f (fun _ y=>g y) :=
 fun _ cs _ e=>⟨[],cs,[],by simp,rfl,e,fun _ c' y _ hy=>by simpa [Rep.yw,fg] using hy⟩
theorem Lens.comp {γ:Type} {r:Rep α} {s:Rep β} {t:Rep γ} {o1 o2:Nat} {g1:α→β} {s1:α→β→α} {g2:β→γ} {s2:β→γ→β}
  (x:Lens r s o1 g1 s1) (y:Lens s t o2 g2 s2):Lens r t (o1+o2) (fun a=>g2 (g1 a)) (fun a c=>s1 a (s2 (g1 a) c)):=by
 intro h cs a ha
 obtain ⟨p,c,q,e,hp,hc,k⟩:=x h cs a ha
 obtain ⟨p',c',q',e',hp',hc',k'⟩:=y h c _ hc
 refine ⟨p ++ p',c',q' ++ q,by rw [e,e'];simp,by simp [hp,hp'],hc',fun h' c'' z hl hz=>?_⟩
 have:=k h' _ _ hl (k' h' c'' z hl hz)
 simpa using this
theorem Lens.refl (r:Rep α):Lens r r 0 (fun x=>x) (fun _ y=>y) :=
 fun _ cs _ e=>⟨[],cs,[],by simp,rfl,e,fun _ c' _ _ hy=>by simpa using hy⟩
theorem Lens.ref {r:Rep α} {s:Rep β} {o:Nat} {get:α→β} {set:α→β→α} (l:Lens r s o get set) {h:H} {b off:Nat} {x:α} (k:zJ r h b off x):zJ s h b (off+o) (get x):=by
 obtain ⟨cs,a,c⟩:=k
 obtain ⟨p,c',q,rfl,hp,hc,_⟩:=l h cs x a
 refine ⟨c',hc,fun j v hj=>?_⟩
 have:(p ++ c' ++ q)[o+j]? = some v:=by
  rw [List.append_assoc,List.getElem?_append_right (by omega),← hp,Nat.add_sub_cancel_left]
  rw [List.getElem?_append_left (List.getElem?_eq_some_iff.1 hj).1];exact hj
 have:=c _ _ this
 rwa [← Nat.add_assoc] at this
theorem vY {r:Rep α} {h:H} {cs:List Value} {x:α} (k:r.rel h cs x):(pack r.agg cs).cells=cs.toArray:=by
 cases ha:r.agg with
 | true=>rfl
 | false =>
  have h1:=r.len k
  rw [r.one ha] at h1
  match cs,h1 with
  | [c],_ =>
   have:=r.flat k c (by simp)
   cases c <;> first | rfl | (simp [Value.oneCell'] at this)
structure fU (P:Program) (T:TypeId) (r:Rep α):Prop where
 size:∀ w,(sizeOf T).run P w = .ok r.sz w
 agg:∀ w,(isAgg T).run P w = .ok r.agg w
 zero:∀ w,(zeroValue T).run P w = .ok (pack r.agg r.zc) w
theorem uP {P:Program} {T:TypeId} {r:Rep α} (t:fU P T r) {b off:Nat} {w:World} {cs:List Value} (hl:cs.length=r.sz)
  (hc:∀ j v,cs[j]? = some v→w.cell? ⟨b,off+j,none⟩=some v) :
  (Instr.loadAt T (.pointer (some ⟨b,off,none⟩))).run P w = .ok (pack r.agg cs) w:=by
 have hcells:∀ j v,cs[j]? = some v→w.cell? ((⟨b,off,none⟩:Addr).add j)=some v:=fun j v hj=>by rw [Addr.add_mid];exact hc j v hj
 cases ha:r.agg with
 | true =>
  have hrun:=run_loadCells_list (P:=P) w ⟨b,off,none⟩ cs hcells
  rw [hl] at hrun
  simp [Instr.loadAt,Instr.sureAddr,loadVar,t.agg,ha,t.size,hrun,pack]
 | false =>
  rw [r.one ha] at hl
  match cs,hl with
  | [c],_ =>
   have:=hcells 0 c rfl
   simp only [Addr.add_zero'] at this
   simp [Instr.loadAt,Instr.sureAddr,loadVar,t.agg,ha,pack,load,Sem.run,this]
theorem O4 {P:Program} {T:TypeId} {r:Rep α} (t:fU P T r) {h:H} {b off:Nat} {x:α} {w:World} (hx:∀ {b o v},h b o=some v→w.cell? ⟨b,o,none⟩=some v)
  {cs:List Value} (hr:r.rel h cs x) (hc:∀ j v,cs[j]? = some v→h b (off+j)=some v) :
  (Instr.loadAt T (.pointer (some ⟨b,off,none⟩))).run P w = .ok (pack r.agg cs) w:=uP t (r.len hr) (fun j v hj=>hx (hc j v hj))
theorem qZ {P:Program} {T T':TypeId} {r:Rep α} (t:fU P T r) {h:H} {b:Nat} {w:World} {p c q cs:List Value} {x:α} (hr:r.rel h cs x) (hb:w.heap[b]? = some (.cells (p ++ c ++ q).toArray T' (0,0)))
  (hc:c.length=r.sz):(Instr.storeAt T (.pointer (some ⟨b,p.length,none⟩)) (pack r.agg cs)).run P w = .ok () (w.setRow b (p ++ cs ++ q).toArray):=by
 have hl:=r.len hr
 have h1:=run_storeCells_at P b p.length T' cs 0 (p ++ c ++ q).toArray w hb (by simp;omega) (r.flat hr)
 have h2:(pack r.agg cs).cells=cs.toArray:=vY hr
 simp only [Instr.storeAt,Instr.sureAddr,Sem.run_bind,Sem.run_pure,Result.andThen_ok,storeVar,t.size,h2]
 rw [if_neg (by simp [hl])]
 rw [h1]
 congr 3
 simp only [Nat.add_zero,List.append_assoc,List.take_left',List.append_cancel_left_eq]
 rw [show p.length+cs.length=(p ++ c).length by simp;omega,← List.append_assoc,List.drop_left]
end
end Go.KB
namespace Go.KB
def bF (N:List (Nat×aQ)) (x:Operand) (f:aQ):Prop:=∀ h a,Dl N h a→f.p h (f.dv a) (a.eval x)
section opd
variable {N:List (Nat×aQ)} {f:aQ} {s:Nat} {q0 q1 q2 q3 q4 q5 q6 q7:Nat×aQ}
theorem ak:bF ((s,f) :: N) (.tmp s) f:=fun _ _ n=>n.1
theorem aA:bF (q0 :: (s,f) :: N) (.tmp s) f:=fun _ _ n=>n.2.1
theorem jd:bF (q0 :: q1 :: (s,f) :: N) (.tmp s) f:=fun _ _ n=>n.2.2.1
theorem Gs:bF (q0 :: q1 :: q2 :: (s,f) :: N) (.tmp s) f:=fun _ _ n=>n.2.2.2.1
theorem Zj:bF (q0 :: q1 :: q2 :: q3 :: (s,f) :: N) (.tmp s) f:=fun _ _ n=>n.2.2.2.2.1
theorem aP {k:IntKind} {n:Int}:bF N (.const (.int k n)) (fV (Rep.int k) n):=fun _ _ _=>eF.2 rfl
theorem kV {b:Bool}:bF N (.const (.bool b)) (fV Rep.bool b):=fun _ _ _=>qF.2 rfl
theorem Ib {x:ByteArray} {l:Str} (e:x=⟨l.toArray⟩):bF N (.const (.string x)) (fV Rep.str l):=fun _ _ _=>wZ.2 (by rw [e];rfl)
theorem bF.on {c:Prop} {x:Operand} (k:bF N x (aQ.when c f)) (hc:c):bF N x f:=fun h a n=>(k h a n).1 hc
end opd
theorem nJ {L:Nat→Option gq} {d:Option Nat} {a:Act}:Ea L L (full [] d) a:=by
 intro s
 cases hlk:qw (full ([]:Hr) d) s with
 | none=>rfl
 | some e =>
  have:e=none:=by
   revert hlk;unfold full
   cases d with
   | none=>intro h;cases h
   | some d'=>simp only [List.nil_append,qw];cases Nat.beq d' s <;> intro h <;> cases h;rfl
  subst this
  trivial
section ops
variable {P:Program} {o:Oper} {N:List (Nat×aQ)} {f:aQ}
theorem di.qG (hr:∀ h a w,(∀ {b o v},h b o=some v→w.cell? ⟨b,o,none⟩=some v)→Dl N h a→∃ v,(execOp a.eval o).run P w = .ok (.value v) w∧f.p h (f.dv a) v):di P o N [] f []:=by
 intro κ B F L h a w hst hn _ _ next Q hnext _
 obtain ⟨v,hv,hf⟩:=hr h a w (fun x=>hst.ext x) hn
 unfold Oper.rJ
 rw [hv]
 exact hnext v h w L (nI.refl h) hf hst nJ
theorem aV {x:Operand} (ho:o.op = .move x) (hx:bF N x f):di P o N [] f [] :=
 di.qG fun h a w _ n=>⟨a.eval x,by simp [execOp,ho],hx h a n⟩
theorem au {x:Operand} (ho:o.op = .assign x) (hx:bF N x f):di P o N [] f [] :=
 di.qG fun h a w _ n=>⟨a.eval x,by simp [execOp,ho],hx h a n⟩
theorem aj {s:Nat} (ho:o.op = .move (.tmp s)):di P o ((s,f) :: N) [] f []:=aV ho ak
theorem aS {s:Nat} (ho:o.op = .assign (.tmp s)):di P o ((s,f) :: N) [] f []:=au ho ak
theorem UC {c x y:Operand} {b:Bool} (ho:o.op = .pick c x y) (hc:bF N c (fV Rep.bool b)) (hx:b=true→bF N x f) (hy:b=false→bF N y f):di P o N [] f [] :=
 di.qG fun h a w _ n=>by
  have hb:=qF.1 (hc h a n)
  cases b with
  | true=>exact ⟨a.eval x,by simp [execOp,ho,hb,asBool],hx rfl h a n⟩
  | false=>exact ⟨a.eval y,by simp [execOp,ho,hb,asBool],hy rfl h a n⟩
theorem iY {c y:Operand} {b b':Bool} (ho:o.op = .pick c (.const (.bool true)) y) (hc:bF N c (fV Rep.bool b)) (hy:b=false→bF N y (fV Rep.bool b')):di P o N [] (fV Rep.bool (b||b')) [] :=
 UC ho hc (fun e=>by rw [e];exact kV) (fun e=>by rw [e];exact hy e)
theorem jo {c x:Operand} {b b':Bool} (ho:o.op = .pick c x (.const (.bool false))) (hc:bF N c (fV Rep.bool b)) (hx:b=true→bF N x (fV Rep.bool b')):di P o N [] (fV Rep.bool (b&&b')) [] :=
 UC ho hc (fun e=>by rw [e];exact hx e) (fun e=>by rw [e];exact kV)
theorem di.O5 {K:List (Nat×eP)} {U:Hr} {c:Prop} (hc:c) (x:di P o N K f U):di P o N K (aQ.when c f) U :=
 di.out (f:=f) (f':=aQ.when c f) rfl (fun _ _ _ hp=>⟨fun _=>hp,fun hn=>absurd hc hn⟩) x
section guard
variable {all:List OS} {ol:List Oper} {Γ:Ctx} {Λ:Own} {s:OS} {j d:Nat} {b g:Bool}
theorem Zk {U : Hr} (hg : o.guard = some (j, true)) (hd : ((um ol j).bind (·.dst)) = some d) (hh : s.rd.head? = some (d, some j)) (hj : (nth all j).f = fV Rep.bool b) (hs : s.f = aQ.when (b = true) f) (hU : s.U = U) (hds : o.dst.isSome = true) (hst : ¬b = true → DJ (s.kd.map (Ai all Λ)) U o.dst)
  (hok:b=true→di P o (s.rd.map (E5 all Γ)) (s.kd.map (Ai all Λ)) f U):OW P all ol Γ Λ o s:=by
 unfold OW;rw [hg]
 refine ⟨b=true,d,hd,hh,fun hb h dv v k=>?_,fun hb h dv v k e=>?_,fun hb=>?_,fun hb=>⟨hU ▸ hst hb,hds,fun h dv=>?_⟩⟩
 ·rw [hj] at k;rw [← hb];exact qF.1 k
 ·rw [hj] at k;rw [qF.1 k] at e;cases e;exact hb rfl
 ·rw [hs,hU];exact (hok hb).O5 hb
 ·rw [hs];exact ⟨fun hc=>absurd hc hb,fun _=>rfl⟩
theorem obl_tt (hg : o.guard = some (j, true)) (hd : ((um ol j).bind (·.dst)) = some d) (hh : s.rd.head? = some (d, some j)) (hj : (nth all j).f = fV Rep.bool b) (hs : s.f = aQ.when (b = true) f) (hU : s.U = []) (hds : o.dst.isSome = true)
  (hok:b=true→di P o (s.rd.map (E5 all Γ)) (s.kd.map (Ai all Λ)) f []):OW P all ol Γ Λ o s :=
 Zk hg hd hh hj hs hU hds (fun _=>DJ.nil) hok
theorem aI (e : (o.guard, ((um ol j).bind (·.dst)), s.rd.head?, (nth all j).f, s.f, s.U, o.dst.isSome) = (some (j, true), some d, some (d, some j), fV Rep.bool b, aQ.when (b = true) f, [], true))
  (hok:b=true→di P o (s.rd.map (E5 all Γ)) (s.kd.map (Ai all Λ)) f []):OW P all ol Γ Λ o s :=
 obl_tt (congrArg (fun t=>t.1) e) (congrArg (fun t=>t.2.1) e) (congrArg (fun t=>t.2.2.1) e) (congrArg (fun t=>t.2.2.2.1) e) (congrArg (fun t=>t.2.2.2.2.1) e) (congrArg (fun t=>t.2.2.2.2.2.1) e) (congrArg (fun t=>t.2.2.2.2.2.2) e) hok
theorem Zl {U : Hr} (hg : o.guard = some (j, false)) (hd : ((um ol j).bind (·.dst)) = some d) (hh : s.rd.head? = some (d, some j)) (hj : (nth all j).f = fV Rep.bool b) (hs : s.f = aQ.when ((!b) = true) f) (hU : s.U = U) (hds : o.dst.isSome = true) (hst : ¬(!b) = true → DJ (s.kd.map (Ai all Λ)) U o.dst)
  (hok:(!b)=true→di P o (s.rd.map (E5 all Γ)) (s.kd.map (Ai all Λ)) f U):OW P all ol Γ Λ o s:=by
 unfold OW;rw [hg]
 refine ⟨(!b)=true,d,hd,hh,fun hb h dv v k=>?_,fun hb h dv v k e=>?_,fun hb=>?_,fun hb=>⟨hU ▸ hst hb,hds,fun h dv=>?_⟩⟩
 ·rw [hj] at k;rw [qF.1 k];cases b <;> simp at hb ⊢
 ·rw [hj] at k;rw [qF.1 k] at e;cases e;exact hb rfl
 ·rw [hs,hU];exact (hok hb).O5 hb
 ·rw [hs];exact ⟨fun hc=>absurd hc hb,fun _=>rfl⟩
theorem obl_tf (hg : o.guard = some (j, false)) (hd : ((um ol j).bind (·.dst)) = some d) (hh : s.rd.head? = some (d, some j)) (hj : (nth all j).f = fV Rep.bool b) (hs : s.f = aQ.when ((!b) = true) f) (hU : s.U = []) (hds : o.dst.isSome = true)
  (hok:(!b)=true→di P o (s.rd.map (E5 all Γ)) (s.kd.map (Ai all Λ)) f []):OW P all ol Γ Λ o s :=
 Zl hg hd hh hj hs hU hds (fun _=>DJ.nil) hok
theorem aC (e : (o.guard, ((um ol j).bind (·.dst)), s.rd.head?, (nth all j).f, s.f, s.U, o.dst.isSome) = (some (j, false), some d, some (d, some j), fV Rep.bool b, aQ.when ((!b) = true) f, [], true))
  (hok:(!b)=true→di P o (s.rd.map (E5 all Γ)) (s.kd.map (Ai all Λ)) f []):OW P all ol Γ Λ o s :=
 obl_tf (congrArg (fun t=>t.1) e) (congrArg (fun t=>t.2.1) e) (congrArg (fun t=>t.2.2.1) e) (congrArg (fun t=>t.2.2.2.1) e) (congrArg (fun t=>t.2.2.2.2.1) e) (congrArg (fun t=>t.2.2.2.2.2.1) e) (congrArg (fun t=>t.2.2.2.2.2.2) e) hok
theorem Zm {U : Hr} (hg : o.guard = some (j, true)) (hd : ((um ol j).bind (·.dst)) = some d) (hh : s.rd.head? = some (d, some j)) (hj : (nth all j).f = aQ.when (g = true) (fV Rep.bool b)) (hs : s.f = aQ.when ((g && b) = true) f) (hU : s.U = U) (hds : o.dst.isSome = true) (hst : ¬(g && b) = true → DJ (s.kd.map (Ai all Λ)) U o.dst)
  (hok:(g&&b)=true→di P o (s.rd.map (E5 all Γ)) (s.kd.map (Ai all Λ)) f U):OW P all ol Γ Λ o s:=by
 unfold OW;rw [hg]
 refine ⟨(g&&b)=true,d,hd,hh,fun hb h dv v k=>?_,fun hb h dv v k e=>?_,fun hb=>?_,fun hb=>⟨hU ▸ hst hb,hds,fun h dv=>?_⟩⟩
 ·rw [hj] at k;rw [Bool.and_eq_true] at hb;rw [← hb.2];exact qF.1 (k.1 hb.1)
 ·rw [hj] at k
  by_cases hgt:g=true
  ·rw [qF.1 (k.1 hgt)] at e;cases e;exact hb (by rw [hgt];rfl)
  ·rw [k.2 hgt] at e;cases e
 ·rw [hs,hU];exact (hok hb).O5 hb
 ·rw [hs];exact ⟨fun hc=>absurd hc hb,fun _=>rfl⟩
theorem obl_wt (hg : o.guard = some (j, true)) (hd : ((um ol j).bind (·.dst)) = some d) (hh : s.rd.head? = some (d, some j)) (hj : (nth all j).f = aQ.when (g = true) (fV Rep.bool b)) (hs : s.f = aQ.when ((g && b) = true) f) (hU : s.U = []) (hds : o.dst.isSome = true)
  (hok:(g&&b)=true→di P o (s.rd.map (E5 all Γ)) (s.kd.map (Ai all Λ)) f []):OW P all ol Γ Λ o s :=
 Zm hg hd hh hj hs hU hds (fun _=>DJ.nil) hok
theorem jS (e : (o.guard, ((um ol j).bind (·.dst)), s.rd.head?, (nth all j).f, s.f, s.U, o.dst.isSome) = (some (j, true), some d, some (d, some j), aQ.when (g = true) (fV Rep.bool b), aQ.when ((g && b) = true) f, [], true))
  (hok:(g&&b)=true→di P o (s.rd.map (E5 all Γ)) (s.kd.map (Ai all Λ)) f []):OW P all ol Γ Λ o s :=
 obl_wt (congrArg (fun t=>t.1) e) (congrArg (fun t=>t.2.1) e) (congrArg (fun t=>t.2.2.1) e) (congrArg (fun t=>t.2.2.2.1) e) (congrArg (fun t=>t.2.2.2.2.1) e) (congrArg (fun t=>t.2.2.2.2.2.1) e) (congrArg (fun t=>t.2.2.2.2.2.2) e) hok
theorem Zn {U : Hr} (hg : o.guard = some (j, false)) (hd : ((um ol j).bind (·.dst)) = some d) (hh : s.rd.head? = some (d, some j)) (hj : (nth all j).f = aQ.when (g = true) (fV Rep.bool b)) (hs : s.f = aQ.when ((g && !b) = true) f) (hU : s.U = U) (hds : o.dst.isSome = true) (hst : ¬(g && !b) = true → DJ (s.kd.map (Ai all Λ)) U o.dst)
  (hok:(g && !b)=true→di P o (s.rd.map (E5 all Γ)) (s.kd.map (Ai all Λ)) f U):OW P all ol Γ Λ o s:=by
 unfold OW;rw [hg]
 refine ⟨(g && !b)=true,d,hd,hh,fun hb h dv v k=>?_,fun hb h dv v k e=>?_,fun hb=>?_,fun hb=>⟨hU ▸ hst hb,hds,fun h dv=>?_⟩⟩
 ·rw [hj] at k;rw [Bool.and_eq_true] at hb;rw [qF.1 (k.1 hb.1)];cases b <;> simp at hb ⊢
 ·rw [hj] at k
  by_cases hgt:g=true
  ·rw [qF.1 (k.1 hgt)] at e;cases e;exact hb (by rw [hgt];rfl)
  ·rw [k.2 hgt] at e;cases e
 ·rw [hs,hU];exact (hok hb).O5 hb
 ·rw [hs];exact ⟨fun hc=>absurd hc hb,fun _=>rfl⟩
theorem obl_wf (hg : o.guard = some (j, false)) (hd : ((um ol j).bind (·.dst)) = some d) (hh : s.rd.head? = some (d, some j)) (hj : (nth all j).f = aQ.when (g = true) (fV Rep.bool b)) (hs : s.f = aQ.when ((g && !b) = true) f) (hU : s.U = []) (hds : o.dst.isSome = true)
  (hok:(g && !b)=true→di P o (s.rd.map (E5 all Γ)) (s.kd.map (Ai all Λ)) f []):OW P all ol Γ Λ o s :=
 Zn hg hd hh hj hs hU hds (fun _=>DJ.nil) hok
theorem zh (e : (o.guard, ((um ol j).bind (·.dst)), s.rd.head?, (nth all j).f, s.f, s.U, o.dst.isSome) = (some (j, false), some d, some (d, some j), aQ.when (g = true) (fV Rep.bool b), aQ.when ((g && !b) = true) f, [], true))
  (hok:(g && !b)=true→di P o (s.rd.map (E5 all Γ)) (s.kd.map (Ai all Λ)) f []):OW P all ol Γ Λ o s :=
 obl_wf (congrArg (fun t=>t.1) e) (congrArg (fun t=>t.2.1) e) (congrArg (fun t=>t.2.2.1) e) (congrArg (fun t=>t.2.2.2.1) e) (congrArg (fun t=>t.2.2.2.2.1) e) (congrArg (fun t=>t.2.2.2.2.2.1) e) (congrArg (fun t=>t.2.2.2.2.2.2) e) hok
end guard
theorem lU {b:Bool} (h:b=false):(!b)=true:=by rw [h];rfl
theorem Jd {a b:Bool} (h:a=true) (h':b=true):(a&&b)=true:=by rw [h,h'];rfl
section int
variable {k:IntKind} {T T':TypeId} {x y:Operand} {m n:Int}
theorem bP (ho:o.op = .binOp .add T x y T') (hx:bF N x (fV (Rep.int k) m)) (hy:bF N y (fV (Rep.int k) n)):di P o N [] (fV (Rep.int k) (k.wrap (m+n))) [] :=
 di.qG fun h a w _ q=>⟨_,by simp [execOp,ho,eF.1 (hx h a q),eF.1 (hy h a q),binOp,Op.intArith,eqGuard],eF.2 rfl⟩
theorem Fa (ho:o.op = .binOp .sub T x y T') (hx:bF N x (fV (Rep.int k) m)) (hy:bF N y (fV (Rep.int k) n)):di P o N [] (fV (Rep.int k) (k.wrap (m - n))) [] :=
 di.qG fun h a w _ q=>⟨_,by simp [execOp,ho,eF.1 (hx h a q),eF.1 (hy h a q),binOp,Op.intArith,eqGuard],eF.2 rfl⟩
theorem JV (ho:o.op = .binOp .mul T x y T') (hx:bF N x (fV (Rep.int k) m)) (hy:bF N y (fV (Rep.int k) n)):di P o N [] (fV (Rep.int k) (k.wrap (m * n))) [] :=
 di.qG fun h a w _ q=>⟨_,by simp [execOp,ho,eF.1 (hx h a q),eF.1 (hy h a q),binOp,Op.intArith,eqGuard],eF.2 rfl⟩
def Zo (k:IntKind) (m n:Int):Option Int:=if n=0 then none else some (k.wrap (m.tdiv n))
def Xm (m n:Int):Option Int:=if n=0 then none else some (m.tmod n)
theorem ok_quo {r:Int} (hq:Zo k m n=some r) (ho:o.op = .binOp .quo T x y T') (hx:bF N x (fV (Rep.int k) m)) (hy:bF N y (fV (Rep.int k) n)):di P o N [] (fV (Rep.int k) r) [] :=
 di.qG fun h a w _ q=>by
  unfold Zo at hq
  split at hq
  ·cases hq
  ·rename_i hn
   cases hq
   exact ⟨_,by simp [execOp,ho,eF.1 (hx h a q),eF.1 (hy h a q),binOp,Op.intDiv,eqGuard,hn],eF.2 rfl⟩
theorem ok_rem {r:Int} (hq:Xm m n=some r) (ho:o.op = .binOp .rem T x y T') (hx:bF N x (fV (Rep.int k) m)) (hy:bF N y (fV (Rep.int k) n)):di P o N [] (fV (Rep.int k) r) [] :=
 di.qG fun h a w _ q=>by
  unfold Xm at hq
  split at hq
  ·cases hq
  ·rename_i hn
   cases hq
   exact ⟨_,by simp [execOp,ho,eF.1 (hx h a q),eF.1 (hy h a q),binOp,Op.intDiv,eqGuard,hn],eF.2 rfl⟩
def JW (op:BinOp) (k:IntKind) (m n:Int):Int :=
 match op with
 | .and=>k.wrap (BitVec.ofInt k.bits m &&& BitVec.ofInt k.bits n).toNat
 | .or=>k.wrap (BitVec.ofInt k.bits m ||| BitVec.ofInt k.bits n).toNat
 | .xor=>k.wrap (BitVec.ofInt k.bits m ^^^ BitVec.ofInt k.bits n).toNat
 | _=>k.wrap (BitVec.ofInt k.bits m &&& ~~~BitVec.ofInt k.bits n).toNat
theorem SE {op:BinOp} (hop:op = .and∨op = .or∨op = .xor∨op = .andNot) (ho:o.op = .binOp op T x y T') (hx:bF N x (fV (Rep.int k) m)) (hy:bF N y (fV (Rep.int k) n)) :
  di P o N [] (fV (Rep.int k) (JW op k m n)) [] :=
 di.qG fun h a w _ q=>by
  rcases hop with rfl | rfl | rfl | rfl <;>
   exact ⟨.int k (JW _ k m n),by simp [execOp,ho,eF.1 (hx h a q),eF.1 (hy h a q),binOp,Op.intBits,eqGuard,JW],eF.2 rfl⟩
def Xn (k:IntKind) (m n:Int):Option Int:=if n<0 then none else some (k.wrap (m * 2 ^ (min n.toNat k.bits)))
def SG (k:IntKind) (m n:Int):Option Int:=if n<0 then none else some (m.fdiv (2 ^ (min n.toNat k.bits)))
theorem ok_shl {k':IntKind} {r:Int} (hq:Xn k m n=some r) (ho:o.op = .binOp .shl T x y T') (hx:bF N x (fV (Rep.int k) m)) (hy:bF N y (fV (Rep.int k') n)):di P o N [] (fV (Rep.int k) r) [] :=
 di.qG fun h a w _ q=>by
  unfold Xn at hq
  split at hq
  ·cases hq
  ·rename_i hn
   cases hq
   exact ⟨_,by simp [execOp,ho,eF.1 (hx h a q),eF.1 (hy h a q),binOp,Op.shift,eqGuard,hn],eF.2 rfl⟩
theorem Xo {k':IntKind} {r:Int} (hq:SG k m n=some r) (ho:o.op = .binOp .shr T x y T') (hx:bF N x (fV (Rep.int k) m)) (hy:bF N y (fV (Rep.int k') n)):di P o N [] (fV (Rep.int k) r) [] :=
 di.qG fun h a w _ q=>by
  unfold SG at hq
  split at hq
  ·cases hq
  ·rename_i hn
   cases hq
   exact ⟨_,by simp [execOp,ho,eF.1 (hx h a q),eF.1 (hy h a q),binOp,Op.shift,eqGuard,hn],eF.2 rfl⟩
def ax (op:BinOp) (m n:Int):Bool :=
 match op with
 | .eql=>m == n | .neq=>m != n | .lss=>decide (m<n) | .leq=>decide (m≤n) | .gtr=>decide (m > n) | _=>decide (m ≥ n)
theorem dS {op:BinOp} (hop:op = .eql∨op = .neq∨op = .lss∨op = .leq∨op = .gtr∨op = .geq) {b:Bool} (hb:ax op m n=b) (ho:o.op = .binOp op T x y T')
  (hx:bF N x (fV (Rep.int k) m)) (hy:bF N y (fV (Rep.int k) n)):di P o N [] (fV Rep.bool b) [] :=
 di.qG fun h a w _ q=>by
  subst hb
  rcases hop with rfl | rfl | rfl | rfl | rfl | rfl <;>
   exact ⟨_,by simp [execOp,ho,eF.1 (hx h a q),eF.1 (hy h a q),binOp,Op.intCmp,eqGuard];rfl,qF.2 rfl⟩
theorem Zp {k':IntKind} {D:TypeDesc} (hs:P.underlying T=some D) (hd:P.underlying T'=some (.int k')) (ho:o.op = .convert T T' x) (hx:bF N x (fV (Rep.int k) m)):di P o N [] (fV (Rep.int k') (k'.wrap m)) [] :=
 di.qG fun h a w _ q=>⟨_,by simp [execOp,ho,eF.1 (hx h a q),convert,run_underlying hs,run_underlying hd,Conv.intToInt],eF.2 rfl⟩
theorem JX {ts:Array TypeId} (ho:o.op = .call { callee:=.builtin .max,args:=#[x,y],argTypes:=ts }) (hx:bF N x (fV (Rep.int k) m)) (hy:bF N y (fV (Rep.int k) n)):di P o N [] (fV (Rep.int k) (max m n)) [] :=
 di.qG fun h a w _ q=>⟨.int k (max m n),by
  simp only [execOp,ho,resolve,invoke,builtin,Sem.run_bind,Sem.run_pure,Result.andThen_ok,List.map_toArray,List.map_cons,List.map_nil,eF.1 (hx h a q),eF.1 (hy h a q)]
  simp only [Builtin.max_,List.foldlM,Builtin.max2,Sem.run_bind,Sem.run_pure,Result.andThen_ok]
  congr 3;rw [Int.max_def];split <;> split <;> omega,eF.2 rfl⟩
theorem SH {ts:Array TypeId} (ho:o.op = .call { callee:=.builtin .min,args:=#[x,y],argTypes:=ts }) (hx:bF N x (fV (Rep.int k) m)) (hy:bF N y (fV (Rep.int k) n)):di P o N [] (fV (Rep.int k) (min m n)) [] :=
 di.qG fun h a w _ q=>⟨.int k (min m n),by
  simp only [execOp,ho,resolve,invoke,builtin,Sem.run_bind,Sem.run_pure,Result.andThen_ok,List.map_toArray,List.map_cons,List.map_nil,eF.1 (hx h a q),eF.1 (hy h a q)]
  simp only [Builtin.min_,List.foldlM,Builtin.min2,Sem.run_bind,Sem.run_pure,Result.andThen_ok]
  congr 3;rw [Int.min_def];split <;> split <;> omega,eF.2 rfl⟩
end int
section bools
variable {T T':TypeId} {x y:Operand} {b c:Bool}
theorem gY (ho:o.op = .unOp .not T x) (hx:bF N x (fV Rep.bool b)):di P o N [] (fV Rep.bool (!b)) [] :=
 di.qG fun h a w _ q=>⟨_,by simp [execOp,ho,qF.1 (hx h a q),Op.unary],qF.2 rfl⟩
end bools
end ops
end Go.KB
namespace Go.KB
variable {P:Program} {o:Oper} {N:List (Nat×aQ)} {f:aQ} {α β:Type}
def Ci (s off:Nat):aQ:=⟨some s,fun _ d v=>∃ b,d = .pointer (some ⟨b,0,none⟩)∧v = .pointer (some ⟨b,off,none⟩),fun _ x=>x⟩
def qK (b:Nat) (T:TypeId) (r:Rep α) (x:α):gq where
 claims:=[(b,0)]
 ok:=fun h m=>∃ cs,m b=some (.cells cs.toArray T (0,0))∧r.rel h cs x
 mono:=fun hl=>Exists.imp fun _=>And.imp_right (r.mono hl)
 frame:=fun hm ⟨cs,e,k⟩=>⟨cs,by rw [hm (b,0) (by simp)];exact e,k⟩
def dJ (T:TypeId) (r:Rep α) (x:α):eP:=fun v e=>∃ b,v = .pointer (some ⟨b,0,none⟩)∧e=qK b T r x
def set1 (L:Nat→Option gq) (s:Nat) (e:gq):Nat→Option gq:=fun k=>if k=s then some e else L k
theorem qL {L:Nat→Option gq} {s:Nat} {e:gq} {q:eP} {d:Option Nat} {a:Act} (hq:q (a.gt s) e):Ea L (set1 L s e) (full [(s,some q)] d) a:=by
  intro k
  by_cases hk:k=s
  · subst hk
    have:qw (full [(k,some q)] d) k=some (some q):=by simp [full,qw,Nat.beq_refl]
    rw [this];exact ⟨e,by simp [set1],hq⟩
  · have h1 : Nat.beq s k = false := by rw [Bool.eq_false_iff, Ne, iQ]; exact fun x => hk x.symm
    cases d with
    | none =>
      have:qw (full [(s,some q)] none) k=none:=by simp [full,qw,h1]
      rw [this];simp [set1,hk]
    | some d =>
      cases h2:Nat.beq d k with
      | true =>
        have:qw (full [(s,some q)] (some d)) k=some none:=by simp [full,qw,h1,h2]
        rw [this];trivial
      | false =>
        have:qw (full [(s,some q)] (some d)) k=none:=by simp [full,qw,h1,h2]
        rw [this];simp [set1,hk]
theorem vg {κ:Type} {L:Nat→Option gq} {F:κ→Option gq} {s:Nat} {e:gq}:∀ k' e',k'≠Sum.inl s→Sum.elim (set1 L s e) F k'=some e'→Sum.elim L F k'=some e':=by
 intro k' e' hne he
 cases k' with
 | inr k=>exact he
 | inl k =>
  have:k≠s:=fun x=>hne (by rw [x])
  simpa [set1,this] using he
theorem vk {κ:Type} {L:Nat→Option gq} {F:κ→Option gq} {s:Nat} {e e':gq} (he:Sum.elim (set1 L s e) F (Sum.inl s)=some e'):e'=e:=by
 simp [set1] at he;exact he.symm
theorem Cj {T:TypeId} {r:Rep α} {h:H} {cs:List Value} {x:α} (k:r.rel h cs x) (w:World) :
  (newVar T (pack r.agg cs)).run P w = .ok ⟨w.heap.size,0,none⟩ (w.alloc (.cells cs.toArray T)):=by
 unfold newVar newRow newObj;rw [vY k];rfl
theorem BJ (w:World) (o:Obj):World.mem (w.alloc o) w.heap.size=some o:=heap_alloc_new w o
theorem eu {T:TypeId} {r:Rep α} {x:Operand} {y:α} (ho:o.op = .box T x) (hx:bF N x (fV r y)):di P o N [] (dn r y) []:=by
 intro κ B F L h a w hst hn _ _ next Q hnext _
 obtain ⟨cs,hr,hv⟩:=hx h a hn
 unfold Oper.rJ
 have:(execOp a.eval o).run P w = .ok (.value (.pointer (some ⟨w.heap.size,0,none⟩))) (w.alloc (.cells cs.toArray T)):=by
  simp [execOp,ho,Instr.box,hv,Cj hr]
 rw [this]
 obtain ⟨hl,hst'⟩:=hst.Xb cs T
 refine hnext _ _ _ L hl ⟨_,0,rfl,cs,r.mono hl hr,fun j v hj=>?_⟩ hst' nJ
 have hjl:=(List.getElem?_eq_some_iff.1 hj).1
 rw [Nat.zero_add,zK hjl,← hj,List.getElem?_eq_getElem hjl]
theorem St.BI {κ:Type} {B:Base} {h:H} {L:Nat→Option gq} {F:κ→Option gq} {w:World} (s:St B h (Sum.elim L F) w) (ob:Obj) (d:Nat) (e:gq)
  (hb:∀ c ∈ e.claims,c.1=w.heap.size) (hok:e.ok h (World.mem (w.alloc ob))):St B h (Sum.elim (set1 L d e) F) (w.alloc ob) :=
 s.alloc ob (Sum.inl d) vg (fun e' he=>by rw [vk he];exact ⟨hb,hok⟩)
theorem dQ {T:TypeId} {r:Rep α} {d:Nat} (t:fU P T r) (hd:o.dst=some d) (ho:o.op = .alloc T):di P o N [] aQ.rD [(d,some (dJ T r r.zero))]:=by
 intro κ B F L h a w hst hn _ hdn next Q hnext _
 unfold Oper.rJ
 have:(execOp a.eval o).run P w = .ok (.value (.pointer (some ⟨w.heap.size,0,none⟩))) (w.alloc (.cells r.zc.toArray T)):=by
  simp [execOp,ho,Instr.alloc,t.zero,Cj (r.xX h)]
 rw [this]
 refine hnext _ h _ (set1 L d (qK w.heap.size T r r.zero)) (nI.refl h) trivial (hst.BI _ d _ (by simp [qK]) ⟨_,BJ _ _,r.xX h⟩) ?_
 rw [hd]
 exact qL ⟨_,fG (hdn d hd),rfl⟩
def bQ (P:Program) (T:TypeId) (i off:Nat):Prop:=∀ b o w,(Instr.fieldAt T (.pointer (some ⟨b,o,none⟩)) i).run P w = .ok (.pointer (some ⟨b,o+off,none⟩)) w
theorem bQ.mk {T:TypeId} {i off:Nat} {fs:Array Field} {g:Field} {ti:TypeInfo} (h1:P.underlying T=some (.struct fs)) (h2:fs[i]? = some g) (h3:g.offset=off) (h4:P.info? g.type=some ti) (h5:ti.size≠0):bQ P T i off:=by
 intro b o w
 simp [Instr.fieldAt,run_underlying h1,h2,Instr.sureAddr,fieldPlace,sizeOf,typeInfo,h4,h5,Addr.add_mid,h3]
def Ob (P:Program) (T:TypeId) (i:Nat):Option (Nat×Bool) :=
 match P.underlying T with
 | some (.struct fs)=>match fs[i]? with
  | some g=>match P.info? g.type with
   | some ti=>some (g.offset,!(Nat.beq ti.size 0))
   | none=>none
  | none=>none
 | _=>none
theorem bQ.of {T:TypeId} {i off:Nat} (h:Ob P T i=some (off,true)):bQ P T i off:=by
 unfold Ob at h
 split at h
 ·rename_i fs hT
  split at h
  ·rename_i g hg
   split at h
   ·rename_i ti hti
    simp only [Option.some.injEq,Prod.mk.injEq,Bool.not_eq_true'] at h
    refine bQ.mk hT hg h.1 hti ?_
    intro h0
    have:=h.2
    rw [h0] at this
    cases this
   ·cases h
  ·cases h
 ·cases h
theorem dR {T:TypeId} {r:Rep α} {s:Rep β} {x:Operand} {y:α} {i off:Nat} {get:α→β} {set:α→β→α} (l:Lens r s off get set) (hf:bQ P T i off) (ho:o.op = .fieldAddr T x i) (hx:bF N x (dn r y)) :
  di P o N [] (dn s (get y)) [] :=
 di.qG fun h a w _ q=>by
  obtain ⟨b,off',hv,k⟩:=hx h a q
  exact ⟨.pointer (some ⟨b,off'+off,none⟩),by simp [execOp,ho,hv,hf b off' w],b,_,rfl,l.ref k⟩
theorem aX {T T':TypeId} {r:Rep α} {y:α} {s i off:Nat} (hf:bQ P T i off) (ho:o.op = .fieldAddr T (.tmp s) i):di P o N [(s,dJ T' r y)] (Ci s off) []:=by
 intro κ B F L h a w hst hn hk _ next Q hnext _
 obtain ⟨e,_,b,hv,_⟩:=hk.1
 unfold Oper.rJ
 have hv':a.eval (.tmp s) = .pointer (some ⟨b,0,none⟩):=hv
 have:(execOp a.eval o).run P w = .ok (.value (.pointer (some ⟨b,off,none⟩))) w:=by simp [execOp,ho,hv',hf b 0 w]
 rw [this]
 exact hnext _ h w L (nI.refl h) ⟨b,hv,rfl⟩ hst nJ
theorem dA {T:TypeId} {r:Rep α} {x:Operand} {y:α} (t:fU P T r) (ho:o.op = .load T x) (hx:bF N x (dn r y)):di P o N [] (fV r y) [] :=
 di.qG fun h a w hext q=>by
  obtain ⟨b,off,hv,cs,hr,hc⟩:=hx h a q
  exact ⟨pack r.agg cs,by simp [execOp,ho,hv,O4 t (fun x=>hext x) hr hc],cs,hr,rfl⟩
theorem yI {T T':TypeId} {r:Rep α} {s:Rep β} {off:Nat} {get:α→β} {set:α→β→α} (t:fU P T s) (l:Lens r s off get set) {h:H} {y:α} {w:World} {b:Nat} {cs:List Value}
  (hb:w.heap[b]? = some (.cells cs.toArray T' (0,0))) (hr:r.rel h cs y):∃ c,s.rel h c (get y)∧(Instr.loadAt T (.pointer (some ⟨b,off,none⟩))).run P w = .ok (pack s.agg c) w:=by
 obtain ⟨p,c,q,rfl,hp,hc,_⟩:=l h cs y hr
 refine ⟨c,hc,uP t (s.len hc) fun j v hj=>?_⟩
 rw [xI _ _ _ _ _ _ hb]
 have hjl:=(List.getElem?_eq_some_iff.1 hj).1
 rw [← hp]
 simp only [List.getElem?_toArray]
 rw [List.append_assoc,List.getElem?_append_right (by omega),Nat.add_sub_cancel_left,List.getElem?_append_left hjl];exact hj
theorem JP {κ:Type} {B:Base} {h:H} {L:Nat→Option gq} {F:κ→Option gq} {w:World} (hst:St B h (Sum.elim L F) w) {s b:Nat} {T:TypeId} {r:Rep α} {x:α}
  (hk:L s=some (qK b T r x)):∃ cs,w.heap[b]? = some (.cells cs.toArray T (0,0))∧r.rel h cs x:=(hst.own (k:=Sum.inl s) hk).2
theorem bf {T T':TypeId} {r:Rep α} {q:Rep β} {s off:Nat} {x:Operand} {y:α} {get:α→β} {set:α→β→α} (l:Lens r q off get set) (t:fU P T q) (ho:o.op = .load T x) (hx:bF N x (Ci s off)) :
  di P o N [(s,dJ T' r y)] (fV q (get y)) []:=by
 intro κ B F L h a w hst hn hk _ next Q hnext _
 obtain ⟨b,hd,hv⟩:=hx h a hn
 obtain ⟨e,hL,b',hv',rfl⟩:=hk.1
 have hd':a.gt s = .pointer (some ⟨b,0,none⟩):=hd
 rw [hd'] at hv';cases hv'
 obtain ⟨cs,hb,hr⟩:=JP hst hL
 obtain ⟨c,hc,hrun⟩:=yI t l hb hr
 unfold Oper.rJ
 have:(execOp a.eval o).run P w = .ok (.value (pack q.agg c)) w:=by simp [execOp,ho,hv,hrun]
 rw [this]
 exact hnext _ h w L (nI.refl h) ⟨c,hc,rfl⟩ hst nJ
theorem gK {T T':TypeId} {r:Rep α} {s:Nat} {y:α} (t:fU P T r) (ho:o.op = .load T (.tmp s)) :
  di P o N [(s,dJ T' r y)] (fV r y) []:=by
 intro κ B F L h a w hst hn hk _ next Q hnext _
 obtain ⟨e,hL,b,hv,rfl⟩:=hk.1
 have hv':a.eval (.tmp s) = .pointer (some ⟨b,0,none⟩):=hv
 obtain ⟨cs,hb,hr⟩:=JP hst hL
 obtain ⟨c,hc,hrun⟩:=yI t (Lens.refl r) hb hr
 unfold Oper.rJ
 have:(execOp a.eval o).run P w = .ok (.value (pack r.agg c)) w:=by simp [execOp,ho,hv',hrun]
 rw [this]
 exact hnext _ h w L (nI.refl h) ⟨c,hc,rfl⟩ hst nJ
theorem wY (w:World) (b:Nat) (cs cs':Array Value) (T:TypeId) (hb:w.heap[b]? = some (.cells cs T (0,0))):World.mem (w.setRow b cs') b=some (.cells cs' T (0,0)):=setRow_heap w b cs cs' T (0,0) hb
theorem St.put {κ:Type} {B:Base} {h:H} {L:Nat→Option gq} {F:κ→Option gq} {w:World} (hst:St B h (Sum.elim L F) w) {s b:Nat} {T:TypeId} {r:Rep α} {x y:α} {cs cs':List Value}
  (hk:L s=some (qK b T r x)) (hb:w.heap[b]? = some (.cells cs.toArray T (0,0))) (hr:r.rel h cs' y) :
  St B h (Sum.elim (set1 L s (qK b T r y)) F) (w.setRow b cs'.toArray):=by
 obtain ⟨hcl,_⟩:=hst.own (k:=Sum.inl s) hk
 have hno:=(hcl (b,0) (by simp [qK])).2.2
 refine hst.write (Sum.inl s) (e:=qK b T r x) hk (b:=b) (lo:=0) (by simp [qK]) (wY w b _ cs'.toArray T hb) (fun i hi=>setRow_other w b i cs'.toArray hi) (by simp [World.setRow]) rfl rfl rfl ?_ vg ?_
 ·intro o' v hh
  rw [hno o' (Nat.zero_le _)] at hh;cases hh
 ·intro e' he
  rw [vk he]
  exact ⟨fun c hc=>hc,cs',wY w b _ _ T hb,hr⟩
theorem QA {T:TypeId} {r:Rep α} {s:Nat} {v:Operand} {y z:α} (t:fU P T r) (hd:o.dst=none)
  (ho:o.op = .store T (.tmp s) v) (hv:bF N v (fV r z)):di P o N [(s,dJ T r y)] aQ.rD [(s,some (dJ T r z))]:=by
 intro κ B F L h a w hst hn hk _ next Q hnext _
 obtain ⟨e,hL,b,hxv,rfl⟩:=hk.1
 have Xp:a.eval (.tmp s) = .pointer (some ⟨b,0,none⟩):=hxv
 obtain ⟨cs,hb,hr⟩:=JP hst hL
 obtain ⟨c',hc',hvv⟩:=hv h a hn
 have hrun:=qZ (p:=[]) (c:=cs) (q:=[]) t hc' (by simpa using hb) (r.len hr)
 unfold Oper.rJ
 have:(execOp a.eval o).run P w = .ok .skip (w.setRow b c'.toArray):=by
  simp only [List.length_nil,List.nil_append,List.append_nil] at hrun
  simp only [execOp,ho,Xp,hvv,Sem.run_bind,hrun,Result.andThen_ok,Sem.run_pure]
 rw [this]
 refine hnext undef h _ _ (nI.refl h) trivial (hst.put hL hb hc') ?_
 rw [hd]
 exact qL ⟨b,hxv,rfl⟩
def idx (xs:List α) (n:Int):Option α:=if n<0 then none else xs[n.toNat]?
theorem aW {T E:TypeId} {r:Rep α} {k:IntKind} {x i:Operand} {xs:List α} {n:Int} {y:α} (t:fU P E r) (hT:P.underlying T=some (.slice E)) (hq:idx xs n=some y) (ho:o.op = .indexAddr T x i)
  (hx:bF N x (fV (Rep.slice r) xs)) (hi:bF N i (fV (Rep.int k) n)):di P o N [] (dn r y) [] :=
 di.qG fun h a w _ q=>by
  unfold idx at hq
  split at hq
  ·cases hq
  ·rename_i hn
   have hlt:=(List.getElem?_eq_some_iff.1 hq).1
   rcases pK.1 (hx h a q) with ⟨_,rfl⟩ | ⟨b,off,cap,hv,hcap,hc⟩
   ·simp at hlt
   ·refine ⟨.pointer (some ⟨b,off+n.toNat * r.sz,none⟩),?_,b,_,rfl,hc.1 _ _ hq⟩
    have:0≤n∧n<xs.length:=by omega
    simp [execOp,ho,hv,eF.1 (hi h a q),Instr.indexAt,asIntOf,run_underlying hT,this,t.size,Addr.add_mid]
theorem cO {T:TypeId} {E:TypeId} {r:Rep α} {x:Operand} {xs:List α} (hT:P.underlying T=some (.slice E)) (ho:o.op = .call { callee:=.builtin .len,args:=#[x],argTypes:=#[T] })
  (hx:bF N x (fV (Rep.slice r) xs)):di P o N [] (fV (Rep.int .i64) (xs.length:Int)) [] :=
 di.qG fun h a w _ q=>by
  refine ⟨.int .i64 (xs.length:Int),?_,eF.2 rfl⟩
  have:∃ ad cap,a.eval x = .slice ad xs.length cap:=by
   rcases pK.1 (hx h a q) with ⟨⟨base,hv⟩,rfl⟩ | ⟨b,off,cap,hv,_⟩
   ·exact ⟨_,_,hv⟩
   ·exact ⟨_,_,hv⟩
  obtain ⟨ad,cap,hv⟩:=this
  simp [execOp,ho,resolve,invoke,builtin,Builtin.len_,hv,run_underlying hT,goInt]
theorem yJ {T:TypeId} {x:Operand} {s:Str} (hT:P.underlying T=some .string) (ho:o.op = .call { callee:=.builtin .len,args:=#[x],argTypes:=#[T] })
  (hx:bF N x (fV Rep.str s)):di P o N [] (fV (Rep.int .i64) (s.length:Int)) [] :=
 di.qG fun h a w _ q=>by
  refine ⟨.int .i64 (s.length:Int),?_,eF.2 rfl⟩
  simp [execOp,ho,resolve,invoke,builtin,Builtin.len_,wZ.1 (hx h a q),run_underlying hT,goInt];rfl
end Go.KB
namespace Go.KB
variable {P:Program} {o:Oper} {N:List (Nat×aQ)} {f:aQ} {α β:Type}
def tJ (r:Rep α) (h:H):List Value→List α→Prop
 | cs,[]=>cs=[]
 | cs,x :: xs=>∃ c d,cs=c ++ d∧r.rel h c x∧tJ r h d xs
theorem tJ.len {r:Rep α} {h:H}:∀ {xs:List α} {cs:List Value},tJ r h cs xs→cs.length=xs.length * r.sz:=by
 intro xs
 induction xs with
 | nil=>intro cs e;rw [show cs=[] from e];simp
 | cons x xs ih=>rintro cs ⟨c,d,rfl,hc,hd⟩;rw [List.length_append,r.len hc,ih hd,List.length_cons,Nat.succ_mul,Nat.add_comm]
theorem tJ.flat {r:Rep α} {h:H}:∀ {xs:List α} {cs:List Value},tJ r h cs xs→∀ c ∈ cs,c.oneCell'=true:=by
 intro xs
 induction xs with
 | nil=>intro cs e c hc;rw [show cs=[] from e] at hc;cases hc
 | cons x xs ih =>
  rintro cs ⟨c,d,rfl,hc,hd⟩ v hv
  rcases List.mem_append.1 hv with hv | hv
  ·exact r.flat hc v hv
  ·exact ih hd v hv
theorem tJ.mono {r:Rep α} {h h':H} (hl:nI h h'):∀ {xs:List α} {cs:List Value},tJ r h cs xs→tJ r h' cs xs:=by
 intro xs
 induction xs with
 | nil=>intro cs e;exact e
 | cons x xs ih=>rintro cs ⟨c,d,e,hc,hd⟩;exact ⟨c,d,e,r.mono hl hc,ih hd⟩
theorem tJ.append {r:Rep α} {h:H}:∀ {xs:List α} {cs:List Value} {ys:List α} {ds:List Value},tJ r h cs xs→tJ r h ds ys→tJ r h (cs ++ ds) (xs ++ ys):=by
 intro xs
 induction xs with
 | nil=>intro cs ys ds e k;rw [show cs=[] from e];exact k
 | cons x xs ih=>rintro cs ys ds ⟨c,d,rfl,hc,hd⟩ k;exact ⟨c,d ++ ds,by simp,hc,ih hd k⟩
theorem tJ.get {r:Rep α} {h:H}:∀ {xs:List α} {cs:List Value},tJ r h cs xs→∀ {i:Nat} {x:α},xs[i]? = some x →
  ∃ p c q,cs=p ++ c ++ q∧p.length=i * r.sz∧r.rel h c x∧∀ h' c' y,nI h h'→r.rel h' c' y→tJ r h' (p ++ c' ++ q) (xs.set i y):=by
 intro xs
 induction xs with
 | nil=>intro cs _ i x h;simp at h
 | cons x xs ih =>
  rintro cs ⟨c,d,rfl,hc,hd⟩ i y hy
  cases i with
  | zero =>
   simp at hy;subst hy
   exact ⟨[],c,d,by simp,by simp,hc,fun h' c' z hl hz=>⟨c',d,by simp,hz,hd.mono hl⟩⟩
  | succ i =>
   obtain ⟨p,c1,q,rfl,hp,hc1,k⟩:=ih hd (by simpa using hy)
   refine ⟨c ++ p,c1,q,by simp,by rw [List.length_append,r.len hc,hp,Nat.succ_mul,Nat.add_comm],hc1,fun h' c' z hl hz=>⟨c,p ++ c' ++ q,by simp,r.mono hl hc,k h' c' z hl hz⟩⟩
theorem tJ.take {r:Rep α} {h:H}:∀ {xs:List α} {cs:List Value} (n:Nat),tJ r h cs xs→n≤xs.length→∃ c d,cs=c ++ d∧tJ r h c (xs.take n):=by
 intro xs
 induction xs with
 | nil=>intro cs n e hn;exact ⟨[],cs,by simp,by simp [tJ]⟩
 | cons x xs ih =>
  rintro cs n ⟨c,d,rfl,hc,hd⟩ hn
  cases n with
  | zero=>exact ⟨[],c ++ d,by simp,by simp [tJ]⟩
  | succ n =>
   obtain ⟨c1,d1,rfl,k⟩:=ih n hd (by simpa using hn)
   exact ⟨c ++ c1,d1,by simp,c,c1,rfl,hc,k⟩
theorem tJ.zeros (r:Rep α) (h:H) (n:Nat):tJ r h (List.replicate n r.zc).flatten (List.replicate n r.zero):=by
 induction n with
 | zero=>rfl
 | succ n ih=>exact ⟨r.zc,(List.replicate n r.zc).flatten,by simp [List.replicate_succ],r.xX h,ih⟩
theorem tJ.fr {r:Rep α} {b0:Bool} {h:H}:∀ {cs:List Value} {xs:List α},tJ { r with fr:=b0 } h cs xs→tJ r h cs xs:=by
 intro cs xs
 induction xs generalizing cs with
 | nil=>exact fun x=>x
 | cons x xs ih=>rintro ⟨c,d,e,h1,h2⟩;exact ⟨c,d,e,h1,ih h2⟩
theorem tJ.refs {r:Rep α} {h:H} {b off:Nat} {xs:List α} {cs:List Value} (k:tJ r h cs xs) (hc:∀ j v,cs[j]? = some v→h b (off+j)=some v) :
  ∀ i x,xs[i]? = some x→zJ r h b (off+i * r.sz) x:=by
 intro i x hx
 obtain ⟨p,c,q,rfl,hp,hr,_⟩:=k.get hx
 refine ⟨c,hr,fun j v hj=>?_⟩
 have:=hc (i * r.sz+j) v (by
  rw [List.append_assoc,List.getElem?_append_right (by omega),← hp,Nat.add_sub_cancel_left,List.getElem?_append_left (List.getElem?_eq_some_iff.1 hj).1];exact hj)
 rwa [← Nat.add_assoc] at this
theorem wH.cells0 {r:Rep α} {h:H} {b:Nat}:∀ {xs:List α} {off:Nat},(∀ i x,xs[i]? = some x→zJ r h b (off+i * r.sz) x)→∃ cs,tJ r h cs xs∧∀ j v,cs[j]? = some v→h b (off+j)=some v:=by
  intro xs
  induction xs with
  | nil=>intro off _;exact ⟨[],rfl,fun j v h=>by simp at h⟩
  | cons x xs ih =>
    intro off k
    obtain ⟨c,hc,hcc⟩:=k 0 x rfl
    obtain ⟨d,hd,hdc⟩:=ih (off:=off+r.sz) (fun i y hy=>by
      have:=k (i+1) y (by simpa using hy)
      rwa [Nat.succ_mul,Nat.add_comm (i * r.sz),← Nat.add_assoc] at this)
    refine ⟨c ++ d,⟨c,d,rfl,hc,hd⟩,fun j v hj=>?_⟩
    have hcl:=r.len hc
    by_cases hjc:j<c.length
    · rw [List.getElem?_append_left hjc] at hj
      have:=hcc j v hj;simpa using this
    · rw [List.getElem?_append_right (by omega)] at hj
      have:=hdc _ v hj
      rw [hcl] at this hjc
      rwa [show off+r.sz+(j - r.sz)=off+j from by omega] at this

def Rep.arr (r:Rep α) (n:Nat):Rep (List α) where
 sz:=n * r.sz
 agg:=true
 rel:=fun h cs xs=>xs.length=n∧tJ r h cs xs
 zero:=List.replicate n r.zero
 zc:=(List.replicate n r.zc).flatten
 one:=fun e=>by cases e
 len:=fun ⟨e,k⟩=>by rw [k.len,e]
 flat:=fun ⟨_,k⟩=>k.flat
 mono:=fun hl ⟨e,k⟩=>⟨e,k.mono hl⟩
 xX:=fun h=>⟨by simp,tJ.zeros r h n⟩
theorem wH.cells {r:Rep α} {h:H} {b:Nat} {X:Prop} {xs:List α} {off:Nat} (k:(∀ i x,xs[i]? = some x→zJ r h b (off+i * r.sz) x)∧X):∃ cs,tJ r h cs xs∧∀ j v,cs[j]? = some v→h b (off+j)=some v:=wH.cells0 k.1
theorem Lens.arr (r:Rep α) (n i:Nat) (hi:i<n):Lens (r.arr n) r (i * r.sz) (fun xs=>xs.getD i r.zero) (fun xs y=>xs.set i y):=by
 rintro h cs xs ⟨e,k⟩
 have hx:xs[i]? = some (xs.getD i r.zero):=by
  rw [List.getD_eq_getElem?_getD,List.getElem?_eq_getElem (by omega)];rfl
 obtain ⟨p,c,q,e',hp,hc,k'⟩:=k.get hx
 exact ⟨p,c,q,e',hp,hc,fun h' c' y hl hy=>⟨by simp [e],k' h' c' y hl hy⟩⟩
theorem Xq (off:Nat):∀ (c p c0 q:List Value) (k:Nat),c0.length=c.length→p.length=off+k →
  (c.zipIdx k).foldl (fun (cs:Array Value) (x:Value×Nat)=>cs.setIfInBounds (off+x.2) x.1) (p ++ c0 ++ q).toArray=(p ++ c ++ q).toArray:=by
 intro c
 induction c with
 | nil=>intro p c0 q k h1 _;have:c0=[]:=List.eq_nil_of_length_eq_zero h1;subst this;rfl
 | cons x c ih =>
  intro p c0 q k h1 h2
  match c0,h1 with
  | y :: c0,h1 =>
   simp only [List.zipIdx_cons,List.foldl_cons]
   have:(p ++ (y :: c0) ++ q).toArray.setIfInBounds (off+k) x=((p ++ [x]) ++ c0 ++ q).toArray:=by
    simp only [List.setIfInBounds_toArray]
    congr 1
    rw [List.append_assoc,← h2,List.set_append_right _ _ (Nat.le_refl _)]
    simp
   rw [this,ih (p ++ [x]) c0 q (k+1) (by simpa using h1) (by simp;omega)]
   simp
theorem Oc {r:Rep α} {h:H} {v:Value} {x:α} {place:Nat→Option (Nat×Nat)} {i off:Nat} {p c0 q:List Value} {rest:List (Nat×Value)} {cs:List Value} (hr:r.rel h cs x) (hv:v=pack r.agg cs) (hp:place i=some (off,r.sz)) (hl:p.length=off) (hc:c0.length=r.sz) :
  Instr.fill place (p ++ c0 ++ q).toArray ((i,v) :: rest)=Instr.fill place (p ++ cs ++ q).toArray rest:=by
 have hcells:=vY hr
 have hlen:=r.len hr
 rw [← hv] at hcells
 simp only [Instr.fill,hp,hcells]
 rw [if_neg (by simp;omega)]
 congr 1
 have:=Xq off cs p c0 q 0 (by omega) (by omega)
 rw [← this,← Array.foldl_toList]
 simp
def Fb (P:Program) (N:List (Nat×aQ)) (place:Nat→Option (Nat×Nat)) {α:Type} (r:Rep α):List (Nat×Operand)→α→α→Prop
 | [],x,y=>x=y
 | (i,o) :: rest,x,y=>∃ (β:Type) (s:Rep β) (off:Nat) (get:α→β) (set:α→β→α) (z:β),Lens r s off get set∧place i=some (off,s.sz)∧bF N o (fV s z)∧Fb P N place r rest (set x z) y
theorem pz {place:Nat→Option (Nat×Nat)} {r:Rep α} {x:α}:Fb P N place r [] x x:=rfl
theorem jB {place:Nat→Option (Nat×Nat)} {r:Rep α} {s:Rep β} {off i:Nat} {x':Operand} {get:α→β} {set:α→β→α} {z:β} {rest:List (Nat×Operand)} {x y:α} (l:Lens r s off get set) (hp:place i=some (off,s.sz)) (ho:bF N x' (fV s z))
  (k:Fb P N place r rest (set x z) y):Fb P N place r ((i,x') :: rest) x y:=⟨β,s,off,get,set,z,l,hp,ho,k⟩
theorem Fb.run {place:Nat→Option (Nat×Nat)} {r:Rep α} {h:H} {a:Act} (n:Dl N h a):∀ {parts:List (Nat×Operand)} {x y:α} {cs:List Value},Fb P N place r parts x y→r.rel h cs x →
  ∃ cs',Instr.fill place cs.toArray (parts.map fun q=>(q.1,a.eval q.2))=some cs'.toArray∧r.rel h cs' y:=by
 intro parts
 induction parts with
 | nil=>intro x y cs k hr;rw [show x=y from k] at hr;exact ⟨cs,rfl,hr⟩
 | cons q rest ih =>
  obtain ⟨i,op⟩:=q
  rintro x y cs ⟨β,s,off,get,set,z,l,hp,ho,k⟩ hr
  obtain ⟨p,c,q,rfl,hpl,hc,hset⟩:=l h cs x hr
  obtain ⟨c',hc',hv⟩:=ho h a n
  simp only [List.map_cons]
  rw [Oc hc' hv hp hpl (s.len hc)]
  exact ih k (hset h c' z (nI.refl h) hc')
def ku (P:Program) (T:TypeId) (place:Nat→Option (Nat×Nat)):Prop :=
 ∀ (z:Array Value) (parts:Array (Nat×Value)) (w:World) (cs:Array Value) (v:Value),(zeroValue T).run P w = .ok v w→v.cells=z→Instr.fill place z parts.toList=some cs→(Instr.build T parts).run P w = .ok (.agg cs) w
theorem ku.mk {T:TypeId} {fs:Array Field} {pl:List (Nat×Nat)} (h1:P.underlying T=some (.struct fs)) (h2:∀ w,(fs.mapM fun f=>do pure (f.offset,← sizeOf f.type):Sem (Array (Nat×Nat))).run P w = .ok pl.toArray w):ku P T (fun i=>pl[i]?):=by
 intro z parts w cs v hv hz hf
 have:(fun (x:Nat)=>pl.toArray[x]?)=fun i=>pl[i]?:=by funext i;simp
 unfold Instr.build
 rw [Sem.run_bind,hv]
 simp only [Result.andThen_ok,Sem.run_bind,run_underlying h1,h2,hz,this,hf,Sem.run_pure]
def Hy (P:Program):List Field→Option (List (Nat×Nat))
 | []=>some []
 | f :: r=>match P.info? f.type,Hy P r with
  | some i,some l=>some ((f.offset,i.size) :: l)
  | _,_=>none
theorem NM:∀ (l:List Field) (pl:List (Nat×Nat)) (w:World),Hy P l=some pl→(l.mapM fun f=>do pure (f.offset,← sizeOf f.type):Sem (List (Nat×Nat))).run P w = .ok pl w:=by
 intro l
 induction l with
 | nil=>intro pl w h;cases h;simp
 | cons f r ih =>
  intro pl w h
  simp only [Hy] at h
  split at h
  ·rename_i i l' hi hl
   cases h
   have hs:(sizeOf f.type).run P w = .ok i.size w:=by simp [sizeOf,typeInfo,hi]
   rw [List.mapM_cons]
   simp only [Sem.run_bind,hs,Result.andThen_ok,Sem.run_pure,ih l' w hl]
  ·cases h
def LX (P:Program) (T:TypeId):Option (List (Nat×Nat)) :=
 match P.underlying T with
 | some (.struct fs)=>Hy P fs.toList
 | _=>none
theorem ku.of {T:TypeId} {pl:List (Nat×Nat)} (h:LX P T=some pl):ku P T (fun i=>pl[i]?):=by
 unfold LX at h
 split at h
 ·rename_i fs hT
  refine ku.mk hT fun w=>?_
  have:=NM (P:=P) _ _ w h
  have e:∀ m:Sem (List (Nat×Nat)),(List.toArray <$> m).run P w=(m.run P w).andThen fun a w'=>.ok a.toArray w':=fun m=>by simp
  rw [Array.mapM_eq_mapM_toList,e,this];rfl
 ·cases h
theorem mQ {T:TypeId} {r:Rep α} {place:Nat→Option (Nat×Nat)} {parts:Array (Nat×Operand)} {y:α} (t:fU P T r) (hag:r.agg=true) (hpl:ku P T place) (ho:o.op = .build T parts)
  (k:Fb P N place r parts.toList r.zero y):di P o N [] (fV r y) [] :=
 di.qG fun h a w _ n=>by
  obtain ⟨cs',hf,hr⟩:=k.run n (r.xX h)
  refine ⟨.agg cs'.toArray,?_,cs',hr,by rw [hag];rfl⟩
  have h1:=hpl r.zc.toArray (parts.map fun q=>(q.1,a.eval q.2)) w cs'.toArray _ (t.zero w) (vY (r.xX h)) (by rw [Array.toList_map];exact hf)
  simp only [execOp,ho,Sem.run_bind,h1,Result.andThen_ok,Sem.run_pure]
def zX (P:Program) (E:TypeId) (r:Rep α):Prop:=(P.info? E).map (fun i=>(i.size,Nat.ble i.bytes 1024,i.zero))=some (r.sz,true,some (pack r.agg r.zc))
theorem zX.out {E:TypeId} {r:Rep α} (h:zX P E r):∃ i,P.info? E=some i∧i.size=r.sz∧i.bytes≤1024∧i.zero=some (pack r.agg r.zc):=by
 unfold zX at h
 cases hi:P.info? E with
 | none=>rw [hi] at h;cases h
 | some i =>
  rw [hi] at h
  simp only [Option.map_some,Option.some.injEq,Prod.mk.injEq] at h
  exact ⟨i,rfl,h.1,Nat.le_of_ble_eq_true h.2.1,h.2.2⟩
theorem Qn (r:Rep α) (n:Nat):((Array.range (n * r.sz)).map (fun j=>r.zc.toArray[j % r.zc.toArray.size]!))=(List.replicate n r.zc).flatten.toArray:=by
 have hz:=r.len (r.xX ⟨fun _ _=>none,0⟩)
 apply Array.ext'
 simp only [Array.toList_map,Array.toList_range]
 induction n with
 | zero=>simp
 | succ n ih =>
  rw [Nat.succ_mul,List.range_add,List.map_append,ih,List.replicate_succ',List.flatten_append]
  congr 1
  simp only [List.map_map,List.flatten_cons,List.flatten_nil,List.append_nil]
  apply List.ext_getElem?
  intro j
  simp only [List.getElem?_map,List.size_toArray,hz]
  by_cases hj:j<r.sz
  ·rw [List.getElem?_range hj]
   simp only [Option.map_some,Function.comp_apply]
   rw [show (n * r.sz+j) % r.sz=j from by rw [Nat.add_comm,Nat.add_mul_mod_self_right,Nat.mod_eq_of_lt hj]]
   rw [List.getElem?_eq_getElem (by omega)]
   simp [hj,hz]
  ·rw [List.getElem?_eq_none (by simp;omega),List.getElem?_eq_none (by omega)];rfl
def cellsE (E:TypeId) (b:Nat) (lo hi:Nat):gq where
 claims:=[(b,lo)]
 ok:=fun _ m=>∃ cs,m b=some (.cells cs E (0,0))∧hi≤cs.size
 mono:=fun _ x=>x
 frame:=fun hm ⟨cs,e,k⟩=>⟨cs,by rw [hm (b,lo) (by simp)];exact e,k⟩
def oV:gq:=⟨[],fun _ _=>True,fun _ x=>x,fun _ x=>x⟩
def eH (E:TypeId) (sz:Nat):eP:=fun v e=>(∃ base len,v = .slice base len len∧e=oV)∨∃ b off len cap,v = .slice (some ⟨b,off,none⟩) len cap∧e=cellsE E b (off+len * sz) (off+cap * sz)
theorem St.newRow {κ:Type} {B:Base} {h:H} {L:Nat→Option gq} {F:κ→Option gq} {w:World} (hst:St B h (Sum.elim L F) w) {r:Rep α} {cs rest:List Value} {xs:List α} (E:TypeId) (d cap:Nat) (hr:tJ r h cs xs) (hcap:(cs ++ rest).length=cap * r.sz) (hx:xs.length≤cap) :
    ∃ h',nI h h'∧St B h' (Sum.elim (set1 L d (cellsE E w.heap.size (xs.length * r.sz) (cap * r.sz))) F) (w.alloc (.cells (cs ++ rest).toArray E))∧wH r h' (.slice (some ⟨w.heap.size,0,none⟩) xs.length cap) xs:=by
  have hl:=hr.len
  have h1:=hst.BI (.cells (cs ++ rest).toArray E) d (cellsE E w.heap.size 0 (cap * r.sz)) (by simp [cellsE]) ⟨_,BJ _ _,by simpa using Nat.le_of_eq hcap.symm⟩
  have hnew:(w.alloc (.cells (cs ++ rest).toArray E)).heap[w.heap.size]? = some (.cells (cs ++ rest).toArray E (0,0)):=heap_alloc_new w _
  obtain ⟨hle, h2⟩ := h1.freeze (Sum.inl d) (e := cellsE E w.heap.size 0 (cap * r.sz)) (by simp [set1]) (b := w.heap.size) (lo := 0) (by simp [cellsE]) hnew (xs.length * r.sz) (by rw [List.size_toArray, hcap]; exact Nat.mul_le_mul_right _ hx)
    (L':=Sum.elim (set1 L d (cellsE E w.heap.size (xs.length * r.sz) (cap * r.sz))) F) (by
      intro k' e' hne he
      have:=vg k' e' hne he
      cases k' with
      | inr k=>exact he
      | inl k =>
        have:k≠d:=fun x=>hne (by rw [x])
        simpa [set1,this] using he) (by
      intro e' he
      rw [vk he]
      refine ⟨?_,⟨_,hnew,by simpa using Nat.le_of_eq hcap.symm⟩⟩
      intro q hq
      simp [cellsE] at hq
      subst hq
      exact ⟨⟨(w.heap.size,0),by simp [cellsE],rfl,Nat.zero_le _⟩,fun _=>Nat.le_refl _⟩)
  have htk:(cs ++ rest).toArray.toList.take (xs.length * r.sz)=cs:=by
    rw [← hl];simp
  rw [htk] at hle h2
  refine ⟨_,hle,h2,.inr ⟨w.heap.size,0,cap,rfl,hx,?_,fun _=>hst.mn⟩⟩
  refine (hr.mono hle).refs fun j v hj=>?_
  have hjl:=(List.getElem?_eq_some_iff.1 hj).1
  rw [Nat.zero_add,zK hjl,← hj,List.getElem?_eq_getElem hjl]

theorem ET (E:TypeId) (cs:Array Value) (w:World):(newRow E cs).run P w = .ok ⟨w.heap.size,0,none⟩ (w.alloc (.cells cs E)):=rfl
theorem run_buildSlice {T E:TypeId} {r:Rep α} {n:Nat} {parts:Array (Nat×Operand)} {ys:List α} {h:H} {a:Act} (w:World) (t:fU P E r) (hT:P.underlying T=some (.slice E)) (hsz:n * r.sz≤2 ^ 24)
  (k:Fb P N (fun i=>some (i * r.sz,r.sz)) (r.arr n) parts.toList (List.replicate n r.zero) ys) (hn:Dl N h a) :
  ∃ cs,tJ r h cs ys∧ys.length=n∧(Instr.buildSlice T n (parts.map fun q=>(q.1,a.eval q.2))).run P w = .ok (.slice (some ⟨w.heap.size,0,none⟩) n n) (w.alloc (.cells cs.toArray E)):=by
 obtain ⟨cs,hf,hl,hr⟩:=k.run hn ((r.arr n).xX h)
 refine ⟨cs,hr,hl,?_⟩
 have hz:=vY (r.xX h)
 have hzl:=r.len (r.xX h)
 have hf':Instr.fill (fun i=>some (i * r.sz,r.sz)) (List.replicate n r.zc).flatten.toArray ((parts.map fun q=>(q.1,a.eval q.2))).toList=some cs.toArray:=by
  rw [Array.toList_map];exact hf
 unfold Instr.buildSlice
 simp only [Sem.run_bind,run_underlying hT,Result.andThen_ok,t.size]
 rw [if_neg (by omega)]
 by_cases h0:n * r.sz=0
 ·have hnil:(List.replicate n r.zc).flatten=[]:=by
   apply List.eq_nil_of_length_eq_zero
   rw [List.length_flatten];simp [hzl,h0]
  rw [hnil] at hf'
  simp only [h0,if_true,Sem.run_bind,Sem.run_pure,Result.andThen_ok]
  simp only [Array.range_zero',Array.map_empty]
  rw [show (#[]:Array Value)=[].toArray from rfl,hf']
  simp only [Sem.run_bind,ET,Result.andThen_ok,Sem.run_pure]
 ·simp only [h0,if_false,Sem.run_bind,t.zero,Sem.run_pure,Result.andThen_ok,hz]
  rw [Qn,hf']
  simp only [Sem.run_bind,ET,Result.andThen_ok,Sem.run_pure]
theorem jb {T E:TypeId} {r:Rep α} {n:Nat} {parts:Array (Nat×Operand)} {ys:List α} (t:fU P E r) (hT:P.underlying T=some (.slice E)) (hsz:Nat.ble (n * r.sz) (2 ^ 24)=true) (ho:o.op = .buildSlice T n parts)
  (k:Fb P N (fun i=>some (i * r.sz,r.sz)) (r.arr n) parts.toList (List.replicate n r.zero) ys):di P o N [] (fV (Rep.slice r) ys) []:=by
 intro κ B F L h a w hst hn _ _ next Q hnext _
 obtain ⟨cs,hr,hl,hrun⟩:=run_buildSlice w t hT (Nat.le_of_ble_eq_true hsz) k hn
 unfold Oper.rJ
 have:(execOp a.eval o).run P w = .ok (.value (.slice (some ⟨w.heap.size,0,none⟩) n n)) (w.alloc (.cells cs.toArray E)):=by
  simp only [execOp,ho,Sem.run_bind,hrun,Result.andThen_ok,Sem.run_pure]
 rw [this]
 obtain ⟨hle,hst'⟩:=hst.Xb cs E
 refine hnext _ _ _ L hle (pK.2 (.inr ⟨w.heap.size,0,n,by rw [hl],Nat.le_of_eq hl,?_,fun _=>hst.mn⟩)) hst' nJ
 refine (hr.mono hle).refs fun j v hj=>?_
 have hjl:=(List.getElem?_eq_some_iff.1 hj).1
 rw [Nat.zero_add,zK hjl,← hj,List.getElem?_eq_getElem hjl]
end Go.KB
