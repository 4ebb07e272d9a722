/- From the functions' facts to the given rows. No condition. -/
import Derived.Test.YtdmioehoinnamaaGreatDoorKZb
import Derived.JoinedOf
import Derived.Carry
import Derived.ChangeCalls
import Derived.ChangeSame
import Derived.Handed
import Derived.OpenShut
import Derived.Deep.Slices
namespace Go.KB
open Go.RowKit
variable {P:Program} {α β:Type}

def hW (W:World):H:=⟨fun b o=>W.cell? ⟨b,o,none⟩,W.heap.size⟩
/- what is read of a type's cells is a value of a Lean type, of which G holds -/
def Opens (P:Program) (T:TypeId) (r:Rep α) (G:α→Prop):Prop :=
  ∀ (X:Type) (enc:TypeId×Value→X) (W:World) (base:Nat) (held:Bool) (fuel:Nat) (cs:List Value) (x:DataW X×List MemPlace),DataW.trod enc P W base (fun _=>true) held fuel T cs=some x→∃ y,r.rel (hW W) cs y∧G y


theorem Opens.int {T:TypeId} {k:IntKind} (ht:P.underlying T=some (.int k)):Opens P T (Rep.int k) (gI k):=by
  intro X enc W base held fuel cs x h
  cases fuel with
  | zero=>simp [DataW.trod] at h
  | succ n =>
    rcases cs with _ | ⟨c,_ | ⟨c',cs⟩⟩
    · simp [DataW.trod,ht] at h
    · cases c <;> simp [DataW.trod,ht] at h
      obtain ⟨⟨rfl,hw⟩,_⟩:=h
      refine ⟨_,rfl,?_⟩
      simpa [Lit.wf,gI] using hw
    · simp [DataW.trod,ht] at h
theorem Opens.bool {T:TypeId} (ht:P.underlying T=some .bool):Opens P T Rep.bool (fun _=>True):=by
  intro X enc W base held fuel cs x h
  cases fuel with
  | zero=>simp [DataW.trod] at h
  | succ n =>
    rcases cs with _ | ⟨c,_ | ⟨c',cs⟩⟩
    · simp [DataW.trod,ht] at h
    · cases c <;> simp [DataW.trod,ht] at h
      exact ⟨_,rfl,trivial⟩
    · simp [DataW.trod,ht] at h
theorem Opens.str {T:TypeId} (ht:P.underlying T=some .string):Opens P T Rep.str gS:=by
  intro X enc W base held fuel cs x h
  cases fuel with
  | zero=>simp [DataW.trod] at h
  | succ n =>
    rcases cs with _ | ⟨c,_ | ⟨c',cs⟩⟩
    · simp [DataW.trod,ht] at h
    · cases c <;> simp [DataW.trod,ht] at h
      rename_i s
      refine ⟨s.data.toList,?_,?_⟩
      · show _=_
        simp
      · obtain ⟨hs,_⟩:=h
        show s.data.toList.length≤maxLen
        rw [Array.length_toList];exact hs
    · simp [DataW.trod,ht] at h
theorem Lu {W:World} {base:Nat} {a:Addr} {n:Nat} {cs:List Value} (h:W.cells? base a n=some cs):cs.length=n∧∀ j v,cs[j]? = some v→W.cell? (a.add j)=some v:=by
  unfold World.cells? at h
  split at h
  · have key:∀ (m k:Nat) (cs:List Value),(List.range' k m).mapM (fun i=>W.cell? (a.add i))=some cs→cs.length=m∧∀ j v,cs[j]? = some v→W.cell? (a.add (k+j))=some v:=by
      intro m
      induction m with
      | zero=>intro k cs h;simp at h;subst h;exact ⟨rfl,fun j v hj=>by simp at hj⟩
      | succ m ih =>
        intro k cs h
        rw [List.range'_succ,List.mapM_cons] at h
        cases hc:W.cell? (a.add k) with
        | none=>rw [hc] at h;cases h
        | some c =>
          rw [hc] at h
          cases hr:(List.range' (k+1) m).mapM (fun i=>W.cell? (a.add i)) with
          | none=>simp [hr] at h
          | some r =>
            simp [hr] at h;subst h
            obtain ⟨h1,h2⟩:=ih (k+1) r hr
            refine ⟨by simp [h1],fun j v hj=>?_⟩
            cases j with
            | zero=>cases hj;exact hc
            | succ j=>have:=h2 j v hj;rwa [show k+(j+1)=k+1+j by omega]
    rw [List.range_eq_range'] at h
    have:=key n 0 cs h
    simpa using this
  · cases h
theorem Opens.slice {T E:TypeId} {r:Rep α} {G:α→Prop} (ht:P.underlying T=some (.slice E)) (hc:P.cellsOf E=r.sz) (hpos:0<r.sz) (el:Opens P E r G) (hfr:r.fr=false:=by rfl):Opens P T (Rep.slice r) (gL G):=by
  intro X enc W base held fuel cs x h
  rcases Go.Deep.open_slice ht h with ⟨rfl,_⟩ | ⟨a,len,cap,m,n,D,Pl,rfl,hb,hl,hm,hmm,_,hx⟩
  · exact ⟨[],⟨_,rfl,.inl ⟨⟨none,rfl⟩,rfl⟩⟩,by simp [gL]⟩
  · simp at hmm
    subst hmm
    by_cases hcap:m=0
    · subst hcap
      have:len=0:=by omega
      subst this
      exact ⟨[],⟨_,rfl,.inl ⟨⟨_,rfl⟩,rfl⟩⟩,by simp [gL]⟩
    · have key:∀ i,i<m→∃ y,G y∧zJ r (hW W) a.block (a.off+i * r.sz) y:=by
        intro i hi
        obtain ⟨cs',h1,h2⟩:=hx i hi
        obtain ⟨y,hy,hg⟩:=el X enc W base held n cs' _ h2
        rw [hc] at h1
        obtain ⟨hlen,hget⟩:=Lu h1
        refine ⟨y,hg,cs',hy,fun j v hj=>?_⟩
        have:=hget j v hj
        unfold hW
        unfold Addr.add at this
        split at this
        · rename_i hj0
          subst hj0
          split at this
          · rename_i hi0
            have hi1:i * r.sz=0:=hi0
            rw [hi1]
            have hsp:a.spot=none:=by
              cases hs:a.spot with
              | none=>rfl
              | some q =>
                exfalso
                unfold World.cell? at this
                rw [hs] at this
                split at this <;> simp at this
            cases a;simp only at hsp;subst hsp;simpa using this
          · simpa using this
        · split at this
          · rename_i hi0
            rw [show i * r.sz=0 from hi0];simpa using this
          · simpa [Nat.add_assoc] using this
      have hspot:a.spot=none:=by
        obtain ⟨cs',h1,_⟩:=hx 0 (by omega)
        rw [hc] at h1
        obtain ⟨hlen,hget⟩:=Lu h1
        cases cs' with
        | nil=>simp at hlen;omega
        | cons c cs' =>
          have:=hget 0 c rfl
          cases hs:a.spot with
          | none=>rfl
          | some q =>
            exfalso
            simp only [Addr.add,Nat.zero_mul,if_true] at this
            unfold World.cell? at this
            rw [hs] at this
            split at this <;> simp at this
      obtain ⟨b,off,sp⟩:=a
      simp only at hspot;subst hspot
      obtain ⟨f,hf⟩:∃ f:Fin m→α,∀ i:Fin m,G (f i)∧zJ r (hW W) b (off+i.1 * r.sz) (f i):=⟨fun i=>Classical.choose (key i.1 i.2),fun i=>Classical.choose_spec (key i.1 i.2)⟩
      refine ⟨(List.ofFn f).take len,⟨_,rfl,.inr ⟨b,off,m,?_,?_,?_,fun e=>by rw [hfr] at e;cases e⟩⟩,?_,?_⟩
      · simp;omega
      · simp;omega
      · intro i y hy
        rw [List.getElem?_take] at hy
        split at hy
        · rw [List.getElem?_ofFn] at hy
          split at hy
          · rename_i hi;cases hy;exact (hf ⟨i,hi⟩).2
          · cases hy
        · cases hy
      · simp;omega
      · intro y hy
        have:=List.mem_of_mem_take hy
        rw [List.mem_ofFn] at this
        obtain ⟨i,rfl⟩:=this
        exact (hf i).1

/- structs: their fields one behind the other -/
def JL (P:Program):List (TypeId×Nat)→Nat→(r:Rep α)→(α→Prop)→Prop:=fun fs off r G =>
  ∀ (X:Type) (enc:TypeId×Value→X) (W:World) (base:Nat) (held:Bool) (fuel:Nat) (cs:List Value),off+r.sz≤cs.length →
    (∀ f ∈ fs,∃ x,DataW.trod enc P W base (fun _=>true) held fuel f.1 ((cs.drop f.2).take (P.cellsOf f.1))=some x)→∃ y,r.rel (hW W) ((cs.drop off).take r.sz) y∧G y
theorem JL.nil {off:Nat}:JL P [] off Rep.unit (fun _=>True):=fun X enc W base held fuel cs _ _=>⟨(),by simp [Rep.unit],trivial⟩
theorem JL.cons {t:TypeId} {fs:List (TypeId×Nat)} {off:Nat} {r:Rep α} {s:Rep β} {G:α→Prop} {G':β→Prop} (hc:P.cellsOf t=r.sz) (h1:Opens P t r G) (h2:JL P fs (off+r.sz) s G') :
    JL P ((t,off) :: fs) off (r.prod s) (fun x=>G x.1∧G' x.2):=by
  intro X enc W base held fuel cs hl hall
  have hl:off+(r.sz+s.sz)≤cs.length:=hl
  obtain ⟨x,hx⟩:=hall (t,off) List.mem_cons_self
  obtain ⟨y,hy,hg⟩:=h1 X enc W base held fuel _ x hx
  obtain ⟨z,hz,hg'⟩:=h2 X enc W base held fuel cs (by omega) (fun g hg=>hall g (List.mem_cons_of_mem _ hg))
  refine ⟨(y,z),⟨_,_,?_,hy,hz⟩,hg,hg'⟩
  simp only []
  rw [hc,← List.drop_drop]
  show List.take (r.sz+s.sz) _=_
  rw [List.take_add]
def fieldsB (P:Program) (T:TypeId) (l:List (TypeId×Nat)):Bool:=match P.underlying T with | some (.struct fs)=>(fs.toList.map fun f=>(f.type,f.offset)) == l | _=>false
theorem Opens.struct {T:TypeId} {l:List (TypeId×Nat)} {r:Rep α} {G:α→Prop} {f:β→α} {g:α→β} {fg:∀ x,f (g x)=x} (ht:fieldsB P T l=true) (hc:P.cellsOf T=r.sz) (h:JL P l 0 r G):Opens P T (r.yw f g fg) (fun y=>G (f y)):=by
  unfold fieldsB at ht
  cases hu:P.underlying T with
  | none=>rw [hu] at ht;cases ht
  | some d =>
    rw [hu] at ht
    cases d <;> first | (cases ht;done) | skip
    rename_i fs
    simp only [beq_iff_eq] at ht
    intro X enc W base held fuel cs x hx
    obtain ⟨xs,n,_,_,hl,hlen,hf⟩:=DataW.trod_struct hu hx
    obtain ⟨y,hy,hg⟩:=h X enc W base held n cs (by omega) (fun q hq=>by
      rw [← ht,List.mem_map] at hq
      obtain ⟨q,hq,rfl⟩:=hq
      obtain ⟨i,hi,rfl⟩:=List.getElem_of_mem hq
      have hi':fs[i]? = some fs.toList[i]:=by simp at hi;simp [hi]
      have:=hf i _ hi'
      cases hxi:xs[i]? with
      | none =>
        rw [List.getElem?_eq_none_iff] at hxi
        simp at hi;omega
      | some y=>exact ⟨y,by rw [this,hxi]⟩)
    refine ⟨g y,?_,show G (f (g y)) by rw [fg];exact hg⟩
    show r.rel (hW W) cs (f (g y))
    rw [fg]
    rwa [List.drop_zero,List.take_of_length_le (by omega)] at hy
/- arrays -/
theorem Opens.arr {T E:TypeId} {n:Nat} {r:Rep α} {G:α→Prop} (ht:P.underlying T=some (.array n E)) (hc:P.cellsOf E=r.sz) (hcT:P.cellsOf T=n * r.sz) (el:Opens P E r G):Opens P T (Rep.arr r n) (gA n G):=by
  intro X enc W base held fuel cs x hx
  obtain ⟨xs,m,_,_,hl,hlen,hf⟩:=DataW.trod_array ht hx
  have key:∀ (k:Nat) (ds:List Value),k≤n→ds=cs.drop ((n - k) * r.sz)→∃ ys,ys.length=k∧tJ r (hW W) ds ys∧∀ y ∈ ys,G y:=by
    intro k
    induction k with
    | zero =>
      intro ds _ hd
      refine ⟨[],rfl,?_,fun y hy=>by cases hy⟩
      show ds=[]
      rw [hd,List.drop_eq_nil_iff,hl,hcT,Nat.sub_zero]
      exact Nat.le_refl _
    | succ k ih =>
      intro ds hk hd
      have hi:=hf (n - (k+1)) (by omega)
      rw [hc] at hi
      have hsome:xs[n - (k+1)]? = some xs[n - (k+1)]:=List.getElem?_eq_getElem (by omega)
      rw [hsome] at hi
      obtain ⟨y,hy,hg⟩:=el X enc W base held m _ _ hi
      obtain ⟨ys,h1,h2,h3⟩:=ih (cs.drop ((n - k) * r.sz)) (by omega) rfl
      refine ⟨y :: ys,by simp [h1],⟨(cs.drop ((n - (k+1)) * r.sz)).take r.sz,cs.drop ((n - k) * r.sz),?_,hy,h2⟩,?_⟩
      · rw [hd]
        have e:(n - k) * r.sz=(n - (k+1)) * r.sz+r.sz:=by rw [← Nat.succ_mul];congr 1;omega
        rw [e,← List.drop_drop,List.take_append_drop]
      · intro z hz
        rcases List.mem_cons.1 hz with rfl | hz
        · exact hg
        · exact h3 z hz
  obtain ⟨ys,h1,h2,h3⟩:=key n cs (Nat.le_refl _) (by simp)
  exact ⟨ys,⟨h1,h2⟩,h1,h3⟩
theorem Opens.imp {T:TypeId} {r:Rep α} {G G':α→Prop} (h:Opens P T r G) (hg:∀ x,G x→G' x):Opens P T r G':=by
  intro X enc W base held fuel cs x hx
  obtain ⟨y,hy,hG⟩:=h X enc W base held fuel cs x hx
  exact ⟨y,hy,hg y hG⟩

def isAgg (P:Program) (T:TypeId):Bool:=match P.underlying T with | some (.struct _) | some (.array _ _)=>true | _=>false
theorem Ql {T:TypeId} {W:World} {base:Nat} {v:Value} {agg:Bool} (ha:isAgg P T=agg) (h:Value.okWide P W .any base T v):v=pack agg v.cells.toList:=by
  subst ha
  unfold isAgg
  unfold Value.okWide at h
  cases hT:P.underlying T with
  | none=>rw [hT] at h;simp [Cell.okWide,Cell.ok,hT] at h
  | some d =>
    rw [hT] at h
    cases d <;> first
      | (obtain ⟨cs,rfl,_⟩:=h;simp [pack,Value.cells])
      | (simp only [pack,cond_false];cases v <;> first | rfl | (exfalso;simp [Cell.okWide,Cell.ok,hT] at h))

/- .. where what is read is of bounded size -/
def OpensW (P:Program) (T:TypeId) (r:Rep α) (G:α→Prop):Prop :=
  ∀ (X:Type) (enc:TypeId×Value→X) (W:World) (base:Nat) (held:Bool) (fuel:Nat) (cs:List Value) (x:DataW X×List MemPlace),DataW.trod enc P W base (fun _=>true) held fuel T cs=some x →
    (x.1.weights P T).all (· ≤ reachBytes)=true→∃ y,r.rel (hW W) cs y∧G y
theorem OpensW.of {T:TypeId} {r:Rep α} {G:α→Prop} (h:Opens P T r G):OpensW P T r G:=fun X enc W base held fuel cs x hx _=>h X enc W base held fuel cs x hx
theorem OpensW.slice {T E:TypeId} {r:Rep α} {G:List α→Prop} (ht:P.underlying T=some (.slice E)) (h:Opens P T (Rep.slice r) G):OpensW P T (Rep.slice r) (fun y=>G y∧y.length * P.bytesOf E≤reachBytes):=by
  intro X enc W base held fuel cs x hx hw
  obtain ⟨y,⟨v,hcs,hy⟩,hg⟩:=h X enc W base held fuel cs x hx
  refine ⟨y,⟨v,hcs,hy⟩,hg,?_⟩
  rcases hy with ⟨_,rfl⟩ | ⟨b,off,cap,rfl,hc,_⟩
  · simp
  · rcases Go.Deep.open_slice ht hx with ⟨rfl,_⟩ | ⟨a,len,cap',m,n,D,Pl,rfl,hb,hl,hm,hmm,rfl,_⟩
    · simp at hcs
    · simp only [List.cons.injEq,Value.slice.injEq,and_true] at hcs
      obtain ⟨_,h2,_⟩:=hcs
      simp only [DataW.weights,ht,List.all_cons,Bool.and_eq_true,decide_eq_true_eq,List.length_map,List.length_range] at hw
      refine Nat.le_trans (Nat.mul_le_mul_right _ ?_) hw.1
      omega
/- what the arguments are -/
inductive Params (P:Program):List TypeId→(ι:Type)→(ι→List aQ)→(ι→Prop)→Prop where
  | nil:Params P [] Unit (fun _=>[]) (fun _=>True)
  | cons {T:TypeId} {ts:List TypeId} {α ι:Type} {r:Rep α} {G:α→Prop} {A:ι→List aQ} {G':ι→Prop} (h1:OpensW P T r G) (ha:isAgg P T=r.agg) (hr:P.readableRec T=true) (hT:T<P.types.size) (h2:Params P ts ι A G') :
      Params P (T :: ts) (α×ι) (fun x=>fV r x.1 :: A x.2) (fun x=>G x.1∧G' x.2)
theorem Params.open {ts:List TypeId} {ι:Type} {A:ι→List aQ} {G:ι→Prop} (hp:Params P ts ι A G):∀ {X:Type} {enc:TypeId×Value→X} {W:World} {base b0:Nat} {vs:List Value} {ds:List (DataW X)} {ps:List MemPlace},
    DataW.TrodAll enc P W b0 (fun _=>true) true ts vs ds ps→(DataW.weightsEach P ts ds).all (· ≤ reachBytes)=true→(∀ (j:Nat) t v,ts[j]? = some t→vs[j]? = some v→Value.okWide P W .any base t v)→∃ i,G i∧(A i).length=vs.length∧∀ (j:Nat) g v,(A i)[j]? = some g→vs[j]? = some v→g.p (hW W) undef v:=by
  induction hp with
  | nil =>
    intro X enc W base b0 vs ds ps h _ hv
    obtain ⟨rfl,_,_⟩:=ChangeShapes.trodAll_nil h
    exact ⟨(),trivial,rfl,fun j g v hg=>by simp at hg⟩
  | cons h1 ha hr hT h2 ih =>
    intro X enc W base b0 vs ds ps h hw hv
    obtain ⟨v,vs',d,ds',p,q,rfl,rfl,rfl,⟨n,hd⟩,hrest⟩:=ChangeShapes.trodAll_cons h
    simp only [DataW.weightsEach,List.all_append,Bool.and_eq_true] at hw
    obtain ⟨i,hG,hl,hi⟩:=ih hrest hw.2 (fun j t v' ht hv'=>hv (j+1) t v' ht hv')
    obtain ⟨y,hy,hg⟩:=h1 X enc W b0 true n _ _ hd hw.1
    refine ⟨(y,i),⟨hg,hG⟩,by simp [hl],fun j g u hj hu=>?_⟩
    cases j with
    | zero =>
      cases hj;cases hu
      exact ⟨_,hy,Ql ha (hv 0 _ _ rfl rfl)⟩
    | succ j=>exact hi j g u (by simpa using hj) (by simpa using hu)
theorem Params.stays {ts:List TypeId} {ι:Type} {A:ι→List aQ} {G:ι→Prop} (hl:laidOutB P=true) (hp:Params P ts ι A G):∀ {X:Type} {enc:TypeId×Value→X} {W W':World} {sp:Nat→Bool} {vs:List Value} {ds:List (DataW X)} {ps:List MemPlace},
    DataW.TrodAll enc P W 0 (fun _=>true) true ts vs ds ps→(∀ p ∈ ps,W.sameAt W' p)→(∀ p ∈ ps,sp p.block=true)→DataW.TrodAll enc P W' 0 sp true ts vs ds ps:=by
  induction hp with
  | nil =>
    intro X enc W W' sp vs ds ps h _ _
    obtain ⟨rfl,rfl,rfl⟩:=ChangeShapes.trodAll_nil h
    exact rfl
  | cons h1 ha hr hT h2 ih =>
    intro X enc W W' sp vs ds ps h hs hsp
    obtain ⟨v,vs',d,ds',p,q,rfl,rfl,rfl,hd,hrest⟩:=ChangeShapes.trodAll_cons h
    exact ⟨p,q,WideElems.Trod_stays hl hr hT hd (fun x hx=>hs x (List.mem_append_left _ hx)) (fun x hx=>hsp x (List.mem_append_left _ hx)),
      ih hrest (fun x hx=>hs x (List.mem_append_right _ hx)) (fun x hx=>hsp x (List.mem_append_right _ hx)),rfl⟩

/- a law that returns true, as its row asks -/
theorem law_post {f:FuncId} {fn:Func} {s:ChangeSpec} {tb:TypeId} {ι:Type} {A:ι→List aQ} {G:ι→Prop} {apart fresh handsOn again:Bool} (hl:laidOutB P=true) (hp:Params P fn.params.toList ι A G) (hok:∀ i,G i→FnOk P f (A i) (fV Rep.bool true))
    (hres:fn.resultTypes = #[tb]) (htb:P.underlying tb=some .bool) (hvars:s.vars=[]) (hs:∀ (X:Type) (ds:List (DataW X)),ds.length=fn.params.size→(s.fn X ds).results=[.lit (.bool true)]∧(s.fn X ds).args=ds∧(s.fn X ds).vars=[])
    {X:Type} {enc:TypeId×Value→X} {W:World} {base:Nat} {args:Array Value} {ds gs:List (DataW X)} {before:List MemPlace}
    (hval:∀ (j:Nat) t v,fn.params[j]? = some t→args[j]? = some v→Value.okWide P W .any base t v) (hW:DataW.Whole enc P fn.params.toList s.vars apart W args.toList ds gs before)
    (hsz:(DataW.weightsEach P (fn.params.toList ++ s.plain.varTypes P) (ds ++ gs)).all (· ≤ reachBytes)=true) (hg:gN≤W.heap.size∧gP fun b=>W.heap[b]?:=by exact gOk _ _) :
    Calls P f args W fun e W'=>∃ v,e = .returned v∧s.post enc P fn apart fresh handsOn again W args v W':=by
  have hW':=hW
  obtain ⟨p,q,hA,hV,rfl,hfz,hnd⟩:=hW
  rw [hvars] at hV
  obtain ⟨rfl,rfl⟩:=ChangeShapes.trodVars_none hV
  have hsz':(DataW.weightsEach P fn.params.toList ds).all (· ≤ reachBytes)=true:=by
    have e:s.plain.varTypes P=[]:=by simp [ChangeSpec.plain,DataSpec.varTypes,hvars]
    rw [e,List.append_nil,List.append_nil] at hsz;exact hsz
  obtain ⟨i,hG,hlen,hi⟩:=hp.open hA hsz' (base:=base) (fun j t v ht hv=>hval j t v (by simpa using ht) (by simpa using hv))
  have hst:St ⟨W.heap.size,W,[],hg⟩ (hW W) (fun (_:Empty)=>none) W:=⟨Nat.le_refl _,DV.refl _ _,fun x=>x,fun {k}=>k.elim,fun {k}=>k.elim,Nat.le_refl _,fun {b o v} x _ y=>absurd (World.block_lt_of_cell? W ⟨b,o,none⟩ y) (Nat.not_lt.2 x)⟩
  have hc:=hok i hG Empty ⟨W.heap.size,W,[],hg⟩ (fun _=>none) (hW W) W args.toList hst hlen hi
  rw [Array.toArray_toList] at hc
  refine hc.mono ?_
  rintro e W' ⟨v,h',rfl,_,hst',hv⟩
  have hv:=qF.1 hv
  subst hv
  have hdl:=(trodAll_length hA).2
  obtain ⟨s1,s2,s3⟩:=hs X ds (by simpa using hdl)
  have hlt:=hW'.lt
  have hold:∀ x ∈ p ++ ([]:List MemPlace),(fun b=>decide (b<W.heap.size)) x.block=true:=fun x hx=>by simpa using hlt x hx
  have hargs:∀ sp:Nat→Bool,(∀ x ∈ p,sp x.block=true)→DataW.TrodAll enc P W' 0 sp true fn.params.toList args.toList (s.fn X (ds ++ [])).args p:=by
    intro sp hsp
    rw [List.append_nil,s2]
    exact hp.stays hl hA (fun x hx=>hst'.base.toB.same (hlt x (by simpa using hx))) hsp
  have hr1:∀ (b:Nat) (sp:Nat→Bool) (hd:Bool),DataW.TrodAll enc P W' b sp hd fn.resultTypes.toList ((Value.bool true).resultList fn.resultTypes.size) (s.fn X (ds ++ [])).results []:=by
    intro b sp hd
    rw [hres,List.append_nil,s1]
    exact ChangeShapes.trodAll_mk1 (shut_bool htb _)
  have hv1:∀ sp:Nat→Bool,DataW.TrodVars enc P W' sp s.vars (s.fn X (ds ++ [])).vars []:=by
    intro sp;rw [hvars,List.append_nil,s3];rfl
  refine ⟨_,rfl,ds,[],_,[],p,[],hW',hr1 _ _ _,hargs _ (fun x hx=>hold x (by simpa using hx)),hv1 _,hst'.base.toB.frame _,fun _=>⟨?_,_,_,([] ++ p) ++ [],⟨[] ++ p,[],ChangeShapes.trodAll_append (hargs _ (fun _ _=>rfl)) (hr1 _ _ _),hv1 _,rfl,?_,?_⟩,?_⟩⟩
  · exact ok_one hres rfl (by unfold Value.okWide;rw [htb];simp [Cell.okWide,Cell.ok,htb])
  · intro b off hb
    have hb':MemPlace.cell b off ∈ p ++ []:=by simpa using hb
    rw [hst'.base.toB.frozen (hlt _ hb')]
    exact hfz b off hb'
  · intro ha
    simpa using hnd ha
  · intro x hx _
    simpa using hx
theorem returnsInHanded_of_sized {X:Type} {enc:TypeId×Value→X} {a:Assume} {C:Checked} {os:Os} {f:FuncId} {fn:Func} {s:ChangeSpec} {conds:List PathCond} {apart fresh handsOn again:Bool}
    (own:ownKnob C.prog.godebug=none) (started:os.Started) (noInit:C.prog.inits.idxOf? f=none) (hfn:C.prog.funcs[f]? = some fn)
    (witness:∃ (w:World) (tape:Tape) (i:Input),w.os=os∧(w.forCall tape i).Shaped C.prog∧i.vars=[]∧Input.okWide C.prog (w.forCall tape i) .any w.heap.size f i ∧
      s.pre6 enc C.prog fn conds apart (w.forCall tape i).memory i.args∧a.holds C.prog (lone (Frame.enter C.prog f i.args .normal) [] (w.forCall tape i)))
    (contract:∀ (W:World) (base:Nat) (args:Array Value) (ds gs:List (DataW X)) (before:List MemPlace),
      (∀ (j:Nat) t v,fn.params[j]? = some t→args[j]? = some v→Value.okWide C.prog W .any base t v) →
      DataW.Whole enc C.prog fn.params.toList s.vars apart W args.toList ds gs before →
      (DataW.weightsEach C.prog (fn.params.toList ++ s.plain.varTypes C.prog) (ds ++ gs)).all (· ≤ reachBytes)=true →
      Calls C.prog f args W fun e W'=>∃ v,e = .returned v∧s.post enc C.prog fn apart fresh handsOn again W args v W') :
    ReturnsInHanded a C os f .any (s.pre6 enc C.prog fn conds apart) (s.post enc C.prog fn apart fresh handsOn again):=by
  have h:=returnsInHanded_of_change_and (a:=a) (X:=fun _ _=>True) (fun _ _ _ _ _=>trivial) own started noInit hfn (by
      obtain ⟨w,t,i,a1,a2,a3,a4,⟨p1,p2⟩,a6⟩:=witness
      exact ⟨w,t,i,a1,a2,a3,a4,⟨⟨p1,trivial⟩,p2⟩,a6⟩) (fun W base args ds gs before h1 h2 _ h4 _ _=>contract W base args ds gs before h1 h2 h4)
  simp only [and_true] at h
  exact h
theorem reach_bytes {E:TypeId} {n b:Nat} (hb:P.bytesOf E=b) (h:n * P.bytesOf E≤reachBytes):n * b≤140737488351232:=by rw [hb] at h;exact h
end Go.KB
