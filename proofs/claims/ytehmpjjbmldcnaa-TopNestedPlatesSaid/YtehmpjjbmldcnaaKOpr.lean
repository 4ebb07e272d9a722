/- Reading of arguments of a struct type that holds slices of itself. No condition. -/
import Derived.Test.YtehmpjjbmldcnaaKJoin
import Derived.Test.YtehmpjjbmldcnaaKRec
namespace Go.KB
open RowKit DataW
variable {P:Program} {α β:Type}
/- as Opens, for data of a bounded size -/
def vg (b:Nat) (P:Program) (T:TypeId) (r:Rep α) (G:α→Prop):Prop :=
  ∀ (X:Type) (enc:TypeId×Value→X) (W:World) (base:Nat) (held:Bool) (fuel:Nat) (cs:List Value) (x:DataW X×List MemPlace),SizeOf.sizeOf x.1<b→DataW.trod enc P W base (fun _=>true) held fuel T cs=some x→∃ y,r.rel (hW W) cs y∧G y
theorem Opens.b {b:Nat} {T:TypeId} {r:Rep α} {G:α→Prop} (h:Opens P T r G):vg b P T r G:=fun X enc W base held fuel cs x _ hx=>h X enc W base held fuel cs x hx
theorem vg.slice {b:Nat} {T E:TypeId} {r:Rep α} {G:α→Prop} (ht:P.underlying T=some (.slice E)) (hc:P.cellsOf E=r.sz) (hpos:0<r.sz) (el:vg b P E r G) (hfr:r.fr=false:=by rfl):vg (b+1) P T (Rep.slice r) (gL G):=by
  intro X enc W base held fuel cs x hb h
  rcases Go.Deep.open_slice ht h with ⟨rfl,_⟩ | ⟨a,len,cap,m,n,D,Pl,rfl,hbb,hl,hm,hmm,rfl,hx⟩
  · exact ⟨[],⟨_,rfl,.inl ⟨⟨none,rfl⟩,rfl⟩⟩,by simp [gL]⟩
  · have hsize:∀ i,i<m→SizeOf.sizeOf (D i)<b:=by
      intro i hi
      have h1:SizeOf.sizeOf (DataW.slice ((List.range len).map D) ((List.range (m - len)).map fun j=>D (len+j)))<b+1:=hb
      simp only [DataW.slice.sizeOf_spec] at h1
      by_cases hlt:i<len
      · have:=List.sizeOf_lt_of_mem (List.mem_map.2 ⟨i,List.mem_range.2 hlt,rfl⟩:D i ∈ (List.range len).map D)
        omega
      · have hm2 : D i ∈ (List.range (m - len)).map fun j => D (len + j) := List.mem_map.2 ⟨i - len, List.mem_range.2 (by omega), by rw [show len + (i - len) = i by omega]⟩
        have:=List.sizeOf_lt_of_mem hm2
        omega
    simp at hmm
    subst hmm
    by_cases hcap:m=0
    · subst hcap
      have:len=0:=by omega
      subst this
      exact ⟨[],⟨_,rfl,.inl ⟨⟨_,rfl⟩,rfl⟩⟩,by simp [gL]⟩
    · have key:∀ i,i<m→∃ y,G y∧sV r (hW W) a.block (a.off+i * r.sz) y:=by
        intro i hi
        obtain ⟨cs',h1,h2⟩:=hx i hi
        obtain ⟨y,hy,hg⟩:=el X enc W base held n cs' _ (hsize i hi) h2
        rw [hc] at h1
        obtain ⟨hlen,hget⟩:=CO h1
        refine ⟨y,hg,cs',hy,fun j v hj=>?_⟩
        have:=hget j v hj
        unfold hW
        unfold Addr.add at this
        split at this
        · rename_i hj0
          subst hj0
          split at this
          · rename_i hi0
            have hi1:i * r.sz=0:=hi0
            rw [hi1]
            have hsp:a.spot=none:=by
              cases hs:a.spot with
              | none=>rfl
              | some q =>
                exfalso
                unfold World.cell? at this
                rw [hs] at this
                split at this <;> simp at this
            cases a;simp only at hsp;subst hsp;simpa using this
          · simpa using this
        · split at this
          · rename_i hi0
            rw [show i * r.sz=0 from hi0];simpa using this
          · simpa [Nat.add_assoc] using this
      have hspot:a.spot=none:=by
        obtain ⟨cs',h1,_⟩:=hx 0 (by omega)
        rw [hc] at h1
        obtain ⟨hlen,hget⟩:=CO h1
        cases cs' with
        | nil=>simp at hlen;omega
        | cons c cs' =>
          have:=hget 0 c rfl
          cases hs:a.spot with
          | none=>rfl
          | some q =>
            exfalso
            simp only [Addr.add,Nat.zero_mul,if_true] at this
            unfold World.cell? at this
            rw [hs] at this
            split at this <;> simp at this
      obtain ⟨b',off,sp⟩:=a
      simp only at hspot;subst hspot
      obtain ⟨f,hf⟩:∃ f:Fin m→α,∀ i:Fin m,G (f i)∧sV r (hW W) b' (off+i.1 * r.sz) (f i):=⟨fun i=>Classical.choose (key i.1 i.2),fun i=>Classical.choose_spec (key i.1 i.2)⟩
      refine ⟨(List.ofFn f).take len,⟨_,rfl,.inr ⟨b',off,m,?_,?_,?_,fun e=>by rw [hfr] at e;cases e⟩⟩,?_,?_⟩
      · simp;omega
      · simp;omega
      · intro i y hy
        rw [List.getElem?_take] at hy
        split at hy
        · rw [List.getElem?_ofFn] at hy
          split at hy
          · rename_i hi;cases hy;exact (hf ⟨i,hi⟩).2
          · cases hy
        · cases hy
      · simp;omega
      · intro y hy
        have:=List.mem_of_mem_take hy
        rw [List.mem_ofFn] at this
        obtain ⟨i,rfl⟩:=this
        exact (hf i).1
def Ee (b:Nat) (P:Program):List (TypeId×Nat)→Nat→(r:Rep α)→(α→Prop)→Prop:=fun fs off r G =>
  ∀ (X:Type) (enc:TypeId×Value→X) (W:World) (base:Nat) (held:Bool) (fuel:Nat) (cs:List Value),off+r.sz≤cs.length →
    (∀ f ∈ fs,∃ x,SizeOf.sizeOf x.1<b∧DataW.trod enc P W base (fun _=>true) held fuel f.1 ((cs.drop f.2).take (P.cellsOf f.1))=some x)→∃ y,r.rel (hW W) ((cs.drop off).take r.sz) y∧G y
theorem Ee.nil {b off:Nat}:Ee b P [] off Rep.unit (fun _=>True):=fun X enc W base held fuel cs _ _=>⟨(),by simp [Rep.unit],trivial⟩
theorem Ee.cons {b:Nat} {t:TypeId} {fs:List (TypeId×Nat)} {off:Nat} {r:Rep α} {s:Rep β} {G:α→Prop} {G':β→Prop} (hc:P.cellsOf t=r.sz) (h1:vg b P t r G) (h2:Ee b P fs (off+r.sz) s G') :
    Ee b P ((t,off) :: fs) off (r.prod s) (fun x=>G x.1∧G' x.2):=by
  intro X enc W base held fuel cs hl hall
  have hl:off+(r.sz+s.sz)≤cs.length:=hl
  obtain ⟨x,hsz,hx⟩:=hall (t,off) List.mem_cons_self
  obtain ⟨y,hy,hg⟩:=h1 X enc W base held fuel _ x hsz hx
  obtain ⟨z,hz,hg'⟩:=h2 X enc W base held fuel cs (by omega) (fun g hg=>hall g (List.mem_cons_of_mem _ hg))
  refine ⟨(y,z),⟨_,_,?_,hy,hz⟩,hg,hg'⟩
  simp only []
  rw [hc,← List.drop_drop]
  show List.take (r.sz+s.sz) _=_
  rw [List.take_add]
theorem vg.struct {b:Nat} {T:TypeId} {l:List (TypeId×Nat)} {r:Rep α} {G:α→Prop} {f:β→α} {g:α→β} {fg:∀ x,f (g x)=x} (ht:fieldsB P T l=true) (hc:P.cellsOf T=r.sz) (h:Ee b P l 0 r G):vg (b+1) P T (r.vC f g fg) (fun y=>G (f y)):=by
  unfold fieldsB at ht
  cases hu:P.underlying T with
  | none=>rw [hu] at ht;cases ht
  | some d =>
    rw [hu] at ht
    cases d <;> first | (cases ht;done) | skip
    rename_i fs
    simp only [beq_iff_eq] at ht
    intro X enc W base held fuel cs x hb hx
    obtain ⟨xs,n,_,hxe,hl,hlen,hf⟩:=DataW.trod_struct hu hx
    rw [hxe] at hb
    have hb:SizeOf.sizeOf (DataW.agg (xs.map (·.1)))<b+1:=hb
    simp only [DataW.agg.sizeOf_spec] at hb
    obtain ⟨y,hy,hg⟩:=h X enc W base held n cs (by omega) (fun q hq=>by
      rw [← ht,List.mem_map] at hq
      obtain ⟨q,hq,rfl⟩:=hq
      obtain ⟨i,hi,rfl⟩:=List.getElem_of_mem hq
      have hi':fs[i]? = some fs.toList[i]:=by simp at hi;simp [hi]
      have:=hf i _ hi'
      cases hxi:xs[i]? with
      | none =>
        rw [List.getElem?_eq_none_iff] at hxi
        simp at hi;omega
      | some y =>
        have hmem:y.1 ∈ xs.map (·.1):=List.mem_map.2 ⟨y,List.mem_of_getElem? hxi,rfl⟩
        have:=List.sizeOf_lt_of_mem hmem
        exact ⟨y,by omega,by rw [hf i _ hi',hxi]⟩)
    refine ⟨g y,?_,show G (f (g y)) by rw [fg];exact hg⟩
    show r.rel (hW W) cs (f (g y))
    rw [fg]
    rwa [List.drop_zero,List.take_of_length_le (by omega)] at hy
theorem vg.imp {b:Nat} {T:TypeId} {r:Rep α} {G G':α→Prop} (h:vg b P T r G) (hg:∀ x,G x→G' x):vg b P T r G':=fun X enc W base held fuel cs x hb hx=>by
  obtain ⟨y,hy,k⟩:=h X enc W base held fuel cs x hb hx
  exact ⟨y,hy,hg y k⟩
/- the whole: by the size of the data -/
theorem Opens.fix {T S:TypeId} {F:Rep (List α)→Rep α} (ok:LY F) {G:α→Prop} (hS:P.underlying S=some (.slice T)) (hc:P.cellsOf T=(F (Rep.vF α)).sz) (hpos:0<(F (Rep.vF α)).sz)
    (step:∀ b,vg b P S (Rep.slice (Rep.fix F ok)) (gL G)→vg (b+1) P T (F (Rep.slice (Rep.fix F ok))) G):Opens P T (Rep.fix F ok) G:=by
  have key:∀ b,vg b P T (Rep.fix F ok) G:=by
    intro b
    induction b with
    | zero=>intro X enc W base held fuel cs x hb;exact absurd hb (Nat.not_lt_zero _)
    | succ b ih =>
      intro X enc W base held fuel cs x hb hx
      have hs:vg b P S (Rep.slice (Rep.fix F ok)) (gL G):=by
        intro X enc W base held fuel cs x hb hx
        exact vg.slice (b:=b) (r:=Rep.fix F ok) hS hc hpos ih rfl X enc W base held fuel cs x (by omega) hx
      obtain ⟨y,hy,hg⟩:=step b hs X enc W base held fuel cs x hb hx
      exact ⟨y,(ND ok).2 hy,hg⟩
  intro X enc W base held fuel cs x hx
  exact key (SizeOf.sizeOf x.1+1) X enc W base held fuel cs x (by omega) hx
end Go.KB
