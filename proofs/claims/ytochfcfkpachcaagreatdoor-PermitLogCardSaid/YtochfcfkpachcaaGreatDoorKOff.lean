/- Pointers into an object: nil, or a place in it; keys that are structs. No condition. -/
import Derived.Test.YtochfcfkpachcaaGreatDoorKZf
namespace Go.KB
variable {P:Program} {o:Oper} {N:List (Nat×bD)} {α β:Type}

def YJ (sv v:Value):Option Nat→Prop
  | none=>v = .pointer none
  | some n=>∃ b,sv = .pointer (some ⟨b,0,none⟩)∧v = .pointer (some ⟨b,n,none⟩)
def Rep.BN (sv:Value):Rep (Option Nat) where
  sz:=1
  agg:=false
  rel:=fun _ cs x=>∃ v,cs=[v]∧YJ sv v x
  zero:=none
  zc:=[.pointer none]
  one:=fun _=>rfl
  len:=fun ⟨v,e,_⟩=>by rw [e];rfl
  flat:=fun {h cs x} ⟨v,e,k⟩ c hc=>by
    rw [e] at hc;simp at hc;rw [hc]
    cases x with
    | none=>rw [show v=_ from k];rfl
    | some x=>obtain ⟨b,_,rfl⟩:=k;rfl
  mono:=fun _ e=>e
  xq:=fun _=>⟨_,rfl,rfl⟩
theorem Ht {sv:Value} {h:H} {v:Value} {x:Option Nat}:(Rep.BN sv).val h v x↔YJ sv v x :=
  ⟨fun ⟨_,⟨v',e,k⟩,e'⟩=>by rw [e',e];exact k,fun k=>⟨[v],⟨v,rfl,k⟩,rfl⟩⟩
theorem kH.BN {T:TypeId} {r:Rep α} (t:kH P T (Rep.ptr r)) (sv:Value):kH P T (Rep.BN sv):=⟨t.size,t.agg,t.zero⟩
theorem U2 {sv:Value}:dD N (.const (.pointer none)) (fV (Rep.BN sv) none):=fun _ _ _=>Ht.2 rfl
theorem Qp {sv:Value} {n:Nat} {x:Operand} (hx:dD N x (qF sv n)):dD N x (fV (Rep.BN sv) (some n)):=fun h a n=>Ht.2 (hx h a n)
theorem Af {sv:Value} {x:Operand} {q:Option Nat} {n:Nat} (hq:q=some n) (ho:o.op = .nilCheck x) (hx:dD N x (fV (Rep.BN sv) q)):fC P o N [] (qF sv n) [] :=
  fC.rM fun h a w _ k=>by
    have hv:=Ht.1 (hx h a k)
    rw [hq] at hv
    obtain ⟨b,hs,hv⟩:=hv
    exact ⟨.pointer (some ⟨b,n,none⟩),by simp [execOp,ho,hv],b,hs,rfl⟩
theorem VY {T T':TypeId} {sv:Value} {x:Operand} {q:Option Nat} (hT:P.underlying T=some (.pointer (P.pointee T))) (ho:o.op = .binOp .neq T x (.const (.pointer none)) T') (hx:dD N x (fV (Rep.BN sv) q)):fC P o N [] (fV Rep.bool q.isSome) [] :=
  fC.rM fun h a w _ n=>by
    have hg:∀ p,(eqGuard .neq T x (.const (.pointer none)) (.pointer p) (.pointer none)).run P w = .ok () w:=by
      intro p;unfold eqGuard;rfl
    have hv:=Ht.1 (hx h a n)
    cases q with
    | none =>
      have hv:a.eval x = .pointer none:=hv
      exact ⟨.bool false,by simp only [execOp,ho,hv,show a.eval (.const (.pointer none)) = .pointer none from rfl,hg,Sem.run_bind,Result.andThen_ok,Sem.run_pure,run_neq_pointer_nil w T none hT];rfl,kW.2 rfl⟩
    | some y =>
      obtain ⟨b,_,hv⟩:=hv
      exact ⟨.bool true,by simp only [execOp,ho,hv,show a.eval (.const (.pointer none)) = .pointer none from rfl,hg,Sem.run_bind,Result.andThen_ok,Sem.run_pure,run_neq_pointer_nil w T (some ⟨b,y,none⟩) hT];rfl,kW.2 rfl⟩
theorem ok_eqPf {T T':TypeId} {sv:Value} {x:Operand} {q:Option Nat} (hT:P.underlying T=some (.pointer (P.pointee T))) (ho:o.op = .binOp .eql T x (.const (.pointer none)) T') (hx:dD N x (fV (Rep.BN sv) q)):fC P o N [] (fV Rep.bool q.isNone) [] :=
  fC.rM fun h a w _ n=>by
    have hg:∀ p,(eqGuard .eql T x (.const (.pointer none)) (.pointer p) (.pointer none)).run P w = .ok () w:=by
      intro p;unfold eqGuard;rfl
    have hv:=Ht.1 (hx h a n)
    cases q with
    | none =>
      have hv:a.eval x = .pointer none:=hv
      exact ⟨.bool true,by simp only [execOp,ho,hv,show a.eval (.const (.pointer none)) = .pointer none from rfl,hg,Sem.run_bind,Result.andThen_ok,Sem.run_pure,run_eql_pointer_nil w T none hT];rfl,kW.2 rfl⟩
    | some y =>
      obtain ⟨b,_,hv⟩:=hv
      exact ⟨.bool false,by simp only [execOp,ho,hv,show a.eval (.const (.pointer none)) = .pointer none from rfl,hg,Sem.run_bind,Result.andThen_ok,Sem.run_pure,run_eql_pointer_nil w T (some ⟨b,y,none⟩) hT];rfl,kW.2 rfl⟩
/- what lies at a place that is computed -/
structure Oi (r:Rep α) (q:Rep β) (get:α→Nat→Option β) (set:α→Nat→β→Option α):Prop where
  get:∀ n y z,get y n=some z→∃ g st,Lens r q n g st∧g y=z
  set:∀ n y z y',set y n z=some y'→∃ g st,Lens r q n g st∧st y z=y'
theorem Oi.nil {r:Rep α} {q:Rep β}:Oi r q (fun _ _=>none) (fun _ _ _=>none):=⟨(fun _ _ _ h=>nomatch h),(fun _ _ _ _ h=>nomatch h)⟩
theorem Oi.cons {r:Rep α} {q:Rep β} {off:Nat} {g:α→β} {st:α→β→α} {get:α→Nat→Option β} {set:α→Nat→β→Option α} (l:Lens r q off g st) (d:Oi r q get set) :
    Oi r q (fun y n=>bif Nat.beq n off then some (g y) else get y n) (fun y n z=>bif Nat.beq n off then some (st y z) else set y n z) where
  get:=fun n y z h=>by
    cases hb:Nat.beq n off with
    | true=>rw [jg] at hb;subst hb;rw [show Nat.beq n n=true from jg.2 rfl] at h;cases h;exact ⟨g,st,l,rfl⟩
    | false=>rw [hb] at h;exact d.get n y z h
  set:=fun n y z y' h=>by
    cases hb:Nat.beq n off with
    | true=>rw [jg] at hb;subst hb;rw [show Nat.beq n n=true from jg.2 rfl] at h;cases h;exact ⟨g,st,l,rfl⟩
    | false=>rw [hb] at h;exact d.set n y z y' h
theorem Jr {sv:Value} {T T':TypeId} {r:Rep α} {q:Rep β} {ts:List dM} {s n:Nat} {x:Operand} {y:α} {z:β} {get:α→Nat→Option β} {set:α→Nat→β→Option α} (l:Oi r q get set) (hy:get y n=some z) (t:kH P T q) (ho:o.op = .load T x) (hx:dD N x (qF sv n)) :
    fC P o N [(s,dm (dS T' r y ts) sv)] (fV q z) []:=by
  obtain ⟨g,st,l,e⟩:=l.get n y z hy
  subst e
  exact dI l t ho hx
theorem L9 {sv:Value} {T T':TypeId} {r:Rep α} {q:Rep β} {s n:Nat} {x v:Operand} {y y':α} {z:β} {get:α→Nat→Option β} {set:α→Nat→β→Option α} (l:Oi r q get set) (hy:set y n z=some y') (t:kH P T q) (hd:o.dst=none)
    (ho:o.op = .store T x v) (hx:dD N x (qF sv n)) (hv:dD N v (fV q z)):fC P o N [(s,dm (dS T' r y []) sv)] bD.qy [(s,some (dm (dS T' r y' []) sv))]:=by
  obtain ⟨g,st,l,e⟩:=l.set n y z y' hy
  exact Jo l t rfl hd ho hx hv e.symm

/- keys that are structs -/
theorem zh.struct [DecidableEq α] {K:TypeId} {r:Rep α} {f:α→Value} {g:α→α→Bool} {fs:Array Field} (e:P6 P 9999 K r g) (hK:P.underlying K=some (.struct fs)) (hg:∀ x y,g x y=decide (x=y))
    (his:∀ {h u x},r.val h u x→u=f x) (hval:∀ h x,r.val h (f x) x) (uH:∀ (e:Bool) (w:World) (x:α),(Instr.checkKey e 10000 K (f x)).run P w = .ok () w) (hbits:∀ x,Instr.sameBits 10000 (f x) (f x)=true):zh P K r f where
  is:=his
  chk:=uH
  find:=Xj hK (fun _ _=>rfl) fun x y w=>by
    have:=e ⟨fun _ _=>none,0⟩ (f x) (f y) x y w (hval _ x) (hval _ y)
    rw [hg] at this
    exact this
  bits:=hbits
  val:=hval
theorem bytes_self (s:Str):((⟨s.toArray⟩:ByteArray) == ⟨s.toArray⟩)=true:=(MapKept.bytes_beq _ _).2 rfl
end Go.KB
