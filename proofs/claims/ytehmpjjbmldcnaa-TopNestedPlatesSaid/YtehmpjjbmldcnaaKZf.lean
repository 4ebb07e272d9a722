/- Raw cells, variables that hold maps, variables that are captured or that go to keys that are no slots. Functions as numbers, slices of which nil is known, regions in parts, objects that are handed back. Variables of which several fields are rows or maps that are owned. clear of the end of a row that is owned. Struct values of which several fields are rows that are owned: variables, arguments, results. maps.Clone: a copy of a map that is owned. No condition. -/
import Derived.Test.YtehmpjjbmldcnaaKZe
import Derived.Lib.LazyBuf
namespace Go.KB
variable {P:Program} {o:Oper} {N:List (Nat×aO)} {α β:Type}
section
variable {κ:Type} {B:Base} {h0:H} {Γ:Ctx} {Λ:Own} {F:κ→Option gQ} {n:Nat} {a:Act} {w:World}
theorem St.H9 {h:H} {L:Nat→Option gQ} (hst:St B h (Sum.elim L F) w) (s:Nat) {b:Nat} {T:TypeId} {r:Rep α} {x:α} (hL:L s=some (rU b T r x)) :
  ∃ h',lD h h'∧St B h' (Sum.elim (fun k=>if k=s then none else L k) F) w∧sV r h' b 0 x:=by
 obtain ⟨cs,hb,hr⟩:=Fa hst hL
 obtain ⟨hl2,hst2⟩:=hst.freeze (Sum.inl s) (e:=rU b T r x) hL (b:=b) (lo:=0) (by simp [rU]) hb cs.length (by simp) (L':=Sum.elim (fun k=>if k=s then none else L k) F) (by
  intro k' e' hne he
  cases k' with
  | inr k=>exact he
  | inl k =>
   have:k≠s:=fun x=>hne (by rw [x])
   simpa [this] using he) (fun e' he=>by simp at he)
 have htk:cs.toArray.toList.take cs.length=cs:=by simp
 rw [htk] at hl2 hst2
 refine ⟨_,hl2,hst2,cs,r.mono hl2 hr,fun j v hj=>?_⟩
 have hjl:=(List.getElem?_eq_some_iff.1 hj).1
 rw [Nat.zero_add,yH hjl,← hj,List.getElem?_eq_getElem hjl]
theorem At.H9 {T:TypeId} {r:Rep α} {x:α} (s:Nat) (hAt:At B h0 Γ Λ F n a w) (hs:Λ s=some (dM T r x)) :
  At B h0 (fun k=>bif Nat.beq s k then bT r x else Γ k) (fun k=>bif Nat.beq s k then none else Λ k) F n a w:=by
 obtain ⟨h,L,hle,hst,yQ,qY,hsz,hdf⟩:=hAt
 obtain ⟨e,hL,b,hv,rfl⟩:=yQ s _ hs
 obtain ⟨h',hl,hst',hr⟩:=hst.H9 s hL
 refine ⟨h',_,hle.trans hl,hst',?_,?_,hsz,hdf⟩
 ·intro k q hq
  cases hk:Nat.beq s k with
  | true=>simp only [hk,cond_true] at hq;cases hq
  | false =>
   simp only [hk,cond_false] at hq
   have:k≠s:=fun x=>by rw [kL.2 x.symm] at hk;cases hk
   simpa [this] using yQ k q hq
 ·intro k
  cases hk:Nat.beq s k with
  | true =>
   simp only [hk,cond_true]
   rw [kL] at hk;subst hk
   exact ⟨b,0,hv,hr⟩
  | false=>simp only [hk,cond_false];exact (Γ k).mono hl (qY k)
end
end Go.KB
namespace Go.KB
variable {P:Program} {o:Oper} {N:List (Nat×aO)} {α β:Type}
def Rj:List (Nat×gK)→List Po→List Po→Prop
 | (_,q0) :: r,p :: ps,p' :: ps'=>(p'=p∨(p = .keep∧p' = .to q0))∧Rj r ps ps'
 | [],[],[]=>True
 | _,_,_=>False
theorem Rj.ok {E:Nat→Option gQ} {g:Nat→Value}:∀ {pre:List (Nat×gK)} {ps ps':List Po},Rj pre ps ps'→Fb pre ps E g→Fb pre ps' E g:=by
 intro pre
 induction pre with
 | nil=>intro ps ps' h _;cases ps <;> cases ps' <;> first | trivial | exact h.elim
 | cons x r ih =>
  obtain ⟨k,q0⟩:=x
  intro ps ps' h hp
  cases ps with
  | nil=>exact h.elim
  | cons p ps=>cases ps' with
   | nil=>exact h.elim
   | cons p' ps' =>
    obtain ⟨h1,h2⟩:=h
    refine ⟨?_,ih h2 hp.2⟩
    rcases h1 with rfl | ⟨rfl,rfl⟩
    ·exact hp.1
    ·exact hp.1
theorem Gm.post {f:FuncId} {args:List aO} {pre:List (Nat×gK)} {ps ps':List Po} {own:Option gK} {res:aO} (h:Gm P f args pre ps own res) (hw:Rj pre ps ps'):Gm P f args pre ps' own res:=by
 intro κ B L h0 w vs E hst hl hpre hargs
 exact (h κ B L h0 w vs E hst hl hpre hargs).mono fun e w' ⟨u,h',E',a,b,c,d,x,y⟩=>⟨u,h',E',a,b,c,hw.ok d,x,y⟩
section
variable {ρ:Option Nat} {κ:Type} {B:Base} {h0:H} {Γ:Ctx} {Λ:Own} {F:κ→Option gQ} {n:Nat} {ops:Array Oper} {a:Act} {w:World} {Q:Exit→Act→World→Prop}
end
section
variable {κ:Type} {B:Base} {h0:H} {Γ:Ctx} {Λ:Own} {F:κ→Option gQ} {n:Nat} {a:Act} {w:World} {vM:Nat→Value} {pre:List (Nat×gK)} {post:List Po}
end
theorem D8 {f:FuncId} {args C:List aO} {pre:List (Nat×gK)} {post:List Po} {res:aO} {xs:List Operand} {gs:List Nat} {K:List (Nat×gK)} {U:Gs}
  (hc:Gm P f (args ++ C) pre post none res) (hE:Gt P N o xs f C) (hd:mM (res :: args)=true) (rV:(Fe pre gs && !(match o.dst with | some d=>has gs d | none=>false))=true)
  (hargs:qA N args xs) (hkey:xh N xs pre post gs) (hK:UB pre gs=K) (hU:Ey gs post ++ NE none o.dst=U):dw P o N K aO.pX U :=
 dw.out (f:=res) (by
  have:=jI hd res List.mem_cons_self
  rw [this];rfl) (fun _ _ _ _=>trivial) (Gn hc hE hd rV hargs hkey hK hU)
end Go.KB
namespace Go.KB
variable {P:Program} {o:Oper} {N:List (Nat×aO)} {α β ρ:Type}
section
variable {κ:Type} {B:Base} {h:H} {L:Nat→Option gQ} {F:κ→Option gQ} {w:World}
end
section
variable {κ:Type} {B:Base} {h0:H} {Γ:Ctx} {Λ:Own} {F:κ→Option gQ} {n:Nat} {a:Act} {w:World}
end
end Go.KB
namespace Go.KB
variable {P:Program} {o:Oper} {N:List (Nat×aO)} {α β:Type}
theorem OG {T E:TypeId} {r:Rep α} {s lo n:Nat} {x:Operand} {xs ys:List α} (hlo:(Nat.beq (lo+n) xs.length)=true) (hys:ys=xs.take lo ++ List.replicate n r.zero) (t:iV P E r) (hT:P.underlying T=some (.slice E)) (hd:o.dst=none) (ho:o.op = .call { callee:=.builtin .clear,args:=#[x],argTypes:=#[T] })
    (hx:bJ N x (fSub s r.sz lo n)):dw P o N [(s,bU E r xs)] aO.pX [(s,some (bU E r ys))]:=by
  have hlo:lo+n=xs.length:=by simpa using hlo
  intro κ B F L h a w hst hn hk _ next Q hnext _
  obtain ⟨e,hL,hq⟩:=hk.1
  have hL:L s=some e:=hL
  have hq:bU E r xs (a.gt s) e:=hq
  have hxv:(∃ base,a.gt s = .slice base 0 0∧a.eval x = .slice base 0 0∧lo=0∧n=0)∨∃ b p L cap,a.gt s = .slice (some ⟨b,p,none⟩) L cap∧lo+n≤L∧a.eval x = .slice (some ⟨b,if cap=lo then p else p+lo * r.sz,none⟩) n (cap - lo):=hx h a hn
  unfold Oper.oK
  have hrun:∀ w',(Builtin.clear_ #[T] o.type #[a.eval x]).run P w = .ok (.tuple #[]) w'→(execOp a.eval o).run P w = .ok (.value (.tuple #[])) w':=by
    intro w' hr
    simp only [execOp,ho,resolve,invoke,builtin,Sem.run_bind,Sem.run_pure,Result.andThen_ok,List.map_toArray,List.map_cons,List.map_nil,hr]
  by_cases hn0:n=0
  · subst hn0
    have hyx:ys=xs:=by rw [hys,List.take_of_length_le (by omega)];simp
    subst hyx
    have hev:∃ base cap,a.eval x = .slice base 0 cap:=by
      rcases hxv with ⟨base,_,h2,_⟩ | ⟨b,p,L,cap,_,_,h3⟩
      · exact ⟨_,_,h2⟩
      · exact ⟨_,_,h3⟩
    obtain ⟨base,cap,hev⟩:=hev
    rw [hrun w (by rw [hev];cases base <;> simp [Builtin.clear_,run_underlying hT])]
    refine hnext _ h w L (lD.refl h) trivial hst ?_
    rw [hd]
    have:=lH (L:=L) (s:=s) (e:=e) (d:=none) (a:=a.put none (.tuple #[])) (q:=bU E r ys) hq
    rwa [zq hL] at this
  · rcases hq with ⟨⟨base',hv'⟩,rfl,rfl⟩ | ⟨b,cap,hv',hc,rfl⟩
    · simp at hlo;omega
    · rcases hxv with ⟨_,_,_,_,h4⟩ | ⟨b',p,L',cap',h1,h2,h3⟩
      · exact absurd h4 hn0
      · rw [hv'] at h1;cases h1
        obtain ⟨cs,rest,hb,hr,hlen⟩:=Ia hst hL
        rw [if_neg (by omega),Nat.zero_add] at h3
        have hzc:(pack r.agg r.zc).cells=r.zc.toArray:=ql (r.uy h)
        have hzl:(Builtin.zeroCells (pack r.agg r.zc).cells n).toList=(List.replicate n r.zc).flatten:=by rw [hzc];exact DI r.zc n
        obtain ⟨c1,c2,rfl,hr1⟩:=hr.take lo (by omega)
        have hl1:c1.length=lo * r.sz:=by rw [hr1.len,List.length_take,Nat.min_eq_left (by omega)]
        have hlc:=hr.len
        rw [List.length_append,hl1,← hlo,Nat.add_mul] at hlc
        have hl2:c2.length=n * r.sz:=by omega
        have hZl:=Rk r n
        generalize hZ:(List.replicate n r.zc).flatten=Z at hzl hZl
        have hone:=Qx (r:=r) n
        have YE:=run_storeCells_at P b (lo * r.sz) E (Builtin.zeroCells (pack r.agg r.zc).cells n).toList 0 ((c1 ++ c2) ++ rest).toArray w hb (by rw [hzl,hZl];simp;omega) hone
        simp only [Nat.add_zero] at YE
        have hnew:((c1 ++ c2) ++ rest).toArray.toList.take (lo * r.sz) ++ (Builtin.zeroCells (pack r.agg r.zc).cells n).toList ++ ((c1 ++ c2) ++ rest).toArray.toList.drop (lo * r.sz+(Builtin.zeroCells (pack r.agg r.zc).cells n).toList.length)=(c1 ++ Z) ++ rest:=by
          rw [hzl,hZl,← hl1,← hl2]
          simp [List.drop_append]
        rw [hnew] at YE
        obtain ⟨n',rfl⟩:∃ n',n=n'+1:=⟨n - 1,by omega⟩
        rw [hrun (w.setRow b ((c1 ++ Z) ++ rest).toArray) (by rw [h3];simp [Builtin.clear_,run_underlying hT,t.zero,YE])]
        obtain ⟨hcl,_⟩:=hst.own (k:=Sum.inl s) hL
        have hno:=(hcl (b,0) (by simp [jJ])).2.2
        have hmem:=sW w b ((c1 ++ c2) ++ rest).toArray ((c1 ++ Z) ++ rest).toArray E hb
        have hyl:ys.length=xs.length:=by rw [hys];simp;omega
        refine hnext _ h _ (set1 L s (jJ b E r ys cap)) (lD.refl h) trivial ?_ ?_
        · refine hst.write (Sum.inl s) (e := jJ b E r xs cap) hL (b := b) (lo := 0) (by simp [jJ]) hmem (fun i hi => setRow_other w b i _ hi) (by simp [World.setRow]) rfl rfl rfl ?_ qw ?_
          · intro o' u hh;rw [hno o' (Nat.zero_le _)] at hh;cases hh
          · intro e' he
            rw [qx he]
            refine ⟨fun c hc=>hc,c1 ++ Z,rest,hmem,?_,?_⟩
            · rw [hys,← hZ];exact hr1.append (oC.zeros r h _)
            · rw [← hlen];simp [hZl];omega
        · rw [hd]
          exact lH (.inr ⟨b,cap,by rw [hyl];exact hv',by rw [hyl];exact hc,rfl⟩)
theorem clr_b {b:Bool} {l r:List α} (h:(bif b then some l else none)=some r):b=true:=by cases b with
 | true=>rfl
 | false=>cases h
theorem clr_e {b:Bool} {l r:List α} (h:(bif b then some l else none)=some r):r=l:=by cases b with
 | true=>cases h;rfl
 | false=>cases h
theorem opdF {P:Program} {N:List (Nat×aO)} {ι:Type} {A:ι→List aO} {R:ι→aO} {f:FuncId} {fn:Func} (hc:∀ i,FnOk P f (A i) (R i)) (hf:P.funcs[f]? = some fn) (hb:qm fn=true):bJ N (.func f) (fF P A R) :=
 fun h a _=>⟨f,fn,#[],rfl,hf,hb,fun i κ B L h' w' vs hl hst hvl hvs=>by simpa using hc i κ B L h' w' vs hst hvl hvs⟩
theorem opdF1 {P:Program} {N:List (Nat×aO)} {α β:Type} {r:Rep α} {q:Rep β} {φ:α→Option β} {f:FuncId} {fn:Func} (hc:∀ x y,φ x=some y→FnOk P f [fV r x] (fV q y)) (hf:P.funcs[f]? = some fn) (hb:qm fn=true):bJ N (.func f) (Rf P r q φ):=opdF (fun i=>hc _ _ i.2) hf hb
theorem opdF2 {P:Program} {N:List (Nat×aO)} {α β γ:Type} {r:Rep α} {s:Rep γ} {q:Rep β} {φ:α→γ→Option β} {f:FuncId} {fn:Func} (hc:∀ x y z,φ x y=some z→FnOk P f [fV r x,fV s y] (fV q z)) (hf:P.funcs[f]? = some fn) (hb:qm fn=true):bJ N (.func f) (G7 P r s q φ):=opdF (fun i=>hc _ _ _ i.2) hf hb
end Go.KB
namespace Go.KB
variable {P:Program} {o:Oper} {N:List (Nat×aO)} {α β ρ:Type}
section
variable {κ:Type} {B:Base} {h0:H} {Γ:Ctx} {Λ:Own} {F:κ→Option gQ} {n:Nat} {a:Act} {w:World}
end
theorem LV:bJ N (.const (.slice none 0 0)) (fV Rep.raw zL):=fun _ _ _=>⟨[zL],⟨rfl,rfl⟩,rfl⟩
theorem OE {T E:TypeId} {r:Rep β} {n d:Nat} {parts:Array (Nat×Operand)} {ys:List β} (t:iV P E r) (hT:P.underlying T=some (.slice E)) (hsz:Nat.ble (n * r.sz) (2 ^ 24)=true) (hd:o.dst=some d) (ho:o.op = .buildSlice T n parts)
  (k:zM P N (fun i=>some (i * r.sz,r.sz)) (r.arr n) parts.toList (List.replicate n r.zero) ys):dw P o N [] aO.pX [(d,some (bU E r ys))]:=by
 intro κ B F L h a w hst hn _ hdn next Q hnext _
 obtain ⟨cs,hr,hl,hrun⟩:=run_buildSlice w t hT (Nat.le_of_ble_eq_true hsz) k hn
 unfold Oper.oK
 have:(execOp a.eval o).run P w = .ok (.value (.slice (some ⟨w.heap.size,0,none⟩) n n)) (w.alloc (.cells cs.toArray E)):=by
  simp only [execOp,ho,Sem.run_bind,hrun,Result.andThen_ok,Sem.run_pure]
 rw [this]
 refine hnext _ h _ (set1 L d (jJ w.heap.size E r ys n)) (lD.refl h) trivial (hst.y8 _ d _ (by intro c hc;simp [jJ] at hc;rw [hc]) ⟨cs,[],by rw [List.append_nil];exact y9 _ _,hr,by rw [List.append_nil,hr.len,hl]⟩) ?_
 rw [hd]
 exact lH (.inr ⟨_,n,by rw [fO (hdn d hd),hl],by rw [hl];exact Nat.le_refl _,rfl⟩)
end Go.KB
namespace Go.KB
variable {P:Program} {α β:Type}
section
variable {ρ:Option Nat} {κ:Type} {B:Base} {h0:H} {Γ:Ctx} {Λ:Own} {F:κ→Option gQ} {n:Nat} {a:Act} {w:World} {vM:Nat→Value} {pre:List (Nat×gK)} {post:List Po}
end
end Go.KB
