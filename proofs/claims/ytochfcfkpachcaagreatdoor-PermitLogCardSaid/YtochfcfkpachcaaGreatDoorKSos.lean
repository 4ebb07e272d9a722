/- Go's slices.Sort at string by the library's contract, as a function that writes a row of the caller's. No condition. -/
import Derived.Test.YtochfcfkpachcaaGreatDoorKZc
import Derived.Shelf.Sort.Plain
import Derived.Shelf.Slices.In.SortNone
namespace Go.KB
open Go.Sort
set_option linter.unusedVariables false
variable {P:Program}
/- rows of texts in memory -/
theorem relS {h:H}:∀ {xs:List Str} {cs:List Value},sN Rep.str h cs xs↔cs=xs.map Go.Proofs.encStr:=by
  intro xs
  induction xs with
  | nil=>intro cs;exact Iff.rfl
  | cons x xs ih =>
    intro cs
    constructor
    · rintro ⟨c,d,rfl,hc,hd⟩
      rw [ih.1 hd,show c=[Go.Proofs.encStr x] from hc];rfl
    · intro e
      exact ⟨[Go.Proofs.encStr x],xs.map Go.Proofs.encStr,e,rfl,ih.2 rfl⟩
theorem RQ {α:Type} [Inhabited α] {enc:α→Value} {p c q:List Value} {d:Array α} (hc:c.length=d.size):putCells enc p.length d (p ++ c ++ q).toArray=(p ++ d.toList.map enc ++ q).toArray:=by
  apply Array.ext_getElem?
  intro k
  unfold putCells
  simp only [Array.getElem?_mapIdx,List.getElem?_toArray]
  by_cases h1:k<p.length
  · rw [List.append_assoc,List.getElem?_append_left h1,List.append_assoc,List.getElem?_append_left h1,List.getElem?_eq_getElem h1]
    simp;intro h;omega
  · by_cases h2 : k < p.length + d.size
    · have e1:(p ++ c ++ q)[k]? = some c[k - p.length]:=by
        rw [List.append_assoc,List.getElem?_append_right (by omega),List.getElem?_append_left (by omega),List.getElem?_eq_getElem]
      have e2:(p ++ d.toList.map enc ++ q)[k]? = some (enc d[k - p.length]!):=by
        rw [List.append_assoc,List.getElem?_append_right (by omega),List.getElem?_append_left (by simp;omega),List.getElem?_map,Array.getElem?_toList]
        rw [Array.getElem?_eq_getElem (by omega)]
        simp [getElem!_pos,show k - p.length<d.size by omega]
      rw [e1,e2,Option.map_some,if_pos ⟨by omega,h2⟩]
    · rw [List.append_assoc, List.getElem?_append_right (by omega), List.getElem?_append_right (by omega), List.append_assoc, List.getElem?_append_right (by omega), List.getElem?_append_right (by simp; omega)]
      simp only [List.length_map,Array.length_toList,hc]
      cases q[k - p.length - d.size]? with
      | none=>rfl
      | some v=>rw [Option.map_some,if_neg (by omega)]
theorem RS {α:Type} [Inhabited α] {enc:α→Value} {w:World} {b:Nat} {p c q:List Value} {d:Array α} {E:TypeId} {fr:Nat×Nat} (hb:w.heap[b]? = some (.cells (p ++ c ++ q).toArray E fr)) (hc:c.length=d.size) (n:Nat) (os:Array Obj) :
    (grow (putRow enc (Sort.ahead w n) b p.length d) os).heap[b]? = some (.cells (p ++ d.toList.map enc ++ q).toArray E fr):=by
  have hlt:b<w.heap.size:=(Array.getElem?_eq_some_iff.1 hb).1
  unfold grow putRow mapBlock Sort.ahead
  simp only
  rw [Array.getElem?_append_left (by simpa using hlt),Array.getElem?_modify,if_pos rfl,hb]
  simp only [Option.map_some,onCells]
  rw [RQ hc]
theorem MR {α:Type} [Inhabited α] {enc:α→Value} {w:World} {b b' off:Nat} {d:Array α} (hne:b'≠b) (hlt:b'<w.heap.size) (n:Nat) (os:Array Obj):(grow (putRow enc (Sort.ahead w n) b off d) os).heap[b']? = w.heap[b']?:=by
  unfold grow putRow mapBlock Sort.ahead
  simp only
  rw [Array.getElem?_append_left (by simpa using hlt),Array.getElem?_modify,if_neg (fun x=>hne x.symm)]
theorem HY {α:Type} [Inhabited α] {enc:α→Value} {w:World} {b off:Nat} {d:Array α} (n:Nat) (os:Array Obj):w.heap.size≤(grow (putRow enc (Sort.ahead w n) b off d) os).heap.size:=by
  unfold grow putRow mapBlock Sort.ahead
  simp
/- the row of a claim is written anew -/
theorem St.putA {α : Type} [Inhabited α] {enc : α → Value} {κ : Type} {B : Base} {h : H} {L : κ → Option jh} {w : World} {x x' : jh} {b : Nat} {p c q : List Value} {d : Array α} {E : TypeId} {fr : Nat × Nat} (hst : St B h (Sum.elim (fun _ : Unit => some x) L) w) (hcl : x.claims = [(b, 0)]) (hcl' : x'.claims = [(b, 0)])
    (hb:w.heap[b]? = some (.cells (p ++ c ++ q).toArray E fr)) (hc:c.length=d.size) (n:Nat) (os:Array Obj)
    (hok:∀ m:Nat→Option Obj,m b=some (.cells (p ++ d.toList.map enc ++ q).toArray E fr)→x'.ok h m):St B h (Sum.elim (fun _:Unit=>some x') L) (grow (putRow enc (Sort.ahead w n) b p.length d) os):=by
  have hlt:b<w.heap.size:=(Array.getElem?_eq_some_iff.1 hb).1
  obtain ⟨hcl0,_⟩:=hst.own (k:=Sum.inl ()) (e:=x) rfl
  have hx:=hcl0 (b,0) (by rw [hcl];exact List.mem_singleton_self _)
  refine hst.step (hnf:=hst.KT (k:=Sum.inl ()) (e:=x) rfl (by rw [hcl];exact List.mem_singleton_self _)) (Sum.inl ()) (fun i=>i=b) ?_ (HY n os) rfl rfl rfl (fun b' hb' hne=>MR hne hb' n os) (nO.refl h) (fun _ _ _ _=>rfl) ?_ ?_ ?_
  · rintro i rfl _
    exact ⟨x,rfl,(i,0),by rw [hcl];exact List.mem_singleton_self _,rfl⟩
  · rintro i o v (rfl | hi) hv
    · rw [hx.2.2 o (Nat.zero_le _)] at hv;cases hv
    · rw [hst.fresh hi] at hv;cases hv
  · rintro (u | k) e hne he
    · exact absurd rfl hne
    · exact he
  · intro e he
    cases he
    refine ⟨fun c' hc'=>?_,hok _ (RS hb hc n os)⟩
    rw [hcl',List.mem_singleton] at hc'
    subst hc'
    exact ⟨.inr ⟨x,rfl,(b,0),by rw [hcl];exact List.mem_singleton_self _,rfl⟩,Nat.lt_of_lt_of_le hlt (HY n os),fun o ho=>hx.2.2 o ho⟩
theorem holdsS {w:World} {b:Nat} {p q:List Value} {xs:List Str} {E:TypeId} (hb:w.heap[b]? = some (.cells (p ++ xs.map Go.Proofs.encStr ++ q).toArray E (0,0))):Holds Go.Proofs.encStr w b p.length xs.toArray:=by
  intro j hj
  have hj':j<xs.length:=by simpa using hj
  constructor
  · rw [yh _ _ _ _ _ _ hb]
    simp only [List.getElem?_toArray]
    rw [List.append_assoc,List.getElem?_append_right (by omega),List.getElem?_append_left (by simp;omega),Nat.add_sub_cancel_left,List.getElem?_map,List.getElem?_eq_getElem hj']
    simp [hj']
  · unfold World.frozen?
    simp [hb]
def Gw (xs:List Str):List Str:=xs.mergeSort fun x y=>decide (x≤y)
def QB (xs:List Str):Option (List Str):=bif Nat.ble xs.length 1000000 then some (Gw xs) else none
theorem Xi {f:FuncId} {E:TypeId} (K:Option WT) {xs r:List Str} (H:QB xs=some r)
    (hS:∀ (blk off cap:Nat) (zs:List Str) (w:World),Holds Go.Proofs.encStr w blk off zs.toArray→blk<w.heap.size→zs.length<4611686018427387904→Calls P f #[.slice (some ⟨blk,off,none⟩) zs.length cap] w fun e w' =>
      e = .returned (.tuple #[])∧∃ n os,w'=grow (putRow Go.Proofs.encStr (Sort.ahead w n) blk off (zs.mergeSort fun x y=>decide (x≤y)).toArray) os)
    (h0:∀ (p:Option Addr) (cap:Nat) (w:World),Calls P f #[.slice p 0 cap] w fun e w'=>e = .returned (.tuple #[])∧w'=w) :
    VI P f [bD.qy] 0 (WU K E Rep.str xs) (WU K E Rep.str r) fT0:=by
  unfold QB at H
  cases hc:Nat.ble xs.length 1000000 with
  | false=>rw [hc] at H;cases H
  | true =>
    rw [hc] at H;cases H
    simp only [Nat.ble_eq] at hc
    intro κ B L h w vs x v hst hl hvi hq hargs
    cases K with
    | none =>
      obtain ⟨⟨base,rfl⟩,rfl,hx⟩:=hq
      have hvs:vs=[.slice base 0 0]:=by
        match vs,hl,hvi with
        | [u],_,hvi=>simp at hvi;rw [hvi]
      subst hvs
      refine (h0 base 0 w).mono ?_
      rintro e w' ⟨rfl,rfl⟩
      exact ⟨_,h,x,rfl,nO.refl h,hst,rfl,⟨base,rfl⟩,by simp [Gw],hx⟩
    | some K =>
      obtain ⟨rfl,hcap,rfl⟩:=hq
      have hvs:vs=[.slice (some ⟨K.b,K.pre.length,none⟩) xs.length K.cap]:=by
        match vs,hl,hvi with
        | [u],_,hvi=>simp at hvi;rw [hvi]
      subst hvs
      obtain ⟨hcl,cs,hb,hr⟩:=hst.own (k:=Sum.inl ()) (e:=Je K E Rep.str xs) rfl
      rw [relS] at hr
      subst hr
      have hb':w.heap[K.b]? = some (.cells (K.pre ++ xs.map Go.Proofs.encStr ++ K.post).toArray E (0,0)):=hb
      have hlen:(Gw xs).length=xs.length:=List.length_mergeSort _
      refine (hS K.b K.pre.length K.cap xs w (holdsS hb') (Array.getElem?_eq_some_iff.1 hb').1 (by omega)).mono ?_
      rintro e w' ⟨rfl,n,os,rfl⟩
      refine ⟨_,h,Je K E Rep.str (Gw xs),rfl,nO.refl h,?_,rfl,?_⟩
      · exact hst.putA rfl rfl hb' (by simp [List.length_mergeSort]) n os fun m hm=>⟨(Gw xs).map Go.Proofs.encStr,by rw [hm];rfl,relS.2 rfl⟩
      · exact ⟨by rw [hlen],by rw [hlen];exact hcap,rfl⟩
end Go.KB
