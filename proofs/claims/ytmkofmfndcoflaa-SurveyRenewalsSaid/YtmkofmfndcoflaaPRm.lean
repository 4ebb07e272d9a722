/- Rectangles that have a cell in common become one. No condition. -/
import Derived.Test.YtmkofmfndcoflaaPRn
namespace Go.KB
set_option linter.unusedVariables false
instance:Inhabited ak:=⟨⟨0,0,0,0⟩⟩
def Ep (a b:ak):ak:=⟨min a.X b.X,min a.Y b.Y,max (a.X+a.W) (b.X+b.W) - min a.X b.X,max (a.Y+a.H) (b.Y+b.H) - min a.Y b.Y⟩
def mO (a b:ak):Bool:=decide (a.X<b.X+b.W)&&decide (b.X<a.X+a.W)&&decide (a.Y<b.Y+b.H)&&decide (b.Y<a.Y+a.H)
structure Dy (C R:Int) (r:ak):Prop where
  x:0≤r.X
  y:0≤r.Y
  w:1≤r.W
  h:1≤r.H
  xw:r.X+r.W≤C
  yh:r.Y+r.H≤R
theorem Dy.ar {C R:Int} {a b:ak} (ha:Dy C R a) (hb:Dy C R b):Dy C R (Ep a b):=by
  obtain ⟨a1,a2,a3,a4,a5,a6⟩:=ha
  obtain ⟨b1,b2,b3,b4,b5,b6⟩:=hb
  refine ⟨?_,?_,?_,?_,?_,?_⟩ <;> simp only [Ep] <;> omega
section
variable {N:Nat} {C R:Int} (hC:C≤1000) (hR:R≤1000)
include hC hR in
theorem zy {a b:ak} (ha:Dy C R a) (hb:Dy C R b):iU N a b=some (Ep a b):=by
  obtain ⟨a1,a2,a3,a4,a5,a6⟩:=ha
  obtain ⟨b1,b2,b3,b4,b5,b6⟩:=hb
  unfold iU Ep
  rw [qF (n:=a.X+a.W) (by omega) (by omega),qF (n:=b.X+b.W) (by omega) (by omega),qF (n:=a.Y+a.H) (by omega) (by omega),qF (n:=b.Y+b.H) (by omega) (by omega),qF (by omega) (by omega),qF (by omega) (by omega)]
include hC hR in
theorem FH {a b:ak} (ha:Dy C R a) (hb:Dy C R b):nI N a b=some (Ep a b):=zy (N:=N) hC hR ha hb
include hC hR in
theorem Gp {a b:ak} (ha:Dy C R a) (hb:Dy C R b):mG N a b=some (mO a b):=by
  obtain ⟨a1,a2,a3,a4,a5,a6⟩:=ha
  obtain ⟨b1,b2,b3,b4,b5,b6⟩:=hb
  unfold mG mO
  rw [qF (n:=a.X+a.W) (by omega) (by omega),qF (n:=b.X+b.W) (by omega) (by omega),qF (n:=a.Y+a.H) (by omega) (by omega),qF (n:=b.Y+b.H) (by omega) (by omega)]
  simp only [dh]
include hC hR in
theorem Em {a b:ak} (ha:Dy C R a) (hb:Dy C R b):mP N a b=some (mO a b):=Gp (N:=N) hC hR ha hb
end
/- putting into a list that is in order -/
theorem Ej (l:List ak) (r:ak):(vV l r).Perm (l ++ [r]):=by
  unfold vV
  rw [List.append_assoc]
  refine (List.perm_append_comm_assoc _ _ _).trans ?_
  rw [List.take_append_drop]
  exact List.perm_append_comm
theorem FI {l:List ak} {r:ak} (h:l.Pairwise (fun a b=>wS cR b a=false)):(vV l r).Pairwise (fun a b=>wS cR b a=false):=by
  have hl:∀ a b:ak,wS cR a b=false↔0≤iL a b:=fun a b=>by
    show decide (iL a b<0)=false↔_
    rw [decide_eq_false_iff_not];omega
  simp only [hl] at h ⊢
  unfold vV
  have hk:l.findIdx (fun y=>decide (iL r y<0))≤l.length:=List.findIdx_le_length
  have hb:∀ a ∈ l.take (l.findIdx fun y=>decide (iL r y<0)),0≤iL r a:=fun a ha=>by
    obtain ⟨j,hj,rfl⟩:=List.getElem_of_mem ha
    rw [List.length_take] at hj
    rw [List.getElem_take]
    have:=List.not_of_lt_findIdx (p:=fun y=>decide (iL r y<0)) (xs:=l) (i:=j) (by omega)
    simp only [decide_eq_false_iff_not,decide_eq_true_eq] at this
    omega
  have haf:∀ b ∈ l.drop (l.findIdx fun y=>decide (iL r y<0)),iL r b≤0:=fun b hbm=>by
    obtain ⟨j,hj,rfl⟩:=List.getElem_of_mem hbm
    rw [List.length_drop] at hj
    rw [List.getElem_drop]
    have hlt:l.findIdx (fun y=>decide (iL r y<0))<l.length:=by omega
    have h1:=List.findIdx_getElem (w:=hlt)
    rw [decide_eq_true_eq] at h1
    by_cases hj0:j=0
    · subst hj0;simp only [Nat.add_zero];omega
    · have h2 := List.pairwise_iff_getElem.1 h (l.findIdx fun y => decide (iL r y < 0)) ((l.findIdx fun y => decide (iL r y < 0)) + j) hlt (by omega) (by omega)
      exact vW _ _ _ (by omega) ((rE _ _).2 h2)
  rw [List.append_assoc,List.pairwise_append]
  refine ⟨h.sublist (List.take_sublist _ _),?_,fun a ha b hbm=>?_⟩
  · rw [List.singleton_append,List.pairwise_cons]
    exact ⟨fun b hbm=>(rE _ _).1 (haf b hbm),h.sublist (List.drop_sublist _ _)⟩
  · rcases List.mem_append.1 hbm with hbm | hbm
    · rw [List.mem_singleton.1 hbm];exact hb a ha
    · have h1:=hb a ha
      have h2:=haf b hbm
      exact (rE _ _).1 (vW a r b ((rE _ _).2 h1) h2)
theorem yH (l:List ak):(kZ l).Pairwise (fun a b=>wS cR b a=false):=xk (okR l) l fun _ h=>h
theorem lN (l:List ak):(kZ l).Perm l:=lM cR l
theorem zu (l:List ak) (r:ak):vV (kZ l) r=kZ (l ++ [r]) :=
  zn (okR _) ((Ej _ _).trans ((lN l).append_right _)) (FI (yH l))
theorem zK {l l':List ak} (h:l.Perm l'):kZ l=kZ l':=zn (okR _) ((lN l).trans h) (yH l)
theorem zI (l:List ak):kZ (kZ l)=kZ l:=zK (lN l)
theorem FD (ms:List ak):∀ l,ms.foldl vV (kZ l)=kZ (l ++ ms):=by
  induction ms with
  | nil=>intro l;rw [List.append_nil];rfl
  | cons m ms ih=>intro l;rw [List.foldl_cons,zu,ih,List.append_assoc];rfl
/- a search -/
theorem pI {S O E : Type} {n : Nat} {f : S → Option (S ⊕ (E ⊕ O))} (mk : Nat → S) (h : Nat → Option O) (e0 : E) (a M : Nat) (ha : a ≤ n) (hM : n - a < M) (hq : ∀ i, a ≤ i → i < n → f (mk i) = match h i with | some o => some (.inr (.inr o)) | none => some (.inl (mk (i + 1)))) (he : f (mk n) = some (.inr (.inl e0))) :
    bD f M (mk a)=some (match (List.range' a (n - a)).findSome? h with | some o=>.inr o | none=>.inl e0):=by
  have key:∀ d a M,a+d=n→d<M→(∀ i,a≤i→i<n→f (mk i)=match h i with | some o=>some (.inr (.inr o)) | none=>some (.inl (mk (i+1))))→bD f M (mk a)=some (match (List.range' a d).findSome? h with | some o=>.inr o | none=>.inl e0):=by
    intro d
    induction d with
    | zero =>
      intro a M ha hM _
      obtain ⟨M,rfl⟩:∃ m,M=m+1:=⟨M - 1,by omega⟩
      rw [show a=n by omega,bD,he];rfl
    | succ d ih =>
      intro a M ha hM hq
      obtain ⟨M,rfl⟩:∃ m,M=m+1:=⟨M - 1,by omega⟩
      have e:=hq a (Nat.le_refl _) (by omega)
      rw [List.range'_succ,List.findSome?_cons,bD,e]
      cases hh:h a with
      | some o=>rfl
      | none=>exact ih (a+1) M (by omega) (by omega) fun i h1 h2=>hq i (by omega) h2
  exact key (n - a) a M (by omega) (by omega) hq
theorem uJ {α β γ:Type} {h:α→Option β} {h':α→Option γ} {φ:β→γ}:∀ {l:List α},(∀ x ∈ l,h' x=(h x).map φ)→l.findSome? h'=(l.findSome? h).map φ
  | [],_=>rfl
  | x :: l,hq=>by
    rw [List.findSome?_cons,List.findSome?_cons,hq x List.mem_cons_self]
    cases h x with
    | some b=>rfl
    | none=>exact uJ fun y hy=>hq y (List.mem_cons_of_mem _ hy)
theorem FK {S O:Type} {n N:Nat} {f:S→Option (S ⊕ O)} (g:Nat→S) (r:O) (h:∀ i:Nat,i<n→f (g i)=some (.inl (g (i+1)))) (he:f (g n)=some (.inr r)) (hN:n<N):bD f N (g 0)=some r:=by
  have key:∀ k i,i+k=n→∀ M,k<M→bD f M (g i)=some r:=by
    intro k
    induction k with
    | zero =>
      intro i hi M hM
      obtain ⟨M,rfl⟩:∃ m,M=m+1:=⟨M - 1,by omega⟩
      have:i=n:=by omega
      subst this
      simp only [bD,he]
    | succ k ih =>
      intro i hi M hM
      obtain ⟨M,rfl⟩:∃ m,M=m+1:=⟨M - 1,by omega⟩
      simp only [bD,h i (by omega)]
      exact ih (i+1) (by omega) M (by omega)
  exact key n 0 (by omega) N (by omega)
/- a loop whose state is a value that the elements of a list change one after the other -/
theorem rD {S O α T:Type} {N:Nat} {f:S→Option (S ⊕ O)} (l:List α) (t0:T) (stp:T→α→T) (mk:T→Int→S) (out:T→O) (hf:∀ (i:Nat) (hi:i<l.length) (t:T),t=(l.take i).foldl stp t0→f (mk t (i:Int))=some (.inl (mk (stp t l[i]) ((i+1:Nat):Int)))) (he:∀ t,f (mk t (l.length:Int))=some (.inr (out t))) (hN:l.length<N):bD f N (mk t0 0)=some (out (l.foldl stp t0)):=by
  refine FK (n:=l.length) (fun i=>mk ((l.take i).foldl stp t0) (i:Int)) _ (fun i hi=>?_) ?_ hN
  · rw [hf i hi _ rfl,List.take_succ_eq_append_getElem hi,List.foldl_append];rfl
  · rw [List.take_length];exact he _
end Go.KB
