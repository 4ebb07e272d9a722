/- Plain laws: loops, comparisons, indices. Plain laws: limits and names. No condition. -/
import Derived.Test.YtalkbgomndhkmaaGreatKZb
import Derived.Laws.Bits64
import Derived.Laws.BitsAllLaws
namespace Go.KB
theorem bS {α β:Type} {a:α} {f:α→Option β}:(some a).bind f=f a:=rfl
theorem qZ {α:Type} {a b:α}:(bif true then a else b)=a:=rfl
theorem qg {α:Type} {a b:α}:(bif false then a else b)=b:=rfl
variable {S O α β:Type}
theorem U0 {f:S→Option (S ⊕ O)} (I:S→Prop) (μ:S→Nat) (post:O→Prop)
    (h:∀ s,I s→(∃ s',f s=some (.inl s')∧I s'∧μ s'<μ s)∨∃ o,f s=some (.inr o)∧post o):∀ n s,I s→μ s<n→∃ o,dh f n s=some o∧post o:=by
  intro n
  induction n with
  | zero=>intro s _ h;exact absurd h (Nat.not_lt_zero _)
  | succ n ih =>
    intro s hs hm
    rcases h s hs with ⟨s',e,hs',hm'⟩ | ⟨o,e,hp⟩
    · obtain ⟨o, h1, h2⟩ := ih s' hs' (by omega)
      exact ⟨o,by simp [dh,e,h1],h2⟩
    · exact ⟨o,by simp [dh,e],hp⟩
theorem U1 {f:S→Option (S ⊕ O)} (I:S→Prop) (μ:S→Nat) (r:O) (h:∀ s,I s→(∃ s',f s=some (.inl s')∧I s'∧μ s'<μ s)∨f s=some (.inr r)) (n:Nat) (s:S) (hs:I s) (hm:μ s<n):dh f n s=some r:=by
 obtain ⟨o,h1,rfl⟩:=U0 I μ (fun o=>o=r) (fun s hs=>(h s hs).imp id (fun e=>⟨r,e,rfl⟩)) n s hs hm
 exact h1
theorem OC {f:Int→Option (Int ⊕ O)} (m:Nat) (r:O) (P:Nat→Prop) (h:∀ i:Nat,i<m→P i→(f i=some (.inl ((i+1:Nat):Int))∧P (i+1))∨f i=some (.inr r)) (he:P m→f m=some (.inr r)) (h0:P 0) (n:Nat) (hn:m<n):dh f n 0=some r :=
  U1 (fun s:Int=>∃ i:Nat,s=(i:Int)∧i≤m∧P i) (fun s:Int=>m - s.toNat) r (by
    rintro s ⟨i,rfl,hi,hp⟩
    by_cases hlt:i<m
    · rcases h i hlt hp with ⟨e,hp'⟩ | e
      · exact .inl ⟨_,e,⟨i+1,rfl,by omega,hp'⟩,by simp;omega⟩
      · exact .inr e
    · obtain rfl : i = m := by omega
      exact .inr (he hp)) n 0 ⟨0,rfl,Nat.zero_le _,h0⟩ (by simp;omega)
theorem w64 {n:Int} (h0:-9223372036854775808≤n) (h1:n≤9223372036854775807):IntKind.i64.wrap n=n:=EH h0 h1
theorem pI {n:Nat} (h:n<9223372036854775807):IntKind.i64.wrap ((n:Int)+1)=((n+1:Nat):Int):=by rw [w64 (by omega) (by omega)];rfl
theorem iZ {xs:List α} {i:Nat} (h:i<xs.length):idx xs (i:Int)=some xs[i]:=by
 unfold idx
 rw [if_neg (by omega)]
 simp [h]
@[simp] theorem bP {a b:Int}:aJ .lss a b=decide (a<b):=by rfl
@[simp] theorem DJ {a b:Int}:aJ .leq a b=decide (a≤b):=by rfl
@[simp] theorem rf {a b:Int}:aJ .gtr a b=decide (b<a):=by rfl
@[simp] theorem Bz {a b:Int}:aJ .geq a b=decide (b≤a):=by rfl
@[simp] theorem uU {a b:Int}:aJ .eql a b=decide (a=b):=by rfl
@[simp] theorem pV {a b:Int}:aJ .neq a b = !decide (a=b):=by rfl
end Go.KB
namespace Go.KB
def VN (c:UInt8):Int:=((UInt8.toNat c:Nat):Int)
def wP (c:UInt8):Bool:=(decide (97≤VN c)&&decide (VN c≤122))||(decide (65≤VN c)&&decide (VN c≤90))
def sZ (c:UInt8):Bool:=wP c||decide (VN c=45)||(decide (48≤VN c)&&decide (VN c≤57))
def oW (s:Str):Bool:=match s with | []=>false | c :: r=>decide (r.length<12)&&wP c&&r.all sZ
end Go.KB
