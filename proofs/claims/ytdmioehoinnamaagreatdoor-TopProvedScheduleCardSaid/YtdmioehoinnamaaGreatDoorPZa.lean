/- Plain laws: loops, comparisons, indices. Plain laws: limits and names. No condition. -/
import Derived.Test.YtdmioehoinnamaaGreatDoorKZb
import Derived.Laws.Bits64
import Derived.Laws.BitsAllLaws
namespace Go.KB
theorem bS {α β:Type} {a:α} {f:α→Option β}:(some a).bind f=f a:=rfl
theorem jm {α:Type} {a b:α}:(bif true then a else b)=a:=rfl
theorem iP {α:Type} {a b:α}:(bif false then a else b)=b:=rfl
variable {S O α β:Type}
theorem ni {f:S→Option (S ⊕ O)} (I:S→Prop) (μ:S→Nat) (post:O→Prop)
    (h:∀ s,I s→(∃ s',f s=some (.inl s')∧I s'∧μ s'<μ s)∨∃ o,f s=some (.inr o)∧post o):∀ n s,I s→μ s<n→∃ o,bM f n s=some o∧post o:=by
  intro n
  induction n with
  | zero=>intro s _ h;exact absurd h (Nat.not_lt_zero _)
  | succ n ih =>
    intro s hs hm
    rcases h s hs with ⟨s',e,hs',hm'⟩ | ⟨o,e,hp⟩
    · obtain ⟨o, h1, h2⟩ := ih s' hs' (by omega)
      exact ⟨o,by simp [bM,e,h1],h2⟩
    · exact ⟨o,by simp [bM,e],hp⟩
theorem EM {f:S→Option (S ⊕ O)} (I:S→Prop) (μ:S→Nat) (r:O) (h:∀ s,I s→(∃ s',f s=some (.inl s')∧I s'∧μ s'<μ s)∨f s=some (.inr r)) (n:Nat) (s:S) (hs:I s) (hm:μ s<n):bM f n s=some r:=by
 obtain ⟨o,h1,rfl⟩:=ni I μ (fun o=>o=r) (fun s hs=>(h s hs).imp id (fun e=>⟨r,e,rfl⟩)) n s hs hm
 exact h1
theorem KQ {f:Int→Option (Int ⊕ O)} (m:Nat) (r:O) (P:Nat→Prop) (h:∀ i:Nat,i<m→P i→(f i=some (.inl ((i+1:Nat):Int))∧P (i+1))∨f i=some (.inr r)) (he:P m→f m=some (.inr r)) (h0:P 0) (n:Nat) (hn:m<n):bM f n 0=some r :=
  EM (fun s:Int=>∃ i:Nat,s=(i:Int)∧i≤m∧P i) (fun s:Int=>m - s.toNat) r (by
    rintro s ⟨i,rfl,hi,hp⟩
    by_cases hlt:i<m
    · rcases h i hlt hp with ⟨e,hp'⟩ | e
      · exact .inl ⟨_,e,⟨i+1,rfl,by omega,hp'⟩,by simp;omega⟩
      · exact .inr e
    · obtain rfl : i = m := by omega
      exact .inr (he hp)) n 0 ⟨0,rfl,Nat.zero_le _,h0⟩ (by simp;omega)
theorem Uw {σ:Type} {f:(σ×Int)→Option ((σ×Int) ⊕ O)} (m:Nat) (g:Nat→σ) (r:O) (h:∀ i:Nat,i<m→f (g i,(i:Int))=some (.inl (g (i+1),((i+1:Nat):Int)))) (he:f (g m,(m:Int))=some (.inr r)) (n:Nat) (hn:m<n):bM f n (g 0,0)=some r :=
  EM (fun s=>∃ i:Nat,s=(g i,(i:Int))∧i≤m) (fun s=>m - s.2.toNat) r (by
    rintro s ⟨i,rfl,hi⟩
    by_cases hlt:i<m
    · exact .inl ⟨_,h i hlt,⟨i+1,rfl,by omega⟩,by simp;omega⟩
    · obtain rfl : i = m := by omega
      exact .inr he) n _ ⟨0,rfl,Nat.zero_le _⟩ (by simp;omega)

theorem BU {n:Int} (h0:-9223372036854775808≤n) (h1:n≤9223372036854775807):IntKind.i64.wrap n=n:=JM h0 h1
theorem kN {n:Nat} (h:n<9223372036854775807):IntKind.i64.wrap ((n:Int)+1)=((n+1:Nat):Int):=by rw [BU (by omega) (by omega)];rfl
theorem jX {xs:List α} {i:Nat} (h:i<xs.length):idx xs (i:Int)=some xs[i]:=by
 unfold idx
 rw [if_neg (by omega)]
 simp [h]
@[simp] theorem aO {a b:Int}:ax .lss a b=decide (a<b):=by rfl
@[simp] theorem yt {a b:Int}:ax .leq a b=decide (a≤b):=by rfl
@[simp] theorem jE {a b:Int}:ax .gtr a b=decide (b<a):=by rfl
@[simp] theorem vX {a b:Int}:ax .geq a b=decide (b≤a):=by rfl
@[simp] theorem yP {a b:Int}:ax .eql a b=decide (a=b):=by rfl
@[simp] theorem rC {a b:Int}:ax .neq a b = !decide (a=b):=by rfl
end Go.KB
namespace Go.KB
def chr (c:UInt8):Int:=((UInt8.toNat c:Nat):Int)
def ER (c:UInt8):Bool:=(decide (97≤chr c)&&decide (chr c≤122))||(decide (65≤chr c)&&decide (chr c≤90))
def Dk (c:UInt8):Bool:=ER c||decide (chr c=45)||(decide (48≤chr c)&&decide (chr c≤57))
def vH (s:Str):Bool:=match s with | []=>false | c :: r=>decide (r.length<12)&&ER c&&r.all Dk
end Go.KB
