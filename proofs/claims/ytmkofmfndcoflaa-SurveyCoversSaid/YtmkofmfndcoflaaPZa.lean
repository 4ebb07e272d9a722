/- Plain laws: loops, comparisons, indices. Plain laws: limits and names. Plain laws of the exact package's natural numbers. Plain laws of the exact package: words, greatest common divisors, division by one limb. Plain laws of the exact package: comparison, division by one limb, fractions of small numbers. Plain laws: digits of lists of limbs; arithmetic of machine integers within their limits. Plain laws: loops that look for the first error, that make a list, that change a list in its place. No condition. -/
import Derived.Test.YtmkofmfndcoflaaKZb
import Derived.Laws.Bits64
import Derived.Laws.BitsAllLaws
import Derived.Test.YtmkofmfndcoflaaGPure
namespace Go.KB
theorem bS {α β:Type} {a:α} {f:α→Option β}:(some a).bind f=f a:=rfl
theorem nZ {α:Type} {a b:α}:(bif true then a else b)=a:=rfl
theorem qj {α:Type} {a b:α}:(bif false then a else b)=b:=rfl
variable {S O α β:Type}
theorem Jp {f:S→Option (S ⊕ O)} (I:S→Prop) (μ:S→Nat) (post:O→Prop)
    (h:∀ s,I s→(∃ s',f s=some (.inl s')∧I s'∧μ s'<μ s)∨∃ o,f s=some (.inr o)∧post o):∀ n s,I s→μ s<n→∃ o,bQ f n s=some o∧post o:=by
  intro n
  induction n with
  | zero=>intro s _ h;exact absurd h (Nat.not_lt_zero _)
  | succ n ih =>
    intro s hs hm
    rcases h s hs with ⟨s',e,hs',hm'⟩ | ⟨o,e,hp⟩
    · obtain ⟨o, h1, h2⟩ := ih s' hs' (by omega)
      exact ⟨o,by simp [bQ,e,h1],h2⟩
    · exact ⟨o,by simp [bQ,e],hp⟩
theorem Eg {f:S→Option (S ⊕ O)} (I:S→Prop) (μ:S→Nat) (r:O) (h:∀ s,I s→(∃ s',f s=some (.inl s')∧I s'∧μ s'<μ s)∨f s=some (.inr r)) (n:Nat) (s:S) (hs:I s) (hm:μ s<n):bQ f n s=some r:=by
 obtain ⟨o,h1,rfl⟩:=Jp I μ (fun o=>o=r) (fun s hs=>(h s hs).imp id (fun e=>⟨r,e,rfl⟩)) n s hs hm
 exact h1
theorem rJ {f:Int→Option (Int ⊕ O)} (m:Nat) (r:O) (P:Nat→Prop) (h:∀ i:Nat,i<m→P i→(f i=some (.inl ((i+1:Nat):Int))∧P (i+1))∨f i=some (.inr r)) (he:P m→f m=some (.inr r)) (h0:P 0) (n:Nat) (hn:m<n):bQ f n 0=some r :=
  Eg (fun s:Int=>∃ i:Nat,s=(i:Int)∧i≤m∧P i) (fun s:Int=>m - s.toNat) r (by
    rintro s ⟨i,rfl,hi,hp⟩
    by_cases hlt:i<m
    · rcases h i hlt hp with ⟨e,hp'⟩ | e
      · exact .inl ⟨_,e,⟨i+1,rfl,by omega,hp'⟩,by simp;omega⟩
      · exact .inr e
    · obtain rfl : i = m := by omega
      exact .inr (he hp)) n 0 ⟨0,rfl,Nat.zero_le _,h0⟩ (by simp;omega)
theorem E8 {σ:Type} {f:(σ×Int)→Option ((σ×Int) ⊕ O)} (m:Nat) (g:Nat→σ) (r:O) (h:∀ i:Nat,i<m→f (g i,(i:Int))=some (.inl (g (i+1),((i+1:Nat):Int)))) (he:f (g m,(m:Int))=some (.inr r)) (n:Nat) (hn:m<n):bQ f n (g 0,0)=some r :=
  Eg (fun s=>∃ i:Nat,s=(g i,(i:Int))∧i≤m) (fun s=>m - s.2.toNat) r (by
    rintro s ⟨i,rfl,hi⟩
    by_cases hlt:i<m
    · exact .inl ⟨_,h i hlt,⟨i+1,rfl,by omega⟩,by simp;omega⟩
    · obtain rfl : i = m := by omega
      exact .inr he) n _ ⟨0,rfl,Nat.zero_le _⟩ (by simp;omega)

theorem w64 {n:Int} (h0:-9223372036854775808≤n) (h1:n≤9223372036854775807):IntKind.i64.wrap n=n:=vK h0 h1
theorem wS {n:Nat} (h:n<9223372036854775807):IntKind.i64.wrap ((n:Int)+1)=((n+1:Nat):Int):=by rw [w64 (by omega) (by omega)];rfl
theorem rH {xs:List α} {i:Nat} (h:i<xs.length):idx xs (i:Int)=some xs[i]:=by
 unfold idx
 rw [if_neg (by omega)]
 simp [h]
@[simp] theorem dN {a b:Int}:ai .lss a b=decide (a<b):=by rfl
@[simp] theorem Gf {a b:Int}:ai .leq a b=decide (a≤b):=by rfl
@[simp] theorem qF {a b:Int}:ai .gtr a b=decide (b<a):=by rfl
@[simp] theorem pz {a b:Int}:ai .geq a b=decide (b≤a):=by rfl
@[simp] theorem pq {a b:Int}:ai .eql a b=decide (a=b):=by rfl
@[simp] theorem jB {a b:Int}:ai .neq a b = !decide (a=b):=by rfl
end Go.KB
namespace Go.KB
def CB (lo hi n:Int):Bool:=decide (lo≤n)&&decide (n≤hi)
def JZ (c:UInt8):Int:=((UInt8.toNat c:Nat):Int)
def nU (c:UInt8):Bool:=(decide (97≤JZ c)&&decide (JZ c≤122))||(decide (65≤JZ c)&&decide (JZ c≤90))
def iQ (c:UInt8):Bool:=nU c||decide (JZ c=45)||(decide (48≤JZ c)&&decide (JZ c≤57))
def kR (s:Str):Bool:=match s with | []=>false | c :: r=>decide (r.length<12)&&nU c&&r.all iQ
end Go.KB
namespace Go.KB
set_option linter.unusedVariables false
def val:List Int→Nat
 | []=>0
 | d :: r=>d.toNat+65536 * val r
theorem CO {α:Type} {xs ys:List α} (h:xs.length+ys.length≤lim):app xs ys=some (xs ++ ys):=by
 unfold app;rw [Nat.ble_eq_true_of_le h];rfl
end Go.KB
namespace Go.KB
set_option linter.unusedVariables false
end Go.KB
namespace Go.KB
set_option linter.unusedVariables false
end Go.KB
namespace Go.KB
set_option linter.unusedVariables false
theorem pO {n:Int} (h0:-9223372036854775808≤n) (h1:n≤9223372036854775807):IntKind.i64.wrap n=n:=vK h0 h1
theorem dT {p:Prop} [Decidable p] (h:p):decide p=true:=decide_eq_true h
theorem dF {p:Prop} [Decidable p] (h:¬p):decide p=false:=decide_eq_false h
end Go.KB
namespace Go.KB
set_option linter.unusedVariables false
theorem oO {α:Type} [Inhabited α] {l:List α} {i:Nat} (h:i<l.length):l[i]! = l[i]:=by simp [h]
theorem wB {α:Type} [Inhabited α] {l:List α} {i:Nat} (h:i<l.length):idx l (i:Int)=some l[i]!:=by rw [rH h,oO h]
end Go.KB
