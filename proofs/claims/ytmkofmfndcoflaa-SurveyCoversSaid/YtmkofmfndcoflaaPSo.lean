/- Sorting by a comparison; lists of numbers in order. No condition. -/
import Derived.Test.YtmkofmfndcoflaaGPure
import Derived.Test.YtmkofmfndcoflaaPZa
import Derived.Test.YtmkofmfndcoflaaKSg
namespace Go.KB
set_option linter.unusedVariables false
/- sorting by a comparison of which the signs are those of an order -/
theorem He {β:Type} {c:β→β→Option Int} {k:β→β→Int} {xs:List β} (hc:∀ x ∈ xs,∀ y ∈ xs,c x y=some (k x y)) (h1:∀ x y,k x y≤0↔0≤k y x) (h2:∀ x y,k x y=0→x=y) (h3:∀ x y z,k x y≤0→k y z≤0→k x z≤0):rY c xs:=by
  have hl:∀ x ∈ xs,∀ y ∈ xs,wV c x y=decide (k x y<0):=fun x hx y hy=>by unfold wV;rw [hc x hx y hy]
  have h0:∀ x,k x x=0:=fun x=>by
    have:=h1 x x
    omega
  refine ⟨fun x hx y hy=>⟨_,hc x hx y hy⟩,fun x hx=>by rw [hl x hx x hx,h0];rfl,fun x hx y hy z hz a b=>?_,fun x hx y hy z hz a b=>?_,fun x hx y hy a b=>?_⟩
  · rw [hl x hx y hy,decide_eq_true_eq] at a
    rw [hl y hy z hz,decide_eq_true_eq] at b
    rw [hl x hx z hz,decide_eq_true_eq]
    have h4:=h3 x y z (by omega) (by omega)
    by_cases h5:k x z=0
    · have:=h2 _ _ h5
      subst this
      have h6:=(h1 x y).1 (by omega)
      omega
    · omega
  · rw [hl x hx y hy,decide_eq_false_iff_not] at a
    rw [hl y hy z hz,decide_eq_false_iff_not] at b
    rw [hl x hx z hz,decide_eq_false_iff_not]
    have h4:=h3 z y x ((h1 z y).2 (by omega)) ((h1 y x).2 (by omega))
    have h5:=(h1 z x).1 h4
    omega
  · rw [hl x hx y hy,decide_eq_false_iff_not] at a
    rw [hl y hy x hx,decide_eq_false_iff_not] at b
    refine h2 _ _ ?_
    have h4:=(h1 x y).2 (by omega)
    omega
/- comparing lists of numbers -/
def uw:List Int→List Int→Int
  | [],[]=>0
  | [],_ :: _=>-1
  | _ :: _,[]=>1
  | x :: a,y :: b=>if x<y then -1 else if y<x then 1 else uw a b
theorem G9:∀ a b,uw a b≤0↔0≤uw b a:=by
  intro a
  induction a with
  | nil=>intro b;cases b <;> simp [uw]
  | cons x a ih =>
    intro b
    cases b with
    | nil=>simp [uw]
    | cons y b =>
      unfold uw
      by_cases h1:x<y
      · rw [if_pos h1,if_neg (by omega),if_pos h1];decide
      · rw [if_neg h1]
        by_cases h2:y<x
        · rw [if_pos h2,if_pos h2];decide
        · rw [if_neg h2,if_neg h2,if_neg h1];exact ih b
theorem G8:∀ a b,uw a b=0→a=b:=by
  intro a
  induction a with
  | nil=>intro b h;cases b with
    | nil=>rfl
    | cons _ _=>simp [uw] at h
  | cons x a ih =>
    intro b h
    cases b with
    | nil=>simp [uw] at h
    | cons y b =>
      unfold uw at h
      by_cases h1:x<y
      · rw [if_pos h1] at h;exact absurd h (by decide)
      · rw [if_neg h1] at h
        by_cases h2:y<x
        · rw [if_pos h2] at h;exact absurd h (by decide)
        · rw [if_neg h2] at h
          rw [ih b h,show x=y by omega]
theorem Fe:∀ a b c,uw a b≤0→uw b c≤0→uw a c≤0:=by
  intro a
  induction a with
  | nil=>intro b c _ _;cases c <;> simp [uw]
  | cons x a ih =>
    intro b c h1 h2
    cases b with
    | nil=>simp [uw] at h1
    | cons y b =>
      cases c with
      | nil=>simp [uw] at h2
      | cons z c =>
        unfold uw at h1 h2 ⊢
        by_cases g1:x<y
        · by_cases g2 : y < z
          · rw [if_pos (by omega)];decide
          · rw [if_neg g2] at h2
            by_cases g3:z<y
            · rw [if_pos g3] at h2;exact absurd h2 (by decide)
            · rw [if_pos (by omega)];decide
        · rw [if_neg g1] at h1
          by_cases g3:y<x
          · rw [if_pos g3] at h1;exact absurd h1 (by decide)
          · rw [if_neg g3] at h1
            by_cases g2:y<z
            · rw [if_pos (by omega)];decide
            · rw [if_neg g2] at h2
              by_cases g4:z<y
              · rw [if_pos g4] at h2;exact absurd h2 (by decide)
              · rw [if_neg g4] at h2
                rw [if_neg (by omega),if_neg (by omega)]
                exact ih b c h1 h2
theorem Au {β:Type} {c c':β→β→Option Int} {x:β}:∀ l,(∀ y ∈ l,wV c y x=wV c' y x)→yG c x l=yG c' x l
  | [],_=>rfl
  | y :: l,h=>by
    show (bif wV c y x then y :: yG c x l else x :: y :: l)=(bif wV c' y x then y :: yG c' x l else x :: y :: l)
    rw [h y List.mem_cons_self,Au l fun z hz=>h z (List.mem_cons_of_mem _ hz)]
theorem CW {β:Type} {c c':β→β→Option Int}:∀ l,(∀ x ∈ l,∀ y ∈ l,wV c x y=wV c' x y)→lT c l=lT c' l
  | [],_=>rfl
  | x :: l,h=>by
    show yG c x (lT c l)=yG c' x (lT c' l)
    rw [CW l fun y hy z hz=>h y (List.mem_cons_of_mem _ hy) z (List.mem_cons_of_mem _ hz)]
    exact Au _ fun y hy=>h y (List.mem_cons_of_mem _ ((lF c' l).mem_iff.1 hy)) x List.mem_cons_self
theorem Js {N:Nat} {a:Int}:jR N a=some false:=by
  unfold jR
  rw [jB];simp
theorem pF {N:Nat} {a b:Int}:gV N a b=some (if a<b then -1 else if b<a then 1 else 0):=by
  unfold gV
  rw [Js,Js,bS,bS,qj,qj,dN,qF]
  by_cases h1:a<b
  · rw [decide_eq_true h1,if_pos h1];rfl
  · rw [decide_eq_false h1,if_neg h1,qj]
    by_cases h2:b<a
    · rw [decide_eq_true h2,if_pos h2];rfl
    · rw [decide_eq_false h2,if_neg h2];rfl
end Go.KB
