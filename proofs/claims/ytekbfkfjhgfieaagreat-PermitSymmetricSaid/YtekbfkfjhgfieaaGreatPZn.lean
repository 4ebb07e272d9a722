/- Plain laws of chapter 7: what stays true in an office. Plain laws of chapter 7: the program's office settles. Plain laws of chapter 7: which permits exclude each other; the new office. No condition. -/
import Derived.Test.YtekbfkfjhgfieaaGreatPZm
namespace Go.KB
set_option linter.unusedVariables false
structure WA (p : GPermitPlan) (d : List GEvent) (A : AO) : Prop where
 st : ∀ s, 0 ≤ stA A s ∧ stA A s ≤ 6
 fr : ∀ x ∈ p.Permits, stA A x.Name = 2 → x.From ≤ A.now
 ex : ∀ x ∈ p.Permits, ∀ y ∈ p.Permits, stA A x.Name = 2 → stA A y.Name = 2 → exclQ p x y = false
 tm : 0 ≤ A.now ∧ A.now ≤ 1000000
 to : ∀ x ∈ p.Permits, (A.es x.Name).to_ = x.To ∨ ∃ v ∈ d, v.Op = 11 ∧ v.Name = x.Name ∧ v.To = (A.es x.Name).to_
 pp : A.pp.Pairwise (fun a b => a.1 < b.1)
 tt : ∀ s t, A.ts s = some t → 0 ≤ t.at_ ∧ t.at_ ≤ 1000000
 pl : A.pp.length ≤ d.length
structure InvA (p : GPermitPlan) (A : AO) : Prop where
 w : WA p A.done A
 un : ∀ x ∈ p.Permits, stA A x.Name = 2 → badA p A x = false
 li : ∀ x ∈ p.Permits, stA A x.Name ≤ 3 → A.now < (A.es x.Name).to_
theorem WA.le {p : GPermitPlan} {d : List GEvent} {A A' : AO} (h : WA p d A) (hs : ∀ s, stA A' s = stA A s ∨ (0 ≤ stA A' s ∧ stA A' s ≤ 6 ∧ stA A' s ≠ 2)) (ht : ∀ s, (A'.es s).to_ = (A.es s).to_) (hn : A.now ≤ A'.now ∧ A'.now ≤ 1000000) (hp : A'.pp.Pairwise (fun a b => a.1 < b.1)) (hq : ∀ s t, A'.ts s = some t → A.ts s = some t ∨ (0 ≤ t.at_ ∧ t.at_ ≤ 1000000)) (hl : A'.pp.length ≤ d.length) : WA p d A' := by
 have h2 : ∀ s, stA A' s = 2 → stA A s = 2 := fun s e => by
  rcases hs s with h1 | h1
  ·rw [← h1]; exact e
  ·exact absurd e h1.2.2
 have htm := h.tm
 refine ⟨fun s => ?_, fun x hx e => ?_, fun x hx y hy e f => h.ex x hx y hy (h2 _ e) (h2 _ f), ⟨by omega, hn.2⟩, fun x hx => ?_, hp, fun s t e => (hq s t e).elim (h.tt s t) id, hl⟩
 ·rcases hs s with h1 | h1
  ·rw [h1]; exact h.st s
  ·exact ⟨h1.1, h1.2.1⟩
 ·have := h.fr x hx (h2 _ e); omega
 ·rw [ht]; exact h.to x hx
theorem WA.mono {p : GPermitPlan} {d d' : List GEvent} {A : AO} (h : WA p d A) (hd : ∀ v ∈ d, v ∈ d') (hl : d.length ≤ d'.length) : WA p d' A :=
 ⟨h.st, h.fr, h.ex, h.tm, fun x hx => (h.to x hx).imp id fun ⟨v, hv, e⟩ => ⟨v, hd v hv, e⟩, h.pp, h.tt, by have := h.pl; omega⟩
theorem WA.snoc {p : GPermitPlan} {d : List GEvent} {A : AO} {x : GEvent} (h : WA p d A) : WA p (d ++ [x]) A := h.mono (fun v hv => List.mem_append_left _ hv) (by simp)
end Go.KB
namespace Go.KB
set_option linter.unusedVariables false
theorem mhas_mset {α β : Type} [DecidableEq α] (x k : α) (y : β) : ∀ m : List (α × β), mhas (mset m x y) k = (decide (k = x) || mhas m k)
 | [] => by simp [mhas, mset]
 | q :: r => by
  unfold mset
  by_cases h : x = q.1
  ·rw [dT h, cond_true]; unfold mhas; rw [← h]; cases decide (k = x) <;> simp
  ·rw [dF h, cond_false]; unfold mhas; rw [mhas_mset x k y r]
   cases decide (k = q.1) <;> cases decide (k = x) <;> rfl
structure RSt (p : GPermitPlan) (es : Str → Gpermit_entry) (st : List (Str × Gpermit_entry)) : Prop where
 get : ∀ s, hasP p s = true → mget (⟨0, [], 0⟩ : Gpermit_entry) st s = es s
 has : ∀ s, mhas st s = hasP p s
theorem RSt.set {p : GPermitPlan} {es : Str → Gpermit_entry} {st : List (Str × Gpermit_entry)} (h : RSt p es st) {n : Str} (hn : hasP p n = true) (e : Gpermit_entry) : RSt p (fun s => bif decide (s = n) then e else es s) (mset st n e) := by
 refine ⟨fun s hs => ?_, fun s => ?_⟩
 ·rw [mget_mset]
  by_cases he : s = n
  ·rw [if_pos he, dT he]; rfl
  ·rw [if_neg he, dF he]; exact h.get s hs
 ·rw [mhas_mset, h.has]
  by_cases he : s = n
  ·rw [dT he, he, hn]; rfl
  ·rw [dF he]; rfl
theorem RSt.congr {p : GPermitPlan} {es es' : Str → Gpermit_entry} {st : List (Str × Gpermit_entry)} (h : RSt p es st) (he : ∀ s, hasP p s = true → es s = es' s) : RSt p es' st := ⟨fun s hs => by rw [h.get s hs, he s hs], h.has⟩
structure RelB (p : GPermitPlan) (A : AO) (g : Gpermit_Office) (air : List (Str × Gpermit_test)) : Prop where
 plan : g.plan = p
 now : g.now = A.now
 hair : ∀ s, mhas air s = (A.ts s).isSome
 airg : ∀ s t, A.ts s = some t → mget (⟨0, 0, 0⟩ : Gpermit_test) air s = t
structure RelA (p : GPermitPlan) (A : AO) (g : Gpermit_Office) (st : List (Str × Gpermit_entry)) (air : List (Str × Gpermit_test)) (pe : List (Str × Str)) : Prop where
 b : RelB p A g air
 st : RSt p A.es st
 pe : pe.Perm A.pp
 done : g.done = A.done
structure BdA (A : AO) : Prop where
 tm : 0 ≤ A.now ∧ A.now ≤ 1000000
 st : ∀ s, 0 ≤ stA A s ∧ stA A s ≤ 6
 tt : ∀ s t, A.ts s = some t → 0 ≤ t.at_ ∧ t.at_ ≤ 1000000
 pl : A.pp.length < 1000000
section
variable {N : Nat} {p : GPermitPlan} {A : AO} {g : Gpermit_Office} {st : List (Str × Gpermit_entry)} {air : List (Str × Gpermit_test)} {pe : List (Str × Str)} (hp : SmP p) (hN : 1000000 ≤ N) (h : RelB p A g air) (b : BdA A)
include hp hN h b
end
theorem hasP_at {p : GPermitPlan} {i : Nat} (hi : i < p.Permits.length) : hasP p p.Permits[i].Name = true := hasP_iff.2 ⟨_, List.getElem_mem hi, rfl⟩
end Go.KB
namespace Go.KB
set_option linter.unusedVariables false
theorem IndexE_eq {N : Nat} {l : List GExclusion} {f : GExclusion → Option Bool} {g : GExclusion → Bool} (hf : ∀ y, f y = some (g y)) (hl : l.length < 1000000) (hN : 1000000 ≤ N) : f_slices_IndexFunclapi_Exclusion_api_Exclusion N l f = some (ixI g l) := by
 unfold f_slices_IndexFunclapi_Exclusion_api_Exclusion
 refine loop_find (fun i hi => ?_) ?_ (by omega)
 ·unfold f_slices_IndexFunclapi_Exclusion_api_Exclusion_L1
  rw [cmp_lss, dT (by omega), cond_true, idx_nat hi, bS, hf, bS, w64s (by omega)]
 ·unfold f_slices_IndexFunclapi_Exclusion_api_Exclusion_L1
  rw [cmp_lss, dF (by omega), cond_false]
theorem ixI_ge {α : Type} {g : α → Bool} {l : List α} : cmpI .geq (ixI g l) 0 = l.any g := by
 have := ixI_lt (g := g) (l := l)
 rw [cmp_geq]
 cases h2 : l.any g with
 | true => rw [h2] at this; simp at this; rw [dT (by omega)]
 | false => rw [h2] at this; simp at this; rw [dF (by omega)]
theorem conflict_eq {N : Nat} {p : GPermitPlan} {x y : GPermit} (hp : SmP p) (hN : 1000000 ≤ N) : f_permit_conflict N p x y = some (exclQ p x y) := by
 have hx := hp.x
 unfold f_permit_conflict exclQ
 rw [cmpS_eql, near_eq hp hN]
 cases decide (x.Name = y.Name) with
 | true => rfl
 | false =>
  rw [cond_false, cond_false, bS]
  unfold f_slices_ContainsFunclapi_Exclusion_api_Exclusion
  rw [IndexE_eq (g := fun e => exE e (nearQ p x.Space y.Space) x.Kind y.Kind) (fun e => by unfold f_permit_conflict_1 exE; simp only [cmp_leq, cmp_eql]) (by omega) hN, bS, ixI_ge]; rfl
end Go.KB
