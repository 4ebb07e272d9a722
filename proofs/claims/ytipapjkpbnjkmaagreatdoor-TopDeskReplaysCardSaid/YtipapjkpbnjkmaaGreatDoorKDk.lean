/- A cell that holds the pointer to an object, made and handed back with it; what stays if a call is not done. No condition. -/
import Derived.Test.YtipapjkpbnjkmaaGreatDoorKOff
namespace Go.KB
variable {P : Program} {o : Oper} {N : List (Nat × jJa)} {α β : Type}

/- a struct of one pointer -/
def Rep.dk : Rep Value := Rep.iso (Rep.prod Rep.rawP Rep.unit) (fun v => (v, ())) (fun p => p.1) (fun _ => rfl)
theorem Rep.dk_l : Lens Rep.dk Rep.rawP 0 (fun v => v) (fun _ v => v) := (Lens.iso _ _ _ _).comp (Lens.fst _ _)
section
variable {κ : Type} {B : Base} {h0 : H} {Γ : Ctx} {Λ : Own} {F : κ → Option Ent} {n : Nat} {a : Act} {w : World}
theorem St.freezeBoxT {h : H} {L : Nat → Option Ent} (hst : St B h (Sum.elim L F) w) (s : Nat) {b : Nat} {T : TypeId} {r : Rep α} {x : α} (hL : L s = some (jV9 b T r x [])) :
    ∃ h', Hle h h' ∧ St B h' (Sum.elim (fun k => if k = s then none else L k) F) w ∧ jHl r h' b 0 x := by
  have hst1 := hst.swap (e' := jGg b T r x) hL (fun c hc => ⟨c, by simpa [jV9, jGg, qQ1] using hc, rfl, Nat.le_refl _⟩) (by
    obtain ⟨⟨cs, h1, h2, _⟩, _⟩ := (hst.own (k := Sum.inl s) hL).2
    exact ⟨cs, h1, h2⟩)
  obtain ⟨h', hl, hst', hr⟩ := hst1.freezeBox s (b := b) (T := T) (r := r) (x := x) (by simp [set1])
  refine ⟨h', hl, ?_, hr⟩
  have e : (fun k => if k = s then none else set1 L s (jGg b T r x) k) = fun k => if k = s then none else L k := by
    funext k
    by_cases hk : k = s
    · simp [hk]
    · simp [hk, set1]
  rw [e] at hst'; exact hst'
/- the cell is not written any more -/
theorem At.deskFix {T : TypeId} {z svd : Value} (d k : Nat) (hAt : At B h0 Γ Λ F n a w) (hd : Γ d = fIs svd) (hk : Λ k = some (atV (jJ6 T Rep.dk z []) svd)) :
    At B h0 (fun j => bif Nat.beq d j then jQu Rep.rawP z else Γ j) (fun j => bif Nat.beq k j then none else Λ j) F n a w := by
  obtain ⟨h, L, hle, hst, hOw, hsat, hsz, hdf⟩ := hAt
  obtain ⟨e, hL, b, us, hv, hus, _, rfl⟩ := hOw k _ hk
  cases us with
  | cons => exact hus.elim
  | nil =>
    obtain ⟨h', hl, hst', hr⟩ := hst.freezeBoxT k hL
    refine ⟨h', _, hle.trans hl, hst', ?_, ?_, hsz, hdf⟩
    · intro j q hq
      cases hj : Nat.beq k j with
      | true => simp only [hj, cond_true] at hq; cases hq
      | false =>
        simp only [hj, cond_false] at hq
        have : j ≠ k := fun x => by rw [jWm.2 x.symm] at hj; cases hj
        simpa [this] using hOw j q hq
    · intro j
      cases hj : Nat.beq d j with
      | true =>
        simp only [hj, cond_true]
        rw [jWm] at hj; subst hj
        have hg := hsat d
        rw [hd] at hg
        have hg : a.gt d = svd := hg
        exact ⟨b, 0, by show a.gt d = _; rw [hg, hv], Rep.dk_l.ref hr⟩
      | false => simp only [hj, cond_false]; exact (Γ j).mono hl (hsat j)
/- nil as a row that is owned -/
theorem At.nilArr (E : TypeId) (q : Rep β) (s : Nat) (hAt : At B h0 Γ Λ F n a w) (hs : Γ s = qYq) : At B h0 Γ (fun k => bif Nat.beq s k then some (jW8 E q ([] : List β)) else Λ k) F n a w := by
  obtain ⟨h, L, hle, hst, hOw, hsat, hsz, hdf⟩ := hAt
  have hst' : St B h (Sum.elim (set1 L s jBp) F) w := by
    refine hst.step (Sum.inl s) (fun _ => False) (fun b hb => hb.elim) (Nat.le_refl _) rfl rfl rfl (fun _ _ _ => rfl) (Hle.refl h) (fun _ _ _ _ => rfl) ?_ jUn ?_
    · rintro b o' v (hb | hb) hv
      · exact hb.elim
      · rw [hst.fresh hb] at hv; cases hv
    · intro e' he; rw [jUt he]; exact ⟨fun c hc => (by cases hc), trivial⟩
  refine ⟨h, _, hle, hst', ?_, hsat, hsz, hdf⟩
  intro k Q hq
  cases hk : Nat.beq s k with
  | true =>
    simp only [hk, cond_true] at hq
    cases hq
    rw [jWm] at hk; subst hk
    have hv := hsat s
    rw [hs] at hv
    exact ⟨jBp, by simp [set1], .inl ⟨⟨none, hv⟩, rfl, rfl⟩⟩
  | false =>
    simp only [hk, cond_false] at hq
    obtain ⟨e, he, hqe⟩ := hOw k Q hq
    have h3 : k ≠ s := fun x => by rw [jWm.2 x.symm] at hk; cases hk
    exact ⟨e, by simp [set1, h3, he], hqe⟩
end
/- a call that is not done: what it would have changed -/
def UEq (K : List (Nat × jX3)) (d : Option Nat) : Upd → Prop
  | (s, some q) :: r => dstNe d s = true ∧ mkO K s = some q ∧ UEq K d r
  | (_, none) :: _ => False
  | [] => True
theorem qUa : ∀ {l : List (Nat × jX3)} {k : Nat} {q : jX3}, mkO l k = some q → (k, q) ∈ l := by
  intro l
  induction l with
  | nil => intro k q h; cases h
  | cons x r ih =>
    obtain ⟨k0, q0⟩ := x
    intro k q h
    simp only [mkO, lkO] at h ih
    cases hb : Nat.beq k0 k with
    | true => rw [hb] at h; cases h; rw [jWm] at hb; subst hb; simp
    | false => rw [hb] at h; exact List.mem_cons_of_mem _ (ih h)
theorem jB8.of {K : List (Nat × jX3)} {d : Option Nat} : ∀ {U : Upd}, UEq K d U → jB8 K U d := by
  intro U
  induction U with
  | nil => intro _; exact jB8.nil
  | cons x r ih =>
    obtain ⟨s, q⟩ := x
    cases q with
    | none => intro h; exact h.elim
    | some q =>
      rintro ⟨h1, h2, h3⟩ s' e he
      simp only [lkU] at he
      cases hb : Nat.beq s s' with
      | true =>
        rw [hb] at he; cases he
        rw [jWm] at hb; subst hb
        exact ⟨fun e => by unfold dstNe at h1; rw [e] at h1; simp [Nat.beq_refl] at h1, q, q, rfl, qUa h2, fun _ _ h => h⟩
      | false => rw [hb] at he; exact ih h3 s' e he
end Go.KB
