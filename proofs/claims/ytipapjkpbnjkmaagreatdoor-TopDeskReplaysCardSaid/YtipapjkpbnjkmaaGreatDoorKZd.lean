/- Variables with a field that is a row of one's own. Equality of structs; cuts with a capacity; deletion from a row. No condition. -/
import Derived.Test.YtipapjkpbnjkmaaGreatDoorKZc
namespace Go.KB
variable {P : Program} {o : Oper} {N : List (Nat × jJa)} {α β γ : Type}
section
variable {r : Rep α} {q : Rep β} {off : Nat} {get : α → List β} {set : α → List β → α}
variable {l : Lens r (Rep.slice q) off get set} {hz : r.zc[off]? = some nilV}
def rowG (sv : Value) (E : TypeId) (r : Rep α) (xs : List α) : jX3 := fun _ e => jW8 E r xs sv e
def fElV (sv : Value) (off : Nat) : jJa := ⟨none, fun _ _ v => ∃ b len cap, sv = .slice (some ⟨b, 0, none⟩) len cap ∧ v = .pointer (some ⟨b, off, none⟩), fun _ x => x⟩
end
def JEnt (e1 e2 : Ent) : Ent where
 claims := e1.claims ++ e2.claims
 ok := fun h m => e1.ok h m ∧ e2.ok h m
 mono := fun hl x => ⟨e1.mono hl x.1, e2.mono hl x.2⟩
 frame := fun hm x => ⟨e1.frame (fun c hc => hm c (List.mem_append_left _ hc)) x.1, e2.frame (fun c hc => hm c (List.mem_append_right _ hc)) x.2⟩
section
variable {r : Rep α} {q : Rep β} {off : Nat} {get : α → List β} {set : α → List β → α} {l : Lens r (Rep.slice q) off get set} {hz : r.zc[off]? = some nilV}
def jE (T : TypeId) (R : Rep (α × Value)) (x : α) (ts : List jJ4) (E : TypeId) (q : Rep β) (ys : List β) : jX3 := fun v e => ∃ sv e1 e2, jJ6 T R (x, sv) ts v e1 ∧ jW8 E q ys sv e2 ∧ qQt e1.claims e2.claims ∧ e = JEnt e1 e2
def qQm (q : jX3) : jX3 := fun v e => ∃ x y z, v = .tuple #[x, y, z] ∧ q x e
section
variable {κ : Type} {B : Base} {h0 : H} {Γ : Ctx} {Λ : Own} {F : κ → Option Ent} {n : Nat} {a : Act} {w : World} {T E : TypeId} {x : α} {ts : List jJ4} {sv : Value} {ys : List β}
theorem At.jRj {R : Rep (α × Value)} (s g : Nat) (hsg : Nat.beq s g = false) (hAt : At B h0 Γ Λ F n a w) (hs : Λ s = some (jE T R x ts E q ys)) :
  ∃ sv, At B h0 Γ (fun k => bif Nat.beq s k then some (jJ6 T R (x, sv) ts) else bif Nat.beq g k then some (rowG sv E q ys) else Λ k) F n a w := by
 obtain ⟨h, L, hle, hst, hOw, hsat, hsz, hdf⟩ := hAt
 obtain ⟨e, hL, sv, e1, e2, h1, h2, hd, rfl⟩ := hOw s _ hs
 have hne : s ≠ g := fun x => by rw [jWm.2 x] at hsg; cases hsg
 obtain ⟨_, k1, k2⟩ := hst.own (k := Sum.inl s) hL
 have hst' := hst.split2 (d := g) (e1 := e1) (e2 := e2) hL hne (fun c hc => List.mem_append_left _ hc) (fun c hc => List.mem_append_right _ hc) hd k1 k2
 refine ⟨sv, h, _, hle, hst', ?_, hsat, hsz, hdf⟩
 intro k Q hq
 cases hk : Nat.beq s k with
 | true =>
  simp only [hk, cond_true] at hq
  cases hq
  rw [jWm] at hk; subst hk
  exact ⟨e1, by simp [set1, hne], h1⟩
 | false =>
  simp only [hk, cond_false] at hq
  cases hk2 : Nat.beq g k with
  | true =>
   simp only [hk2, cond_true] at hq
   cases hq
   rw [jWm] at hk2; subst hk2
   exact ⟨e2, by simp [set1], h2⟩
  | false =>
   simp only [hk2, cond_false] at hq
   obtain ⟨e, he, hqe⟩ := hOw k Q hq
   have h3 : k ≠ s := fun x => by rw [jWm.2 x.symm] at hk; cases hk
   have h4 : k ≠ g := fun x => by rw [jWm.2 x.symm] at hk2; cases hk2
   exact ⟨e, by simp [set1, h3, h4, he], hqe⟩
end
end
end Go.KB
namespace Go.KB
variable {P : Program} {o : Oper} {N : List (Nat × jJa)} {α β γ : Type}
def jN4 (P : Program) (d : Nat) (T : TypeId) (r : Rep α) (f : α → α → Bool) : Prop := ∀ h v u x y w, r.val h v x → r.val h u y → (Op.equalIn (d + 1) T v u).run P w = .ok (f x y) w
theorem jN4.int {d : Nat} {T : TypeId} {k k' : IntKind} (hT : P.underlying T = some (.int k')) : jN4 P d T (Rep.int k) (fun x y => x == y) := by
 intro h v u x y w hv hu
 rw [jXk.1 hv, jXk.1 hu]
 exact run_equalIn_int w d T k k' x y hT
theorem jN4.bool {d : Nat} {T : TypeId} (hT : P.underlying T = some .bool) : jN4 P d T Rep.bool (fun x y => x == y) := by
 intro h v u x y w hv hu
 rw [jX2.1 hv, jX2.1 hu]
 exact run_equalIn_bool' w d T x y hT
theorem jN4.str {d : Nat} {T : TypeId} (hT : P.underlying T = some .string) : jN4 P d T Rep.str (fun x y => x == y) := by
 intro h v u x y w hv hu
 rw [jVz.1 hv, jVz.1 hu, run_equalIn_string w d T _ _ hT, ByteArray.toList_eq, ByteArray.toList_eq]
def nameB (P : Program) (T : TypeId) (i : Nat) : Bool :=
 match P.underlying T with
 | some (.struct fs) => match fs[i]? with
  | some g => g.name != "_"
  | none => false
 | _ => false
def jG8 (P : Program) (T : TypeId) (d : Nat) (r : Rep α) (i : Nat) (f : α → α → Bool) : Prop := ∀ h cs ds x y w, r.rel h cs x → r.rel h ds y → (Op.eqFields (d + 1) cs.toArray ds.toArray ((P.fieldsOf T).toList.drop i)).run P w = .ok (f x y) w
theorem jG8.nil {T : TypeId} {d n : Nat} {r : Rep α} (hn : Nat.beq (P.fieldsOf T).size n = true) : jG8 P T d r n (fun _ _ => true) := by
 intro h cs ds x y w _ _
 have : (P.fieldsOf T).toList.drop n = [] := by rw [List.drop_eq_nil_iff]; simp [← jWm.1 hn]
 rw [this]
 simp [Op.eqFields]
theorem jG8.cons {T T' : TypeId} {d i off : Nat} {r : Rep α} {s : Rep β} {get : α → β} {set : α → β → α} {g : β → β → Bool} {f : α → α → Bool} (l : Lens r s off get set) (hf : jKq P T i = some (T', off)) (hm : nameB P T i = true) (t : jKu P T' s) (e : jN4 P d T' s g)
  (k : jG8 P T d r (i + 1) f) : jG8 P T d r i (fun x y => g (get x) (get y) && f x y) := by
 intro h cs ds x y w hx hy
 have hk := k h cs ds x y w hx hy
 unfold jKq at hf
 unfold nameB at hm
 unfold Program.fieldsOf at hk ⊢
 split at hf
 ·rename_i fs hT
  rw [hT] at hm hk ⊢
  simp only [] at hm hk ⊢
  split at hf
  ·rename_i fd hfd
   rw [hfd] at hm
   simp only [Option.some.injEq, Prod.mk.injEq, bne_iff_ne] at hf hm
   obtain ⟨rfl, rfl⟩ := hf
   have hlt := (Array.getElem?_eq_some_iff.1 hfd).1
   have hdr : fs.toList.drop i = fd :: fs.toList.drop (i + 1) := by
    rw [List.drop_eq_getElem_cons (by simpa using hlt)]
    congr 1
    have := (Array.getElem?_eq_some_iff.1 hfd).2
    simpa using this
   rw [hdr]
   obtain ⟨p, c, q, rfl, hp, hc, _⟩ := l h cs x hx
   obtain ⟨p', c', q', rfl, hp', hc', _⟩ := l h ds y hy
   have h1 := jR9 t (p := p) (r := q) hc w
   have h2 := jR9 t (p := p') (r := q') hc' w
   rw [hp] at h1; rw [hp'] at h2
   have h3 := e h _ _ _ _ w ⟨c, hc, rfl⟩ ⟨c', hc', rfl⟩
   simp only [Op.eqFields, if_pos hm, Sem.run_bind, h1, h2, Result.andThen_ok, h3]
   cases g (get x) (get y) with
   | true => simpa using hk
   | false => simp
  ·cases hf
 ·cases hf
theorem jN4.struct {T : TypeId} {d : Nat} {r : Rep α} {f : α → α → Bool} (hag : r.agg = true) (ht : P.underlying T = some (.struct (P.fieldsOf T))) (hp : P.stoodInHeld T = false) (k : jG8 P T d r 0 f) : jN4 P (d + 1) T r f := by
 intro h v u x y w ⟨cs, hx, hv⟩ ⟨ds, hy, hu⟩
 rw [hv, hu, hag]
 have := k h cs ds x y w hx hy
 rw [List.drop_zero] at this
 show (Op.equalIn (d + 1 + 1) T (.agg cs.toArray) (.agg ds.toArray)).run P w = _
 rw [run_equalIn_agg w (d + 1) T _ _ ht hp, this]
theorem qVv {T T' : TypeId} {r : Rep α} {f : α → α → Bool} {x y : Operand} {a b : α} (e : jN4 P 9999 T r f) (hag : r.agg = true) (hg : P.eqGuardType P.depth T = false) (ho : o.op = .binOp .eql T x y T') (hx : jJ9 N x (fV r a)) (hy : jJ9 N y (fV r b)) : jXg P o N [] (fV Rep.bool (f a b)) [] :=
 jXg.ofRun fun h ac w _ n => by
  obtain ⟨cs, h1, hv⟩ := hx h ac n
  obtain ⟨ds, h2, hu⟩ := hy h ac n
  have h3 := e h _ _ _ _ w ⟨cs, h1, rfl⟩ ⟨ds, h2, rfl⟩
  rw [hag] at hv hu h3
  refine ⟨.bool (f a b), ?_, jX2.2 rfl⟩
  simp only [execOp, ho, hv, hu, pack, cond_true, run_eqGuard_agg w .eql T x y _ _ hg, run_eql_struct, Sem.run_bind, Result.andThen_ok, Sem.run_pure] at h3 ⊢
  rw [show (10000 : Nat) = 9999 + 1 from rfl, h3]; rfl
end Go.KB
