/- Variables with a field that is a row of one's own. Equality of structs; cuts with a capacity; deletion from a row. No condition. -/
import Derived.Test.YtblfmjackdhajaaKZc
namespace Go.KB
variable {P : Program} {o : Oper} {N : List (Nat × jJm)} {α β γ : Type}
section
variable {r : Rep α} {q : Rep β} {off : Nat} {get : α → List β} {set : α → List β → α}
variable {l : Lens r (Rep.slice q) off get set} {hz : r.zc[off]? = some nilV}
def fElV (sv : Value) (off : Nat) : jJm := ⟨none, fun _ _ v => ∃ b len cap, sv = .slice (some ⟨b, 0, none⟩) len cap ∧ v = .pointer (some ⟨b, off, none⟩), fun _ x => x⟩
end
section
variable {r : Rep α} {q : Rep β} {off : Nat} {get : α → List β} {set : α → List β → α} {l : Lens r (Rep.slice q) off get set} {hz : r.zc[off]? = some nilV}
def jSj (q : jXe) : jXe := fun v e => ∃ x y z, v = .tuple #[x, y, z] ∧ q x e
section
variable {κ : Type} {B : Base} {h0 : H} {Γ : Ctx} {Λ : Own} {F : κ → Option Ent} {n : Nat} {a : Act} {w : World} {T E : TypeId} {x : α} {ts : List jXm} {sv : Value} {ys : List β}
end
end
end Go.KB
namespace Go.KB
variable {P : Program} {o : Oper} {N : List (Nat × jJm)} {α β γ : Type}
def jHw (P : Program) (d : Nat) (T : TypeId) (r : Rep α) (f : α → α → Bool) : Prop := ∀ h v u x y w, r.val h v x → r.val h u y → (Op.equalIn (d + 1) T v u).run P w = .ok (f x y) w
theorem jHw.int {d : Nat} {T : TypeId} {k k' : IntKind} (hT : P.underlying T = some (.int k')) : jHw P d T (Rep.int k) (fun x y => x == y) := by
 intro h v u x y w hv hu
 rw [jVq.1 hv, jVq.1 hu]
 exact run_equalIn_int w d T k k' x y hT
theorem jHw.bool {d : Nat} {T : TypeId} (hT : P.underlying T = some .bool) : jHw P d T Rep.bool (fun x y => x == y) := by
 intro h v u x y w hv hu
 rw [jX0.1 hv, jX0.1 hu]
 exact run_equalIn_bool' w d T x y hT
theorem jHw.str {d : Nat} {T : TypeId} (hT : P.underlying T = some .string) : jHw P d T Rep.str (fun x y => x == y) := by
 intro h v u x y w hv hu
 rw [jUu.1 hv, jUu.1 hu, run_equalIn_string w d T _ _ hT, ByteArray.toList_eq, ByteArray.toList_eq]
def nameB (P : Program) (T : TypeId) (i : Nat) : Bool :=
 match P.underlying T with
 | some (.struct fs) => match fs[i]? with
  | some g => g.name != "_"
  | none => false
 | _ => false
def jV6 (P : Program) (T : TypeId) (d : Nat) (r : Rep α) (i : Nat) (f : α → α → Bool) : Prop := ∀ h cs ds x y w, r.rel h cs x → r.rel h ds y → (Op.eqFields (d + 1) cs.toArray ds.toArray ((P.fieldsOf T).toList.drop i)).run P w = .ok (f x y) w
theorem jV6.nil {T : TypeId} {d n : Nat} {r : Rep α} (hn : Nat.beq (P.fieldsOf T).size n = true) : jV6 P T d r n (fun _ _ => true) := by
 intro h cs ds x y w _ _
 have : (P.fieldsOf T).toList.drop n = [] := by rw [List.drop_eq_nil_iff]; simp [← jWf.1 hn]
 rw [this]
 simp [Op.eqFields]
theorem jV6.cons {T T' : TypeId} {d i off : Nat} {r : Rep α} {s : Rep β} {get : α → β} {set : α → β → α} {g : β → β → Bool} {f : α → α → Bool} (l : Lens r s off get set) (hf : jZk P T i = some (T', off)) (hm : nameB P T i = true) (t : jYc P T' s) (e : jHw P d T' s g)
  (k : jV6 P T d r (i + 1) f) : jV6 P T d r i (fun x y => g (get x) (get y) && f x y) := by
 intro h cs ds x y w hx hy
 have hk := k h cs ds x y w hx hy
 unfold jZk at hf
 unfold nameB at hm
 unfold Program.fieldsOf at hk ⊢
 split at hf
 ·rename_i fs hT
  rw [hT] at hm hk ⊢
  simp only [] at hm hk ⊢
  split at hf
  ·rename_i fd hfd
   rw [hfd] at hm
   simp only [Option.some.injEq, Prod.mk.injEq, bne_iff_ne] at hf hm
   obtain ⟨rfl, rfl⟩ := hf
   have hlt := (Array.getElem?_eq_some_iff.1 hfd).1
   have hdr : fs.toList.drop i = fd :: fs.toList.drop (i + 1) := by
    rw [List.drop_eq_getElem_cons (by simpa using hlt)]
    congr 1
    have := (Array.getElem?_eq_some_iff.1 hfd).2
    simpa using this
   rw [hdr]
   obtain ⟨p, c, q, rfl, hp, hc, _⟩ := l h cs x hx
   obtain ⟨p', c', q', rfl, hp', hc', _⟩ := l h ds y hy
   have h1 := jL8 t (p := p) (r := q) hc w
   have h2 := jL8 t (p := p') (r := q') hc' w
   rw [hp] at h1; rw [hp'] at h2
   have h3 := e h _ _ _ _ w ⟨c, hc, rfl⟩ ⟨c', hc', rfl⟩
   simp only [Op.eqFields, if_pos hm, Sem.run_bind, h1, h2, Result.andThen_ok, h3]
   cases g (get x) (get y) with
   | true => simpa using hk
   | false => simp
  ·cases hf
 ·cases hf
theorem jHw.struct {T : TypeId} {d : Nat} {r : Rep α} {f : α → α → Bool} (hag : r.agg = true) (ht : P.underlying T = some (.struct (P.fieldsOf T))) (hp : P.stoodInHeld T = false) (k : jV6 P T d r 0 f) : jHw P (d + 1) T r f := by
 intro h v u x y w ⟨cs, hx, hv⟩ ⟨ds, hy, hu⟩
 rw [hv, hu, hag]
 have := k h cs ds x y w hx hy
 rw [List.drop_zero] at this
 show (Op.equalIn (d + 1 + 1) T (.agg cs.toArray) (.agg ds.toArray)).run P w = _
 rw [run_equalIn_agg w (d + 1) T _ _ ht hp, this]
theorem jDl {T T' : TypeId} {r : Rep α} {f : α → α → Bool} {x y : Operand} {a b : α} (e : jHw P 9999 T r f) (hag : r.agg = true) (hg : P.eqGuardType P.depth T = false) (ho : o.op = .binOp .eql T x y T') (hx : jQz N x (fV r a)) (hy : jQz N y (fV r b)) : jQ1 P o N [] (fV Rep.bool (f a b)) [] :=
 jQ1.ofRun fun h ac w _ n => by
  obtain ⟨cs, h1, hv⟩ := hx h ac n
  obtain ⟨ds, h2, hu⟩ := hy h ac n
  have h3 := e h _ _ _ _ w ⟨cs, h1, rfl⟩ ⟨ds, h2, rfl⟩
  rw [hag] at hv hu h3
  refine ⟨.bool (f a b), ?_, jX0.2 rfl⟩
  simp only [execOp, ho, hv, hu, pack, cond_true, run_eqGuard_agg w .eql T x y _ _ hg, run_eql_struct, Sem.run_bind, Result.andThen_ok, Sem.run_pure] at h3 ⊢
  rw [show (10000 : Nat) = 9999 + 1 from rfl, h3]; rfl
theorem jN0 {T T' : TypeId} {r : Rep α} {f : α → α → Bool} {x y : Operand} {a b : α} (e : jHw P 9999 T r f) (hag : r.agg = true) (hg : P.eqGuardType P.depth T = false) (ho : o.op = .binOp .neq T x y T') (hx : jQz N x (fV r a)) (hy : jQz N y (fV r b)) : jQ1 P o N [] (fV Rep.bool (!(f a b))) [] :=
 jQ1.ofRun fun h ac w _ n => by
  obtain ⟨cs, h1, hv⟩ := hx h ac n
  obtain ⟨ds, h2, hu⟩ := hy h ac n
  have h3 := e h _ _ _ _ w ⟨cs, h1, rfl⟩ ⟨ds, h2, rfl⟩
  rw [hag] at hv hu h3
  refine ⟨.bool (!(f a b)), ?_, jX0.2 rfl⟩
  simp only [execOp, ho, hv, hu, pack, cond_true, run_eqGuard_agg w .neq T x y _ _ hg, run_neq_struct, Sem.run_bind, Result.andThen_ok, Sem.run_pure] at h3 ⊢
  rw [show (10000 : Nat) = 9999 + 1 from rfl, h3]; rfl
end Go.KB
