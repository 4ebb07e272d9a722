/- Variables with a field that is a row of one's own. Equality of structs; cuts with a capacity; deletion from a row. No condition. -/
import Derived.Test.YtcoggcadlinmdaaGreatDoorKZc
namespace Go.KB
variable {P : Program} {o : Oper} {N : List (Nat × jJd)} {α β γ : Type}
section
variable {r : Rep α} {q : Rep β} {off : Nat} {get : α → List β} {set : α → List β → α}
variable {l : Lens r (Rep.slice q) off get set} {hz : r.zc[off]? = some nilV}
theorem jAm {T E : TypeId} {r : Rep α} {d : Nat} {n : Nat} {parts : Array (Nat × Operand)} (hn0 : n = 0) (hp : parts = #[]) (t : jYk P E r) (hT : P.underlying T = some (.slice E)) (hd : o.dst = some d) (ho : o.op = .buildSlice T n parts) : jXh P o N [] jJd.triv [(d, some (jQ5 E r []))] := by
 subst hn0; subst hp
 intro κ B F L h a w hst hn _ hdn next Q hnext _
 obtain ⟨cs, hr, hl, hrun⟩ := run_buildSlice (N := N) (n := 0) (parts := #[]) (ys := ([] : List α)) w t hT (by simp) (jX4 (place := fun i => some (i * r.sz, r.sz)) (r := r.arr 0)) hn
 unfold Oper.wpK
 have : (execOp a.eval o).run P w = .ok (.value (.slice (some ⟨w.heap.size, 0, none⟩) 0 0)) (w.alloc (.cells cs.toArray E)) := by
  simp only [execOp, ho, Sem.run_bind, hrun, Result.andThen_ok, Sem.run_pure]
 rw [this]
 refine hnext _ h _ (set1 L d (jV0 w.heap.size E r ([] : List α) 0)) (Hle.refl h) trivial (hst.own_new _ d _ (by intro c hc; simp [jV0] at hc; rw [hc]) ⟨cs, [], by rw [List.append_nil]; exact jHw _ _, hr, by rw [List.append_nil, hr.len, hl]⟩) ?_
 rw [hd]
 exact jVg (.inr ⟨_, 0, jQc (hdn d hd), Nat.le_refl _, rfl⟩)
end
section
variable {r : Rep α} {q : Rep β} {off : Nat} {get : α → List β} {set : α → List β → α} {l : Lens r (Rep.slice q) off get set} {hz : r.zc[off]? = some nilV}
section
variable {κ : Type} {B : Base} {h0 : H} {Γ : Ctx} {Λ : Own} {F : κ → Option Ent} {n : Nat} {a : Act} {w : World} {T E : TypeId} {x : α} {ts : List jQb} {sv : Value} {ys : List β}
end
end
end Go.KB
namespace Go.KB
variable {P : Program} {o : Oper} {N : List (Nat × jJd)} {α β γ : Type}
def jAy (P : Program) (d : Nat) (T : TypeId) (r : Rep α) (f : α → α → Bool) : Prop := ∀ h v u x y w, r.val h v x → r.val h u y → (Op.equalIn (d + 1) T v u).run P w = .ok (f x y) w
theorem jAy.int {d : Nat} {T : TypeId} {k k' : IntKind} (hT : P.underlying T = some (.int k')) : jAy P d T (Rep.int k) (fun x y => x == y) := by
 intro h v u x y w hv hu
 rw [jQ0.1 hv, jQ0.1 hu]
 exact run_equalIn_int w d T k k' x y hT
theorem jAy.bool {d : Nat} {T : TypeId} (hT : P.underlying T = some .bool) : jAy P d T Rep.bool (fun x y => x == y) := by
 intro h v u x y w hv hu
 rw [jZz.1 hv, jZz.1 hu]
 exact run_equalIn_bool' w d T x y hT
theorem jAy.str {d : Nat} {T : TypeId} (hT : P.underlying T = some .string) : jAy P d T Rep.str (fun x y => x == y) := by
 intro h v u x y w hv hu
 rw [jWg.1 hv, jWg.1 hu, run_equalIn_string w d T _ _ hT, ByteArray.toList_eq, ByteArray.toList_eq]
def nameB (P : Program) (T : TypeId) (i : Nat) : Bool :=
 match P.underlying T with
 | some (.struct fs) => match fs[i]? with
  | some g => g.name != "_"
  | none => false
 | _ => false
def jFa (P : Program) (T : TypeId) (d : Nat) (r : Rep α) (i : Nat) (f : α → α → Bool) : Prop := ∀ h cs ds x y w, r.rel h cs x → r.rel h ds y → (Op.eqFields (d + 1) cs.toArray ds.toArray ((P.fieldsOf T).toList.drop i)).run P w = .ok (f x y) w
theorem jFa.nil {T : TypeId} {d n : Nat} {r : Rep α} (hn : Nat.beq (P.fieldsOf T).size n = true) : jFa P T d r n (fun _ _ => true) := by
 intro h cs ds x y w _ _
 have : (P.fieldsOf T).toList.drop n = [] := by rw [List.drop_eq_nil_iff]; simp [← jWp.1 hn]
 rw [this]
 simp [Op.eqFields]
theorem jFa.cons {T T' : TypeId} {d i off : Nat} {r : Rep α} {s : Rep β} {get : α → β} {set : α → β → α} {g : β → β → Bool} {f : α → α → Bool} (l : Lens r s off get set) (hf : jG1 P T i = some (T', off)) (hm : nameB P T i = true) (t : jYk P T' s) (e : jAy P d T' s g)
  (k : jFa P T d r (i + 1) f) : jFa P T d r i (fun x y => g (get x) (get y) && f x y) := by
 intro h cs ds x y w hx hy
 have hk := k h cs ds x y w hx hy
 unfold jG1 at hf
 unfold nameB at hm
 unfold Program.fieldsOf at hk ⊢
 split at hf
 ·rename_i fs hT
  rw [hT] at hm hk ⊢
  simp only [] at hm hk ⊢
  split at hf
  ·rename_i fd hfd
   rw [hfd] at hm
   simp only [Option.some.injEq, Prod.mk.injEq, bne_iff_ne] at hf hm
   obtain ⟨rfl, rfl⟩ := hf
   have hlt := (Array.getElem?_eq_some_iff.1 hfd).1
   have hdr : fs.toList.drop i = fd :: fs.toList.drop (i + 1) := by
    rw [List.drop_eq_getElem_cons (by simpa using hlt)]
    congr 1
    have := (Array.getElem?_eq_some_iff.1 hfd).2
    simpa using this
   rw [hdr]
   obtain ⟨p, c, q, rfl, hp, hc, _⟩ := l h cs x hx
   obtain ⟨p', c', q', rfl, hp', hc', _⟩ := l h ds y hy
   have h1 := jCa t (p := p) (r := q) hc w
   have h2 := jCa t (p := p') (r := q') hc' w
   rw [hp] at h1; rw [hp'] at h2
   have h3 := e h _ _ _ _ w ⟨c, hc, rfl⟩ ⟨c', hc', rfl⟩
   simp only [Op.eqFields, if_pos hm, Sem.run_bind, h1, h2, Result.andThen_ok, h3]
   cases g (get x) (get y) with
   | true => simpa using hk
   | false => simp
  ·cases hf
 ·cases hf
theorem jAy.struct {T : TypeId} {d : Nat} {r : Rep α} {f : α → α → Bool} (hag : r.agg = true) (ht : P.underlying T = some (.struct (P.fieldsOf T))) (hp : P.stoodInHeld T = false) (k : jFa P T d r 0 f) : jAy P (d + 1) T r f := by
 intro h v u x y w ⟨cs, hx, hv⟩ ⟨ds, hy, hu⟩
 rw [hv, hu, hag]
 have := k h cs ds x y w hx hy
 rw [List.drop_zero] at this
 show (Op.equalIn (d + 1 + 1) T (.agg cs.toArray) (.agg ds.toArray)).run P w = _
 rw [run_equalIn_agg w (d + 1) T _ _ ht hp, this]
theorem qWz {T T' : TypeId} {r : Rep α} {f : α → α → Bool} {x y : Operand} {a b : α} (e : jAy P 9999 T r f) (hag : r.agg = true) (hg : P.eqGuardType P.depth T = false) (ho : o.op = .binOp .neq T x y T') (hx : jQf N x (fV r a)) (hy : jQf N y (fV r b)) : jXh P o N [] (fV Rep.bool (!(f a b))) [] :=
 jXh.ofRun fun h ac w _ n => by
  obtain ⟨cs, h1, hv⟩ := hx h ac n
  obtain ⟨ds, h2, hu⟩ := hy h ac n
  have h3 := e h _ _ _ _ w ⟨cs, h1, rfl⟩ ⟨ds, h2, rfl⟩
  rw [hag] at hv hu h3
  refine ⟨.bool (!(f a b)), ?_, jZz.2 rfl⟩
  simp only [execOp, ho, hv, hu, pack, cond_true, run_eqGuard_agg w .neq T x y _ _ hg, run_neq_struct, Sem.run_bind, Result.andThen_ok, Sem.run_pure] at h3 ⊢
  rw [show (10000 : Nat) = 9999 + 1 from rfl, h3]; rfl
end Go.KB
