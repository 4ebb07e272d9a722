/- Facts on the slots of a frame, operations, regions in any order, loops, calls. No condition. -/
import Derived.Test.YtbedbjphickpaaaKCore
namespace Go.KB

def _root_.Go.Act.gt (a : Act) (s : Nat) : Value := a.tmps.getD s undef
theorem gt_put_same {a : Act} {d : Nat} {v : Value} (hd : d < a.tmps.size) : (a.put (some d) v).gt d = v := by
  simp [Act.gt, Act.put, hd]
theorem gt_put_ne {a : Act} {d s : Nat} {v : Value} (h : s ≠ d) : (a.put (some d) v).gt s = a.gt s := by
  simp [Act.gt, Act.put, Array.getElem?_setIfInBounds_ne (Ne.symm h)]
theorem gt_put_dst {a : Act} {d : Option Nat} {s : Nat} {v : Value} (h : d ≠ some s) : (a.put d v).gt s = a.gt s := by
  cases d with
  | none => rfl
  | some d => exact gt_put_ne (fun e => h (by rw [e]))
theorem size_put (a : Act) (d : Option Nat) (v : Value) : (a.put d v).tmps.size = a.tmps.size := by cases d <;> simp [Act.put]
theorem defers_put (a : Act) (d : Option Nat) (v : Value) : (a.put d v).defers = a.defers := by cases d <;> rfl

structure Fact where
  dep : Option Nat
  p : H → Value → Value → Prop
  mono : ∀ {h h' d v}, Hle h h' → p h d v → p h' d v
def Fact.triv : Fact := ⟨none, fun _ _ _ => True, fun _ _ => trivial⟩
def Fact.dv (f : Fact) (a : Act) : Value := match f.dep with | none => undef | some d => a.gt d
def Fact.at (f : Fact) (h : H) (a : Act) (s : Nat) : Prop := f.p h (f.dv a) (a.gt s)
/- a fact that is only known under a condition -/
def Fact.when (c : Prop) (f : Fact) : Fact := ⟨f.dep, fun h d v => (c → f.p h d v) ∧ (¬c → v = undef), fun hl x => ⟨fun hc => f.mono hl (x.1 hc), x.2⟩⟩

abbrev OwnP := Value → Ent → Prop
abbrev Ctx := Nat → Fact
abbrev Own := Nat → Option OwnP
def Sat (Γ : Ctx) (h : H) (a : Act) : Prop := ∀ s, (Γ s).at h a s
def OwnOk (Λ : Own) (L : Nat → Option Ent) (a : Act) : Prop := ∀ s q, Λ s = some q → ∃ e, L s = some e ∧ q (a.gt s) e

def At {κ : Type} (B : Base) (h0 : H) (Γ : Ctx) (Λ : Own) (F : κ → Option Ent) (n : Nat) (a : Act) (w : World) : Prop :=
  ∃ h L, Hle h0 h ∧ St B h (Sum.elim L F) w ∧ OwnOk Λ L a ∧ Sat Γ h a ∧ a.tmps.size = n ∧ a.defers = []

def lkF : List (Nat × Fact) → Nat → Fact
  | [], _ => Fact.triv
  | (k, f) :: r, s => bif Nat.beq k s then f else lkF r s
def lkO : List (Nat × (OwnP)) → Nat → Option (OwnP)
  | [], _ => none
  | (k, f) :: r, s => bif Nat.beq k s then some f else lkO r s
def mkG (l : List (Nat × Fact)) : Ctx := lkF l
def mkO (l : List (Nat × (OwnP))) : Own := lkO l

def NAll : List (Nat × Fact) → H → Act → Prop
  | [], _, _ => True
  | q :: l, h, a => q.2.at h a q.1 ∧ NAll l h a
def KAll : List (Nat × (OwnP)) → (Nat → Option Ent) → Act → Prop
  | [], _, _ => True
  | q :: l, L, a => (∃ e, L q.1 = some e ∧ q.2 (a.gt q.1) e) ∧ KAll l L a

abbrev Upd := List (Nat × Option (OwnP))
def lkU : Upd → Nat → Option (Option (OwnP))
  | [], _ => none
  | (k, e) :: r, s => bif Nat.beq k s then some e else lkU r s
def full (U : Upd) (dst : Option Nat) : Upd := U ++ (match dst with | some d => [(d, none)] | none => [])
def UpdOk (L L' : Nat → Option Ent) (U : Upd) (a : Act) : Prop := ∀ s,
  match lkU U s with
  | some (some q) => ∃ e, L' s = some e ∧ q (a.gt s) e
  | some none => True
  | none => L' s = L s

/- what an operation does, whatever else is known -/
def OpOk (P : Program) (o : Oper) (N : List (Nat × Fact)) (K : List (Nat × (OwnP))) (f : Fact) (U : Upd) : Prop :=
  ∀ (κ : Type) (B : Base) (F : κ → Option Ent) (L : Nat → Option Ent) (h : H) (a : Act) (w : World),
    St B h (Sum.elim L F) w → NAll N h a → KAll K L a → (∀ d, o.dst = some d → d < a.tmps.size) →
    ∀ (next : Act → World → Prop) (Q : Exit → Act → World → Prop),
      (∀ v h' w' L', Hle h h' → f.p h' (f.dv a) v → St B h' (Sum.elim L' F) w' → UpdOk L L' (full U o.dst) (a.put o.dst v) → next (a.put o.dst v) w') → o.wp P a w next Q

theorem OpOk.imp {P : Program} {o : Oper} {N N' : List (Nat × Fact)} {K : List (Nat × (OwnP))} {f : Fact} {U : Upd} (hN : ∀ h a, NAll N' h a → NAll N h a)
    (x : OpOk P o N K f U) : OpOk P o N' K f U := fun _ B F L h a w s n k d => x _ B F L h a w s (hN h a n) k d
theorem OpOk.out {P : Program} {o : Oper} {N : List (Nat × Fact)} {K : List (Nat × (OwnP))} {f f' : Fact} {U : Upd} (hd : f.dep = f'.dep) (hf : ∀ h d v, f.p h d v → f'.p h d v)
    (x : OpOk P o N K f U) : OpOk P o N K f' U := fun _ B F L h a w s n k d next Q hn =>
  x _ B F L h a w s n k d next Q (fun v h' w' L' hl hp => hn v h' w' L' hl (by have := hf _ _ _ hp; simpa [Fact.dv, hd] using this))

/- the specification of one operation of a region: its new fact, what it does to what is owned, the slots whose facts it uses and those that it uses as an owner (each with the operation that made it so, or none: from before) -/
structure OS where
  f : Fact
  U : Upd := []
  rd : List (Nat × Option Nat) := []
  kd : List (Nat × Option Nat) := []

def nth (l : List OS) : Nat → OS
  | 0 => match l with | [] => ⟨Fact.triv, [], [], []⟩ | x :: _ => x
  | n + 1 => match l with | [] => ⟨Fact.triv, [], [], []⟩ | _ :: r => nth r n
def nthO (l : List Oper) : Nat → Option Oper
  | 0 => match l with | [] => none | x :: _ => some x
  | n + 1 => match l with | [] => none | _ :: r => nthO r n
theorem nthO_eq (l : List Oper) : ∀ i, nthO l i = l[i]? := by
  induction l with
  | nil => intro i; cases i <;> rfl
  | cons x r ih => intro i; cases i with
    | zero => rfl
    | succ n => simpa [nthO] using ih n

def srcF (all : List OS) (Γ : Ctx) (q : Nat × Option Nat) : Nat × Fact := (q.1, match q.2 with | some j => (nth all j).f | none => Γ q.1)
def srcK (all : List OS) (Λ : Own) (q : Nat × Option Nat) : Nat × (OwnP) :=
  (q.1, match (match q.2 with | some j => (lkU (nth all j).U q.1).getD none | none => Λ q.1) with | some e => e | none => fun _ _ => False)

def Obl (P : Program) (all : List OS) (ops : List Oper) (Γ : Ctx) (Λ : Own) (o : Oper) (s : OS) : Prop :=
  match o.guard with
  | none => OpOk P o (s.rd.map (srcF all Γ)) (s.kd.map (srcK all Λ)) s.f s.U
  | some (j, want) => ∃ (C : Prop) (d : Nat), ((nthO ops j).bind (·.dst)) = some d ∧ s.rd.head? = some (d, some j) ∧ (C → ∀ h dv v, (nth all j).f.p h dv v → v = .bool want) ∧ (¬C → ∀ h dv v, (nth all j).f.p h dv v → v ≠ .bool want) ∧
      (C → OpOk P o (s.rd.map (srcF all Γ)) (s.kd.map (srcK all Λ)) s.f s.U) ∧ (¬C → s.U = [] ∧ o.dst.isSome = true ∧ ∀ h dv, s.f.p h dv undef)

def Obls (P : Program) (all : List OS) (ops : List Oper) (Γ : Ctx) (Λ : Own) : List Oper → List OS → Prop
  | o :: os, s :: ss => Obl P all ops Γ Λ o s ∧ Obls P all ops Γ Λ os ss
  | [], [] => True
  | _, _ => False

/- the order -/
def always : Ground → Bool
  | .data | .chain | .guard | .phase => true
  | _ => false
def preds (o : Oper) : List Nat := o.after.toList.filterMap (fun e => bif always e.ground then some e.on else none)
def has : List Nat → Nat → Bool
  | [], _ => false
  | x :: r, n => Nat.beq x n || has r n
theorem nbeq {a b : Nat} : Nat.beq a b = true ↔ a = b := by rw [Nat.beq_eq]
theorem has_iff {l : List Nat} {n : Nat} : has l n = true ↔ n ∈ l := by
  induction l with
  | nil => simp [has]
  | cons x r ih =>
    rw [has, Bool.or_eq_true, ih, List.mem_cons, Nat.beq_eq]
    exact ⟨fun h => h.imp Eq.symm id, fun h => h.imp Eq.symm id⟩

/- the numbers that are checked: for each operation its place before (all of them, in the text's order, where the region does not draw), its slot, and what it touches -/
structure Num where
  pre : Nat → Bool
  dst : Option Nat
  dep : Option Nat
  sets : Nat → Bool
  owns : Nat → Bool
  rd : List (Nat × Option Nat)
  kd : List (Nat × Option Nat)

def setsU (U : Upd) (s : Nat) : Bool := match lkU U s with | some _ => true | none => false
def ownsU (U : Upd) (s : Nat) : Bool := match lkU U s with | some (some _) => true | _ => false
def keysU : Upd → List Nat
  | [] => []
  | (k, _) :: r => k :: keysU r
def numOf (draw : Bool) (i : Nat) (o : Oper) (s : OS) : Num :=
  ⟨(bif draw then has (preds o) else fun j => Nat.blt j i), o.dst, s.f.dep, setsU (full s.U o.dst), ownsU s.U, s.rd, s.kd⟩
def nums (draw : Bool) : Nat → List Oper → List OS → List Num
  | i, o :: os, s :: ss => numOf draw i o s :: nums draw (i + 1) os ss
  | _, _, _ => []
def nthN (l : List Num) : Nat → Option Num
  | 0 => match l with | [] => none | x :: _ => some x
  | n + 1 => match l with | [] => none | _ :: r => nthN r n
def allI (p : Nat → Num → Bool) : Nat → List Num → Bool
  | _, [] => true
  | i, x :: r => p i x && allI p (i + 1) r
def isO (a : Option Nat) (n : Nat) : Bool := match a with | some m => Nat.beq m n | none => false
theorem isO_iff {a : Option Nat} {n : Nat} : isO a n = true ↔ a = some n := by
  cases a with
  | none => simp [isO]
  | some m => simp [isO, Nat.beq_eq]
def sub : List Nat → List (Nat × Option (OwnP)) → List Nat
  | l, [] => l
  | l, (k, _) :: r => k :: sub l r

def anyI (p : Nat → Num → Bool) : Nat → List Num → Bool
  | _, [] => false
  | i, x :: r => p i x || anyI p (i + 1) r
/- before it, or before one that is before it -/
def pre2 (l : List Num) (y : Num) (i : Nat) : Bool := y.pre i || anyI (fun j z => y.pre j && z.pre i) 0 l
def chkOne (Γ : Ctx) (Λ : Own) (l : List Num) (i : Nat) (x : Num) : Bool :=
  (x.rd.all fun q => match q.2 with
    | some j => x.pre j && (match nthN l j with | some y => isO y.dst q.1 && (match y.dep with | none => true | some e => allI (fun m z => (!(isO z.dst e)) || pre2 l z i || Nat.beq m i) 0 l) | none => false)
    | none => allI (fun _ y => (!(isO y.dst q.1)) || pre2 l y i) 0 l && (match (Γ q.1).dep with | none => true | some d => allI (fun _ y => !(isO y.dst d)) 0 l))
  && (match x.dst with | none => true | some d => allI (fun k y => Nat.beq k i || !(isO y.dst d)) 0 l)
  && (x.kd.all fun q => match q.2 with
    | some j => x.pre j && (match nthN l j with | some y => y.owns q.1 | none => false) && allI (fun m y => (!(y.sets q.1)) || pre2 l y i || Nat.ble m j || Nat.beq m i) 0 l
    | none => (Λ q.1).isSome && allI (fun m y => (!(y.sets q.1)) || pre2 l y i || Nat.beq m i) 0 l)
def chkSet (l : List Num) (i : Nat) (k : List Nat) : Bool :=
  k.all fun s => allI (fun m y => (!(y.sets s)) || Nat.ble m i || pre2 l y i) 0 l
def chkSets (l : List Num) : Nat → List Oper → List OS → Bool
  | i, o :: os, s :: ss => chkSet l i (keysU (full s.U o.dst)) && chkSets l (i + 1) os ss
  | _, _, _ => true
def chk (Γ : Ctx) (Λ : Own) (draw : Bool) (os : List Oper) (ss : List OS) : Bool :=
  allI (chkOne Γ Λ (nums draw 0 os ss)) 0 (nums draw 0 os ss) && chkSets (nums draw 0 os ss) 0 os ss

theorem allI_spec {p : Nat → Num → Bool} : ∀ (l : List Num) (i : Nat), allI p i l = true → ∀ k x, nthN l k = some x → p (i + k) x = true := by
  intro l
  induction l with
  | nil => intro i _ k x hx; cases k <;> cases hx
  | cons y r ih =>
    intro i hall k x hx
    simp only [allI, Bool.and_eq_true] at hall
    cases k with
    | zero => cases hx; exact hall.1
    | succ k => have := ih (i + 1) hall.2 k x hx; rw [show i + 1 + k = i + (k + 1) from by omega] at this; exact this
theorem allI_zero {p : Nat → Num → Bool} {l : List Num} (h : allI p 0 l = true) {k : Nat} {x : Num} (hx : nthN l k = some x) : p k x = true := by
  have := allI_spec l 0 h k x hx; rwa [Nat.zero_add] at this

theorem anyI_spec {p : Nat → Num → Bool} : ∀ (l : List Num) (i : Nat), anyI p i l = true → ∃ k x, nthN l k = some x ∧ p (i + k) x = true := by
  intro l
  induction l with
  | nil => intro i h; cases h
  | cons y r ih =>
    intro i h
    simp only [anyI, Bool.or_eq_true] at h
    rcases h with h | h
    · exact ⟨0, y, rfl, h⟩
    · obtain ⟨k, x, hx, hp⟩ := ih (i + 1) h
      exact ⟨k + 1, x, hx, by rwa [show i + (k + 1) = i + 1 + k from by omega]⟩
theorem nums_nth (draw : Bool) : ∀ (os : List Oper) (ss : List OS) (i : Nat), os.length = ss.length → ∀ k o, nthO os k = some o →
    nthN (nums draw i os ss) k = some (numOf draw (i + k) o (nth ss k)) := by
  intro os
  induction os with
  | nil => intro ss i _ k o ho; cases k <;> cases ho
  | cons x r ih =>
    intro ss i hlen k o ho
    cases ss with
    | nil => simp at hlen
    | cons s ss =>
      cases k with
      | zero => cases ho; rfl
      | succ k =>
        have := ih ss (i + 1) (by simpa using hlen) k o ho
        simp only [nums, nthN, nth]
        rw [this, show i + 1 + k = i + (k + 1) from by omega]
theorem nums_nth' (draw : Bool) : ∀ (os : List Oper) (ss : List OS) (i : Nat) (k : Nat) (x : Num), nthN (nums draw i os ss) k = some x → ∃ o, nthO os k = some o := by
  intro os
  induction os with
  | nil => intro ss i k x h; cases ss <;> simp [nums] at h <;> cases k <;> cases h
  | cons o r ih =>
    intro ss i k x h
    cases ss with
    | nil => simp [nums] at h; cases k <;> cases h
    | cons s ss =>
      cases k with
      | zero => exact ⟨o, rfl⟩
      | succ k => exact ih ss (i + 1) k x h
theorem chkSets_spec {l : List Num} : ∀ (os : List Oper) (ss : List OS) (i : Nat), os.length = ss.length → chkSets l i os ss = true → ∀ k o, nthO os k = some o →
    chkSet l (i + k) (keysU (full (nth ss k).U o.dst)) = true := by
  intro os
  induction os with
  | nil => intro ss i _ _ k o ho; cases k <;> cases ho
  | cons x r ih =>
    intro ss i hlen hc k o ho
    cases ss with
    | nil => simp at hlen
    | cons s ss =>
      simp only [chkSets, Bool.and_eq_true] at hc
      cases k with
      | zero => cases ho; exact hc.1
      | succ k => have := ih ss (i + 1) (by simpa using hlen) hc.2 k o ho; rwa [show i + 1 + k = i + (k + 1) from by omega] at this
theorem Obls_spec {P : Program} {all : List OS} {ops : List Oper} {Γ : Ctx} {Λ : Own} : ∀ (os : List Oper) (ss : List OS), Obls P all ops Γ Λ os ss →
    os.length = ss.length ∧ ∀ k o, nthO os k = some o → Obl P all ops Γ Λ o (nth ss k) := by
  intro os
  induction os with
  | nil => intro ss h; cases ss with
    | nil => exact ⟨rfl, fun k o ho => by cases k <;> cases ho⟩
    | cons _ _ => exact h.elim
  | cons x r ih =>
    intro ss h
    cases ss with
    | nil => exact h.elim
    | cons s ss =>
      obtain ⟨h1, h2⟩ := h
      obtain ⟨h3, h4⟩ := ih ss h2
      refine ⟨by simp [h3], fun k o ho => ?_⟩
      cases k with
      | zero => cases ho; exact h1
      | succ k => exact h4 k o ho
theorem lkU_full {U : Upd} {dst : Option Nat} {s : Nat} {e : Option (OwnP)} (h : lkU U s = some e) : lkU (full U dst) s = some e := by
  unfold full
  induction U with
  | nil => cases h
  | cons q r ih =>
    obtain ⟨k, f⟩ := q
    simp only [List.cons_append, lkU] at h ⊢
    cases hk : Nat.beq k s with
    | true => rw [hk] at h; exact h
    | false => rw [hk] at h; exact ih h
theorem lkU_full_dst {U : Upd} {d : Nat} : ∃ e, lkU (full U (some d)) d = some e := by
  unfold full
  induction U with
  | nil => exact ⟨none, by simp [lkU]⟩
  | cons q r ih =>
    obtain ⟨k, f⟩ := q
    simp only [List.cons_append, lkU]
    cases hk : Nat.beq k d with
    | true => exact ⟨f, rfl⟩
    | false => exact ih
theorem mem_keysU {U : Upd} {s : Nat} (h : setsU U s = true) : s ∈ keysU U := by
  induction U with
  | nil => simp [setsU, lkU] at h
  | cons q r ih =>
    obtain ⟨k, f⟩ := q
    simp only [setsU, lkU] at h
    cases hk : Nat.beq k s with
    | true => rw [Nat.beq_eq] at hk; simp [keysU, hk]
    | false => rw [hk] at h; exact List.mem_cons_of_mem _ (ih h)

/- what holds when the operations of S have been done -/
def J {κ : Type} (B : Base) (h0 : H) (Γ : Ctx) (Λ : Own) (F : κ → Option Ent) (n : Nat) (ops : List Oper) (sp : List OS) (S : Nat → Bool) (a : Act) (w : World) : Prop :=
  ∃ h Λ' L, Hle h0 h ∧ St B h (Sum.elim L F) w ∧ OwnOk Λ' L a ∧ a.tmps.size = n ∧ a.defers = [] ∧
    (∀ s, (∀ k o, nthO ops k = some o → S k = true → o.dst ≠ some s) → ((Γ s).dep = none ∨ ∃ d, (Γ s).dep = some d ∧ ∀ k o, nthO ops k = some o → o.dst ≠ some d) → (Γ s).at h a s) ∧
    (∀ k o d, nthO ops k = some o → S k = true → o.dst = some d → (∀ e m o', (nth sp k).f.dep = some e → nthO ops m = some o' → S m = true → o'.dst ≠ some e) → (nth sp k).f.at h a d) ∧
    (∀ s j o e, nthO ops j = some o → S j = true → lkU (full (nth sp j).U o.dst) s = some e →
      (∀ m o', nthO ops m = some o' → S m = true → setsU (full (nth sp m).U o'.dst) s = true → m ≤ j) → Λ' s = e) ∧
    (∀ s, (∀ m o', nthO ops m = some o' → S m = true → setsU (full (nth sp m).U o'.dst) s = false) → Λ' s = Λ s)

theorem at_put {f : Fact} {h : H} {a : Act} {dst : Option Nat} {v : Value} {s : Nat} (x : f.at h a s) (hs : dst ≠ some s) (hd : ∀ d, f.dep = some d → dst ≠ some d) : f.at h (a.put dst v) s := by
  unfold Fact.at Fact.dv at *
  rw [gt_put_dst hs]
  cases hdep : f.dep with
  | none => rw [hdep] at x; exact x
  | some d => rw [hdep] at x; simp only at x ⊢; rw [gt_put_dst (hd d hdep)]; exact x

section step
variable {κ : Type} {P : Program} {B : Base} {h0 : H} {Γ : Ctx} {Λ : Own} {F : κ → Option Ent} {n : Nat} {ops : Array Oper} {sp : List OS} {draw : Bool} {S : Nat → Bool} {a : Act} {w : World}

theorem step_op (hobl : Obls P sp ops.toList Γ Λ ops.toList sp) (hchk : chk Γ Λ draw ops.toList sp = true) (hslots : ∀ o ∈ ops.toList, ∀ d, o.dst = some d → d < n) {i : Nat} {o : Oper} (hi : nthO ops.toList i = some o)
    (hS0 : S i = false) (hS1 : ∀ j, (numOf draw i o (nth sp i)).pre j = true → S j = true)
    (hS2 : ∀ m o', nthO ops.toList m = some o' → (numOf draw m o' (nth sp m)).pre i = true → S m = false)
    (hS3 : ∀ m o', nthO ops.toList m = some o' → S m = true → ∀ j, (numOf draw m o' (nth sp m)).pre j = true → S j = true)
    (hJ : J B h0 Γ Λ F n ops.toList sp S a w) {Q : Exit → Act → World → Prop} :
    wpOp P ops Q i (J B h0 Γ Λ F n ops.toList sp (fun k => bif Nat.beq k i then true else S k)) a w := by
  obtain ⟨hlen, hob⟩ := Obls_spec _ _ hobl
  simp only [chk, Bool.and_eq_true] at hchk
  obtain ⟨hc1, hc2⟩ := hchk
  have hnum := nums_nth draw ops.toList sp 0 hlen
  simp only [Nat.zero_add] at hnum
  have hS2' : ∀ m o', nthO ops.toList m = some o' → pre2 (nums draw 0 ops.toList sp) (numOf draw m o' (nth sp m)) i = true → S m = false := by
    intro m o' hm hp
    simp only [pre2, Bool.or_eq_true] at hp
    rcases hp with hp | hp
    · exact hS2 m o' hm hp
    · obtain ⟨j, z, hz, hp⟩ := anyI_spec _ 0 hp
      simp only [Nat.zero_add, Bool.and_eq_true] at hp
      obtain ⟨oj, hoj⟩ := nums_nth' draw _ _ 0 j z hz
      rw [hnum j oj hoj] at hz; cases hz
      have h1 := hS2 j oj hoj hp.2
      cases hSm : S m with
      | false => rfl
      | true => rw [hS3 m o' hm hSm j hp.1] at h1; cases h1
  have hone := allI_zero hc1 (hnum i o hi)
  have hset := chkSets_spec _ _ 0 hlen hc2 i o hi
  simp only [Nat.zero_add] at hset
  simp only [chkOne, Bool.and_eq_true] at hone
  obtain ⟨⟨hrd, hdst⟩, hkd⟩ := hone
  obtain ⟨h, Λ', L, hle, hst, hOw, hsz, hdf, hbase, hops, hown, hown0⟩ := hJ
  have hopI : ops[i]? = some o := by rw [← hi, nthO_eq]; simp
  have hSi : ∀ k, S k = true → k ≠ i := fun k hk e => by rw [e, hS0] at hk; cases hk
  -- its slot is its own
  have hd1 : ∀ d, o.dst = some d → ∀ k o', nthO ops.toList k = some o' → k ≠ i → o'.dst ≠ some d := by
    intro d hd k o' hk hne e
    have : (numOf draw i o (nth sp i)).dst = some d := hd
    rw [this] at hdst
    have := allI_zero hdst (hnum k o' hk)
    simp only [numOf, Bool.or_eq_true, Nat.beq_eq, Bool.not_eq_true'] at this
    rcases this with h1 | h1
    · exact hne h1
    · rw [e] at h1; simp [isO] at h1
  -- what it reads
  have hrd' : ∀ q ∈ (nth sp i).rd, (srcF sp Γ q).2.at h a (srcF sp Γ q).1 := by
    intro q hq
    have := List.all_eq_true.1 hrd q hq
    unfold srcF
    cases hq2 : q.2 with
    | some j =>
      rw [hq2] at this
      simp only [Bool.and_eq_true] at this
      obtain ⟨hp, hj⟩ := this
      cases hy : nthN (nums draw 0 ops.toList sp) j with
      | none => rw [hy] at hj; cases hj
      | some y =>
        obtain ⟨oj, hoj⟩ := nums_nth' draw _ _ 0 j y hy
        rw [hnum j oj hoj] at hy; cases hy
        rw [hnum j oj hoj] at hj
        simp only [Bool.and_eq_true] at hj
        refine hops j oj q.1 hoj (hS1 j hp) (isO_iff.1 hj.1) ?_
        intro e m o' hde hm hSm hdm
        have hj2 := hj.2
        rw [show (numOf draw j oj (nth sp j)).dep = some e from hde] at hj2
        have := allI_zero hj2 (hnum m o' hm)
        simp only [Bool.or_eq_true, Bool.not_eq_true', Nat.beq_eq] at this
        rcases this with (h1 | h1) | h1
        · rw [isO_iff.2 (show (numOf draw m o' (nth sp m)).dst = some e from hdm)] at h1; cases h1
        · rw [hS2' m o' hm h1] at hSm; cases hSm
        · exact hSi m hSm h1
    | none =>
      rw [hq2] at this
      simp only [Bool.and_eq_true] at this
      refine hbase q.1 ?_ ?_
      · intro k o' hk hSk e
        have := allI_zero this.1 (hnum k o' hk)
        simp only [Bool.or_eq_true, Bool.not_eq_true'] at this
        rcases this with h1 | h1
        · rw [isO_iff.2 (show (numOf draw k o' (nth sp k)).dst = some q.1 from e)] at h1; cases h1
        · rw [hS2' k o' hk h1] at hSk; cases hSk
      · cases hdep : (Γ q.1).dep with
        | none => exact .inl rfl
        | some d =>
          refine .inr ⟨d, rfl, fun k o' hk e => ?_⟩
          rw [hdep] at this
          have := allI_zero this.2 (hnum k o' hk)
          simp only [Bool.not_eq_true'] at this
          rw [isO_iff.2 (show (numOf draw k o' (nth sp k)).dst = some d from e)] at this; cases this
  have hN : NAll ((nth sp i).rd.map (srcF sp Γ)) h a := by
    clear hrd
    generalize (nth sp i).rd = l at hrd'
    induction l with
    | nil => trivial
    | cons q r ih => exact ⟨hrd' q (by simp), ih (fun q' hq' => hrd' q' (by simp [hq']))⟩
  -- what it uses as an owner
  have hkd' : ∀ q ∈ (nth sp i).kd, ∃ e, L (srcK sp Λ q).1 = some e ∧ (srcK sp Λ q).2 (a.gt (srcK sp Λ q).1) e := by
    intro q hq
    have := List.all_eq_true.1 hkd q hq
    unfold srcK
    cases hq2 : q.2 with
    | some j =>
      rw [hq2] at this
      simp only [Bool.and_eq_true] at this
      obtain ⟨⟨hp, hj⟩, hm⟩ := this
      cases hy : nthN (nums draw 0 ops.toList sp) j with
      | none => rw [hy] at hj; cases hj
      | some y =>
        obtain ⟨oj, hoj⟩ := nums_nth' draw _ _ 0 j y hy
        rw [hnum j oj hoj] at hj
        simp only [numOf, ownsU] at hj
        cases hl : lkU (nth sp j).U q.1 with
        | none => rw [hl] at hj; cases hj
        | some e =>
          cases e with
          | none => rw [hl] at hj; cases hj
          | some e =>
            have : Λ' q.1 = some e := by
              refine hown q.1 j oj (some e) hoj (hS1 j hp) (lkU_full hl) ?_
              intro m o' hm' hSm hs
              have := allI_zero hm (hnum m o' hm')
              simp only [Bool.or_eq_true, Bool.not_eq_true', Nat.beq_eq, Nat.ble_eq] at this
              rcases this with ((h1 | h1) | h1) | h1
              · rw [show (numOf draw m o' (nth sp m)).sets q.1 = setsU (full (nth sp m).U o'.dst) q.1 from rfl, hs] at h1; cases h1
              · rw [hS2' m o' hm' h1] at hSm; cases hSm
              · exact h1
              · exact absurd h1 (hSi m hSm)
            simpa [hl] using hOw q.1 e this
    | none =>
      rw [hq2] at this
      simp only [Bool.and_eq_true] at this
      obtain ⟨h1, hm⟩ := this
      have h2 : Λ' q.1 = Λ q.1 := by
        refine hown0 q.1 ?_
        intro m o' hm' hSm
        have := allI_zero hm (hnum m o' hm')
        simp only [Bool.or_eq_true, Bool.not_eq_true', Nat.beq_eq] at this
        rcases this with (h1 | h1) | h1
        · exact h1
        · rw [hS2' m o' hm' h1] at hSm; cases hSm
        · exact absurd h1 (hSi m hSm)
      cases hl : Λ q.1 with
      | none => rw [hl] at h1; cases h1
      | some e => simpa [hl] using hOw q.1 e (by rw [h2, hl])
  have hK : KAll ((nth sp i).kd.map (srcK sp Λ)) L a := by
    clear hkd
    generalize (nth sp i).kd = l at hkd'
    induction l with
    | nil => trivial
    | cons q r ih => exact ⟨hkd' q (by simp), ih (fun q' hq' => hkd' q' (by simp [hq']))⟩
  -- behind it
  have hafter : ∀ v h' w' L', Hle h h' → (nth sp i).f.p h' ((nth sp i).f.dv a) v → St B h' (Sum.elim L' F) w' → UpdOk L L' (full (nth sp i).U o.dst) (a.put o.dst v) →
      J B h0 Γ Λ F n ops.toList sp (fun k => bif Nat.beq k i then true else S k) (a.put o.dst v) w' := by
    intro v h' w' L' hl hf hst' hupd
    have hS' : ∀ k, (bif Nat.beq k i then true else S k) = true → k = i ∨ S k = true := by
      intro k hk
      cases hb : Nat.beq k i with
      | true => exact .inl (nbeq.1 hb)
      | false => rw [hb] at hk; exact .inr hk
    have hSk : ∀ k, S k = true → (bif Nat.beq k i then true else S k) = true := by
      intro k hk; rw [hk]; cases Nat.beq k i <;> rfl
    have hSii : (bif Nat.beq i i then true else S i) = true := by rw [nbeq.2 rfl]; rfl
    refine ⟨h', fun s => match lkU (full (nth sp i).U o.dst) s with | some e => e | none => Λ' s, L', hle.trans hl, hst', ?_, by rw [size_put]; exact hsz, by rw [defers_put]; exact hdf, ?_, ?_, ?_, ?_⟩
    · intro s q hq
      have hu := hupd s
      simp only [] at hq
      cases hlk : lkU (full (nth sp i).U o.dst) s with
      | some e =>
        rw [hlk] at hq hu
        simp only [] at hq
        subst hq
        exact hu
      | none =>
        rw [hlk] at hq hu
        simp only [] at hq hu
        rw [hu, gt_put_dst]
        · exact hOw s q hq
        · intro e
          obtain ⟨e', he'⟩ := lkU_full_dst (U := (nth sp i).U) (d := s)
          rw [e, he'] at hlk; cases hlk
    · intro s hs hdep
      have h1 : o.dst ≠ some s := hs i o hi hSii
      refine at_put ((Γ s).mono hl (hbase s (fun k o' hk hSk' => hs k o' hk (hSk k hSk')) hdep)) h1 ?_
      intro d hd
      rcases hdep with h2 | ⟨d', h2, h3⟩
      · rw [h2] at hd; cases hd
      · rw [h2] at hd; cases hd; exact h3 i o hi
    · intro k o' d hk hSk' hd hal
      rcases hS' k hSk' with rfl | hSk''
      · rw [hi] at hk; cases hk
        have hdn : d < a.tmps.size := by
          rw [hsz]; refine hslots o ?_ d hd
          rw [nthO_eq] at hi; exact List.mem_of_getElem? hi
        unfold Fact.at
        rw [hd, gt_put_same hdn]
        have : (nth sp k).f.dv (a.put (some d) v) = (nth sp k).f.dv a := by
          unfold Fact.dv
          cases hdep : (nth sp k).f.dep with
          | none => rfl
          | some d' =>
            simp only []
            refine gt_put_ne ?_
            intro e; subst e
            exact hal _ k o hdep hi hSii hd
        rw [this]; exact hf
      · have hne : k ≠ i := hSi k hSk''
        refine at_put ((nth sp k).f.mono hl (hops k o' d hk hSk'' hd (fun e m o2 he hm hSm => hal e m o2 he hm (hSk m hSm)))) ?_ ?_
        · intro e; exact hd1 d e k o' hk hne hd
        · intro d' hd' e
          exact hal d' i o hd' hi hSii e
    · intro s j o' e hj hSj hlk hmax
      simp only []
      rcases hS' j hSj with rfl | hSj'
      · rw [hi] at hj; cases hj; rw [hlk]
      · cases hli : lkU (full (nth sp i).U o.dst) s with
        | some e' =>
          exfalso
          have hsi : setsU (full (nth sp i).U o.dst) s = true := by simp [setsU, hli]
          have hij := hmax i o hi hSii hsi
          have := List.all_eq_true.1 hset s (mem_keysU hsi)
          have := allI_zero this (hnum j o' hj)
          simp only [Bool.or_eq_true, Bool.not_eq_true', Nat.ble_eq] at this
          rcases this with (h1 | h1) | h1
          · rw [show (numOf draw j o' (nth sp j)).sets s = setsU (full (nth sp j).U o'.dst) s from rfl] at h1
            simp [setsU, hlk] at h1
          · exact hSi j hSj' (by omega)
          · rw [hS2' j o' hj h1] at hSj'; cases hSj'
        | none =>
          exact hown s j o' e hj hSj' hlk (fun m o'' hm hSm hs => hmax m o'' hm (hSk m hSm) hs)
    · intro s hs
      simp only []
      have := hs i o hi hSii
      cases hli : lkU (full (nth sp i).U o.dst) s with
      | some e' => simp [setsU, hli] at this
      | none => exact hown0 s (fun m o' hm hSm => hs m o' hm (hSk m hSm))
  have hdn : ∀ d, o.dst = some d → d < a.tmps.size := fun d hd => by
    rw [hsz]; refine hslots o ?_ d hd
    rw [nthO_eq] at hi; exact List.mem_of_getElem? hi
  have hO := hob i o hi
  unfold wpOp
  rw [hopI]
  simp only []
  unfold Obl at hO
  cases hg : o.guard with
  | none =>
    rw [hg] at hO
    have : Region.wanted o (yielded ops a.tmps) = true := by simp [Region.wanted, hg]
    rw [this, if_pos rfl]
    exact .inl (hO _ B F _ h a w hst hN hK hdn _ Q (fun v h' w' L' hl hf hst' hu => hafter v h' w' L' hl hf hst' hu))
  | some g =>
    obtain ⟨j, want⟩ := g
    rw [hg] at hO
    simp only [] at hO
    obtain ⟨C, d, hjd, hhead, hbt, hbf, hyes, hno⟩ := hO
    have hmem : (d, some j) ∈ (nth sp i).rd := List.mem_of_mem_head? hhead
    have hfact := hrd' _ hmem
    simp only [srcF] at hfact
    have hjd' : (ops[j]?).bind (·.dst) = some d := by rw [nthO_eq] at hjd; simpa using hjd
    by_cases hw : C
    · have hv := hbt hw _ _ _ hfact
      have hdn' : a.tmps[d]? = some (.bool want) := by
        unfold Act.gt at hv
        cases hx : a.tmps[d]? with
        | none => rw [Array.getD_eq_getD_getElem?, hx] at hv; cases hv
        | some x => rw [Array.getD_eq_getD_getElem?, hx] at hv; exact congrArg some hv
      have : Region.wanted o (yielded ops a.tmps) = true := by
        unfold Region.wanted; rw [hg]; show (yielded ops a.tmps j == some want) = true
        unfold yielded; rw [hjd']; simp only [Option.bind_some, hdn']; exact beq_self_eq_true _
      rw [this, if_pos rfl]
      exact .inl (hyes hw _ B F _ h a w hst hN hK hdn _ Q (fun v h' w' L' hl hf hst' hu => hafter v h' w' L' hl hf hst' hu))
    · have hv := hbf hw _ _ _ hfact
      have : Region.wanted o (yielded ops a.tmps) = false := by
        unfold Region.wanted; rw [hg]; show (yielded ops a.tmps j == some want) = false
        rw [beq_eq_false_iff_ne]
        unfold yielded; rw [hjd']; simp only [Option.bind_some]
        intro e
        apply hv
        unfold Act.gt
        rw [Array.getD_eq_getD_getElem?]
        cases hx : a.tmps[d]? with
        | none => rw [hx] at e; cases e
        | some x => rw [hx] at e; cases x <;> simp at e; rw [e]; rfl
      rw [this, if_neg (by simp)]
      obtain ⟨hU, hds, hf⟩ := hno hw
      refine hafter undef h w L (Hle.refl h) (hf _ _) hst ?_
      intro s
      rw [hU]
      cases hlk : lkU (full ([] : Upd) o.dst) s with
      | none => rfl
      | some e =>
        have : e = none := by
          revert hlk; unfold full
          cases o.dst with
          | none => intro h; cases h
          | some d' => simp only [List.nil_append, lkU]; cases Nat.beq d' s <;> intro h <;> cases h; rfl
        subst this
        trivial

theorem J_congr {S' : Nat → Bool} {ol : List Oper} (hS : ∀ k o, nthO ol k = some o → S k = S' k) (hJ : J B h0 Γ Λ F n ol sp S a w) : J B h0 Γ Λ F n ol sp S' a w := by
  obtain ⟨h, Λ', L, hle, hst, hOw, hsz, hdf, h1, h2, h3, h4⟩ := hJ
  refine ⟨h, Λ', L, hle, hst, hOw, hsz, hdf, ?_, ?_, ?_, ?_⟩
  · exact fun s hs => h1 s (fun k o hk hS1 => hs k o hk (hS k o hk ▸ hS1))
  · exact fun k o d hk hS1 hd hal => h2 k o d hk ((hS k o hk).trans hS1) hd (fun e m o' he hm hSm => hal e m o' he hm (hS m o' hm ▸ hSm))
  · exact fun s j o e hj hS1 hl hm => h3 s j o e hj ((hS j o hj).trans hS1) hl (fun m o' hm' hS2 => hm m o' hm' (hS m o' hm' ▸ hS2))
  · exact fun s hs => h4 s (fun m o' hm' hS2 => hs m o' hm' (hS m o' hm' ▸ hS2))

theorem J_start (hAt : At B h0 Γ Λ F n a w) (ol : List Oper) (sp : List OS) : J B h0 Γ Λ F n ol sp (fun _ => false) a w := by
  obtain ⟨h, L, hle, hst, hOw, hsat, hsz, hdf⟩ := hAt
  exact ⟨h, Λ, L, hle, hst, hOw, hsz, hdf, fun s _ _ => hsat s, fun _ _ _ _ hS _ _ => (by cases hS), fun _ _ _ _ _ hS => (by cases hS), fun _ _ => rfl⟩

theorem J_drawn {ol : List Oper} (hJ : J B h0 Γ Λ F n ol sp S a w) (k : Nat) : J B h0 Γ Λ F n ol sp S a { w with drawn := k } := by
  obtain ⟨h, Λ', L, hle, hst, r⟩ := hJ
  exact ⟨h, Λ', L, hle, hst.drawn k, r⟩

/- behind the whole region: what is known, computed -/
def endG (Γ : Ctx) : List Oper → List OS → Ctx
  | o :: os, x :: ss, s => bif isO o.dst s then x.f else endG Γ os ss s
  | _, _, s => Γ s
def anyDst : List Oper → Nat → Bool
  | [], _ => false
  | o :: os, s => isO o.dst s || anyDst os s
def endGd (Γ : Ctx) (os : List Oper) (ss : List OS) : Ctx := fun s =>
  bif anyDst os s then (match (endG Γ os ss s).dep with | none => endG Γ os ss s | some d => bif anyDst os d then Fact.triv else endG Γ os ss s) else (match (Γ s).dep with | none => Γ s | some d => bif anyDst os d then Fact.triv else Γ s)
def endO (Λ : Own) : List Oper → List OS → Own
  | o :: os, x :: ss, s => (match endO' os ss s with | some e => e | none => match lkU (full x.U o.dst) s with | some e => e | none => Λ s)
  | _, _, s => Λ s
where endO' : List Oper → List OS → Nat → Option (Option (OwnP))
  | o :: os, x :: ss, s => (match endO' os ss s with | some e => some e | none => lkU (full x.U o.dst) s)
  | _, _, _ => none

theorem anyDst_iff {os : List Oper} {s : Nat} : anyDst os s = true ↔ ∃ k o, nthO os k = some o ∧ o.dst = some s := by
  induction os with
  | nil => constructor
           · intro h; cases h
           · rintro ⟨k, o, h, _⟩; cases k <;> cases h
  | cons x r ih =>
    simp only [anyDst, Bool.or_eq_true, isO_iff, ih]
    constructor
    · rintro (h | ⟨k, o, h1, h2⟩)
      · exact ⟨0, x, rfl, h⟩
      · exact ⟨k + 1, o, h1, h2⟩
    · rintro ⟨k, o, h1, h2⟩
      cases k with
      | zero => cases h1; exact .inl h2
      | succ k => exact .inr ⟨k, o, h1, h2⟩

theorem endG_spec {Γ : Ctx} {s : Nat} : ∀ (os : List Oper) (ss : List OS), os.length = ss.length → anyDst os s = true → ∃ k o, nthO os k = some o ∧ o.dst = some s ∧ endG Γ os ss s = (nth ss k).f := by
  intro os
  induction os with
  | nil => intro ss _ h; cases h
  | cons o r ih =>
    intro ss hlen h
    cases ss with
    | nil => simp at hlen
    | cons x ss =>
      cases hd : isO o.dst s with
      | true => exact ⟨0, o, rfl, isO_iff.1 hd, by simp [endG, hd, nth]⟩
      | false =>
        simp only [anyDst, hd, Bool.false_or] at h
        obtain ⟨k, o', h1, h2, h3⟩ := ih ss (by simpa using hlen) h
        exact ⟨k + 1, o', h1, h2, by simp only [endG, hd, cond_false, nth]; exact h3⟩

theorem endO'_spec {s : Nat} : ∀ (os : List Oper) (ss : List OS), os.length = ss.length →
    (∀ e, endO.endO' os ss s = some e → ∃ j o, nthO os j = some o ∧ lkU (full (nth ss j).U o.dst) s = some e ∧ ∀ m o', nthO os m = some o' → setsU (full (nth ss m).U o'.dst) s = true → m ≤ j) ∧
    (endO.endO' os ss s = none → ∀ m o', nthO os m = some o' → setsU (full (nth ss m).U o'.dst) s = false) := by
  intro os
  induction os with
  | nil => intro ss _; exact ⟨fun e h => (by cases ss <;> cases h), fun _ m o' h => (by cases m <;> cases h)⟩
  | cons o r ih =>
    intro ss hlen
    cases ss with
    | nil => simp at hlen
    | cons x ss =>
      obtain ⟨ih1, ih2⟩ := ih ss (by simpa using hlen)
      cases he : endO.endO' r ss s with
      | some e' =>
        obtain ⟨j, oj, h1, h2, h3⟩ := ih1 e' he
        constructor
        · intro e h
          simp only [endO.endO', he] at h; cases h
          refine ⟨j + 1, oj, h1, h2, fun m o' hm hs => ?_⟩
          cases m with
          | zero => omega
          | succ m => have := h3 m o' hm hs; omega
        · intro h; simp only [endO.endO', he] at h; cases h
      | none =>
        have hr := ih2 he
        constructor
        · intro e h
          simp only [endO.endO', he] at h
          refine ⟨0, o, rfl, h, fun m o' hm hs => ?_⟩
          cases m with
          | zero => omega
          | succ m => have := hr m o' hm; simp only [nth] at hs; rw [this] at hs; cases hs
        · intro h
          simp only [endO.endO', he] at h
          intro m o' hm
          cases m with
          | zero => cases hm; simp [nth, setsU, h]
          | succ m => exact hr m o' hm

theorem J_end (hlen : ops.toList.length = sp.length) (hJ : J B h0 Γ Λ F n ops.toList sp S a w) (hall : ∀ k o, nthO ops.toList k = some o → S k = true) :
    At B h0 (endGd Γ ops.toList sp) (endO Λ ops.toList sp) F n a w := by
  obtain ⟨h, Λ', L, hle, hst, hOw, hsz, hdf, h1, h2, h3, h4⟩ := hJ
  refine ⟨h, L, hle, hst, ?_, ?_, hsz, hdf⟩
  · have : Λ' = endO Λ ops.toList sp := by
      funext s
      obtain ⟨e1, e2⟩ := endO'_spec (s := s) ops.toList sp hlen
      have hdef : endO Λ ops.toList sp s = match endO.endO' ops.toList sp s with | some e => e | none => Λ s := by
        cases ho : ops.toList with
        | nil => cases hs : sp <;> rfl
        | cons o r => cases hs : sp with
          | nil => rw [ho, hs] at hlen; simp at hlen
          | cons x ss =>
            simp only [endO, endO.endO']
            cases endO.endO' r ss s with
            | some e => rfl
            | none => cases lkU (full x.U o.dst) s <;> rfl
      rw [hdef]
      cases he : endO.endO' ops.toList sp s with
      | some e =>
        obtain ⟨j, o, hj, hl, hm⟩ := e1 e he
        exact h3 s j o e hj (hall j o hj) hl (fun m o' hm' _ hs => hm m o' hm' hs)
      | none => exact h4 s (fun m o' hm' _ => e2 he m o' hm')
    rw [← this]; exact hOw
  · intro s
    unfold endGd
    cases ha : anyDst ops.toList s with
    | true =>
      obtain ⟨k, o, hk, hd, he⟩ := endG_spec (Γ := Γ) ops.toList sp hlen ha
      rw [cond_true, he]
      cases hdep : (nth sp k).f.dep with
      | none =>
        simp only []
        exact h2 k o s hk (hall k o hk) hd (fun e m o' h => by rw [hdep] at h; cases h)
      | some d =>
        simp only []
        cases hb : anyDst ops.toList d with
        | true => exact trivial
        | false =>
          refine h2 k o s hk (hall k o hk) hd (fun e m o' h hm _ hdm => ?_)
          rw [hdep] at h; cases h
          have := anyDst_iff.2 ⟨m, o', hm, hdm⟩; rw [hb] at this; cases this
    | false =>
      rw [cond_false]
      have hns : ∀ k o, nthO ops.toList k = some o → S k = true → o.dst ≠ some s := fun k o hk _ e => by
        have := anyDst_iff.2 ⟨k, o, hk, e⟩; rw [ha] at this; cases this
      cases hdep : (Γ s).dep with
      | none => exact h1 s hns (.inl hdep)
      | some d =>
        simp only []
        cases hb : anyDst ops.toList d with
        | true => exact trivial
        | false =>
          refine h1 s hns (.inr ⟨d, hdep, fun k o hk e => ?_⟩)
          have := anyDst_iff.2 ⟨k, o, hk, e⟩; rw [hb] at this; cases this

/- A region whose operations are carried out in the text's order. -/
theorem wp_reg {id : Nat} {Q : Exit → Act → World → Prop} (sp : List OS) (hAt : At B h0 Γ Λ F n a w) (hobl : Obls P sp ops.toList Γ Λ ops.toList sp)
    (hchk : chk Γ Λ false ops.toList sp = true) (hslots : ∀ o ∈ ops.toList, ∀ d, o.dst = some d → d < n)
    (hnext : ∀ a w, At B h0 (endGd Γ ops.toList sp) (endO Λ ops.toList sp) F n a w → Q .normal a w) : (Code.region id ops false).wp P Q a w := by
  have hlen := (Obls_spec _ _ hobl).1
  refine wp_region ?_
  have key : ∀ m k a w, k + m = ops.size → J B h0 Γ Λ F n ops.toList sp (fun j => Nat.blt j k) a w → wpOps P ops Q ((List.range' k m)) a w := by
    intro m
    induction m with
    | zero =>
      intro k a w hk hJ
      refine hnext a w (J_end hlen hJ ?_)
      intro j o hj
      have : j < ops.size := by rw [nthO_eq] at hj; have := (List.getElem?_eq_some_iff.1 hj).1; simpa using this
      rw [Nat.blt_eq]; omega
    | succ m ih =>
      intro k a w hk hJ
      rw [List.range'_succ, wpOps_cons]
      have hkl : k < ops.size := by omega
      have hi : nthO ops.toList k = some ops[k] := by rw [nthO_eq]; simp [hkl]
      refine wpOp_mono ?_ (step_op hobl hchk hslots hi ?_ ?_ ?_ ?_ hJ)
      · intro a w hJ'
        refine ih (k + 1) a w (by omega) (J_congr (fun j o _ => ?_) hJ')
        cases hb : Nat.beq j k with
        | true => rw [nbeq] at hb; subst hb; simp [Nat.blt_eq]
        | false =>
          have : j ≠ k := fun e => by rw [nbeq.2 e] at hb; cases hb
          simp only [cond_false]
          rw [Bool.eq_iff_iff, Nat.blt_eq, Nat.blt_eq]; omega
      · rw [Bool.eq_false_iff, Ne, Nat.blt_eq]; omega
      · intro j hj; simpa [numOf] using hj
      · intro j o' _ hj
        simp only [numOf, cond_false, Nat.blt_eq] at hj
        rw [Bool.eq_false_iff, Ne, Nat.blt_eq]; omega
      · intro m o' _ hm j hj
        simp only [numOf, cond_false, Nat.blt_eq] at hj hm ⊢
        omega
  have := key ops.size 0 a w (by omega) (J_congr (fun j o _ => by rw [eq_comm, Bool.eq_false_iff, Ne, Nat.blt_eq]; omega) (J_start hAt _ sp))
  rwa [← List.range_eq_range'] at this

/- some order fits: so no operation is left out -/
def posOf : List Nat → Nat → Nat
  | [], _ => 0
  | x :: r, i => bif Nat.beq x i then 0 else posOf r i + 1
def rankOk (md : Region.Mode) (rk : List Nat) : Nat → List Oper → Bool
  | _, [] => true
  | i, o :: os => o.after.toList.all (fun e => !(Region.binds md e) || Nat.blt (posOf rk e.on) (posOf rk i)) && rankOk md rk (i + 1) os
def inRange (m : Nat) : List Oper → Bool
  | [] => true
  | o :: os => o.after.toList.all (fun e => Nat.blt e.on m) && inRange m os
theorem rankOk_spec {md : Region.Mode} {rk : List Nat} : ∀ (os : List Oper) (i : Nat), rankOk md rk i os = true → ∀ k o, nthO os k = some o → ∀ e ∈ o.after, Region.binds md e = true → posOf rk e.on < posOf rk (i + k) := by
  intro os
  induction os with
  | nil => intro i _ k o h; cases k <;> cases h
  | cons x r ih =>
    intro i h k o hk e he hb
    simp only [rankOk, Bool.and_eq_true] at h
    cases k with
    | zero =>
      cases hk
      have := List.all_eq_true.1 h.1 e (Array.mem_toList_iff.2 he)
      simp only [hb, Bool.not_true, Bool.false_or, Nat.blt_eq] at this
      exact this
    | succ k => have := ih (i + 1) h.2 k o hk e he hb; rwa [show i + 1 + k = i + (k + 1) from by omega] at this
theorem inRange_spec {m : Nat} : ∀ (os : List Oper), inRange m os = true → ∀ k o, nthO os k = some o → ∀ e ∈ o.after, e.on < m := by
  intro os
  induction os with
  | nil => intro _ k o h; cases k <;> cases h
  | cons x r ih =>
    intro h k o hk e he
    simp only [inRange, Bool.and_eq_true] at h
    cases k with
    | zero =>
      cases hk
      have := List.all_eq_true.1 h.1 e (Array.mem_toList_iff.2 he)
      rwa [Nat.blt_eq] at this
    | succ k => exact ih h.2 k o hk e he

theorem binds_always (md : Region.Mode) {e : Edge} (h : always e.ground = true) : Region.binds md e = true := by
  unfold Region.binds
  cases hg : e.ground <;> rw [hg] at h <;> simp [always] at h ⊢

theorem wpAny_J {Q : Exit → Act → World → Prop} {md : Region.Mode} (sp : List OS) (hobl : Obls P sp ops.toList Γ Λ ops.toList sp)
    (hchk : chk Γ Λ true ops.toList sp = true) (hslots : ∀ o ∈ ops.toList, ∀ d, o.dst = some d → d < n) (rk : List Nat) (hrk : rankOk md rk 0 ops.toList = true) (hin : inRange ops.size ops.toList = true)
    (hnext : ∀ a w, At B h0 (endGd Γ ops.toList sp) (endO Λ ops.toList sp) F n a w → Q .normal a w) :
    ∀ (fuel : Nat) (listed : Array Bool) (a : Act) (w : World), listed.size = ops.size → (∀ l : List Nat, l.Nodup → (∀ i ∈ l, i < ops.size ∧ listed.getD i false = false) → l.length ≤ fuel) →
      (∀ i o, nthO ops.toList i = some o → listed.getD i false = true → ∀ e ∈ o.after, Region.binds md e = true → listed.getD e.on false = true) →
      J B h0 Γ Λ F n ops.toList sp (fun i => listed.getD i false) a w → wpAny P md ops Q fuel listed a w := by
  have hlen := (Obls_spec _ _ hobl).1
  have hnth : ∀ i, i < ops.size → ∃ o, nthO ops.toList i = some o ∧ ops[i]? = some o := fun i hi => ⟨ops[i], by rw [nthO_eq]; simp [hi], by simp [hi]⟩
  have hlt : ∀ i o, nthO ops.toList i = some o → i < ops.size := fun i o h => by rw [nthO_eq] at h; have := (List.getElem?_eq_some_iff.1 h).1; simpa using this
  -- if nothing is ready, all is done
  have hdone : ∀ (listed : Array Bool) a w, listed.size = ops.size → Region.ready md ops listed = [] → J B h0 Γ Λ F n ops.toList sp (fun i => listed.getD i false) a w → Q .normal a w := by
    intro listed a w hsz hr hJ
    refine hnext a w (J_end hlen hJ ?_)
    have main : ∀ p i o, posOf rk i = p → nthO ops.toList i = some o → listed.getD i false = true := by
      intro p
      induction p using Nat.strongRecOn with
      | _ p ih =>
        intro i o hp hi
        cases hl : listed.getD i false with
        | true => rfl
        | false =>
          exfalso
          have hmem : i ∈ Region.ready md ops listed := by
            rw [mem_ready]
            have hii := hlt i o hi
            refine ⟨?_, o, by rw [nthO_eq] at hi; simpa using hi, ?_⟩
            · have : i < listed.size := by omega
              simp only [Array.getD_eq_getD_getElem?, this, Array.getElem?_eq_getElem, Option.getD_some] at hl ⊢
              exact hl
            · intro e he hb
              obtain ⟨o', ho', _⟩ := hnth e.on (inRange_spec _ hin i o hi e he)
              have := rankOk_spec _ 0 hrk i o hi e he hb
              rw [Nat.zero_add] at this
              exact ih _ (hp ▸ this) e.on o' rfl ho'
          rw [hr] at hmem; cases hmem
    exact fun k o hk => main _ k o rfl hk
  intro fuel
  induction fuel with
  | zero =>
    intro listed a w hsz hcnt hcl hJ
    have hr : Region.ready md ops listed = [] := by
      cases hr : Region.ready md ops listed with
      | nil => rfl
      | cons x xs =>
        exfalso
        have hx : x ∈ Region.ready md ops listed := by rw [hr]; simp
        obtain ⟨h1, o, h2, _⟩ := mem_ready.1 hx
        have hxs : x < ops.size := (Array.getElem?_eq_some_iff.1 h2).1
        have := hcnt [x] (by simp) (by
          intro i hi; simp at hi; subst hi
          refine ⟨hxs, ?_⟩
          have : i < listed.size := by omega
          simp only [Array.getD_eq_getD_getElem?, this, Array.getElem?_eq_getElem, Option.getD_some] at h1 ⊢
          exact h1)
        simp at this
    exact ⟨hr, hdone listed a w hsz hr hJ⟩
  | succ fuel ih =>
    intro listed a w hsz hcnt hcl hJ
    refine ⟨fun hr => hdone listed a w hsz hr hJ, ?_⟩
    intro i hi
    obtain ⟨h1, o, h2, h3⟩ := mem_ready.1 hi
    have his : i < ops.size := (Array.getElem?_eq_some_iff.1 h2).1
    have hil : i < listed.size := by omega
    have hiO : nthO ops.toList i = some o := by rw [nthO_eq]; simpa using h2
    have hif : listed.getD i false = false := by
      simp only [Array.getD_eq_getD_getElem?, hil, Array.getElem?_eq_getElem, Option.getD_some] at h1 ⊢
      exact h1
    refine wpOp_mono ?_ (step_op hobl hchk hslots hiO hif ?_ ?_ ?_ hJ)
    · intro a' w' hJ'
      have hset : ∀ j, (listed.setIfInBounds i true).getD j false = bif Nat.beq j i then true else listed.getD j false := by
        intro j
        cases hb : Nat.beq j i with
        | true => rw [nbeq] at hb; subst hb; simp [hil]
        | false =>
          have : i ≠ j := fun e => by rw [nbeq.2 e.symm] at hb; cases hb
          rw [cond_false, getD_set_ne false this]
      refine ih _ a' w' (by simp [hsz]) ?_ ?_ (J_congr (fun j _ _ => (hset j).symm) hJ')
      · intro l hnd hl
        have hil' : i ∉ l := fun hm => by
          have := (hl i hm).2; rw [hset, nbeq.2 rfl] at this; cases this
        have := hcnt (i :: l) (List.nodup_cons.2 ⟨hil', hnd⟩) (by
          intro j hj
          rcases List.mem_cons.1 hj with rfl | hj
          · exact ⟨his, hif⟩
          · obtain ⟨h4, h5⟩ := hl j hj
            refine ⟨h4, ?_⟩
            rw [hset] at h5
            cases hb : Nat.beq j i with
            | true => rw [hb] at h5; cases h5
            | false => rw [hb] at h5; exact h5)
        simp only [List.length_cons] at this; omega
      · intro j oj hj hlj e he hb
        have hmono : ∀ m, listed.getD m false = true → (listed.setIfInBounds i true).getD m false = true := fun m hm => by rw [hset, hm]; cases Nat.beq m i <;> rfl
        rw [hset] at hlj
        cases hbj : Nat.beq j i with
        | true =>
          rw [nbeq] at hbj; subst hbj
          rw [hiO] at hj; cases hj
          exact hmono _ (h3 e he hb)
        | false => rw [hbj] at hlj; exact hmono _ (hcl j oj hj hlj e he hb)
    · intro j hj
      simp only [numOf, cond_true] at hj
      obtain ⟨e, he, hej⟩ := List.mem_filterMap.1 (has_iff.1 hj)
      cases hal : always e.ground with
      | false => rw [hal] at hej; cases hej
      | true =>
        rw [hal] at hej; simp only [cond_true, Option.some.injEq] at hej
        subst hej
        exact h3 e (Array.mem_toList_iff.1 he) (binds_always md hal)
    · intro m o' hm hj
      simp only [numOf, cond_true] at hj
      obtain ⟨e, he, hej⟩ := List.mem_filterMap.1 (has_iff.1 hj)
      cases hal : always e.ground with
      | false => rw [hal] at hej; cases hej
      | true =>
        rw [hal] at hej; simp only [cond_true, Option.some.injEq] at hej
        cases hlm : listed.getD m false with
        | false => rfl
        | true =>
          have := hcl m o' hm hlm e (Array.mem_toList_iff.1 he) (binds_always md hal)
          rw [hej, hif] at this; cases this
    · intro m o' hm hlm j hj
      simp only [numOf, cond_true] at hj
      obtain ⟨e, he, hej⟩ := List.mem_filterMap.1 (has_iff.1 hj)
      cases hal : always e.ground with
      | false => rw [hal] at hej; cases hej
      | true =>
        rw [hal] at hej; simp only [cond_true, Option.some.injEq] at hej
        subst hej
        exact hcl m o' hm hlm e (Array.mem_toList_iff.1 he) (binds_always md hal)

theorem nodup_le : ∀ (m : Nat) (l : List Nat), l.Nodup → (∀ i ∈ l, i < m) → l.length ≤ m := by
  intro m
  induction m with
  | zero => intro l _ h; cases l with
    | nil => simp
    | cons x r => exact absurd (h x (by simp)) (by omega)
  | succ m ih =>
    intro l hnd h
    by_cases hm : m ∈ l
    · have h1 := ih (l.erase m) (hnd.erase m) (fun i hi => by
        have h2 := h i (List.mem_of_mem_erase hi)
        have h3 : i ≠ m := fun e => by subst e; exact (List.Nodup.not_mem_erase hnd) hi
        omega)
      rw [List.length_erase_of_mem hm] at h1; omega
    · have := ih l hnd (fun i hi => by
        have h2 := h i hi
        have h3 : i ≠ m := fun e => by subst e; exact hm hi
        omega)
      omega

/- A region that draws its order. -/
theorem wp_regd {id : Nat} {Q : Exit → Act → World → Prop} (sp : List OS) (rt rg : List Nat) (hAt : At B h0 Γ Λ F n a w) (hobl : Obls P sp ops.toList Γ Λ ops.toList sp)
    (hchk : (chk Γ Λ true ops.toList sp && inRange ops.size ops.toList && rankOk .text rt 0 ops.toList && rankOk .gc rg 0 ops.toList && rankOk .any rt 0 ops.toList) = true) (hslots : ∀ o ∈ ops.toList, ∀ d, o.dst = some d → d < n)
    (hnext : ∀ a w, At B h0 (endGd Γ ops.toList sp) (endO Λ ops.toList sp) F n a w → Q .normal a w) : (Code.region id ops true).wp P Q a w := by
  simp only [Bool.and_eq_true] at hchk
  obtain ⟨⟨⟨⟨hc, hin⟩, hrt⟩, hrg⟩, hra⟩ := hchk
  have hstart : J B h0 Γ Λ F n ops.toList sp (fun i => (Array.replicate ops.size false).getD i false) a { w with drawn := w.drawn + 1 } := by
    refine J_congr (fun k _ _ => ?_) (J_drawn (J_start hAt _ sp) _)
    simp only [Array.getD_eq_getD_getElem?, Array.getElem?_replicate]
    split <;> rfl
  have hany : ∀ md rk, rankOk md rk 0 ops.toList = true → ∀ t, wpOps P ops Q (Region.linearise md ops t) a { w with drawn := w.drawn + 1 } := by
    intro md rk hrk t
    refine wpAny_sound ops.size t _ a _ (wpAny_J sp hobl hc hslots rk hrk hin hnext ops.size _ a _ (by simp) ?_ ?_ hstart)
    · intro l hnd hl
      exact nodup_le _ l hnd (fun i hi => (hl i hi).1)
    · intro i o _ hl
      simp only [Array.getD_eq_getD_getElem?, Array.getElem?_replicate] at hl
      split at hl <;> cases hl
  refine wp_region_draw fun t => ?_
  unfold Region.schedule
  split
  · exact hany .any rt hra t
  · split
    · exact hany .text rt hrt _
    · exact hany .gc rg hrg _
end step
end Go.KB
