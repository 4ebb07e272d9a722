/- Go's slices.Sort and slices.Compact at int by the library's contracts, as functions that write a row of the caller's, or take one over. No condition. -/
import Derived.Test.YtcoggcadlinmdaaGreatDoorKZc
import Derived.Shelf.Sort.Plain
import Derived.Shelf.Slices.CompactI
namespace Go.KB
open Go.Sort
set_option linter.unusedVariables false
variable {P : Program}
/- sorting that the kernel computes -/
def ins (x : Int) : List Int → List Int
  | [] => [x]
  | y :: l => if x ≤ y then x :: y :: l else y :: ins x l
def qJe : List Int → List Int
  | [] => []
  | x :: l => ins x (qJe l)
theorem qQ8 (x : Int) : ∀ l, (ins x l).Perm (x :: l) := by
  intro l
  induction l with
  | nil => exact List.Perm.refl _
  | cons y l ih =>
    unfold ins
    split
    · exact List.Perm.refl _
    · exact (List.Perm.cons y ih).trans (List.Perm.swap x y l)
theorem jTb : ∀ l, (qJe l).Perm l := by
  intro l
  induction l with
  | nil => exact List.Perm.refl _
  | cons x l ih => exact (qQ8 x _).trans (List.Perm.cons x ih)
theorem qZw (x : Int) : ∀ l, l.Pairwise (· ≤ ·) → (ins x l).Pairwise (· ≤ ·) := by
  intro l
  induction l with
  | nil => intro _; simp [ins]
  | cons y l ih =>
    intro h
    obtain ⟨h1, h2⟩ := List.pairwise_cons.1 h
    unfold ins
    split
    · rename_i hxy
      refine List.pairwise_cons.2 ⟨fun z hz => ?_, h⟩
      rcases List.mem_cons.1 hz with rfl | hz
      · exact hxy
      · have := h1 z hz; omega
    · rename_i hxy
      refine List.pairwise_cons.2 ⟨fun z hz => ?_, ih h2⟩
      rcases List.mem_cons.1 ((qQ8 x l).mem_iff.1 hz) with rfl | hz
      · omega
      · exact h1 z hz
theorem jAv : ∀ l, (qJe l).Pairwise (· ≤ ·) := by
  intro l
  induction l with
  | nil => exact List.Pairwise.nil
  | cons x l ih => exact qZw x _ ih
theorem qJ7 (l : List Int) : (l.mergeSort fun x y => decide (x ≤ y)) = qJe l := by
  refine List.Perm.eq_of_pairwise (le := (· ≤ ·)) (fun a b _ _ h1 h2 => by omega) ?_ (jAv l) ((List.mergeSort_perm l _).trans (jTb l).symm)
  refine (List.pairwise_mergeSort (le := fun x y : Int => decide (x ≤ y)) (fun a b c h1 h2 => ?_) (fun a b => ?_) l).imp fun h => of_decide_eq_true h
  · simp only [decide_eq_true_eq] at *; omega
  · simp only [Bool.or_eq_true, decide_eq_true_eq]; omega
/- rows of ints in memory -/
theorem relI {r : Rep Int} {k : IntKind} (hr : r = Rep.int k) {h : H} : ∀ {xs : List Int} {cs : List Value}, jG9 r h cs xs ↔ cs = xs.map (Value.int k) := by
  subst hr
  intro xs
  induction xs with
  | nil => intro cs; exact Iff.rfl
  | cons x xs ih =>
    intro cs
    constructor
    · rintro ⟨c, d, rfl, hc, hd⟩
      rw [ih.1 hd, show c = [Value.int k x] from hc]; rfl
    · intro e
      exact ⟨[Value.int k x], xs.map (Value.int k), e, rfl, ih.2 rfl⟩
theorem qJl {enc : Int → Value} {p c q : List Value} {d : Array Int} (hc : c.length = d.size) : putCells enc p.length d (p ++ c ++ q).toArray = (p ++ d.toList.map enc ++ q).toArray := by
  apply Array.ext_getElem?
  intro k
  unfold putCells
  simp only [Array.getElem?_mapIdx, List.getElem?_toArray]
  by_cases h1 : k < p.length
  · rw [List.append_assoc, List.getElem?_append_left h1, List.append_assoc, List.getElem?_append_left h1, List.getElem?_eq_getElem h1]
    simp; intro h; omega
  · by_cases h2 : k < p.length + d.size
    · have e1 : (p ++ c ++ q)[k]? = some c[k - p.length] := by
        rw [List.append_assoc, List.getElem?_append_right (by omega), List.getElem?_append_left (by omega), List.getElem?_eq_getElem]
      have e2 : (p ++ d.toList.map enc ++ q)[k]? = some (enc d[k - p.length]!) := by
        rw [List.append_assoc, List.getElem?_append_right (by omega), List.getElem?_append_left (by simp; omega), List.getElem?_map, Array.getElem?_toList]
        rw [Array.getElem?_eq_getElem (by omega)]
        simp [getElem!_pos, show k - p.length < d.size by omega]
      rw [e1, e2, Option.map_some, if_pos ⟨by omega, h2⟩]
    · rw [List.append_assoc, List.getElem?_append_right (by omega), List.getElem?_append_right (by omega), List.append_assoc, List.getElem?_append_right (by omega), List.getElem?_append_right (by simp; omega)]
      simp only [List.length_map, Array.length_toList, hc]
      cases q[k - p.length - d.size]? with
      | none => rfl
      | some v => rw [Option.map_some, if_neg (by omega)]
theorem qJ3 {enc : Int → Value} {w : World} {b : Nat} {p c q : List Value} {d : Array Int} {E : TypeId} {fr : Nat × Nat} (hb : w.heap[b]? = some (.cells (p ++ c ++ q).toArray E fr)) (hc : c.length = d.size) (n : Nat) (os : Array Obj) :
    (grow (putRow enc (Sort.ahead w n) b p.length d) os).heap[b]? = some (.cells (p ++ d.toList.map enc ++ q).toArray E fr) := by
  have hlt : b < w.heap.size := (Array.getElem?_eq_some_iff.1 hb).1
  unfold grow putRow mapBlock Sort.ahead
  simp only
  rw [Array.getElem?_append_left (by simpa using hlt), Array.getElem?_modify, if_pos rfl, hb]
  simp only [Option.map_some, onCells]
  rw [qJl hc]
theorem jS4 {enc : Int → Value} {w : World} {b b' off : Nat} {d : Array Int} (hne : b' ≠ b) (hlt : b' < w.heap.size) (n : Nat) (os : Array Obj) : (grow (putRow enc (Sort.ahead w n) b off d) os).heap[b']? = w.heap[b']? := by
  unfold grow putRow mapBlock Sort.ahead
  simp only
  rw [Array.getElem?_append_left (by simpa using hlt), Array.getElem?_modify, if_neg (fun x => hne x.symm)]
theorem jM9 {enc : Int → Value} {w : World} {b off : Nat} {d : Array Int} (n : Nat) (os : Array Obj) : w.heap.size ≤ (grow (putRow enc (Sort.ahead w n) b off d) os).heap.size := by
  unfold grow putRow mapBlock Sort.ahead
  simp
/- the row of a claim is written anew -/
theorem St.putI {κ : Type} {B : Base} {h : H} {L : κ → Option Ent} {w : World} {x x' : Ent} {b : Nat} {p c q : List Value} {d : Array Int} {E : TypeId} {fr : Nat × Nat} (hst : St B h (Sum.elim (fun _ : Unit => some x) L) w) (hcl : x.claims = [(b, 0)]) (hcl' : x'.claims = [(b, 0)])
    (hb : w.heap[b]? = some (.cells (p ++ c ++ q).toArray E fr)) (hc : c.length = d.size) (n : Nat) (os : Array Obj)
    (hok : ∀ m : Nat → Option Obj, m b = some (.cells (p ++ d.toList.map (Value.int .i64) ++ q).toArray E fr) → x'.ok h m) : St B h (Sum.elim (fun _ : Unit => some x') L) (grow (putRow (Value.int .i64) (Sort.ahead w n) b p.length d) os) := by
  have hlt : b < w.heap.size := (Array.getElem?_eq_some_iff.1 hb).1
  obtain ⟨hcl0, _⟩ := hst.own (k := Sum.inl ()) (e := x) rfl
  have hx := hcl0 (b, 0) (by rw [hcl]; exact List.mem_singleton_self _)
  refine hst.step (hnf := hst.nf_own (k := Sum.inl ()) (e := x) rfl (by rw [hcl]; exact List.mem_singleton_self _)) (Sum.inl ()) (fun i => i = b) ?_ (jM9 n os) rfl rfl rfl (fun b' hb' hne => jS4 hne hb' n os) (Hle.refl h) (fun _ _ _ _ => rfl) ?_ ?_ ?_
  · rintro i rfl _
    exact ⟨x, rfl, (i, 0), by rw [hcl]; exact List.mem_singleton_self _, rfl⟩
  · rintro i o v (rfl | hi) hv
    · rw [hx.2.2 o (Nat.zero_le _)] at hv; cases hv
    · rw [hst.fresh hi] at hv; cases hv
  · rintro (u | k) e hne he
    · exact absurd rfl hne
    · exact he
  · intro e he
    cases he
    refine ⟨fun c' hc' => ?_, hok _ (qJ3 hb hc n os)⟩
    rw [hcl', List.mem_singleton] at hc'
    subst hc'
    exact ⟨.inr ⟨x, rfl, (b, 0), by rw [hcl]; exact List.mem_singleton_self _, rfl⟩, Nat.lt_of_lt_of_le hlt (jM9 n os), fun o ho => hx.2.2 o ho⟩
theorem qUw {w : World} {b : Nat} {p q : List Value} {xs : List Int} {E : TypeId} (hb : w.heap[b]? = some (.cells (p ++ xs.map (Value.int .i64) ++ q).toArray E (0, 0))) : Holds (Value.int .i64) w b p.length xs.toArray := by
  intro j hj
  have hj' : j < xs.length := by simpa using hj
  constructor
  · rw [jK1 _ _ _ _ _ _ hb]
    simp only [List.getElem?_toArray]
    rw [List.append_assoc, List.getElem?_append_right (by omega), List.getElem?_append_left (by simp; omega), Nat.add_sub_cancel_left, List.getElem?_map, List.getElem?_eq_getElem hj']
    simp [hj']
  · unfold World.frozen?
    simp [hb]
def qGl (xs : List Int) : Option (List Int) := bif Nat.ble 1 xs.length && Nat.ble xs.length 1000000 then some (qJe xs) else none
theorem qVr {f : FuncId} {E : TypeId} (K : Option qW0) {xs r : List Int} (H : qGl xs = some r)
    (hS : ∀ (blk off cap : Nat) (zs : List Int) (w : World), Holds (Value.int .i64) w blk off zs.toArray → blk < w.heap.size → zs.length < 4611686018427387904 → Calls P f #[.slice (some ⟨blk, off, none⟩) zs.length cap] w fun e w' =>
      e = .returned (.tuple #[]) ∧ ∃ n os, w' = grow (putRow (Value.int .i64) (Sort.ahead w n) blk off (zs.mergeSort fun x y => decide (x ≤ y)).toArray) os) :
    qX5 P f [jJd.triv] 0 (jU8 K E (Rep.int .i64) xs) (jU8 K E (Rep.int .i64) r) fT0 := by
  unfold qGl at H
  cases hc : (Nat.ble 1 xs.length && Nat.ble xs.length 1000000) with
  | false => rw [hc] at H; cases H
  | true =>
    rw [hc] at H; cases H
    simp only [Bool.and_eq_true, Nat.ble_eq] at hc
    intro κ B L h w vs x v hst hl hvi hq hargs
    cases K with
    | none =>
      obtain ⟨_, rfl, _⟩ := hq
      simp at hc
    | some K =>
      obtain ⟨rfl, hcap, rfl⟩ := hq
      have hvs : vs = [.slice (some ⟨K.b, K.pre.length, none⟩) xs.length K.cap] := by
        match vs, hl, hvi with
        | [u], _, hvi => simp at hvi; rw [hvi]
      subst hvs
      obtain ⟨hcl, cs, hb, hr⟩ := hst.own (k := Sum.inl ()) (e := jG7 K E (Rep.int .i64) xs) rfl
      rw [relI rfl] at hr
      subst hr
      have hb' : w.heap[K.b]? = some (.cells (K.pre ++ xs.map (Value.int .i64) ++ K.post).toArray E (0, 0)) := hb
      refine (hS K.b K.pre.length K.cap xs w (qUw hb') (Array.getElem?_eq_some_iff.1 hb').1 (by omega)).mono ?_
      rintro e w' ⟨rfl, n, os, rfl⟩
      refine ⟨_, h, jG7 K E (Rep.int .i64) (qJe xs), rfl, Hle.refl h, ?_, rfl, ?_⟩
      · refine hst.putI rfl rfl hb' (by simp) n os fun m hm => ⟨(qJe xs).map (Value.int .i64), ?_, (relI rfl).2 rfl⟩
        rw [hm, qJ7]
      · have hl := (jTb xs).length_eq
        exact ⟨by rw [hl], by rw [hl]; exact hcap, rfl⟩
def qGh (xs : List Int) : Option (List Int) := bif Nat.ble 1 xs.length && Nat.ble xs.length 1000000 then some (Lib.compact xs) else none
theorem qW5 {f : FuncId} {E : TypeId} {xs r : List Int} (H : qGh xs = some r)
    (hS : ∀ (blk off cap : Nat) (zs : List Int) (w : World), Holds (Value.int .i64) w blk off zs.toArray → zs.length ≤ 9223372036854775807 → zs.length ≤ cap →
      Calls P f #[.slice (some ⟨blk, off, none⟩) zs.length cap] w fun e w' => e = .returned (.slice (some ⟨blk, off, none⟩) (Lib.compact zs).length cap) ∧ ∃ q, w' = putRow (Value.int .i64) (Sort.ahead w q) blk off (Lib.compact zs ++ List.replicate (zs.length - (Lib.compact zs).length) 0).toArray)
    (hle : (Lib.compact xs).length ≤ xs.length) : qY1 P f [jJd.triv] 0 (jQ5 E (Rep.int .i64) xs) (jQ5 E (Rep.int .i64) r) jJd.triv := by
  unfold qGh at H
  cases hc : (Nat.ble 1 xs.length && Nat.ble xs.length 1000000) with
  | false => rw [hc] at H; cases H
  | true =>
    rw [hc] at H; cases H
    simp only [Bool.and_eq_true, Nat.ble_eq] at hc
    intro κ B L h w vs x v hst hl hvi hq hargs
    rcases hq with ⟨_, rfl, _⟩ | ⟨b, cap, rfl, hcap, rfl⟩
    · simp at hc
    · have hvs : vs = [.slice (some ⟨b, 0, none⟩) xs.length cap] := by
        match vs, hl, hvi with
        | [u], _, hvi => simp at hvi; rw [hvi]
      subst hvs
      obtain ⟨hcl, cs, rest, hb, hr, hlen⟩ := hst.own (k := Sum.inl ()) (e := jV0 b E (Rep.int .i64) xs cap) rfl
      rw [relI rfl] at hr
      subst hr
      have hb' : w.heap[b]? = some (.cells ([] ++ xs.map (Value.int .i64) ++ rest).toArray E (0, 0)) := hb
      refine (hS b 0 cap xs w (qUw hb') (by omega) hcap).mono ?_
      rintro e w' ⟨rfl, n, rfl⟩
      refine ⟨_, h, jV0 b E (Rep.int .i64) (Lib.compact xs) cap, rfl, Hle.refl h, ?_, trivial, .inr ⟨b, cap, rfl, by omega, rfl⟩⟩
      have := hst.putI (x' := jV0 b E (Rep.int .i64) (Lib.compact xs) cap) (d := (Lib.compact xs ++ List.replicate (xs.length - (Lib.compact xs).length) 0).toArray) rfl rfl hb' (by simp; omega) n #[] fun m hm => by
        refine ⟨(Lib.compact xs).map (Value.int .i64), (List.replicate (xs.length - (Lib.compact xs).length) (0 : Int)).map (Value.int .i64) ++ rest, ?_, (relI rfl).2 rfl, ?_⟩
        · rw [hm]; simp
        · simp at hlen ⊢; omega
      rwa [grow_empty] at this
end Go.KB
