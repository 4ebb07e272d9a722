/- Go's slices.Compact at string by the library's contract, as a function that takes a row over. No condition. -/
import Derived.Test.YtblfmjackdhajaaKSos
import Derived.Test.YtblfmjackdhajaaKZc
import Derived.Shelf.Slices.CompactS
namespace Go.KB
open Go.Sort
set_option linter.unusedVariables false
variable {P : Program}
def jPh (xs : List Str) : Option (List Str) := bif Nat.ble xs.length 1000000 then some (Lib.compact xs) else none
theorem jF5 {xs : List Str} : (Lib.compact xs).length ≤ xs.length := by
  unfold Lib.compact Lib.compactUpTo
  rw [List.length_map]
  exact Nat.le_trans (List.length_filter_le _ _) (by simp)
theorem jCm {f : FuncId} {E : TypeId} {xs r : List Str} (H : jPh xs = some r)
    (hS : ∀ (blk off cap : Nat) (zs : List Str) (w : World), Holds Go.Proofs.encStr w blk off zs.toArray → zs.length ≤ 9223372036854775807 → zs.length ≤ cap →
      Calls P f #[.slice (some ⟨blk, off, none⟩) zs.length cap] w fun e w' => e = .returned (.slice (some ⟨blk, off, none⟩) (Lib.compact zs).length cap) ∧ ∃ q, w' = putRow Go.Proofs.encStr (Sort.ahead w q) blk off (Lib.compact zs ++ List.replicate (zs.length - (Lib.compact zs).length) []).toArray)
    (h0 : ∀ (a : Option Addr) (cap : Nat) (w : World), Calls P f #[.slice a 0 cap] w fun e w' => e = .returned (.slice a 0 cap) ∧ w' = w) :
    jAx P f [jJm.triv] 0 (jXu E Rep.str xs) (jXu E Rep.str r) jJm.triv := by
  have hle : (Lib.compact xs).length ≤ xs.length := jF5
  unfold jPh at H
  cases hc : Nat.ble xs.length 1000000 with
  | false => rw [hc] at H; cases H
  | true =>
    rw [hc] at H; cases H
    simp only [Nat.ble_eq] at hc
    intro κ B L h w vs x v hst hl hvi hq hargs
    rcases hq with ⟨⟨base, rfl⟩, rfl, rfl⟩ | ⟨b, cap, rfl, hcap, rfl⟩
    · have hvs : vs = [.slice base 0 0] := by
        match vs, hl, hvi with
        | [u], _, hvi => simp at hvi; rw [hvi]
      subst hvs
      refine (h0 base 0 w).mono ?_
      rintro e w' ⟨rfl, rfl⟩
      exact ⟨_, h, jHm, rfl, Hle.refl h, hst, trivial, .inl ⟨⟨base, rfl⟩, rfl, rfl⟩⟩
    · have hvs : vs = [.slice (some ⟨b, 0, none⟩) xs.length cap] := by
        match vs, hl, hvi with
        | [u], _, hvi => simp at hvi; rw [hvi]
      subst hvs
      obtain ⟨hcl, cs, rest, hb, hr, hlen⟩ := hst.own (k := Sum.inl ()) (e := jYr b E Rep.str xs cap) rfl
      rw [relS] at hr
      subst hr
      have hb' : w.heap[b]? = some (.cells ([] ++ xs.map Go.Proofs.encStr ++ rest).toArray E (0, 0)) := hb
      refine (hS b 0 cap xs w (jA6 hb') (by omega) hcap).mono ?_
      rintro e w' ⟨rfl, n, rfl⟩
      refine ⟨_, h, jYr b E Rep.str (Lib.compact xs) cap, rfl, Hle.refl h, ?_, trivial, .inr ⟨b, cap, rfl, by omega, rfl⟩⟩
      have := hst.putA (enc := Go.Proofs.encStr) (x' := jYr b E Rep.str (Lib.compact xs) cap) (d := (Lib.compact xs ++ List.replicate (xs.length - (Lib.compact xs).length) []).toArray) rfl rfl hb' (by simp; omega) n #[] fun m hm => by
        refine ⟨(Lib.compact xs).map Go.Proofs.encStr, (List.replicate (xs.length - (Lib.compact xs).length) ([] : Str)).map Go.Proofs.encStr ++ rest, ?_, relS.2 rfl, ?_⟩
        · rw [hm]; simp [List.append_assoc]
        · simp at hlen ⊢; omega
      rwa [grow_empty] at this
end Go.KB
