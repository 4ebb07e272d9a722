/- What is known of package-level variables: of those that the row lists, and of one that holds a number. Printed by a program. No condition. -/
import Derived.Calls
import Derived.Below
import Derived.KernelRfl
import Derived.Lib.LaidTab
import Derived.Lib.ItoaMem
import Derived.Test.YtipapjkpbnjkmaaGreatDoorProg
namespace Go.KB
open Go.Proofs
def gN : Nat := 4
structure GF (w : World) : Prop where
  tab : Lib.TabIs Tryz.prog w "internal/strconv.uint64pow10" .u64 Lib.pow10Tab
  es : ∃ tp p, w.var? Tryz.prog "strconv.ErrSyntax" = some #[.iface tp p]
  er : ∃ tp p, w.var? Tryz.prog "strconv.ErrRange" = some #[.iface tp p]
  ml : ∃ m, w.cell? ⟨0, 0, none⟩ = some (.int .i64 m)
theorem gn_tab : Tryz.prog.globalNamed "internal/strconv.uint64pow10" = some 3 := by kernel_rfl
theorem gn_es : Tryz.prog.globalNamed "strconv.ErrSyntax" = some 1 := by kernel_rfl
theorem gn_er : Tryz.prog.globalNamed "strconv.ErrRange" = some 2 := by kernel_rfl
theorem gn_ml : Tryz.prog.globalNamed "internal/bytealg.MaxLen" = some 0 := by kernel_rfl
theorem jNc {P : Program} {w w' : World} {n : String} {g : Nat} (hg : P.globalNamed n = some g) (hl : g < gN) (h : ∀ b, b < gN → w'.heap[b]? = w.heap[b]?) : w'.var? P n = w.var? P n := by
  unfold World.var?
  rw [hg]
  simp only [Option.bind_some]
  rw [h g hl]
theorem qQr {w w' : World} {g o : Nat} (hl : g < gN) (h : ∀ b, b < gN → w'.heap[b]? = w.heap[b]?) : w'.cell? ⟨g, o, none⟩ = w.cell? ⟨g, o, none⟩ := World.cell?_of_block (h g hl)
theorem GF.congr {w w' : World} (h : ∀ b, b < gN → w'.heap[b]? = w.heap[b]?) (k : GF w) : GF w' := ⟨(jNc gn_tab (by decide) h).trans k.tab, by obtain ⟨tp, p, e⟩ := k.es; exact ⟨tp, p, (jNc gn_es (by decide) h).trans e⟩, by obtain ⟨tp, p, e⟩ := k.er; exact ⟨tp, p, (jNc gn_er (by decide) h).trans e⟩, by obtain ⟨m, e⟩ := k.ml; exact ⟨m, (qQr (by decide) h).trans e⟩⟩
def gP (m : Nat → Option Obj) : Prop := ∃ W, (∀ b, b < gN → W.heap[b]? = m b) ∧ GF W
theorem qYz {m m' : Nat → Option Obj} (h : ∀ b, b < gN → m' b = m b) : gP m → gP m' := fun ⟨W, h1, h2⟩ => ⟨W, fun b hb => (h1 b hb).trans (h b hb).symm, h2⟩
theorem qJ4 {w : World} (h : gP fun b => w.heap[b]?) : GF w := by
  obtain ⟨W, h1, h2⟩ := h
  exact h2.congr fun b hb => (h1 b hb).symm
theorem gOf {w : World} (hn : gN ≤ w.heap.size) (k : GF w) : gN ≤ w.heap.size ∧ gP fun b => w.heap[b]? := ⟨hn, w, fun _ _ => rfl, k⟩
/- draws are never taken back: it is not known -/
def dOn : Prop := False
end Go.KB
