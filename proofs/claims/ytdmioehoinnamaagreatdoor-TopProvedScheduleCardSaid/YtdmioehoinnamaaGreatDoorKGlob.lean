/- What is known of package-level variables: of those that the row lists, and of one that holds a number. Printed by a program. No condition. -/
import Derived.Calls
import Derived.Below
import Derived.KernelRfl
import Derived.Lib.LaidTab
import Derived.Lib.ItoaMem
import Derived.Test.YtdmioehoinnamaaGreatDoorProg
namespace Go.KB
open Go.Proofs
def gN:Nat:=1
structure GF (w:World):Prop where
  tab:Lib.TabIs Tryz.prog w "internal/strconv.uint64pow10" .u64 Lib.pow10Tab
theorem gn_tab:Tryz.prog.globalNamed "internal/strconv.uint64pow10" = some 0:=by kernel_rfl
theorem VB {P:Program} {w w':World} {n:String} {g:Nat} (hg:P.globalNamed n=some g) (hl:g<gN) (h:∀ b,b<gN→w'.heap[b]? = w.heap[b]?):w'.var? P n=w.var? P n:=by
  unfold World.var?
  rw [hg]
  simp only [Option.bind_some]
  rw [h g hl]
theorem cell_congr {w w':World} {g o:Nat} (hl:g<gN) (h:∀ b,b<gN→w'.heap[b]? = w.heap[b]?):w'.cell? ⟨g,o,none⟩=w.cell? ⟨g,o,none⟩:=World.cell?_of_block (h g hl)
theorem GF.congr {w w':World} (h:∀ b,b<gN→w'.heap[b]? = w.heap[b]?) (k:GF w):GF w':=⟨(VB gn_tab (by decide) h).trans k.tab⟩
def gP (m:Nat→Option Obj):Prop:=∃ W,(∀ b,b<gN→W.heap[b]? = m b)∧GF W
theorem Xc {m m':Nat→Option Obj} (h:∀ b,b<gN→m' b=m b):gP m→gP m':=fun ⟨W,h1,h2⟩=>⟨W,fun b hb=>(h1 b hb).trans (h b hb).symm,h2⟩
theorem gP_of {w:World} (h:gP fun b=>w.heap[b]?):GF w:=by
  obtain ⟨W,h1,h2⟩:=h
  exact h2.congr fun b hb=>(h1 b hb).symm
theorem gOf {w:World} (hn:gN≤w.heap.size) (k:GF w):gN≤w.heap.size∧gP fun b=>w.heap[b]?:=⟨hn,w,fun _ _=>rfl,k⟩
/- draws are never taken back: it is not known -/
def dOn:Prop:=False
end Go.KB
