/- (*strings.Builder).copyCheck and WriteString of this dump (whose copyCheck has no panic) with the exact frame. No condition. -/
import Derived.Test.YtipapjkpbnjkmaaGreatDoorKZh
import Derived.Test.YtipapjkpbnjkmaaGreatDoorSLb
namespace Go.KB
open RowKit Go.Proofs Go.Proofs.Tryz Go.Shelf
set_option linter.unusedVariables false
set_option maxHeartbeats 1000000 in
set_option maxRecDepth 100000 in
theorem qYx (b : Nat) (w : World) (h0 : w.cell? ⟨b, 0, none⟩ = some (.pointer (some ⟨b, 0, none⟩))) :
    Calls Tryz.prog 57 #[.pointer (some ⟨b, 0, none⟩)] w fun e w' => e = .returned (.tuple #[]) ∧ w' = w := by
  obtain ⟨j, hj, _⟩ := Option.map_eq_some_iff.1 bsX.sizeBuilder
  go_enter Tryz.func57, Tryz.ntmps57
  go_wp2
  rw [Lib.run_neq_ptr_same w _ Tryz.underlying59 hj]
  go_wp2
  go_end0
  exact ⟨rfl, rfl⟩
set_option maxHeartbeats 1000000 in
set_option maxRecDepth 100000 in
theorem qQ3 (b : Nat) (w : World) (h0 : w.cell? ⟨b, 0, none⟩ = some (.pointer none)) (hsh : w.shape? b = some (62, 2)) (hfz : w.frozen? ⟨b, 0, none⟩ = false) :
    Calls Tryz.prog 57 #[.pointer (some ⟨b, 0, none⟩)] w fun e w' => e = .returned (.tuple #[]) ∧ w' = w.setCell ⟨b, 0, none⟩ (.pointer (some ⟨b, 0, none⟩)) := by
  obtain ⟨j, hj, hjs⟩ := Option.map_eq_some_iff.1 bsX.sizeBuilder
  go_enter Tryz.func57, Tryz.ntmps57
  go_wp2
  rw [Lib.run_to_unsafe w ⟨b, 0, none⟩ Tryz.underlying59 Tryz.underlying132 hj (by rw [hjs]; decide) hsh (Nat.zero_lt_succ 1)]
  simp only [Result.andThen]
  rw [Oper.upon_value]
  go_wp2
  rw [run_callFunc_extern Tryz.func76 (by kernel_rfl) (by kernel_rfl) (by kernel_rfl) (e := Extern.AbiNoEscape.same) (by kernel_rfl)]
  rw [Lib.run_noEscape]
  simp only [Result.andThen]
  rw [Oper.upon_value]
  go_wp2
  rw [Lib.run_from_unsafe w ⟨b, 0, none⟩ Tryz.underlying132 Tryz.underlying59 hj hsh bsX.liesBuilder]
  simp only [Result.andThen]
  rw [Oper.upon_value]
  go_wp2
  go_end0
  exact ⟨rfl, rfl⟩
set_option maxHeartbeats 1000000 in
set_option maxRecDepth 100000 in
theorem qQ4 (b : Nat) (v : Value) (bs : List Value) (w : World) (h : IsB (62) (5) b v bs w) (hne : 62 ≠ 5) :
    Calls Tryz.prog (57) #[.pointer (some ⟨b, 0, none⟩)] w fun e w' => e = .returned (.tuple #[]) ∧ w'.heap[b]? = some (.cells #[.pointer (some ⟨b, 0, none⟩), v] (62) (0, 0)) ∧ w'.ownsRowF 0 (5) 1 v bs.length bs ∧ FrB b none w w' := by
  have hA : Lib.IsBuilderF (62) (5) 0 b bs w := by
    obtain ⟨⟨p, hp, hb⟩, ho, hn⟩ := h
    rcases hp with rfl | rfl
    · exact .inl ⟨Nat.zero_le _, v, hb, ho, hn⟩
    · exact .inr ⟨Nat.zero_le _, v, hb, ho, hn⟩
  obtain ⟨⟨p, hp, hb⟩, ho, hn⟩ := h
  have hlt := (Array.getElem?_eq_some_iff.1 hb).1
  rcases hp with rfl | rfl
  · have hU : Lib.BuilderAtF (62) (5) 0 b (.pointer none) bs w := ⟨Nat.zero_le _, v, hb, ho, hn⟩
    refine (qQ3 b w hU.cell0 hU.shape hU.frozen0).mono ?_
    rintro e w' ⟨rfl, rfl⟩
    have hb' : (w.setCell ⟨b, 0, none⟩ (.pointer (some ⟨b, 0, none⟩))).heap[b]? = some (.cells #[.pointer (some ⟨b, 0, none⟩), v] (62) (0, 0)) := by
      rw [setCell_eq_setRow w b 0 #[.pointer none, v] (62) (0, 0) _ hb, setRow_heap w b _ _ _ _ hb]; rfl
    have hoth : ∀ i, i ≠ b → (w.setCell ⟨b, 0, none⟩ (.pointer (some ⟨b, 0, none⟩))).heap[i]? = w.heap[i]? := fun i hi => by
      rw [setCell_eq_setRow w b 0 #[.pointer none, v] (62) (0, 0) _ hb]; exact setRow_other w b i _ hi
    refine ⟨rfl, hb', ?_, rfl, rfl, rfl, by simp, fun i _ hi _ => hoth i hi⟩
    refine ⟨ho.1, ho.2.imp id ?_⟩
    rintro ⟨g, cap, cur, fz, rfl, h0, hg, hr⟩
    exact ⟨g, cap, cur, fz, rfl, h0, by rw [hoth g (fun x => hn (by rw [x]; rfl))]; exact hg, hr⟩
  · have hU : Lib.BuilderAtF (62) (5) 0 b (.pointer (some ⟨b, 0, none⟩)) bs w := ⟨Nat.zero_le _, v, hb, ho, hn⟩
    refine (qYx b w hU.cell0).mono ?_
    rintro e w' ⟨rfl, rfl⟩
    exact ⟨rfl, hb, ho, rfl, rfl, rfl, Nat.le_refl _, fun _ _ _ _ => rfl⟩
set_option maxHeartbeats 2000000 in
set_option maxRecDepth 100000 in
theorem qXp (b : Nat) (v : Value) (bs : List Value) (s : ByteArray) (w : World) (h : IsB (62) (5) b v bs w) (hlen : bs.length + s.size ≤ 140737488355328) :
    Calls Tryz.prog (30) #[.pointer (some ⟨b, 0, none⟩), .string s] w fun e w' => e = .returned (.tuple #[.int .i64 s.size, .nilIface]) ∧ ∃ v', IsB (62) (5) b v' (bs ++ Lib.strCells s) w' ∧ FrB b v.ownBlock w w' ∧ (v'.ownBlock = v.ownBlock ∨ ∃ k, v'.ownBlock = some k ∧ w.heap.size ≤ k) := by
  obtain ⟨i0, hi, hz0, hz1, hz2⟩ := info_parts bsX.infoByte
  have hlt0 := h.lt
  have hne := h.2.2
  go_enter Tryz.func30, Tryz.ntmps30
  go_wp2_with (go_at_call 57; refine (qQ4 b v bs _ h (by decide)).mono ?_)
  rintro e w1 ⟨rfl, hbk, hown, hf1⟩
  have c0 : w1.cell? ⟨b, 0, none⟩ = some (.pointer (some ⟨b, 0, none⟩)) := by rw [Lib.cell_of_heap hbk]; rfl
  have c1 : w1.cell? ⟨b, 1, none⟩ = some v := by rw [Lib.cell_of_heap hbk]; rfl
  go_wp2_with (at_builtin; refine jCz rfl _ _ (60) (9) rfl (5) i0 Tryz.underlying60 Tryz.underlying9 hi hz0 hz1 hz2 _ _ _ rfl hown s rfl hlen ?_)
  intro v' w2 hown' hgrow hv'
  have hlt : b < w1.heap.size := (Array.getElem?_eq_some_iff.1 hbk).1
  have hb2 : w2.heap[b]? = some (.cells #[.pointer (some ⟨b, 0, none⟩), v] (62) (0, 0)) := by
    rw [hgrow.block b hlt (fun e => hne e.symm)]
    exact hbk
  have d0 : w2.cell? ⟨b, 0, none⟩ = some (.pointer (some ⟨b, 0, none⟩)) := by rw [Lib.cell_of_heap hb2]; rfl
  have d1 : w2.cell? ⟨b, 1, none⟩ = some v := by rw [Lib.cell_of_heap hb2]; rfl
  have f1 : w2.frozen? ⟨b, 1, none⟩ = false := Lib.frozen_of_heap hb2 1
  have hne' : v'.ownBlock ≠ some b := by
    rcases hv' with e | ⟨k, e, hk⟩
    · rw [e]; exact hne
    · rw [e]; intro x; cases x; omega
  obtain ⟨ao, n', cap, rfl⟩ : ∃ ao n' cap, v' = .slice ao n' cap := by
    rcases hown'.2 with ⟨hv, _⟩ | ⟨g, cap, cur, fz, hv, _⟩
    · exact ⟨_, _, _, hv⟩
    · exact ⟨_, _, _, hv⟩
  go_wp2
  go_ret2
  have hb3 : ∀ x, (w2.setCell ⟨b, 1, none⟩ x).heap[b]? = some (.cells #[.pointer (some ⟨b, 0, none⟩), x] (62) (0, 0)) := fun x => by
    rw [setCell_eq_setRow w2 b 1 #[.pointer (some ⟨b, 0, none⟩), v] (62) (0, 0) _ hb2, setRow_heap w2 b _ _ _ _ hb2]; rfl
  have hoth : ∀ x i, i ≠ b → (w2.setCell ⟨b, 1, none⟩ x).heap[i]? = w2.heap[i]? := fun x i hi => by
    rw [setCell_eq_setRow w2 b 1 #[.pointer (some ⟨b, 0, none⟩), v] (62) (0, 0) _ hb2]; exact setRow_other w2 b i _ hi
  refine ⟨rfl, .slice ao n' cap, ⟨⟨_, .inr rfl, hb3 _⟩, ?_, hne'⟩, ⟨hgrow.os.trans hf1.os, hgrow.tape.trans hf1.tape, hgrow.output.trans hf1.output, ?_, fun i hi h1 h2 => ?_⟩, ?_⟩
  · have hown'' : w2.ownsRowF 0 (5) 1 (.slice ao n' cap) (bs ++ Lib.strCells s).length (bs ++ Lib.strCells s) := by simpa [Lib.strCells_length] using hown'
    refine ⟨hown''.1, hown''.2.imp id ?_⟩
    rintro ⟨g, cap', cur, fz, e, h0, hg, hr⟩
    refine ⟨g, cap', cur, fz, e, h0, ?_, hr⟩
    rw [hoth _ g (fun x => hne' (by rw [e, x]; rfl))]; exact hg
  · have := hf1.size; have := hgrow.size; simp; omega
  · rw [hoth _ i h1, hgrow.block i (by have := hf1.size; omega) h2, hf1.block i hi h1 (by simp)]
  · rcases hv' with e | ⟨k, e, hk⟩
    · exact .inl e
    · exact .inr ⟨k, e, by have := hf1.size; omega⟩
theorem okG_W {k : Nat} {x s r : Str} {sv : Value} (H : bldW x s = some r) : jWf Tryz.prog 30 [fIs sv, fV Rep.str s] [(k, atV (jPb 62 5 x) sv)] [.to (atV (jPb 62 5 r) sv)] none (fT2 (fV (Rep.int .i64) ((List.length s : Nat) : Int)) (fV Rep.err false)) := qWb H fun b v w h hl => qXp b v _ _ w h hl
theorem okG_S {k : Nat} {x r : Str} {sv : Value} (H : bldS x = some r) : jWf Tryz.prog 31 [fIs sv] [(k, atV (jPb 62 5 x) sv)] [.gone] none (fV Rep.str r) := qWx H fun b v w h => by
  by_cases h0 : x = []
  · subst h0; exact jCu Tryz.laysBS bsX b v w h
  · exact qJ6 Tryz.laysBS bsX b v x w h h0
theorem qV6 : ∀ w, (zeroValue 62).run Tryz.prog w = .ok (.agg #[.pointer none, .slice none 0 0]) w := Tryz.zeroValue62
end Go.KB
