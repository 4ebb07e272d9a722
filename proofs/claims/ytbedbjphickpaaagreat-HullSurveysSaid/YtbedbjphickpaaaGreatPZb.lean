/- Plain laws: names. Plain laws: maps as sets of names, texts that are compared, rows of numbers that are the same. Plain laws: the errors of ships, of the program and of the reference. Plain laws: Check of the program and of the reference, copies of ships, small ships. No condition. -/
import Derived.Test.YtbedbjphickpaaaGreatPZa
import Derived.KernelRfl
namespace Go.KB
set_option linter.unusedVariables false
end Go.KB
namespace Go.KB
set_option linter.unusedVariables false
def dup (nm : Nat → Str) : Nat → Str → Bool
 | 0, _ => false
 | i + 1, x => decide (x = nm i) || dup nm i x
def same (nm : Nat → Str) (x : Str) (j : Nat) : Int := if nm j = x then 5 else 0
end Go.KB
namespace Go.KB
set_option linter.unusedVariables false
set_option maxRecDepth 100000
instance : Inhabited GStation := ⟨⟨0, 0, [], []⟩⟩
instance : Inhabited GLoad := ⟨⟨[], 0, 0, 0, 0⟩⟩
def levE (t : GStation) (i : Nat) : Int := if inR 0 100000 t.Levels[i]! = true then (if 0 < i ∧ t.Levels[i]! ≤ t.Levels[i - 1]! then 10 else 0) else 2
def halE (t : GStation) (i : Nat) : Int := if inR 0 100000 t.Halves[i]! = true then 0 else 2
def formErr (t : GStation) : Int :=
 if t.Levels.length < 2 ∨ 30 < t.Levels.length ∨ t.Halves.length + 1 ≠ t.Levels.length then 11
 else if firstErr (levE t) t.Levels.length 0 = 0 then firstErr (halE t) t.Halves.length 0 else firstErr (levE t) t.Levels.length 0
def placeErr (t : GStation) : Int := if inR (-1000000) 1000000 t.X = true ∧ inR 1 100000 t.Width = true then 0 else 2
def nextErr (b t : GStation) : Int := if t.X ≤ b.X then 10 else if 2 * (t.X - b.X) < t.Width + b.Width then 17 else 0
end Go.KB
namespace Go.KB
set_option linter.unusedVariables false
set_option maxRecDepth 100000
def staErr1 (b : Option GStation) (t : GStation) : Int :=
 if placeErr t = 0 then (match b with | none => formErr t | some x => if nextErr x t = 0 then formErr t else nextErr x t) else placeErr t
def staErr (l : List GStation) (i : Nat) : Int := staErr1 (if i = 0 then none else some l[i - 1]!) l[i]!
def numErr (l : GLoad) (least : Int) : Int := if (inR least 1000000000 l.Mass && inR (-1000000) 1000000 l.X && inR (-100000) 100000 l.Z && inR 0 1000000000 l.Free) = true then 0 else 2
def nmF (s : GShip) : Nat → Str
 | 0 => s.Light.Name
 | k + 1 => s.Items[k]!.Name
def itErr (s : GShip) (i : Nat) : Int := if isName s.Items[i]!.Name = true then (if dup (nmF s) (i + 1) s.Items[i]!.Name = true then 5 else numErr s.Items[i]! 0) else 4
def ldsErr (s : GShip) : Int := if isName s.Light.Name = true then (if numErr s.Light 1 = 0 then (if 60 < s.Items.length then 8 else firstErr (itErr s) s.Items.length 0) else numErr s.Light 1) else 4
def shpErr (s : GShip) : Int :=
 if isName s.Name = true then (if (inR 1 1000000 s.Length && inR 1 40 (s.Stations.length : Int)) = true then (if firstErr (staErr s.Stations) s.Stations.length 0 = 0 then ldsErr s else firstErr (staErr s.Stations) s.Stations.length 0) else 2) else 4
structure Tame (s : GShip) : Prop where
 st : s.Stations.length < 1000000
 it : s.Items.length < 1000000
 lv : ∀ i, i < s.Stations.length → s.Stations[i]!.Levels.length < 1000000
 hv : ∀ i, i < s.Stations.length → s.Stations[i]!.Halves.length < 1000000
 s6 : s.Stations.length ≤ 6 ∨ 40 < s.Stations.length
 i8 : s.Items.length ≤ 8 ∨ 60 < s.Items.length
 l8 : ∀ i, i < s.Stations.length → s.Stations[i]!.Levels.length ≤ 8 ∨ 30 < s.Stations[i]!.Levels.length
theorem awake_true : f_law02_awake (2 ^ 70) = some true := by kernel_rfl
end Go.KB
