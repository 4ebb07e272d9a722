/- Plain laws: limits and names. No condition. -/
import Derived.Test.YtbedbjphickpaaaPBase
namespace Go.KB
def inR (lo hi n : Int) : Bool := decide (lo ≤ n) && decide (n ≤ hi)
def chr (c : UInt8) : Int := ((UInt8.toNat c : Nat) : Int)
def isLetter (c : UInt8) : Bool := (decide (97 ≤ chr c) && decide (chr c ≤ 122)) || (decide (65 ≤ chr c) && decide (chr c ≤ 90))
def isNameChar (c : UInt8) : Bool := isLetter c || decide (chr c = 45) || (decide (48 ≤ chr c) && decide (chr c ≤ 57))
def isName (s : Str) : Bool := match s with | [] => false | c :: r => decide (r.length < 12) && isLetter c && r.all isNameChar
end Go.KB
