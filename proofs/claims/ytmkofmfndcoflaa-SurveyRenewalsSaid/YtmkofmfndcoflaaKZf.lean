/- Raw cells, variables that hold maps, variables that are captured or that go to keys that are no slots. Functions as numbers, slices of which nil is known, regions in parts, objects that are handed back. Variables of which several fields are rows or maps that are owned. clear of the end of a row that is owned. Struct values of which several fields are rows that are owned: variables, arguments, results. maps.Clone: a copy of a map that is owned. No condition. -/
import Derived.Test.YtmkofmfndcoflaaKZe
import Derived.Lib.LazyBuf
namespace Go.KB
variable {P:Program} {o:Oper} {N:List (Nat×aC)} {α β:Type}
section
variable {κ:Type} {B:Base} {h0:H} {Γ:Ctx} {Λ:Own} {F:κ→Option dZ} {n:Nat} {a:Act} {w:World}
end
end Go.KB
namespace Go.KB
variable {P:Program} {o:Oper} {N:List (Nat×aC)} {α β:Type}
def FW:List (Nat×dS)→List Po→List Po→Prop
 | (_,q0) :: r,p :: ps,p' :: ps'=>(p'=p∨(p = .keep∧p' = .to q0))∧FW r ps ps'
 | [],[],[]=>True
 | _,_,_=>False
theorem FW.ok {E:Nat→Option dZ} {g:Nat→Value}:∀ {pre:List (Nat×dS)} {ps ps':List Po},FW pre ps ps'→AB pre ps E g→AB pre ps' E g:=by
 intro pre
 induction pre with
 | nil=>intro ps ps' h _;cases ps <;> cases ps' <;> first | trivial | exact h.elim
 | cons x r ih =>
  obtain ⟨k,q0⟩:=x
  intro ps ps' h hp
  cases ps with
  | nil=>exact h.elim
  | cons p ps=>cases ps' with
   | nil=>exact h.elim
   | cons p' ps' =>
    obtain ⟨h1,h2⟩:=h
    refine ⟨?_,ih h2 hp.2⟩
    rcases h1 with rfl | ⟨rfl,rfl⟩
    ·exact hp.1
    ·exact hp.1
theorem Ij.post {f:FuncId} {args:List aC} {pre:List (Nat×dS)} {ps ps':List Po} {own:Option dS} {res:aC} (h:Ij P f args pre ps own res) (hw:FW pre ps ps'):Ij P f args pre ps' own res:=by
 intro κ B L h0 w vs E hst hl hpre hargs
 exact (h κ B L h0 w vs E hst hl hpre hargs).mono fun e w' ⟨u,h',E',a,b,c,d,x,y⟩=>⟨u,h',E',a,b,c,hw.ok d,x,y⟩
section
variable {ρ:Option Nat} {κ:Type} {B:Base} {h0:H} {Γ:Ctx} {Λ:Own} {F:κ→Option dZ} {n:Nat} {ops:Array Oper} {a:Act} {w:World} {Q:Exit→Act→World→Prop}
end
section
variable {κ:Type} {B:Base} {h0:H} {Γ:Ctx} {Λ:Own} {F:κ→Option dZ} {n:Nat} {a:Act} {w:World} {vM:Nat→Value} {pre:List (Nat×dS)} {post:List Po}
end
end Go.KB
namespace Go.KB
variable {P:Program} {o:Oper} {N:List (Nat×aC)} {α β ρ:Type}
section
variable {κ:Type} {B:Base} {h:H} {L:Nat→Option dZ} {F:κ→Option dZ} {w:World}
end
section
variable {κ:Type} {B:Base} {h0:H} {Γ:Ctx} {Λ:Own} {F:κ→Option dZ} {n:Nat} {a:Act} {w:World}
end
end Go.KB
namespace Go.KB
variable {P:Program} {o:Oper} {N:List (Nat×aC)} {α β:Type}
theorem opdF {P:Program} {N:List (Nat×aC)} {ι:Type} {A:ι→List aC} {R:ι→aC} {f:FuncId} {fn:Func} (hc:∀ i,FnOk P f (A i) (R i)) (hf:P.funcs[f]? = some fn) (hb:kJ fn=true):aT N (.func f) (fF P A R) :=
 fun h a _=>⟨f,fn,#[],rfl,hf,hb,fun i κ B L h' w' vs hl hst hvl hvs=>by simpa using hc i κ B L h' w' vs hst hvl hvs⟩
theorem opdF2 {P:Program} {N:List (Nat×aC)} {α β γ:Type} {r:Rep α} {s:Rep γ} {q:Rep β} {φ:α→γ→Option β} {f:FuncId} {fn:Func} (hc:∀ x y z,φ x y=some z→FnOk P f [fV r x,fV s y] (fV q z)) (hf:P.funcs[f]? = some fn) (hb:kJ fn=true):aT N (.func f) (fF2 P r s q φ):=opdF (fun i=>hc _ _ _ i.2) hf hb
end Go.KB
namespace Go.KB
variable {P:Program} {o:Oper} {N:List (Nat×aC)} {α β ρ:Type}
section
variable {κ:Type} {B:Base} {h0:H} {Γ:Ctx} {Λ:Own} {F:κ→Option dZ} {n:Nat} {a:Act} {w:World}
end
end Go.KB
namespace Go.KB
variable {P:Program} {α β:Type}
section
variable {ρ:Option Nat} {κ:Type} {B:Base} {h0:H} {Γ:Ctx} {Λ:Own} {F:κ→Option dZ} {n:Nat} {a:Act} {w:World} {vM:Nat→Value} {pre:List (Nat×dS)} {post:List Po}
end
end Go.KB
