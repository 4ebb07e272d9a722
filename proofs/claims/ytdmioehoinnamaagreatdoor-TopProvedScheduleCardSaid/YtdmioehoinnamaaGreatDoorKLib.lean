/- Functions of Go's library, by the kit's contracts; elements of a slice of maps. No condition. -/
import Derived.Test.YtdmioehoinnamaaGreatDoorKZf
import Derived.Lib.Bytealg
import Derived.LoopNIn
namespace Go.KB
variable {P:Program} {o:Oper} {N:List (Nat×aQ)} {α β:Type}
theorem okL_ss {f:FuncId} {r:Rep α} {x0 x1:Str} {z:α} {v:Value} (hv:∀ h,r.val h v z) (hc:∀ w,Calls P f #[.string ⟨x0.toArray⟩,.string ⟨x1.toArray⟩] w fun e w'=>e = .returned v∧w'=w):FnOk P f [fV Rep.str x0,fV Rep.str x1] (fV r z):=by
  intro κ B L h w vs hst hl hargs
  obtain ⟨a,b,rfl⟩:∃ a b,vs=[a,b]:=by
    match vs,hl with
    | [a,b],_=>exact ⟨a,b,rfl⟩
  have ha:=wZ.1 (hargs 0 _ a rfl rfl)
  have hb:=wZ.1 (hargs 1 _ b rfl rfl)
  subst ha hb
  refine (hc w).mono ?_
  rintro e w' ⟨rfl,rfl⟩
  exact ⟨v,h,rfl,nI.refl h,hst,hv h⟩
def selI2 {γ:Type} (n:Int) (a b:Option γ):Option γ:=bif decide (n=0) then a else bif decide (n=1) then b else none
def selI3 {γ:Type} (n:Int) (a b c:Option γ):Option γ:=bif decide (n=0) then a else bif decide (n=1) then b else bif decide (n=2) then c else none
theorem selI2_some {γ:Type} {n:Int} {a b:Option γ} {r:γ} (H:selI2 n a b=some r):(n=0∧a=some r)∨(n=1∧b=some r):=by
  unfold selI2 at H
  by_cases h0:n=0
  · rw [decide_eq_true h0] at H;exact .inl ⟨h0,H⟩
  · rw [decide_eq_false h0] at H
    by_cases h1:n=1
    · rw [decide_eq_true h1] at H;exact .inr ⟨h1,H⟩
    · rw [decide_eq_false h1] at H;cases H
theorem selI3_some {γ:Type} {n:Int} {a b c:Option γ} {r:γ} (H:selI3 n a b c=some r):(n=0∧a=some r)∨(n=1∧b=some r)∨(n=2∧c=some r):=by
  unfold selI3 at H
  by_cases h0:n=0
  · rw [decide_eq_true h0] at H;exact .inl ⟨h0,H⟩
  · rw [decide_eq_false h0] at H
    by_cases h1:n=1
    · rw [decide_eq_true h1] at H;exact .inr (.inl ⟨h1,H⟩)
    · rw [decide_eq_false h1] at H
      by_cases h2:n=2
      · rw [decide_eq_true h2] at H;exact .inr (.inr ⟨h2,H⟩)
      · rw [decide_eq_false h2] at H;cases H
theorem ok_lenL {T E:TypeId} {r:Rep α} {x:Operand} {xs:List α} {n:Nat} (hn:xs.length=n) (hT:P.underlying T=some (.slice E)) (ho:o.op = .call { callee:=.builtin .len,args:=#[x],argTypes:=#[T] }) (hx:bF N x (fV (Rep.slice r) xs)) :
    di P o N [] (fV (Rep.int .i64) (n:Int)) []:=by subst hn;exact cO hT ho hx
theorem wp_rounds {ρ:Option Nat} {Q:Exit→Act→World→Prop} {a:Act} {w:World} {c:Code} (m:Nat) (h:Code.roundsIn (LG ρ) 0 P c Q m a w):(Code.loop c).rJ ρ P Q a w:=wpIn_loop_rounds m h
theorem rds {ρ:Option Nat} {Q:Exit→Act→World→Prop} {a:Act} {w:World} {c:Code} {m:Nat} (h:c.rJ ρ P (Exit.then (Code.roundsIn (LG ρ) 0 P c Q m) Q) a w):Code.roundsIn (LG ρ) 0 P c Q (m+1) a w:=h
theorem di.cB {r:Rep Bool} {x y:Bool} {K:List (Nat×eP)} {U:Hr} (h:di P o N K (fV r x) U) (e:x=y):di P o N K (fV r y) U:=e ▸ h
theorem di.cI {r:Rep Int} {x y:Int} {K:List (Nat×eP)} {U:Hr} (h:di P o N K (fV r x) U) (e:x=y):di P o N K (fV r y) U:=e ▸ h
end Go.KB
