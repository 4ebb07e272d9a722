/- Functions of Go's library on words and numbers, by the kit's contracts; error values. For a seat whose row lists variables. No condition. -/
import Derived.Laws.BytesArg
import Derived.Test.YtdmioehoinnamaaGreatDoorKLib
import Derived.WideLaws
import Derived.Lib.ItoaNum
import Derived.Lib.AtoiAll
import Derived.Lib.Join
import Derived.Lib.Split
import Derived.Lib.SplitLaws
import Derived.Sort.Grow
namespace Go.KB
open RowKit Go.Proofs
variable {P:Program} {α β:Type}
def Rep.err:Rep Bool where
 sz:=1
 agg:=false
 rel:=fun _ cs x=>∃ v,cs=[v]∧((x=false∧v = .nilIface)∨(x=true∧∃ t p,v = .iface t p))
 zero:=false
 zc:=[.nilIface]
 one:=fun _=>rfl
 len:=fun ⟨v,e,_⟩=>by rw [e];rfl
 flat:=fun ⟨v,e,k⟩ c hc=>by
  rw [e] at hc;simp at hc;rw [hc]
  rcases k with ⟨_,rfl⟩ | ⟨_,t,p,rfl⟩ <;> rfl
 mono:=fun _ e=>e
 xX:=fun _=>⟨_,rfl,.inl ⟨rfl,rfl⟩⟩
theorem St.belowG {κ:Type} {B:Base} {h:H} {L:κ→Option gq} {w w':World} (s:St B h L w) (hb:RowKit.Below w.heap.size w w'):St B h L w':=s.below hb (fun e=>e.elim)
section
variable {o:Oper} {N:List (Nat×aQ)}
end
def inI (n:Int):Bool:=decide (-9223372036854775808≤n)&&decide (n≤9223372036854775807)
theorem Rj {n:Int} (h:inI n=true):-9223372036854775808≤n∧n≤9223372036854775807:=by simpa [inI] using h
def UO (n:Int):Option Str:=bif inI n then some (Lib.itoa n) else none
theorem XK {f:FuncId} {n:Int} {r:Str} (H:UO n=some r)
  (hc:∀ w,GF w → -9223372036854775808≤n→n≤9223372036854775807→Calls P f #[.int .i64 n] w fun e w'=>e = .returned (.string ⟨(Lib.itoa n).toArray⟩)∧∃ k os,w'=Sort.grow (w.drewN k) os):FnOk P f [fV (Rep.int .i64) n] (fV Rep.str r):=by
 unfold UO at H
 cases hi:inI n with
 | false=>rw [hi] at H;cases H
 | true =>
  rw [hi] at H;cases H
  intro κ B L h w vs hst hl hargs
  obtain ⟨a,rfl⟩:∃ a,vs=[a]:=by
   match vs,hl with
   | [a],_=>exact ⟨a,rfl⟩
  have ha:=eF.1 (hargs 0 _ a rfl rfl)
  subst ha
  refine (hc w (gP_of hst.gok.2) (Rj hi).1 (Rj hi).2).mono ?_
  rintro e w' ⟨rfl,k,os,rfl⟩
  exact ⟨_,h,rfl,nI.refl h,hst.belowG ⟨rfl,rfl,rfl,by simp [Sort.grow,World.drewN],fun j hj=>by simp only [Sort.grow,World.drewN];exact Array.getElem?_append_left hj⟩,wZ.2 rfl⟩
end Go.KB
