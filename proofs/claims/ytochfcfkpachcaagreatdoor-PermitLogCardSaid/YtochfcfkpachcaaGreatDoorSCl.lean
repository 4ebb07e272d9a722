/- The library's contract of maps.Clone at this dump's map types: written by the kit's program lay-plain. No condition. -/
import Derived.Shelf.SlMaps.Clone
import Derived.Test.YtochfcfkpachcaaGreatDoorProg
import Derived.Test.YtochfcfkpachcaaGreatDoorKZf
namespace Go.Proofs
open Go.Shelf
def Tryz.layCl85_ren:Go.Shelf.Ren:=⟨fun | 5=>85 | 7=>119 | n=>n,fun | 23=>63 | 25=>9 | 3=>69 | 4=>4 | 20=>20 | n=>n,fun | n=>n⟩
theorem Tryz.layCl85:Go.Proofs.SlLaysW.n5 Tryz.prog Tryz.layCl85_ren:={
  mixed:=by kernel_rfl
  f5:=⟨Tryz.f85.name,by decide,Tryz.func85.trans (congrArg some (by kernel_rfl))⟩
  f7:=Tryz.func119.trans (congrArg some (by kernel_rfl))
  t4:=Tryz.underlying4
  a4:=Tryz.isAgg4
  z4:=Tryz.sizeOf4
  v4:=Tryz.zeroValue4
  t20:=Tryz.underlying20
  a20:=Tryz.isAgg20
  z20:=Tryz.sizeOf20
  v20:=Tryz.zeroValue20
  t23:=Tryz.underlying63
  a23:=Tryz.isAgg63
  z23:=Tryz.sizeOf63
  v23:=Tryz.zeroValue63 }
def Tryz.layCl86_ren:Go.Shelf.Ren:=⟨fun | 5=>86 | 7=>119 | n=>n,fun | 23=>64 | 25=>9 | 3=>139 | 4=>4 | 20=>20 | n=>n,fun | n=>n⟩
theorem Tryz.layCl86:Go.Proofs.SlLaysW.n5 Tryz.prog Tryz.layCl86_ren:={
  mixed:=by kernel_rfl
  f5:=⟨Tryz.f86.name,by decide,Tryz.func86.trans (congrArg some (by kernel_rfl))⟩
  f7:=Tryz.func119.trans (congrArg some (by kernel_rfl))
  t4:=Tryz.underlying4
  a4:=Tryz.isAgg4
  z4:=Tryz.sizeOf4
  v4:=Tryz.zeroValue4
  t20:=Tryz.underlying20
  a20:=Tryz.isAgg20
  z20:=Tryz.sizeOf20
  v20:=Tryz.zeroValue20
  t23:=Tryz.underlying64
  a23:=Tryz.isAgg64
  z23:=Tryz.sizeOf64
  v23:=Tryz.zeroValue64 }
def Tryz.layCl87_ren:Go.Shelf.Ren:=⟨fun | 5=>87 | 7=>119 | n=>n,fun | 23=>65 | 25=>9 | 3=>9 | 4=>4 | 20=>20 | n=>n,fun | n=>n⟩
theorem Tryz.layCl87:Go.Proofs.SlLaysW.n5 Tryz.prog Tryz.layCl87_ren:={
  mixed:=by kernel_rfl
  f5:=⟨Tryz.f87.name,by decide,Tryz.func87.trans (congrArg some (by kernel_rfl))⟩
  f7:=Tryz.func119.trans (congrArg some (by kernel_rfl))
  t4:=Tryz.underlying4
  a4:=Tryz.isAgg4
  z4:=Tryz.sizeOf4
  v4:=Tryz.zeroValue4
  t20:=Tryz.underlying20
  a20:=Tryz.isAgg20
  z20:=Tryz.sizeOf20
  v20:=Tryz.zeroValue20
  t23:=Tryz.underlying65
  a23:=Tryz.isAgg65
  z23:=Tryz.sizeOf65
  v23:=Tryz.zeroValue65 }
end Go.Proofs
namespace Go.KB
theorem Tn {α β:Type} {fk:α→Value} {rv:Rep β} {l:List (α×β)} {sv:Value} {k:Nat} (h9:Nat.beq k 9999=false):iH Go.Proofs.Tryz.prog 85 [fJ sv] [(k,dm (bI fk rv l) sv)] [.keep] (some (bI fk rv l)) bD.qy:=EW h9 fun b es clock w hb=>Go.Proofs.AnyW.maps_Clone Go.Proofs.Tryz.layCl85 b es clock w hb
theorem Tq {α β:Type} {fk:α→Value} {rv:Rep β} {l:List (α×β)} {sv:Value} {k:Nat} (h9:Nat.beq k 9999=false):iH Go.Proofs.Tryz.prog 86 [fJ sv] [(k,dm (bI fk rv l) sv)] [.keep] (some (bI fk rv l)) bD.qy:=EW h9 fun b es clock w hb=>Go.Proofs.AnyW.maps_Clone Go.Proofs.Tryz.layCl86 b es clock w hb
theorem Tt {α β:Type} {fk:α→Value} {rv:Rep β} {l:List (α×β)} {sv:Value} {k:Nat} (h9:Nat.beq k 9999=false):iH Go.Proofs.Tryz.prog 87 [fJ sv] [(k,dm (bI fk rv l) sv)] [.keep] (some (bI fk rv l)) bD.qy:=EW h9 fun b es clock w hb=>Go.Proofs.AnyW.maps_Clone Go.Proofs.Tryz.layCl87 b es clock w hb
end Go.KB
