/- The library's contract of maps.Clone at this dump's map types: written by the kit's program lay-plain. No condition. -/
import Derived.Shelf.SlMaps.Clone
import Derived.Test.YtalkbgomndhkmaaGreatProg
import Derived.Test.YtalkbgomndhkmaaGreatKZf
namespace Go.Proofs
open Go.Shelf
def Tryz.layCl72_ren:Go.Shelf.Ren:=⟨fun | 5=>72 | 7=>122 | n=>n,fun | 23=>86 | 25=>9 | 3=>98 | 4=>4 | 20=>20 | n=>n,fun | n=>n⟩
theorem Tryz.layCl72:Go.Proofs.SlLaysW.n5 Tryz.prog Tryz.layCl72_ren:={
  mixed:=by kernel_rfl
  f5:=⟨Tryz.f72.name,by decide,Tryz.func72.trans (congrArg some (by kernel_rfl))⟩
  f7:=Tryz.func122.trans (congrArg some (by kernel_rfl))
  t4:=Tryz.underlying4
  a4:=Tryz.isAgg4
  z4:=Tryz.sizeOf4
  v4:=Tryz.zeroValue4
  t20:=Tryz.underlying20
  a20:=Tryz.isAgg20
  z20:=Tryz.sizeOf20
  v20:=Tryz.zeroValue20
  t23:=Tryz.underlying86
  a23:=Tryz.isAgg86
  z23:=Tryz.sizeOf86
  v23:=Tryz.zeroValue86 }
def Tryz.layCl73_ren:Go.Shelf.Ren:=⟨fun | 5=>73 | 7=>122 | n=>n,fun | 23=>87 | 25=>9 | 3=>128 | 4=>4 | 20=>20 | n=>n,fun | n=>n⟩
theorem Tryz.layCl73:Go.Proofs.SlLaysW.n5 Tryz.prog Tryz.layCl73_ren:={
  mixed:=by kernel_rfl
  f5:=⟨Tryz.f73.name,by decide,Tryz.func73.trans (congrArg some (by kernel_rfl))⟩
  f7:=Tryz.func122.trans (congrArg some (by kernel_rfl))
  t4:=Tryz.underlying4
  a4:=Tryz.isAgg4
  z4:=Tryz.sizeOf4
  v4:=Tryz.zeroValue4
  t20:=Tryz.underlying20
  a20:=Tryz.isAgg20
  z20:=Tryz.sizeOf20
  v20:=Tryz.zeroValue20
  t23:=Tryz.underlying87
  a23:=Tryz.isAgg87
  z23:=Tryz.sizeOf87
  v23:=Tryz.zeroValue87 }
def Tryz.layCl74_ren:Go.Shelf.Ren:=⟨fun | 5=>74 | 7=>122 | n=>n,fun | 23=>88 | 25=>9 | 3=>9 | 4=>4 | 20=>20 | n=>n,fun | n=>n⟩
theorem Tryz.layCl74:Go.Proofs.SlLaysW.n5 Tryz.prog Tryz.layCl74_ren:={
  mixed:=by kernel_rfl
  f5:=⟨Tryz.f74.name,by decide,Tryz.func74.trans (congrArg some (by kernel_rfl))⟩
  f7:=Tryz.func122.trans (congrArg some (by kernel_rfl))
  t4:=Tryz.underlying4
  a4:=Tryz.isAgg4
  z4:=Tryz.sizeOf4
  v4:=Tryz.zeroValue4
  t20:=Tryz.underlying20
  a20:=Tryz.isAgg20
  z20:=Tryz.sizeOf20
  v20:=Tryz.zeroValue20
  t23:=Tryz.underlying88
  a23:=Tryz.isAgg88
  z23:=Tryz.sizeOf88
  v23:=Tryz.zeroValue88 }
end Go.Proofs
namespace Go.KB
theorem Oe {α β:Type} {fk:α→Value} {rv:Rep β} {l:List (α×β)} {sv:Value} {k:Nat} (h9:Nat.beq k 9999=false):kz Go.Proofs.Tryz.prog 72 [ig sv] [(k,cZ (bf fk rv l) sv)] [.keep] (some (bf fk rv l)) bg.pG:=Bh h9 fun b es clock w hb=>Go.Proofs.AnyW.maps_Clone Go.Proofs.Tryz.layCl72 b es clock w hb
theorem Og {α β:Type} {fk:α→Value} {rv:Rep β} {l:List (α×β)} {sv:Value} {k:Nat} (h9:Nat.beq k 9999=false):kz Go.Proofs.Tryz.prog 73 [ig sv] [(k,cZ (bf fk rv l) sv)] [.keep] (some (bf fk rv l)) bg.pG:=Bh h9 fun b es clock w hb=>Go.Proofs.AnyW.maps_Clone Go.Proofs.Tryz.layCl73 b es clock w hb
theorem Oh {α β:Type} {fk:α→Value} {rv:Rep β} {l:List (α×β)} {sv:Value} {k:Nat} (h9:Nat.beq k 9999=false):kz Go.Proofs.Tryz.prog 74 [ig sv] [(k,cZ (bf fk rv l) sv)] [.keep] (some (bf fk rv l)) bg.pG:=Bh h9 fun b es clock w hb=>Go.Proofs.AnyW.maps_Clone Go.Proofs.Tryz.layCl74 b es clock w hb
end Go.KB
