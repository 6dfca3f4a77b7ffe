/-
  slices.Sort, Compact and Insert of the shelf, laid at this program: a table of numbers, and a field a fact of the program's own.
-/
import Derived.Shelf.SortM.Plain
import Derived.Shelf.SortM.SortNone
import Derived.Shelf.SlicesE.Compact
import Derived.Shelf.Spec.SlicesInsert
import Derived.Shelf.Spec.SlicesInsertGrow
import Derived.Test.YtgalnnmeamldhaaGreatChecked
/- slices.Sort, Compact and Insert of the shelf, laid at this program: a table of numbers, and a field a fact of the program's own. -/
namespace Go.Proofs
open Go.Shelf
def Tryz.sortO_ren : Go.Shelf.Ren := ⟨fun | 6 => 48 | 8 => 71 | 9 => 73 | 19 => 97 | 20 => 98 | 21 => 99 | 22 => 100 | 23 => 101 | 24 => 102 | 25 => 103 | 26 => 104 | 27 => 74 | 28 => 105 | 29 => 106 | 36 => 122 | 31 => 118 | 32 => 119 | 37 => 123 | 38 => 124 | 39 => 82 | 41 => 131 | n => n, fun | 27 => 27 | 29 => 9 | 3 => 3 | 32 => 50 | 26 => 27 | 0 => 0 | 44 => 127 | 46 => 129 | 4 => 4 | 36 => 121 | 35 => 120 | 41 => 93 | 5 => 5 | 9 => 9 | 53 => 141 | 57 => 145 | 63 => 151 | 64 => 152 | n => n, fun | n => n⟩
theorem Tryz.sortO : Go.Proofs.SlLaysM.n6 Tryz.prog Tryz.sortO_ren := {
  mixed := by kernel_rfl
  f6 := ⟨Tryz.f48.name, by decide, Tryz.func48.trans (congrArg some (by kernel_rfl))⟩
  f8 := Tryz.func71.trans (congrArg some (by kernel_rfl))
  f9 := ⟨Tryz.f73.name, by decide, Tryz.func73.trans (congrArg some (by kernel_rfl))⟩
  f19 := Tryz.func97.trans (congrArg some (by kernel_rfl))
  f20 := Tryz.func98.trans (congrArg some (by kernel_rfl))
  f21 := ⟨Tryz.f99.name, by decide, Tryz.func99.trans (congrArg some (by kernel_rfl))⟩
  f22 := ⟨Tryz.f100.name, by decide, Tryz.func100.trans (congrArg some (by kernel_rfl))⟩
  f23 := ⟨Tryz.f101.name, by decide, Tryz.func101.trans (congrArg some (by kernel_rfl))⟩
  f24 := ⟨Tryz.f102.name, by decide, Tryz.func102.trans (congrArg some (by kernel_rfl))⟩
  f25 := ⟨Tryz.f103.name, by decide, Tryz.func103.trans (congrArg some (by kernel_rfl))⟩
  f26 := ⟨Tryz.f104.name, by decide, Tryz.func104.trans (congrArg some (by kernel_rfl))⟩
  f27 := ⟨Tryz.f74.name, by decide, Tryz.func74.trans (congrArg some (by kernel_rfl))⟩
  f28 := ⟨Tryz.f105.name, by decide, Tryz.func105.trans (congrArg some (by kernel_rfl))⟩
  f29 := ⟨Tryz.f106.name, by decide, Tryz.func106.trans (congrArg some (by kernel_rfl))⟩
  f31 := Tryz.func118.trans (congrArg some (by kernel_rfl))
  f32 := Tryz.func119.trans (congrArg some (by kernel_rfl))
  f36 := ⟨Tryz.f122.name, by decide, Tryz.func122.trans (congrArg some (by kernel_rfl))⟩
  f37 := ⟨Tryz.f123.name, by decide, Tryz.func123.trans (congrArg some (by kernel_rfl))⟩
  f38 := ⟨Tryz.f124.name, by decide, Tryz.func124.trans (congrArg some (by kernel_rfl))⟩
  f39 := ⟨Tryz.f82.name, by decide, Tryz.func82.trans (congrArg some (by kernel_rfl))⟩
  f41 := ⟨Tryz.f131.name, by decide, Tryz.func131.trans (congrArg some (by kernel_rfl))⟩
  t0 := Tryz.underlying0
  a0 := Tryz.isAgg0
  z0 := Tryz.sizeOf0
  v0 := Tryz.zeroValue0
  t3 := Tryz.underlying3
  a3 := Tryz.isAgg3
  z3 := Tryz.sizeOf3
  v3 := Tryz.zeroValue3
  t4 := Tryz.underlying4
  a4 := Tryz.isAgg4
  z4 := Tryz.sizeOf4
  v4 := Tryz.zeroValue4
  t5 := Tryz.underlying5
  a5 := Tryz.isAgg5
  z5 := Tryz.sizeOf5
  v5 := Tryz.zeroValue5
  t9 := Tryz.underlying9
  a9 := Tryz.isAgg9
  z9 := Tryz.sizeOf9
  v9 := Tryz.zeroValue9
  t26 := Tryz.underlying27
  a26 := Tryz.isAgg27
  z26 := Tryz.sizeOf27
  v26 := Tryz.zeroValue27
  t27 := Tryz.underlying27
  a27 := Tryz.isAgg27
  z27 := Tryz.sizeOf27
  v27 := Tryz.zeroValue27
  t29 := Tryz.underlying9
  a29 := Tryz.isAgg9
  z29 := Tryz.sizeOf9
  v29 := Tryz.zeroValue9
  t32 := Tryz.underlying50
  a32 := Tryz.isAgg50
  z32 := Tryz.sizeOf50
  v32 := Tryz.zeroValue50
  t35 := Tryz.underlying120
  a35 := Tryz.isAgg120
  z35 := Tryz.sizeOf120
  v35 := Tryz.zeroValue120
  t36 := Tryz.underlying121
  a36 := Tryz.isAgg121
  z36 := Tryz.sizeOf121
  v36 := Tryz.zeroValue121
  t41 := Tryz.underlying93
  a41 := Tryz.isAgg93
  z41 := Tryz.sizeOf93
  v41 := Tryz.zeroValue93
  t44 := Tryz.underlying127
  a44 := Tryz.isAgg127
  z44 := Tryz.sizeOf127
  v44 := Tryz.zeroValue127
  t46 := Tryz.underlying129
  a46 := Tryz.isAgg129
  z46 := Tryz.sizeOf129
  v46 := Tryz.zeroValue129
  t53 := Tryz.underlying141
  a53 := Tryz.isAgg141
  z53 := Tryz.sizeOf141
  v53 := Tryz.zeroValue141
  t57 := Tryz.underlying145
  a57 := Tryz.isAgg145
  z57 := Tryz.sizeOf145
  v57 := Tryz.zeroValue145
  t63 := Tryz.underlying151
  a63 := Tryz.isAgg151
  z63 := Tryz.sizeOf151
  v63 := Tryz.zeroValue151
  t64 := Tryz.underlying152
  a64 := Tryz.isAgg152
  z64 := Tryz.sizeOf152
  v64 := Tryz.zeroValue152 }
def Tryz.compS_ren : Go.Shelf.Ren := ⟨fun | 43 => 39 | n => n, fun | 22 => 27 | 23 => 9 | 3 => 3 | 4 => 4 | 0 => 0 | n => n, fun | n => n⟩
theorem Tryz.compS : Go.Proofs.SlLaysE.n43 Tryz.prog Tryz.compS_ren := {
  mixed := by kernel_rfl
  f43 := ⟨Tryz.f39.name, by decide, Tryz.func39.trans (congrArg some (by kernel_rfl))⟩
  t0 := Tryz.underlying0
  a0 := Tryz.isAgg0
  z0 := Tryz.sizeOf0
  v0 := Tryz.zeroValue0
  t3 := Tryz.underlying3
  a3 := Tryz.isAgg3
  z3 := Tryz.sizeOf3
  v3 := Tryz.zeroValue3
  t4 := Tryz.underlying4
  a4 := Tryz.isAgg4
  z4 := Tryz.sizeOf4
  v4 := Tryz.zeroValue4
  t22 := Tryz.underlying27
  a22 := Tryz.isAgg27
  z22 := Tryz.sizeOf27
  v22 := Tryz.zeroValue27
  a23 := Tryz.isAgg9
  z23 := Tryz.sizeOf9 }
def Tryz.insS_ren : Go.Shelf.Ren := ⟨fun | 22 => 50 | 29 => 76 | 30 => 77 | 36 => 107 | 17 => 125 | n => n, fun | 24 => 27 | 9 => 9 | 3 => 3 | 4 => 4 | 0 => 0 | n => n, fun | n => n⟩
theorem Tryz.insS : Go.Proofs.Lays2.n22 Tryz.prog Tryz.insS_ren := {
  mixed := by kernel_rfl
  f17 := Tryz.func125.trans (congrArg some (by kernel_rfl))
  f22 := Tryz.func50.trans (congrArg some (by kernel_rfl))
  f29 := Tryz.func76.trans (congrArg some (by kernel_rfl))
  f30 := Tryz.func77.trans (congrArg some (by kernel_rfl))
  f36 := Tryz.func107.trans (congrArg some (by kernel_rfl))
  t0 := Tryz.underlying0
  a0 := Tryz.isAgg0
  z0 := Tryz.sizeOf0
  v0 := Tryz.zeroValue0
  t3 := Tryz.underlying3
  a3 := Tryz.isAgg3
  z3 := Tryz.sizeOf3
  v3 := Tryz.zeroValue3
  t4 := Tryz.underlying4
  a4 := Tryz.isAgg4
  z4 := Tryz.sizeOf4
  v4 := Tryz.zeroValue4
  t9 := Tryz.underlying9
  a9 := Tryz.isAgg9
  z9 := Tryz.sizeOf9
  v9 := Tryz.zeroValue9
  t24 := Tryz.underlying27
  a24 := Tryz.isAgg27
  z24 := Tryz.sizeOf27
  v24 := Tryz.zeroValue27
  i9 := by kernel_rfl }
end Go.Proofs
