/- The shelf's contracts at this program, laid in plain words. -/
import Derived.Shelf.SlIter.Nil
import Derived.Shelf.SortM.Plain
import Derived.Shelf.SortM.SortNone
import Derived.Shelf.Slices.CompactS
import Derived.Shelf.Slices.Clone
import Derived.Shelf.Spec.SearchS
import Derived.Ground.GgzProg
import Derived.Ground.SlgmProg
import Derived.Ground.NamesProg
import Derived.Ground.Names2Prog
import Derived.Test.YtnpalplnpfgibaaBytes
namespace Go.Proofs.Ytnpalplnpfgibaa
open Go.RowKit Go.Maps Go.Sort Go.Shelf
def Try.sortedF_ren : Go.Shelf.Ren := ⟨fun | 6 => 79 | 8 => 107 | 9 => 108 | 11 => 125 | 13 => 117 | 12 => 126 | 23 => 137 | 24 => 138 | 14 => 150 | 15 => 151 | 16 => 152 | 17 => 153 | 18 => 154 | 19 => 155 | 20 => 110 | 21 => 156 | 22 => 157 | 25 => 176 | 26 => 159 | 27 => 160 | 28 => 177 | 29 => 178 | 30 => 127 | 31 => 184 | n => n, fun | 26 => 9 | 28 => 150 | 24 => 81 | 0 => 0 | 3 => 3 | 37 => 175 | 48 => 67 | 50 => 28 | 4 => 4 | 40 => 191 | 39 => 190 | 45 => 70 | 5 => 5 | 9 => 9 | 51 => 210 | 55 => 214 | 57 => 225 | 58 => 226 | 33 => 174 | n => n, fun | n => n⟩
theorem Try.sortedF : Go.Proofs.SlLaysZ.n6 Try.prog Try.sortedF_ren := {
  mixed := by kernel_rfl
  f6 := ⟨Try.f79.name, by decide, Try.func79.trans (congrArg some (by kernel_rfl))⟩
  f8 := ⟨Try.f107.name, by decide, Try.func107.trans (congrArg some (by kernel_rfl))⟩
  f11 := ⟨Try.f125.name, by decide, Try.func125.trans (congrArg some (by kernel_rfl))⟩
  t0 := Try.underlying0
  a0 := Try.isAgg0
  z0 := Try.sizeOf0
  v0 := Try.zeroValue0
  t24 := Try.underlying81
  a24 := Try.isAgg81
  z24 := Try.sizeOf81
  v24 := Try.zeroValue81
  t26 := Try.underlying9
  a26 := Try.isAgg9
  z26 := Try.sizeOf9
  v26 := Try.zeroValue9
  t28 := Try.underlying150
  a28 := Try.isAgg150
  z28 := Try.sizeOf150
  v28 := Try.zeroValue150
  i26 := by kernel_rfl }
def Try.sortF_ren : Go.Shelf.Ren := ⟨fun | 6 => 108 | 8 => 117 | 9 => 126 | 19 => 137 | 20 => 138 | 21 => 150 | 22 => 151 | 23 => 152 | 24 => 153 | 25 => 154 | 26 => 155 | 27 => 110 | 28 => 156 | 29 => 157 | 36 => 176 | 31 => 159 | 32 => 160 | 37 => 177 | 38 => 178 | 39 => 127 | 41 => 184 | n => n, fun | 27 => 81 | 29 => 9 | 3 => 3 | 32 => 175 | 26 => 81 | 0 => 0 | 44 => 67 | 46 => 28 | 4 => 4 | 36 => 191 | 35 => 190 | 41 => 70 | 5 => 5 | 9 => 9 | 53 => 210 | 57 => 214 | 63 => 225 | 64 => 226 | n => n, fun | n => n⟩
theorem Try.sortF : Go.Proofs.SlLaysM.n6 Try.prog Try.sortF_ren := {
  mixed := by kernel_rfl
  f6 := ⟨Try.f108.name, by decide, Try.func108.trans (congrArg some (by kernel_rfl))⟩
  f8 := Try.func117.trans (congrArg some (by kernel_rfl))
  f9 := ⟨Try.f126.name, by decide, Try.func126.trans (congrArg some (by kernel_rfl))⟩
  f19 := Try.func137.trans (congrArg some (by kernel_rfl))
  f20 := Try.func138.trans (congrArg some (by kernel_rfl))
  f21 := ⟨Try.f150.name, by decide, Try.func150.trans (congrArg some (by kernel_rfl))⟩
  f22 := ⟨Try.f151.name, by decide, Try.func151.trans (congrArg some (by kernel_rfl))⟩
  f23 := ⟨Try.f152.name, by decide, Try.func152.trans (congrArg some (by kernel_rfl))⟩
  f24 := ⟨Try.f153.name, by decide, Try.func153.trans (congrArg some (by kernel_rfl))⟩
  f25 := ⟨Try.f154.name, by decide, Try.func154.trans (congrArg some (by kernel_rfl))⟩
  f26 := ⟨Try.f155.name, by decide, Try.func155.trans (congrArg some (by kernel_rfl))⟩
  f27 := ⟨Try.f110.name, by decide, Try.func110.trans (congrArg some (by kernel_rfl))⟩
  f28 := ⟨Try.f156.name, by decide, Try.func156.trans (congrArg some (by kernel_rfl))⟩
  f29 := ⟨Try.f157.name, by decide, Try.func157.trans (congrArg some (by kernel_rfl))⟩
  f31 := Try.func159.trans (congrArg some (by kernel_rfl))
  f32 := Try.func160.trans (congrArg some (by kernel_rfl))
  f36 := ⟨Try.f176.name, by decide, Try.func176.trans (congrArg some (by kernel_rfl))⟩
  f37 := ⟨Try.f177.name, by decide, Try.func177.trans (congrArg some (by kernel_rfl))⟩
  f38 := ⟨Try.f178.name, by decide, Try.func178.trans (congrArg some (by kernel_rfl))⟩
  f39 := ⟨Try.f127.name, by decide, Try.func127.trans (congrArg some (by kernel_rfl))⟩
  f41 := ⟨Try.f184.name, by decide, Try.func184.trans (congrArg some (by kernel_rfl))⟩
  t0 := Try.underlying0
  a0 := Try.isAgg0
  z0 := Try.sizeOf0
  v0 := Try.zeroValue0
  t3 := Try.underlying3
  a3 := Try.isAgg3
  z3 := Try.sizeOf3
  v3 := Try.zeroValue3
  t4 := Try.underlying4
  a4 := Try.isAgg4
  z4 := Try.sizeOf4
  v4 := Try.zeroValue4
  t5 := Try.underlying5
  a5 := Try.isAgg5
  z5 := Try.sizeOf5
  v5 := Try.zeroValue5
  t9 := Try.underlying9
  a9 := Try.isAgg9
  z9 := Try.sizeOf9
  v9 := Try.zeroValue9
  t26 := Try.underlying81
  a26 := Try.isAgg81
  z26 := Try.sizeOf81
  v26 := Try.zeroValue81
  t27 := Try.underlying81
  a27 := Try.isAgg81
  z27 := Try.sizeOf81
  v27 := Try.zeroValue81
  t29 := Try.underlying9
  a29 := Try.isAgg9
  z29 := Try.sizeOf9
  v29 := Try.zeroValue9
  t32 := Try.underlying175
  a32 := Try.isAgg175
  z32 := Try.sizeOf175
  v32 := Try.zeroValue175
  t35 := Try.underlying190
  a35 := Try.isAgg190
  z35 := Try.sizeOf190
  v35 := Try.zeroValue190
  t36 := Try.underlying191
  a36 := Try.isAgg191
  z36 := Try.sizeOf191
  v36 := Try.zeroValue191
  t41 := Try.underlying70
  a41 := Try.isAgg70
  z41 := Try.sizeOf70
  v41 := Try.zeroValue70
  t44 := Try.underlying67
  a44 := Try.isAgg67
  z44 := Try.sizeOf67
  v44 := Try.zeroValue67
  t46 := Try.underlying28
  a46 := Try.isAgg28
  z46 := Try.sizeOf28
  v46 := Try.zeroValue28
  t53 := Try.underlying210
  a53 := Try.isAgg210
  z53 := Try.sizeOf210
  v53 := Try.zeroValue210
  t57 := Try.underlying214
  a57 := Try.isAgg214
  z57 := Try.sizeOf214
  v57 := Try.zeroValue214
  t63 := Try.underlying225
  a63 := Try.isAgg225
  z63 := Try.sizeOf225
  v63 := Try.zeroValue225
  t64 := Try.underlying226
  a64 := Try.isAgg226
  z64 := Try.sizeOf226
  v64 := Try.zeroValue226 }
def Try.compactF_ren : Go.Shelf.Ren := ⟨fun | 194 => 78 | n => n, fun | 31 => 81 | 9 => 9 | 3 => 3 | 4 => 4 | 0 => 0 | n => n, fun | n => n⟩
theorem Try.compactF : Go.Proofs.Lays.n194 Try.prog Try.compactF_ren := {
  mixed := by kernel_rfl
  f194 := Try.func78.trans (congrArg some (by kernel_rfl))
  t0 := Try.underlying0
  a0 := Try.isAgg0
  z0 := Try.sizeOf0
  v0 := Try.zeroValue0
  t3 := Try.underlying3
  a3 := Try.isAgg3
  z3 := Try.sizeOf3
  v3 := Try.zeroValue3
  t4 := Try.underlying4
  a4 := Try.isAgg4
  z4 := Try.sizeOf4
  v4 := Try.zeroValue4
  t9 := Try.underlying9
  a9 := Try.isAgg9
  z9 := Try.sizeOf9
  v9 := Try.zeroValue9
  t31 := Try.underlying81
  a31 := Try.isAgg81
  z31 := Try.sizeOf81
  v31 := Try.zeroValue81 }
def Try.cloneF_ren : Go.Shelf.Ren := ⟨fun | 16 => 81 | n => n, fun | 24 => 81 | 9 => 9 | 4 => 4 | n => n, fun | n => n⟩
theorem Try.cloneF : Go.Proofs.Lays2.n16 Try.prog Try.cloneF_ren := {
  mixed := by kernel_rfl
  f16 := Try.func81.trans (congrArg some (by kernel_rfl))
  t4 := Try.underlying4
  a4 := Try.isAgg4
  z4 := Try.sizeOf4
  v4 := Try.zeroValue4
  t9 := Try.underlying9
  a9 := Try.isAgg9
  z9 := Try.sizeOf9
  v9 := Try.zeroValue9
  t24 := Try.underlying81
  a24 := Try.isAgg81
  z24 := Try.sizeOf81
  v24 := Try.zeroValue81
  i9 := by kernel_rfl }
def Try.searchF_ren : Go.Shelf.Ren := ⟨fun | 26 => 83 | 33 => 110 | 34 => 111 | 38 => 127 | n => n, fun | 24 => 81 | 9 => 9 | 3 => 3 | 4 => 4 | 40 => 175 | 0 => 0 | n => n, fun | n => n⟩
theorem Try.searchF : Go.Proofs.Lays2.n26 Try.prog Try.searchF_ren := {
  mixed := by kernel_rfl
  f26 := Try.func83.trans (congrArg some (by kernel_rfl))
  f33 := Try.func110.trans (congrArg some (by kernel_rfl))
  f34 := Try.func111.trans (congrArg some (by kernel_rfl))
  f38 := Try.func127.trans (congrArg some (by kernel_rfl))
  t0 := Try.underlying0
  a0 := Try.isAgg0
  z0 := Try.sizeOf0
  v0 := Try.zeroValue0
  t3 := Try.underlying3
  a3 := Try.isAgg3
  z3 := Try.sizeOf3
  v3 := Try.zeroValue3
  t4 := Try.underlying4
  a4 := Try.isAgg4
  z4 := Try.sizeOf4
  v4 := Try.zeroValue4
  t9 := Try.underlying9
  a9 := Try.isAgg9
  z9 := Try.sizeOf9
  v9 := Try.zeroValue9
  t24 := Try.underlying81
  a24 := Try.isAgg81
  z24 := Try.sizeOf81
  v24 := Try.zeroValue81
  t40 := Try.underlying175
  a40 := Try.isAgg175
  z40 := Try.sizeOf175
  v40 := Try.zeroValue175 }
end Go.Proofs.Ytnpalplnpfgibaa
