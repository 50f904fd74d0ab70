/-
  DERIVED: THE SHELF's CONTRACTS AT THIS DUMP, IN PLAIN WORDS (tools/lay-plain.mjs out of 'TryIter.lean', which tools/lay-shelf.mjs wrote): THE SAME DECLARATIONS UNDER THE SAME NAMES: 'import', 'namespace', 'open', 'def', 'theorem' AND NOTHING ELSE: no command of the shelf's: FOR A HAND-IN. Each laying: the table of numbers ('.._ren') and one theorem, a field a fact of the dump's own or the kernel's comparison; each contract: ONE APPLICATION.
-/
import Derived.Shelf.SlIter.Nil
import Derived.Shelf.SlIter.Sorted
import Derived.Shelf.SortM.Plain
import Derived.Shelf.SortM.SortNone
import Derived.Shelf.SlMaps.Clone
import Derived.Ground.GgzProg
import Derived.Ground.SlgmProg
import Derived.Ground.SlmcProg
import Derived.Test.YtgljnlafjolfpaaProg
namespace Go.Proofs
open Go.Shelf
def Try.sorted25_ren : Go.Shelf.Ren := ⟨fun | 6 => 25 | 8 => 40 | 9 => 41 | 11 => 58 | 13 => 60 | 12 => 59 | 23 => 72 | 24 => 73 | 14 => 63 | 15 => 64 | 16 => 65 | 17 => 66 | 18 => 67 | 19 => 68 | 20 => 69 | 21 => 70 | 22 => 71 | 25 => 75 | 26 => 76 | 27 => 77 | 28 => 78 | 29 => 79 | 30 => 80 | 31 => 81 | n => n, fun | 26 => 9 | 28 => 56 | 24 => 53 | 0 => 0 | 3 => 3 | 37 => 58 | 48 => 98 | 50 => 73 | 4 => 4 | 40 => 91 | 39 => 90 | 45 => 95 | 5 => 5 | 9 => 9 | 51 => 100 | 55 => 104 | 57 => 106 | 58 => 107 | 33 => 48 | n => n, fun | n => n⟩
theorem Try.sorted25 : Go.Proofs.SlLaysZ.n6 Try.prog Try.sorted25_ren := {
  mixed := by kernel_rfl
  f6 := ⟨Try.f25.name, by decide, Try.func25.trans (congrArg some (by kernel_rfl))⟩
  f8 := ⟨Try.f40.name, by decide, Try.func40.trans (congrArg some (by kernel_rfl))⟩
  f11 := ⟨Try.f58.name, by decide, Try.func58.trans (congrArg some (by kernel_rfl))⟩
  t0 := Try.underlying0
  a0 := Try.isAgg0
  z0 := Try.sizeOf0
  v0 := Try.zeroValue0
  t24 := Try.underlying53
  a24 := Try.isAgg53
  z24 := Try.sizeOf53
  v24 := Try.zeroValue53
  t26 := Try.underlying9
  a26 := Try.isAgg9
  z26 := Try.sizeOf9
  v26 := Try.zeroValue9
  t28 := Try.underlying56
  a28 := Try.isAgg56
  z28 := Try.sizeOf56
  v28 := Try.zeroValue56
  i26 := by kernel_rfl }
def Try.keys26_ren : Go.Shelf.Ren := ⟨fun | 7 => 26 | 10 => 42 | n => n, fun | 23 => 50 | 26 => 9 | 3 => 35 | 28 => 56 | 0 => 0 | 27 => 55 | 33 => 48 | 4 => 4 | n => n, fun | n => n⟩
theorem Try.keys26 : Go.Proofs.SlLaysZ.n7 Try.prog Try.keys26_ren := {
  mixed := by kernel_rfl
  f7 := ⟨Try.f26.name, by decide, Try.func26.trans (congrArg some (by kernel_rfl))⟩
  f10 := ⟨Try.f42.name, by decide, Try.func42.trans (congrArg some (by kernel_rfl))⟩
  t0 := Try.underlying0
  a0 := Try.isAgg0
  z0 := Try.sizeOf0
  v0 := Try.zeroValue0
  t4 := Try.underlying4
  a4 := Try.isAgg4
  z4 := Try.sizeOf4
  v4 := Try.zeroValue4
  t23 := Try.underlying50
  a23 := Try.isAgg50
  z23 := Try.sizeOf50
  v23 := Try.zeroValue50
  t26 := Try.underlying9
  a26 := Try.isAgg9
  z26 := Try.sizeOf9
  v26 := Try.zeroValue9
  t27 := Try.underlying55
  a27 := Try.isAgg55
  z27 := Try.sizeOf55
  v27 := Try.zeroValue55
  t28 := Try.underlying56
  a28 := Try.isAgg56
  z28 := Try.sizeOf56
  v28 := Try.zeroValue56
  t33 := Try.underlying48
  a33 := Try.isAgg48
  z33 := Try.sizeOf48
  v33 := Try.zeroValue48 }
def Try.clone27_ren : Go.Shelf.Ren := ⟨fun | 5 => 27 | 7 => 43 | n => n, fun | 23 => 50 | 25 => 9 | 3 => 35 | 4 => 4 | 20 => 20 | n => n, fun | n => n⟩
theorem Try.clone27 : Go.Proofs.SlLaysW.n5 Try.prog Try.clone27_ren := {
  mixed := by kernel_rfl
  f5 := ⟨Try.f27.name, by decide, Try.func27.trans (congrArg some (by kernel_rfl))⟩
  f7 := Try.func43.trans (congrArg some (by kernel_rfl))
  t4 := Try.underlying4
  a4 := Try.isAgg4
  z4 := Try.sizeOf4
  v4 := Try.zeroValue4
  t20 := Try.underlying20
  a20 := Try.isAgg20
  z20 := Try.sizeOf20
  v20 := Try.zeroValue20
  t23 := Try.underlying50
  a23 := Try.isAgg50
  z23 := Try.sizeOf50
  v23 := Try.zeroValue50 }
def Try.sort41_ren : Go.Shelf.Ren := ⟨fun | 6 => 41 | 8 => 60 | 9 => 59 | 19 => 72 | 20 => 73 | 21 => 63 | 22 => 64 | 23 => 65 | 24 => 66 | 25 => 67 | 26 => 68 | 27 => 69 | 28 => 70 | 29 => 71 | 36 => 75 | 31 => 76 | 32 => 77 | 37 => 78 | 38 => 79 | 39 => 80 | 41 => 81 | n => n, fun | 27 => 53 | 29 => 9 | 3 => 3 | 32 => 58 | 26 => 53 | 0 => 0 | 44 => 98 | 46 => 73 | 4 => 4 | 36 => 91 | 35 => 90 | 41 => 95 | 5 => 5 | 9 => 9 | 53 => 100 | 57 => 104 | 63 => 106 | 64 => 107 | n => n, fun | n => n⟩
theorem Try.sort41 : Go.Proofs.SlLaysM.n6 Try.prog Try.sort41_ren := {
  mixed := by kernel_rfl
  f6 := ⟨Try.f41.name, by decide, Try.func41.trans (congrArg some (by kernel_rfl))⟩
  f8 := Try.func60.trans (congrArg some (by kernel_rfl))
  f9 := ⟨Try.f59.name, by decide, Try.func59.trans (congrArg some (by kernel_rfl))⟩
  f19 := Try.func72.trans (congrArg some (by kernel_rfl))
  f20 := Try.func73.trans (congrArg some (by kernel_rfl))
  f21 := ⟨Try.f63.name, by decide, Try.func63.trans (congrArg some (by kernel_rfl))⟩
  f22 := ⟨Try.f64.name, by decide, Try.func64.trans (congrArg some (by kernel_rfl))⟩
  f23 := ⟨Try.f65.name, by decide, Try.func65.trans (congrArg some (by kernel_rfl))⟩
  f24 := ⟨Try.f66.name, by decide, Try.func66.trans (congrArg some (by kernel_rfl))⟩
  f25 := ⟨Try.f67.name, by decide, Try.func67.trans (congrArg some (by kernel_rfl))⟩
  f26 := ⟨Try.f68.name, by decide, Try.func68.trans (congrArg some (by kernel_rfl))⟩
  f27 := ⟨Try.f69.name, by decide, Try.func69.trans (congrArg some (by kernel_rfl))⟩
  f28 := ⟨Try.f70.name, by decide, Try.func70.trans (congrArg some (by kernel_rfl))⟩
  f29 := ⟨Try.f71.name, by decide, Try.func71.trans (congrArg some (by kernel_rfl))⟩
  f31 := Try.func76.trans (congrArg some (by kernel_rfl))
  f32 := Try.func77.trans (congrArg some (by kernel_rfl))
  f36 := ⟨Try.f75.name, by decide, Try.func75.trans (congrArg some (by kernel_rfl))⟩
  f37 := ⟨Try.f78.name, by decide, Try.func78.trans (congrArg some (by kernel_rfl))⟩
  f38 := ⟨Try.f79.name, by decide, Try.func79.trans (congrArg some (by kernel_rfl))⟩
  f39 := ⟨Try.f80.name, by decide, Try.func80.trans (congrArg some (by kernel_rfl))⟩
  f41 := ⟨Try.f81.name, by decide, Try.func81.trans (congrArg some (by kernel_rfl))⟩
  t0 := Try.underlying0
  a0 := Try.isAgg0
  z0 := Try.sizeOf0
  v0 := Try.zeroValue0
  t3 := Try.underlying3
  a3 := Try.isAgg3
  z3 := Try.sizeOf3
  v3 := Try.zeroValue3
  t4 := Try.underlying4
  a4 := Try.isAgg4
  z4 := Try.sizeOf4
  v4 := Try.zeroValue4
  t5 := Try.underlying5
  a5 := Try.isAgg5
  z5 := Try.sizeOf5
  v5 := Try.zeroValue5
  t9 := Try.underlying9
  a9 := Try.isAgg9
  z9 := Try.sizeOf9
  v9 := Try.zeroValue9
  t26 := Try.underlying53
  a26 := Try.isAgg53
  z26 := Try.sizeOf53
  v26 := Try.zeroValue53
  t27 := Try.underlying53
  a27 := Try.isAgg53
  z27 := Try.sizeOf53
  v27 := Try.zeroValue53
  t29 := Try.underlying9
  a29 := Try.isAgg9
  z29 := Try.sizeOf9
  v29 := Try.zeroValue9
  t32 := Try.underlying58
  a32 := Try.isAgg58
  z32 := Try.sizeOf58
  v32 := Try.zeroValue58
  t35 := Try.underlying90
  a35 := Try.isAgg90
  z35 := Try.sizeOf90
  v35 := Try.zeroValue90
  t36 := Try.underlying91
  a36 := Try.isAgg91
  z36 := Try.sizeOf91
  v36 := Try.zeroValue91
  t41 := Try.underlying95
  a41 := Try.isAgg95
  z41 := Try.sizeOf95
  v41 := Try.zeroValue95
  t44 := Try.underlying98
  a44 := Try.isAgg98
  z44 := Try.sizeOf98
  v44 := Try.zeroValue98
  t46 := Try.underlying73
  a46 := Try.isAgg73
  z46 := Try.sizeOf73
  v46 := Try.zeroValue73
  t53 := Try.underlying100
  a53 := Try.isAgg100
  z53 := Try.sizeOf100
  v53 := Try.zeroValue100
  t57 := Try.underlying104
  a57 := Try.isAgg104
  z57 := Try.sizeOf104
  v57 := Try.zeroValue104
  t63 := Try.underlying106
  a63 := Try.isAgg106
  z63 := Try.sizeOf106
  v63 := Try.zeroValue106
  t64 := Try.underlying107
  a64 := Try.isAgg107
  z64 := Try.sizeOf107
  v64 := Try.zeroValue107 }
end Go.Proofs
