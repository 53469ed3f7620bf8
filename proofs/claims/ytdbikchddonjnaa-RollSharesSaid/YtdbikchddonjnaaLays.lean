/- The library's contracts at this program: tables of numbers and what ties them to the program's functions. Made by the kit's lay-plain.mjs. -/
import Derived.Shelf.SortM.Plain
import Derived.Shelf.SortM.SortNone
import Derived.Shelf.SlicesE.Clone
import Derived.Shelf.SlicesQ.IndexFunc
import Derived.Shelf.SlicesG.CompactS
import Derived.Ground.SlgmProg
import Derived.Ground.SlgnProg
import Derived.Ground.SlgfProg
import Derived.Test.YtdbikchddonjnaaProg
namespace Go.Proofs
open Go.Shelf
def Try.sortA_ren : Go.Shelf.Ren := ⟨fun | 6 => 32 | 8 => 36 | 9 => 35 | 19 => 47 | 20 => 48 | 21 => 38 | 22 => 39 | 23 => 40 | 24 => 41 | 25 => 42 | 26 => 43 | 27 => 44 | 28 => 45 | 29 => 46 | 36 => 50 | 31 => 51 | 32 => 52 | 37 => 53 | 38 => 54 | 39 => 55 | 41 => 56 | n => n, fun | 27 => 31 | 29 => 9 | 3 => 3 | 32 => 66 | 26 => 31 | 0 => 0 | 44 => 77 | 46 => 79 | 4 => 4 | 36 => 69 | 35 => 68 | 41 => 74 | 5 => 5 | 9 => 9 | 53 => 81 | 57 => 85 | 63 => 87 | 64 => 88 | n => n, fun | n => n⟩
theorem Try.sortA : Go.Proofs.SlLaysM.n6 Try.prog Try.sortA_ren := {
  mixed := by kernel_rfl
  f6 := ⟨Try.f32.name, by decide, Try.func32.trans (congrArg some (by kernel_rfl))⟩
  f8 := Try.func36.trans (congrArg some (by kernel_rfl))
  f9 := ⟨Try.f35.name, by decide, Try.func35.trans (congrArg some (by kernel_rfl))⟩
  f19 := Try.func47.trans (congrArg some (by kernel_rfl))
  f20 := Try.func48.trans (congrArg some (by kernel_rfl))
  f21 := ⟨Try.f38.name, by decide, Try.func38.trans (congrArg some (by kernel_rfl))⟩
  f22 := ⟨Try.f39.name, by decide, Try.func39.trans (congrArg some (by kernel_rfl))⟩
  f23 := ⟨Try.f40.name, by decide, Try.func40.trans (congrArg some (by kernel_rfl))⟩
  f24 := ⟨Try.f41.name, by decide, Try.func41.trans (congrArg some (by kernel_rfl))⟩
  f25 := ⟨Try.f42.name, by decide, Try.func42.trans (congrArg some (by kernel_rfl))⟩
  f26 := ⟨Try.f43.name, by decide, Try.func43.trans (congrArg some (by kernel_rfl))⟩
  f27 := ⟨Try.f44.name, by decide, Try.func44.trans (congrArg some (by kernel_rfl))⟩
  f28 := ⟨Try.f45.name, by decide, Try.func45.trans (congrArg some (by kernel_rfl))⟩
  f29 := ⟨Try.f46.name, by decide, Try.func46.trans (congrArg some (by kernel_rfl))⟩
  f31 := Try.func51.trans (congrArg some (by kernel_rfl))
  f32 := Try.func52.trans (congrArg some (by kernel_rfl))
  f36 := ⟨Try.f50.name, by decide, Try.func50.trans (congrArg some (by kernel_rfl))⟩
  f37 := ⟨Try.f53.name, by decide, Try.func53.trans (congrArg some (by kernel_rfl))⟩
  f38 := ⟨Try.f54.name, by decide, Try.func54.trans (congrArg some (by kernel_rfl))⟩
  f39 := ⟨Try.f55.name, by decide, Try.func55.trans (congrArg some (by kernel_rfl))⟩
  f41 := ⟨Try.f56.name, by decide, Try.func56.trans (congrArg some (by kernel_rfl))⟩
  t0 := Try.underlying0
  a0 := Try.isAgg0
  z0 := Try.sizeOf0
  v0 := Try.zeroValue0
  t3 := Try.underlying3
  a3 := Try.isAgg3
  z3 := Try.sizeOf3
  v3 := Try.zeroValue3
  t4 := Try.underlying4
  a4 := Try.isAgg4
  z4 := Try.sizeOf4
  v4 := Try.zeroValue4
  t5 := Try.underlying5
  a5 := Try.isAgg5
  z5 := Try.sizeOf5
  v5 := Try.zeroValue5
  t9 := Try.underlying9
  a9 := Try.isAgg9
  z9 := Try.sizeOf9
  v9 := Try.zeroValue9
  t26 := Try.underlying31
  a26 := Try.isAgg31
  z26 := Try.sizeOf31
  v26 := Try.zeroValue31
  t27 := Try.underlying31
  a27 := Try.isAgg31
  z27 := Try.sizeOf31
  v27 := Try.zeroValue31
  t29 := Try.underlying9
  a29 := Try.isAgg9
  z29 := Try.sizeOf9
  v29 := Try.zeroValue9
  t32 := Try.underlying66
  a32 := Try.isAgg66
  z32 := Try.sizeOf66
  v32 := Try.zeroValue66
  t35 := Try.underlying68
  a35 := Try.isAgg68
  z35 := Try.sizeOf68
  v35 := Try.zeroValue68
  t36 := Try.underlying69
  a36 := Try.isAgg69
  z36 := Try.sizeOf69
  v36 := Try.zeroValue69
  t41 := Try.underlying74
  a41 := Try.isAgg74
  z41 := Try.sizeOf74
  v41 := Try.zeroValue74
  t44 := Try.underlying77
  a44 := Try.isAgg77
  z44 := Try.sizeOf77
  v44 := Try.zeroValue77
  t46 := Try.underlying79
  a46 := Try.isAgg79
  z46 := Try.sizeOf79
  v46 := Try.zeroValue79
  t53 := Try.underlying81
  a53 := Try.isAgg81
  z53 := Try.sizeOf81
  v53 := Try.zeroValue81
  t57 := Try.underlying85
  a57 := Try.isAgg85
  z57 := Try.sizeOf85
  v57 := Try.zeroValue85
  t63 := Try.underlying87
  a63 := Try.isAgg87
  z63 := Try.sizeOf87
  v63 := Try.zeroValue87
  t64 := Try.underlying88
  a64 := Try.isAgg88
  z64 := Try.sizeOf88
  v64 := Try.zeroValue88 }
def Try.compA_ren : Go.Shelf.Ren := ⟨fun | 44 => 33 | n => n, fun | 25 => 31 | 26 => 9 | 3 => 3 | 4 => 4 | 0 => 0 | n => n, fun | n => n⟩
theorem Try.compA : Go.Proofs.SlLaysN.n44 Try.prog Try.compA_ren := {
  mixed := by kernel_rfl
  f44 := ⟨Try.f33.name, by decide, Try.func33.trans (congrArg some (by kernel_rfl))⟩
  t0 := Try.underlying0
  a0 := Try.isAgg0
  z0 := Try.sizeOf0
  v0 := Try.zeroValue0
  t3 := Try.underlying3
  a3 := Try.isAgg3
  z3 := Try.sizeOf3
  v3 := Try.zeroValue3
  t4 := Try.underlying4
  a4 := Try.isAgg4
  z4 := Try.sizeOf4
  v4 := Try.zeroValue4
  t25 := Try.underlying31
  a25 := Try.isAgg31
  z25 := Try.sizeOf31
  v25 := Try.zeroValue31
  t26 := Try.underlying9
  a26 := Try.isAgg9
  z26 := Try.sizeOf9
  v26 := Try.zeroValue9
  i26 := by kernel_rfl }
def Try.idxA_ren : Go.Shelf.Ren := ⟨fun | 6 => 28 | n => n, fun | 22 => 23 | 23 => 39 | 25 => 53 | 3 => 3 | 0 => 0 | 4 => 4 | n => n, fun | n => n⟩
theorem Try.idxA : Go.Proofs.SlLaysH0.n6 Try.prog Try.idxA_ren := {
  mixed := by kernel_rfl
  f6 := ⟨Try.f28.name, by decide, Try.func28.trans (congrArg some (by kernel_rfl))⟩
  t0 := Try.underlying0
  a0 := Try.isAgg0
  z0 := Try.sizeOf0
  v0 := Try.zeroValue0
  t3 := Try.underlying3
  a3 := Try.isAgg3
  z3 := Try.sizeOf3
  v3 := Try.zeroValue3
  t4 := Try.underlying4
  a4 := Try.isAgg4
  z4 := Try.sizeOf4
  v4 := Try.zeroValue4
  t22 := Try.underlying23
  a22 := Try.isAgg23
  z22 := Try.sizeOf23
  v22 := Try.zeroValue23
  t25 := Try.underlying53
  a25 := Try.isAgg53
  z25 := Try.sizeOf53
  v25 := Try.zeroValue53 }
def Try.cloneA_ren : Go.Shelf.Ren := ⟨fun | 41 => 24 | n => n, fun | 22 => 23 | 23 => 39 | 4 => 4 | n => n, fun | n => n⟩
theorem Try.cloneA : Go.Proofs.SlLaysE0.n41 Try.prog Try.cloneA_ren := {
  mixed := by kernel_rfl
  f41 := ⟨Try.f24.name, by decide, Try.func24.trans (congrArg some (by kernel_rfl))⟩
  t4 := Try.underlying4
  a4 := Try.isAgg4
  z4 := Try.sizeOf4
  v4 := Try.zeroValue4
  t22 := Try.underlying23
  a22 := Try.isAgg23
  z22 := Try.sizeOf23
  v22 := Try.zeroValue23 }
end Go.Proofs
