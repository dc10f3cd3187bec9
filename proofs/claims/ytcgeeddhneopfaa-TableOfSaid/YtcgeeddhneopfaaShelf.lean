/-
  DERIVED: THE SHELF's CONTRACTS AT THIS DUMP, IN PLAIN WORDS (tools/lay-plain.mjs out of 'YtcgeeddhneopfaaShelf.lean', which tools/lay-shelf.mjs wrote): THE SAME DECLARATIONS UNDER THE SAME NAMES: 'import', 'namespace', 'open', 'def', 'theorem' AND NOTHING ELSE: no command of the shelf's: FOR A HAND-IN. Each laying: the table of numbers ('.._ren') and one theorem, a field a fact of the dump's own or the kernel's comparison; each contract: ONE APPLICATION.
-/
import Derived.Shelf.SlIter.Nil
import Derived.Shelf.SortM.Plain
import Derived.Shelf.SortM.SortNone
import Derived.Ground.GgzProg
import Derived.Ground.SlgmProg
import Derived.Ground.NamesProg
import Derived.Shelf.Bits.Mul64
import Derived.Test.YtcgeeddhneopfaaProg
namespace Go.Proofs
open Go.Shelf
def Try.keys55_ren : Go.Shelf.Ren := ⟨fun | 7 => 55 | 10 => 85 | n => n, fun | 23 => 83 | 26 => 9 | 3 => 3 | 28 => 42 | 0 => 0 | 27 => 41 | 33 => 31 | 4 => 4 | n => n, fun | n => n⟩
theorem Try.keys55 : Go.Proofs.SlLaysZ.n7 Try.prog Try.keys55_ren := {
  mixed := by kernel_rfl
  f7 := ⟨Try.f55.name, by decide, Try.func55.trans (congrArg some (by kernel_rfl))⟩
  f10 := ⟨Try.f85.name, by decide, Try.func85.trans (congrArg some (by kernel_rfl))⟩
  t0 := Try.underlying0
  a0 := Try.isAgg0
  z0 := Try.sizeOf0
  v0 := Try.zeroValue0
  t4 := Try.underlying4
  a4 := Try.isAgg4
  z4 := Try.sizeOf4
  v4 := Try.zeroValue4
  t23 := Try.underlying83
  a23 := Try.isAgg83
  z23 := Try.sizeOf83
  v23 := Try.zeroValue83
  t26 := Try.underlying9
  a26 := Try.isAgg9
  z26 := Try.sizeOf9
  v26 := Try.zeroValue9
  t27 := Try.underlying41
  a27 := Try.isAgg41
  z27 := Try.sizeOf41
  v27 := Try.zeroValue41
  t28 := Try.underlying42
  a28 := Try.isAgg42
  z28 := Try.sizeOf42
  v28 := Try.zeroValue42
  t33 := Try.underlying31
  a33 := Try.isAgg31
  z33 := Try.sizeOf31
  v33 := Try.zeroValue31 }
def Try.sorted54_ren : Go.Shelf.Ren := ⟨fun | 6 => 54 | 8 => 83 | 9 => 84 | 11 => 99 | 13 => 101 | 12 => 100 | 23 => 120 | 24 => 121 | 14 => 111 | 15 => 112 | 16 => 113 | 17 => 114 | 18 => 115 | 19 => 116 | 20 => 117 | 21 => 118 | 22 => 119 | 25 => 125 | 26 => 126 | 27 => 127 | 28 => 128 | 29 => 129 | 30 => 130 | 31 => 139 | n => n, fun | 26 => 9 | 28 => 42 | 24 => 37 | 0 => 0 | 3 => 3 | 37 => 160 | 48 => 179 | 50 => 164 | 4 => 4 | 40 => 173 | 39 => 172 | 45 => 73 | 5 => 5 | 9 => 9 | 51 => 183 | 55 => 187 | 57 => 194 | 58 => 29 | 33 => 31 | n => n, fun | n => n⟩
theorem Try.sorted54 : Go.Proofs.SlLaysZ.n6 Try.prog Try.sorted54_ren := {
  mixed := by kernel_rfl
  f6 := ⟨Try.f54.name, by decide, Try.func54.trans (congrArg some (by kernel_rfl))⟩
  f8 := ⟨Try.f83.name, by decide, Try.func83.trans (congrArg some (by kernel_rfl))⟩
  f11 := ⟨Try.f99.name, by decide, Try.func99.trans (congrArg some (by kernel_rfl))⟩
  t0 := Try.underlying0
  a0 := Try.isAgg0
  z0 := Try.sizeOf0
  v0 := Try.zeroValue0
  t24 := Try.underlying37
  a24 := Try.isAgg37
  z24 := Try.sizeOf37
  v24 := Try.zeroValue37
  t26 := Try.underlying9
  a26 := Try.isAgg9
  z26 := Try.sizeOf9
  v26 := Try.zeroValue9
  t28 := Try.underlying42
  a28 := Try.isAgg42
  z28 := Try.sizeOf42
  v28 := Try.zeroValue42
  i26 := by kernel_rfl }
def Try.sort84_ren : Go.Shelf.Ren := ⟨fun | 6 => 84 | 8 => 101 | 9 => 100 | 19 => 120 | 20 => 121 | 21 => 111 | 22 => 112 | 23 => 113 | 24 => 114 | 25 => 115 | 26 => 116 | 27 => 117 | 28 => 118 | 29 => 119 | 36 => 125 | 31 => 126 | 32 => 127 | 37 => 128 | 38 => 129 | 39 => 130 | 41 => 139 | n => n, fun | 27 => 37 | 29 => 9 | 3 => 3 | 32 => 160 | 26 => 37 | 0 => 0 | 44 => 179 | 46 => 164 | 4 => 4 | 36 => 173 | 35 => 172 | 41 => 73 | 5 => 5 | 9 => 9 | 53 => 183 | 57 => 187 | 63 => 194 | 64 => 29 | n => n, fun | n => n⟩
theorem Try.sort84 : Go.Proofs.SlLaysM.n6 Try.prog Try.sort84_ren := {
  mixed := by kernel_rfl
  f6 := ⟨Try.f84.name, by decide, Try.func84.trans (congrArg some (by kernel_rfl))⟩
  f8 := Try.func101.trans (congrArg some (by kernel_rfl))
  f9 := ⟨Try.f100.name, by decide, Try.func100.trans (congrArg some (by kernel_rfl))⟩
  f19 := Try.func120.trans (congrArg some (by kernel_rfl))
  f20 := Try.func121.trans (congrArg some (by kernel_rfl))
  f21 := ⟨Try.f111.name, by decide, Try.func111.trans (congrArg some (by kernel_rfl))⟩
  f22 := ⟨Try.f112.name, by decide, Try.func112.trans (congrArg some (by kernel_rfl))⟩
  f23 := ⟨Try.f113.name, by decide, Try.func113.trans (congrArg some (by kernel_rfl))⟩
  f24 := ⟨Try.f114.name, by decide, Try.func114.trans (congrArg some (by kernel_rfl))⟩
  f25 := ⟨Try.f115.name, by decide, Try.func115.trans (congrArg some (by kernel_rfl))⟩
  f26 := ⟨Try.f116.name, by decide, Try.func116.trans (congrArg some (by kernel_rfl))⟩
  f27 := ⟨Try.f117.name, by decide, Try.func117.trans (congrArg some (by kernel_rfl))⟩
  f28 := ⟨Try.f118.name, by decide, Try.func118.trans (congrArg some (by kernel_rfl))⟩
  f29 := ⟨Try.f119.name, by decide, Try.func119.trans (congrArg some (by kernel_rfl))⟩
  f31 := Try.func126.trans (congrArg some (by kernel_rfl))
  f32 := Try.func127.trans (congrArg some (by kernel_rfl))
  f36 := ⟨Try.f125.name, by decide, Try.func125.trans (congrArg some (by kernel_rfl))⟩
  f37 := ⟨Try.f128.name, by decide, Try.func128.trans (congrArg some (by kernel_rfl))⟩
  f38 := ⟨Try.f129.name, by decide, Try.func129.trans (congrArg some (by kernel_rfl))⟩
  f39 := ⟨Try.f130.name, by decide, Try.func130.trans (congrArg some (by kernel_rfl))⟩
  f41 := ⟨Try.f139.name, by decide, Try.func139.trans (congrArg some (by kernel_rfl))⟩
  t0 := Try.underlying0
  a0 := Try.isAgg0
  z0 := Try.sizeOf0
  v0 := Try.zeroValue0
  t3 := Try.underlying3
  a3 := Try.isAgg3
  z3 := Try.sizeOf3
  v3 := Try.zeroValue3
  t4 := Try.underlying4
  a4 := Try.isAgg4
  z4 := Try.sizeOf4
  v4 := Try.zeroValue4
  t5 := Try.underlying5
  a5 := Try.isAgg5
  z5 := Try.sizeOf5
  v5 := Try.zeroValue5
  t9 := Try.underlying9
  a9 := Try.isAgg9
  z9 := Try.sizeOf9
  v9 := Try.zeroValue9
  t26 := Try.underlying37
  a26 := Try.isAgg37
  z26 := Try.sizeOf37
  v26 := Try.zeroValue37
  t27 := Try.underlying37
  a27 := Try.isAgg37
  z27 := Try.sizeOf37
  v27 := Try.zeroValue37
  t29 := Try.underlying9
  a29 := Try.isAgg9
  z29 := Try.sizeOf9
  v29 := Try.zeroValue9
  t32 := Try.underlying160
  a32 := Try.isAgg160
  z32 := Try.sizeOf160
  v32 := Try.zeroValue160
  t35 := Try.underlying172
  a35 := Try.isAgg172
  z35 := Try.sizeOf172
  v35 := Try.zeroValue172
  t36 := Try.underlying173
  a36 := Try.isAgg173
  z36 := Try.sizeOf173
  v36 := Try.zeroValue173
  t41 := Try.underlying73
  a41 := Try.isAgg73
  z41 := Try.sizeOf73
  v41 := Try.zeroValue73
  t44 := Try.underlying179
  a44 := Try.isAgg179
  z44 := Try.sizeOf179
  v44 := Try.zeroValue179
  t46 := Try.underlying164
  a46 := Try.isAgg164
  z46 := Try.sizeOf164
  v46 := Try.zeroValue164
  t53 := Try.underlying183
  a53 := Try.isAgg183
  z53 := Try.sizeOf183
  v53 := Try.zeroValue183
  t57 := Try.underlying187
  a57 := Try.isAgg187
  z57 := Try.sizeOf187
  v57 := Try.zeroValue187
  t63 := Try.underlying194
  a63 := Try.isAgg194
  z63 := Try.sizeOf194
  v63 := Try.zeroValue194
  t64 := Try.underlying29
  a64 := Try.isAgg29
  z64 := Try.sizeOf29
  v64 := Try.zeroValue29 }
def Try.lays264_ren : Go.Shelf.Ren := ⟨fun | 264 => 105 | n => n, fun | 53 => 164 | 46 => 160 | n => n, fun | n => n⟩
theorem Try.lays264 : Go.Proofs.Lays.n264 Try.prog Try.lays264_ren := {
  mixed := by kernel_rfl
  f264 := Try.func105.trans (congrArg some (by kernel_rfl))
  t46 := Try.underlying160
  a46 := Try.isAgg160
  z46 := Try.sizeOf160
  v46 := Try.zeroValue160
  t53 := Try.underlying164
  a53 := Try.isAgg164
  z53 := Try.sizeOf164
  v53 := Try.zeroValue164 }
end Go.Proofs
