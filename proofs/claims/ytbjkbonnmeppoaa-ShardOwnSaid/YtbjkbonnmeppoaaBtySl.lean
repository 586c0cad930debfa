/- The library sort at pairs of a text and what it has: its functions in this program are the ones that the shelf speaks of. -/
import Derived.Shelf.SlSortCmp.NoneTotal
import Derived.Test.YtbjkbonnmeppoaaBtyNum
namespace Go.Bty
open Go Go.Proofs
open Go.Proofs.Try renaming prog → P
set_option maxRecDepth 100000
def sortRen : Go.Shelf.Ren := ⟨fun | 6 => 84 | 15 => 90 | 14 => 89 | 28 => 100 | 29 => 101 | 20 => 92 | 21 => 93 | 22 => 94 | 23 => 95 | 24 => 96 | 25 => 97 | 26 => 98 | 27 => 99 | 46 => 103 | 47 => 104 | 48 => 105 | 49 => 106 | 50 => 107 | 57 => 108 | n => n, fun | 22 => 120 | 24 => 119 | 25 => 161 | 3 => 3 | 39 => 157 | 0 => 0 | 53 => 29 | 55 => 22 | 4 => 4 | 46 => 169 | 45 => 168 | 50 => 173 | 5 => 5 | 9 => 9 | 66 => 177 | 70 => 181 | 76 => 183 | 77 => 184 | n => n, fun | n => n⟩
theorem sortLays : Go.Proofs.SlLaysF0.n6 P sortRen := {
  mixed := by kernel_rfl
  f6 := ⟨Try.f84.name, by decide, Try.func84.trans (congrArg some (by kernel_rfl))⟩
  f14 := ⟨Try.f89.name, by decide, Try.func89.trans (congrArg some (by kernel_rfl))⟩
  f15 := Try.func90.trans (congrArg some (by kernel_rfl))
  f20 := ⟨Try.f92.name, by decide, Try.func92.trans (congrArg some (by kernel_rfl))⟩
  f21 := ⟨Try.f93.name, by decide, Try.func93.trans (congrArg some (by kernel_rfl))⟩
  f22 := ⟨Try.f94.name, by decide, Try.func94.trans (congrArg some (by kernel_rfl))⟩
  f23 := ⟨Try.f95.name, by decide, Try.func95.trans (congrArg some (by kernel_rfl))⟩
  f24 := ⟨Try.f96.name, by decide, Try.func96.trans (congrArg some (by kernel_rfl))⟩
  f25 := ⟨Try.f97.name, by decide, Try.func97.trans (congrArg some (by kernel_rfl))⟩
  f26 := ⟨Try.f98.name, by decide, Try.func98.trans (congrArg some (by kernel_rfl))⟩
  f27 := ⟨Try.f99.name, by decide, Try.func99.trans (congrArg some (by kernel_rfl))⟩
  f28 := Try.func100.trans (congrArg some (by kernel_rfl))
  f29 := Try.func101.trans (congrArg some (by kernel_rfl))
  f46 := ⟨Try.f103.name, by decide, Try.func103.trans (congrArg some (by kernel_rfl))⟩
  f47 := Try.func104.trans (congrArg some (by kernel_rfl))
  f48 := Try.func105.trans (congrArg some (by kernel_rfl))
  f49 := ⟨Try.f106.name, by decide, Try.func106.trans (congrArg some (by kernel_rfl))⟩
  f50 := ⟨Try.f107.name, by decide, Try.func107.trans (congrArg some (by kernel_rfl))⟩
  f57 := ⟨Try.f108.name, by decide, Try.func108.trans (congrArg some (by kernel_rfl))⟩
  t0 := Try.underlying0
  a0 := Try.isAgg0
  z0 := Try.sizeOf0
  v0 := Try.zeroValue0
  t3 := Try.underlying3
  a3 := Try.isAgg3
  z3 := Try.sizeOf3
  v3 := Try.zeroValue3
  t4 := Try.underlying4
  a4 := Try.isAgg4
  z4 := Try.sizeOf4
  v4 := Try.zeroValue4
  t5 := Try.underlying5
  a5 := Try.isAgg5
  z5 := Try.sizeOf5
  v5 := Try.zeroValue5
  t9 := Try.underlying9
  a9 := Try.isAgg9
  z9 := Try.sizeOf9
  v9 := Try.zeroValue9
  t22 := Try.underlying120
  a22 := Try.isAgg120
  z22 := Try.sizeOf120
  v22 := Try.zeroValue120
  t25 := Try.underlying161
  a25 := Try.isAgg161
  z25 := Try.sizeOf161
  v25 := Try.zeroValue161
  t39 := Try.underlying157
  a39 := Try.isAgg157
  z39 := Try.sizeOf157
  v39 := Try.zeroValue157
  t45 := Try.underlying168
  a45 := Try.isAgg168
  z45 := Try.sizeOf168
  v45 := Try.zeroValue168
  t46 := Try.underlying169
  a46 := Try.isAgg169
  z46 := Try.sizeOf169
  v46 := Try.zeroValue169
  t50 := Try.underlying173
  a50 := Try.isAgg173
  z50 := Try.sizeOf173
  v50 := Try.zeroValue173
  t53 := Try.underlying29
  a53 := Try.isAgg29
  z53 := Try.sizeOf29
  v53 := Try.zeroValue29
  t55 := Try.underlying22
  a55 := Try.isAgg22
  z55 := Try.sizeOf22
  v55 := Try.zeroValue22
  t66 := Try.underlying177
  a66 := Try.isAgg177
  z66 := Try.sizeOf177
  v66 := Try.zeroValue177
  t70 := Try.underlying181
  a70 := Try.isAgg181
  z70 := Try.sizeOf181
  v70 := Try.zeroValue181
  t76 := Try.underlying183
  a76 := Try.isAgg183
  z76 := Try.sizeOf183
  v76 := Try.zeroValue183
  t77 := Try.underlying184
  a77 := Try.isAgg184
  z77 := Try.sizeOf184
  v77 := Try.zeroValue184 }
theorem sortAgg : ∀ w, (isAgg 119).run P w = .ok true w := Try.isAgg119
theorem sortSize : ∀ w, (Go.sizeOf 119).run P w = .ok 2 w := Try.sizeOf119
theorem run_cmp (args : Array Value) (w : World) : (callFunc f_internal_bytealg_abigen_runtime_cmpstring args).run P w = ((Extern.BytealgCompare.compare args).run P w).andThen fun v w2 => .ok (.value v) w2 := run_callFunc_extern (e := Extern.BytealgCompare.compare) Try.func102 (by kernel_rfl) (by kernel_rfl) (by kernel_rfl) (by kernel_rfl) args w
end Go.Bty
