/-
  DERIVED: THE SHELF's CONTRACTS AT THIS DUMP, IN PLAIN WORDS (tools/lay-plain.mjs out of 'TryShelf.lean', which tools/lay-shelf.mjs wrote): THE SAME DECLARATIONS UNDER THE SAME NAMES: 'import', 'namespace', 'open', 'def', 'theorem' AND NOTHING ELSE: no command of the shelf's: FOR A HAND-IN. Each laying: the table of numbers ('.._ren') and one theorem, a field a fact of the dump's own or the kernel's comparison; each contract: ONE APPLICATION.
-/
import Derived.Shelf.SlIterI.Nil
import Derived.Shelf.SortM.Plain
import Derived.Shelf.SortM.SortNone
import Derived.Shelf.SlMaps.Clone
import Derived.Ground.GgzProg
import Derived.Ground.SlgmProg
import Derived.Ground.SlmcProg
import Derived.Test.YtpdljgjofebgpaaProg
namespace Go.Proofs.Ytpdljgjofebgpaa
open Go.Shelf
def keysA_ren : Go.Shelf.Ren := ⟨fun | 7 => 83 | 10 => 99 | n => n, fun | 23 => 97 | 26 => 3 | 3 => 112 | 28 => 130 | 0 => 0 | 27 => 129 | 33 => 111 | 4 => 4 | n => n, fun | n => n⟩
theorem keysA : Go.Proofs.SlLaysZI.n7 Try.prog keysA_ren := {
  mixed := by kernel_rfl
  f7 := ⟨Try.f83.name, by decide, Try.func83.trans (congrArg some (by kernel_rfl))⟩
  f10 := ⟨Try.f99.name, by decide, Try.func99.trans (congrArg some (by kernel_rfl))⟩
  t0 := Try.underlying0
  a0 := Try.isAgg0
  z0 := Try.sizeOf0
  v0 := Try.zeroValue0
  t4 := Try.underlying4
  a4 := Try.isAgg4
  z4 := Try.sizeOf4
  v4 := Try.zeroValue4
  t23 := Try.underlying97
  a23 := Try.isAgg97
  z23 := Try.sizeOf97
  v23 := Try.zeroValue97
  t26 := Try.underlying3
  a26 := Try.isAgg3
  z26 := Try.sizeOf3
  v26 := Try.zeroValue3
  t27 := Try.underlying129
  a27 := Try.isAgg129
  z27 := Try.sizeOf129
  v27 := Try.zeroValue129
  t28 := Try.underlying130
  a28 := Try.isAgg130
  z28 := Try.sizeOf130
  v28 := Try.zeroValue130
  t33 := Try.underlying111
  a33 := Try.isAgg111
  z33 := Try.sizeOf111
  v33 := Try.zeroValue111 }
def sortedA_ren : Go.Shelf.Ren := ⟨fun | 6 => 82 | 8 => 97 | 9 => 98 | 11 => 105 | 13 => 107 | 12 => 106 | 23 => 119 | 24 => 120 | 14 => 110 | 15 => 111 | 16 => 112 | 17 => 113 | 18 => 114 | 19 => 115 | 20 => 116 | 21 => 117 | 22 => 118 | 25 => 130 | 26 => 131 | 27 => 132 | 28 => 133 | 29 => 134 | 30 => 135 | 31 => 140 | n => n, fun | 26 => 3 | 28 => 130 | 24 => 62 | 0 => 0 | 3 => 3 | 37 => 149 | 48 => 107 | 50 => 27 | 4 => 4 | 40 => 163 | 39 => 162 | 45 => 168 | 5 => 5 | 9 => 9 | 51 => 177 | 55 => 181 | 57 => 185 | 58 => 186 | 33 => 111 | n => n, fun | n => n⟩
theorem sortedA : Go.Proofs.SlLaysZI.n6 Try.prog sortedA_ren := {
  mixed := by kernel_rfl
  f6 := ⟨Try.f82.name, by decide, Try.func82.trans (congrArg some (by kernel_rfl))⟩
  f8 := ⟨Try.f97.name, by decide, Try.func97.trans (congrArg some (by kernel_rfl))⟩
  f11 := ⟨Try.f105.name, by decide, Try.func105.trans (congrArg some (by kernel_rfl))⟩
  t0 := Try.underlying0
  a0 := Try.isAgg0
  z0 := Try.sizeOf0
  v0 := Try.zeroValue0
  t24 := Try.underlying62
  a24 := Try.isAgg62
  z24 := Try.sizeOf62
  v24 := Try.zeroValue62
  t26 := Try.underlying3
  a26 := Try.isAgg3
  z26 := Try.sizeOf3
  v26 := Try.zeroValue3
  t28 := Try.underlying130
  a28 := Try.isAgg130
  z28 := Try.sizeOf130
  v28 := Try.zeroValue130
  i26 := by kernel_rfl }
def sortA_ren : Go.Shelf.Ren := ⟨fun | 5 => 98 | 8 => 107 | 7 => 106 | 19 => 119 | 20 => 120 | 10 => 110 | 11 => 111 | 12 => 112 | 13 => 113 | 14 => 114 | 15 => 115 | 16 => 116 | 17 => 117 | 18 => 118 | 30 => 130 | 31 => 131 | 32 => 132 | 33 => 133 | 34 => 134 | 35 => 135 | 40 => 140 | n => n, fun | 23 => 62 | 25 => 3 | 3 => 3 | 32 => 149 | 22 => 62 | 0 => 0 | 44 => 107 | 46 => 27 | 4 => 4 | 36 => 163 | 35 => 162 | 41 => 168 | 5 => 5 | 9 => 9 | 53 => 177 | 57 => 181 | 63 => 185 | 64 => 186 | n => n, fun | n => n⟩
theorem sortA : Go.Proofs.SlLaysM.n5 Try.prog sortA_ren := {
  mixed := by kernel_rfl
  f5 := ⟨Try.f98.name, by decide, Try.func98.trans (congrArg some (by kernel_rfl))⟩
  f7 := ⟨Try.f106.name, by decide, Try.func106.trans (congrArg some (by kernel_rfl))⟩
  f8 := Try.func107.trans (congrArg some (by kernel_rfl))
  f10 := ⟨Try.f110.name, by decide, Try.func110.trans (congrArg some (by kernel_rfl))⟩
  f11 := ⟨Try.f111.name, by decide, Try.func111.trans (congrArg some (by kernel_rfl))⟩
  f12 := ⟨Try.f112.name, by decide, Try.func112.trans (congrArg some (by kernel_rfl))⟩
  f13 := ⟨Try.f113.name, by decide, Try.func113.trans (congrArg some (by kernel_rfl))⟩
  f14 := ⟨Try.f114.name, by decide, Try.func114.trans (congrArg some (by kernel_rfl))⟩
  f15 := ⟨Try.f115.name, by decide, Try.func115.trans (congrArg some (by kernel_rfl))⟩
  f16 := ⟨Try.f116.name, by decide, Try.func116.trans (congrArg some (by kernel_rfl))⟩
  f17 := ⟨Try.f117.name, by decide, Try.func117.trans (congrArg some (by kernel_rfl))⟩
  f18 := ⟨Try.f118.name, by decide, Try.func118.trans (congrArg some (by kernel_rfl))⟩
  f19 := Try.func119.trans (congrArg some (by kernel_rfl))
  f20 := Try.func120.trans (congrArg some (by kernel_rfl))
  f30 := ⟨Try.f130.name, by decide, Try.func130.trans (congrArg some (by kernel_rfl))⟩
  f31 := Try.func131.trans (congrArg some (by kernel_rfl))
  f32 := Try.func132.trans (congrArg some (by kernel_rfl))
  f33 := ⟨Try.f133.name, by decide, Try.func133.trans (congrArg some (by kernel_rfl))⟩
  f34 := ⟨Try.f134.name, by decide, Try.func134.trans (congrArg some (by kernel_rfl))⟩
  f35 := ⟨Try.f135.name, by decide, Try.func135.trans (congrArg some (by kernel_rfl))⟩
  f40 := ⟨Try.f140.name, by decide, Try.func140.trans (congrArg some (by kernel_rfl))⟩
  t0 := Try.underlying0
  a0 := Try.isAgg0
  z0 := Try.sizeOf0
  v0 := Try.zeroValue0
  t3 := Try.underlying3
  a3 := Try.isAgg3
  z3 := Try.sizeOf3
  v3 := Try.zeroValue3
  t4 := Try.underlying4
  a4 := Try.isAgg4
  z4 := Try.sizeOf4
  v4 := Try.zeroValue4
  t5 := Try.underlying5
  a5 := Try.isAgg5
  z5 := Try.sizeOf5
  v5 := Try.zeroValue5
  t9 := Try.underlying9
  a9 := Try.isAgg9
  z9 := Try.sizeOf9
  v9 := Try.zeroValue9
  t22 := Try.underlying62
  a22 := Try.isAgg62
  z22 := Try.sizeOf62
  v22 := Try.zeroValue62
  t23 := Try.underlying62
  a23 := Try.isAgg62
  z23 := Try.sizeOf62
  v23 := Try.zeroValue62
  t25 := Try.underlying3
  a25 := Try.isAgg3
  z25 := Try.sizeOf3
  v25 := Try.zeroValue3
  t32 := Try.underlying149
  a32 := Try.isAgg149
  z32 := Try.sizeOf149
  v32 := Try.zeroValue149
  t35 := Try.underlying162
  a35 := Try.isAgg162
  z35 := Try.sizeOf162
  v35 := Try.zeroValue162
  t36 := Try.underlying163
  a36 := Try.isAgg163
  z36 := Try.sizeOf163
  v36 := Try.zeroValue163
  t41 := Try.underlying168
  a41 := Try.isAgg168
  z41 := Try.sizeOf168
  v41 := Try.zeroValue168
  t44 := Try.underlying107
  a44 := Try.isAgg107
  z44 := Try.sizeOf107
  v44 := Try.zeroValue107
  t46 := Try.underlying27
  a46 := Try.isAgg27
  z46 := Try.sizeOf27
  v46 := Try.zeroValue27
  t53 := Try.underlying177
  a53 := Try.isAgg177
  z53 := Try.sizeOf177
  v53 := Try.zeroValue177
  t57 := Try.underlying181
  a57 := Try.isAgg181
  z57 := Try.sizeOf181
  v57 := Try.zeroValue181
  t63 := Try.underlying185
  a63 := Try.isAgg185
  z63 := Try.sizeOf185
  v63 := Try.zeroValue185
  t64 := Try.underlying186
  a64 := Try.isAgg186
  z64 := Try.sizeOf186
  v64 := Try.zeroValue186 }
def mclone_ren : Go.Shelf.Ren := ⟨fun | 5 => 76 | 7 => 94 | n => n, fun | 23 => 97 | 25 => 3 | 3 => 112 | 4 => 4 | 20 => 20 | n => n, fun | n => n⟩
theorem mclone : Go.Proofs.SlLaysW.n5 Try.prog mclone_ren := {
  mixed := by kernel_rfl
  f5 := ⟨Try.f76.name, by decide, Try.func76.trans (congrArg some (by kernel_rfl))⟩
  f7 := Try.func94.trans (congrArg some (by kernel_rfl))
  t4 := Try.underlying4
  a4 := Try.isAgg4
  z4 := Try.sizeOf4
  v4 := Try.zeroValue4
  t20 := Try.underlying20
  a20 := Try.isAgg20
  z20 := Try.sizeOf20
  v20 := Try.zeroValue20
  t23 := Try.underlying97
  a23 := Try.isAgg97
  z23 := Try.sizeOf97
  v23 := Try.zeroValue97 }
end Go.Proofs.Ytpdljgjofebgpaa
