/- A part of the proof of a law of module cupola: KLay. It has no conditions of its own. -/
import Derived.Shelf.SlIterI.Sorted
import Derived.Shelf.SortM.Plain
import Derived.Shelf.SortM.SortNone
import Derived.Shelf.SlicesG.CompactI
import Derived.Ground.GgzProg
import Derived.Ground.SlgmProg
import Derived.Ground.SlgnProg
import Derived.Test.YtoaboplnnhifpaaGreatProg
set_option linter.all false
/-
  DERIVED: THE SHELF's CONTRACTS AT THIS DUMP, IN PLAIN WORDS (tools/lay-plain.mjs out of 'TryLay3.lean', which tools/lay-shelf.mjs wrote): THE SAME DECLARATIONS UNDER THE SAME NAMES: 'import', 'namespace', 'open', 'def', 'theorem' AND NOTHING ELSE: no command of the shelf's: FOR A HAND-IN. Each laying: the table of numbers ('.._ren') and one theorem, a field a fact of the dump's own or the kernel's comparison; each contract: ONE APPLICATION.
-/
namespace Go.Proofs
open Go.Shelf
def Tryz.keysA_ren : Go.Shelf.Ren := ⟨fun | 7 => 169 | 10 => 233 | n => n, fun | 23 => 216 | 26 => 2 | 3 => 4 | 28 => 214 | 0 => 0 | 27 => 213 | 33 => 261 | 4 => 4 | n => n, fun | n => n⟩
theorem Tryz.keysA : Go.Proofs.SlLaysZI.n7 Tryz.prog Tryz.keysA_ren := {
  mixed := by kernel_rfl
  f7 := ⟨Tryz.f169.name, by decide, Tryz.func169.trans (congrArg some (by kernel_rfl))⟩
  f10 := ⟨Tryz.f233.name, by decide, Tryz.func233.trans (congrArg some (by kernel_rfl))⟩
  t0 := Tryz.underlying0
  a0 := Tryz.isAgg0
  z0 := Tryz.sizeOf0
  v0 := Tryz.zeroValue0
  t4 := Tryz.underlying4
  a4 := Tryz.isAgg4
  z4 := Tryz.sizeOf4
  v4 := Tryz.zeroValue4
  t23 := Tryz.underlying216
  a23 := Tryz.isAgg216
  z23 := Tryz.sizeOf216
  v23 := Tryz.zeroValue216
  t26 := Tryz.underlying2
  a26 := Tryz.isAgg2
  z26 := Tryz.sizeOf2
  v26 := Tryz.zeroValue2
  t27 := Tryz.underlying213
  a27 := Tryz.isAgg213
  z27 := Tryz.sizeOf213
  v27 := Tryz.zeroValue213
  t28 := Tryz.underlying214
  a28 := Tryz.isAgg214
  z28 := Tryz.sizeOf214
  v28 := Tryz.zeroValue214
  t33 := Tryz.underlying261
  a33 := Tryz.isAgg261
  z33 := Tryz.sizeOf261
  v33 := Tryz.zeroValue261 }
def Tryz.sortedA_ren : Go.Shelf.Ren := ⟨fun | 6 => 167 | 8 => 230 | 9 => 231 | 11 => 266 | 13 => 218 | 12 => 267 | 23 => 259 | 24 => 260 | 14 => 305 | 15 => 306 | 16 => 307 | 17 => 308 | 18 => 309 | 19 => 310 | 20 => 311 | 21 => 312 | 22 => 313 | 25 => 334 | 26 => 292 | 27 => 293 | 28 => 335 | 29 => 336 | 30 => 262 | 31 => 345 | n => n, fun | 26 => 2 | 28 => 214 | 24 => 22 | 0 => 0 | 3 => 3 | 37 => 51 | 48 => 38 | 50 => 242 | 4 => 4 | 40 => 280 | 39 => 279 | 45 => 285 | 5 => 5 | 9 => 9 | 51 => 305 | 55 => 309 | 57 => 328 | 58 => 139 | 33 => 261 | n => n, fun | n => n⟩
theorem Tryz.sortedA : Go.Proofs.SlLaysZI.n6 Tryz.prog Tryz.sortedA_ren := {
  mixed := by kernel_rfl
  f6 := ⟨Tryz.f167.name, by decide, Tryz.func167.trans (congrArg some (by kernel_rfl))⟩
  f8 := ⟨Tryz.f230.name, by decide, Tryz.func230.trans (congrArg some (by kernel_rfl))⟩
  f11 := ⟨Tryz.f266.name, by decide, Tryz.func266.trans (congrArg some (by kernel_rfl))⟩
  t0 := Tryz.underlying0
  a0 := Tryz.isAgg0
  z0 := Tryz.sizeOf0
  v0 := Tryz.zeroValue0
  t24 := Tryz.underlying22
  a24 := Tryz.isAgg22
  z24 := Tryz.sizeOf22
  v24 := Tryz.zeroValue22
  t26 := Tryz.underlying2
  a26 := Tryz.isAgg2
  z26 := Tryz.sizeOf2
  v26 := Tryz.zeroValue2
  t28 := Tryz.underlying214
  a28 := Tryz.isAgg214
  z28 := Tryz.sizeOf214
  v28 := Tryz.zeroValue214
  i26 := by kernel_rfl }
def Tryz.sortA_ren : Go.Shelf.Ren := ⟨fun | 5 => 231 | 8 => 218 | 7 => 267 | 19 => 259 | 20 => 260 | 10 => 305 | 11 => 306 | 12 => 307 | 13 => 308 | 14 => 309 | 15 => 310 | 16 => 311 | 17 => 312 | 18 => 313 | 30 => 334 | 31 => 292 | 32 => 293 | 33 => 335 | 34 => 336 | 35 => 262 | 40 => 345 | n => n, fun | 23 => 22 | 25 => 2 | 3 => 3 | 32 => 51 | 22 => 22 | 0 => 0 | 44 => 38 | 46 => 242 | 4 => 4 | 36 => 280 | 35 => 279 | 41 => 285 | 5 => 5 | 9 => 9 | 53 => 305 | 57 => 309 | 63 => 328 | 64 => 139 | n => n, fun | n => n⟩
theorem Tryz.sortA : Go.Proofs.SlLaysM.n5 Tryz.prog Tryz.sortA_ren := {
  mixed := by kernel_rfl
  f5 := ⟨Tryz.f231.name, by decide, Tryz.func231.trans (congrArg some (by kernel_rfl))⟩
  f7 := ⟨Tryz.f267.name, by decide, Tryz.func267.trans (congrArg some (by kernel_rfl))⟩
  f8 := Tryz.func218.trans (congrArg some (by kernel_rfl))
  f10 := ⟨Tryz.f305.name, by decide, Tryz.func305.trans (congrArg some (by kernel_rfl))⟩
  f11 := ⟨Tryz.f306.name, by decide, Tryz.func306.trans (congrArg some (by kernel_rfl))⟩
  f12 := ⟨Tryz.f307.name, by decide, Tryz.func307.trans (congrArg some (by kernel_rfl))⟩
  f13 := ⟨Tryz.f308.name, by decide, Tryz.func308.trans (congrArg some (by kernel_rfl))⟩
  f14 := ⟨Tryz.f309.name, by decide, Tryz.func309.trans (congrArg some (by kernel_rfl))⟩
  f15 := ⟨Tryz.f310.name, by decide, Tryz.func310.trans (congrArg some (by kernel_rfl))⟩
  f16 := ⟨Tryz.f311.name, by decide, Tryz.func311.trans (congrArg some (by kernel_rfl))⟩
  f17 := ⟨Tryz.f312.name, by decide, Tryz.func312.trans (congrArg some (by kernel_rfl))⟩
  f18 := ⟨Tryz.f313.name, by decide, Tryz.func313.trans (congrArg some (by kernel_rfl))⟩
  f19 := Tryz.func259.trans (congrArg some (by kernel_rfl))
  f20 := Tryz.func260.trans (congrArg some (by kernel_rfl))
  f30 := ⟨Tryz.f334.name, by decide, Tryz.func334.trans (congrArg some (by kernel_rfl))⟩
  f31 := Tryz.func292.trans (congrArg some (by kernel_rfl))
  f32 := Tryz.func293.trans (congrArg some (by kernel_rfl))
  f33 := ⟨Tryz.f335.name, by decide, Tryz.func335.trans (congrArg some (by kernel_rfl))⟩
  f34 := ⟨Tryz.f336.name, by decide, Tryz.func336.trans (congrArg some (by kernel_rfl))⟩
  f35 := ⟨Tryz.f262.name, by decide, Tryz.func262.trans (congrArg some (by kernel_rfl))⟩
  f40 := ⟨Tryz.f345.name, by decide, Tryz.func345.trans (congrArg some (by kernel_rfl))⟩
  t0 := Tryz.underlying0
  a0 := Tryz.isAgg0
  z0 := Tryz.sizeOf0
  v0 := Tryz.zeroValue0
  t3 := Tryz.underlying3
  a3 := Tryz.isAgg3
  z3 := Tryz.sizeOf3
  v3 := Tryz.zeroValue3
  t4 := Tryz.underlying4
  a4 := Tryz.isAgg4
  z4 := Tryz.sizeOf4
  v4 := Tryz.zeroValue4
  t5 := Tryz.underlying5
  a5 := Tryz.isAgg5
  z5 := Tryz.sizeOf5
  v5 := Tryz.zeroValue5
  t9 := Tryz.underlying9
  a9 := Tryz.isAgg9
  z9 := Tryz.sizeOf9
  v9 := Tryz.zeroValue9
  t22 := Tryz.underlying22
  a22 := Tryz.isAgg22
  z22 := Tryz.sizeOf22
  v22 := Tryz.zeroValue22
  t23 := Tryz.underlying22
  a23 := Tryz.isAgg22
  z23 := Tryz.sizeOf22
  v23 := Tryz.zeroValue22
  t25 := Tryz.underlying2
  a25 := Tryz.isAgg2
  z25 := Tryz.sizeOf2
  v25 := Tryz.zeroValue2
  t32 := Tryz.underlying51
  a32 := Tryz.isAgg51
  z32 := Tryz.sizeOf51
  v32 := Tryz.zeroValue51
  t35 := Tryz.underlying279
  a35 := Tryz.isAgg279
  z35 := Tryz.sizeOf279
  v35 := Tryz.zeroValue279
  t36 := Tryz.underlying280
  a36 := Tryz.isAgg280
  z36 := Tryz.sizeOf280
  v36 := Tryz.zeroValue280
  t41 := Tryz.underlying285
  a41 := Tryz.isAgg285
  z41 := Tryz.sizeOf285
  v41 := Tryz.zeroValue285
  t44 := Tryz.underlying38
  a44 := Tryz.isAgg38
  z44 := Tryz.sizeOf38
  v44 := Tryz.zeroValue38
  t46 := Tryz.underlying242
  a46 := Tryz.isAgg242
  z46 := Tryz.sizeOf242
  v46 := Tryz.zeroValue242
  t53 := Tryz.underlying305
  a53 := Tryz.isAgg305
  z53 := Tryz.sizeOf305
  v53 := Tryz.zeroValue305
  t57 := Tryz.underlying309
  a57 := Tryz.isAgg309
  z57 := Tryz.sizeOf309
  v57 := Tryz.zeroValue309
  t63 := Tryz.underlying328
  a63 := Tryz.isAgg328
  z63 := Tryz.sizeOf328
  v63 := Tryz.zeroValue328
  t64 := Tryz.underlying139
  a64 := Tryz.isAgg139
  z64 := Tryz.sizeOf139
  v64 := Tryz.zeroValue139 }
def Tryz.compactA_ren : Go.Shelf.Ren := ⟨fun | 43 => 166 | n => n, fun | 22 => 22 | 23 => 2 | 3 => 3 | 4 => 4 | 0 => 0 | n => n, fun | n => n⟩
theorem Tryz.compactA : Go.Proofs.SlLaysN.n43 Tryz.prog Tryz.compactA_ren := {
  mixed := by kernel_rfl
  f43 := ⟨Tryz.f166.name, by decide, Tryz.func166.trans (congrArg some (by kernel_rfl))⟩
  t0 := Tryz.underlying0
  a0 := Tryz.isAgg0
  z0 := Tryz.sizeOf0
  v0 := Tryz.zeroValue0
  t3 := Tryz.underlying3
  a3 := Tryz.isAgg3
  z3 := Tryz.sizeOf3
  v3 := Tryz.zeroValue3
  t4 := Tryz.underlying4
  a4 := Tryz.isAgg4
  z4 := Tryz.sizeOf4
  v4 := Tryz.zeroValue4
  t22 := Tryz.underlying22
  a22 := Tryz.isAgg22
  z22 := Tryz.sizeOf22
  v22 := Tryz.zeroValue22
  t23 := Tryz.underlying2
  a23 := Tryz.isAgg2
  z23 := Tryz.sizeOf2
  v23 := Tryz.zeroValue2
  i23 := by kernel_rfl }
open Go.RowKit Go.Maps Go.Sort
theorem Tryz.sortsA (m : Nat) : AnyZI.SortsIn Tryz.prog Tryz.sortedA_ren Fence.wide m :=
  ⟨fun blk off cap ss W hH hblk hsz => callsIn_wide.2 (AnyM.slices_Sort_int Tryz.sortA blk off cap ss W hH hblk hsz),
   fun p cap W => callsIn_wide.2 (AnyM.slices_Sort_int_none Tryz.sortA p cap W)⟩
end Go.Proofs
