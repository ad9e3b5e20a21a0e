/- A part of the proof of a law of module cupola: KLay2, KDel. It has no conditions of its own. -/
import Derived.Shelf.SortM.Plain
import Derived.Shelf.SortM.SortNone
import Derived.Shelf.SlicesG.CompactI
import Derived.Ground.SlgmProg
import Derived.Ground.SlgnProg
import Derived.Shelf.Spec.SlicesGrow
import Derived.Ground.Names8Prog
import Derived.Test.YtoaboplnnhifpaaGreatProg
import Derived.WalkKit
import Derived.Deep.LoopGhost
import Derived.Deep.RegionLaw
import Derived.Lib.Walk
import Derived.Shelf.RegionOpenPlain
import Derived.Lib.SliceRun
set_option linter.all false
/-
  DERIVED: THE SHELF's CONTRACTS AT THIS DUMP, IN PLAIN WORDS (tools/lay-plain.mjs out of 'TryLay4.lean', which tools/lay-shelf.mjs wrote): THE SAME DECLARATIONS UNDER THE SAME NAMES: 'import', 'namespace', 'open', 'def', 'theorem' AND NOTHING ELSE: no command of the shelf's: FOR A HAND-IN. Each laying: the table of numbers ('.._ren') and one theorem, a field a fact of the dump's own or the kernel's comparison; each contract: ONE APPLICATION.
-/
namespace Go.Proofs
open Go.Shelf
def Tryz.sortI_ren : Go.Shelf.Ren := ⟨fun | 5 => 148 | 8 => 218 | 7 => 217 | 19 => 259 | 20 => 260 | 10 => 250 | 11 => 251 | 12 => 252 | 13 => 253 | 14 => 254 | 15 => 255 | 16 => 256 | 17 => 257 | 18 => 258 | 30 => 291 | 31 => 292 | 32 => 293 | 33 => 294 | 34 => 295 | 35 => 296 | 40 => 330 | n => n, fun | 23 => 39 | 25 => 3 | 3 => 3 | 32 => 51 | 22 => 39 | 0 => 0 | 44 => 38 | 46 => 242 | 4 => 4 | 36 => 280 | 35 => 279 | 41 => 285 | 5 => 5 | 9 => 9 | 53 => 305 | 57 => 309 | 63 => 328 | 64 => 139 | n => n, fun | n => n⟩
theorem Tryz.sortI : Go.Proofs.SlLaysM.n5 Tryz.prog Tryz.sortI_ren := {
  mixed := by kernel_rfl
  f5 := ⟨Tryz.f148.name, by decide, Tryz.func148.trans (congrArg some (by kernel_rfl))⟩
  f7 := ⟨Tryz.f217.name, by decide, Tryz.func217.trans (congrArg some (by kernel_rfl))⟩
  f8 := Tryz.func218.trans (congrArg some (by kernel_rfl))
  f10 := ⟨Tryz.f250.name, by decide, Tryz.func250.trans (congrArg some (by kernel_rfl))⟩
  f11 := ⟨Tryz.f251.name, by decide, Tryz.func251.trans (congrArg some (by kernel_rfl))⟩
  f12 := ⟨Tryz.f252.name, by decide, Tryz.func252.trans (congrArg some (by kernel_rfl))⟩
  f13 := ⟨Tryz.f253.name, by decide, Tryz.func253.trans (congrArg some (by kernel_rfl))⟩
  f14 := ⟨Tryz.f254.name, by decide, Tryz.func254.trans (congrArg some (by kernel_rfl))⟩
  f15 := ⟨Tryz.f255.name, by decide, Tryz.func255.trans (congrArg some (by kernel_rfl))⟩
  f16 := ⟨Tryz.f256.name, by decide, Tryz.func256.trans (congrArg some (by kernel_rfl))⟩
  f17 := ⟨Tryz.f257.name, by decide, Tryz.func257.trans (congrArg some (by kernel_rfl))⟩
  f18 := ⟨Tryz.f258.name, by decide, Tryz.func258.trans (congrArg some (by kernel_rfl))⟩
  f19 := Tryz.func259.trans (congrArg some (by kernel_rfl))
  f20 := Tryz.func260.trans (congrArg some (by kernel_rfl))
  f30 := ⟨Tryz.f291.name, by decide, Tryz.func291.trans (congrArg some (by kernel_rfl))⟩
  f31 := Tryz.func292.trans (congrArg some (by kernel_rfl))
  f32 := Tryz.func293.trans (congrArg some (by kernel_rfl))
  f33 := ⟨Tryz.f294.name, by decide, Tryz.func294.trans (congrArg some (by kernel_rfl))⟩
  f34 := ⟨Tryz.f295.name, by decide, Tryz.func295.trans (congrArg some (by kernel_rfl))⟩
  f35 := ⟨Tryz.f296.name, by decide, Tryz.func296.trans (congrArg some (by kernel_rfl))⟩
  f40 := ⟨Tryz.f330.name, by decide, Tryz.func330.trans (congrArg some (by kernel_rfl))⟩
  t0 := Tryz.underlying0
  a0 := Tryz.isAgg0
  z0 := Tryz.sizeOf0
  v0 := Tryz.zeroValue0
  t3 := Tryz.underlying3
  a3 := Tryz.isAgg3
  z3 := Tryz.sizeOf3
  v3 := Tryz.zeroValue3
  t4 := Tryz.underlying4
  a4 := Tryz.isAgg4
  z4 := Tryz.sizeOf4
  v4 := Tryz.zeroValue4
  t5 := Tryz.underlying5
  a5 := Tryz.isAgg5
  z5 := Tryz.sizeOf5
  v5 := Tryz.zeroValue5
  t9 := Tryz.underlying9
  a9 := Tryz.isAgg9
  z9 := Tryz.sizeOf9
  v9 := Tryz.zeroValue9
  t22 := Tryz.underlying39
  a22 := Tryz.isAgg39
  z22 := Tryz.sizeOf39
  v22 := Tryz.zeroValue39
  t23 := Tryz.underlying39
  a23 := Tryz.isAgg39
  z23 := Tryz.sizeOf39
  v23 := Tryz.zeroValue39
  t25 := Tryz.underlying3
  a25 := Tryz.isAgg3
  z25 := Tryz.sizeOf3
  v25 := Tryz.zeroValue3
  t32 := Tryz.underlying51
  a32 := Tryz.isAgg51
  z32 := Tryz.sizeOf51
  v32 := Tryz.zeroValue51
  t35 := Tryz.underlying279
  a35 := Tryz.isAgg279
  z35 := Tryz.sizeOf279
  v35 := Tryz.zeroValue279
  t36 := Tryz.underlying280
  a36 := Tryz.isAgg280
  z36 := Tryz.sizeOf280
  v36 := Tryz.zeroValue280
  t41 := Tryz.underlying285
  a41 := Tryz.isAgg285
  z41 := Tryz.sizeOf285
  v41 := Tryz.zeroValue285
  t44 := Tryz.underlying38
  a44 := Tryz.isAgg38
  z44 := Tryz.sizeOf38
  v44 := Tryz.zeroValue38
  t46 := Tryz.underlying242
  a46 := Tryz.isAgg242
  z46 := Tryz.sizeOf242
  v46 := Tryz.zeroValue242
  t53 := Tryz.underlying305
  a53 := Tryz.isAgg305
  z53 := Tryz.sizeOf305
  v53 := Tryz.zeroValue305
  t57 := Tryz.underlying309
  a57 := Tryz.isAgg309
  z57 := Tryz.sizeOf309
  v57 := Tryz.zeroValue309
  t63 := Tryz.underlying328
  a63 := Tryz.isAgg328
  z63 := Tryz.sizeOf328
  v63 := Tryz.zeroValue328
  t64 := Tryz.underlying139
  a64 := Tryz.isAgg139
  z64 := Tryz.sizeOf139
  v64 := Tryz.zeroValue139 }
def Tryz.compactI_ren : Go.Shelf.Ren := ⟨fun | 43 => 149 | n => n, fun | 22 => 39 | 23 => 3 | 3 => 3 | 4 => 4 | 0 => 0 | n => n, fun | n => n⟩
theorem Tryz.compactI : Go.Proofs.SlLaysN.n43 Tryz.prog Tryz.compactI_ren := {
  mixed := by kernel_rfl
  f43 := ⟨Tryz.f149.name, by decide, Tryz.func149.trans (congrArg some (by kernel_rfl))⟩
  t0 := Tryz.underlying0
  a0 := Tryz.isAgg0
  z0 := Tryz.sizeOf0
  v0 := Tryz.zeroValue0
  t3 := Tryz.underlying3
  a3 := Tryz.isAgg3
  z3 := Tryz.sizeOf3
  v3 := Tryz.zeroValue3
  t4 := Tryz.underlying4
  a4 := Tryz.isAgg4
  z4 := Tryz.sizeOf4
  v4 := Tryz.zeroValue4
  t22 := Tryz.underlying39
  a22 := Tryz.isAgg39
  z22 := Tryz.sizeOf39
  v22 := Tryz.zeroValue39
  t23 := Tryz.underlying3
  a23 := Tryz.isAgg3
  z23 := Tryz.sizeOf3
  v23 := Tryz.zeroValue3
  i23 := by kernel_rfl }
def Tryz.growI_ren : Go.Shelf.Ren := ⟨fun | 4 => 207 | n => n, fun | 22 => 39 | 25 => 3 | 3 => 3 | 4 => 4 | 9 => 9 | 20 => 20 | 0 => 0 | n => n, fun | n => n⟩
theorem Tryz.growI : Go.Proofs.Lays8.n4 Tryz.prog Tryz.growI_ren := {
  mixed := by kernel_rfl
  f4 := ⟨Tryz.f207.name, by decide, Tryz.func207.trans (congrArg some (by kernel_rfl))⟩
  t0 := Tryz.underlying0
  a0 := Tryz.isAgg0
  z0 := Tryz.sizeOf0
  v0 := Tryz.zeroValue0
  t3 := Tryz.underlying3
  a3 := Tryz.isAgg3
  z3 := Tryz.sizeOf3
  v3 := Tryz.zeroValue3
  t4 := Tryz.underlying4
  a4 := Tryz.isAgg4
  z4 := Tryz.sizeOf4
  v4 := Tryz.zeroValue4
  t9 := Tryz.underlying9
  a9 := Tryz.isAgg9
  z9 := Tryz.sizeOf9
  v9 := Tryz.zeroValue9
  t20 := Tryz.underlying20
  a20 := Tryz.isAgg20
  z20 := Tryz.sizeOf20
  v20 := Tryz.zeroValue20
  t22 := Tryz.underlying39
  a22 := Tryz.isAgg39
  z22 := Tryz.sizeOf39
  v22 := Tryz.zeroValue39 }
end Go.Proofs

namespace Go.Proofs
open Go.RowKit Go.Lib

theorem Tryz.info3' : (Tryz.prog.info? 3).map (fun i => (i.zero, i.size, i.bytes)) = some (some (.int .i64 0), 1, 8) := by kernel_rfl
def movedL (zs : List Int) (i : Nat) : List Value := (zs.drop (i + 1)).map (Value.int .i64)
theorem movedL_length (zs : List Int) (i : Nat) : (movedL zs i).length = zs.length - (i + 1) := by simp [movedL]
theorem movedL_get {zs : List Int} {i j : Nat} (hj : j < zs.length - (i + 1)) : (movedL zs i)[j]? = some (.int .i64 (zs.getD (i + 1 + j) 0)) := by
  simp [movedL, List.getD, show i + 1 + j < zs.length by omega]

set_option maxHeartbeats 4000000 in
set_option maxRecDepth 1000000 in
theorem Tryz.delete156 (b cap i : Nat) (zs : List Int) (w : World) (hi : i < zs.length) (hl : zs.length ≤ cap) (hm : zs.length ≤ 70368744177664)
    (hc : ∀ j, j < zs.length → w.cell? ⟨b, 0 + j, none⟩ = some (.int .i64 (zs.getD j 0))) (hf : ∀ j, j < zs.length → w.frozen? ⟨b, 0 + j, none⟩ = false) :
    Calls Tryz.prog 150 #[.slice (some ⟨b, 0, none⟩) zs.length cap, .int .i64 i, .int .i64 ((i : Int) + 1)] w fun e w' => e = .returned (.slice (some ⟨b, 0, none⟩) (zs.length - 1) cap) ∧ w' = (w.drew.setCells b (0 + i * 1) (movedL zs i)).setCells b (0 + (zs.length - 1)) [.int .i64 0] := by
  obtain ⟨i0, hi0, hz0, hz1, hz2⟩ := info_parts Tryz.info3'
  have mixed : Tryz.prog.follows .mixedOrders = true := by kernel_rfl
  have t27 : Tryz.prog.underlying 39 = some (.slice 3) := Tryz.underlying39
  have v3 := Tryz.zeroValue3
  generalize hn : zs.length = n at *
  obtain ⟨A, hA, hnews⟩ : ∃ A : Addr, (if cap = i + 1 then some (⟨b, 0, none⟩ : Addr) else some ⟨b, i + 1, none⟩) = some A ∧ Hid (∀ j u, (movedL zs i)[j]? = some u → w.drew.cell? (A.add j) = some u) := by
    by_cases h : cap = i + 1
    · refine ⟨⟨b, 0, none⟩, by simp [h], fun j u hu => ?_⟩
      have h0 : (movedL zs i).length = 0 := by rw [movedL_length]; omega
      rw [List.length_eq_zero_iff.1 h0] at hu
      simp at hu
    · refine ⟨⟨b, i + 1, none⟩, by simp [h], fun j u hu => ?_⟩
      have hj : j < n - (i + 1) := by
        have := (List.getElem?_eq_some_iff.1 hu).1
        rwa [movedL_length, hn] at this
      rw [movedL_get (by omega)] at hu
      rw [Addr.add_lit, show i + 1 + j = 0 + (i + 1 + j) by omega]
      exact (hc (i + 1 + j) (by omega)).trans hu
  have s1 : Hid ((movedL zs i).length = (n - (i + 1)) * 1) := by
    show (movedL zs i).length = _
    rw [Nat.mul_one, movedL_length, hn]
  have s2 : Hid (∀ u ∈ movedL zs i, u.oneCell' = true) := by
    intro u hu
    obtain ⟨x, _, rfl⟩ := List.mem_map.1 hu
    rfl
  have s3 : Hid (∀ j, j < (movedL zs i).length → (w.drew.cell? ⟨b, 0 + i * 1 + j, none⟩).isSome = true ∧ w.drew.frozen? ⟨b, 0 + i * 1 + j, none⟩ = false) := by
    intro j hj
    rw [movedL_length, hn] at hj
    rw [Nat.mul_one, Nat.add_assoc]
    exact ⟨by show (w.cell? _).isSome = true; rw [hc (i + j) (by omega)]; rfl, hf (i + j) (by omega)⟩
  obtain ⟨W1, hW1⟩ : ∃ W1, W1 = w.drew.setCells b (0 + i * 1) (movedL zs i) := ⟨_, rfl⟩
  have hk : ∀ j, j < n → (W1.cell? ⟨b, 0 + j, none⟩).isSome = true ∧ W1.frozen? ⟨b, 0 + j, none⟩ = false := by
    intro j hj
    rw [hW1, World.frozen?_setCells]
    refine ⟨?_, hf j hj⟩
    by_cases h : 0 + i * 1 ≤ 0 + j ∧ 0 + j < 0 + i * 1 + (movedL zs i).length
    · have e : (⟨b, 0 + j, none⟩ : Addr) = ⟨b, (0 + i * 1) + (j - i), none⟩ := by rw [show 0 + i * 1 + (j - i) = 0 + j by omega]
      rw [e, World.cell?_setCells_in b _ _ _ (fun k hk => (s3 k hk).1) (j - i) (by omega)]; rfl
    · rw [World.cell?_setCells_out b _ _ _ _ (fun _ _ => by simp only; omega)]
      show (w.cell? _).isSome = true
      rw [hc j hj]; rfl
  have hcl : ∀ ty, (Builtin.clear_ #[39] ty #[.slice (some ⟨b, i + (n - (i + 1)), none⟩) (n - (i + (n - (i + 1)))) (cap - (i + (n - (i + 1))))]).run Tryz.prog W1 = .ok (.tuple #[]) (W1.setCells b (i + (n - (i + 1))) (List.replicate (n - (i + (n - (i + 1)))) (.int .i64 0))) :=
    fun ty => Lib.run_clear_slice W1 _ _ ty _ t27 v3 rfl rfl b (i + (n - (i + 1))) _ _ (by omega) (fun t ht => by rw [show i + (n - (i + 1)) + t = 0 + (n - 1) by omega]; exact (hk _ (by omega)).1) (fun t ht => by rw [show i + (n - (i + 1)) + t = 0 + (n - 1) by omega]; exact (hk _ (by omega)).2)
  have hW : Hid (W1 = w.drew.setCells b (0 + i * 1) (movedL zs i)) := hW1
  have hic : i ≤ cap := by omega
  have hjc : i + 1 ≤ cap := by omega
  have hwr : IntKind.i64.wrap ((i : Int) + 1) = (i : Int) + 1 := by rw [IntKind.wrap_i64]; omega
  have hp0 : (0 : Int) ≤ (i : Int) + 1 := by omega
  have hp1 : (i : Int) + 1 ≤ (n : Int) := by omega
  have hp2 : ((i : Int) + 1).toNat = i + 1 := by omega
  have hne : ¬ (i : Int) = (i : Int) + 1 := by omega
  clear hW1 hc hf hk
  go_enter Tryz.func150, Tryz.ntmps150
  go_wp2_with fail
  go_region_law_o (refine step_append_room rfl (.tmp 22) (.tmp 25) 39 rfl 3 i0 1 t27 hi0 hz1 b 0 i cap (by simp [Act.eval, Act.put]) A (n - (i + 1)) (cap - (i + 1)) (movedL zs i) (by simp [Act.eval, Act.put]) s1.out hnews.out s2.out (by omega) s3.out ?_; rw [← hW.out])
  go_wp2
  go_ret
  refine ⟨by rw [show n - 1 = i + (n - (i + 1)) by omega]; rfl, ?_⟩
  rw [hW.out, show n - (i + (n - (i + 1))) = 1 by omega, show i + (n - (i + 1)) = n - 1 by omega, Nat.zero_add (n - 1)]; rfl
end Go.Proofs
