/- A part of the proof of a law of module cupola: KLay2, KDel. It has no conditions of its own. -/
import Derived.Shelf.SortM.Plain
import Derived.Shelf.SortM.SortNone
import Derived.Shelf.SlicesG.CompactI
import Derived.Ground.SlgmProg
import Derived.Ground.SlgnProg
import Derived.Test.YtocehjbdnhmkfaaGreatProg
import Derived.WalkKit
import Derived.Deep.LoopGhost
import Derived.Deep.RegionLaw
import Derived.Lib.Walk
import Derived.Shelf.RegionOpenPlain
import Derived.Lib.SliceRun
set_option linter.all false
/-
  DERIVED: THE SHELF's CONTRACTS AT THIS DUMP, IN PLAIN WORDS (tools/lay-plain.mjs out of 'TryLay2.lean', which tools/lay-shelf.mjs wrote): THE SAME DECLARATIONS UNDER THE SAME NAMES: 'import', 'namespace', 'open', 'def', 'theorem' AND NOTHING ELSE: no command of the shelf's: FOR A HAND-IN. Each laying: the table of numbers ('.._ren') and one theorem, a field a fact of the dump's own or the kernel's comparison; each contract: ONE APPLICATION.
-/
namespace Go.Proofs
open Go.Shelf
def Tryz.sortI_ren : Go.Shelf.Ren := ⟨fun | 5 => 154 | 8 => 175 | 7 => 174 | 19 => 199 | 20 => 200 | 10 => 190 | 11 => 191 | 12 => 192 | 13 => 193 | 14 => 194 | 15 => 195 | 16 => 196 | 17 => 197 | 18 => 198 | 30 => 210 | 31 => 211 | 32 => 212 | 33 => 213 | 34 => 214 | 35 => 215 | 40 => 228 | n => n, fun | 23 => 27 | 25 => 3 | 3 => 3 | 32 => 76 | 22 => 27 | 0 => 0 | 44 => 60 | 46 => 147 | 4 => 4 | 36 => 183 | 35 => 182 | 41 => 188 | 5 => 5 | 9 => 9 | 53 => 204 | 57 => 208 | 63 => 219 | 64 => 127 | n => n, fun | n => n⟩
theorem Tryz.sortI : Go.Proofs.SlLaysM.n5 Tryz.prog Tryz.sortI_ren := {
  mixed := by kernel_rfl
  f5 := ⟨Tryz.f154.name, by decide, Tryz.func154.trans (congrArg some (by kernel_rfl))⟩
  f7 := ⟨Tryz.f174.name, by decide, Tryz.func174.trans (congrArg some (by kernel_rfl))⟩
  f8 := Tryz.func175.trans (congrArg some (by kernel_rfl))
  f10 := ⟨Tryz.f190.name, by decide, Tryz.func190.trans (congrArg some (by kernel_rfl))⟩
  f11 := ⟨Tryz.f191.name, by decide, Tryz.func191.trans (congrArg some (by kernel_rfl))⟩
  f12 := ⟨Tryz.f192.name, by decide, Tryz.func192.trans (congrArg some (by kernel_rfl))⟩
  f13 := ⟨Tryz.f193.name, by decide, Tryz.func193.trans (congrArg some (by kernel_rfl))⟩
  f14 := ⟨Tryz.f194.name, by decide, Tryz.func194.trans (congrArg some (by kernel_rfl))⟩
  f15 := ⟨Tryz.f195.name, by decide, Tryz.func195.trans (congrArg some (by kernel_rfl))⟩
  f16 := ⟨Tryz.f196.name, by decide, Tryz.func196.trans (congrArg some (by kernel_rfl))⟩
  f17 := ⟨Tryz.f197.name, by decide, Tryz.func197.trans (congrArg some (by kernel_rfl))⟩
  f18 := ⟨Tryz.f198.name, by decide, Tryz.func198.trans (congrArg some (by kernel_rfl))⟩
  f19 := Tryz.func199.trans (congrArg some (by kernel_rfl))
  f20 := Tryz.func200.trans (congrArg some (by kernel_rfl))
  f30 := ⟨Tryz.f210.name, by decide, Tryz.func210.trans (congrArg some (by kernel_rfl))⟩
  f31 := Tryz.func211.trans (congrArg some (by kernel_rfl))
  f32 := Tryz.func212.trans (congrArg some (by kernel_rfl))
  f33 := ⟨Tryz.f213.name, by decide, Tryz.func213.trans (congrArg some (by kernel_rfl))⟩
  f34 := ⟨Tryz.f214.name, by decide, Tryz.func214.trans (congrArg some (by kernel_rfl))⟩
  f35 := ⟨Tryz.f215.name, by decide, Tryz.func215.trans (congrArg some (by kernel_rfl))⟩
  f40 := ⟨Tryz.f228.name, by decide, Tryz.func228.trans (congrArg some (by kernel_rfl))⟩
  t0 := Tryz.underlying0
  a0 := Tryz.isAgg0
  z0 := Tryz.sizeOf0
  v0 := Tryz.zeroValue0
  t3 := Tryz.underlying3
  a3 := Tryz.isAgg3
  z3 := Tryz.sizeOf3
  v3 := Tryz.zeroValue3
  t4 := Tryz.underlying4
  a4 := Tryz.isAgg4
  z4 := Tryz.sizeOf4
  v4 := Tryz.zeroValue4
  t5 := Tryz.underlying5
  a5 := Tryz.isAgg5
  z5 := Tryz.sizeOf5
  v5 := Tryz.zeroValue5
  t9 := Tryz.underlying9
  a9 := Tryz.isAgg9
  z9 := Tryz.sizeOf9
  v9 := Tryz.zeroValue9
  t22 := Tryz.underlying27
  a22 := Tryz.isAgg27
  z22 := Tryz.sizeOf27
  v22 := Tryz.zeroValue27
  t23 := Tryz.underlying27
  a23 := Tryz.isAgg27
  z23 := Tryz.sizeOf27
  v23 := Tryz.zeroValue27
  t25 := Tryz.underlying3
  a25 := Tryz.isAgg3
  z25 := Tryz.sizeOf3
  v25 := Tryz.zeroValue3
  t32 := Tryz.underlying76
  a32 := Tryz.isAgg76
  z32 := Tryz.sizeOf76
  v32 := Tryz.zeroValue76
  t35 := Tryz.underlying182
  a35 := Tryz.isAgg182
  z35 := Tryz.sizeOf182
  v35 := Tryz.zeroValue182
  t36 := Tryz.underlying183
  a36 := Tryz.isAgg183
  z36 := Tryz.sizeOf183
  v36 := Tryz.zeroValue183
  t41 := Tryz.underlying188
  a41 := Tryz.isAgg188
  z41 := Tryz.sizeOf188
  v41 := Tryz.zeroValue188
  t44 := Tryz.underlying60
  a44 := Tryz.isAgg60
  z44 := Tryz.sizeOf60
  v44 := Tryz.zeroValue60
  t46 := Tryz.underlying147
  a46 := Tryz.isAgg147
  z46 := Tryz.sizeOf147
  v46 := Tryz.zeroValue147
  t53 := Tryz.underlying204
  a53 := Tryz.isAgg204
  z53 := Tryz.sizeOf204
  v53 := Tryz.zeroValue204
  t57 := Tryz.underlying208
  a57 := Tryz.isAgg208
  z57 := Tryz.sizeOf208
  v57 := Tryz.zeroValue208
  t63 := Tryz.underlying219
  a63 := Tryz.isAgg219
  z63 := Tryz.sizeOf219
  v63 := Tryz.zeroValue219
  t64 := Tryz.underlying127
  a64 := Tryz.isAgg127
  z64 := Tryz.sizeOf127
  v64 := Tryz.zeroValue127 }
def Tryz.compactI_ren : Go.Shelf.Ren := ⟨fun | 43 => 155 | n => n, fun | 22 => 27 | 23 => 3 | 3 => 3 | 4 => 4 | 0 => 0 | n => n, fun | n => n⟩
theorem Tryz.compactI : Go.Proofs.SlLaysN.n43 Tryz.prog Tryz.compactI_ren := {
  mixed := by kernel_rfl
  f43 := ⟨Tryz.f155.name, by decide, Tryz.func155.trans (congrArg some (by kernel_rfl))⟩
  t0 := Tryz.underlying0
  a0 := Tryz.isAgg0
  z0 := Tryz.sizeOf0
  v0 := Tryz.zeroValue0
  t3 := Tryz.underlying3
  a3 := Tryz.isAgg3
  z3 := Tryz.sizeOf3
  v3 := Tryz.zeroValue3
  t4 := Tryz.underlying4
  a4 := Tryz.isAgg4
  z4 := Tryz.sizeOf4
  v4 := Tryz.zeroValue4
  t22 := Tryz.underlying27
  a22 := Tryz.isAgg27
  z22 := Tryz.sizeOf27
  v22 := Tryz.zeroValue27
  t23 := Tryz.underlying3
  a23 := Tryz.isAgg3
  z23 := Tryz.sizeOf3
  v23 := Tryz.zeroValue3
  i23 := by kernel_rfl }
end Go.Proofs

namespace Go.Proofs
open Go.RowKit Go.Lib

theorem Tryz.info3' : (Tryz.prog.info? 3).map (fun i => (i.zero, i.size, i.bytes)) = some (some (.int .i64 0), 1, 8) := by kernel_rfl
/-- The cells that move one to the left. -/
def movedL (zs : List Int) (i : Nat) : List Value := (zs.drop (i + 1)).map (Value.int .i64)
theorem movedL_length (zs : List Int) (i : Nat) : (movedL zs i).length = zs.length - (i + 1) := by simp [movedL]
theorem movedL_get {zs : List Int} {i j : Nat} (hj : j < zs.length - (i + 1)) : (movedL zs i)[j]? = some (.int .i64 (zs.getD (i + 1 + j) 0)) := by
  simp [movedL, List.getD, show i + 1 + j < zs.length by omega]

set_option maxHeartbeats 4000000 in
set_option maxRecDepth 1000000 in
theorem Tryz.delete156 (b cap i : Nat) (zs : List Int) (w : World) (hi : i < zs.length) (hl : zs.length ≤ cap) (hm : zs.length ≤ 70368744177664)
    (hc : ∀ j, j < zs.length → w.cell? ⟨b, 0 + j, none⟩ = some (.int .i64 (zs.getD j 0))) (hf : ∀ j, j < zs.length → w.frozen? ⟨b, 0 + j, none⟩ = false) :
    Calls Tryz.prog 156 #[.slice (some ⟨b, 0, none⟩) zs.length cap, .int .i64 i, .int .i64 ((i : Int) + 1)] w fun e w' => e = .returned (.slice (some ⟨b, 0, none⟩) (zs.length - 1) cap) ∧ w' = (w.drew.setCells b (0 + i * 1) (movedL zs i)).setCells b (0 + (zs.length - 1)) [.int .i64 0] := by
  obtain ⟨i0, hi0, hz0, hz1, hz2⟩ := info_parts Tryz.info3'
  have mixed : Tryz.prog.follows .mixedOrders = true := by kernel_rfl
  have t27 : Tryz.prog.underlying 27 = some (.slice 3) := Tryz.underlying27
  have v3 := Tryz.zeroValue3
  generalize hn : zs.length = n at *
  obtain ⟨A, hA, hnews⟩ : ∃ A : Addr, (if cap = i + 1 then some (⟨b, 0, none⟩ : Addr) else some ⟨b, i + 1, none⟩) = some A ∧ Hid (∀ j u, (movedL zs i)[j]? = some u → w.drew.cell? (A.add j) = some u) := by
    by_cases h : cap = i + 1
    · refine ⟨⟨b, 0, none⟩, by simp [h], fun j u hu => ?_⟩
      have h0 : (movedL zs i).length = 0 := by rw [movedL_length]; omega
      rw [List.length_eq_zero_iff.1 h0] at hu
      simp at hu
    · refine ⟨⟨b, i + 1, none⟩, by simp [h], fun j u hu => ?_⟩
      have hj : j < n - (i + 1) := by
        have := (List.getElem?_eq_some_iff.1 hu).1
        rwa [movedL_length, hn] at this
      rw [movedL_get (by omega)] at hu
      rw [Addr.add_lit, show i + 1 + j = 0 + (i + 1 + j) by omega]
      exact (hc (i + 1 + j) (by omega)).trans hu
  have s1 : Hid ((movedL zs i).length = (n - (i + 1)) * 1) := by
    show (movedL zs i).length = _
    rw [Nat.mul_one, movedL_length, hn]
  have s2 : Hid (∀ u ∈ movedL zs i, u.oneCell' = true) := by
    intro u hu
    obtain ⟨x, _, rfl⟩ := List.mem_map.1 hu
    rfl
  have s3 : Hid (∀ j, j < (movedL zs i).length → (w.drew.cell? ⟨b, 0 + i * 1 + j, none⟩).isSome = true ∧ w.drew.frozen? ⟨b, 0 + i * 1 + j, none⟩ = false) := by
    intro j hj
    rw [movedL_length, hn] at hj
    rw [Nat.mul_one, Nat.add_assoc]
    exact ⟨by show (w.cell? _).isSome = true; rw [hc (i + j) (by omega)]; rfl, hf (i + j) (by omega)⟩
  obtain ⟨W1, hW1⟩ : ∃ W1, W1 = w.drew.setCells b (0 + i * 1) (movedL zs i) := ⟨_, rfl⟩
  have hk : ∀ j, j < n → (W1.cell? ⟨b, 0 + j, none⟩).isSome = true ∧ W1.frozen? ⟨b, 0 + j, none⟩ = false := by
    intro j hj
    rw [hW1, World.frozen?_setCells]
    refine ⟨?_, hf j hj⟩
    by_cases h : 0 + i * 1 ≤ 0 + j ∧ 0 + j < 0 + i * 1 + (movedL zs i).length
    · have e : (⟨b, 0 + j, none⟩ : Addr) = ⟨b, (0 + i * 1) + (j - i), none⟩ := by rw [show 0 + i * 1 + (j - i) = 0 + j by omega]
      rw [e, World.cell?_setCells_in b _ _ _ (fun k hk => (s3 k hk).1) (j - i) (by omega)]; rfl
    · rw [World.cell?_setCells_out b _ _ _ _ (fun _ _ => by simp only; omega)]
      show (w.cell? _).isSome = true
      rw [hc j hj]; rfl
  have hcl : ∀ ty, (Builtin.clear_ #[27] ty #[.slice (some ⟨b, i + (n - (i + 1)), none⟩) (n - (i + (n - (i + 1)))) (cap - (i + (n - (i + 1))))]).run Tryz.prog W1 = .ok (.tuple #[]) (W1.setCells b (i + (n - (i + 1))) (List.replicate (n - (i + (n - (i + 1)))) (.int .i64 0))) :=
    fun ty => Lib.run_clear_slice W1 _ _ ty _ t27 v3 rfl rfl b (i + (n - (i + 1))) _ _ (by omega) (fun t ht => by rw [show i + (n - (i + 1)) + t = 0 + (n - 1) by omega]; exact (hk _ (by omega)).1) (fun t ht => by rw [show i + (n - (i + 1)) + t = 0 + (n - 1) by omega]; exact (hk _ (by omega)).2)
  have hW : Hid (W1 = w.drew.setCells b (0 + i * 1) (movedL zs i)) := hW1
  have hic : i ≤ cap := by omega
  have hjc : i + 1 ≤ cap := by omega
  have hwr : IntKind.i64.wrap ((i : Int) + 1) = (i : Int) + 1 := by rw [IntKind.wrap_i64]; omega
  have hp0 : (0 : Int) ≤ (i : Int) + 1 := by omega
  have hp1 : (i : Int) + 1 ≤ (n : Int) := by omega
  have hp2 : ((i : Int) + 1).toNat = i + 1 := by omega
  have hne : ¬ (i : Int) = (i : Int) + 1 := by omega
  clear hW1 hc hf hk
  go_enter Tryz.func156, Tryz.ntmps156
  go_wp2_with fail
  go_region_law_o (refine step_append_room rfl (.tmp 22) (.tmp 25) 27 rfl 3 i0 1 t27 hi0 hz1 b 0 i cap (by simp [Act.eval, Act.put]) A (n - (i + 1)) (cap - (i + 1)) (movedL zs i) (by simp [Act.eval, Act.put]) s1.out hnews.out s2.out (by omega) s3.out ?_; rw [← hW.out])
  go_wp2
  go_ret
  refine ⟨by rw [show n - 1 = i + (n - (i + 1)) by omega]; rfl, ?_⟩
  rw [hW.out, show n - (i + (n - (i + 1))) = 1 by omega, show i + (n - (i + 1)) = n - 1 by omega, Nat.zero_add (n - 1)]; rfl
end Go.Proofs
