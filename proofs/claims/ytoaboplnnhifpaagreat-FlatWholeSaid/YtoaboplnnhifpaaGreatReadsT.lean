/- A part of the proof of a law of module cupola: ReadsT. It has no conditions of its own. -/
import Derived.Test.YtoaboplnnhifpaaGreatBridge
import Derived.Test.YtoaboplnnhifpaaGreatTest
set_option linter.all false
namespace Go.Sim
open Enc (enc)
open Go.Proofs Go.ChangeShapes Go.WideShapes Go.Deep Go.RowKit

theorem cells25 : Tryz.prog.cellsOf 25 = 2 := by kernel_rfl
theorem cells89 : Tryz.prog.cellsOf 89 = 6 := by kernel_rfl
theorem one3 : Tryz.prog.cellsOf 3 = 1 := by kernel_rfl
theorem one2 : Tryz.prog.cellsOf 2 = 1 := by kernel_rfl
theorem one22 : Tryz.prog.cellsOf 22 = 1 := by kernel_rfl
theorem one23 : Tryz.prog.cellsOf 23 = 1 := by kernel_rfl
theorem one85 : Tryz.prog.cellsOf 85 = 1 := by kernel_rfl
theorem can25 : Tryz.prog.readableRec 25 = true ∧ 25 < Tryz.prog.types.size := ⟨by kernel_rfl, of_decide_eq_true (by kernel_rfl)⟩
theorem can26 : Tryz.prog.readableRec 26 = true ∧ 26 < Tryz.prog.types.size := ⟨by kernel_rfl, of_decide_eq_true (by kernel_rfl)⟩

theorem reads_in : Reads Tryz.prog 89 In := by
  intro X ec w base spare held fuel cs x h
  obtain ⟨hl, hf⟩ := read_struct Tryz.underlying89 h (by rw [cells89]; rfl)
  have hl6 : cs.length = 6 := hl
  obtain ⟨a0, h0⟩ := hf 0 _ rfl rfl one3 Int (reads_int Tryz.underlying3) (by omega)
  obtain ⟨a1, h1⟩ := hf 1 _ rfl rfl one3 Int (reads_int Tryz.underlying3) (by omega)
  obtain ⟨a2, h2⟩ := hf 2 _ rfl rfl one3 Int (reads_int Tryz.underlying3) (by omega)
  obtain ⟨a3, h3⟩ := hf 3 _ rfl rfl one3 Int (reads_int Tryz.underlying3) (by omega)
  obtain ⟨a4, h4⟩ := hf 4 _ rfl rfl one3 Int (reads_int Tryz.underlying3) (by omega)
  obtain ⟨a5, h5⟩ := hf 5 _ rfl rfl one2 Int (reads_int Tryz.underlying2) (by omega)
  refine ⟨⟨a0, a1, a2, a3, a4, a5⟩, hl6.symm, ?_⟩
  intro i k1 k2
  match i, k1, k2 with
  | 0, _, _ => exact h0
  | 1, _, _ => exact h1
  | 2, _, _ => exact h2
  | 3, _, _ => exact h3
  | 4, _, _ => exact h4
  | 5, _, _ => exact h5
  | n + 6, _, k2 => exact absurd k2 (by omega)
theorem reads_te : Reads Tryz.prog 25 Te := by
  intro X ec w base spare held fuel cs x h
  obtain ⟨hl, hf⟩ := read_struct Tryz.underlying25 h (by rw [cells25]; rfl)
  have hl2 : cs.length = 2 := hl
  obtain ⟨a0, h0⟩ := hf 0 _ rfl rfl one22 (List Int) (reads_list Tryz.underlying22 one2 (reads_int Tryz.underlying2)) (by omega)
  obtain ⟨a1, h1⟩ := hf 1 _ rfl rfl one23 (List (List In)) (reads_list Tryz.underlying23 one85 (reads_list Tryz.underlying85 cells89 reads_in)) (by omega)
  refine ⟨⟨a0, a1⟩, hl2.symm, ?_⟩
  intro i k1 k2
  match i, k1, k2 with
  | 0, _, _ => exact h0
  | 1, _, _ => exact h1
  | n + 2, _, k2 => exact absurd k2 (by omega)

theorem cells67 : Tryz.prog.cellsOf 67 = 3 := by kernel_rfl
theorem one26 : Tryz.prog.cellsOf 26 = 1 := by kernel_rfl
theorem can67 : Tryz.prog.readableRec 67 = true ∧ 67 < Tryz.prog.types.size := ⟨by kernel_rfl, of_decide_eq_true (by kernel_rfl)⟩
theorem reads_u16 {X : Type} {ec : TypeId × Value → X} {w : World} {base : Nat} {spare : Nat → Bool} {held : Bool} {fuel : Nat} {cs : List Value} {x : DataW X × List MemPlace}
    (h : DataW.trod ec Tryz.prog w base spare held fuel 26 cs = some x) : ∃ n : Int, cs = [.int .u16 n] ∧ 0 ≤ n ∧ n < 65536 := by
  obtain ⟨n, h1, _, hw⟩ := DataW.trod_int Tryz.underlying26 h
  have hn : 0 ≤ n ∧ n ≤ 65535 := by simpa [Lit.wf, IntKind.min, IntKind.max, IntKind.signed, IntKind.bits] using hw
  exact ⟨n, h1, hn.1, by omega⟩
set_option maxRecDepth 100000 in
theorem reads_a3 {X : Type} {ec : TypeId × Value → X} {w : World} {base : Nat} {spare : Nat → Bool} {held : Bool} {fuel : Nat} {cs : List Value} {x : DataW X × List MemPlace}
    (h : DataW.trod ec Tryz.prog w base spare held fuel 67 cs = some x) : ∃ a b c : Int, cs = [.int .u16 a, .int .u16 b, .int .u16 c] ∧ (0 ≤ a ∧ a < 65536) ∧ (0 ≤ b ∧ b < 65536) ∧ (0 ≤ c ∧ c < 65536) := by
  obtain ⟨xs, m, rfl, _, hl, hx, hf⟩ := DataW.trod_array Tryz.underlying67 h
  rw [cells67] at hl
  match cs, hl with
  | [u0, u1, u2], _ =>
    have g : ∀ i, i < 3 → ∃ n : Int, ([u0, u1, u2].drop i).take 1 = [.int .u16 n] ∧ 0 ≤ n ∧ n < 65536 := fun i hi => by
      have h1 := hf i hi
      rw [one26, Nat.mul_one, List.getElem?_eq_getElem (by omega)] at h1
      exact reads_u16 h1
    obtain ⟨a, ea, ha⟩ := g 0 (by omega)
    obtain ⟨b, eb, hb⟩ := g 1 (by omega)
    obtain ⟨c, ec, hc⟩ := g 2 (by omega)
    simp at ea eb ec
    subst ea eb ec
    exact ⟨a, b, c, rfl, ha, hb, hc⟩

theorem rt_a3 {w : World} {S : Cells} (a b c : Int) : RT w S (.agg [.int .u16 a, .int .u16 b, .int .u16 c]) (.agg #[.int .u16 a, .int .u16 b, .int .u16 c]) := by
  refine RT.agg [.int .u16 a, .int .u16 b, .int .u16 c] [.int .u16 a, .int .u16 b, .int .u16 c] rfl ?_
  intro i k1 k2
  match i, k1, k2 with
  | 0, _, _ => exact RT.int _ _
  | 1, _, _ => exact RT.int _ _
  | 2, _, _ => exact RT.int _ _
  | n + 3, k1, _ => exact absurd k1 (by simp)
end Go.Sim
