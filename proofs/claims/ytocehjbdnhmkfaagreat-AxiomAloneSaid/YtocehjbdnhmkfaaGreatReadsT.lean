/- A part of the proof of a law of module cupola: ReadsT. It has no conditions of its own. -/
import Derived.Test.YtocehjbdnhmkfaaGreatBridge
import Derived.Test.YtocehjbdnhmkfaaGreatTest
set_option linter.all false
/-! What a test's threads read as. -/
namespace Go.Sim
open Enc (enc)
open Go.Proofs Go.ChangeShapes Go.WideShapes Go.Deep Go.RowKit

theorem cells42 : Tryz.prog.cellsOf 42 = 2 := by kernel_rfl
theorem cells152 : Tryz.prog.cellsOf 152 = 6 := by kernel_rfl
theorem one3 : Tryz.prog.cellsOf 3 = 1 := by kernel_rfl
theorem one2 : Tryz.prog.cellsOf 2 = 1 := by kernel_rfl
theorem one39 : Tryz.prog.cellsOf 39 = 1 := by kernel_rfl
theorem one40 : Tryz.prog.cellsOf 40 = 1 := by kernel_rfl
theorem one90 : Tryz.prog.cellsOf 90 = 1 := by kernel_rfl
theorem can42 : Tryz.prog.readableRec 42 = true ∧ 42 < Tryz.prog.types.size := ⟨by kernel_rfl, of_decide_eq_true (by kernel_rfl)⟩
theorem can43 : Tryz.prog.readableRec 43 = true ∧ 43 < Tryz.prog.types.size := ⟨by kernel_rfl, of_decide_eq_true (by kernel_rfl)⟩

theorem reads_in : Reads Tryz.prog 152 In := by
  intro X ec w base spare held fuel cs x h
  obtain ⟨hl, hf⟩ := read_struct Tryz.underlying152 h (by rw [cells152]; rfl)
  have hl6 : cs.length = 6 := hl
  obtain ⟨a0, h0⟩ := hf 0 _ rfl rfl one3 Int (reads_int Tryz.underlying3) (by omega)
  obtain ⟨a1, h1⟩ := hf 1 _ rfl rfl one3 Int (reads_int Tryz.underlying3) (by omega)
  obtain ⟨a2, h2⟩ := hf 2 _ rfl rfl one3 Int (reads_int Tryz.underlying3) (by omega)
  obtain ⟨a3, h3⟩ := hf 3 _ rfl rfl one3 Int (reads_int Tryz.underlying3) (by omega)
  obtain ⟨a4, h4⟩ := hf 4 _ rfl rfl one3 Int (reads_int Tryz.underlying3) (by omega)
  obtain ⟨a5, h5⟩ := hf 5 _ rfl rfl one2 Int (reads_int Tryz.underlying2) (by omega)
  refine ⟨⟨a0, a1, a2, a3, a4, a5⟩, hl6.symm, ?_⟩
  intro i k1 k2
  match i, k1, k2 with
  | 0, _, _ => exact h0
  | 1, _, _ => exact h1
  | 2, _, _ => exact h2
  | 3, _, _ => exact h3
  | 4, _, _ => exact h4
  | 5, _, _ => exact h5
  | n + 6, _, k2 => exact absurd k2 (by omega)
theorem reads_te : Reads Tryz.prog 42 Te := by
  intro X ec w base spare held fuel cs x h
  obtain ⟨hl, hf⟩ := read_struct Tryz.underlying42 h (by rw [cells42]; rfl)
  have hl2 : cs.length = 2 := hl
  obtain ⟨a0, h0⟩ := hf 0 _ rfl rfl one39 (List Int) (reads_list Tryz.underlying39 one2 (reads_int Tryz.underlying2)) (by omega)
  obtain ⟨a1, h1⟩ := hf 1 _ rfl rfl one40 (List (List In)) (reads_list Tryz.underlying40 one90 (reads_list Tryz.underlying90 cells152 reads_in)) (by omega)
  refine ⟨⟨a0, a1⟩, hl2.symm, ?_⟩
  intro i k1 k2
  match i, k1, k2 with
  | 0, _, _ => exact h0
  | 1, _, _ => exact h1
  | n + 2, _, k2 => exact absurd k2 (by omega)

theorem cells64 : Tryz.prog.cellsOf 64 = 3 := by kernel_rfl
theorem one43 : Tryz.prog.cellsOf 43 = 1 := by kernel_rfl
theorem can64 : Tryz.prog.readableRec 64 = true ∧ 64 < Tryz.prog.types.size := ⟨by kernel_rfl, of_decide_eq_true (by kernel_rfl)⟩
theorem reads_u16 {X : Type} {ec : TypeId × Value → X} {w : World} {base : Nat} {spare : Nat → Bool} {held : Bool} {fuel : Nat} {cs : List Value} {x : DataW X × List MemPlace}
    (h : DataW.trod ec Tryz.prog w base spare held fuel 43 cs = some x) : ∃ n : Int, cs = [.int .u16 n] ∧ 0 ≤ n ∧ n < 65536 := by
  obtain ⟨n, h1, _, hw⟩ := DataW.trod_int Tryz.underlying43 h
  have hn : 0 ≤ n ∧ n ≤ 65535 := by simpa [Lit.wf, IntKind.min, IntKind.max, IntKind.signed, IntKind.bits] using hw
  exact ⟨n, h1, hn.1, by omega⟩
set_option maxRecDepth 100000 in
/-- Three small numbers. -/
theorem reads_a3 {X : Type} {ec : TypeId × Value → X} {w : World} {base : Nat} {spare : Nat → Bool} {held : Bool} {fuel : Nat} {cs : List Value} {x : DataW X × List MemPlace}
    (h : DataW.trod ec Tryz.prog w base spare held fuel 64 cs = some x) : ∃ a b c : Int, cs = [.int .u16 a, .int .u16 b, .int .u16 c] ∧ (0 ≤ a ∧ a < 65536) ∧ (0 ≤ b ∧ b < 65536) ∧ (0 ≤ c ∧ c < 65536) := by
  obtain ⟨xs, m, rfl, _, hl, hx, hf⟩ := DataW.trod_array Tryz.underlying64 h
  rw [cells64] at hl
  match cs, hl with
  | [u0, u1, u2], _ =>
    have g : ∀ i, i < 3 → ∃ n : Int, ([u0, u1, u2].drop i).take 1 = [.int .u16 n] ∧ 0 ≤ n ∧ n < 65536 := fun i hi => by
      have h1 := hf i hi
      rw [one43, Nat.mul_one, List.getElem?_eq_getElem (by omega)] at h1
      exact reads_u16 h1
    obtain ⟨a, ea, ha⟩ := g 0 (by omega)
    obtain ⟨b, eb, hb⟩ := g 1 (by omega)
    obtain ⟨c, ec, hc⟩ := g 2 (by omega)
    simp at ea eb ec
    subst ea eb ec
    exact ⟨a, b, c, rfl, ha, hb, hc⟩

theorem rt_a3 {w : World} {S : Cells} (a b c : Int) : RT w S (.agg [.int .u16 a, .int .u16 b, .int .u16 c]) (.agg #[.int .u16 a, .int .u16 b, .int .u16 c]) := by
  refine RT.agg [.int .u16 a, .int .u16 b, .int .u16 c] [.int .u16 a, .int .u16 b, .int .u16 c] rfl ?_
  intro i k1 k2
  match i, k1, k2 with
  | 0, _, _ => exact RT.int _ _
  | 1, _, _ => exact RT.int _ _
  | 2, _, _ => exact RT.int _ _
  | n + 3, k1, _ => exact absurd k1 (by simp)
end Go.Sim
