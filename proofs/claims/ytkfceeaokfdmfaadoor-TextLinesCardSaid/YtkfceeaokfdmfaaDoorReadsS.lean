/- A part of the proof of a law of module cupola: ReadsS, ReadsI. It has no conditions of its own. -/
import Derived.Test.YtkfceeaokfdmfaaDoorBridge
import Derived.Test.YtkfceeaokfdmfaaDoorStL
import Derived.Test.YtkfceeaokfdmfaaDoorTxP
set_option linter.all false
namespace Go.Sim
open Enc (enc)
open Go.Proofs Go.ChangeShapes Go.WideShapes Go.Deep Go.RowKit

instance : Enc I64 := ⟨fun n => .int .i64 n.toInt, 0, 1, by decide, fun _ => rfl⟩
instance : One I64 := ⟨rfl, fun _ => rfl, fun _ => rfl⟩
theorem reads_i64 {P : Program} {t : TypeId} (ht : P.underlying t = some (.int .i64)) : Reads P t I64 := by
  intro X ec w base spare held fuel cs x h
  obtain ⟨n, rfl, _, hw⟩ := DataW.trod_int ht h
  have hn : -9223372036854775808 ≤ n ∧ n ≤ 9223372036854775807 := by simpa [Lit.wf, IntKind.min, IntKind.max, IntKind.signed, IntKind.bits] using hw
  refine ⟨BitVec.ofInt 64 n, cells_one ?_⟩
  have e : (BitVec.ofInt 64 n).toInt = n := by
    rw [BitVec.toInt_ofInt, Int.bmod_def]
    simp only [Nat.reducePow]
    omega
  show RT w (old w) (.int .i64 (BitVec.ofInt 64 n).toInt) _
  rw [e]; exact .int _ _
def ints (l : List I64) : List Int := l.map fun n => n.toInt
def rows (l : List (List I64)) : List (List Int) := l.map ints
theorem enc_ints (l : List I64) : (enc l : T) = enc (ints l) := by
  show T.sl _ = T.sl _
  congr 1
  unfold ints
  rw [List.map_map]; rfl
theorem enc_rows (l : List (List I64)) : (enc l : T) = enc (rows l) := by
  show T.sl _ = T.sl _
  congr 1
  unfold rows
  rw [List.map_map]
  exact List.map_congr_left fun x _ => enc_ints x
theorem inR_i64 (n : I64) : InR n.toInt := by
  have h1 := BitVec.toInt_lt (x := n)
  have h2 := BitVec.le_toInt (x := n)
  unfold InR; omega
theorem inR_ints (l : List I64) : ∀ n ∈ ints l, InR n := by
  intro n hn
  obtain ⟨m, _, rfl⟩ := List.mem_map.1 hn
  exact inR_i64 m
theorem inR_rows (l : List (List I64)) : ∀ r ∈ rows l, ∀ n ∈ r, InR n := by
  intro r hr
  obtain ⟨m, _, rfl⟩ := List.mem_map.1 hr
  exact inR_ints m
theorem cells26 : Tryd.prog.cellsOf 26 = 3 := by kernel_rfl
theorem one22 : Tryd.prog.cellsOf 22 = 1 := by kernel_rfl
theorem one23 : Tryd.prog.cellsOf 23 = 1 := by kernel_rfl
theorem one24 : Tryd.prog.cellsOf 24 = 1 := by kernel_rfl
theorem one3 : Tryd.prog.cellsOf 3 = 1 := by kernel_rfl
theorem can26 : Tryd.prog.readableRec 26 = true ∧ 26 < Tryd.prog.types.size := ⟨by kernel_rfl, of_decide_eq_true (by kernel_rfl)⟩
theorem can3 : Tryd.prog.readableRec 3 = true ∧ 3 < Tryd.prog.types.size := ⟨by kernel_rfl, of_decide_eq_true (by kernel_rfl)⟩
theorem can5 : Tryd.prog.readableRec 5 = true ∧ 5 < Tryd.prog.types.size := ⟨by kernel_rfl, of_decide_eq_true (by kernel_rfl)⟩
theorem can9 : Tryd.prog.readableRec 9 = true ∧ 9 < Tryd.prog.types.size := ⟨by kernel_rfl, of_decide_eq_true (by kernel_rfl)⟩
theorem read_fs {X : Type} {ec : TypeId × Value → X} {w : World} {base : Nat} {spare : Nat → Bool} {held : Bool} {fuel : Nat} {cs : List Value} {x : DataW X × List MemPlace}
    (h : DataW.trod ec Tryd.prog w base spare held fuel 26 cs = some x) : ∃ s : Fs, WfF s ∧ CellsRT w (enc s) cs := by
  obtain ⟨hl, hf⟩ := read_struct Tryd.underlying26 h (by rw [cells26]; rfl)
  have hl3 : cs.length = 3 := hl
  obtain ⟨a0, h0⟩ := hf 0 _ rfl rfl one22 U32 (reads_u32 Tryd.underlying22) (by omega)
  obtain ⟨a1, h1⟩ := hf 1 _ rfl rfl one23 (List I64) (reads_list Tryd.underlying23 one3 (reads_i64 Tryd.underlying3)) (by omega)
  obtain ⟨a2, h2⟩ := hf 2 _ rfl rfl one24 (List (List I64)) (reads_list Tryd.underlying24 one23 (reads_list Tryd.underlying23 one3 (reads_i64 Tryd.underlying3))) (by omega)
  rw [enc_ints] at h1
  rw [enc_rows] at h2
  refine ⟨⟨a0, ints a1, rows a2⟩, ⟨inR_ints a1, inR_rows a2⟩, hl3.symm, ?_⟩
  intro i k1 k2
  match i, k1, k2 with
  | 0, _, _ => exact h0
  | 1, _, _ => exact h1
  | 2, _, _ => exact h2
  | n + 3, _, k2 => exact absurd k2 (by omega)
end Go.Sim

namespace Go.Sim
open Enc (enc)
open Go.Proofs Go.ChangeShapes Go.WideShapes Go.Deep Go.RowKit
theorem cells49 : Tryd.prog.cellsOf 49 = 6 := by kernel_rfl
theorem one2 : Tryd.prog.cellsOf 2 = 1 := by kernel_rfl
theorem can49 : Tryd.prog.readableRec 49 = true ∧ 49 < Tryd.prog.types.size := ⟨by kernel_rfl, of_decide_eq_true (by kernel_rfl)⟩
theorem read_in {X : Type} {ec : TypeId × Value → X} {w : World} {base : Nat} {spare : Nat → Bool} {held : Bool} {fuel : Nat} {cs : List Value} {x : DataW X × List MemPlace}
    (h : DataW.trod ec Tryd.prog w base spare held fuel 49 cs = some x) : ∃ y : In, WfI y ∧ CellsRT w (enc y) cs := by
  obtain ⟨hl, hf⟩ := read_struct Tryd.underlying49 h (by rw [cells49]; rfl)
  have hl3 : cs.length = 6 := hl
  obtain ⟨a0, h0⟩ := hf 0 _ rfl rfl one3 I64 (reads_i64 Tryd.underlying3) (by omega)
  obtain ⟨a1, h1⟩ := hf 1 _ rfl rfl one3 I64 (reads_i64 Tryd.underlying3) (by omega)
  obtain ⟨a2, h2⟩ := hf 2 _ rfl rfl one3 I64 (reads_i64 Tryd.underlying3) (by omega)
  obtain ⟨a3, h3⟩ := hf 3 _ rfl rfl one3 I64 (reads_i64 Tryd.underlying3) (by omega)
  obtain ⟨a4, h4⟩ := hf 4 _ rfl rfl one3 I64 (reads_i64 Tryd.underlying3) (by omega)
  obtain ⟨a5, h5⟩ := hf 5 _ rfl rfl one2 I64 (reads_i64 Tryd.underlying2) (by omega)
  refine ⟨⟨a0.toInt, a1.toInt, a2.toInt, a3.toInt, a4.toInt, a5.toInt⟩, ⟨inR_i64 a0, fun k => ?_, inR_i64 a5⟩, hl3.symm, ?_⟩
  · match k with
    | 0 => exact inR_i64 a1
    | 1 => exact inR_i64 a2
    | 2 => exact inR_i64 a3
    | 3 => exact inR_i64 a4
    | k + 4 => unfold InR; simp [In.g]
  intro i k1 k2
  match i, k1, k2 with
  | 0, _, _ => exact h0
  | 1, _, _ => exact h1
  | 2, _, _ => exact h2
  | 3, _, _ => exact h3
  | 4, _, _ => exact h4
  | 5, _, _ => exact h5
  | n + 6, _, k2 => exact absurd k2 (by omega)
end Go.Sim
