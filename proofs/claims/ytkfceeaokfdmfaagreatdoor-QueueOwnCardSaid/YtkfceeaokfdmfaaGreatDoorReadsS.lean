/- A part of the proof of a law of module cupola: ReadsQ. It has no conditions of its own. -/
import Derived.Test.YtkfceeaokfdmfaaGreatDoorBridge
import Derived.Test.YtkfceeaokfdmfaaGreatDoorStL
set_option linter.all false
namespace Go.Sim
open Enc (enc)
open Go.Proofs Go.ChangeShapes Go.WideShapes Go.Deep Go.RowKit

instance : Enc I64 := ⟨fun n => .int .i64 n.toInt, 0, 1, by decide, fun _ => rfl⟩
instance : One I64 := ⟨rfl, fun _ => rfl, fun _ => rfl⟩
theorem reads_i64 {P : Program} {t : TypeId} (ht : P.underlying t = some (.int .i64)) : Reads P t I64 := by
  intro X ec w base spare held fuel cs x h
  obtain ⟨n, rfl, _, hw⟩ := DataW.trod_int ht h
  have hn : -9223372036854775808 ≤ n ∧ n ≤ 9223372036854775807 := by simpa [Lit.wf, IntKind.min, IntKind.max, IntKind.signed, IntKind.bits] using hw
  refine ⟨BitVec.ofInt 64 n, cells_one ?_⟩
  have e : (BitVec.ofInt 64 n).toInt = n := by
    rw [BitVec.toInt_ofInt, Int.bmod_def]
    simp only [Nat.reducePow]
    omega
  show RT w (old w) (.int .i64 (BitVec.ofInt 64 n).toInt) _
  rw [e]; exact .int _ _
def ints (l : List I64) : List Int := l.map fun n => n.toInt
def rows (l : List (List I64)) : List (List Int) := l.map ints
theorem enc_ints (l : List I64) : (enc l : T) = enc (ints l) := by
  show T.sl _ = T.sl _
  congr 1
  unfold ints
  rw [List.map_map]; rfl
theorem enc_rows (l : List (List I64)) : (enc l : T) = enc (rows l) := by
  show T.sl _ = T.sl _
  congr 1
  unfold rows
  rw [List.map_map]
  exact List.map_congr_left fun x _ => enc_ints x
theorem inR_i64 (n : I64) : InR n.toInt := by
  have h1 := BitVec.toInt_lt (x := n)
  have h2 := BitVec.le_toInt (x := n)
  unfold InR; omega
theorem inR_ints (l : List I64) : ∀ n ∈ ints l, InR n := by
  intro n hn
  obtain ⟨m, _, rfl⟩ := List.mem_map.1 hn
  exact inR_i64 m
theorem inR_rows (l : List (List I64)) : ∀ r ∈ rows l, ∀ n ∈ r, InR n := by
  intro r hr
  obtain ⟨m, _, rfl⟩ := List.mem_map.1 hr
  exact inR_ints m
theorem cellsS : Tryz.prog.cellsOf 43 = 3 := by kernel_rfl
theorem oneU : Tryz.prog.cellsOf 37 = 1 := by kernel_rfl
theorem oneI : Tryz.prog.cellsOf 38 = 1 := by kernel_rfl
theorem oneR : Tryz.prog.cellsOf 39 = 1 := by kernel_rfl
theorem oneN : Tryz.prog.cellsOf 3 = 1 := by kernel_rfl
theorem can43 : Tryz.prog.readableRec 43 = true ∧ 43 < Tryz.prog.types.size := ⟨by kernel_rfl, of_decide_eq_true (by kernel_rfl)⟩
theorem can22 : Tryz.prog.readableRec 22 = true ∧ 22 < Tryz.prog.types.size := ⟨by kernel_rfl, of_decide_eq_true (by kernel_rfl)⟩
theorem can3 : Tryz.prog.readableRec 3 = true ∧ 3 < Tryz.prog.types.size := ⟨by kernel_rfl, of_decide_eq_true (by kernel_rfl)⟩
theorem can5 : Tryz.prog.readableRec 5 = true ∧ 5 < Tryz.prog.types.size := ⟨by kernel_rfl, of_decide_eq_true (by kernel_rfl)⟩
theorem can23 : Tryz.prog.readableRec 23 = true ∧ 23 < Tryz.prog.types.size := ⟨by kernel_rfl, of_decide_eq_true (by kernel_rfl)⟩
structure FsI where
  d : U32
  f : List I64
  l : List (List I64)
def toFs (e : FsI) : Fs := ⟨e.d, ints e.f, rows e.l⟩
instance : Enc FsI := ⟨fun e => enc (toFs e), ⟨0#32, [], []⟩, 3, by decide, fun _ => rfl⟩
theorem wfI (e : FsI) : WfF (toFs e) := ⟨inR_ints e.f, inR_rows e.l⟩
theorem reads_fsI : Reads Tryz.prog 43 FsI := by
  intro X ec w base spare held fuel cs x h
  obtain ⟨hl, hf⟩ := read_struct Tryz.underlying43 h (by rw [cellsS]; rfl)
  have hl3 : cs.length = 3 := hl
  obtain ⟨a0, h0⟩ := hf 0 _ rfl rfl oneU U32 (reads_u32 Tryz.underlying37) (by omega)
  obtain ⟨a1, h1⟩ := hf 1 _ rfl rfl oneI (List I64) (reads_list Tryz.underlying38 oneN (reads_i64 Tryz.underlying3)) (by omega)
  obtain ⟨a2, h2⟩ := hf 2 _ rfl rfl oneR (List (List I64)) (reads_list Tryz.underlying39 oneI (reads_list Tryz.underlying38 oneN (reads_i64 Tryz.underlying3))) (by omega)
  rw [enc_ints] at h1
  rw [enc_rows] at h2
  refine ⟨⟨a0, a1, a2⟩, hl3.symm, ?_⟩
  intro i k1 k2
  match i, k1, k2 with
  | 0, _, _ => exact h0
  | 1, _, _ => exact h1
  | 2, _, _ => exact h2
  | n + 3, _, k2 => exact absurd k2 (by omega)
theorem reads_lst : Reads Tryz.prog 22 (List FsI) := reads_list Tryz.underlying22 cellsS reads_fsI
theorem enc_lst (l : List FsI) : (enc l : T) = enc (l.map toFs) := by
  show T.sl _ = T.sl _
  congr 1
  rw [List.map_map]; rfl
theorem wf_lst (l : List FsI) : ∀ x ∈ l.map toFs, WfF x := by
  intro x hx
  obtain ⟨e, _, rfl⟩ := List.mem_map.1 hx
  exact wfI e
theorem oneB : Tryz.prog.cellsOf 4 = 1 := by kernel_rfl
theorem reads_bls : Reads Tryz.prog 23 (List Bool) := reads_list Tryz.underlying23 oneB (reads_bool Tryz.underlying4)
end Go.Sim
