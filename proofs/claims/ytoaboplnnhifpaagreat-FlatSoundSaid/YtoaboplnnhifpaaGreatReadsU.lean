/- A part of the proof of a law of module cupola: ReadsU. It has no conditions of its own. -/
import Derived.Test.YtoaboplnnhifpaaGreatReadsT
import Derived.Test.YtoaboplnnhifpaaGreatFlatH
set_option linter.all false
namespace Go.Sim
open Enc (enc)
open Go.Proofs Go.ChangeShapes Go.WideShapes Go.Deep Go.RowKit
theorem one5 : Tryz.prog.cellsOf 5 = 1 := by kernel_rfl
theorem can27 : Tryz.prog.readableRec 27 = true ∧ 27 < Tryz.prog.types.size := ⟨by kernel_rfl, of_decide_eq_true (by kernel_rfl)⟩
theorem reads_u8 {P : Program} {t : TypeId} (ht : P.underlying t = some (.int .u8)) : Reads P t U8 := by
  intro X ec w base spare held fuel cs x h
  obtain ⟨n, rfl, _, hw⟩ := DataW.trod_int ht h
  have hn : 0 ≤ n ∧ n ≤ 255 := by simpa [Lit.wf, IntKind.min, IntKind.max, IntKind.signed, IntKind.bits] using hw
  refine ⟨BitVec.ofNat 8 n.toNat, cells_one ?_⟩
  have e : (((BitVec.ofNat 8 n.toNat).toNat : Nat) : Int) = n := by rw [BitVec.toNat_ofNat, Nat.mod_eq_of_lt (by omega)]; omega
  show RT w (old w) (.int .u8 (((BitVec.ofNat 8 n.toNat).toNat : Nat) : Int)) _
  rw [e]; exact .int _ _
theorem reads_pk : Reads Tryz.prog 27 (List U8) := reads_list Tryz.underlying27 one5 (reads_u8 Tryz.underlying5)
end Go.Sim
