/- A part of the proof of a law of module cupola: StR. It has no conditions of its own. -/
import Derived.Test.YtkfceeaokfdmfaaDoorStB
set_option linter.all false
set_option maxRecDepth 100000
namespace Go.Sim
open Enc (enc)
open Go.Proofs
theorem stateBack_run (s : Fs) (ws : WfF s) (c : ByteArray) : Fun Tryd.prog 6 [enc s, .str c] (.t (.bool true)) := by
  refine Fun.go (b := false) Tryd.func6 rfl rfl (by kernel_rfl) (by kernel_rfl) ?_
  cases hs : fewF s
  · simp -implicitDefEqProofs (disch := first | exact dsch | fail) only [go_sem, ↓reduceIte, Nat.reduceEqDiff, hs]
  by_cases hc : (c.size : Int) > 1000
  · simp -implicitDefEqProofs (disch := first | exact dsch | fail) only [go_sem, ↓reduceIte, Nat.reduceEqDiff, hs, hc]
  have os := few_ok ws hs
  have le := os.le
  have h1 := few_size ws hs
  have h3 : (piecesB 59 (codeB s)).length = 3 → OkF (parseB (codeB s)) := fun _ => by rw [parse_code os]; exact os
  have h4 := parse_ok (c := c) (by omega)
  have h5 := readB_code os
  have h6 := okR_code os
  have hsam : sameF s s = true := sameF_iff.2 rfl
  have hcs : c.size ≤ 900000 := by omega
  cases hw : okR c
  · have h7 : readB c = zeroF := by unfold readB; rw [hw]; rfl
    simp -implicitDefEqProofs (disch := first | exact dsch | fail) only [go_sem, ↓reduceIte, Nat.reduceEqDiff, hs, hc, os, le, h1, h3, h4, h5, h6, h7, hw, hsam, zeroF]
  · have h7 := code_read hw
    have h8 : OkF (readB c) := by
      unfold readB; rw [hw, if_pos rfl]; refine h4 ?_
      unfold okR at hw; simp only [Bool.and_eq_true, decide_eq_true_eq] at hw; exact hw.1
    have h9 := eqB_self c
    simp -implicitDefEqProofs (disch := first | exact dsch | fail) only [go_sem, ↓reduceIte, Nat.reduceEqDiff, hs, hc, os, le, h1, h3, h4, h5, h6, h7, h8, h9, hw, hsam]
end Go.Sim
