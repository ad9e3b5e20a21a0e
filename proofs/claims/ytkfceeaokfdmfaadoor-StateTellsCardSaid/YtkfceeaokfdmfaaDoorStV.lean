/- A part of the proof of a law of module cupola: StV. It has no conditions of its own. -/
import Derived.Test.YtkfceeaokfdmfaaDoorStU
set_option linter.all false
set_option maxRecDepth 100000
namespace Go.Sim
open Enc (enc)
open Go.Proofs
theorem zero_ok : OkF zeroF := ⟨fun n h => (by cases h), fun r h => (by cases h), by decide, by decide, fun r h => (by cases h)⟩
theorem read_ok {c : ByteArray} (hc : c.size ≤ 1000) : OkF (readB c) := by
  unfold readB
  split
  · rename_i h
    refine parse_ok hc ?_
    unfold okR at h; simp only [Bool.and_eq_true, decide_eq_true_eq] at h; exact h.1
  · exact zero_ok
theorem stateTells_run (s x : Fs) (ws : WfF s) (wx : WfF x) (c : ByteArray) : Fun Tryd.prog 7 [enc s, enc x, .str c] (.t (.bool true)) := by
  refine Fun.go (b := false) Tryd.func7 rfl rfl (by kernel_rfl) (by kernel_rfl) ?_
  cases hs : fewF s
  · simp -implicitDefEqProofs (disch := first | exact dsch | fail) only [go_sem, ↓reduceIte, Nat.reduceEqDiff, hs]
  cases hx : fewF x
  · simp -implicitDefEqProofs (disch := first | exact dsch | fail) only [go_sem, ↓reduceIte, Nat.reduceEqDiff, hs, hx]
  by_cases hc : (c.size : Int) > 1000
  · simp -implicitDefEqProofs (disch := first | exact dsch | fail) only [go_sem, ↓reduceIte, Nat.reduceEqDiff, hs, hx, hc]
  have os := few_ok ws hs
  have ox := few_ok wx hx
  have hcs : c.size ≤ 1000 := by omega
  have h4 := parse_ok hcs
  obtain ⟨r1, r2⟩ := ref_ok hcs
  have or := (read_ok hcs).le
  have h1 := eqB_self (codeB s)
  have hsam : sameF (readB c) (readB c) = true := sameF_iff.2 rfl
  have hcs' : c.size ≤ 900000 := by omega
  cases hl : lessB s x <;> cases hw : okR c
  all_goals
    rw [hw] at r1
    simp -implicitDefEqProofs (disch := first | exact dsch | fail) only [go_sem, ↓reduceIte, Nat.reduceEqDiff, hs, hx, hc, os, ox, h4, or, r1, r2, h1, hsam, hl, hw, hcs, hcs', beq_self_eq_true]
end Go.Sim
