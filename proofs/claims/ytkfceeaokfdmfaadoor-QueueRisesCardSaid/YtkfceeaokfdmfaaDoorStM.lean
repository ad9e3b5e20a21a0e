/- A part of the proof of a law of module cupola: StM. It has no conditions of its own. -/
import Derived.Test.YtkfceeaokfdmfaaDoorStL
set_option linter.all false
set_option maxRecDepth 100000
namespace Go.Sim
open Enc (enc)
open Go.Proofs
theorem less_count {a b : Fs} (h : lessB a b = true) : popC a.d ≤ popC b.d := by
  rcases less_iff.1 h with h | ⟨h, _⟩ <;> omega
@[go_sem] theorem eq_bb {a b : Bool} : binT .eql .bool (.bool a) (.bool b) = some (.bool (a == b)) := rfl
theorem stateOrder_run (s x y : Fs) (ws : WfF s) (wx : WfF x) (wy : WfF y) : Fun Tryd.prog 4 [enc s, enc x, enc y] (.t (.bool true)) := by
  refine Fun.go (b := false) Tryd.func4 rfl rfl (by kernel_rfl) (by kernel_rfl) ?_
  cases hs : fewF s
  · simp -implicitDefEqProofs (disch := first | exact dsch | fail) only [go_sem, ↓reduceIte, Nat.reduceEqDiff, hs]
  cases hx : fewF x
  · simp -implicitDefEqProofs (disch := first | exact dsch | fail) only [go_sem, ↓reduceIte, Nat.reduceEqDiff, hs, hx]
  cases hy : fewF y
  · simp -implicitDefEqProofs (disch := first | exact dsch | fail) only [go_sem, ↓reduceIte, Nat.reduceEqDiff, hs, hx, hy]
  have os := few_ok ws hs
  have ox := few_ok wx hx
  have oy := few_ok wy hy
  have ls := os.le
  have lx := ox.le
  have hsam := eqB_code (s := s) (t := x)
  cases ha : lessB s x
  · cases hb : lessB x s
    · have he : s = x := by
        rcases less_tri s x with h | h | h
        · rw [ha] at h; cases h
        · exact h
        · rw [hb] at h; cases h
      subst he
      have h1 : sameF s s = true := sameF_iff.2 rfl
      rw [h1] at hsam
      simp -implicitDefEqProofs (disch := first | exact dsch | fail) only [go_sem, ↓reduceIte, Nat.reduceEqDiff, hs, hx, hy, os, ox, oy, ls, lx, ha, hb, hsam, h1, beq_self_eq_true]
      try rfl
    · have hne : sameF s x = false := by
        rw [← Bool.not_eq_true, sameF_iff]; rintro rfl; rw [less_irr] at hb; cases hb
      rw [hne] at hsam
      simp -implicitDefEqProofs (disch := first | exact dsch | fail) only [go_sem, ↓reduceIte, Nat.reduceEqDiff, hs, hx, hy, os, ox, oy, ls, lx, ha, hb, hsam, hne, beq_self_eq_true]
      try rfl
  · have hb := less_asym ha
    have hne : sameF s x = false := by
      rw [← Bool.not_eq_true, sameF_iff]; rintro rfl; rw [less_irr] at ha; cases ha
    have hc := less_count ha
    rw [hne] at hsam
    cases hk : lessB x y
    · simp -implicitDefEqProofs (disch := first | exact dsch | fail) only [go_sem, ↓reduceIte, Nat.reduceEqDiff, hs, hx, hy, os, ox, oy, ls, lx, ha, hb, hk, hsam, hne, hc, beq_self_eq_true]
      try rfl
    · have ht := less_trans ha hk
      simp -implicitDefEqProofs (disch := first | exact dsch | fail) only [go_sem, ↓reduceIte, Nat.reduceEqDiff, hs, hx, hy, os, ox, oy, ls, lx, ha, hb, hk, ht, hsam, hne, hc, beq_self_eq_true]
      try rfl
end Go.Sim
