/- A part of the proof of a law of module cupola: FlatJ. It has no conditions of its own. -/
import Derived.Test.YtoaboplnnhifpaaGreatFlatH
import Derived.Test.YtoaboplnnhifpaaGreatFlatS2
set_option linter.all false
set_option maxRecDepth 100000
namespace Go.Sim
open Enc (enc)
open Go.Proofs

theorem flatSound_run (t : Te) {a : Int} (ha : 0 ≤ a ∧ a < 65536) (picks : List U8) : Fun Tryz.prog 6 [enc t, .int .u16 a, enc picks] (.t (.bool true)) := by
  refine Fun.go (b := false) Tryz.func6 rfl rfl (by kernel_rfl) (by kernel_rfl) ?_
  cases hf : fewB t
  · simp -implicitDefEqProofs (disch := first | exact dsch | fail) only [go_sem, ↓reduceIte, Nat.reduceEqDiff, hf]
  obtain ⟨f1, f2, f3⟩ := few_len hf
  by_cases hl0 : t.init.length = 0
  · simp -implicitDefEqProofs (disch := first | exact dsch | fail) only [go_sem, ↓reduceIte, Nat.reduceEqDiff, hf, hl0]
  obtain ⟨u, hw, hu⟩ := law19_one t hf ha
  have hwp := fun K => hw.pu (K := K)
  rcases hu with ⟨x, rfl⟩ | ⟨x, hx, he, rfl⟩
  · simp -implicitDefEqProofs (disch := first | exact dsch | fail) only [go_sem, ↓reduceIte, Nat.reduceEqDiff, hf, hl0, hwp]
  obtain ⟨W, _⟩ := all_wf hx
  have hok := W.ok
  have hn := W.n
  have hst := fun K => pu_Start (x := x) (init := t.init) (by omega) (by omega) (K := K)
  simp -implicitDefEqProofs (disch := first | exact dsch | fail) only [go_sem, ↓reduceIte, Nat.reduceEqDiff, hf, hl0, hwp, hst]
  refine loop_k (n := 30) [2, 3, 7, 8, 10] (by kernel_rfl) (fun i e H => e 11 = .t (.int .i64 i) ∧ ∃ h s R, FRun x t.init h s ∧ H = ⟨[.t (enc t)], 2, false⟩ :: ⟨[.t (enc x)], 7, false⟩ :: ⟨[.t (enc s)], 3, false⟩ :: R) ?_ ?_
  · rintro i e H hi hk ⟨hct, h, s, R, r, rfl⟩
    simp only [keepP, go_sem, ↓reduceIte, Nat.reduceEqDiff, and_true] at hk
    have I := run_inv W rfl r
    have B := bd_inv W (by omega) I
    have hmv := fun K => pu_Moves W B (K := K)
    by_cases hlt2 : i < 30
    · by_cases hz : (movesR x t.init s).length = 0
      · skip
        have hco := fun K => pu_FCo B (K := K)
        have hho := fun K => pu_Holds hok B (K := K)
        have hcl := coS_len x s
        have hfl := B.f
        cases c1 : finalB x s
        · have h0 : holdsB x s = false := by unfold holdsB; rw [c1]; rfl
          simp -implicitDefEqProofs (disch := first | exact dsch | fail) only [go_sem, ↓reduceIte, Nat.reduceEqDiff, hk, hct, gx0, gxk, sx0, sxk, List.append_assoc, hco, hho, hcl, hfl, c1, h0, hmv, hz]
        · cases c2 : externalB x s.f (coS x s)
          · cases c3 : internalB x s.f (coS x s)
            · have h0 : holdsB x s = false := by unfold holdsB; rw [c3]; simp
              simp -implicitDefEqProofs (disch := first | exact dsch | fail) only [go_sem, ↓reduceIte, Nat.reduceEqDiff, hk, hct, gx0, gxk, sx0, sxk, List.append_assoc, hco, hho, hcl, hfl, c1, c2, c3, h0, hmv, hz]
            · exact absurd (flat_sound W rfl r c1 c3) (by rw [c2]; simp)
          · simp -implicitDefEqProofs (disch := first | exact dsch | fail) only [go_sem, ↓reduceIte, Nat.reduceEqDiff, hk, hct, gx0, gxk, sx0, sxk, List.append_assoc, hco, hho, hcl, hfl, c1, c2, hmv, hz]
      · by_cases hlt : i < picks.length
        · have hpl := (gd picks i).isLt
          obtain ⟨m1, hm1, hr1⟩ := rem_at (w := ((gd picks i).toNat : Int)) (n := (movesR x t.init s).length) (by omega) (by omega)
          have hin := gd_mem (l := movesR x t.init s) (i := m1) hm1
          obtain ⟨k, loc, o, hm, hkl, hloc, hll, hc⟩ := moves_ok W hin
          have hd0 := fun K => pu_Do W B (m := gd (movesR x t.init s) m1) (K := K)
          rw [if_pos hin, show doS x t.init s (gd (movesR x t.init s) m1) = doneR x s (gd (movesR x t.init s) m1) by unfold doS; rw [if_pos hin]] at hd0
          obtain ⟨I', _⟩ := step_inv W rfl I hkl hc
          obtain ⟨p1, p2, p3, p4, p5⟩ := steps_pure W rfl I hkl hc
          rw [hm] at hd0
          have r' := FRun.step k o r hkl hc
          have p0 : decide ((doneR x s ⟨k, o⟩).d = s.d) = false := decide_eq_false fun e => by
            have h2 : (s.d ||| 1#32 <<< k).getLsbD k = s.d.getLsbD k := by
              rw [show s.d ||| 1#32 <<< k = (doneR x s ⟨k, o⟩).d by unfold doneR; simp, e]
            rw [BitVec.getLsbD_or, oneb (by omega), p2] at h2
            simp at h2
          generalize doneR x s ⟨k, o⟩ = s' at *
          simp -implicitDefEqProofs (disch := first | exact dsch | fail) only [go_sem, ↓reduceIte, Nat.reduceEqDiff, hk, hct, gx0, gxk, sx0, sxk, List.append_assoc, hmv, hz, hm, hd0, p0, hr1]
          exact ⟨hlt2, _, s', _, r', rfl⟩
        · skip
          have hin := gd_mem (l := movesR x t.init s) (i := 0) (by omega)
          obtain ⟨k, loc, o, hm, hkl, hloc, hll, hc⟩ := moves_ok W hin
          have hd0 := fun K => pu_Do W B (m := gd (movesR x t.init s) 0) (K := K)
          rw [if_pos hin, show doS x t.init s (gd (movesR x t.init s) 0) = doneR x s (gd (movesR x t.init s) 0) by unfold doS; rw [if_pos hin]] at hd0
          obtain ⟨I', _⟩ := step_inv W rfl I hkl hc
          obtain ⟨p1, p2, p3, p4, p5⟩ := steps_pure W rfl I hkl hc
          rw [hm] at hd0
          have r' := FRun.step k o r hkl hc
          have p0 : decide ((doneR x s ⟨k, o⟩).d = s.d) = false := decide_eq_false fun e => by
            have h2 : (s.d ||| 1#32 <<< k).getLsbD k = s.d.getLsbD k := by
              rw [show s.d ||| 1#32 <<< k = (doneR x s ⟨k, o⟩).d by unfold doneR; simp, e]
            rw [BitVec.getLsbD_or, oneb (by omega), p2] at h2
            simp at h2
          generalize doneR x s ⟨k, o⟩ = s' at *
          simp -implicitDefEqProofs (disch := first | exact dsch | fail) only [go_sem, ↓reduceIte, Nat.reduceEqDiff, hk, hct, gx0, gxk, sx0, sxk, List.append_assoc, hmv, hz, hm, hd0, p0, hlt]
          exact ⟨hlt2, _, s', _, r', rfl⟩
    · skip
      have hco := fun K => pu_FCo B (K := K)
      have hho := fun K => pu_Holds hok B (K := K)
      have hcl := coS_len x s
      have hfl := B.f
      cases c1 : finalB x s
      · have h0 : holdsB x s = false := by unfold holdsB; rw [c1]; rfl
        simp -implicitDefEqProofs (disch := first | exact dsch | fail) only [go_sem, ↓reduceIte, Nat.reduceEqDiff, hk, hct, gx0, gxk, sx0, sxk, List.append_assoc, hco, hho, hcl, hfl, c1, h0, hmv]
      · cases c2 : externalB x s.f (coS x s)
        · cases c3 : internalB x s.f (coS x s)
          · have h0 : holdsB x s = false := by unfold holdsB; rw [c3]; simp
            simp -implicitDefEqProofs (disch := first | exact dsch | fail) only [go_sem, ↓reduceIte, Nat.reduceEqDiff, hk, hct, gx0, gxk, sx0, sxk, List.append_assoc, hco, hho, hcl, hfl, c1, c2, c3, h0, hmv]
          · exact absurd (flat_sound W rfl r c1 c3) (by rw [c2]; simp)
        · simp -implicitDefEqProofs (disch := first | exact dsch | fail) only [go_sem, ↓reduceIte, Nat.reduceEqDiff, hk, hct, gx0, gxk, sx0, sxk, List.append_assoc, hco, hho, hcl, hfl, c1, c2, hmv]
  · simp -implicitDefEqProofs (disch := first | exact dsch | fail) only [go_sem, ↓reduceIte, Nat.reduceEqDiff]
    exact ⟨[], _, _, .start, rfl⟩
end Go.Sim
