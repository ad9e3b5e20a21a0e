/- A part of the proof of a law of module cupola: Late. It has no conditions of its own. -/
import Derived.Test.YtocehjbdnhmkfaaGreatLocal
set_option linter.all false
set_option maxRecDepth 20000
/-! The law LocalLate, as a run tells it. -/
namespace Go.Sim
open Enc (enc)
open Go.Proofs

theorem few_len {t : Te} (h : fewB t = true) : t.init.length ≤ 10 ∧ t.th.length ≤ 10 ∧ ∀ x ∈ t.th, x.length ≤ 40 := by
  unfold fewB at h
  simp only [Bool.and_eq_true, decide_eq_true_eq, List.all_eq_true] at h
  exact ⟨h.1, h.2.1, h.2.2⟩
theorem localLate_run (t : Te) {w : Int} (hw0 : 0 ≤ w) (hw1 : w < 65536) : Fun Tryz.prog 4 [enc t, .int .u16 w] (.t (.bool true)) := by
  refine Fun.go (b := false) Tryz.func4 rfl rfl (by kernel_rfl) (by kernel_rfl) ?_
  cases hf : fewB t
  · simp -implicitDefEqProofs (disch := first | exact dsch | fail) only [go_sem, ↓reduceIte, Nat.reduceEqDiff, hf]
  obtain ⟨f1, f2, f3⟩ := few_len hf
  have hA := fun K => pu_All (K := K) (t := t) (by omega) (by omega) (fun x hx => by have := f3 x hx; omega)
  by_cases he : allE t = 0
  · by_cases hl : (allR t).length = 0
    · simp -implicitDefEqProofs (disch := first | exact dsch | fail) only [go_sem, ↓reduceIte, Nat.reduceEqDiff, hf, hA, he, hl]
    · have hpos : 0 < ((allR t).length : Int) := by omega
      obtain ⟨m, hm⟩ := Int.eq_ofNat_of_zero_le (Int.tmod_nonneg ((allR t).length : Int) hw0)
      have hml : m < (allR t).length := by
        have := Int.tmod_lt_of_pos w hpos
        rw [hm] at this; omega
      have hrem : ∀ xb, binT .rem xb (.int .i64 w) (.int .i64 ((allR t).length : Int)) = some (.int .i64 (m : Int)) := fun xb => by rw [binT_rem (by omega), hm]
      obtain ⟨W, _⟩ := all_wf (gd_mem hml)
      have hok := W.ok
      have hn := W.n
      have ix : ∀ H e, indexV H (.sl e) 7 (.t (enc (allR t))) (m : Int) = some (.tp ((allR t).map enc) m 0) := fun H e => ix_enc (H := H) (e := e) (l := allR t) (i := (m : Int)) rfl (by omega) (by omega)
      have ld : ∀ H, loadV H (some (true, 7)) (.tp ((allR t).map enc) m 0) = some ⟨.t (enc (gd (allR t) m)), H, .none⟩ := fun H => by
        rw [load_tpc hml]; rfl
      simp -implicitDefEqProofs (disch := first | exact dsch | (simp only [go_sem, hf, hA, he, hl, hrem, ix, ld]; omega) | (refine of_eq_true ?_; simp (disch := first | omega | (refine of_eq_true ?_; simp only [go_sem, hf, hA, he, hl, hrem, ix, ld]; done) | (simp only [go_sem, hf, hA, he, hl, hrem, ix, ld]; omega)) only [go_sem, hf, hA, he, hl, hrem, ix, ld]; done) | fail) only [go_sem, ↓reduceIte, Nat.reduceEqDiff, hf, hA, he, hl, hrem, ix, ld]
      generalize gd (allR t) m = x at W hok hn
      have hlo := hok.po
      have hac := late_acy W
      have htr := late_trans W
      refine loop_k (n := x.ev.length) [5, 8, 9] (by kernel_rfl) (fun i e H => e 10 = .t (.int .i64 i) ∧ ∃ R, H = ⟨[.t (enc t)], 2, false⟩ :: ⟨[.t (enc x)], 7, false⟩ :: R) ?_ ?_
      · rintro i e H hi hk ⟨hc, R, rfl⟩
        simp only [keepP, go_sem, ↓reduceIte, Nat.reduceEqDiff, and_true] at hk
        by_cases hlt : i < x.ev.length
        · simp -implicitDefEqProofs (disch := first | exact dsch | fail) only [go_sem, ↓reduceIte, Nat.reduceEqDiff, hk, hc]
          refine loop_k (n := x.ev.length) [5, 8, 9, 10] (by kernel_rfl) (fun j e H => e 11 = .t (.int .i64 j) ∧ ∃ R, H = ⟨[.t (enc t)], 2, false⟩ :: ⟨[.t (enc x)], 7, false⟩ :: R) ?_ ?_
          · rintro j e2 H2 hj hk2 ⟨hc2, R2, rfl⟩
            simp only [keepP, go_sem, ↓reduceIte, Nat.reduceEqDiff, and_true] at hk2
            by_cases hlt2 : j < x.ev.length
            · have hb := late_both W hlt hlt2
              have hz1 : hasZ (lateR x) i j = has (lateR x) i j := by simp [hasZ]
              have hz2 : hasZ (lateR x) j i = has (lateR x) j i := by simp [hasZ]
              have hsh := shut_excl W (i := i) (k := j)
              generalize has (lateR x) i j = p at hb hz1
              generalize has (lateR x) j i = q at hb hz2
              have hs2 : ∃ s, shutB x i j = s := ⟨_, rfl⟩
              obtain ⟨s, hs⟩ := hs2
              rw [hs] at hsh
              by_cases q0 : (i : Int) = j
              · obtain rfl : i = j := by omega
                have hb' : (p == q) = true := by
                  have : (p != q) = false := by rw [hb]; unfold bothB; simp
                  simpa using this
                cases s
                · simp -implicitDefEqProofs (disch := first | exact dsch | fail) only [go_sem, ↓reduceIte, Nat.reduceEqDiff, hk, hc, hk2, hc2, gx0, gxk, sx0, sxk, List.append_assoc, hz1, hz2, hb', hs, Bool.not_true, Bool.not_false, beq_self_eq_true, beq_tf, beq_ft, q0]
                  exact ⟨hlt2, _, rfl⟩
                · have hx := hsh rfl
                  simp -implicitDefEqProofs (disch := first | exact dsch | fail) only [go_sem, ↓reduceIte, Nat.reduceEqDiff, hk, hc, hk2, hc2, gx0, gxk, sx0, sxk, List.append_assoc, hz1, hz2, hb', hs, hx, Bool.not_true, Bool.not_false, beq_self_eq_true, beq_tf, beq_ft, q0]
                  exact ⟨hlt2, _, rfl⟩
              by_cases q1 : (gd x.ev i).kind = 2
              rotate_left
              · have hb' : (p == q) = true := by have : (p != q) = false := by { rw [hb]; unfold bothB; simp [q1] }; simpa using this
                cases s
                · simp -implicitDefEqProofs (disch := first | exact dsch | fail) only [go_sem, ↓reduceIte, Nat.reduceEqDiff, hk, hc, hk2, hc2, gx0, gxk, sx0, sxk, List.append_assoc, hz1, hz2, hb', hs, Bool.not_true, Bool.not_false, beq_self_eq_true, beq_tf, beq_ft, q0, q1]
                  exact ⟨hlt2, _, rfl⟩
                · have hx := hsh rfl
                  simp -implicitDefEqProofs (disch := first | exact dsch | fail) only [go_sem, ↓reduceIte, Nat.reduceEqDiff, hk, hc, hk2, hc2, gx0, gxk, sx0, sxk, List.append_assoc, hz1, hz2, hb', hs, hx, Bool.not_true, Bool.not_false, beq_self_eq_true, beq_tf, beq_ft, q0, q1]
                  exact ⟨hlt2, _, rfl⟩
              by_cases q2 : (gd x.ev j).kind = 2
              rotate_left
              · have hb' : (p == q) = true := by have : (p != q) = false := by { rw [hb]; unfold bothB; simp [q2] }; simpa using this
                cases s
                · simp -implicitDefEqProofs (disch := first | exact dsch | fail) only [go_sem, ↓reduceIte, Nat.reduceEqDiff, hk, hc, hk2, hc2, gx0, gxk, sx0, sxk, List.append_assoc, hz1, hz2, hb', hs, Bool.not_true, Bool.not_false, beq_self_eq_true, beq_tf, beq_ft, q0, q1, q2]
                  exact ⟨hlt2, _, rfl⟩
                · have hx := hsh rfl
                  simp -implicitDefEqProofs (disch := first | exact dsch | fail) only [go_sem, ↓reduceIte, Nat.reduceEqDiff, hk, hc, hk2, hc2, gx0, gxk, sx0, sxk, List.append_assoc, hz1, hz2, hb', hs, hx, Bool.not_true, Bool.not_false, beq_self_eq_true, beq_tf, beq_ft, q0, q1, q2]
                  exact ⟨hlt2, _, rfl⟩
              by_cases q3 : (gd x.ev i).loc = (gd x.ev j).loc
              rotate_left
              · have hb' : (p == q) = true := by have : (p != q) = false := by { rw [hb]; unfold bothB; simp [q3] }; simpa using this
                cases s
                · simp -implicitDefEqProofs (disch := first | exact dsch | fail) only [go_sem, ↓reduceIte, Nat.reduceEqDiff, hk, hc, hk2, hc2, gx0, gxk, sx0, sxk, List.append_assoc, hz1, hz2, hb', hs, Bool.not_true, Bool.not_false, beq_self_eq_true, beq_tf, beq_ft, q0, q1, q2, q3]
                  exact ⟨hlt2, _, rfl⟩
                · have hx := hsh rfl
                  simp -implicitDefEqProofs (disch := first | exact dsch | fail) only [go_sem, ↓reduceIte, Nat.reduceEqDiff, hk, hc, hk2, hc2, gx0, gxk, sx0, sxk, List.append_assoc, hz1, hz2, hb', hs, hx, Bool.not_true, Bool.not_false, beq_self_eq_true, beq_tf, beq_ft, q0, q1, q2, q3]
                  exact ⟨hlt2, _, rfl⟩
              by_cases q4 : (gd x.ev i).thread = (gd x.ev j).thread
              rotate_left
              · have hb' : (p == q) = true := by have : (p != q) = false := by { rw [hb]; unfold bothB; simp [q4] }; simpa using this
                cases s
                · simp -implicitDefEqProofs (disch := first | exact dsch | fail) only [go_sem, ↓reduceIte, Nat.reduceEqDiff, hk, hc, hk2, hc2, gx0, gxk, sx0, sxk, List.append_assoc, hz1, hz2, hb', hs, Bool.not_true, Bool.not_false, beq_self_eq_true, beq_tf, beq_ft, q0, q1, q2, q3, q4]
                  exact ⟨hlt2, _, rfl⟩
                · have hx := hsh rfl
                  simp -implicitDefEqProofs (disch := first | exact dsch | fail) only [go_sem, ↓reduceIte, Nat.reduceEqDiff, hk, hc, hk2, hc2, gx0, gxk, sx0, sxk, List.append_assoc, hz1, hz2, hb', hs, hx, Bool.not_true, Bool.not_false, beq_self_eq_true, beq_tf, beq_ft, q0, q1, q2, q3, q4]
                  exact ⟨hlt2, _, rfl⟩
              have hb' : (p == q) = false := by
                have : (p != q) = true := by
                  rw [hb]; unfold bothB; have : ¬ i = j := by omega
                  simp [this, q1, q2, q3, q4]
                simpa using this
              cases s
              · simp -implicitDefEqProofs (disch := first | exact dsch | fail) only [go_sem, ↓reduceIte, Nat.reduceEqDiff, hk, hc, hk2, hc2, gx0, gxk, sx0, sxk, List.append_assoc, hz1, hz2, hb', hs, Bool.not_true, Bool.not_false, beq_self_eq_true, beq_tf, beq_ft, q0, q1, q2, q3, q4]
                exact ⟨hlt2, _, rfl⟩
              · have hx := hsh rfl
                simp -implicitDefEqProofs (disch := first | exact dsch | fail) only [go_sem, ↓reduceIte, Nat.reduceEqDiff, hk, hc, hk2, hc2, gx0, gxk, sx0, sxk, List.append_assoc, hz1, hz2, hb', hs, hx, Bool.not_true, Bool.not_false, beq_self_eq_true, beq_tf, beq_ft, q0, q1, q2, q3, q4]
                exact ⟨hlt2, _, rfl⟩
            · obtain rfl : j = x.ev.length := by omega
              simp -implicitDefEqProofs (disch := first | exact dsch | fail) only [go_sem, ↓reduceIte, Nat.reduceEqDiff, hk2, hc2, hk, hc]
              exact ⟨hlt, _, rfl⟩
          · simp -implicitDefEqProofs (disch := first | exact dsch | fail) only [go_sem, ↓reduceIte, Nat.reduceEqDiff]
            exact ⟨_, rfl⟩
        · obtain rfl : i = x.ev.length := by omega
          simp -implicitDefEqProofs (disch := first | exact dsch | fail) only [go_sem, ↓reduceIte, Nat.reduceEqDiff, hk, hc, hac, htr]
      · simp -implicitDefEqProofs (disch := first | exact dsch | fail) only [go_sem, ↓reduceIte, Nat.reduceEqDiff]
        exact ⟨_, rfl⟩
  · simp -implicitDefEqProofs (disch := first | exact dsch | fail) only [go_sem, ↓reduceIte, Nat.reduceEqDiff, hf, hA, he]
end Go.Sim
