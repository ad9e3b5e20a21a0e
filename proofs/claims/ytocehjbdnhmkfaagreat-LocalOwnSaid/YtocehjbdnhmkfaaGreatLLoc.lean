/- A part of the proof of a law of module cupola: LLoc. It has no conditions of its own. -/
import Derived.Test.YtocehjbdnhmkfaaGreatWayA
set_option linter.all false
set_option maxRecDepth 100000
/-! The law LocalOwn, as a run tells it. -/
namespace Go.Sim
open Enc (enc)
open Go.Proofs

theorem localOwn_run (t : Te) {a b c : Int} (ha : 0 ≤ a ∧ a < 65536) (hb : 0 ≤ b ∧ b < 65536) (hc : 0 ≤ c ∧ c < 65536) : Fun Tryz.prog 6 [enc t, arr3 a b c] (.t (.bool true)) := by
  refine Fun.go (b := false) Tryz.func6 rfl rfl (by kernel_rfl) (by kernel_rfl) ?_
  cases hf : fewB t
  · unfold arr3
    simp -implicitDefEqProofs (disch := first | exact dsch | fail) only [go_sem, ↓reduceIte, Nat.reduceEqDiff, hf]
  obtain ⟨u, hw, hu⟩ := law18_way t hf ha hb hc
  unfold arr3 at hw ⊢
  have hwp := fun K => hw.pu (K := K)
  have rd3 : rdV (.t (.agg [.int .u16 a, .int .u16 b, .int .u16 c])) 3 0 true 3 = some (.t (.agg [.int .u16 a, .int .u16 b, .int .u16 c])) := rfl
  rcases hu with ⟨x, f, co, rfl⟩ | ⟨x, f, co, hx, he, hfs, hco, rfl⟩
  · simp -implicitDefEqProofs (disch := first | exact dsch | (simp only [go_sem, hf, hwp, rd3]; omega) | (refine of_eq_true ?_; simp (disch := first | omega | (refine of_eq_true ?_; simp only [go_sem, hf, hwp, rd3]; done) | (simp only [go_sem, hf, hwp, rd3]; omega)) only [go_sem, hf, hwp, rd3]; done) | fail) only [go_sem, ↓reduceIte, Nat.reduceEqDiff, hf, hwp, rd3]
  obtain ⟨W, _⟩ := all_wf hx
  have hok := W.ok
  have hn := W.n
  have K := wayOk (by omega) hfs hco
  have hfl := K.fl
  have hcl := K.cl
  have hpl := W.lpo
  cases hI : internalB x f co
  · simp -implicitDefEqProofs (disch := first | exact dsch | (simp only [go_sem, hf, hwp, rd3, hI]; omega) | (refine of_eq_true ?_; simp (disch := first | omega | (refine of_eq_true ?_; simp only [go_sem, hf, hwp, rd3, hI]; done) | (simp only [go_sem, hf, hwp, rd3, hI]; omega)) only [go_sem, hf, hwp, rd3, hI]; done) | fail) only [go_sem, ↓reduceIte, Nat.reduceEqDiff, hf, hwp, rd3, hI]
  simp -implicitDefEqProofs (disch := first | exact dsch | (simp only [go_sem, hf, hwp, rd3, hI]; omega) | (refine of_eq_true ?_; simp (disch := first | omega | (refine of_eq_true ?_; simp only [go_sem, hf, hwp, rd3, hI]; done) | (simp only [go_sem, hf, hwp, rd3, hI]; omega)) only [go_sem, hf, hwp, rd3, hI]; done) | fail) only [go_sem, ↓reduceIte, Nat.reduceEqDiff, hf, hwp, rd3, hI]
  refine loop_k (n := x.ev.length) [5, 6, 7, 8] (by kernel_rfl) (fun i e H => e 10 = .t (.int .i64 i) ∧ ∃ o, H = [⟨[.t (enc t)], 2, false⟩, o, ⟨[.t (enc x)], 7, false⟩]) ?_ ?_
  · rintro i e H hi hk ⟨hct, o, rfl⟩
    simp only [keepP, go_sem, ↓reduceIte, Nat.reduceEqDiff, and_true] at hk
    by_cases hlt : i < x.ev.length
    · by_cases hk1 : (gd x.ev i).kind = 1
      · obtain ⟨A, B⟩ := own_law W K hI hlt hk1
        have hown := own_is W i
        rcases K.src i hlt with ⟨h1, _⟩ | ⟨_, h1⟩
        · exact absurd hk1 h1
        have hfx : gd f i = -1 ∨ ∃ v : Nat, gd f i = (v : Int) ∧ v < x.ev.length := by
          rcases h1 with h1 | ⟨v, h1, h2, _⟩
          · exact .inl h1
          · exact .inr ⟨v, h1, h2⟩
        clear h1
        rcases hfx with hfx | ⟨v, hfx, hv⟩
        · have hwz : ownZ x i = -1 := by
            rcases hown with h | ⟨w, h, _⟩
            · exact h
            · have := B (by omega) (by omega); omega
          simp -implicitDefEqProofs (disch := first | exact dsch | (simp only [go_sem, hk, hct, hk1, hfx, hwz]; omega) | (refine of_eq_true ?_; simp (disch := first | omega | (refine of_eq_true ?_; simp only [go_sem, hk, hct, hk1, hfx, hwz]; done) | (simp only [go_sem, hk, hct, hk1, hfx, hwz]; omega)) only [go_sem, hk, hct, hk1, hfx, hwz]; done) | fail) only [go_sem, ↓reduceIte, Nat.reduceEqDiff, hk, hct, hk1, hfx, hwz]
          exact ⟨hlt, _, rfl⟩
        · by_cases hth : (gd x.ev v).thread = (gd x.ev i).thread
          · have hwz : ownZ x i = v := by
              rw [← hfx]; exact (A (by omega) (by rw [hfx]; exact hth)).symm
            simp -implicitDefEqProofs (disch := first | exact dsch | (simp only [go_sem, hk, hct, hk1, hfx, hwz, hth]; omega) | (refine of_eq_true ?_; simp (disch := first | omega | (refine of_eq_true ?_; simp only [go_sem, hk, hct, hk1, hfx, hwz, hth]; done) | (simp only [go_sem, hk, hct, hk1, hfx, hwz, hth]; omega)) only [go_sem, hk, hct, hk1, hfx, hwz, hth]; done) | fail) only [go_sem, ↓reduceIte, Nat.reduceEqDiff, hk, hct, hk1, hfx, hwz, hth]
            exact ⟨hlt, _, rfl⟩
          · rcases hown with h | ⟨w, h, _⟩
            · simp -implicitDefEqProofs (disch := first | exact dsch | (simp only [go_sem, hk, hct, hk1, hfx, h, hth]; omega) | (refine of_eq_true ?_; simp (disch := first | omega | (refine of_eq_true ?_; simp only [go_sem, hk, hct, hk1, hfx, h, hth]; done) | (simp only [go_sem, hk, hct, hk1, hfx, h, hth]; omega)) only [go_sem, hk, hct, hk1, hfx, h, hth]; done) | fail) only [go_sem, ↓reduceIte, Nat.reduceEqDiff, hk, hct, hk1, hfx, h, hth]
              exact ⟨hlt, _, rfl⟩
            · by_cases hwv : (v : Int) = w
              · obtain rfl : v = w := by omega
                simp -implicitDefEqProofs (disch := first | exact dsch | (simp only [go_sem, hk, hct, hk1, hfx, h, hth]; omega) | (refine of_eq_true ?_; simp (disch := first | omega | (refine of_eq_true ?_; simp only [go_sem, hk, hct, hk1, hfx, h, hth]; done) | (simp only [go_sem, hk, hct, hk1, hfx, h, hth]; omega)) only [go_sem, hk, hct, hk1, hfx, h, hth]; done) | fail) only [go_sem, ↓reduceIte, Nat.reduceEqDiff, hk, hct, hk1, hfx, h, hth]
                exact ⟨hlt, _, rfl⟩
              · have hz : hasZ co (w : Int) (v : Int) = true := by
                  have := (B (by omega) (by omega)).2
                  rw [h, hfx] at this
                  simpa [hasZ] using this
                simp -implicitDefEqProofs (disch := first | exact dsch | (simp only [go_sem, hk, hct, hk1, hfx, h, hth, hwv, hz]; omega) | (refine of_eq_true ?_; simp (disch := first | omega | (refine of_eq_true ?_; simp only [go_sem, hk, hct, hk1, hfx, h, hth, hwv, hz]; done) | (simp only [go_sem, hk, hct, hk1, hfx, h, hth, hwv, hz]; omega)) only [go_sem, hk, hct, hk1, hfx, h, hth, hwv, hz]; done) | fail) only [go_sem, ↓reduceIte, Nat.reduceEqDiff, hk, hct, hk1, hfx, h, hth, hwv, hz]
                exact ⟨hlt, _, rfl⟩
      · simp -implicitDefEqProofs (disch := first | exact dsch | (simp only [go_sem, hk, hct, hk1]; omega) | (refine of_eq_true ?_; simp (disch := first | omega | (refine of_eq_true ?_; simp only [go_sem, hk, hct, hk1]; done) | (simp only [go_sem, hk, hct, hk1]; omega)) only [go_sem, hk, hct, hk1]; done) | fail) only [go_sem, ↓reduceIte, Nat.reduceEqDiff, hk, hct, hk1]
        exact ⟨hlt, _, rfl⟩
    · obtain rfl : i = x.ev.length := by omega
      simp -implicitDefEqProofs (disch := first | exact dsch | (simp only [go_sem, hk, hct]; omega) | (refine of_eq_true ?_; simp (disch := first | omega | (refine of_eq_true ?_; simp only [go_sem, hk, hct]; done) | (simp only [go_sem, hk, hct]; omega)) only [go_sem, hk, hct]; done) | fail) only [go_sem, ↓reduceIte, Nat.reduceEqDiff, hk, hct]
  · simp -implicitDefEqProofs (disch := first | exact dsch | fail) only [go_sem, ↓reduceIte, Nat.reduceEqDiff]
    exact ⟨_, rfl⟩
end Go.Sim
