/- A part of the proof of a law of module cupola: LIs. It has no conditions of its own. -/
import Derived.Test.YtocehjbdnhmkfaaGreatPureI
set_option linter.all false
set_option maxRecDepth 100000
/-! The law LocalIs, as a run tells it. -/
namespace Go.Sim
open Enc (enc)
open Go.Proofs

theorem wantTo_succ (x : Ex) (f : List Int) (r : Nat) : wantTo x f (r + 1) = if gd f r < 0 ∨ (gd x.ev (gd f r).toNat).thread ≠ (gd x.ev r).thread then wantTo x f r else
    if shutB x (r : Int) (gd f r) = true then putR (orR (wantTo x f r) (crossR x.ev.length (needsM x (gd f r)) (1#32 <<< r))) (gd f r) r
    else orR (wantTo x f r) (crossR x.ev.length (needsM x (gd f r)) (1#32 <<< r)) := rfl
theorem localIs_run (t : Te) {a b c : Int} (ha : 0 ≤ a ∧ a < 65536) (hb : 0 ≤ b ∧ b < 65536) (hc : 0 ≤ c ∧ c < 65536) : Fun Tryz.prog 13 [enc t, arr3 a b c] (.t (.bool true)) := by
  refine Fun.go (b := false) Tryz.func13 rfl rfl (by kernel_rfl) (by kernel_rfl) ?_
  cases hf : fewB t
  · unfold arr3
    simp -implicitDefEqProofs (disch := first | exact dsch | fail) only [go_sem, ↓reduceIte, Nat.reduceEqDiff, hf]
  obtain ⟨u, hw, hu⟩ := law18_way t hf ha hb hc
  unfold arr3 at hw ⊢
  have hwp := fun K => hw.pu (K := K)
  have rd3 : rdV (.t (.agg [.int .u16 a, .int .u16 b, .int .u16 c])) 3 0 true 3 = some (.t (.agg [.int .u16 a, .int .u16 b, .int .u16 c])) := rfl
  rcases hu with ⟨x, f, co, rfl⟩ | ⟨x, f, co, hx, he, hfs, hco, rfl⟩
  · simp -implicitDefEqProofs (disch := first | exact dsch | (simp only [go_sem, hf, hwp, rd3]; omega) | (refine of_eq_true ?_; simp (disch := first | omega | (refine of_eq_true ?_; simp only [go_sem, hf, hwp, rd3]; done) | (simp only [go_sem, hf, hwp, rd3]; omega)) only [go_sem, hf, hwp, rd3]; done) | fail) only [go_sem, ↓reduceIte, Nat.reduceEqDiff, hf, hwp, rd3]
  obtain ⟨W, _⟩ := all_wf hx
  have hok := W.ok
  have hn := W.n
  have K := wayOk (by omega) hfs hco
  have hfl := K.fl
  have hcl := K.cl
  have hpl := W.lpo
  cases hI : internalB x f co
  · simp -implicitDefEqProofs (disch := first | exact dsch | (simp only [go_sem, hf, hwp, rd3, hI]; omega) | (refine of_eq_true ?_; simp (disch := first | omega | (refine of_eq_true ?_; simp only [go_sem, hf, hwp, rd3, hI]; done) | (simp only [go_sem, hf, hwp, rd3, hI]; omega)) only [go_sem, hf, hwp, rd3, hI]; done) | fail) only [go_sem, ↓reduceIte, Nat.reduceEqDiff, hf, hwp, rd3, hI]
  have hsame := is_pure W K hI
  simp -implicitDefEqProofs (disch := first | exact dsch | (simp only [go_sem, hf, hwp, rd3, hI]; omega) | (refine of_eq_true ?_; simp (disch := first | omega | (refine of_eq_true ?_; simp only [go_sem, hf, hwp, rd3, hI]; done) | (simp only [go_sem, hf, hwp, rd3, hI]; omega)) only [go_sem, hf, hwp, rd3, hI]; done) | fail) only [go_sem, ↓reduceIte, Nat.reduceEqDiff, hf, hwp, rd3, hI]
  refine loop_k (n := x.ev.length) [4, 5, 6, 7, 10] (by kernel_rfl) (fun i e H => e 12 = .t (.int .i64 i) ∧ e 11 = .t (enc (wantTo x f i)) ∧ ∃ o, H = [⟨[.t (enc t)], 2, false⟩, o, ⟨[.t (enc x)], 7, false⟩]) ?_ ?_
  · rintro i e H hi hk ⟨hct, h11, o, rfl⟩
    simp only [keepP, go_sem, ↓reduceIte, Nat.reduceEqDiff, and_true] at hk
    have hwl := wantTo_len x f i
    by_cases hlt : i < x.ev.length
    · have hst := wantTo_succ x f i
      have hfx : gd f i < 0 ∨ ∃ v : Nat, gd f i = (v : Int) ∧ v < x.ev.length := by
        rcases K.src i hlt with ⟨_, h⟩ | ⟨_, h | ⟨v, h1, h2, _⟩⟩
        · exact .inl (by omega)
        · exact .inl (by omega)
        · exact .inr ⟨v, h1, h2⟩
      rcases hfx with hfx | ⟨v, hfx, hv⟩
      · rw [if_pos (.inl hfx)] at hst
        simp -implicitDefEqProofs (disch := first | exact dsch | (simp only [go_sem, hk, hct, h11, hfx]; omega) | (refine of_eq_true ?_; simp (disch := first | omega | (refine of_eq_true ?_; simp only [go_sem, hk, hct, h11, hfx]; done) | (simp only [go_sem, hk, hct, h11, hfx]; omega)) only [go_sem, hk, hct, h11, hfx]; done) | fail) only [go_sem, ↓reduceIte, Nat.reduceEqDiff, hk, hct, h11, hfx]
        exact ⟨hlt, by rw [hst], _, rfl⟩
      · rw [hfx, Int.toNat_natCast] at hst
        by_cases hth : (gd x.ev v).thread = (gd x.ev i).thread
        · rw [if_neg (by simp [hth])] at hst
          cases hs : shutB x (i : Int) (v : Int)
          · rw [hs, if_neg (by simp)] at hst
            simp -implicitDefEqProofs (disch := first | exact dsch | (simp only [go_sem, hk, hct, h11, hfx, hth, hs]; omega) | (refine of_eq_true ?_; simp (disch := first | omega | (refine of_eq_true ?_; simp only [go_sem, hk, hct, h11, hfx, hth, hs]; done) | (simp only [go_sem, hk, hct, h11, hfx, hth, hs]; omega)) only [go_sem, hk, hct, h11, hfx, hth, hs]; done) | fail) only [go_sem, ↓reduceIte, Nat.reduceEqDiff, hk, hct, h11, hfx, hth, hs]
            exact ⟨hlt, by rw [hst], _, rfl⟩
          · rw [hs, if_pos rfl] at hst
            simp -implicitDefEqProofs (disch := first | exact dsch | (simp only [go_sem, hk, hct, h11, hfx, hth, hs]; omega) | (refine of_eq_true ?_; simp (disch := first | omega | (refine of_eq_true ?_; simp only [go_sem, hk, hct, h11, hfx, hth, hs]; done) | (simp only [go_sem, hk, hct, h11, hfx, hth, hs]; omega)) only [go_sem, hk, hct, h11, hfx, hth, hs]; done) | fail) only [go_sem, ↓reduceIte, Nat.reduceEqDiff, hk, hct, h11, hfx, hth, hs]
            exact ⟨hlt, by rw [hst], _, rfl⟩
        · rw [if_pos (.inr hth)] at hst
          simp -implicitDefEqProofs (disch := first | exact dsch | (simp only [go_sem, hk, hct, h11, hfx, hth]; omega) | (refine of_eq_true ?_; simp (disch := first | omega | (refine of_eq_true ?_; simp only [go_sem, hk, hct, h11, hfx, hth]; done) | (simp only [go_sem, hk, hct, h11, hfx, hth]; omega)) only [go_sem, hk, hct, h11, hfx, hth]; done) | fail) only [go_sem, ↓reduceIte, Nat.reduceEqDiff, hk, hct, h11, hfx, hth]
          exact ⟨hlt, by rw [hst], _, rfl⟩
    · obtain rfl : i = x.ev.length := by omega
      simp -implicitDefEqProofs (disch := first | exact dsch | (simp only [go_sem, hk, hct, h11, hsame]; omega) | (refine of_eq_true ?_; simp (disch := first | omega | (refine of_eq_true ?_; simp only [go_sem, hk, hct, h11, hsame]; done) | (simp only [go_sem, hk, hct, h11, hsame]; omega)) only [go_sem, hk, hct, h11, hsame]; done) | fail) only [go_sem, ↓reduceIte, Nat.reduceEqDiff, hk, hct, h11, hsame]
  · simp -implicitDefEqProofs (disch := first | exact dsch | fail) only [go_sem, ↓reduceIte, Nat.reduceEqDiff]
    exact ⟨rfl, _, rfl⟩
end Go.Sim
