/- A part of the proof of a law of module cupola: LFew. It has no conditions of its own. -/
import Derived.Test.YtocehjbdnhmkfaaGreatWayA
import Derived.Test.YtocehjbdnhmkfaaGreatShw
set_option linter.all false
set_option maxRecDepth 100000
/-! The laws AxiomFew, AxiomWide, AxiomLine, AxiomOwn, as a run tells them. -/
namespace Go.Sim
open Enc (enc)
open Go.Proofs

theorem axiomFew_run (t : Te) {a b c : Int} (ha : 0 ≤ a ∧ a < 65536) (hb : 0 ≤ b ∧ b < 65536) (hc : 0 ≤ c ∧ c < 65536) : Fun Tryz.prog 11 [enc t, arr3 a b c] (.t (.bool true)) := by
  refine Fun.go (b := false) Tryz.func11 rfl rfl (by kernel_rfl) (by kernel_rfl) ?_
  cases hf : fewB t
  · unfold arr3
    simp -implicitDefEqProofs (disch := first | exact dsch | fail) only [go_sem, ↓reduceIte, Nat.reduceEqDiff, hf]
  obtain ⟨u, hw, hu⟩ := law16_way t hf ha hb hc
  unfold arr3 at hw ⊢
  have hwp := fun K => hw.pu (K := K)
  have rd3 : rdV (.t (.agg [.int .u16 a, .int .u16 b, .int .u16 c])) 3 0 true 3 = some (.t (.agg [.int .u16 a, .int .u16 b, .int .u16 c])) := rfl
  rcases hu with ⟨x, f, co, rfl⟩ | ⟨x, f, co, hx, he, hfs, hco, rfl⟩
  · simp -implicitDefEqProofs (disch := first | exact dsch | (simp only [go_sem, hf, hwp, rd3]; omega) | (refine of_eq_true ?_; simp (disch := first | omega | (refine of_eq_true ?_; simp only [go_sem, hf, hwp, rd3]; done) | (simp only [go_sem, hf, hwp, rd3]; omega)) only [go_sem, hf, hwp, rd3]; done) | fail) only [go_sem, ↓reduceIte, Nat.reduceEqDiff, hf, hwp, rd3]
  obtain ⟨W, _⟩ := all_wf hx
  have hok := W.ok
  have hn := W.n
  have K := wayOk (by omega) hfs hco
  have hfl := K.fl
  have hcl := K.cl
  have hpl := W.lpo
  have hxf : Okx (freeX x) := freeX_wf W
  have hcx : co.length = (freeX x).ev.length := hcl
  have h1 := few_same W K
  have h2 := few_atomic (f := f) (co := co) W
  have h3 := few_ext W K
  have fx : T.agg [enc x.ev, enc x.po, enc x.addr, enc x.data, enc x.ctrl, enc (noneR x.ev.length), enc x.regs] = enc (freeX x) := rfl
  have hg : goodB x f co = (internalB x f co && (externalB x f co && atomicB x f co)) := rfl
  have h4 : externalB (freeX x) f co = true ∨ externalB x f co = false := by
    cases h : externalB x f co
    · exact .inr rfl
    · exact .inl (h3 h)
  obtain ⟨pI, hI⟩ : ∃ p, internalB x f co = p := ⟨_, rfl⟩
  obtain ⟨pE, hE⟩ : ∃ p, externalB x f co = p := ⟨_, rfl⟩
  obtain ⟨pA, hA⟩ : ∃ p, atomicB x f co = p := ⟨_, rfl⟩
  rw [hI, hE, hA] at hg
  rw [hE] at h4
  cases pI
  · cases pE
    · clear h4
      simp -implicitDefEqProofs (disch := first | exact dsch | (simp only [go_sem, hf, hwp, rd3, h1, h2, fx, hg, hI, hE, hA, Bool.true_and, Bool.false_and, Bool.and_false, beq_self_eq_true]; omega) | (refine of_eq_true ?_; simp (disch := first | omega | (refine of_eq_true ?_; simp only [go_sem, hf, hwp, rd3, h1, h2, fx, hg, hI, hE, hA, Bool.true_and, Bool.false_and, Bool.and_false, beq_self_eq_true]; done) | (simp only [go_sem, hf, hwp, rd3, h1, h2, fx, hg, hI, hE, hA, Bool.true_and, Bool.false_and, Bool.and_false, beq_self_eq_true]; omega)) only [go_sem, hf, hwp, rd3, h1, h2, fx, hg, hI, hE, hA, Bool.true_and, Bool.false_and, Bool.and_false, beq_self_eq_true]; done) | fail) only [go_sem, ↓reduceIte, Nat.reduceEqDiff, hf, hwp, rd3, h1, h2, fx, hg, hI, hE, hA, Bool.true_and, Bool.false_and, Bool.and_false, beq_self_eq_true]
    · replace h4 := h4.resolve_right (by simp)
      simp -implicitDefEqProofs (disch := first | exact dsch | (simp only [go_sem, hf, hwp, rd3, h1, h2, h4, fx, hg, hI, hE, hA, Bool.true_and, Bool.false_and, Bool.and_false, beq_self_eq_true]; omega) | (refine of_eq_true ?_; simp (disch := first | omega | (refine of_eq_true ?_; simp only [go_sem, hf, hwp, rd3, h1, h2, h4, fx, hg, hI, hE, hA, Bool.true_and, Bool.false_and, Bool.and_false, beq_self_eq_true]; done) | (simp only [go_sem, hf, hwp, rd3, h1, h2, h4, fx, hg, hI, hE, hA, Bool.true_and, Bool.false_and, Bool.and_false, beq_self_eq_true]; omega)) only [go_sem, hf, hwp, rd3, h1, h2, h4, fx, hg, hI, hE, hA, Bool.true_and, Bool.false_and, Bool.and_false, beq_self_eq_true]; done) | fail) only [go_sem, ↓reduceIte, Nat.reduceEqDiff, hf, hwp, rd3, h1, h2, h4, fx, hg, hI, hE, hA, Bool.true_and, Bool.false_and, Bool.and_false, beq_self_eq_true]
  · cases pE
    · clear h4
      simp -implicitDefEqProofs (disch := first | exact dsch | (simp only [go_sem, hf, hwp, rd3, h1, h2, fx, hg, hI, hE, hA, Bool.true_and, Bool.false_and, Bool.and_false, beq_self_eq_true]; omega) | (refine of_eq_true ?_; simp (disch := first | omega | (refine of_eq_true ?_; simp only [go_sem, hf, hwp, rd3, h1, h2, fx, hg, hI, hE, hA, Bool.true_and, Bool.false_and, Bool.and_false, beq_self_eq_true]; done) | (simp only [go_sem, hf, hwp, rd3, h1, h2, fx, hg, hI, hE, hA, Bool.true_and, Bool.false_and, Bool.and_false, beq_self_eq_true]; omega)) only [go_sem, hf, hwp, rd3, h1, h2, fx, hg, hI, hE, hA, Bool.true_and, Bool.false_and, Bool.and_false, beq_self_eq_true]; done) | fail) only [go_sem, ↓reduceIte, Nat.reduceEqDiff, hf, hwp, rd3, h1, h2, fx, hg, hI, hE, hA, Bool.true_and, Bool.false_and, Bool.and_false, beq_self_eq_true]
    · replace h4 := h4.resolve_right (by simp)
      cases pA <;> simp -implicitDefEqProofs (disch := first | exact dsch | (simp only [go_sem, hf, hwp, rd3, h1, h2, h4, fx, hg, hI, hE, hA, Bool.true_and, Bool.false_and, Bool.and_false, beq_self_eq_true]; omega) | (refine of_eq_true ?_; simp (disch := first | omega | (refine of_eq_true ?_; simp only [go_sem, hf, hwp, rd3, h1, h2, h4, fx, hg, hI, hE, hA, Bool.true_and, Bool.false_and, Bool.and_false, beq_self_eq_true]; done) | (simp only [go_sem, hf, hwp, rd3, h1, h2, h4, fx, hg, hI, hE, hA, Bool.true_and, Bool.false_and, Bool.and_false, beq_self_eq_true]; omega)) only [go_sem, hf, hwp, rd3, h1, h2, h4, fx, hg, hI, hE, hA, Bool.true_and, Bool.false_and, Bool.and_false, beq_self_eq_true]; done) | fail) only [go_sem, ↓reduceIte, Nat.reduceEqDiff, hf, hwp, rd3, h1, h2, h4, fx, hg, hI, hE, hA, Bool.true_and, Bool.false_and, Bool.and_false, beq_self_eq_true]
theorem axiomWide_run (t : Te) {a b c : Int} (ha : 0 ≤ a ∧ a < 65536) (hb : 0 ≤ b ∧ b < 65536) (hc : 0 ≤ c ∧ c < 65536) : Fun Tryz.prog 10 [enc t, arr3 a b c] (.t (.bool true)) := by
  refine Fun.go (b := false) Tryz.func10 rfl rfl (by kernel_rfl) (by kernel_rfl) ?_
  cases hf : fewB t
  · unfold arr3
    simp -implicitDefEqProofs (disch := first | exact dsch | fail) only [go_sem, ↓reduceIte, Nat.reduceEqDiff, hf]
  obtain ⟨u, hw, hu⟩ := law16_way t hf ha hb hc
  unfold arr3 at hw ⊢
  have hwp := fun K => hw.pu (K := K)
  have rd3 : rdV (.t (.agg [.int .u16 a, .int .u16 b, .int .u16 c])) 3 0 true 3 = some (.t (.agg [.int .u16 a, .int .u16 b, .int .u16 c])) := rfl
  rcases hu with ⟨x, f, co, rfl⟩ | ⟨x, f, co, hx, he, hfs, hco, rfl⟩
  · simp -implicitDefEqProofs (disch := first | exact dsch | (simp only [go_sem, hf, hwp, rd3]; omega) | (refine of_eq_true ?_; simp (disch := first | omega | (refine of_eq_true ?_; simp only [go_sem, hf, hwp, rd3]; done) | (simp only [go_sem, hf, hwp, rd3]; omega)) only [go_sem, hf, hwp, rd3]; done) | fail) only [go_sem, ↓reduceIte, Nat.reduceEqDiff, hf, hwp, rd3]
  obtain ⟨W, _⟩ := all_wf hx
  have hok := W.ok
  have hn := W.n
  have K := wayOk (by omega) hfs hco
  have hfl := K.fl
  have hcl := K.cl
  have hpl := W.lpo
  cases hI : internalB x f co
  · simp -implicitDefEqProofs (disch := first | exact dsch | (simp only [go_sem, hf, hwp, rd3, hI]; omega) | (refine of_eq_true ?_; simp (disch := first | omega | (refine of_eq_true ?_; simp only [go_sem, hf, hwp, rd3, hI]; done) | (simp only [go_sem, hf, hwp, rd3, hI]; omega)) only [go_sem, hf, hwp, rd3, hI]; done) | fail) only [go_sem, ↓reduceIte, Nat.reduceEqDiff, hf, hwp, rd3, hI]
  cases hE : externalB x f co
  · simp -implicitDefEqProofs (disch := first | exact dsch | (simp only [go_sem, hf, hwp, rd3, hI, hE]; omega) | (refine of_eq_true ?_; simp (disch := first | omega | (refine of_eq_true ?_; simp only [go_sem, hf, hwp, rd3, hI, hE]; done) | (simp only [go_sem, hf, hwp, rd3, hI, hE]; omega)) only [go_sem, hf, hwp, rd3, hI, hE]; done) | fail) only [go_sem, ↓reduceIte, Nat.reduceEqDiff, hf, hwp, rd3, hI, hE]
  obtain ⟨h1, h2⟩ := wide_pure W K hI hE
  simp -implicitDefEqProofs (disch := first | exact dsch | (simp only [go_sem, hf, hwp, rd3, hI, hE, h1, h2]; omega) | (refine of_eq_true ?_; simp (disch := first | omega | (refine of_eq_true ?_; simp only [go_sem, hf, hwp, rd3, hI, hE, h1, h2]; done) | (simp only [go_sem, hf, hwp, rd3, hI, hE, h1, h2]; omega)) only [go_sem, hf, hwp, rd3, hI, hE, h1, h2]; done) | fail) only [go_sem, ↓reduceIte, Nat.reduceEqDiff, hf, hwp, rd3, hI, hE, h1, h2]
theorem axiomLine_run (t : Te) {a b c : Int} (ha : 0 ≤ a ∧ a < 65536) (hb : 0 ≤ b ∧ b < 65536) (hc : 0 ≤ c ∧ c < 65536) : Fun Tryz.prog 8 [enc t, arr3 a b c] (.t (.bool true)) := by
  refine Fun.go (b := false) Tryz.func8 rfl rfl (by kernel_rfl) (by kernel_rfl) ?_
  cases hf : fewB t
  · unfold arr3
    simp -implicitDefEqProofs (disch := first | exact dsch | fail) only [go_sem, ↓reduceIte, Nat.reduceEqDiff, hf]
  obtain ⟨u, hw, hu⟩ := law16_way t hf ha hb hc
  unfold arr3 at hw ⊢
  have hwp := fun K => hw.pu (K := K)
  have rd3 : rdV (.t (.agg [.int .u16 a, .int .u16 b, .int .u16 c])) 3 0 true 3 = some (.t (.agg [.int .u16 a, .int .u16 b, .int .u16 c])) := rfl
  rcases hu with ⟨x, f, co, rfl⟩ | ⟨x, f, co, hx, he, hfs, hco, rfl⟩
  · simp -implicitDefEqProofs (disch := first | exact dsch | (simp only [go_sem, hf, hwp, rd3]; omega) | (refine of_eq_true ?_; simp (disch := first | omega | (refine of_eq_true ?_; simp only [go_sem, hf, hwp, rd3]; done) | (simp only [go_sem, hf, hwp, rd3]; omega)) only [go_sem, hf, hwp, rd3]; done) | fail) only [go_sem, ↓reduceIte, Nat.reduceEqDiff, hf, hwp, rd3]
  obtain ⟨W, _⟩ := all_wf hx
  have hok := W.ok
  have hn := W.n
  have K := wayOk (by omega) hfs hco
  have hfl := K.fl
  have hcl := K.cl
  have hpl := W.lpo
  cases hL : acyR (orR x.po (comR x.ev f co))
  · simp -implicitDefEqProofs (disch := first | exact dsch | (simp only [go_sem, hf, hwp, rd3, hL]; omega) | (refine of_eq_true ?_; simp (disch := first | omega | (refine of_eq_true ?_; simp only [go_sem, hf, hwp, rd3, hL]; done) | (simp only [go_sem, hf, hwp, rd3, hL]; omega)) only [go_sem, hf, hwp, rd3, hL]; done) | fail) only [go_sem, ↓reduceIte, Nat.reduceEqDiff, hf, hwp, rd3, hL]
  obtain ⟨h1, h2, h3⟩ := line_pure W K hL
  simp -implicitDefEqProofs (disch := first | exact dsch | (simp only [go_sem, hf, hwp, rd3, hL, h1, h2, h3]; omega) | (refine of_eq_true ?_; simp (disch := first | omega | (refine of_eq_true ?_; simp only [go_sem, hf, hwp, rd3, hL, h1, h2, h3]; done) | (simp only [go_sem, hf, hwp, rd3, hL, h1, h2, h3]; omega)) only [go_sem, hf, hwp, rd3, hL, h1, h2, h3]; done) | fail) only [go_sem, ↓reduceIte, Nat.reduceEqDiff, hf, hwp, rd3, hL, h1, h2, h3]
theorem axiomOwn_run (t : Te) {a b c : Int} (ha : 0 ≤ a ∧ a < 65536) (hb : 0 ≤ b ∧ b < 65536) (hc : 0 ≤ c ∧ c < 65536) : Fun Tryz.prog 9 [enc t, arr3 a b c] (.t (.bool true)) := by
  refine Fun.go (b := false) Tryz.func9 rfl rfl (by kernel_rfl) (by kernel_rfl) ?_
  cases hf : fewB t
  · unfold arr3
    simp -implicitDefEqProofs (disch := first | exact dsch | fail) only [go_sem, ↓reduceIte, Nat.reduceEqDiff, hf]
  obtain ⟨u, hw, hu⟩ := law16_way t hf ha hb hc
  unfold arr3 at hw ⊢
  have hwp := fun K => hw.pu (K := K)
  have rd3 : rdV (.t (.agg [.int .u16 a, .int .u16 b, .int .u16 c])) 3 0 true 3 = some (.t (.agg [.int .u16 a, .int .u16 b, .int .u16 c])) := rfl
  rcases hu with ⟨x, f, co, rfl⟩ | ⟨x, f, co, hx, he, hfs, hco, rfl⟩
  · simp -implicitDefEqProofs (disch := first | exact dsch | (simp only [go_sem, hf, hwp, rd3]; omega) | (refine of_eq_true ?_; simp (disch := first | omega | (refine of_eq_true ?_; simp only [go_sem, hf, hwp, rd3]; done) | (simp only [go_sem, hf, hwp, rd3]; omega)) only [go_sem, hf, hwp, rd3]; done) | fail) only [go_sem, ↓reduceIte, Nat.reduceEqDiff, hf, hwp, rd3]
  obtain ⟨W, _⟩ := all_wf hx
  have hok := W.ok
  have hn := W.n
  have K := wayOk (by omega) hfs hco
  have hfl := K.fl
  have hcl := K.cl
  have hpl := W.lpo
  cases hI : internalB x f co
  · obtain ⟨p1, h1⟩ : ∃ p, sameR (andR (orR (withinR x.ev co) (withinR x.ev (rfR x.ev.length f))) x.po) (orR (withinR x.ev co) (withinR x.ev (rfR x.ev.length f))) = p := ⟨_, rfl⟩
    obtain ⟨p2, h2⟩ : ∃ p, sameR (andR (withinR x.ev (frR x.ev f co)) x.po) (withinR x.ev (frR x.ev f co)) = p := ⟨_, rfl⟩
    cases p1 <;> cases p2 <;> simp -implicitDefEqProofs (disch := first | exact dsch | (simp only [go_sem, hf, hwp, rd3, hI, h1, h2]; omega) | (refine of_eq_true ?_; simp (disch := first | omega | (refine of_eq_true ?_; simp only [go_sem, hf, hwp, rd3, hI, h1, h2]; done) | (simp only [go_sem, hf, hwp, rd3, hI, h1, h2]; omega)) only [go_sem, hf, hwp, rd3, hI, h1, h2]; done) | fail) only [go_sem, ↓reduceIte, Nat.reduceEqDiff, hf, hwp, rd3, hI, h1, h2]
  · obtain ⟨h1, h2⟩ := own_pure W K hI
    simp -implicitDefEqProofs (disch := first | exact dsch | (simp only [go_sem, hf, hwp, rd3, hI, h1, h2]; omega) | (refine of_eq_true ?_; simp (disch := first | omega | (refine of_eq_true ?_; simp only [go_sem, hf, hwp, rd3, hI, h1, h2]; done) | (simp only [go_sem, hf, hwp, rd3, hI, h1, h2]; omega)) only [go_sem, hf, hwp, rd3, hI, h1, h2]; done) | fail) only [go_sem, ↓reduceIte, Nat.reduceEqDiff, hf, hwp, rd3, hI, h1, h2]
end Go.Sim
