/- A part of the proof of a law of module cupola: Law16. It has no conditions of its own. -/
import Derived.Test.YtocehjbdnhmkfaaGreatRef8
set_option linter.all false
set_option maxRecDepth 20000
set_option maxHeartbeats 1000000
/-! The law AxiomTells, as a run tells it. -/
namespace Go.Sim
open Enc (enc)
open Go.Proofs
def evalF (P : Program) (k : Nat) (f : FuncId) (ts : List T) : Option V := match funRun P k f (ts.map .t) [] with
  | some (v, H) => exportB (isFresh P f) H v
  | none => none
theorem Fun.eval {P : Program} {k : Nat} {f : FuncId} {ts : List T} {u : V} (h : evalF P k f ts = some u) : Fun P f ts u := by
  unfold evalF at h
  split at h
  · rename_i v H h1; exact ⟨k, v, H, h1, h⟩
  · cases h
theorem shown16 : Fun Tryz.prog 14 [] (.t (.bool true)) := Fun.eval (k := 40) (by kernel_rfl)
@[go_sem] theorem pu_shown16 {K : Ka V} : @Pu Tryz.prog 14 [] K = K.k (.t (.bool true)) := shown16.pu
@[go_sem] theorem noSl_ex' (x : Ex) : noSl (.t (enc x)) = false := rfl
def sizedB (x : Ex) (co : Rl) : Bool := decide (x.ev.length ≤ 24) && (decide (co.length = x.ev.length) && (decide (x.po.length = x.ev.length) && (decide (x.addr.length = x.ev.length) && (decide (x.data.length = x.ev.length) && (decide (x.ctrl.length = x.ev.length) && decide (x.rmw.length = x.ev.length))))))
theorem ref14_Sized (x : Ex) (co : Rl) : Fun Tryz.prog 15 [enc x, enc co] (.t (.bool (sizedB x co))) := by
  refine Fun.go (b := false) Tryz.func15 rfl rfl (by kernel_rfl) (by kernel_rfl) ?_
  unfold sizedB
  by_cases h0 : x.ev.length ≤ 24
  · by_cases h1 : co.length = x.ev.length
    · by_cases h2 : x.po.length = x.ev.length
      · by_cases h3 : x.addr.length = x.ev.length
        · by_cases h4 : x.data.length = x.ev.length
          · by_cases h5 : x.ctrl.length = x.ev.length
            · by_cases h6 : x.rmw.length = x.ev.length
              · simp -implicitDefEqProofs (disch := first | (refine fineP_go ?_; kernel_rfl) | omega | (refine of_eq_true ?_; simp (disch := first | omega | (refine of_eq_true ?_; simp only [go_sem]; done) | (simp only [go_sem]; omega)) only [go_sem]; done) | (simp only [go_sem]; omega) | assumption) only [go_sem, Bool.false_eq_true, ↓sel_fineP, ↓reduceIte, Nat.reduceEqDiff, sel_y, sel_n, sel_ny, sel_nn, wrap_u64, wrap_i64, wrap_u32, min_l, h0, h1, h2, h3, h4, h5, h6]
              · have g6 : ¬ ((x.rmw.length : Int) = x.ev.length) := by omega
                simp -implicitDefEqProofs (disch := first | (refine fineP_go ?_; kernel_rfl) | omega | (refine of_eq_true ?_; simp (disch := first | omega | (refine of_eq_true ?_; simp only [go_sem]; done) | (simp only [go_sem]; omega)) only [go_sem]; done) | (simp only [go_sem]; omega) | assumption) only [go_sem, Bool.false_eq_true, ↓sel_fineP, ↓reduceIte, Nat.reduceEqDiff, sel_y, sel_n, sel_ny, sel_nn, wrap_u64, wrap_i64, wrap_u32, min_l, h0, h1, h2, h3, h4, h5, h6, g6]
            · simp -implicitDefEqProofs (disch := first | (refine fineP_go ?_; kernel_rfl) | omega | (refine of_eq_true ?_; simp (disch := first | omega | (refine of_eq_true ?_; simp only [go_sem]; done) | (simp only [go_sem]; omega)) only [go_sem]; done) | (simp only [go_sem]; omega) | assumption) only [go_sem, Bool.false_eq_true, ↓sel_fineP, ↓reduceIte, Nat.reduceEqDiff, sel_y, sel_n, sel_ny, sel_nn, wrap_u64, wrap_i64, wrap_u32, min_l, h0, h1, h2, h3, h4, h5, Bool.false_and]
          · simp -implicitDefEqProofs (disch := first | (refine fineP_go ?_; kernel_rfl) | omega | (refine of_eq_true ?_; simp (disch := first | omega | (refine of_eq_true ?_; simp only [go_sem]; done) | (simp only [go_sem]; omega)) only [go_sem]; done) | (simp only [go_sem]; omega) | assumption) only [go_sem, Bool.false_eq_true, ↓sel_fineP, ↓reduceIte, Nat.reduceEqDiff, sel_y, sel_n, sel_ny, sel_nn, wrap_u64, wrap_i64, wrap_u32, min_l, h0, h1, h2, h3, h4, Bool.false_and]
        · simp -implicitDefEqProofs (disch := first | (refine fineP_go ?_; kernel_rfl) | omega | (refine of_eq_true ?_; simp (disch := first | omega | (refine of_eq_true ?_; simp only [go_sem]; done) | (simp only [go_sem]; omega)) only [go_sem]; done) | (simp only [go_sem]; omega) | assumption) only [go_sem, Bool.false_eq_true, ↓sel_fineP, ↓reduceIte, Nat.reduceEqDiff, sel_y, sel_n, sel_ny, sel_nn, wrap_u64, wrap_i64, wrap_u32, min_l, h0, h1, h2, h3, Bool.false_and]
      · simp -implicitDefEqProofs (disch := first | (refine fineP_go ?_; kernel_rfl) | omega | (refine of_eq_true ?_; simp (disch := first | omega | (refine of_eq_true ?_; simp only [go_sem]; done) | (simp only [go_sem]; omega)) only [go_sem]; done) | (simp only [go_sem]; omega) | assumption) only [go_sem, Bool.false_eq_true, ↓sel_fineP, ↓reduceIte, Nat.reduceEqDiff, sel_y, sel_n, sel_ny, sel_nn, wrap_u64, wrap_i64, wrap_u32, min_l, h0, h1, h2, Bool.false_and]
    · simp -implicitDefEqProofs (disch := first | (refine fineP_go ?_; kernel_rfl) | omega | (refine of_eq_true ?_; simp (disch := first | omega | (refine of_eq_true ?_; simp only [go_sem]; done) | (simp only [go_sem]; omega)) only [go_sem]; done) | (simp only [go_sem]; omega) | assumption) only [go_sem, Bool.false_eq_true, ↓sel_fineP, ↓reduceIte, Nat.reduceEqDiff, sel_y, sel_n, sel_ny, sel_nn, wrap_u64, wrap_i64, wrap_u32, min_l, h0, h1, Bool.false_and]
  · simp -implicitDefEqProofs (disch := first | (refine fineP_go ?_; kernel_rfl) | omega | (refine of_eq_true ?_; simp (disch := first | omega | (refine of_eq_true ?_; simp only [go_sem]; done) | (simp only [go_sem]; omega)) only [go_sem]; done) | (simp only [go_sem]; omega) | assumption) only [go_sem, Bool.false_eq_true, ↓sel_fineP, ↓reduceIte, Nat.reduceEqDiff, sel_y, sel_n, sel_ny, sel_nn, wrap_u64, wrap_i64, wrap_u32, min_l, h0, Bool.false_and]
@[go_sem] theorem pu_Sized {x : Ex} {co : Rl} {K : Ka V} : @Pu Tryz.prog 15 [enc x, enc co] K = K.k (.t (.bool (sizedB x co))) := (ref14_Sized x co).pu
theorem law16_made (x : Ex) : Fun Tryz.prog 16 [enc x] (.t (enc x)) := by
  refine Fun.go (b := false) Tryz.func16 rfl rfl (by kernel_rfl) (by kernel_rfl) ?_
  simp -implicitDefEqProofs (disch := first | (refine fineP_go ?_; kernel_rfl) | omega | (refine of_eq_true ?_; simp (disch := first | omega | (refine of_eq_true ?_; simp only [go_sem]; done) | (simp only [go_sem]; omega)) only [go_sem]; done) | (simp only [go_sem]; omega) | assumption) only [go_sem, Bool.false_eq_true, ↓sel_fineP, ↓reduceIte, Nat.reduceEqDiff, sel_y, sel_n, sel_ny, sel_nn, wrap_u64, wrap_i64, wrap_u32, min_l]
  rfl
@[go_sem] theorem pu_made16 {x : Ex} {K : Ka V} : @Pu Tryz.prog 16 [enc x] K = K.k (.t (enc x)) := (law16_made x).pu
theorem sameR_self (a : Rl) : sameR a a = true := sameR_iff.2 ⟨rfl, fun _ _ => rfl⟩
theorem axiomTells_run (x : Ex) (fr : List Int) (co : Rl) : Fun Tryz.prog 3 [enc x, enc fr, enc co] (.t (.bool true)) := by
  refine Fun.go (b := false) Tryz.func3 rfl rfl (by kernel_rfl) (by kernel_rfl) ?_
  cases hs : sizedB x co
  · simp -implicitDefEqProofs (disch := first | (refine fineP_go ?_; kernel_rfl) | omega | (refine of_eq_true ?_; simp (disch := first | omega | (refine of_eq_true ?_; simp only [go_sem]; done) | (simp only [go_sem]; omega)) only [go_sem]; done) | (simp only [go_sem]; omega) | assumption) only [go_sem, Bool.false_eq_true, ↓sel_fineP, ↓reduceIte, Nat.reduceEqDiff, sel_y, sel_n, sel_ny, sel_nn, wrap_u64, wrap_i64, wrap_u32, min_l, hs]
  · by_cases hf : fr.length ≤ 40
    · have hs' := hs
      simp only [sizedB, Bool.and_eq_true, decide_eq_true_eq] at hs'
      obtain ⟨h24, hc, h1, h2, h3, h4, h5⟩ := hs'
      have hx : Okx x := ⟨by omega, h1, h2, h3, h4, h5⟩
      simp -implicitDefEqProofs (disch := first | (refine fineP_go ?_; kernel_rfl) | omega | (refine of_eq_true ?_; simp (disch := first | omega | (refine of_eq_true ?_; simp only [go_sem]; done) | (simp only [go_sem]; omega)) only [go_sem]; done) | (simp only [go_sem]; omega) | assumption) only [go_sem, Bool.false_eq_true, ↓sel_fineP, ↓reduceIte, Nat.reduceEqDiff, sel_y, sel_n, sel_ny, sel_nn, wrap_u64, wrap_i64, wrap_u32, min_l, hs, beq_self_eq_true, sameR_self]
    · simp -implicitDefEqProofs (disch := first | (refine fineP_go ?_; kernel_rfl) | omega | (refine of_eq_true ?_; simp (disch := first | omega | (refine of_eq_true ?_; simp only [go_sem]; done) | (simp only [go_sem]; omega)) only [go_sem]; done) | (simp only [go_sem]; omega) | assumption) only [go_sem, Bool.false_eq_true, ↓sel_fineP, ↓reduceIte, Nat.reduceEqDiff, sel_y, sel_n, sel_ny, sel_nn, wrap_u64, wrap_i64, wrap_u32, min_l, hs]
end Go.Sim
