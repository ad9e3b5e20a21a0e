/- Part: FlatLz -/
import Derived.Test.YtoaboplnnhifpaaGreatFlatG
import Derived.Test.YtoaboplnnhifpaaGreatFew
set_option linter.all false
set_option maxRecDepth 100000
namespace Go.Sim
open Enc (enc)
open Go.Proofs
theorem shown19 : Fun Tryz.prog 15 [] (.t (.bool true)) := Fun.eval (k := 60) (by kernel_rfl)
@[go_sem] theorem pu_shown19 {K : Kp} : @Pu _ Tryz.prog 15 [] K = K.k (.t (.bool true)) := shown19.pu
def OneR (t : Te) (u : V) : Prop := (∃ x, u = .tup [.t (enc (x : Ex)), .t (.bool false)]) \/ ∃ x, x ∈ allR t /\ allE t = 0 /\ u = .tup [.t (enc x), .t (.bool true)]
theorem law19_one (t : Te) (hf : fewB t = true) {a : Int} (ha : 0 <= a /\ a < 65536) : ∃ u, Fun Tryz.prog 17 [enc t, .int .u16 a] u /\ OneR t u := by
  obtain ⟨f1, f2, f3⟩ := few_len hf
  have hA := fun K => pu_All (K := K) (t := t) (by omega) (by omega) (fun x hx => by have := f3 x hx; omega)
  have no : OneR t (.tup [.t (T.agg [enc ([] : List Ev), enc ([] : Rl), enc ([] : Rl), enc ([] : Rl), enc ([] : Rl), enc ([] : Rl), enc ([] : List (List Int))]), .t (.bool false)]) := .inl ⟨⟨[], [], [], [], [], [], []⟩, rfl⟩
  refine Fun.goX (b := false) Tryz.func17 rfl rfl (by kernel_rfl) (by kernel_rfl) ?_
  by_cases he : allE t = 0
  . by_cases hl : (allR t).length = 0
    . simp -implicitDefEqProofs (disch := first | exact dsch | (simp only [go_sem, hA, he, hl]; omega) | (refine of_eq_true ?_; simp (disch := first | omega | (refine of_eq_true ?_; simp only [go_sem, hA, he, hl]; done) | (simp only [go_sem, hA, he, hl]; omega)) only [go_sem, hA, he, hl]; done) | fail) only [go_sem, ↓reduceIte, Nat.reduceEqDiff, hA, he, hl]
      exact no
    . obtain ⟨m1, hm1, hr1⟩ := rem_at (w := a) (n := (allR t).length) (by omega) (by omega)
      have hxm := gd_mem hm1
      have ix : ∀ H e, indexV H (.sl e) 7 (.t (enc (allR t))) (m1 : Int) = some (.tp ((allR t).map enc) m1 0) := fun H e => ix_enc (H := H) (e := e) (l := allR t) (i := (m1 : Int)) rfl (by omega) (by omega)
      have ld : ∀ H, loadV H (some (true, 7)) (.tp ((allR t).map enc) m1 0) = some ⟨.t (enc (gd (allR t) m1)), H, .none⟩ := fun H => by rw [load_tpc hm1]; rfl
      simp -implicitDefEqProofs (disch := first | exact dsch | (simp only [go_sem, hA, he, hl, hr1, ix, ld]; omega) | (refine of_eq_true ?_; simp (disch := first | omega | (refine of_eq_true ?_; simp only [go_sem, hA, he, hl, hr1, ix, ld]; done) | (simp only [go_sem, hA, he, hl, hr1, ix, ld]; omega)) only [go_sem, hA, he, hl, hr1, ix, ld]; done) | fail) only [go_sem, ↓reduceIte, Nat.reduceEqDiff, hA, he, hl, hr1, ix, ld]
      exact .inr ⟨_, hxm, he, rfl⟩
  . simp -implicitDefEqProofs (disch := first | exact dsch | (simp only [go_sem, hA, he]; omega) | (refine of_eq_true ?_; simp (disch := first | omega | (refine of_eq_true ?_; simp only [go_sem, hA, he]; done) | (simp only [go_sem, hA, he]; omega)) only [go_sem, hA, he]; done) | fail) only [go_sem, ↓reduceIte, Nat.reduceEqDiff, hA, he]
    exact no
end Go.Sim
