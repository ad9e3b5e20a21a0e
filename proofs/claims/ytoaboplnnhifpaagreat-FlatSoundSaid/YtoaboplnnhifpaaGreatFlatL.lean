/- A part of the proof of a law of module cupola: FlatL. It has no conditions of its own. -/
import Derived.Test.YtoaboplnnhifpaaGreatFlatP
import Derived.Test.YtoaboplnnhifpaaGreatFlatG
import Derived.Test.YtoaboplnnhifpaaGreatFew
set_option linter.all false
set_option maxRecDepth 100000
namespace Go.Sim
open Enc (enc)
open Go.Proofs

theorem shown19 : Fun Tryz.prog 15 [] (.t (.bool true)) := Fun.eval (k := 60) (by kernel_rfl)
@[go_sem] theorem pu_shown19 {K : Kp} : @Pu _ Tryz.prog 15 [] K = K.k (.t (.bool true)) := shown19.pu

def OneR (t : Te) (u : V) : Prop := (∃ x, u = .tup [.t (enc (x : Ex)), .t (.bool false)]) ∨ ∃ x, x ∈ allR t ∧ allE t = 0 ∧ u = .tup [.t (enc x), .t (.bool true)]
theorem law19_one (t : Te) (hf : fewB t = true) {a : Int} (ha : 0 ≤ a ∧ a < 65536) : ∃ u, Fun Tryz.prog 17 [enc t, .int .u16 a] u ∧ OneR t u := by
  obtain ⟨f1, f2, f3⟩ := few_len hf
  have hA := fun K => pu_All (K := K) (t := t) (by omega) (by omega) (fun x hx => by have := f3 x hx; omega)
  have no : OneR t (.tup [.t (T.agg [enc ([] : List Ev), enc ([] : Rl), enc ([] : Rl), enc ([] : Rl), enc ([] : Rl), enc ([] : Rl), enc ([] : List (List Int))]), .t (.bool false)]) := .inl ⟨⟨[], [], [], [], [], [], []⟩, rfl⟩
  refine Fun.goX (b := false) Tryz.func17 rfl rfl (by kernel_rfl) (by kernel_rfl) ?_
  by_cases he : allE t = 0
  · by_cases hl : (allR t).length = 0
    · simp -implicitDefEqProofs (disch := first | exact dsch | (simp only [go_sem, hA, he, hl]; omega) | (refine of_eq_true ?_; simp (disch := first | omega | (refine of_eq_true ?_; simp only [go_sem, hA, he, hl]; done) | (simp only [go_sem, hA, he, hl]; omega)) only [go_sem, hA, he, hl]; done) | fail) only [go_sem, ↓reduceIte, Nat.reduceEqDiff, hA, he, hl]
      exact no
    · obtain ⟨m1, hm1, hr1⟩ := rem_at (w := a) (n := (allR t).length) (by omega) (by omega)
      have hxm := gd_mem hm1
      have ix : ∀ H e, indexV H (.sl e) 7 (.t (enc (allR t))) (m1 : Int) = some (.tp ((allR t).map enc) m1 0) := fun H e => ix_enc (H := H) (e := e) (l := allR t) (i := (m1 : Int)) rfl (by omega) (by omega)
      have ld : ∀ H, loadV H (some (true, 7)) (.tp ((allR t).map enc) m1 0) = some ⟨.t (enc (gd (allR t) m1)), H, .none⟩ := fun H => by rw [load_tpc hm1]; rfl
      simp -implicitDefEqProofs (disch := first | exact dsch | (simp only [go_sem, hA, he, hl, hr1, ix, ld]; omega) | (refine of_eq_true ?_; simp (disch := first | omega | (refine of_eq_true ?_; simp only [go_sem, hA, he, hl, hr1, ix, ld]; done) | (simp only [go_sem, hA, he, hl, hr1, ix, ld]; omega)) only [go_sem, hA, he, hl, hr1, ix, ld]; done) | fail) only [go_sem, ↓reduceIte, Nat.reduceEqDiff, hA, he, hl, hr1, ix, ld]
      exact .inr ⟨_, hxm, he, rfl⟩
  · simp -implicitDefEqProofs (disch := first | exact dsch | (simp only [go_sem, hA, he]; omega) | (refine of_eq_true ?_; simp (disch := first | omega | (refine of_eq_true ?_; simp only [go_sem, hA, he]; done) | (simp only [go_sem, hA, he]; omega)) only [go_sem, hA, he]; done) | fail) only [go_sem, ↓reduceIte, Nat.reduceEqDiff, hA, he]
    exact no
theorem start_bd (x : Ex) (init : List Int) (hn : x.ev.length ≤ 24) (hk : init.length ≤ 100) : BdS x init (startR x init) :=
  ⟨hn, hk, by simp [startR], by simp [startR], fun l hl => by
    unfold startR at hl
    simp only [List.mem_replicate] at hl
    rw [hl.2]; simp⟩

theorem flatFirst_run (t : Te) {a : Int} (ha : 0 ≤ a ∧ a < 65536) : Fun Tryz.prog 5 [enc t, .int .u16 a] (.t (.bool true)) := by
  refine Fun.go (b := false) Tryz.func5 rfl rfl (by kernel_rfl) (by kernel_rfl) ?_
  cases hf : fewB t
  · simp -implicitDefEqProofs (disch := first | exact dsch | fail) only [go_sem, ↓reduceIte, Nat.reduceEqDiff, hf]
  obtain ⟨f1, f2, f3⟩ := few_len hf
  obtain ⟨u, hw, hu⟩ := law19_one t hf ha
  have hwp := fun K => hw.pu (K := K)
  rcases hu with ⟨x, rfl⟩ | ⟨x, hx, he, rfl⟩
  · simp -implicitDefEqProofs (disch := first | exact dsch | (simp only [go_sem, hf, hwp]; omega) | (refine of_eq_true ?_; simp (disch := first | omega | (refine of_eq_true ?_; simp only [go_sem, hf, hwp]; done) | (simp only [go_sem, hf, hwp]; omega)) only [go_sem, hf, hwp]; done) | fail) only [go_sem, ↓reduceIte, Nat.reduceEqDiff, hf, hwp]
  obtain ⟨W, _⟩ := all_wf hx
  have hok := W.ok
  have hn := W.n
  have B := start_bd x t.init hn (by omega)
  have hst := fun K => pu_Start (x := x) (init := t.init) (by omega) (by omega) (K := K)
  have h1 := start_mask W t.init
  have h2 := start_final W t.init
  have h3 := start_holds W rfl
  have h4 := start_co W rfl
  have hsl : (startR x t.init).l.length = t.init.length := B.l
  have hho := fun K => pu_Holds hok B (K := K)
  have hco := fun K => pu_FCo B (K := K)
  have hmu : (maskB x.ev fun y => decide (y.kind ∈ [(1 : Int), 2])) = memU x := rfl
  have hpr := fun K => pu_Pairs (a := coS x (startR x t.init)) (by rw [coS_len]; omega) (K := K)
  simp -implicitDefEqProofs (disch := first | exact dsch | (simp only [go_sem, hf, hwp, hst, h1, h2, h3, h4, hsl, hho, hco, hmu, hpr]; omega) | (refine of_eq_true ?_; simp (disch := first | omega | (refine of_eq_true ?_; simp only [go_sem, hf, hwp, hst, h1, h2, h3, h4, hsl, hho, hco, hmu, hpr]; done) | (simp only [go_sem, hf, hwp, hst, h1, h2, h3, h4, hsl, hho, hco, hmu, hpr]; omega)) only [go_sem, hf, hwp, hst, h1, h2, h3, h4, hsl, hho, hco, hmu, hpr]; done) | fail) only [go_sem, ↓reduceIte, Nat.reduceEqDiff, hf, hwp, hst, h1, h2, h3, h4, hsl, hho, hco, hmu, hpr]
end Go.Sim
