/- A part of the proof of a law of module cupola: LAlone. It has no conditions of its own. -/
import Derived.Test.YtocehjbdnhmkfaaGreatPureA
import Derived.Test.YtocehjbdnhmkfaaGreatShw
set_option linter.all false
set_option maxRecDepth 100000
/-! The law AxiomAlone, as a run tells it. -/
namespace Go.Sim
open Enc (enc)
open Go.Proofs

/-- How many ways were good so far: none, or one. -/
def Cnt (x : Ex) (init : List Int) (i k m : Nat) : Prop :=
  (m = 0 ∧ ∀ i' k', k' < (cohR x).length → (i' < i ∨ (i' = i ∧ k' < k)) → goodB x (gd (sourceR x init) i') (gd (cohR x) k') = false) ∨
  (m = 1 ∧ ∃ i' k', i' < (sourceR x init).length ∧ k' < (cohR x).length ∧ (i' < i ∨ (i' = i ∧ k' < k)) ∧ goodB x (gd (sourceR x init) i') (gd (cohR x) k') = true)
theorem cnt_zero (x : Ex) (init : List Int) : Cnt x init 0 0 0 := .inl ⟨rfl, fun i' k' _ h => by omega⟩
theorem cnt_row {x : Ex} {init : List Int} {i m : Nat} (h : Cnt x init i (cohR x).length m) : Cnt x init (i + 1) 0 m := by
  rcases h with ⟨h1, h2⟩ | ⟨h1, i', k', h2, h3, h4, h5⟩
  · refine .inl ⟨h1, fun i' k' hk h => h2 i' k' hk ?_⟩
    by_cases e : i' = i
    · exact .inr ⟨e, hk⟩
    · exact .inl (by omega)
  · exact .inr ⟨h1, i', k', h2, h3, .inl (by omega), h5⟩
theorem cnt_no {x : Ex} {init : List Int} {i k m : Nat} (h : Cnt x init i k m) (hg : goodB x (gd (sourceR x init) i) (gd (cohR x) k) = false) : Cnt x init i (k + 1) m := by
  rcases h with ⟨h1, h2⟩ | ⟨h1, i', k', h2, h3, h4, h5⟩
  · refine .inl ⟨h1, fun i' k' hk h => ?_⟩
    by_cases e : i' = i ∧ k' = k
    · obtain ⟨rfl, rfl⟩ := e; exact hg
    · exact h2 i' k' hk (by omega)
  · exact .inr ⟨h1, i', k', h2, h3, by omega, h5⟩
theorem cnt_yes {n : Int} {x : Ex} (W : WfE n x) (h1 : ∀ i, i < x.ev.length → th x.ev i = 0) {init : List Int} {i k m : Nat} (hi : i < (sourceR x init).length) (hk : k < (cohR x).length) (h : Cnt x init i k m) (hg : goodB x (gd (sourceR x init) i) (gd (cohR x) k) = true) : m = 0 ∧ Cnt x init i (k + 1) 1 := by
  refine ⟨?_, .inr ⟨rfl, i, k, hi, hk, .inr ⟨rfl, by omega⟩, hg⟩⟩
  rcases h with ⟨e, _⟩ | ⟨_, i', k', h2, h3, h4, h5⟩
  · exact e
  · obtain ⟨rfl, rfl⟩ := alone_one W h1 h2 hi h3 hk h5 hg
    omega
theorem cnt_le {x : Ex} {init : List Int} {i k m : Nat} (h : Cnt x init i k m) : m ≤ 1 := by
  rcases h with ⟨h1, _⟩ | ⟨h1, _⟩ <;> omega
theorem lastTo_succ (x : Ex) (r w : Nat) : lastTo x r (w + 1) = if (gd x.ev w).kind = 2 ∧ (gd x.ev w).loc = (gd x.ev r).loc then (w : Int) else lastTo x r w := rfl

theorem sourceR_len (x : Ex) (init : List Int) : (sourceR x init).length ≤ 20000 := by
  unfold sourceR
  split
  · simp
  · rename_i h
    have h1 : ((List.range (choicesR x init).length).any fun i => decide (20000 < prodTo (choicesR x init) (i + 1))) = false := by
      cases h2 : ((List.range (choicesR x init).length).any fun i => decide (20000 < prodTo (choicesR x init) (i + 1)))
      · rfl
      · exact absurd (.inl h2) h
    have hp : prodTo (choicesR x init) (choicesR x init).length ≤ 20000 := by
      rw [List.any_eq_false] at h1
      cases hn : (choicesR x init).length with
      | zero => simp [prodTo]
      | succ k =>
        have := h1 k (List.mem_range.2 (by omega))
        simpa using this
    have := tellS_card (c := choicesR x init) ((choicesR x init).length + 1) [] (by simp)
    simp only [List.length_nil, prodTo, Nat.mul_one] at this
    omega
theorem cohTo_card {x : Ex} : ∀ {ls : List Int} {out r : List Rl}, cohTo x ls out = some r → out.length ≤ 20000 → r.length ≤ 20000
  | [], out, r, h, ho => by rw [cohTo] at h; cases h; exact ho
  | l :: ls, out, r, h, ho => by
    rw [cohTo] at h
    split at h
    · cases h
    · exact cohTo_card h (by rw [cohNext_card]; omega)
theorem cohR_len (x : Ex) : (cohR x).length ≤ 20000 := by
  unfold cohR
  cases hc : cohTo x (placesR x) [noneR x.ev.length] with
  | none => simp
  | some r => exact cohTo_card hc (by simp)

theorem axiomAlone_run (t : Te) {w : Int} (hw0 : 0 ≤ w) (hw1 : w < 65536) : Fun Tryz.prog 7 [enc t, .int .u16 w] (.t (.bool true)) := by
  refine Fun.go (b := false) Tryz.func7 rfl rfl (by kernel_rfl) (by kernel_rfl) ?_
  cases hf : fewB t
  · simp -implicitDefEqProofs (disch := first | exact dsch | fail) only [go_sem, ↓reduceIte, Nat.reduceEqDiff, hf]
  by_cases ht1 : t.th.length = 1
  rotate_left
  · have ht1' : ¬ (t.th.length : Int) = 1 := by omega
    simp -implicitDefEqProofs (disch := first | exact dsch | (simp only [go_sem, hf, ht1']; omega) | (refine of_eq_true ?_; simp (disch := first | omega | (refine of_eq_true ?_; simp only [go_sem, hf, ht1']; done) | (simp only [go_sem, hf, ht1']; omega)) only [go_sem, hf, ht1']; done) | fail) only [go_sem, ↓reduceIte, Nat.reduceEqDiff, hf, ht1']
  obtain ⟨f1, f2, f3⟩ := few_len hf
  have hA := fun K => pu_All (K := K) (t := t) (by omega) (by omega) (fun x hx => by have := f3 x hx; omega)
  by_cases he : allE t = 0
  · by_cases hl : (allR t).length = 0
    · simp -implicitDefEqProofs (disch := first | exact dsch | (simp only [go_sem, hf, ht1, hA, he, hl]; omega) | (refine of_eq_true ?_; simp (disch := first | omega | (refine of_eq_true ?_; simp only [go_sem, hf, ht1, hA, he, hl]; done) | (simp only [go_sem, hf, ht1, hA, he, hl]; omega)) only [go_sem, hf, ht1, hA, he, hl]; done) | fail) only [go_sem, ↓reduceIte, Nat.reduceEqDiff, hf, ht1, hA, he, hl]
    · have hpos : 0 < ((allR t).length : Int) := by omega
      obtain ⟨m, hm⟩ := Int.eq_ofNat_of_zero_le (Int.tmod_nonneg ((allR t).length : Int) hw0)
      have hml : m < (allR t).length := by
        have := Int.tmod_lt_of_pos w hpos
        rw [hm] at this; omega
      have hrem : ∀ xb, binT .rem xb (.int .i64 w) (.int .i64 ((allR t).length : Int)) = some (.int .i64 (m : Int)) := fun xb => by rw [binT_rem (by omega), hm]
      obtain ⟨W, _⟩ := all_wf (gd_mem hml)
      have hth0 := all_th (gd_mem hml)
      have hok := W.ok
      have hn := W.n
      have ix : ∀ H e, indexV H (.sl e) 7 (.t (enc (allR t))) (m : Int) = some (.tp ((allR t).map enc) m 0) := fun H e => ix_enc (H := H) (e := e) (l := allR t) (i := (m : Int)) rfl (by omega) (by omega)
      have ld : ∀ H, loadV H (some (true, 7)) (.tp ((allR t).map enc) m 0) = some ⟨.t (enc (gd (allR t) m)), H, .none⟩ := fun H => by
        rw [load_tpc hml]; rfl
      simp -implicitDefEqProofs (disch := first | exact dsch | (simp only [go_sem, hf, ht1, hA, he, hl, hrem, ix, ld]; omega) | (refine of_eq_true ?_; simp (disch := first | omega | (refine of_eq_true ?_; simp only [go_sem, hf, ht1, hA, he, hl, hrem, ix, ld]; done) | (simp only [go_sem, hf, ht1, hA, he, hl, hrem, ix, ld]; omega)) only [go_sem, hf, ht1, hA, he, hl, hrem, ix, ld]; done) | fail) only [go_sem, ↓reduceIte, Nat.reduceEqDiff, hf, ht1, hA, he, hl, hrem, ix, ld]
      generalize gd (allR t) m = x at W hok hn hth0
      have hth : ∀ i, i < x.ev.length → th x.ev i = 0 := fun i hi => by have := hth0 i hi; omega
      have hlo := hok.po
      have hn32 : x.ev.length ≤ 32 := by omega
      have hsl := sourceR_len x t.init
      have hcl0 := cohR_len x
      refine loop_k (n := (sourceR x t.init).length) [5, 8, 9, 10] (by kernel_rfl) (fun i e H => e 12 = .t (.int .i64 i) ∧ (∃ m : Nat, e 11 = .t (.int .i64 m) ∧ Cnt x t.init i 0 m) ∧ H = [⟨[.t (enc t)], 2, false⟩, ⟨[.t (enc x)], 7, false⟩]) ?_ ?_
      · rintro i e H hi hk ⟨hct, ⟨m0, h11, hC⟩, rfl⟩
        simp only [keepP, go_sem, ↓reduceIte, Nat.reduceEqDiff, and_true] at hk
        have hm1 := cnt_le hC
        by_cases hlt : i < (sourceR x t.init).length
        · simp -implicitDefEqProofs (disch := first | exact dsch | (simp only [go_sem, hk, hct, h11]; omega) | (refine of_eq_true ?_; simp (disch := first | omega | (refine of_eq_true ?_; simp only [go_sem, hk, hct, h11]; done) | (simp only [go_sem, hk, hct, h11]; omega)) only [go_sem, hk, hct, h11]; done) | fail) only [go_sem, ↓reduceIte, Nat.reduceEqDiff, hk, hct, h11]
          refine loop_k (n := (cohR x).length) [5, 8, 9, 10, 12] (by kernel_rfl) (fun j e H => e 13 = .t (.int .i64 j) ∧ (∃ m : Nat, e 11 = .t (.int .i64 m) ∧ Cnt x t.init i j m) ∧ H = [⟨[.t (enc t)], 2, false⟩, ⟨[.t (enc x)], 7, false⟩]) ?_ ?_
          · rintro j e2 H2 hj hk2 ⟨hct2, ⟨m2, h112, hC2⟩, rfl⟩
            simp only [keepP, go_sem, ↓reduceIte, Nat.reduceEqDiff, and_true] at hk2
            by_cases hlt2 : j < (cohR x).length
            · have K := wayOk hn32 (gd_mem hlt) (gd_mem hlt2)
              have hfl := K.fl
              have hcl := K.cl
              cases hg : goodB x (gd (sourceR x t.init) i) (gd (cohR x) j)
              · simp -implicitDefEqProofs (disch := first | exact dsch | (simp only [go_sem, hk, hct, hk2, hct2, h112, hg]; omega) | (refine of_eq_true ?_; simp (disch := first | omega | (refine of_eq_true ?_; simp only [go_sem, hk, hct, hk2, hct2, h112, hg]; done) | (simp only [go_sem, hk, hct, hk2, hct2, h112, hg]; omega)) only [go_sem, hk, hct, hk2, hct2, h112, hg]; done) | fail) only [go_sem, ↓reduceIte, Nat.reduceEqDiff, hk, hct, hk2, hct2, h112, hg]
                exact ⟨hlt2, m2, rfl, cnt_no hC2 hg⟩
              · obtain ⟨rfl, hC3⟩ := cnt_yes W hth hlt hlt2 hC2 hg
                have hI : internalB x (gd (sourceR x t.init) i) (gd (cohR x) j) = true := by
                  unfold goodB at hg; simp only [Bool.and_eq_true] at hg; exact hg.1
                have hlast : ∀ r, r < x.ev.length → (gd x.ev r).kind = 1 → gd (gd (sourceR x t.init) i) r = lastTo x r r := fun r hr hk => alone_last W K hI hth hr hk
                simp -implicitDefEqProofs (disch := first | exact dsch | (simp only [go_sem, hk, hct, hk2, hct2, h112, hg]; omega) | (refine of_eq_true ?_; simp (disch := first | omega | (refine of_eq_true ?_; simp only [go_sem, hk, hct, hk2, hct2, h112, hg]; done) | (simp only [go_sem, hk, hct, hk2, hct2, h112, hg]; omega)) only [go_sem, hk, hct, hk2, hct2, h112, hg]; done) | fail) only [go_sem, ↓reduceIte, Nat.reduceEqDiff, hk, hct, hk2, hct2, h112, hg]
                refine loop_k (n := x.ev.length) [5, 8, 9, 11, 12, 13] (by kernel_rfl) (fun i e H => e 14 = .t (.int .i64 i) ∧ H = [⟨[.t (enc t)], 2, false⟩, ⟨[.t (enc x)], 7, false⟩]) ?_ ?_
                · rintro r e3 H3 hr hk3 ⟨hct3, rfl⟩
                  simp only [keepP, go_sem, ↓reduceIte, Nat.reduceEqDiff, and_true] at hk3
                  by_cases hlt3 : r < x.ev.length
                  · simp -implicitDefEqProofs (disch := first | exact dsch | (simp only [go_sem, hk, hct, hk2, hct2, hk3, hct3]; omega) | (refine of_eq_true ?_; simp (disch := first | omega | (refine of_eq_true ?_; simp only [go_sem, hk, hct, hk2, hct2, hk3, hct3]; done) | (simp only [go_sem, hk, hct, hk2, hct2, hk3, hct3]; omega)) only [go_sem, hk, hct, hk2, hct2, hk3, hct3]; done) | fail) only [go_sem, ↓reduceIte, Nat.reduceEqDiff, hk, hct, hk2, hct2, hk3, hct3]
                    refine loop_k (n := r) [4, 5, 8, 9, 11, 12, 13, 14] (by kernel_rfl) (fun i e H => e 16 = .t (.int .i64 i) ∧ e 15 = .t (.int .i64 (lastTo x r i)) ∧ H = [⟨[.t (enc t)], 2, false⟩, ⟨[.t (enc x)], 7, false⟩]) ?_ ?_
                    · rintro v e4 H4 hv hk4 ⟨hct4, h15, rfl⟩
                      simp only [keepP, go_sem, ↓reduceIte, Nat.reduceEqDiff, and_true] at hk4
                      have hst := lastTo_succ x r v
                      by_cases hlt4 : v < r
                      · by_cases q1 : (gd x.ev v).kind = 2
                        · by_cases q2 : (gd x.ev v).loc = (gd x.ev r).loc
                          · rw [if_pos ⟨q1, q2⟩] at hst
                            simp -implicitDefEqProofs (disch := first | exact dsch | (simp only [go_sem, hk, hct, hk2, hct2, hk3, hct3, hk4, hct4, h15, q1, q2, hst]; omega) | (refine of_eq_true ?_; simp (disch := first | omega | (refine of_eq_true ?_; simp only [go_sem, hk, hct, hk2, hct2, hk3, hct3, hk4, hct4, h15, q1, q2, hst]; done) | (simp only [go_sem, hk, hct, hk2, hct2, hk3, hct3, hk4, hct4, h15, q1, q2, hst]; omega)) only [go_sem, hk, hct, hk2, hct2, hk3, hct3, hk4, hct4, h15, q1, q2, hst]; done) | fail) only [go_sem, ↓reduceIte, Nat.reduceEqDiff, hk, hct, hk2, hct2, hk3, hct3, hk4, hct4, h15, q1, q2, hst]
                            exact hlt4
                          · rw [if_neg (fun h => q2 h.2)] at hst
                            simp -implicitDefEqProofs (disch := first | exact dsch | (simp only [go_sem, hk, hct, hk2, hct2, hk3, hct3, hk4, hct4, h15, q1, q2, hst]; omega) | (refine of_eq_true ?_; simp (disch := first | omega | (refine of_eq_true ?_; simp only [go_sem, hk, hct, hk2, hct2, hk3, hct3, hk4, hct4, h15, q1, q2, hst]; done) | (simp only [go_sem, hk, hct, hk2, hct2, hk3, hct3, hk4, hct4, h15, q1, q2, hst]; omega)) only [go_sem, hk, hct, hk2, hct2, hk3, hct3, hk4, hct4, h15, q1, q2, hst]; done) | fail) only [go_sem, ↓reduceIte, Nat.reduceEqDiff, hk, hct, hk2, hct2, hk3, hct3, hk4, hct4, h15, q1, q2, hst]
                            exact hlt4
                        · rw [if_neg (fun h => q1 h.1)] at hst
                          simp -implicitDefEqProofs (disch := first | exact dsch | (simp only [go_sem, hk, hct, hk2, hct2, hk3, hct3, hk4, hct4, h15, q1, hst]; omega) | (refine of_eq_true ?_; simp (disch := first | omega | (refine of_eq_true ?_; simp only [go_sem, hk, hct, hk2, hct2, hk3, hct3, hk4, hct4, h15, q1, hst]; done) | (simp only [go_sem, hk, hct, hk2, hct2, hk3, hct3, hk4, hct4, h15, q1, hst]; omega)) only [go_sem, hk, hct, hk2, hct2, hk3, hct3, hk4, hct4, h15, q1, hst]; done) | fail) only [go_sem, ↓reduceIte, Nat.reduceEqDiff, hk, hct, hk2, hct2, hk3, hct3, hk4, hct4, h15, q1, hst]
                          exact hlt4
                      · obtain rfl : v = r := by omega
                        by_cases q : (gd x.ev v).kind = 1
                        · have hl := hlast v hlt3 q
                          simp -implicitDefEqProofs (disch := first | exact dsch | (simp only [go_sem, hk, hct, hk2, hct2, hk3, hct3, hk4, hct4, h15, q, hl]; omega) | (refine of_eq_true ?_; simp (disch := first | omega | (refine of_eq_true ?_; simp only [go_sem, hk, hct, hk2, hct2, hk3, hct3, hk4, hct4, h15, q, hl]; done) | (simp only [go_sem, hk, hct, hk2, hct2, hk3, hct3, hk4, hct4, h15, q, hl]; omega)) only [go_sem, hk, hct, hk2, hct2, hk3, hct3, hk4, hct4, h15, q, hl]; done) | fail) only [go_sem, ↓reduceIte, Nat.reduceEqDiff, hk, hct, hk2, hct2, hk3, hct3, hk4, hct4, h15, q, hl]
                          exact hlt3
                        · simp -implicitDefEqProofs (disch := first | exact dsch | (simp only [go_sem, hk, hct, hk2, hct2, hk3, hct3, hk4, hct4, h15, q]; omega) | (refine of_eq_true ?_; simp (disch := first | omega | (refine of_eq_true ?_; simp only [go_sem, hk, hct, hk2, hct2, hk3, hct3, hk4, hct4, h15, q]; done) | (simp only [go_sem, hk, hct, hk2, hct2, hk3, hct3, hk4, hct4, h15, q]; omega)) only [go_sem, hk, hct, hk2, hct2, hk3, hct3, hk4, hct4, h15, q]; done) | fail) only [go_sem, ↓reduceIte, Nat.reduceEqDiff, hk, hct, hk2, hct2, hk3, hct3, hk4, hct4, h15, q]
                          exact hlt3
                    · simp -implicitDefEqProofs (disch := first | exact dsch | fail) only [go_sem, ↓reduceIte, Nat.reduceEqDiff]
                      rfl
                  · obtain rfl : r = x.ev.length := by omega
                    simp -implicitDefEqProofs (disch := first | exact dsch | (simp only [go_sem, hk, hct, hk2, hct2, hk3, hct3]; omega) | (refine of_eq_true ?_; simp (disch := first | omega | (refine of_eq_true ?_; simp only [go_sem, hk, hct, hk2, hct2, hk3, hct3]; done) | (simp only [go_sem, hk, hct, hk2, hct2, hk3, hct3]; omega)) only [go_sem, hk, hct, hk2, hct2, hk3, hct3]; done) | fail) only [go_sem, ↓reduceIte, Nat.reduceEqDiff, hk, hct, hk2, hct2, hk3, hct3]
                    exact ⟨hlt2, 1, rfl, hC3⟩
                · simp -implicitDefEqProofs (disch := first | exact dsch | fail) only [go_sem, ↓reduceIte, Nat.reduceEqDiff]
            · obtain rfl : j = (cohR x).length := by omega
              simp -implicitDefEqProofs (disch := first | exact dsch | (simp only [go_sem, hk, hct, hk2, hct2, h112]; omega) | (refine of_eq_true ?_; simp (disch := first | omega | (refine of_eq_true ?_; simp only [go_sem, hk, hct, hk2, hct2, h112]; done) | (simp only [go_sem, hk, hct, hk2, hct2, h112]; omega)) only [go_sem, hk, hct, hk2, hct2, h112]; done) | fail) only [go_sem, ↓reduceIte, Nat.reduceEqDiff, hk, hct, hk2, hct2, h112]
              exact ⟨hlt, m2, rfl, cnt_row hC2⟩
          · simp -implicitDefEqProofs (disch := first | exact dsch | fail) only [go_sem, ↓reduceIte, Nat.reduceEqDiff]
            exact ⟨m0, h11, hC⟩
        · obtain rfl : i = (sourceR x t.init).length := by omega
          simp -implicitDefEqProofs (disch := first | exact dsch | (simp only [go_sem, hk, hct, h11]; omega) | (refine of_eq_true ?_; simp (disch := first | omega | (refine of_eq_true ?_; simp only [go_sem, hk, hct, h11]; done) | (simp only [go_sem, hk, hct, h11]; omega)) only [go_sem, hk, hct, h11]; done) | fail) only [go_sem, ↓reduceIte, Nat.reduceEqDiff, hk, hct, h11]
          have : (m0 : Int) ≤ 1 := by omega
          simp [this]
      · simp -implicitDefEqProofs (disch := first | exact dsch | fail) only [go_sem, ↓reduceIte, Nat.reduceEqDiff]
        exact ⟨0, rfl, cnt_zero _ _⟩
  · simp -implicitDefEqProofs (disch := first | exact dsch | (simp only [go_sem, hf, ht1, hA, he]; omega) | (refine of_eq_true ?_; simp (disch := first | omega | (refine of_eq_true ?_; simp only [go_sem, hf, ht1, hA, he]; done) | (simp only [go_sem, hf, ht1, hA, he]; omega)) only [go_sem, hf, ht1, hA, he]; done) | fail) only [go_sem, ↓reduceIte, Nat.reduceEqDiff, hf, ht1, hA, he]
end Go.Sim
