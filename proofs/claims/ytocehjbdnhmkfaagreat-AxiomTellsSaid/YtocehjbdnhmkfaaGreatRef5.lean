/- A part of the proof of a law of module cupola: Ref5. It has no conditions of its own. -/
import Derived.Test.YtocehjbdnhmkfaaGreatRef4
set_option linter.all false
set_option maxRecDepth 20000
set_option maxHeartbeats 1000000
/-! Contracts of package cupolaref15. -/
namespace Go.Sim
open Enc (enc)
open Go.Proofs

theorem acqG_def (x : Ev) : acqG x = (decide (x.kind = 1) && x.acq) := rfl
theorem relG_def (x : Ev) : relG x = (decide (x.kind = 2) && x.rel) := rfl
theorem ref15_acquires : Pred1 127 acqG := by
  intro x
  refine Fun.go (b := false) Tryz.func127 rfl rfl (by kernel_rfl) (by kernel_rfl) ?_
  rw [acqG_def]
  by_cases h : x.kind = 1
  · simp -implicitDefEqProofs (disch := first | (refine fineP_go ?_; kernel_rfl) | omega | (refine of_eq_true ?_; simp (disch := first | omega | (refine of_eq_true ?_; simp only [go_sem]; done) | (simp only [go_sem]; omega)) only [go_sem]; done) | (simp only [go_sem]; omega) | assumption) only [go_sem, Bool.false_eq_true, ↓sel_fineP, ↓reduceIte, Nat.reduceEqDiff, sel_y, sel_n, sel_ny, sel_nn, wrap_u64, wrap_i64, wrap_u32, min_l, h, Bool.true_and]
  · simp -implicitDefEqProofs (disch := first | (refine fineP_go ?_; kernel_rfl) | omega | (refine of_eq_true ?_; simp (disch := first | omega | (refine of_eq_true ?_; simp only [go_sem]; done) | (simp only [go_sem]; omega)) only [go_sem]; done) | (simp only [go_sem]; omega) | assumption) only [go_sem, Bool.false_eq_true, ↓sel_fineP, ↓reduceIte, Nat.reduceEqDiff, sel_y, sel_n, sel_ny, sel_nn, wrap_u64, wrap_i64, wrap_u32, min_l, h, Bool.false_and]
theorem ref15_releases : Pred1 128 relG := by
  intro x
  refine Fun.go (b := false) Tryz.func128 rfl rfl (by kernel_rfl) (by kernel_rfl) ?_
  rw [relG_def]
  by_cases h : x.kind = 2
  · simp -implicitDefEqProofs (disch := first | (refine fineP_go ?_; kernel_rfl) | omega | (refine of_eq_true ?_; simp (disch := first | omega | (refine of_eq_true ?_; simp only [go_sem]; done) | (simp only [go_sem]; omega)) only [go_sem]; done) | (simp only [go_sem]; omega) | assumption) only [go_sem, Bool.false_eq_true, ↓sel_fineP, ↓reduceIte, Nat.reduceEqDiff, sel_y, sel_n, sel_ny, sel_nn, wrap_u64, wrap_i64, wrap_u32, min_l, h, Bool.true_and]
  · simp -implicitDefEqProofs (disch := first | (refine fineP_go ?_; kernel_rfl) | omega | (refine of_eq_true ?_; simp (disch := first | omega | (refine of_eq_true ?_; simp only [go_sem]; done) | (simp only [go_sem]; omega)) only [go_sem]; done) | (simp only [go_sem]; omega) | assumption) only [go_sem, Bool.false_eq_true, ↓sel_fineP, ↓reduceIte, Nat.reduceEqDiff, sel_y, sel_n, sel_ny, sel_nn, wrap_u64, wrap_i64, wrap_u32, min_l, h, Bool.false_and]
@[go_sem] theorem pu_acquires {x : Ev} {K : Ka V} : @Pu Tryz.prog 127 [enc x] K = K.k (.t (.bool (acqG x))) := (ref15_acquires x).pu
@[go_sem] theorem pu_releases {x : Ev} {K : Ka V} : @Pu Tryz.prog 128 [enc x] K = K.k (.t (.bool (relG x))) := (ref15_releases x).pu

def ovK (f a b : Int) : Bool := decide (f = 3) || ((decide (f = 4) && decide (a = 1)) || (decide (f = 5) && (decide (a = 2) && decide (b = 2))))
def ovJ (x : Ex) (i k j : Nat) : Bool := (has x.po i j && has x.po j k) && ovK (gd x.ev j).kind (gd x.ev i).kind (gd x.ev k).kind
def ovP (x : Ex) (i k : Nat) : Bool := (List.range x.ev.length).any (ovJ x i k)
theorem ref15_over {x : Ex} (hx : Okx x) {i k : Nat} (hi : i < x.ev.length) (hk : k < x.ev.length) : Fun Tryz.prog 176 [enc x, .int .i64 i, .int .i64 k] (.t (.bool (ovP x i k))) := by
  obtain ⟨hn, h1, h2, h3, h4, h5⟩ := hx
  refine Fun.go (b := false) Tryz.func176 rfl rfl (by kernel_rfl) (by kernel_rfl) ?_
  simp -implicitDefEqProofs (disch := first | (refine fineP_go ?_; kernel_rfl) | omega | (refine of_eq_true ?_; simp (disch := first | omega | (refine of_eq_true ?_; simp only [go_sem]; done) | (simp only [go_sem]; omega)) only [go_sem]; done) | (simp only [go_sem]; omega) | assumption) only [go_sem, Bool.false_eq_true, ↓sel_fineP, ↓reduceIte, Nat.reduceEqDiff, sel_y, sel_n, sel_ny, sel_nn, wrap_u64, wrap_i64, wrap_u32, min_l]
  refine loop_up (n := x.ev.length) (fun j e H => e 1 = .t (.int .i64 i) ∧ e 2 = .t (.int .i64 k) ∧ e 3 = .ptr 0 1 0 0 ∧ e 7 = .t (.int .i64 (gd x.ev i).kind) ∧ e 8 = .t (.int .i64 (gd x.ev k).kind) ∧ e 9 = .t (.int .i64 j) ∧ H = [⟨[.t (enc x)], 7, false⟩] ∧ ∀ j', j' < j → ovJ x i k j' = false) ?_ _ _ ?_
  · rintro j e H hj ⟨g1, g2, g3, g7, g8, g9, rfl, hno⟩
    by_cases hlt : j < x.ev.length
    · have step : ovJ x i k j = false → ∀ j', j' < j + 1 → ovJ x i k j' = false := fun nj j' h => if e : j' = j then e ▸ nj else hno j' (by omega)
      have yes : ovJ x i k j = true → ovP x i k = true := fun yj => any_up hlt yj
      cases A : has x.po i j
      · simp -implicitDefEqProofs (disch := first | (refine fineP_go ?_; kernel_rfl) | omega | (refine of_eq_true ?_; simp (disch := first | omega | (refine of_eq_true ?_; simp only [go_sem]; done) | (simp only [go_sem]; omega)) only [go_sem]; done) | (simp only [go_sem]; omega) | assumption) only [go_sem, Bool.false_eq_true, ↓sel_fineP, ↓reduceIte, Nat.reduceEqDiff, sel_y, sel_n, sel_ny, sel_nn, wrap_u64, wrap_i64, wrap_u32, min_l, g1, g2, g3, g7, g8, g9, A]
        exact ⟨hlt, step (by simp [ovJ, A])⟩
      · cases B : has x.po j k
        · simp -implicitDefEqProofs (disch := first | (refine fineP_go ?_; kernel_rfl) | omega | (refine of_eq_true ?_; simp (disch := first | omega | (refine of_eq_true ?_; simp only [go_sem]; done) | (simp only [go_sem]; omega)) only [go_sem]; done) | (simp only [go_sem]; omega) | assumption) only [go_sem, Bool.false_eq_true, ↓sel_fineP, ↓reduceIte, Nat.reduceEqDiff, sel_y, sel_n, sel_ny, sel_nn, wrap_u64, wrap_i64, wrap_u32, min_l, g1, g2, g3, g7, g8, g9, A, B]
          exact ⟨hlt, step (by simp [ovJ, B])⟩
        · by_cases f3 : (gd x.ev j).kind = 3
          · have y := yes (by simp [ovJ, A, B, ovK, f3])
            simp -implicitDefEqProofs (disch := first | (refine fineP_go ?_; kernel_rfl) | omega | (refine of_eq_true ?_; simp (disch := first | omega | (refine of_eq_true ?_; simp only [go_sem]; done) | (simp only [go_sem]; omega)) only [go_sem]; done) | (simp only [go_sem]; omega) | assumption) only [go_sem, Bool.false_eq_true, ↓sel_fineP, ↓reduceIte, Nat.reduceEqDiff, sel_y, sel_n, sel_ny, sel_nn, wrap_u64, wrap_i64, wrap_u32, min_l, g1, g2, g3, g7, g8, g9, A, B, f3, y]
          · by_cases f4 : (gd x.ev j).kind = 4
            · by_cases a1 : (gd x.ev i).kind = 1
              · have y := yes (by simp [ovJ, A, B, ovK, f4, a1])
                simp -implicitDefEqProofs (disch := first | (refine fineP_go ?_; kernel_rfl) | omega | (refine of_eq_true ?_; simp (disch := first | omega | (refine of_eq_true ?_; simp only [go_sem]; done) | (simp only [go_sem]; omega)) only [go_sem]; done) | (simp only [go_sem]; omega) | assumption) only [go_sem, Bool.false_eq_true, ↓sel_fineP, ↓reduceIte, Nat.reduceEqDiff, sel_y, sel_n, sel_ny, sel_nn, wrap_u64, wrap_i64, wrap_u32, min_l, g1, g2, g3, g7, g8, g9, A, B, f4, a1, y]
              · simp -implicitDefEqProofs (disch := first | (refine fineP_go ?_; kernel_rfl) | omega | (refine of_eq_true ?_; simp (disch := first | omega | (refine of_eq_true ?_; simp only [go_sem]; done) | (simp only [go_sem]; omega)) only [go_sem]; done) | (simp only [go_sem]; omega) | assumption) only [go_sem, Bool.false_eq_true, ↓sel_fineP, ↓reduceIte, Nat.reduceEqDiff, sel_y, sel_n, sel_ny, sel_nn, wrap_u64, wrap_i64, wrap_u32, min_l, g1, g2, g3, g7, g8, g9, A, B, f4, a1]
                exact ⟨hlt, step (by simp [ovJ, ovK, f4, a1])⟩
            · by_cases f5 : (gd x.ev j).kind = 5
              · by_cases a2 : (gd x.ev i).kind = 2
                · by_cases b2 : (gd x.ev k).kind = 2
                  · have y := yes (by simp [ovJ, A, B, ovK, f5, a2, b2])
                    simp -implicitDefEqProofs (disch := first | (refine fineP_go ?_; kernel_rfl) | omega | (refine of_eq_true ?_; simp (disch := first | omega | (refine of_eq_true ?_; simp only [go_sem]; done) | (simp only [go_sem]; omega)) only [go_sem]; done) | (simp only [go_sem]; omega) | assumption) only [go_sem, Bool.false_eq_true, ↓sel_fineP, ↓reduceIte, Nat.reduceEqDiff, sel_y, sel_n, sel_ny, sel_nn, wrap_u64, wrap_i64, wrap_u32, min_l, g1, g2, g3, g7, g8, g9, A, B, f5, a2, b2, y]
                  · simp -implicitDefEqProofs (disch := first | (refine fineP_go ?_; kernel_rfl) | omega | (refine of_eq_true ?_; simp (disch := first | omega | (refine of_eq_true ?_; simp only [go_sem]; done) | (simp only [go_sem]; omega)) only [go_sem]; done) | (simp only [go_sem]; omega) | assumption) only [go_sem, Bool.false_eq_true, ↓sel_fineP, ↓reduceIte, Nat.reduceEqDiff, sel_y, sel_n, sel_ny, sel_nn, wrap_u64, wrap_i64, wrap_u32, min_l, g1, g2, g3, g7, g8, g9, A, B, f5, a2, b2]
                    exact ⟨hlt, step (by simp [ovJ, ovK, f5, b2])⟩
                · simp -implicitDefEqProofs (disch := first | (refine fineP_go ?_; kernel_rfl) | omega | (refine of_eq_true ?_; simp (disch := first | omega | (refine of_eq_true ?_; simp only [go_sem]; done) | (simp only [go_sem]; omega)) only [go_sem]; done) | (simp only [go_sem]; omega) | assumption) only [go_sem, Bool.false_eq_true, ↓sel_fineP, ↓reduceIte, Nat.reduceEqDiff, sel_y, sel_n, sel_ny, sel_nn, wrap_u64, wrap_i64, wrap_u32, min_l, g1, g2, g3, g7, g8, g9, A, B, f5, a2]
                  exact ⟨hlt, step (by simp [ovJ, ovK, f5, a2])⟩
              · simp -implicitDefEqProofs (disch := first | (refine fineP_go ?_; kernel_rfl) | omega | (refine of_eq_true ?_; simp (disch := first | omega | (refine of_eq_true ?_; simp only [go_sem]; done) | (simp only [go_sem]; omega)) only [go_sem]; done) | (simp only [go_sem]; omega) | assumption) only [go_sem, Bool.false_eq_true, ↓sel_fineP, ↓reduceIte, Nat.reduceEqDiff, sel_y, sel_n, sel_ny, sel_nn, wrap_u64, wrap_i64, wrap_u32, min_l, g1, g2, g3, g7, g8, g9, A, B, f3, f4, f5]
                exact ⟨hlt, step (by simp [ovJ, ovK, f3, f4, f5])⟩
    · obtain rfl : j = x.ev.length := by omega
      have no : ovP x i k = false := any_no hno
      simp -implicitDefEqProofs (disch := first | (refine fineP_go ?_; kernel_rfl) | omega | (refine of_eq_true ?_; simp (disch := first | omega | (refine of_eq_true ?_; simp only [go_sem]; done) | (simp only [go_sem]; omega)) only [go_sem]; done) | (simp only [go_sem]; omega) | assumption) only [go_sem, Bool.false_eq_true, ↓sel_fineP, ↓reduceIte, Nat.reduceEqDiff, sel_y, sel_n, sel_ny, sel_nn, wrap_u64, wrap_i64, wrap_u32, min_l, g1, g2, g3, g7, g8, g9, no]
  · simp -implicitDefEqProofs (disch := first | (refine fineP_go ?_; kernel_rfl) | omega | (refine of_eq_true ?_; simp (disch := first | omega | (refine of_eq_true ?_; simp only [go_sem]; done) | (simp only [go_sem]; omega)) only [go_sem]; done) | (simp only [go_sem]; omega) | assumption) only [go_sem, Bool.false_eq_true, ↓sel_fineP, ↓reduceIte, Nat.reduceEqDiff, sel_y, sel_n, sel_ny, sel_nn, wrap_u64, wrap_i64, wrap_u32, min_l]
    intro j' h; omega
@[go_sem] theorem pu_rover {x : Ex} (hx : Okx x) {i k : Nat} (hi : i < x.ev.length) (hk : k < x.ev.length) {K : Ka V} : @Pu Tryz.prog 176 [enc x, .int .i64 i, .int .i64 k] K = K.k (.t (.bool (ovP x i k))) := (ref15_over hx hi hk).pu

def byG (a b : Ev) : Bool := acqG a || (relG b || (relG a && acqG b))
def fencesQ (x : Ex) (i k : Nat) : Bool := memK (gd x.ev i) && (memK (gd x.ev k) && ovP x i k)
def ordersQ (x : Ex) (i k : Nat) : Bool := memK (gd x.ev i) && (memK (gd x.ev k) && (byG (gd x.ev i) (gd x.ev k) && has x.po i k))

theorem ref15_of_f {x : Ex} (hx : Okx x) : Fun Tryz.prog 162 [enc x, .int .i64 1] (.t (enc (mk x.ev.length (fencesQ x)))) := by
  have hx' := hx
  obtain ⟨hn, h1, h2, h3, h4, h5⟩ := hx
  refine Fun.go (b := false) Tryz.func162 rfl rfl (by kernel_rfl) (by kernel_rfl) ?_
  simp -implicitDefEqProofs (disch := first | (refine fineP_go ?_; kernel_rfl) | omega | (refine of_eq_true ?_; simp (disch := first | omega | (refine of_eq_true ?_; simp only [go_sem]; done) | (simp only [go_sem]; omega)) only [go_sem]; done) | (simp only [go_sem]; omega) | assumption) only [go_sem, Bool.false_eq_true, ↓sel_fineP, ↓reduceIte, Nat.reduceEqDiff, sel_y, sel_n, sel_ny, sel_nn, wrap_u64, wrap_i64, wrap_u32, min_l]
  refine loop_up (n := x.ev.length) (fun i e H => e 1 = .t (.int .i64 1) ∧ e 2 = .ptr 0 1 0 0 ∧ e 6 = .t (.int .i64 x.ev.length) ∧ e 7 = .t (.int .i64 i) ∧ ∃ R v, e 5 = v ∧ Acc R v (pto (fencesQ x) x.ev.length i) ∧ H = ⟨[.t (enc x)], 7, false⟩ :: R) ?_ _ _ ?_
  · rintro i e H hi ⟨g1, g2, g6, g7, R, v, g5, hA, rfl⟩
    by_cases hlt : i < x.ev.length
    · have hp1 := pto_len32 (p := fencesQ x) (n := x.ev.length) (i := i) hn (by omega)
      simp -implicitDefEqProofs (disch := first | (refine fineP_go ?_; kernel_rfl) | omega | (refine of_eq_true ?_; simp (disch := first | omega | (refine of_eq_true ?_; simp only [go_sem]; done) | (simp only [go_sem]; omega)) only [go_sem]; done) | (simp only [go_sem]; omega) | assumption) only [go_sem, Bool.false_eq_true, ↓sel_fineP, ↓reduceIte, Nat.reduceEqDiff, sel_y, sel_n, sel_ny, sel_nn, wrap_u64, wrap_i64, wrap_u32, min_l, g1, g2, g5, g6, g7]
      refine loop_up (n := x.ev.length) (fun k e H => e 1 = .t (.int .i64 1) ∧ e 2 = .ptr 0 1 0 0 ∧ e 6 = .t (.int .i64 x.ev.length) ∧ e 7 = .t (.int .i64 i) ∧ e 8 = .t (.int .i64 k) ∧ ∃ R v, e 5 = v ∧ Acc R v (pto (fencesQ x) x.ev.length i ++ prow (fencesQ x) i k) ∧ H = ⟨[.t (enc x)], 7, false⟩ :: R) ?_ _ _ ?_
      · rintro k e H hk ⟨g1, g2, g6, g7, g8, R, v, g5, hA, rfl⟩
        by_cases hkl : k < x.ev.length
        · have hrl := prow_len (fencesQ x) i k
          have hl : (pto (fencesQ x) x.ev.length i ++ prow (fencesQ x) i k).length ≤ 1100 := by rw [List.length_append]; omega
          have hA' := (hA.mono [⟨[.t (enc (gd x.ev i))], 7, false⟩]).mono [⟨[.t (enc (gd x.ev k))], 7, false⟩]
          have hr := prow_succ (fencesQ x) i k
          obtain ⟨v', R', f, happ, hA2⟩ := hA'.push ⟨[.t (enc x)], 7, false⟩ i k (by omega)
          have yes : fencesQ x i k = true → Acc R' v' (pto (fencesQ x) x.ev.length i ++ prow (fencesQ x) i (k + 1)) := fun h => by rw [hr, if_pos h, ← List.append_assoc]; exact hA2
          have no0 : fencesQ x i k = false → Acc R v (pto (fencesQ x) x.ev.length i ++ prow (fencesQ x) i (k + 1)) := fun h => by rw [hr, h, if_neg (by decide)]; exact hA
          have no : fencesQ x i k = false → Acc (R ++ [⟨[.t (enc (gd x.ev i))], 7, false⟩] ++ [⟨[.t (enc (gd x.ev k))], 7, false⟩]) v (pto (fencesQ x) x.ev.length i ++ prow (fencesQ x) i (k + 1)) := fun h => by rw [hr, h, if_neg (by decide)]; exact hA'
          cases ma : memK (gd x.ev i)
          · simp -implicitDefEqProofs (disch := first | (refine fineP_go ?_; kernel_rfl) | omega | (refine of_eq_true ?_; simp (disch := first | omega | (refine of_eq_true ?_; simp only [go_sem]; done) | (simp only [go_sem]; omega)) only [go_sem]; done) | (simp only [go_sem]; omega) | assumption) only [go_sem, Bool.false_eq_true, ↓sel_fineP, ↓reduceIte, Nat.reduceEqDiff, sel_y, sel_n, sel_ny, sel_nn, wrap_u64, wrap_i64, wrap_u32, min_l, g1, g2, g5, g6, g7, g8, ma]
            exact ⟨hkl, _, _, rfl, no0 (by simp [fencesQ, ma]), rfl⟩
          · cases mb : memK (gd x.ev k)
            · simp -implicitDefEqProofs (disch := first | (refine fineP_go ?_; kernel_rfl) | omega | (refine of_eq_true ?_; simp (disch := first | omega | (refine of_eq_true ?_; simp only [go_sem]; done) | (simp only [go_sem]; omega)) only [go_sem]; done) | (simp only [go_sem]; omega) | assumption) only [go_sem, Bool.false_eq_true, ↓sel_fineP, ↓reduceIte, Nat.reduceEqDiff, sel_y, sel_n, sel_ny, sel_nn, wrap_u64, wrap_i64, wrap_u32, min_l, g1, g2, g5, g6, g7, g8, ma, mb]
              exact ⟨hkl, _, _, rfl, no0 (by simp [fencesQ, mb]), rfl⟩
            · cases A : acqG (gd x.ev i)
              · cases B : relG (gd x.ev k)
                · cases C : relG (gd x.ev i)
                  · cases W : ovP x i k
                    · simp -implicitDefEqProofs (disch := first | (refine fineP_go ?_; kernel_rfl) | omega | (refine of_eq_true ?_; simp (disch := first | omega | (refine of_eq_true ?_; simp only [go_sem]; done) | (simp only [go_sem]; omega)) only [go_sem]; done) | (simp only [go_sem]; omega) | assumption) only [go_sem, Bool.false_eq_true, ↓sel_fineP, ↓reduceIte, Nat.reduceEqDiff, sel_y, sel_n, sel_ny, sel_nn, wrap_u64, wrap_i64, wrap_u32, min_l, g1, g2, g5, g6, g7, g8, ma, mb, A, B, C, W, happ]
                      exact ⟨hkl, _, _, rfl, no (by simp [fencesQ, ma, mb, A, B, C, W]), rfl⟩
                    · simp -implicitDefEqProofs (disch := first | (refine fineP_go ?_; kernel_rfl) | omega | (refine of_eq_true ?_; simp (disch := first | omega | (refine of_eq_true ?_; simp only [go_sem]; done) | (simp only [go_sem]; omega)) only [go_sem]; done) | (simp only [go_sem]; omega) | assumption) only [go_sem, Bool.false_eq_true, ↓sel_fineP, ↓reduceIte, Nat.reduceEqDiff, sel_y, sel_n, sel_ny, sel_nn, wrap_u64, wrap_i64, wrap_u32, min_l, g1, g2, g5, g6, g7, g8, ma, mb, A, B, C, W, happ]
                      first | exact ⟨hkl, _, _, rfl, yes (by simp [fencesQ, ma, mb, A, B, C, W]), rfl⟩ | exact ⟨hkl, _, _, rfl, no (by simp [fencesQ, ma, mb, A, B, C, W]), rfl⟩
                  · cases D : acqG (gd x.ev k)
                    · cases W : ovP x i k
                      · simp -implicitDefEqProofs (disch := first | (refine fineP_go ?_; kernel_rfl) | omega | (refine of_eq_true ?_; simp (disch := first | omega | (refine of_eq_true ?_; simp only [go_sem]; done) | (simp only [go_sem]; omega)) only [go_sem]; done) | (simp only [go_sem]; omega) | assumption) only [go_sem, Bool.false_eq_true, ↓sel_fineP, ↓reduceIte, Nat.reduceEqDiff, sel_y, sel_n, sel_ny, sel_nn, wrap_u64, wrap_i64, wrap_u32, min_l, g1, g2, g5, g6, g7, g8, ma, mb, A, B, C, D, W, happ]
                        exact ⟨hkl, _, _, rfl, no (by simp [fencesQ, ma, mb, A, B, C, D, W]), rfl⟩
                      · simp -implicitDefEqProofs (disch := first | (refine fineP_go ?_; kernel_rfl) | omega | (refine of_eq_true ?_; simp (disch := first | omega | (refine of_eq_true ?_; simp only [go_sem]; done) | (simp only [go_sem]; omega)) only [go_sem]; done) | (simp only [go_sem]; omega) | assumption) only [go_sem, Bool.false_eq_true, ↓sel_fineP, ↓reduceIte, Nat.reduceEqDiff, sel_y, sel_n, sel_ny, sel_nn, wrap_u64, wrap_i64, wrap_u32, min_l, g1, g2, g5, g6, g7, g8, ma, mb, A, B, C, D, W, happ]
                        first | exact ⟨hkl, _, _, rfl, yes (by simp [fencesQ, ma, mb, A, B, C, D, W]), rfl⟩ | exact ⟨hkl, _, _, rfl, no (by simp [fencesQ, ma, mb, A, B, C, D, W]), rfl⟩
                    · cases W : ovP x i k
                      · simp -implicitDefEqProofs (disch := first | (refine fineP_go ?_; kernel_rfl) | omega | (refine of_eq_true ?_; simp (disch := first | omega | (refine of_eq_true ?_; simp only [go_sem]; done) | (simp only [go_sem]; omega)) only [go_sem]; done) | (simp only [go_sem]; omega) | assumption) only [go_sem, Bool.false_eq_true, ↓sel_fineP, ↓reduceIte, Nat.reduceEqDiff, sel_y, sel_n, sel_ny, sel_nn, wrap_u64, wrap_i64, wrap_u32, min_l, g1, g2, g5, g6, g7, g8, ma, mb, A, B, C, D, W, happ]
                        exact ⟨hkl, _, _, rfl, no (by simp [fencesQ, ma, mb, A, B, C, D, W]), rfl⟩
                      · simp -implicitDefEqProofs (disch := first | (refine fineP_go ?_; kernel_rfl) | omega | (refine of_eq_true ?_; simp (disch := first | omega | (refine of_eq_true ?_; simp only [go_sem]; done) | (simp only [go_sem]; omega)) only [go_sem]; done) | (simp only [go_sem]; omega) | assumption) only [go_sem, Bool.false_eq_true, ↓sel_fineP, ↓reduceIte, Nat.reduceEqDiff, sel_y, sel_n, sel_ny, sel_nn, wrap_u64, wrap_i64, wrap_u32, min_l, g1, g2, g5, g6, g7, g8, ma, mb, A, B, C, D, W, happ]
                        first | exact ⟨hkl, _, _, rfl, yes (by simp [fencesQ, ma, mb, A, B, C, D, W]), rfl⟩ | exact ⟨hkl, _, _, rfl, no (by simp [fencesQ, ma, mb, A, B, C, D, W]), rfl⟩
                · cases W : ovP x i k
                  · simp -implicitDefEqProofs (disch := first | (refine fineP_go ?_; kernel_rfl) | omega | (refine of_eq_true ?_; simp (disch := first | omega | (refine of_eq_true ?_; simp only [go_sem]; done) | (simp only [go_sem]; omega)) only [go_sem]; done) | (simp only [go_sem]; omega) | assumption) only [go_sem, Bool.false_eq_true, ↓sel_fineP, ↓reduceIte, Nat.reduceEqDiff, sel_y, sel_n, sel_ny, sel_nn, wrap_u64, wrap_i64, wrap_u32, min_l, g1, g2, g5, g6, g7, g8, ma, mb, A, B, W, happ]
                    exact ⟨hkl, _, _, rfl, no (by simp [fencesQ, ma, mb, A, B, W]), rfl⟩
                  · simp -implicitDefEqProofs (disch := first | (refine fineP_go ?_; kernel_rfl) | omega | (refine of_eq_true ?_; simp (disch := first | omega | (refine of_eq_true ?_; simp only [go_sem]; done) | (simp only [go_sem]; omega)) only [go_sem]; done) | (simp only [go_sem]; omega) | assumption) only [go_sem, Bool.false_eq_true, ↓sel_fineP, ↓reduceIte, Nat.reduceEqDiff, sel_y, sel_n, sel_ny, sel_nn, wrap_u64, wrap_i64, wrap_u32, min_l, g1, g2, g5, g6, g7, g8, ma, mb, A, B, W, happ]
                    first | exact ⟨hkl, _, _, rfl, yes (by simp [fencesQ, ma, mb, A, B, W]), rfl⟩ | exact ⟨hkl, _, _, rfl, no (by simp [fencesQ, ma, mb, A, B, W]), rfl⟩
              · cases W : ovP x i k
                · simp -implicitDefEqProofs (disch := first | (refine fineP_go ?_; kernel_rfl) | omega | (refine of_eq_true ?_; simp (disch := first | omega | (refine of_eq_true ?_; simp only [go_sem]; done) | (simp only [go_sem]; omega)) only [go_sem]; done) | (simp only [go_sem]; omega) | assumption) only [go_sem, Bool.false_eq_true, ↓sel_fineP, ↓reduceIte, Nat.reduceEqDiff, sel_y, sel_n, sel_ny, sel_nn, wrap_u64, wrap_i64, wrap_u32, min_l, g1, g2, g5, g6, g7, g8, ma, mb, A, W, happ]
                  exact ⟨hkl, _, _, rfl, no (by simp [fencesQ, ma, mb, A, W]), rfl⟩
                · simp -implicitDefEqProofs (disch := first | (refine fineP_go ?_; kernel_rfl) | omega | (refine of_eq_true ?_; simp (disch := first | omega | (refine of_eq_true ?_; simp only [go_sem]; done) | (simp only [go_sem]; omega)) only [go_sem]; done) | (simp only [go_sem]; omega) | assumption) only [go_sem, Bool.false_eq_true, ↓sel_fineP, ↓reduceIte, Nat.reduceEqDiff, sel_y, sel_n, sel_ny, sel_nn, wrap_u64, wrap_i64, wrap_u32, min_l, g1, g2, g5, g6, g7, g8, ma, mb, A, W, happ]
                  first | exact ⟨hkl, _, _, rfl, yes (by simp [fencesQ, ma, mb, A, W]), rfl⟩ | exact ⟨hkl, _, _, rfl, no (by simp [fencesQ, ma, mb, A, W]), rfl⟩
        · obtain rfl : k = x.ev.length := by omega
          simp -implicitDefEqProofs (disch := first | (refine fineP_go ?_; kernel_rfl) | omega | (refine of_eq_true ?_; simp (disch := first | omega | (refine of_eq_true ?_; simp only [go_sem]; done) | (simp only [go_sem]; omega)) only [go_sem]; done) | (simp only [go_sem]; omega) | assumption) only [go_sem, Bool.false_eq_true, ↓sel_fineP, ↓reduceIte, Nat.reduceEqDiff, sel_y, sel_n, sel_ny, sel_nn, wrap_u64, wrap_i64, wrap_u32, min_l, g1, g2, g5, g6, g7, g8, pto_succ]
          exact ⟨hlt, _, _, rfl, hA, rfl⟩
      · simp -implicitDefEqProofs (disch := first | (refine fineP_go ?_; kernel_rfl) | omega | (refine of_eq_true ?_; simp (disch := first | omega | (refine of_eq_true ?_; simp only [go_sem]; done) | (simp only [go_sem]; omega)) only [go_sem]; done) | (simp only [go_sem]; omega) | assumption) only [go_sem, Bool.false_eq_true, ↓sel_fineP, ↓reduceIte, Nat.reduceEqDiff, sel_y, sel_n, sel_ny, sel_nn, wrap_u64, wrap_i64, wrap_u32, min_l, g1, g2, g5, g6, g7, show prow (fencesQ x) i 0 = [] from rfl]
        exact ⟨_, _, rfl, hA, rfl⟩
    · obtain rfl : i = x.ev.length := by omega
      have hT := hA.toT ⟨[.t (enc x)], 7, false⟩
      have hp1 := pto_len32 (p := fencesQ x) (n := x.ev.length) (i := x.ev.length) hn hn
      have hok := pto_ok (n := x.ev.length) (p := fencesQ x)
      simp -implicitDefEqProofs (disch := first | (refine fineP_go ?_; kernel_rfl) | omega | (refine of_eq_true ?_; simp (disch := first | omega | (refine of_eq_true ?_; simp only [go_sem, g1, g2, g5, g6, g7, hT]; done) | (simp only [go_sem, g1, g2, g5, g6, g7, hT]; omega)) only [go_sem, g1, g2, g5, g6, g7, hT]; done) | (simp only [go_sem, g1, g2, g5, g6, g7, hT]; omega) | assumption) only [go_sem, Bool.false_eq_true, ↓sel_fineP, ↓reduceIte, Nat.reduceEqDiff, sel_y, sel_n, sel_ny, sel_nn, wrap_u64, wrap_i64, wrap_u32, min_l, g1, g2, g5, g6, g7, hT]
      rw [made_pto]
  · simp -implicitDefEqProofs (disch := first | (refine fineP_go ?_; kernel_rfl) | omega | (refine of_eq_true ?_; simp (disch := first | omega | (refine of_eq_true ?_; simp only [go_sem]; done) | (simp only [go_sem]; omega)) only [go_sem]; done) | (simp only [go_sem]; omega) | assumption) only [go_sem, Bool.false_eq_true, ↓sel_fineP, ↓reduceIte, Nat.reduceEqDiff, sel_y, sel_n, sel_ny, sel_nn, wrap_u64, wrap_i64, wrap_u32, min_l]
    exact ⟨_, _, rfl, Acc.nil _, rfl⟩

theorem ref15_of_o {x : Ex} (hx : Okx x) : Fun Tryz.prog 162 [enc x, .int .i64 2] (.t (enc (mk x.ev.length (ordersQ x)))) := by
  have hx' := hx
  obtain ⟨hn, h1, h2, h3, h4, h5⟩ := hx
  refine Fun.go (b := false) Tryz.func162 rfl rfl (by kernel_rfl) (by kernel_rfl) ?_
  simp -implicitDefEqProofs (disch := first | (refine fineP_go ?_; kernel_rfl) | omega | (refine of_eq_true ?_; simp (disch := first | omega | (refine of_eq_true ?_; simp only [go_sem]; done) | (simp only [go_sem]; omega)) only [go_sem]; done) | (simp only [go_sem]; omega) | assumption) only [go_sem, Bool.false_eq_true, ↓sel_fineP, ↓reduceIte, Nat.reduceEqDiff, sel_y, sel_n, sel_ny, sel_nn, wrap_u64, wrap_i64, wrap_u32, min_l]
  refine loop_up (n := x.ev.length) (fun i e H => e 1 = .t (.int .i64 2) ∧ e 2 = .ptr 0 1 0 0 ∧ e 6 = .t (.int .i64 x.ev.length) ∧ e 7 = .t (.int .i64 i) ∧ ∃ R v, e 5 = v ∧ Acc R v (pto (ordersQ x) x.ev.length i) ∧ H = ⟨[.t (enc x)], 7, false⟩ :: R) ?_ _ _ ?_
  · rintro i e H hi ⟨g1, g2, g6, g7, R, v, g5, hA, rfl⟩
    by_cases hlt : i < x.ev.length
    · have hp1 := pto_len32 (p := ordersQ x) (n := x.ev.length) (i := i) hn (by omega)
      simp -implicitDefEqProofs (disch := first | (refine fineP_go ?_; kernel_rfl) | omega | (refine of_eq_true ?_; simp (disch := first | omega | (refine of_eq_true ?_; simp only [go_sem]; done) | (simp only [go_sem]; omega)) only [go_sem]; done) | (simp only [go_sem]; omega) | assumption) only [go_sem, Bool.false_eq_true, ↓sel_fineP, ↓reduceIte, Nat.reduceEqDiff, sel_y, sel_n, sel_ny, sel_nn, wrap_u64, wrap_i64, wrap_u32, min_l, g1, g2, g5, g6, g7]
      refine loop_up (n := x.ev.length) (fun k e H => e 1 = .t (.int .i64 2) ∧ e 2 = .ptr 0 1 0 0 ∧ e 6 = .t (.int .i64 x.ev.length) ∧ e 7 = .t (.int .i64 i) ∧ e 8 = .t (.int .i64 k) ∧ ∃ R v, e 5 = v ∧ Acc R v (pto (ordersQ x) x.ev.length i ++ prow (ordersQ x) i k) ∧ H = ⟨[.t (enc x)], 7, false⟩ :: R) ?_ _ _ ?_
      · rintro k e H hk ⟨g1, g2, g6, g7, g8, R, v, g5, hA, rfl⟩
        by_cases hkl : k < x.ev.length
        · have hrl := prow_len (ordersQ x) i k
          have hl : (pto (ordersQ x) x.ev.length i ++ prow (ordersQ x) i k).length ≤ 1100 := by rw [List.length_append]; omega
          have hA' := (hA.mono [⟨[.t (enc (gd x.ev i))], 7, false⟩]).mono [⟨[.t (enc (gd x.ev k))], 7, false⟩]
          have hr := prow_succ (ordersQ x) i k
          obtain ⟨v', R', f, happ, hA2⟩ := hA'.push ⟨[.t (enc x)], 7, false⟩ i k (by omega)
          have yes : ordersQ x i k = true → Acc R' v' (pto (ordersQ x) x.ev.length i ++ prow (ordersQ x) i (k + 1)) := fun h => by rw [hr, if_pos h, ← List.append_assoc]; exact hA2
          have no0 : ordersQ x i k = false → Acc R v (pto (ordersQ x) x.ev.length i ++ prow (ordersQ x) i (k + 1)) := fun h => by rw [hr, h, if_neg (by decide)]; exact hA
          have no : ordersQ x i k = false → Acc (R ++ [⟨[.t (enc (gd x.ev i))], 7, false⟩] ++ [⟨[.t (enc (gd x.ev k))], 7, false⟩]) v (pto (ordersQ x) x.ev.length i ++ prow (ordersQ x) i (k + 1)) := fun h => by rw [hr, h, if_neg (by decide)]; exact hA'
          cases ma : memK (gd x.ev i)
          · simp -implicitDefEqProofs (disch := first | (refine fineP_go ?_; kernel_rfl) | omega | (refine of_eq_true ?_; simp (disch := first | omega | (refine of_eq_true ?_; simp only [go_sem]; done) | (simp only [go_sem]; omega)) only [go_sem]; done) | (simp only [go_sem]; omega) | assumption) only [go_sem, Bool.false_eq_true, ↓sel_fineP, ↓reduceIte, Nat.reduceEqDiff, sel_y, sel_n, sel_ny, sel_nn, wrap_u64, wrap_i64, wrap_u32, min_l, g1, g2, g5, g6, g7, g8, ma]
            exact ⟨hkl, _, _, rfl, no0 (by simp [ordersQ, ma]), rfl⟩
          · cases mb : memK (gd x.ev k)
            · simp -implicitDefEqProofs (disch := first | (refine fineP_go ?_; kernel_rfl) | omega | (refine of_eq_true ?_; simp (disch := first | omega | (refine of_eq_true ?_; simp only [go_sem]; done) | (simp only [go_sem]; omega)) only [go_sem]; done) | (simp only [go_sem]; omega) | assumption) only [go_sem, Bool.false_eq_true, ↓sel_fineP, ↓reduceIte, Nat.reduceEqDiff, sel_y, sel_n, sel_ny, sel_nn, wrap_u64, wrap_i64, wrap_u32, min_l, g1, g2, g5, g6, g7, g8, ma, mb]
              exact ⟨hkl, _, _, rfl, no0 (by simp [ordersQ, mb]), rfl⟩
            · cases A : acqG (gd x.ev i)
              · cases B : relG (gd x.ev k)
                · cases C : relG (gd x.ev i)
                  · cases W : has x.po i k
                    · simp -implicitDefEqProofs (disch := first | (refine fineP_go ?_; kernel_rfl) | omega | (refine of_eq_true ?_; simp (disch := first | omega | (refine of_eq_true ?_; simp only [go_sem]; done) | (simp only [go_sem]; omega)) only [go_sem]; done) | (simp only [go_sem]; omega) | assumption) only [go_sem, Bool.false_eq_true, ↓sel_fineP, ↓reduceIte, Nat.reduceEqDiff, sel_y, sel_n, sel_ny, sel_nn, wrap_u64, wrap_i64, wrap_u32, min_l, g1, g2, g5, g6, g7, g8, ma, mb, A, B, C, W, happ]
                      exact ⟨hkl, _, _, rfl, no (by simp [ordersQ, byG, ma, mb, A, B, C, W]), rfl⟩
                    · simp -implicitDefEqProofs (disch := first | (refine fineP_go ?_; kernel_rfl) | omega | (refine of_eq_true ?_; simp (disch := first | omega | (refine of_eq_true ?_; simp only [go_sem]; done) | (simp only [go_sem]; omega)) only [go_sem]; done) | (simp only [go_sem]; omega) | assumption) only [go_sem, Bool.false_eq_true, ↓sel_fineP, ↓reduceIte, Nat.reduceEqDiff, sel_y, sel_n, sel_ny, sel_nn, wrap_u64, wrap_i64, wrap_u32, min_l, g1, g2, g5, g6, g7, g8, ma, mb, A, B, C, W, happ]
                      first | exact ⟨hkl, _, _, rfl, yes (by simp [ordersQ, byG, ma, mb, A, B, C, W]), rfl⟩ | exact ⟨hkl, _, _, rfl, no (by simp [ordersQ, byG, ma, mb, A, B, C, W]), rfl⟩
                  · cases D : acqG (gd x.ev k)
                    · cases W : has x.po i k
                      · simp -implicitDefEqProofs (disch := first | (refine fineP_go ?_; kernel_rfl) | omega | (refine of_eq_true ?_; simp (disch := first | omega | (refine of_eq_true ?_; simp only [go_sem]; done) | (simp only [go_sem]; omega)) only [go_sem]; done) | (simp only [go_sem]; omega) | assumption) only [go_sem, Bool.false_eq_true, ↓sel_fineP, ↓reduceIte, Nat.reduceEqDiff, sel_y, sel_n, sel_ny, sel_nn, wrap_u64, wrap_i64, wrap_u32, min_l, g1, g2, g5, g6, g7, g8, ma, mb, A, B, C, D, W, happ]
                        exact ⟨hkl, _, _, rfl, no (by simp [ordersQ, byG, ma, mb, A, B, C, D, W]), rfl⟩
                      · simp -implicitDefEqProofs (disch := first | (refine fineP_go ?_; kernel_rfl) | omega | (refine of_eq_true ?_; simp (disch := first | omega | (refine of_eq_true ?_; simp only [go_sem]; done) | (simp only [go_sem]; omega)) only [go_sem]; done) | (simp only [go_sem]; omega) | assumption) only [go_sem, Bool.false_eq_true, ↓sel_fineP, ↓reduceIte, Nat.reduceEqDiff, sel_y, sel_n, sel_ny, sel_nn, wrap_u64, wrap_i64, wrap_u32, min_l, g1, g2, g5, g6, g7, g8, ma, mb, A, B, C, D, W, happ]
                        first | exact ⟨hkl, _, _, rfl, yes (by simp [ordersQ, byG, ma, mb, A, B, C, D, W]), rfl⟩ | exact ⟨hkl, _, _, rfl, no (by simp [ordersQ, byG, ma, mb, A, B, C, D, W]), rfl⟩
                    · cases W : has x.po i k
                      · simp -implicitDefEqProofs (disch := first | (refine fineP_go ?_; kernel_rfl) | omega | (refine of_eq_true ?_; simp (disch := first | omega | (refine of_eq_true ?_; simp only [go_sem]; done) | (simp only [go_sem]; omega)) only [go_sem]; done) | (simp only [go_sem]; omega) | assumption) only [go_sem, Bool.false_eq_true, ↓sel_fineP, ↓reduceIte, Nat.reduceEqDiff, sel_y, sel_n, sel_ny, sel_nn, wrap_u64, wrap_i64, wrap_u32, min_l, g1, g2, g5, g6, g7, g8, ma, mb, A, B, C, D, W, happ]
                        exact ⟨hkl, _, _, rfl, no (by simp [ordersQ, byG, ma, mb, A, B, C, D, W]), rfl⟩
                      · simp -implicitDefEqProofs (disch := first | (refine fineP_go ?_; kernel_rfl) | omega | (refine of_eq_true ?_; simp (disch := first | omega | (refine of_eq_true ?_; simp only [go_sem]; done) | (simp only [go_sem]; omega)) only [go_sem]; done) | (simp only [go_sem]; omega) | assumption) only [go_sem, Bool.false_eq_true, ↓sel_fineP, ↓reduceIte, Nat.reduceEqDiff, sel_y, sel_n, sel_ny, sel_nn, wrap_u64, wrap_i64, wrap_u32, min_l, g1, g2, g5, g6, g7, g8, ma, mb, A, B, C, D, W, happ]
                        first | exact ⟨hkl, _, _, rfl, yes (by simp [ordersQ, byG, ma, mb, A, B, C, D, W]), rfl⟩ | exact ⟨hkl, _, _, rfl, no (by simp [ordersQ, byG, ma, mb, A, B, C, D, W]), rfl⟩
                · cases W : has x.po i k
                  · simp -implicitDefEqProofs (disch := first | (refine fineP_go ?_; kernel_rfl) | omega | (refine of_eq_true ?_; simp (disch := first | omega | (refine of_eq_true ?_; simp only [go_sem]; done) | (simp only [go_sem]; omega)) only [go_sem]; done) | (simp only [go_sem]; omega) | assumption) only [go_sem, Bool.false_eq_true, ↓sel_fineP, ↓reduceIte, Nat.reduceEqDiff, sel_y, sel_n, sel_ny, sel_nn, wrap_u64, wrap_i64, wrap_u32, min_l, g1, g2, g5, g6, g7, g8, ma, mb, A, B, W, happ]
                    exact ⟨hkl, _, _, rfl, no (by simp [ordersQ, byG, ma, mb, A, B, W]), rfl⟩
                  · simp -implicitDefEqProofs (disch := first | (refine fineP_go ?_; kernel_rfl) | omega | (refine of_eq_true ?_; simp (disch := first | omega | (refine of_eq_true ?_; simp only [go_sem]; done) | (simp only [go_sem]; omega)) only [go_sem]; done) | (simp only [go_sem]; omega) | assumption) only [go_sem, Bool.false_eq_true, ↓sel_fineP, ↓reduceIte, Nat.reduceEqDiff, sel_y, sel_n, sel_ny, sel_nn, wrap_u64, wrap_i64, wrap_u32, min_l, g1, g2, g5, g6, g7, g8, ma, mb, A, B, W, happ]
                    first | exact ⟨hkl, _, _, rfl, yes (by simp [ordersQ, byG, ma, mb, A, B, W]), rfl⟩ | exact ⟨hkl, _, _, rfl, no (by simp [ordersQ, byG, ma, mb, A, B, W]), rfl⟩
              · cases W : has x.po i k
                · simp -implicitDefEqProofs (disch := first | (refine fineP_go ?_; kernel_rfl) | omega | (refine of_eq_true ?_; simp (disch := first | omega | (refine of_eq_true ?_; simp only [go_sem]; done) | (simp only [go_sem]; omega)) only [go_sem]; done) | (simp only [go_sem]; omega) | assumption) only [go_sem, Bool.false_eq_true, ↓sel_fineP, ↓reduceIte, Nat.reduceEqDiff, sel_y, sel_n, sel_ny, sel_nn, wrap_u64, wrap_i64, wrap_u32, min_l, g1, g2, g5, g6, g7, g8, ma, mb, A, W, happ]
                  exact ⟨hkl, _, _, rfl, no (by simp [ordersQ, byG, ma, mb, A, W]), rfl⟩
                · simp -implicitDefEqProofs (disch := first | (refine fineP_go ?_; kernel_rfl) | omega | (refine of_eq_true ?_; simp (disch := first | omega | (refine of_eq_true ?_; simp only [go_sem]; done) | (simp only [go_sem]; omega)) only [go_sem]; done) | (simp only [go_sem]; omega) | assumption) only [go_sem, Bool.false_eq_true, ↓sel_fineP, ↓reduceIte, Nat.reduceEqDiff, sel_y, sel_n, sel_ny, sel_nn, wrap_u64, wrap_i64, wrap_u32, min_l, g1, g2, g5, g6, g7, g8, ma, mb, A, W, happ]
                  first | exact ⟨hkl, _, _, rfl, yes (by simp [ordersQ, byG, ma, mb, A, W]), rfl⟩ | exact ⟨hkl, _, _, rfl, no (by simp [ordersQ, byG, ma, mb, A, W]), rfl⟩
        · obtain rfl : k = x.ev.length := by omega
          simp -implicitDefEqProofs (disch := first | (refine fineP_go ?_; kernel_rfl) | omega | (refine of_eq_true ?_; simp (disch := first | omega | (refine of_eq_true ?_; simp only [go_sem]; done) | (simp only [go_sem]; omega)) only [go_sem]; done) | (simp only [go_sem]; omega) | assumption) only [go_sem, Bool.false_eq_true, ↓sel_fineP, ↓reduceIte, Nat.reduceEqDiff, sel_y, sel_n, sel_ny, sel_nn, wrap_u64, wrap_i64, wrap_u32, min_l, g1, g2, g5, g6, g7, g8, pto_succ]
          exact ⟨hlt, _, _, rfl, hA, rfl⟩
      · simp -implicitDefEqProofs (disch := first | (refine fineP_go ?_; kernel_rfl) | omega | (refine of_eq_true ?_; simp (disch := first | omega | (refine of_eq_true ?_; simp only [go_sem]; done) | (simp only [go_sem]; omega)) only [go_sem]; done) | (simp only [go_sem]; omega) | assumption) only [go_sem, Bool.false_eq_true, ↓sel_fineP, ↓reduceIte, Nat.reduceEqDiff, sel_y, sel_n, sel_ny, sel_nn, wrap_u64, wrap_i64, wrap_u32, min_l, g1, g2, g5, g6, g7, show prow (ordersQ x) i 0 = [] from rfl]
        exact ⟨_, _, rfl, hA, rfl⟩
    · obtain rfl : i = x.ev.length := by omega
      have hT := hA.toT ⟨[.t (enc x)], 7, false⟩
      have hp1 := pto_len32 (p := ordersQ x) (n := x.ev.length) (i := x.ev.length) hn hn
      have hok := pto_ok (n := x.ev.length) (p := ordersQ x)
      simp -implicitDefEqProofs (disch := first | (refine fineP_go ?_; kernel_rfl) | omega | (refine of_eq_true ?_; simp (disch := first | omega | (refine of_eq_true ?_; simp only [go_sem, g1, g2, g5, g6, g7, hT]; done) | (simp only [go_sem, g1, g2, g5, g6, g7, hT]; omega)) only [go_sem, g1, g2, g5, g6, g7, hT]; done) | (simp only [go_sem, g1, g2, g5, g6, g7, hT]; omega) | assumption) only [go_sem, Bool.false_eq_true, ↓sel_fineP, ↓reduceIte, Nat.reduceEqDiff, sel_y, sel_n, sel_ny, sel_nn, wrap_u64, wrap_i64, wrap_u32, min_l, g1, g2, g5, g6, g7, hT]
      rw [made_pto]
  · simp -implicitDefEqProofs (disch := first | (refine fineP_go ?_; kernel_rfl) | omega | (refine of_eq_true ?_; simp (disch := first | omega | (refine of_eq_true ?_; simp only [go_sem]; done) | (simp only [go_sem]; omega)) only [go_sem]; done) | (simp only [go_sem]; omega) | assumption) only [go_sem, Bool.false_eq_true, ↓sel_fineP, ↓reduceIte, Nat.reduceEqDiff, sel_y, sel_n, sel_ny, sel_nn, wrap_u64, wrap_i64, wrap_u32, min_l]
    exact ⟨_, _, rfl, Acc.nil _, rfl⟩
end Go.Sim
