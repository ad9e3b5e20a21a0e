/- A part of the proof of a law of module cupola: Ref4. It has no conditions of its own. -/
import Derived.Test.YtocehjbdnhmkfaaGreatRef3
set_option linter.all false
set_option maxRecDepth 20000
/-! Contracts of package cupolaref14: what hangs on reads. -/
namespace Go.Sim
open Enc (enc)
open Go.Proofs

def isbP (x : Ex) (j k : Nat) : Bool := decide ((gd x.ev j).kind = 6) && (has x.po j k && decide ((gd x.ev k).kind = 1))
def stM (x : Ex) (i j : Nat) : Bool := (List.range x.ev.length).any fun m => has x.addr i m && has x.po m j
def stJ (x : Ex) (i k j : Nat) : Bool := ((has x.addr i j && has x.po j k) && decide ((gd x.ev k).kind = 2)) || (isbP x j k && (has x.ctrl i j || stM x i j))
def st0 (x : Ex) (i k : Nat) : Bool := has x.addr i k || (has x.data i k || (has x.ctrl i k && decide ((gd x.ev k).kind = 2)))
def stP (x : Ex) (i k : Nat) : Bool := st0 x i k || (List.range x.ev.length).any fun j => stJ x i k j

theorem any_up {n : Nat} {f : Nat → Bool} {j : Nat} (hj : j < n) (h : f j = true) : (List.range n).any f = true := List.any_eq_true.2 ⟨j, List.mem_range.2 hj, h⟩
theorem any_no {n : Nat} {f : Nat → Bool} (h : ∀ j, j < n → f j = false) : (List.range n).any f = false := by
  rw [List.any_eq_false]; intro j hj; rw [h j (List.mem_range.1 hj)]; decide

theorem ref14_static {x : Ex} (hx : Okx x) {i k : Nat} (hi : i < x.ev.length) (hk : k < x.ev.length) : Fun Tryz.prog 161 [enc x, .int .i64 i, .int .i64 k] (.t (.bool (stP x i k))) := by
  have hx' := hx
  obtain ⟨hn, h1, h2, h3, h4, h5⟩ := hx
  refine Fun.go (b := false) Tryz.func161 rfl rfl (by kernel_rfl) (by kernel_rfl) ?_
  refine (?main : (∀ (e : Env) (H : Heap), st0 x i k = false → e 1 = .t (.int .i64 i) ∧ e 2 = .t (.int .i64 k) ∧ e 3 = .ptr 0 1 0 0 ∧ e 7 = .t (.int .i64 0) ∧ H = [⟨[.t (enc x)], 7, false⟩] → @C Tryz.prog ?c e H ?Q) → _) ?loop
  case main =>
    intro loop
    cases a0 : has x.addr i k
    · cases d0 : has x.data i k
      · cases c0 : has x.ctrl i k
        · simp -implicitDefEqProofs (disch := first | (refine fineP_go ?_; kernel_rfl) | omega | (refine of_eq_true ?_; simp (disch := first | omega | (refine of_eq_true ?_; simp only [go_sem]; done) | (simp only [go_sem]; omega)) only [go_sem]; done) | (simp only [go_sem]; omega) | assumption) only [go_sem, Bool.false_eq_true, ↓sel_fineP, ↓reduceIte, Nat.reduceEqDiff, sel_y, sel_n, sel_ny, sel_nn, wrap_u64, wrap_i64, wrap_u32, min_l, a0, d0, c0]
          refine loop _ _ (by simp [st0, a0, d0, c0]) ?_
          simp -implicitDefEqProofs (disch := first | (refine fineP_go ?_; kernel_rfl) | omega | (refine of_eq_true ?_; simp (disch := first | omega | (refine of_eq_true ?_; simp only [go_sem]; done) | (simp only [go_sem]; omega)) only [go_sem]; done) | (simp only [go_sem]; omega) | assumption) only [go_sem, Bool.false_eq_true, ↓sel_fineP, ↓reduceIte, Nat.reduceEqDiff, sel_y, sel_n, sel_ny, sel_nn, wrap_u64, wrap_i64, wrap_u32, min_l]
        · by_cases k2 : (gd x.ev k).kind = 2
          · have yes : stP x i k = true := by simp [stP, st0, c0, k2]
            simp -implicitDefEqProofs (disch := first | (refine fineP_go ?_; kernel_rfl) | omega | (refine of_eq_true ?_; simp (disch := first | omega | (refine of_eq_true ?_; simp only [go_sem]; done) | (simp only [go_sem]; omega)) only [go_sem]; done) | (simp only [go_sem]; omega) | assumption) only [go_sem, Bool.false_eq_true, ↓sel_fineP, ↓reduceIte, Nat.reduceEqDiff, sel_y, sel_n, sel_ny, sel_nn, wrap_u64, wrap_i64, wrap_u32, min_l, a0, d0, c0, k2, yes]
          · simp -implicitDefEqProofs (disch := first | (refine fineP_go ?_; kernel_rfl) | omega | (refine of_eq_true ?_; simp (disch := first | omega | (refine of_eq_true ?_; simp only [go_sem]; done) | (simp only [go_sem]; omega)) only [go_sem]; done) | (simp only [go_sem]; omega) | assumption) only [go_sem, Bool.false_eq_true, ↓sel_fineP, ↓reduceIte, Nat.reduceEqDiff, sel_y, sel_n, sel_ny, sel_nn, wrap_u64, wrap_i64, wrap_u32, min_l, a0, d0, c0, k2]
            refine loop _ _ (by simp [st0, a0, d0, k2]) ?_
            simp -implicitDefEqProofs (disch := first | (refine fineP_go ?_; kernel_rfl) | omega | (refine of_eq_true ?_; simp (disch := first | omega | (refine of_eq_true ?_; simp only [go_sem]; done) | (simp only [go_sem]; omega)) only [go_sem]; done) | (simp only [go_sem]; omega) | assumption) only [go_sem, Bool.false_eq_true, ↓sel_fineP, ↓reduceIte, Nat.reduceEqDiff, sel_y, sel_n, sel_ny, sel_nn, wrap_u64, wrap_i64, wrap_u32, min_l]
      · have yes : stP x i k = true := by simp [stP, st0, d0]
        simp -implicitDefEqProofs (disch := first | (refine fineP_go ?_; kernel_rfl) | omega | (refine of_eq_true ?_; simp (disch := first | omega | (refine of_eq_true ?_; simp only [go_sem]; done) | (simp only [go_sem]; omega)) only [go_sem]; done) | (simp only [go_sem]; omega) | assumption) only [go_sem, Bool.false_eq_true, ↓sel_fineP, ↓reduceIte, Nat.reduceEqDiff, sel_y, sel_n, sel_ny, sel_nn, wrap_u64, wrap_i64, wrap_u32, min_l, a0, d0, yes]
    · have yes : stP x i k = true := by simp [stP, st0, a0]
      simp -implicitDefEqProofs (disch := first | (refine fineP_go ?_; kernel_rfl) | omega | (refine of_eq_true ?_; simp (disch := first | omega | (refine of_eq_true ?_; simp only [go_sem]; done) | (simp only [go_sem]; omega)) only [go_sem]; done) | (simp only [go_sem]; omega) | assumption) only [go_sem, Bool.false_eq_true, ↓sel_fineP, ↓reduceIte, Nat.reduceEqDiff, sel_y, sel_n, sel_ny, sel_nn, wrap_u64, wrap_i64, wrap_u32, min_l, a0, yes]
  case loop =>
    rintro e H s0 ⟨g1, g2, g3, g7, rfl⟩
    refine loop_up (n := x.ev.length) (fun j e H => e 1 = .t (.int .i64 i) ∧ e 2 = .t (.int .i64 k) ∧ e 3 = .ptr 0 1 0 0 ∧ e 7 = .t (.int .i64 j) ∧ H = [⟨[.t (enc x)], 7, false⟩] ∧ ∀ j', j' < j → stJ x i k j' = false) ?_ _ _ ?_
    · clear g1 g2 g3 g7 e
      rintro j e H hj ⟨g1, g2, g3, g7, rfl, hno⟩
      by_cases hlt : j < x.ev.length
      · have step : stJ x i k j = false → ∀ j', j' < j + 1 → stJ x i k j' = false := fun nj j' h => if e : j' = j then e ▸ nj else hno j' (by omega)
        have yes : stJ x i k j = true → stP x i k = true := fun yj => by rw [stP, any_up hlt yj]; simp
        cases A : has x.addr i j
        · by_cases J6 : (gd x.ev j).kind = 6
          · cases B : has x.po j k
            · simp -implicitDefEqProofs (disch := first | (refine fineP_go ?_; kernel_rfl) | omega | (refine of_eq_true ?_; simp (disch := first | omega | (refine of_eq_true ?_; simp only [go_sem]; done) | (simp only [go_sem]; omega)) only [go_sem]; done) | (simp only [go_sem]; omega) | assumption) only [go_sem, Bool.false_eq_true, ↓sel_fineP, ↓reduceIte, Nat.reduceEqDiff, sel_y, sel_n, sel_ny, sel_nn, wrap_u64, wrap_i64, wrap_u32, min_l, g1, g2, g3, g7, A, B, J6]
              rw [e_loop]
              simp -implicitDefEqProofs (disch := first | (refine fineP_go ?_; kernel_rfl) | omega | (refine of_eq_true ?_; simp (disch := first | omega | (refine of_eq_true ?_; simp only [go_sem]; done) | (simp only [go_sem]; omega)) only [go_sem]; done) | (simp only [go_sem]; omega) | assumption) only [go_sem, Bool.false_eq_true, ↓sel_fineP, ↓reduceIte, Nat.reduceEqDiff, sel_y, sel_n, sel_ny, sel_nn, wrap_u64, wrap_i64, wrap_u32, min_l, g1, g2, g3, g7]
              exact ⟨hlt, step (by simp [stJ, A, B, isbP])⟩
            · by_cases K1 : (gd x.ev k).kind = 1
              · cases D : has x.ctrl i j
                · simp -implicitDefEqProofs (disch := first | (refine fineP_go ?_; kernel_rfl) | omega | (refine of_eq_true ?_; simp (disch := first | omega | (refine of_eq_true ?_; simp only [go_sem]; done) | (simp only [go_sem]; omega)) only [go_sem]; done) | (simp only [go_sem]; omega) | assumption) only [go_sem, Bool.false_eq_true, ↓sel_fineP, ↓reduceIte, Nat.reduceEqDiff, sel_y, sel_n, sel_ny, sel_nn, wrap_u64, wrap_i64, wrap_u32, min_l, g1, g2, g3, g7, A, B, J6, K1, D]
                  refine loop_up (n := x.ev.length) (fun m e H => e 1 = .t (.int .i64 i) ∧ e 2 = .t (.int .i64 k) ∧ e 3 = .ptr 0 1 0 0 ∧ e 7 = .t (.int .i64 j) ∧ e 9 = .t (.bool true) ∧ e 10 = .t (.int .i64 m) ∧ H = [⟨[.t (enc x)], 7, false⟩] ∧ ∀ m', m' < m → (has x.addr i m' && has x.po m' j) = false) ?_ _ _ ?_
                  · rintro m e H hm ⟨g1, g2, g3, g7, g9, g10, rfl, hnm⟩
                    by_cases hml : m < x.ev.length
                    · cases A2 : has x.addr i m
                      · simp -implicitDefEqProofs (disch := first | (refine fineP_go ?_; kernel_rfl) | omega | (refine of_eq_true ?_; simp (disch := first | omega | (refine of_eq_true ?_; simp only [go_sem]; done) | (simp only [go_sem]; omega)) only [go_sem]; done) | (simp only [go_sem]; omega) | assumption) only [go_sem, Bool.false_eq_true, ↓sel_fineP, ↓reduceIte, Nat.reduceEqDiff, sel_y, sel_n, sel_ny, sel_nn, wrap_u64, wrap_i64, wrap_u32, min_l, g1, g2, g3, g7, g9, g10, A2]
                        exact ⟨hml, fun m' h => if e : m' = m then by subst e; simp [A2] else hnm m' (by omega)⟩
                      · cases B2 : has x.po m j
                        · simp -implicitDefEqProofs (disch := first | (refine fineP_go ?_; kernel_rfl) | omega | (refine of_eq_true ?_; simp (disch := first | omega | (refine of_eq_true ?_; simp only [go_sem]; done) | (simp only [go_sem]; omega)) only [go_sem]; done) | (simp only [go_sem]; omega) | assumption) only [go_sem, Bool.false_eq_true, ↓sel_fineP, ↓reduceIte, Nat.reduceEqDiff, sel_y, sel_n, sel_ny, sel_nn, wrap_u64, wrap_i64, wrap_u32, min_l, g1, g2, g3, g7, g9, g10, A2, B2]
                          exact ⟨hml, fun m' h => if e : m' = m then by subst e; simp [B2] else hnm m' (by omega)⟩
                        · have y := yes (by simp [stJ, isbP, J6, B, K1, stM]; exact .inr ⟨m, hml, A2, B2⟩)
                          simp -implicitDefEqProofs (disch := first | (refine fineP_go ?_; kernel_rfl) | omega | (refine of_eq_true ?_; simp (disch := first | omega | (refine of_eq_true ?_; simp only [go_sem]; done) | (simp only [go_sem]; omega)) only [go_sem]; done) | (simp only [go_sem]; omega) | assumption) only [go_sem, Bool.false_eq_true, ↓sel_fineP, ↓reduceIte, Nat.reduceEqDiff, sel_y, sel_n, sel_ny, sel_nn, wrap_u64, wrap_i64, wrap_u32, min_l, g1, g2, g3, g7, g9, g10, A2, B2, y]
                    · obtain rfl : m = x.ev.length := by omega
                      simp -implicitDefEqProofs (disch := first | (refine fineP_go ?_; kernel_rfl) | omega | (refine of_eq_true ?_; simp (disch := first | omega | (refine of_eq_true ?_; simp only [go_sem]; done) | (simp only [go_sem]; omega)) only [go_sem]; done) | (simp only [go_sem]; omega) | assumption) only [go_sem, Bool.false_eq_true, ↓sel_fineP, ↓reduceIte, Nat.reduceEqDiff, sel_y, sel_n, sel_ny, sel_nn, wrap_u64, wrap_i64, wrap_u32, min_l, g1, g2, g3, g7, g9, g10]
                      exact ⟨hlt, step (by rw [stJ, stM, any_no hnm]; simp [A, D])⟩
                  · simp -implicitDefEqProofs (disch := first | (refine fineP_go ?_; kernel_rfl) | omega | (refine of_eq_true ?_; simp (disch := first | omega | (refine of_eq_true ?_; simp only [go_sem]; done) | (simp only [go_sem]; omega)) only [go_sem]; done) | (simp only [go_sem]; omega) | assumption) only [go_sem, Bool.false_eq_true, ↓sel_fineP, ↓reduceIte, Nat.reduceEqDiff, sel_y, sel_n, sel_ny, sel_nn, wrap_u64, wrap_i64, wrap_u32, min_l, g1, g2, g3, g7]
                    intro m' h; omega
                · have y := yes (by simp [stJ, isbP, J6, B, K1, D])
                  simp -implicitDefEqProofs (disch := first | (refine fineP_go ?_; kernel_rfl) | omega | (refine of_eq_true ?_; simp (disch := first | omega | (refine of_eq_true ?_; simp only [go_sem]; done) | (simp only [go_sem]; omega)) only [go_sem]; done) | (simp only [go_sem]; omega) | assumption) only [go_sem, Bool.false_eq_true, ↓sel_fineP, ↓reduceIte, Nat.reduceEqDiff, sel_y, sel_n, sel_ny, sel_nn, wrap_u64, wrap_i64, wrap_u32, min_l, g1, g2, g3, g7, A, B, J6, K1, D, y]
              · simp -implicitDefEqProofs (disch := first | (refine fineP_go ?_; kernel_rfl) | omega | (refine of_eq_true ?_; simp (disch := first | omega | (refine of_eq_true ?_; simp only [go_sem]; done) | (simp only [go_sem]; omega)) only [go_sem]; done) | (simp only [go_sem]; omega) | assumption) only [go_sem, Bool.false_eq_true, ↓sel_fineP, ↓reduceIte, Nat.reduceEqDiff, sel_y, sel_n, sel_ny, sel_nn, wrap_u64, wrap_i64, wrap_u32, min_l, g1, g2, g3, g7, A, B, J6, K1]
                rw [e_loop]
                simp -implicitDefEqProofs (disch := first | (refine fineP_go ?_; kernel_rfl) | omega | (refine of_eq_true ?_; simp (disch := first | omega | (refine of_eq_true ?_; simp only [go_sem]; done) | (simp only [go_sem]; omega)) only [go_sem]; done) | (simp only [go_sem]; omega) | assumption) only [go_sem, Bool.false_eq_true, ↓sel_fineP, ↓reduceIte, Nat.reduceEqDiff, sel_y, sel_n, sel_ny, sel_nn, wrap_u64, wrap_i64, wrap_u32, min_l, g1, g2, g3, g7]
                exact ⟨hlt, step (by simp [stJ, A, K1, isbP])⟩
          · simp -implicitDefEqProofs (disch := first | (refine fineP_go ?_; kernel_rfl) | omega | (refine of_eq_true ?_; simp (disch := first | omega | (refine of_eq_true ?_; simp only [go_sem]; done) | (simp only [go_sem]; omega)) only [go_sem]; done) | (simp only [go_sem]; omega) | assumption) only [go_sem, Bool.false_eq_true, ↓sel_fineP, ↓reduceIte, Nat.reduceEqDiff, sel_y, sel_n, sel_ny, sel_nn, wrap_u64, wrap_i64, wrap_u32, min_l, g1, g2, g3, g7, A, J6]
            rw [e_loop]
            simp -implicitDefEqProofs (disch := first | (refine fineP_go ?_; kernel_rfl) | omega | (refine of_eq_true ?_; simp (disch := first | omega | (refine of_eq_true ?_; simp only [go_sem]; done) | (simp only [go_sem]; omega)) only [go_sem]; done) | (simp only [go_sem]; omega) | assumption) only [go_sem, Bool.false_eq_true, ↓sel_fineP, ↓reduceIte, Nat.reduceEqDiff, sel_y, sel_n, sel_ny, sel_nn, wrap_u64, wrap_i64, wrap_u32, min_l, g1, g2, g3, g7]
            exact ⟨hlt, step (by simp [stJ, A, J6, isbP])⟩
        · cases B : has x.po j k
          · by_cases J6 : (gd x.ev j).kind = 6
            · simp -implicitDefEqProofs (disch := first | (refine fineP_go ?_; kernel_rfl) | omega | (refine of_eq_true ?_; simp (disch := first | omega | (refine of_eq_true ?_; simp only [go_sem]; done) | (simp only [go_sem]; omega)) only [go_sem]; done) | (simp only [go_sem]; omega) | assumption) only [go_sem, Bool.false_eq_true, ↓sel_fineP, ↓reduceIte, Nat.reduceEqDiff, sel_y, sel_n, sel_ny, sel_nn, wrap_u64, wrap_i64, wrap_u32, min_l, g1, g2, g3, g7, A, B, J6]
              rw [e_loop]
              simp -implicitDefEqProofs (disch := first | (refine fineP_go ?_; kernel_rfl) | omega | (refine of_eq_true ?_; simp (disch := first | omega | (refine of_eq_true ?_; simp only [go_sem]; done) | (simp only [go_sem]; omega)) only [go_sem]; done) | (simp only [go_sem]; omega) | assumption) only [go_sem, Bool.false_eq_true, ↓sel_fineP, ↓reduceIte, Nat.reduceEqDiff, sel_y, sel_n, sel_ny, sel_nn, wrap_u64, wrap_i64, wrap_u32, min_l, g1, g2, g3, g7]
              exact ⟨hlt, step (by simp [stJ, B, isbP])⟩
            · simp -implicitDefEqProofs (disch := first | (refine fineP_go ?_; kernel_rfl) | omega | (refine of_eq_true ?_; simp (disch := first | omega | (refine of_eq_true ?_; simp only [go_sem]; done) | (simp only [go_sem]; omega)) only [go_sem]; done) | (simp only [go_sem]; omega) | assumption) only [go_sem, Bool.false_eq_true, ↓sel_fineP, ↓reduceIte, Nat.reduceEqDiff, sel_y, sel_n, sel_ny, sel_nn, wrap_u64, wrap_i64, wrap_u32, min_l, g1, g2, g3, g7, A, B, J6]
              rw [e_loop]
              simp -implicitDefEqProofs (disch := first | (refine fineP_go ?_; kernel_rfl) | omega | (refine of_eq_true ?_; simp (disch := first | omega | (refine of_eq_true ?_; simp only [go_sem]; done) | (simp only [go_sem]; omega)) only [go_sem]; done) | (simp only [go_sem]; omega) | assumption) only [go_sem, Bool.false_eq_true, ↓sel_fineP, ↓reduceIte, Nat.reduceEqDiff, sel_y, sel_n, sel_ny, sel_nn, wrap_u64, wrap_i64, wrap_u32, min_l, g1, g2, g3, g7]
              exact ⟨hlt, step (by simp [stJ, B, isbP])⟩
          · by_cases K2 : (gd x.ev k).kind = 2
            · have y := yes (by simp [stJ, A, B, K2])
              simp -implicitDefEqProofs (disch := first | (refine fineP_go ?_; kernel_rfl) | omega | (refine of_eq_true ?_; simp (disch := first | omega | (refine of_eq_true ?_; simp only [go_sem]; done) | (simp only [go_sem]; omega)) only [go_sem]; done) | (simp only [go_sem]; omega) | assumption) only [go_sem, Bool.false_eq_true, ↓sel_fineP, ↓reduceIte, Nat.reduceEqDiff, sel_y, sel_n, sel_ny, sel_nn, wrap_u64, wrap_i64, wrap_u32, min_l, g1, g2, g3, g7, A, B, K2, y]
            · by_cases J6 : (gd x.ev j).kind = 6
              · by_cases K1 : (gd x.ev k).kind = 1
                · cases D : has x.ctrl i j
                  · simp -implicitDefEqProofs (disch := first | (refine fineP_go ?_; kernel_rfl) | omega | (refine of_eq_true ?_; simp (disch := first | omega | (refine of_eq_true ?_; simp only [go_sem]; done) | (simp only [go_sem]; omega)) only [go_sem]; done) | (simp only [go_sem]; omega) | assumption) only [go_sem, Bool.false_eq_true, ↓sel_fineP, ↓reduceIte, Nat.reduceEqDiff, sel_y, sel_n, sel_ny, sel_nn, wrap_u64, wrap_i64, wrap_u32, min_l, g1, g2, g3, g7, A, B, J6, K1, K2, D]
                    refine loop_up (n := x.ev.length) (fun m e H => e 1 = .t (.int .i64 i) ∧ e 2 = .t (.int .i64 k) ∧ e 3 = .ptr 0 1 0 0 ∧ e 7 = .t (.int .i64 j) ∧ e 9 = .t (.bool true) ∧ e 10 = .t (.int .i64 m) ∧ H = [⟨[.t (enc x)], 7, false⟩] ∧ ∀ m', m' < m → (has x.addr i m' && has x.po m' j) = false) ?_ _ _ ?_
                    · rintro m e H hm ⟨g1, g2, g3, g7, g9, g10, rfl, hnm⟩
                      by_cases hml : m < x.ev.length
                      · cases A2 : has x.addr i m
                        · simp -implicitDefEqProofs (disch := first | (refine fineP_go ?_; kernel_rfl) | omega | (refine of_eq_true ?_; simp (disch := first | omega | (refine of_eq_true ?_; simp only [go_sem]; done) | (simp only [go_sem]; omega)) only [go_sem]; done) | (simp only [go_sem]; omega) | assumption) only [go_sem, Bool.false_eq_true, ↓sel_fineP, ↓reduceIte, Nat.reduceEqDiff, sel_y, sel_n, sel_ny, sel_nn, wrap_u64, wrap_i64, wrap_u32, min_l, g1, g2, g3, g7, g9, g10, A2]
                          exact ⟨hml, fun m' h => if e : m' = m then by subst e; simp [A2] else hnm m' (by omega)⟩
                        · cases B2 : has x.po m j
                          · simp -implicitDefEqProofs (disch := first | (refine fineP_go ?_; kernel_rfl) | omega | (refine of_eq_true ?_; simp (disch := first | omega | (refine of_eq_true ?_; simp only [go_sem]; done) | (simp only [go_sem]; omega)) only [go_sem]; done) | (simp only [go_sem]; omega) | assumption) only [go_sem, Bool.false_eq_true, ↓sel_fineP, ↓reduceIte, Nat.reduceEqDiff, sel_y, sel_n, sel_ny, sel_nn, wrap_u64, wrap_i64, wrap_u32, min_l, g1, g2, g3, g7, g9, g10, A2, B2]
                            exact ⟨hml, fun m' h => if e : m' = m then by subst e; simp [B2] else hnm m' (by omega)⟩
                          · have y := yes (by simp [stJ, isbP, J6, B, K1, stM]; exact .inr ⟨m, hml, A2, B2⟩)
                            simp -implicitDefEqProofs (disch := first | (refine fineP_go ?_; kernel_rfl) | omega | (refine of_eq_true ?_; simp (disch := first | omega | (refine of_eq_true ?_; simp only [go_sem]; done) | (simp only [go_sem]; omega)) only [go_sem]; done) | (simp only [go_sem]; omega) | assumption) only [go_sem, Bool.false_eq_true, ↓sel_fineP, ↓reduceIte, Nat.reduceEqDiff, sel_y, sel_n, sel_ny, sel_nn, wrap_u64, wrap_i64, wrap_u32, min_l, g1, g2, g3, g7, g9, g10, A2, B2, y]
                      · obtain rfl : m = x.ev.length := by omega
                        simp -implicitDefEqProofs (disch := first | (refine fineP_go ?_; kernel_rfl) | omega | (refine of_eq_true ?_; simp (disch := first | omega | (refine of_eq_true ?_; simp only [go_sem]; done) | (simp only [go_sem]; omega)) only [go_sem]; done) | (simp only [go_sem]; omega) | assumption) only [go_sem, Bool.false_eq_true, ↓sel_fineP, ↓reduceIte, Nat.reduceEqDiff, sel_y, sel_n, sel_ny, sel_nn, wrap_u64, wrap_i64, wrap_u32, min_l, g1, g2, g3, g7, g9, g10]
                        exact ⟨hlt, step (by rw [stJ, stM, any_no hnm]; simp [K2, D])⟩
                    · simp -implicitDefEqProofs (disch := first | (refine fineP_go ?_; kernel_rfl) | omega | (refine of_eq_true ?_; simp (disch := first | omega | (refine of_eq_true ?_; simp only [go_sem]; done) | (simp only [go_sem]; omega)) only [go_sem]; done) | (simp only [go_sem]; omega) | assumption) only [go_sem, Bool.false_eq_true, ↓sel_fineP, ↓reduceIte, Nat.reduceEqDiff, sel_y, sel_n, sel_ny, sel_nn, wrap_u64, wrap_i64, wrap_u32, min_l, g1, g2, g3, g7]
                      intro m' h; omega
                  · have y := yes (by simp [stJ, isbP, J6, B, K1, D])
                    simp -implicitDefEqProofs (disch := first | (refine fineP_go ?_; kernel_rfl) | omega | (refine of_eq_true ?_; simp (disch := first | omega | (refine of_eq_true ?_; simp only [go_sem]; done) | (simp only [go_sem]; omega)) only [go_sem]; done) | (simp only [go_sem]; omega) | assumption) only [go_sem, Bool.false_eq_true, ↓sel_fineP, ↓reduceIte, Nat.reduceEqDiff, sel_y, sel_n, sel_ny, sel_nn, wrap_u64, wrap_i64, wrap_u32, min_l, g1, g2, g3, g7, A, B, J6, K1, K2, D, y]
                · simp -implicitDefEqProofs (disch := first | (refine fineP_go ?_; kernel_rfl) | omega | (refine of_eq_true ?_; simp (disch := first | omega | (refine of_eq_true ?_; simp only [go_sem]; done) | (simp only [go_sem]; omega)) only [go_sem]; done) | (simp only [go_sem]; omega) | assumption) only [go_sem, Bool.false_eq_true, ↓sel_fineP, ↓reduceIte, Nat.reduceEqDiff, sel_y, sel_n, sel_ny, sel_nn, wrap_u64, wrap_i64, wrap_u32, min_l, g1, g2, g3, g7, A, B, J6, K1, K2]
                  rw [e_loop]
                  simp -implicitDefEqProofs (disch := first | (refine fineP_go ?_; kernel_rfl) | omega | (refine of_eq_true ?_; simp (disch := first | omega | (refine of_eq_true ?_; simp only [go_sem]; done) | (simp only [go_sem]; omega)) only [go_sem]; done) | (simp only [go_sem]; omega) | assumption) only [go_sem, Bool.false_eq_true, ↓sel_fineP, ↓reduceIte, Nat.reduceEqDiff, sel_y, sel_n, sel_ny, sel_nn, wrap_u64, wrap_i64, wrap_u32, min_l, g1, g2, g3, g7]
                  exact ⟨hlt, step (by simp [stJ, K2, K1, isbP])⟩
              · simp -implicitDefEqProofs (disch := first | (refine fineP_go ?_; kernel_rfl) | omega | (refine of_eq_true ?_; simp (disch := first | omega | (refine of_eq_true ?_; simp only [go_sem]; done) | (simp only [go_sem]; omega)) only [go_sem]; done) | (simp only [go_sem]; omega) | assumption) only [go_sem, Bool.false_eq_true, ↓sel_fineP, ↓reduceIte, Nat.reduceEqDiff, sel_y, sel_n, sel_ny, sel_nn, wrap_u64, wrap_i64, wrap_u32, min_l, g1, g2, g3, g7, A, B, J6, K2]
                rw [e_loop]
                simp -implicitDefEqProofs (disch := first | (refine fineP_go ?_; kernel_rfl) | omega | (refine of_eq_true ?_; simp (disch := first | omega | (refine of_eq_true ?_; simp only [go_sem]; done) | (simp only [go_sem]; omega)) only [go_sem]; done) | (simp only [go_sem]; omega) | assumption) only [go_sem, Bool.false_eq_true, ↓sel_fineP, ↓reduceIte, Nat.reduceEqDiff, sel_y, sel_n, sel_ny, sel_nn, wrap_u64, wrap_i64, wrap_u32, min_l, g1, g2, g3, g7]
                exact ⟨hlt, step (by simp [stJ, K2, J6, isbP])⟩
      · obtain rfl : j = x.ev.length := by omega
        have no : stP x i k = false := by rw [stP, s0, any_no hno]; rfl
        simp -implicitDefEqProofs (disch := first | (refine fineP_go ?_; kernel_rfl) | omega | (refine of_eq_true ?_; simp (disch := first | omega | (refine of_eq_true ?_; simp only [go_sem]; done) | (simp only [go_sem]; omega)) only [go_sem]; done) | (simp only [go_sem]; omega) | assumption) only [go_sem, Bool.false_eq_true, ↓sel_fineP, ↓reduceIte, Nat.reduceEqDiff, sel_y, sel_n, sel_ny, sel_nn, wrap_u64, wrap_i64, wrap_u32, min_l, g1, g2, g3, g7, no]
    · simp -implicitDefEqProofs (disch := first | (refine fineP_go ?_; kernel_rfl) | omega | (refine of_eq_true ?_; simp (disch := first | omega | (refine of_eq_true ?_; simp only [go_sem]; done) | (simp only [go_sem]; omega)) only [go_sem]; done) | (simp only [go_sem]; omega) | assumption) only [go_sem, Bool.false_eq_true, ↓sel_fineP, ↓reduceIte, Nat.reduceEqDiff, sel_y, sel_n, sel_ny, sel_nn, wrap_u64, wrap_i64, wrap_u32, min_l, g1, g2, g3, g7]
      intro j' h; omega
@[go_sem] theorem pu_static {x : Ex} (hx : Okx x) {i k : Nat} (hi : i < x.ev.length) (hk : k < x.ev.length) {K : Ka V} : @Pu Tryz.prog 161 [enc x, .int .i64 i, .int .i64 k] K = K.k (.t (.bool (stP x i k))) := (ref14_static hx hi hk).pu

def staticQ (x : Ex) (i k : Nat) : Bool := memK (gd x.ev i) && (memK (gd x.ev k) && stP x i k)
theorem has_seqR {a b : Rl} (ha : a.length ≤ 32) {i k : Nat} (hi : i < a.length) (hk : k < a.length) : has (seqR a b) i k = (List.range a.length).any fun j => has a i j && has b j k := by rw [seqR, has_mk' ha hi hk]; rfl
theorem has_toR {l : List Ev} (hl : l.length ≤ 32) {r : Rl} (hr : r.length = l.length) {c : Int} {i k : Nat} (hi : i < l.length) (hk : k < l.length) : has (toR l r c) i k = (has r i k && decide ((gd l k).kind = c)) := by
  rw [toR, has_onlyR (by omega) (by omega) (by omega), ones_get (by omega), kindM_get hl hk]; simp
theorem static_eq {x : Ex} (hx : Okx x) : mk x.ev.length (staticQ x) = staticR x := by
  obtain ⟨hn, h1, h2, h3, h4, h5⟩ := hx
  have hcl : Cl x.ev.length (staticR x) := cl_only hn (unionR_len _ _)
  refine Cl.ext (cl_mk hn) hcl fun i k hi hk => ?_
  rw [has_mk' hn hi hk, staticR, has_memR hn (unionR_len _ _) hi hk, has_unionR hn hi hk]
  have ea : has (aheadR x) i k = (List.range x.ev.length).any fun j => has x.addr i j && has x.po j k := by rw [aheadR, has_seqR (by omega) (by omega) (by omega), h2]
  have eb : has (isbR x) i k = (List.range x.ev.length).any fun j => (has x.ctrl i j || stM x i j) && decide ((gd x.ev j).kind = 6) && has x.po j k := by
    have hl : (toR x.ev (orR x.ctrl (aheadR x)) 6).length = x.ev.length := by rw [toR_len, orR_len, h4]
    rw [isbR, has_seqR (by omega) (by omega) (by omega), hl]
    rw [Bool.eq_iff_iff, List.any_eq_true, List.any_eq_true]
    refine exists_congr fun j => and_congr_right fun hj => ?_
    have hj := List.mem_range.1 hj
    rw [has_toR hn (by rw [orR_len, h4]) hi hj, has_orR (by omega) (by omega) (by omega)]
    have : has (aheadR x) i j = stM x i j := by rw [aheadR, has_seqR (by omega) (by omega) (by omega), h2]; rfl
    rw [this]
  simp only [List.any_cons, List.any_nil, Bool.or_false]
  rw [has_toR hn h4 hi hk, has_toR hn (by rw [isbR, seqR_len, toR_len, orR_len, h4]) hi hk, has_toR hn (by rw [aheadR, seqR_len, h2]) hi hk, ea, eb]
  unfold staticQ stP st0 stJ isbP
  rw [Bool.eq_iff_iff]
  simp only [Bool.and_eq_true, Bool.or_eq_true, List.any_eq_true, List.mem_range, decide_eq_true_eq]
  constructor
  · rintro ⟨hm1, hm2, h⟩
    refine ⟨?_, hm1, hm2⟩
    rcases h with (h | h | h) | ⟨j, hj, (⟨h, h'⟩ | ⟨⟨h6, hp, h1'⟩, h⟩)⟩
    · exact .inl h
    · exact .inr (.inl h)
    · exact .inr (.inr (.inl h))
    · exact .inr (.inr (.inr (.inr ⟨⟨j, hj, h⟩, h'⟩)))
    · exact .inr (.inr (.inr (.inl ⟨⟨j, hj, ⟨h, h6⟩, hp⟩, h1'⟩)))
  · rintro ⟨h, hm1, hm2⟩
    refine ⟨hm1, hm2, ?_⟩
    rcases h with h | h | h | ⟨⟨j, hj, ⟨h, h6⟩, hp⟩, h1'⟩ | ⟨⟨j, hj, h⟩, h'⟩
    · exact .inl (.inl h)
    · exact .inl (.inr (.inl h))
    · exact .inl (.inr (.inr h))
    · exact .inr ⟨j, hj, .inr ⟨⟨h6, hp, h1'⟩, h⟩⟩
    · exact .inr ⟨j, hj, .inl ⟨h, h'⟩⟩
theorem ref14_Static {x : Ex} (hx : Okx x) : Fun Tryz.prog 125 [enc x] (.t (enc (staticR x))) := by
  have hx' := hx
  obtain ⟨hn, h1, h2, h3, h4, h5⟩ := hx
  refine Fun.go (b := false) Tryz.func125 rfl rfl (by kernel_rfl) (by kernel_rfl) ?_
  simp -implicitDefEqProofs (disch := first | (refine fineP_go ?_; kernel_rfl) | omega | (refine of_eq_true ?_; simp (disch := first | omega | (refine of_eq_true ?_; simp only [go_sem]; done) | (simp only [go_sem]; omega)) only [go_sem]; done) | (simp only [go_sem]; omega) | assumption) only [go_sem, Bool.false_eq_true, ↓sel_fineP, ↓reduceIte, Nat.reduceEqDiff, sel_y, sel_n, sel_ny, sel_nn, wrap_u64, wrap_i64, wrap_u32, min_l]
  refine loop_up (n := x.ev.length) (fun i e H => e 1 = .ptr 0 1 0 0 ∧ e 3 = accV 1 (pto (staticQ x) x.ev.length i) ∧ e 4 = .t (.int .i64 x.ev.length) ∧ e 5 = .t (.int .i64 i) ∧ H = ⟨[.t (enc x)], 7, false⟩ :: accO (pto (staticQ x) x.ev.length i)) ?_ _ _ ?_
  · rintro i e H hi ⟨g1, g3, g4, g5, rfl⟩
    have hp1 := pto_len32 (p := staticQ x) (n := x.ev.length) (i := i) hn (by omega)
    by_cases hlt : i < x.ev.length
    · simp -implicitDefEqProofs (disch := first | (refine fineP_go ?_; kernel_rfl) | omega | (refine of_eq_true ?_; simp (disch := first | omega | (refine of_eq_true ?_; simp only [go_sem]; done) | (simp only [go_sem]; omega)) only [go_sem]; done) | (simp only [go_sem]; omega) | assumption) only [go_sem, Bool.false_eq_true, ↓sel_fineP, ↓reduceIte, Nat.reduceEqDiff, sel_y, sel_n, sel_ny, sel_nn, wrap_u64, wrap_i64, wrap_u32, min_l, g1, g3, g4, g5]
      refine loop_up (n := x.ev.length) (fun k e H => e 1 = .ptr 0 1 0 0 ∧ e 3 = accV 1 (pto (staticQ x) x.ev.length i ++ prow (staticQ x) i k) ∧ e 4 = .t (.int .i64 x.ev.length) ∧ e 5 = .t (.int .i64 i) ∧ e 6 = .t (.int .i64 k) ∧ H = ⟨[.t (enc x)], 7, false⟩ :: accO (pto (staticQ x) x.ev.length i ++ prow (staticQ x) i k)) ?_ _ _ ?_
      · rintro k e H hk ⟨g1, g3, g4, g5, g6, rfl⟩
        have hrl := prow_len (staticQ x) i k
        have hl : (pto (staticQ x) x.ev.length i ++ prow (staticQ x) i k).length ≤ 1100 := by rw [List.length_append]; omega
        by_cases hkl : k < x.ev.length
        · have hs := prow_succ (staticQ x) i k
          cases ma : memK (gd x.ev i)
          · rw [show staticQ x i k = false by simp [staticQ, ma], if_neg (by decide)] at hs
            simp -implicitDefEqProofs (disch := first | (refine fineP_go ?_; kernel_rfl) | omega | (refine of_eq_true ?_; simp (disch := first | omega | (refine of_eq_true ?_; simp only [go_sem]; done) | (simp only [go_sem]; omega)) only [go_sem]; done) | (simp only [go_sem]; omega) | assumption) only [go_sem, Bool.false_eq_true, ↓sel_fineP, ↓reduceIte, Nat.reduceEqDiff, sel_y, sel_n, sel_ny, sel_nn, wrap_u64, wrap_i64, wrap_u32, min_l, g1, g3, g4, g5, g6, ma, hs]
            exact hkl
          · cases mb : memK (gd x.ev k)
            · rw [show staticQ x i k = false by simp [staticQ, mb], if_neg (by decide)] at hs
              simp -implicitDefEqProofs (disch := first | (refine fineP_go ?_; kernel_rfl) | omega | (refine of_eq_true ?_; simp (disch := first | omega | (refine of_eq_true ?_; simp only [go_sem]; done) | (simp only [go_sem]; omega)) only [go_sem]; done) | (simp only [go_sem]; omega) | assumption) only [go_sem, Bool.false_eq_true, ↓sel_fineP, ↓reduceIte, Nat.reduceEqDiff, sel_y, sel_n, sel_ny, sel_nn, wrap_u64, wrap_i64, wrap_u32, min_l, g1, g3, g4, g5, g6, ma, mb, hs]
              exact hkl
            · cases ms : stP x i k
              · rw [show staticQ x i k = false by simp [staticQ, ms], if_neg (by decide)] at hs
                simp -implicitDefEqProofs (disch := first | (refine fineP_go ?_; kernel_rfl) | omega | (refine of_eq_true ?_; simp (disch := first | omega | (refine of_eq_true ?_; simp only [go_sem]; done) | (simp only [go_sem]; omega)) only [go_sem]; done) | (simp only [go_sem]; omega) | assumption) only [go_sem, Bool.false_eq_true, ↓sel_fineP, ↓reduceIte, Nat.reduceEqDiff, sel_y, sel_n, sel_ny, sel_nn, wrap_u64, wrap_i64, wrap_u32, min_l, g1, g3, g4, g5, g6, ma, mb, ms, hs]
                exact hkl
              · rw [show staticQ x i k = true by simp [staticQ, ma, mb, ms], if_pos rfl] at hs
                simp -implicitDefEqProofs (disch := first | (refine fineP_go ?_; kernel_rfl) | omega | (refine of_eq_true ?_; simp (disch := first | omega | (refine of_eq_true ?_; simp only [go_sem]; done) | (simp only [go_sem]; omega)) only [go_sem]; done) | (simp only [go_sem]; omega) | assumption) only [go_sem, Bool.false_eq_true, ↓sel_fineP, ↓reduceIte, Nat.reduceEqDiff, sel_y, sel_n, sel_ny, sel_nn, wrap_u64, wrap_i64, wrap_u32, min_l, g1, g3, g4, g5, g6, ma, mb, ms, hs, List.append_assoc]
                exact hkl
        · obtain rfl : k = x.ev.length := by omega
          simp -implicitDefEqProofs (disch := first | (refine fineP_go ?_; kernel_rfl) | omega | (refine of_eq_true ?_; simp (disch := first | omega | (refine of_eq_true ?_; simp only [go_sem]; done) | (simp only [go_sem]; omega)) only [go_sem]; done) | (simp only [go_sem]; omega) | assumption) only [go_sem, Bool.false_eq_true, ↓sel_fineP, ↓reduceIte, Nat.reduceEqDiff, sel_y, sel_n, sel_ny, sel_nn, wrap_u64, wrap_i64, wrap_u32, min_l, g1, g3, g4, g5, g6, pto_succ]
          exact hlt
      · simp -implicitDefEqProofs (disch := first | (refine fineP_go ?_; kernel_rfl) | omega | (refine of_eq_true ?_; simp (disch := first | omega | (refine of_eq_true ?_; simp only [go_sem]; done) | (simp only [go_sem]; omega)) only [go_sem]; done) | (simp only [go_sem]; omega) | assumption) only [go_sem, Bool.false_eq_true, ↓sel_fineP, ↓reduceIte, Nat.reduceEqDiff, sel_y, sel_n, sel_ny, sel_nn, wrap_u64, wrap_i64, wrap_u32, min_l, g1, g3, g4, g5, show prow (staticQ x) i 0 = [] from rfl]
    · obtain rfl : i = x.ev.length := by omega
      have hok := pto_ok (n := x.ev.length) (p := staticQ x)
      simp -implicitDefEqProofs (disch := first | (refine fineP_go ?_; kernel_rfl) | omega | (refine of_eq_true ?_; simp (disch := first | omega | (refine of_eq_true ?_; simp only [go_sem]; done) | (simp only [go_sem]; omega)) only [go_sem]; done) | (simp only [go_sem]; omega) | assumption) only [go_sem, Bool.false_eq_true, ↓sel_fineP, ↓reduceIte, Nat.reduceEqDiff, sel_y, sel_n, sel_ny, sel_nn, wrap_u64, wrap_i64, wrap_u32, min_l, g1, g3, g4, g5]
      rw [made_pto, static_eq hx']
  · simp -implicitDefEqProofs (disch := first | (refine fineP_go ?_; kernel_rfl) | omega | (refine of_eq_true ?_; simp (disch := first | omega | (refine of_eq_true ?_; simp only [go_sem]; done) | (simp only [go_sem]; omega)) only [go_sem]; done) | (simp only [go_sem]; omega) | assumption) only [go_sem, Bool.false_eq_true, ↓sel_fineP, ↓reduceIte, Nat.reduceEqDiff, sel_y, sel_n, sel_ny, sel_nn, wrap_u64, wrap_i64, wrap_u32, min_l]
    exact ⟨rfl, rfl⟩
@[go_sem] theorem pu_rStatic {x : Ex} (hx : Okx x) {K : Ka V} : @Pu Tryz.prog 125 [enc x] K = K.k (.t (enc (staticR x))) := (ref14_Static hx).pu
theorem dob_eq {x : Ex} (hx : Okx x) {fr : List Int} {co : Rl} (hc : co.length = x.ev.length) : orR (staticR x) (memR x.ev (orR (seqR (orR x.ctrl x.data) (withinR x.ev co)) (seqR (orR x.addr x.data) (rfiR x.ev fr)))) = dobR x fr co := by
  obtain ⟨hn, h1, h2, h3, h4, h5⟩ := hx
  refine Cl.ext (n := x.ev.length) (cl_or hn (staticR_len x)) (cl_only hn (unionR_len _ _)) fun i k hi hk => ?_
  have hs : (orR (seqR (orR x.ctrl x.data) (withinR x.ev co)) (seqR (orR x.addr x.data) (rfiR x.ev fr))).length = x.ev.length := by rw [orR_len, seqR_len, orR_len, h4]
  rw [has_orR (by rw [staticR_len]; exact hn) (by rw [staticR_len]; exact hi) (by rw [staticR_len]; exact hk), has_memR hn hs hi hk, dobR, has_memR hn (unionR_len _ _) hi hk, has_unionR hn hi hk,
    has_orR (by rw [seqR_len, orR_len]; omega) (by rw [seqR_len, orR_len]; omega) (by rw [seqR_len, orR_len]; omega)]
  simp only [List.any_cons, List.any_nil, Bool.or_false]
  have e : has (staticR x) i k = (has (staticR x) i k && (memK (gd x.ev i) && memK (gd x.ev k))) := by
    rw [staticR, has_memR hn (unionR_len _ _) hi hk]
    cases has (unionR x.ev.length [x.addr, x.data, toR x.ev x.ctrl 2, toR x.ev (isbR x) 1, toR x.ev (aheadR x) 2]) i k <;> simp
  rw [e]
  cases has (staticR x) i k <;> cases (memK (gd x.ev i) && memK (gd x.ev k)) <;> simp
theorem ref14_Dob {x : Ex} (hx : Okx x) {fr : List Int} (hf : fr.length ≤ 1000) {co : Rl} (hc : co.length = x.ev.length) : Fun Tryz.prog 75 [enc x, enc fr, enc co] (.t (enc (dobR x fr co))) := by
  have hx' := hx
  obtain ⟨hn, h1, h2, h3, h4, h5⟩ := hx
  refine Fun.go (b := false) Tryz.func75 rfl rfl (by kernel_rfl) (by kernel_rfl) ?_
  simp -implicitDefEqProofs (disch := first | (refine fineP_go ?_; kernel_rfl) | omega | (refine of_eq_true ?_; simp (disch := first | omega | (refine of_eq_true ?_; simp only [go_sem]; done) | (simp only [go_sem]; omega)) only [go_sem]; done) | (simp only [go_sem]; omega) | assumption) only [go_sem, Bool.false_eq_true, ↓sel_fineP, ↓reduceIte, Nat.reduceEqDiff, sel_y, sel_n, sel_ny, sel_nn, wrap_u64, wrap_i64, wrap_u32, min_l, dob_eq hx' hc]
@[go_sem] theorem pu_rDob {x : Ex} (hx : Okx x) {fr : List Int} (hf : fr.length ≤ 1000) {co : Rl} (hc : co.length = x.ev.length) {K : Ka V} : @Pu Tryz.prog 75 [enc x, enc fr, enc co] K = K.k (.t (enc (dobR x fr co))) := (ref14_Dob hx hf hc).pu
end Go.Sim
