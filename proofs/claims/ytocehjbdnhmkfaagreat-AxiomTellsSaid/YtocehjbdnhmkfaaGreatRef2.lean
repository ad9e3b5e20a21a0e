/- A part of the proof of a law of module cupola: Ref2. It has no conditions of its own. -/
import Derived.Test.YtocehjbdnhmkfaaGreatRef
set_option linter.all false
set_option maxRecDepth 20000
/-! Contracts of packages cupolaref11, 13, 14. -/
namespace Go.Sim
open Enc (enc)
open Go.Proofs

def rfL (n : Nat) (fr : List Int) : Nat → List (Int × Int)
  | 0 => []
  | j + 1 => if 0 ≤ gd fr j ∧ gd fr j < n then rfL n fr j ++ [(gd fr j, (j : Int))] else rfL n fr j
theorem rfL_succ (n fr j) : rfL n fr (j + 1) = if 0 ≤ gd fr j ∧ gd fr j < n then rfL n fr j ++ [(gd fr j, (j : Int))] else rfL n fr j := rfl
theorem rfL_len (n fr) : ∀ j, (rfL n fr j).length ≤ j
  | 0 => by simp [rfL]
  | j + 1 => by
    have := rfL_len n fr j
    unfold rfL; split
    · rw [List.length_append]; simp; omega
    · omega
theorem mem_rfL {n fr} {q : Int × Int} : ∀ {j}, q ∈ rfL n fr j ↔ ∃ k : Nat, k < j ∧ q = (gd fr k, (k : Int)) ∧ 0 ≤ gd fr k ∧ gd fr k < n
  | 0 => by simp [rfL]
  | j + 1 => by
    have ih := @mem_rfL n fr q j
    unfold rfL
    split
    · rename_i h
      rw [List.mem_append, ih]
      constructor
      · rintro (⟨k, h1, h2⟩ | h1)
        · exact ⟨k, by omega, h2⟩
        · simp at h1; exact ⟨j, by omega, h1, h⟩
      · rintro ⟨k, h1, h2⟩
        by_cases e : k = j
        · subst e; exact .inr (by simp [h2.1])
        · exact .inl ⟨k, by omega, h2⟩
    · rename_i h
      rw [ih]
      constructor
      · rintro ⟨k, h1, h2⟩; exact ⟨k, by omega, h2⟩
      · rintro ⟨k, h1, h2⟩
        by_cases e : k = j
        · subst e; exact absurd h2.2 h
        · exact ⟨k, by omega, h2⟩
theorem made_rfL {n : Nat} {fr : List Int} {m : Nat} (hm : m = min fr.length n) : madeR n (rfL n fr m) = rfR n fr := by
  apply madeR_mk
  intro i k hi hk
  rw [mem_rfL]
  simp only [Bool.and_eq_true, decide_eq_true_eq, Prod.mk.injEq]
  constructor
  · rintro ⟨m, h1, ⟨h2, h3⟩, h4, h5⟩
    obtain rfl : k = m := by omega
    exact ⟨by omega, h2.symm⟩
  · rintro ⟨h1, h2⟩; exact ⟨k, by omega, ⟨h2.symm, rfl⟩, by omega, by omega⟩
theorem ref11_Rf {x : Ex} (hx : x.ev.length ≤ 32) {fr : List Int} (hf : fr.length ≤ 1000) : Fun Tryz.prog 118 [enc x, enc fr] (.t (enc (rfR x.ev.length fr))) := by
  refine Fun.go (b := false) Tryz.func118 rfl rfl (by kernel_rfl) (by kernel_rfl) ?_
  obtain ⟨m, hm⟩ : ∃ m, m = min fr.length x.ev.length := ⟨_, rfl⟩
  simp -implicitDefEqProofs (disch := first | (refine fineP_go ?_; kernel_rfl) | omega | (refine of_eq_true ?_; simp (disch := first | omega | (refine of_eq_true ?_; simp only [go_sem]; done) | (simp only [go_sem]; omega)) only [go_sem]; done) | (simp only [go_sem]; omega) | assumption) only [go_sem, Bool.false_eq_true, ↓sel_fineP, ↓reduceIte, Nat.reduceEqDiff, sel_y, sel_n, sel_ny, sel_nn, wrap_u64, wrap_i64, wrap_u32, min_l]
  refine loop_up (n := m) (fun j e H => e 1 = .t (enc fr) ∧ e 5 = accV 1 (rfL x.ev.length fr j) ∧ e 6 = .t (.int .i64 x.ev.length) ∧ e 7 = .t (.int .i64 j) ∧ H = ⟨[.t (enc x)], 7, false⟩ :: accO (rfL x.ev.length fr j)) ?_ _ _ ?_
  · rintro j e H hj ⟨h1, h5, h6, h7, rfl⟩
    have hl := rfL_len x.ev.length fr j
    by_cases hlt : j < m
    · have hs := rfL_succ x.ev.length fr j
      by_cases g1 : 0 ≤ gd fr j
      · by_cases g2 : gd fr j < x.ev.length
        · rw [if_pos ⟨g1, g2⟩] at hs
          simp -implicitDefEqProofs (disch := first | (refine fineP_go ?_; kernel_rfl) | omega | (refine of_eq_true ?_; simp (disch := first | omega | (refine of_eq_true ?_; simp only [go_sem]; done) | (simp only [go_sem]; omega)) only [go_sem]; done) | (simp only [go_sem]; omega) | assumption) only [go_sem, Bool.false_eq_true, ↓sel_fineP, ↓reduceIte, Nat.reduceEqDiff, sel_y, sel_n, sel_ny, sel_nn, wrap_u64, wrap_i64, wrap_u32, min_l, h1, h5, h6, h7, hs]
          exact hlt
        · rw [if_neg (fun h => g2 h.2)] at hs
          simp -implicitDefEqProofs (disch := first | (refine fineP_go ?_; kernel_rfl) | omega | (refine of_eq_true ?_; simp (disch := first | omega | (refine of_eq_true ?_; simp only [go_sem]; done) | (simp only [go_sem]; omega)) only [go_sem]; done) | (simp only [go_sem]; omega) | assumption) only [go_sem, Bool.false_eq_true, ↓sel_fineP, ↓reduceIte, Nat.reduceEqDiff, sel_y, sel_n, sel_ny, sel_nn, wrap_u64, wrap_i64, wrap_u32, min_l, h1, h5, h6, h7, hs]
          exact hlt
      · rw [if_neg (fun h => g1 h.1)] at hs
        simp -implicitDefEqProofs (disch := first | (refine fineP_go ?_; kernel_rfl) | omega | (refine of_eq_true ?_; simp (disch := first | omega | (refine of_eq_true ?_; simp only [go_sem]; done) | (simp only [go_sem]; omega)) only [go_sem]; done) | (simp only [go_sem]; omega) | assumption) only [go_sem, Bool.false_eq_true, ↓sel_fineP, ↓reduceIte, Nat.reduceEqDiff, sel_y, sel_n, sel_ny, sel_nn, wrap_u64, wrap_i64, wrap_u32, min_l, h1, h5, h6, h7, hs]
        exact hlt
    · obtain rfl : m = j := by omega
      have hok : ∀ q ∈ rfL x.ev.length fr m, ∃ a b : Nat, q = ((a : Int), (b : Int)) ∧ a < x.ev.length ∧ b < x.ev.length := by
        intro q hq
        obtain ⟨k, h1, rfl, h2, h3⟩ := mem_rfL.1 hq
        exact ⟨(gd fr k).toNat, k, by simp; omega, by omega, by omega⟩
      by_cases g : m < fr.length
      · simp -implicitDefEqProofs (disch := first | (refine fineP_go ?_; kernel_rfl) | omega | (refine of_eq_true ?_; simp (disch := first | omega | (refine of_eq_true ?_; simp only [go_sem]; done) | (simp only [go_sem]; omega)) only [go_sem]; done) | (simp only [go_sem]; omega) | assumption) only [go_sem, Bool.false_eq_true, ↓sel_fineP, ↓reduceIte, Nat.reduceEqDiff, sel_y, sel_n, sel_ny, sel_nn, wrap_u64, wrap_i64, wrap_u32, min_l, h1, h5, h6, h7, made_rfL hm]
      · simp -implicitDefEqProofs (disch := first | (refine fineP_go ?_; kernel_rfl) | omega | (refine of_eq_true ?_; simp (disch := first | omega | (refine of_eq_true ?_; simp only [go_sem]; done) | (simp only [go_sem]; omega)) only [go_sem]; done) | (simp only [go_sem]; omega) | assumption) only [go_sem, Bool.false_eq_true, ↓sel_fineP, ↓reduceIte, Nat.reduceEqDiff, sel_y, sel_n, sel_ny, sel_nn, wrap_u64, wrap_i64, wrap_u32, min_l, h1, h5, h6, h7, made_rfL hm]
  · simp -implicitDefEqProofs (disch := first | (refine fineP_go ?_; kernel_rfl) | omega | (refine of_eq_true ?_; simp (disch := first | omega | (refine of_eq_true ?_; simp only [go_sem]; done) | (simp only [go_sem]; omega)) only [go_sem]; done) | (simp only [go_sem]; omega) | assumption) only [go_sem, Bool.false_eq_true, ↓sel_fineP, ↓reduceIte, Nat.reduceEqDiff, sel_y, sel_n, sel_ny, sel_nn, wrap_u64, wrap_i64, wrap_u32, min_l, show rfL x.ev.length fr 0 = [] from rfl]
    exact ⟨rfl, rfl⟩
@[go_sem] theorem pu_rRf {x : Ex} (hx : x.ev.length ≤ 32) {fr : List Int} (hf : fr.length ≤ 1000) {K : Ka V} : @Pu Tryz.prog 118 [enc x, enc fr] K = K.k (.t (enc (rfR x.ev.length fr))) := (ref11_Rf hx hf).pu

def frQ (l : List Ev) (fr : List Int) (co : Rl) (r k : Nat) : Bool := decide (k ≠ r) &&
  ((decide (gd fr r = -1) && (decide ((gd l k).kind = 2) && decide ((gd l k).loc = (gd l r).loc))) ||
   (decide (0 ≤ gd fr r) && (decide (gd fr r < l.length) && (decide ((gd l (gd fr r).toNat).kind = 2) && has co (gd fr r).toNat k))))
theorem frQ_eq {l : List Ev} (hl : l.length ≤ 32) {fr : List Int} {co : Rl} {r k : Nat} (hr : r < fr.length) (hk : k < l.length) : frP l fr co r k = frQ l fr co r k := by
  unfold frP frQ
  rw [decide_eq_true hr, Bool.true_and]
  congr 1
  unfold behindB
  by_cases h1 : gd fr r = -1
  · rw [if_pos h1, maskB_get (by omega)]
    have : ¬ (0 : Int) ≤ -1 := by omega
    simp [h1, hk]
  · rw [if_neg h1]
    by_cases h2 : 0 ≤ gd fr r ∧ gd fr r < l.length ∧ (gd l (gd fr r).toNat).kind = 2
    · rw [if_pos h2, behindTo_get (by omega)]
      simp [h1, h2, hk]
    · rw [if_neg h2]
      simp only [BitVec.getLsbD_zero, decide_eq_false h1, Bool.false_and, Bool.false_or]
      by_cases a : 0 ≤ gd fr r <;> by_cases b : gd fr r < l.length <;> by_cases c : (gd l (gd fr r).toNat).kind = 2 <;> simp_all
      all_goals (intros; exfalso; omega)
theorem mem_pto2 {p n m} {i k : Nat} : ((i : Int), (k : Int)) ∈ pto p n m ↔ i < m ∧ k < n ∧ p i k = true := by
  rw [mem_pto]
  constructor
  · rintro ⟨a, b, e, h⟩
    simp only [Prod.mk.injEq] at e
    obtain rfl : i = a := by omega
    obtain rfl : k = b := by omega
    exact h
  · intro h; exact ⟨i, k, rfl, h⟩
theorem made_fr {l : List Ev} (hl : l.length ≤ 32) {fr : List Int} {co : Rl} {m : Nat} (hm : m = min fr.length l.length) : madeR l.length (pto (frQ l fr co) l.length m) = frR l fr co := by
  apply madeR_mk
  intro i k hi hk
  rw [mem_pto2]
  constructor
  · rintro ⟨h1, _, h2⟩; rw [frQ_eq hl (by omega) hk]; exact h2
  · intro h
    have h1 : i < fr.length := by simp only [frP, Bool.and_eq_true, decide_eq_true_eq] at h; exact h.1
    rw [frQ_eq hl h1 hk] at h
    exact ⟨by omega, hk, h⟩
theorem ref13_Fr {x : Ex} (hx : x.ev.length ≤ 32) {fr : List Int} (hf : fr.length ≤ 1000) {co : Rl} (hc : co.length = x.ev.length) : Fun Tryz.prog 69 [enc x, enc fr, enc co] (.t (enc (frR x.ev fr co))) := by
  refine Fun.go (b := false) Tryz.func69 rfl rfl (by kernel_rfl) (by kernel_rfl) ?_
  obtain ⟨m, hm⟩ : ∃ m, m = min fr.length x.ev.length := ⟨_, rfl⟩
  simp -implicitDefEqProofs (disch := first | (refine fineP_go ?_; kernel_rfl) | omega | (refine of_eq_true ?_; simp (disch := first | omega | (refine of_eq_true ?_; simp only [go_sem]; done) | (simp only [go_sem]; omega)) only [go_sem]; done) | (simp only [go_sem]; omega) | assumption) only [go_sem, Bool.false_eq_true, ↓sel_fineP, ↓reduceIte, Nat.reduceEqDiff, sel_y, sel_n, sel_ny, sel_nn, wrap_u64, wrap_i64, wrap_u32, min_l]
  refine loop_up (n := m) (fun j e H => e 1 = .t (enc fr) ∧ e 2 = .t (enc co) ∧ e 3 = .ptr 0 1 0 0 ∧ e 7 = .t (.int .i64 x.ev.length) ∧ e 8 = accV 1 (pto (frQ x.ev fr co) x.ev.length j) ∧ e 9 = .t (.int .i64 j) ∧ H = ⟨[.t (enc x)], 7, false⟩ :: accO (pto (frQ x.ev fr co) x.ev.length j)) ?_ _ _ ?_
  · rintro j e H hj ⟨h1, h2, h3, h7, h8, h9, rfl⟩
    have hp1 := pto_len32 (p := frQ x.ev fr co) (n := x.ev.length) (i := j) hx (by omega)
    by_cases hlt : j < m
    · simp -implicitDefEqProofs (disch := first | (refine fineP_go ?_; kernel_rfl) | omega | (refine of_eq_true ?_; simp (disch := first | omega | (refine of_eq_true ?_; simp only [go_sem]; done) | (simp only [go_sem]; omega)) only [go_sem]; done) | (simp only [go_sem]; omega) | assumption) only [go_sem, Bool.false_eq_true, ↓sel_fineP, ↓reduceIte, Nat.reduceEqDiff, sel_y, sel_n, sel_ny, sel_nn, wrap_u64, wrap_i64, wrap_u32, min_l, h1, h2, h3, h7, h8, h9]
      refine loop_up (n := x.ev.length) (fun k e H => e 1 = .t (enc fr) ∧ e 2 = .t (enc co) ∧ e 3 = .ptr 0 1 0 0 ∧ e 7 = .t (.int .i64 x.ev.length) ∧ e 8 = accV 1 (pto (frQ x.ev fr co) x.ev.length j ++ prow (frQ x.ev fr co) j k) ∧ e 9 = .t (.int .i64 j) ∧ e 10 = .t (.int .i64 (gd fr j)) ∧ e 11 = .t (.int .i64 k) ∧ H = ⟨[.t (enc x)], 7, false⟩ :: accO (pto (frQ x.ev fr co) x.ev.length j ++ prow (frQ x.ev fr co) j k)) ?_ _ _ ?_
      · rintro k e H hk ⟨h1, h2, h3, h7, h8, h9, h10, h11, rfl⟩
        have hrl := prow_len (frQ x.ev fr co) j k
        have hl : (pto (frQ x.ev fr co) x.ev.length j ++ prow (frQ x.ev fr co) j k).length ≤ 1100 := by rw [List.length_append]; omega
        by_cases hkl : k < x.ev.length
        · have hs := prow_succ (frQ x.ev fr co) j k
          by_cases hkj : k = j
          · rw [show frQ x.ev fr co j k = false by simp [frQ, hkj]] at hs
            rw [if_neg (by decide)] at hs
            simp -implicitDefEqProofs (disch := first | (refine fineP_go ?_; kernel_rfl) | omega | (refine of_eq_true ?_; simp (disch := first | omega | (refine of_eq_true ?_; simp only [go_sem]; done) | (simp only [go_sem]; omega)) only [go_sem]; done) | (simp only [go_sem]; omega) | assumption) only [go_sem, Bool.false_eq_true, ↓sel_fineP, ↓reduceIte, Nat.reduceEqDiff, sel_y, sel_n, sel_ny, sel_nn, wrap_u64, wrap_i64, wrap_u32, min_l, h1, h2, h3, h7, h8, h9, h10, h11, hs]
            exact hkl
          · by_cases hw : gd fr j = -1
            · by_cases c1 : (gd x.ev k).kind = 2
              · by_cases c2 : (gd x.ev k).loc = (gd x.ev j).loc
                · rw [show frQ x.ev fr co j k = true by simp [frQ, hkj, hw, c1, c2], if_pos rfl] at hs
                  simp -implicitDefEqProofs (disch := first | (refine fineP_go ?_; kernel_rfl) | omega | (refine of_eq_true ?_; simp (disch := first | omega | (refine of_eq_true ?_; simp only [go_sem]; done) | (simp only [go_sem]; omega)) only [go_sem]; done) | (simp only [go_sem]; omega) | assumption) only [go_sem, Bool.false_eq_true, ↓sel_fineP, ↓reduceIte, Nat.reduceEqDiff, sel_y, sel_n, sel_ny, sel_nn, wrap_u64, wrap_i64, wrap_u32, min_l, h1, h2, h3, h7, h8, h9, h10, h11, hw, hs, List.append_assoc]
                  exact hkl
                · rw [show frQ x.ev fr co j k = false by simp [frQ, hkj, hw, c1, c2], if_neg (by decide)] at hs
                  simp -implicitDefEqProofs (disch := first | (refine fineP_go ?_; kernel_rfl) | omega | (refine of_eq_true ?_; simp (disch := first | omega | (refine of_eq_true ?_; simp only [go_sem]; done) | (simp only [go_sem]; omega)) only [go_sem]; done) | (simp only [go_sem]; omega) | assumption) only [go_sem, Bool.false_eq_true, ↓sel_fineP, ↓reduceIte, Nat.reduceEqDiff, sel_y, sel_n, sel_ny, sel_nn, wrap_u64, wrap_i64, wrap_u32, min_l, h1, h2, h3, h7, h8, h9, h10, h11, hw, hs]
                  exact hkl
              · rw [show frQ x.ev fr co j k = false by simp [frQ, hkj, hw, c1], if_neg (by decide)] at hs
                simp -implicitDefEqProofs (disch := first | (refine fineP_go ?_; kernel_rfl) | omega | (refine of_eq_true ?_; simp (disch := first | omega | (refine of_eq_true ?_; simp only [go_sem]; done) | (simp only [go_sem]; omega)) only [go_sem]; done) | (simp only [go_sem]; omega) | assumption) only [go_sem, Bool.false_eq_true, ↓sel_fineP, ↓reduceIte, Nat.reduceEqDiff, sel_y, sel_n, sel_ny, sel_nn, wrap_u64, wrap_i64, wrap_u32, min_l, h1, h2, h3, h7, h8, h9, h10, h11, hw, hs]
                exact hkl
            · by_cases g1 : 0 ≤ gd fr j
              · by_cases g2 : gd fr j < x.ev.length
                · obtain ⟨m', hm'⟩ := Int.eq_ofNat_of_zero_le g1
                  have hmt : (gd fr j).toNat = m' := by omega
                  by_cases c1 : (gd x.ev m').kind = 2
                  · cases c2 : has co m' k
                    · rw [show frQ x.ev fr co j k = false by simp [frQ, hmt, c2, hw], if_neg (by decide)] at hs
                      simp -implicitDefEqProofs (disch := first | (refine fineP_go ?_; kernel_rfl) | omega | (refine of_eq_true ?_; simp (disch := first | omega | (refine of_eq_true ?_; simp only [go_sem]; done) | (simp only [go_sem]; omega)) only [go_sem]; done) | (simp only [go_sem]; omega) | assumption) only [go_sem, Bool.false_eq_true, ↓sel_fineP, ↓reduceIte, Nat.reduceEqDiff, sel_y, sel_n, sel_ny, sel_nn, wrap_u64, wrap_i64, wrap_u32, min_l, h1, h2, h3, h7, h8, h9, h10, h11, hm', hs, c2]
                      exact hkl
                    · rw [show frQ x.ev fr co j k = true by simp [frQ, hkj, hmt, c1, c2, g1, g2], if_pos rfl] at hs
                      simp -implicitDefEqProofs (disch := first | (refine fineP_go ?_; kernel_rfl) | omega | (refine of_eq_true ?_; simp (disch := first | omega | (refine of_eq_true ?_; simp only [go_sem]; done) | (simp only [go_sem]; omega)) only [go_sem]; done) | (simp only [go_sem]; omega) | assumption) only [go_sem, Bool.false_eq_true, ↓sel_fineP, ↓reduceIte, Nat.reduceEqDiff, sel_y, sel_n, sel_ny, sel_nn, wrap_u64, wrap_i64, wrap_u32, min_l, h1, h2, h3, h7, h8, h9, h10, h11, hm', hs, c2, List.append_assoc]
                      exact hkl
                  · rw [show frQ x.ev fr co j k = false by simp [frQ, hmt, c1, hw], if_neg (by decide)] at hs
                    simp -implicitDefEqProofs (disch := first | (refine fineP_go ?_; kernel_rfl) | omega | (refine of_eq_true ?_; simp (disch := first | omega | (refine of_eq_true ?_; simp only [go_sem]; done) | (simp only [go_sem]; omega)) only [go_sem]; done) | (simp only [go_sem]; omega) | assumption) only [go_sem, Bool.false_eq_true, ↓sel_fineP, ↓reduceIte, Nat.reduceEqDiff, sel_y, sel_n, sel_ny, sel_nn, wrap_u64, wrap_i64, wrap_u32, min_l, h1, h2, h3, h7, h8, h9, h10, h11, hm', hs]
                    exact hkl
                · rw [show frQ x.ev fr co j k = false by simp [frQ, hw, g2], if_neg (by decide)] at hs
                  simp -implicitDefEqProofs (disch := first | (refine fineP_go ?_; kernel_rfl) | omega | (refine of_eq_true ?_; simp (disch := first | omega | (refine of_eq_true ?_; simp only [go_sem]; done) | (simp only [go_sem]; omega)) only [go_sem]; done) | (simp only [go_sem]; omega) | assumption) only [go_sem, Bool.false_eq_true, ↓sel_fineP, ↓reduceIte, Nat.reduceEqDiff, sel_y, sel_n, sel_ny, sel_nn, wrap_u64, wrap_i64, wrap_u32, min_l, h1, h2, h3, h7, h8, h9, h10, h11, hs]
                  exact hkl
              · rw [show frQ x.ev fr co j k = false by simp [frQ, hw, g1], if_neg (by decide)] at hs
                simp -implicitDefEqProofs (disch := first | (refine fineP_go ?_; kernel_rfl) | omega | (refine of_eq_true ?_; simp (disch := first | omega | (refine of_eq_true ?_; simp only [go_sem]; done) | (simp only [go_sem]; omega)) only [go_sem]; done) | (simp only [go_sem]; omega) | assumption) only [go_sem, Bool.false_eq_true, ↓sel_fineP, ↓reduceIte, Nat.reduceEqDiff, sel_y, sel_n, sel_ny, sel_nn, wrap_u64, wrap_i64, wrap_u32, min_l, h1, h2, h3, h7, h8, h9, h10, h11, hs]
                exact hkl
        · obtain rfl : k = x.ev.length := by omega
          simp -implicitDefEqProofs (disch := first | (refine fineP_go ?_; kernel_rfl) | omega | (refine of_eq_true ?_; simp (disch := first | omega | (refine of_eq_true ?_; simp only [go_sem]; done) | (simp only [go_sem]; omega)) only [go_sem]; done) | (simp only [go_sem]; omega) | assumption) only [go_sem, Bool.false_eq_true, ↓sel_fineP, ↓reduceIte, Nat.reduceEqDiff, sel_y, sel_n, sel_ny, sel_nn, wrap_u64, wrap_i64, wrap_u32, min_l, h1, h2, h3, h7, h8, h9, h10, h11, pto_succ]
          exact hlt
      · simp -implicitDefEqProofs (disch := first | (refine fineP_go ?_; kernel_rfl) | omega | (refine of_eq_true ?_; simp (disch := first | omega | (refine of_eq_true ?_; simp only [go_sem]; done) | (simp only [go_sem]; omega)) only [go_sem]; done) | (simp only [go_sem]; omega) | assumption) only [go_sem, Bool.false_eq_true, ↓sel_fineP, ↓reduceIte, Nat.reduceEqDiff, sel_y, sel_n, sel_ny, sel_nn, wrap_u64, wrap_i64, wrap_u32, min_l, h1, h2, h3, h7, h8, h9, show prow (frQ x.ev fr co) j 0 = [] from rfl]
    · obtain rfl : m = j := by omega
      have hok : ∀ q ∈ pto (frQ x.ev fr co) x.ev.length m, ∃ a b : Nat, q = ((a : Int), (b : Int)) ∧ a < x.ev.length ∧ b < x.ev.length := by
        intro q hq
        obtain ⟨a, b, rfl, h2, h3, _⟩ := mem_pto.1 hq
        exact ⟨a, b, rfl, by omega, h3⟩
      by_cases g : m < x.ev.length
      · simp -implicitDefEqProofs (disch := first | (refine fineP_go ?_; kernel_rfl) | omega | (refine of_eq_true ?_; simp (disch := first | omega | (refine of_eq_true ?_; simp only [go_sem]; done) | (simp only [go_sem]; omega)) only [go_sem]; done) | (simp only [go_sem]; omega) | assumption) only [go_sem, Bool.false_eq_true, ↓sel_fineP, ↓reduceIte, Nat.reduceEqDiff, sel_y, sel_n, sel_ny, sel_nn, wrap_u64, wrap_i64, wrap_u32, min_l, h1, h2, h3, h7, h8, h9, made_fr hx hm]
      · simp -implicitDefEqProofs (disch := first | (refine fineP_go ?_; kernel_rfl) | omega | (refine of_eq_true ?_; simp (disch := first | omega | (refine of_eq_true ?_; simp only [go_sem]; done) | (simp only [go_sem]; omega)) only [go_sem]; done) | (simp only [go_sem]; omega) | assumption) only [go_sem, Bool.false_eq_true, ↓sel_fineP, ↓reduceIte, Nat.reduceEqDiff, sel_y, sel_n, sel_ny, sel_nn, wrap_u64, wrap_i64, wrap_u32, min_l, h1, h2, h3, h7, h8, h9, made_fr hx hm]
  · simp -implicitDefEqProofs (disch := first | (refine fineP_go ?_; kernel_rfl) | omega | (refine of_eq_true ?_; simp (disch := first | omega | (refine of_eq_true ?_; simp only [go_sem]; done) | (simp only [go_sem]; omega)) only [go_sem]; done) | (simp only [go_sem]; omega) | assumption) only [go_sem, Bool.false_eq_true, ↓sel_fineP, ↓reduceIte, Nat.reduceEqDiff, sel_y, sel_n, sel_ny, sel_nn, wrap_u64, wrap_i64, wrap_u32, min_l]
    exact ⟨rfl, rfl⟩
@[go_sem] theorem pu_rFr {x : Ex} (hx : x.ev.length ≤ 32) {fr : List Int} (hf : fr.length ≤ 1000) {co : Rl} (hc : co.length = x.ev.length) {K : Ka V} : @Pu Tryz.prog 69 [enc x, enc fr, enc co] K = K.k (.t (enc (frR x.ev fr co))) := (ref13_Fr hx hf hc).pu
end Go.Sim
