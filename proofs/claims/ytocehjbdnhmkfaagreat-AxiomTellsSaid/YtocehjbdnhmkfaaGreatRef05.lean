/- A part of the proof of a law of module cupola: Ref05. It has no conditions of its own. -/
import Derived.Test.YtocehjbdnhmkfaaGreatDob
set_option linter.all false
/-! Contracts of package cupolaref05. -/
namespace Go.Sim
open Enc (enc)
open Go.Proofs

theorem ref05_Size {l : Rl} (h : l.length ≤ 32) : Fun Tryz.prog 113 [enc l] (.t (.int .i64 l.length)) := by
  refine Fun.go (b := false) Tryz.func113 rfl rfl (by kernel_rfl) (by kernel_rfl) ?_
  simp -implicitDefEqProofs (disch := first | (refine fineP_go ?_; kernel_rfl) | omega | (refine of_eq_true ?_; simp (disch := first | omega | (refine of_eq_true ?_; simp only [go_sem]; done) | (simp only [go_sem]; omega)) only [go_sem]; done) | (simp only [go_sem]; omega) | assumption) only [go_sem, Bool.false_eq_true, ↓sel_fineP, ↓reduceIte, Nat.reduceEqDiff, sel_y, sel_n, sel_ny, sel_nn, wrap_u64, wrap_i64, wrap_u32, min_l]
@[go_sem] theorem pu_Size {l : Rl} (h : l.length ≤ 32) {K : Ka V} : @Pu Tryz.prog 113 [enc l] K = K.k (.t (.int .i64 l.length)) := (ref05_Size h).pu
theorem shr_shr1 (x : U32) (i : Nat) : x >>> i >>> 1 = x >>> (i + 1) := by rw [BitVec.shiftRight_add]
theorem shl_shl1 (x : U32) (i : Nat) : x <<< i <<< 1 = x <<< (i + 1) := by rw [BitVec.shiftLeft_add]
theorem ref05_bit {x : U32} {k : Nat} (hk : k ≤ 1000) : Fun Tryz.prog 121 [.int .u32 (x.toNat : Int), .int .i64 k] (.t (.bool (x.getLsbD k))) := by
  refine Fun.go (b := false) Tryz.func121 rfl rfl (by kernel_rfl) (by kernel_rfl) ?_
  simp -implicitDefEqProofs (disch := first | (refine fineP_go ?_; kernel_rfl) | omega | (refine of_eq_true ?_; simp (disch := first | omega | (refine of_eq_true ?_; simp only [go_sem]; done) | (simp only [go_sem]; omega)) only [go_sem]; done) | (simp only [go_sem]; omega) | assumption) only [go_sem, Bool.false_eq_true, ↓sel_fineP, ↓reduceIte, Nat.reduceEqDiff, sel_y, sel_n, sel_ny, sel_nn, wrap_u64, wrap_i64, wrap_u32, min_l]
  refine loop_up (n := k) (fun i e H => e 0 = .t (.int .u32 ((x >>> i).toNat : Int)) ∧ e 1 = .t (.int .i64 k) ∧ e 5 = .t (.int .i64 i)) ?_ _ _ ?_
  · rintro i e H hi ⟨h0, h1, h5⟩
    by_cases hlt : i < k
    · simp -implicitDefEqProofs (disch := first | (refine fineP_go ?_; kernel_rfl) | omega | (refine of_eq_true ?_; simp (disch := first | omega | (refine of_eq_true ?_; simp only [go_sem]; done) | (simp only [go_sem]; omega)) only [go_sem]; done) | (simp only [go_sem]; omega) | assumption) only [go_sem, Bool.false_eq_true, ↓sel_fineP, ↓reduceIte, Nat.reduceEqDiff, sel_y, sel_n, sel_ny, sel_nn, wrap_u64, wrap_i64, wrap_u32, min_l, h0, h1, h5, shr_shr1]
      exact hlt
    · obtain rfl : i = k := by omega
      simp -implicitDefEqProofs (disch := first | (refine fineP_go ?_; kernel_rfl) | omega | (refine of_eq_true ?_; simp (disch := first | omega | (refine of_eq_true ?_; simp only [go_sem]; done) | (simp only [go_sem]; omega)) only [go_sem]; done) | (simp only [go_sem]; omega) | assumption) only [go_sem, Bool.false_eq_true, ↓sel_fineP, ↓reduceIte, Nat.reduceEqDiff, sel_y, sel_n, sel_ny, sel_nn, wrap_u64, wrap_i64, wrap_u32, min_l, h0, h1, h5]
  · simp -implicitDefEqProofs (disch := first | (refine fineP_go ?_; kernel_rfl) | omega | (refine of_eq_true ?_; simp (disch := first | omega | (refine of_eq_true ?_; simp only [go_sem]; done) | (simp only [go_sem]; omega)) only [go_sem]; done) | (simp only [go_sem]; omega) | assumption) only [go_sem, Bool.false_eq_true, ↓sel_fineP, ↓reduceIte, Nat.reduceEqDiff, sel_y, sel_n, sel_ny, sel_nn, wrap_u64, wrap_i64, wrap_u32, min_l, BitVec.ushiftRight_zero]
@[go_sem] theorem pu_bit {x : U32} {k : Nat} (hk : k ≤ 1000) {K : Ka V} : @Pu Tryz.prog 121 [.int .u32 (x.toNat : Int), .int .i64 k] K = K.k (.t (.bool (x.getLsbD k))) := (ref05_bit hk).pu
theorem ref05_Has {l : Rl} (hl : l.length ≤ 32) {i k : Int} : Fun Tryz.prog 71 [enc l, .int .i64 i, .int .i64 k] (.t (.bool (hasZ l i k))) := by
  refine Fun.go (b := false) Tryz.func71 rfl rfl (by kernel_rfl) (by kernel_rfl) ?_
  by_cases h1 : 0 ≤ i
  · by_cases h2 : i < l.length
    · by_cases h3 : 0 ≤ k
      · by_cases h4 : k < l.length
        · obtain ⟨a, rfl⟩ := Int.eq_ofNat_of_zero_le h1
          obtain ⟨b, rfl⟩ := Int.eq_ofNat_of_zero_le h3
          simp -implicitDefEqProofs (disch := first | (refine fineP_go ?_; kernel_rfl) | omega | (refine of_eq_true ?_; simp (disch := first | omega | (refine of_eq_true ?_; simp only [go_sem]; done) | (simp only [go_sem]; omega)) only [go_sem]; done) | (simp only [go_sem]; omega) | assumption) only [go_sem, Bool.false_eq_true, ↓sel_fineP, ↓reduceIte, Nat.reduceEqDiff, sel_y, sel_n, sel_ny, sel_nn, wrap_u64, wrap_i64, wrap_u32, min_l, h1, h2, h3, h4]
          have e1 : a < l.length := by omega
          have e2 : b < l.length := by omega
          simp [hasZ, has, e1, e2]
        · simp -implicitDefEqProofs (disch := first | (refine fineP_go ?_; kernel_rfl) | omega | (refine of_eq_true ?_; simp (disch := first | omega | (refine of_eq_true ?_; simp only [go_sem]; done) | (simp only [go_sem]; omega)) only [go_sem]; done) | (simp only [go_sem]; omega) | assumption) only [go_sem, Bool.false_eq_true, ↓sel_fineP, ↓reduceIte, Nat.reduceEqDiff, sel_y, sel_n, sel_ny, sel_nn, wrap_u64, wrap_i64, wrap_u32, min_l, h1, h2, h3, h4]
          simp only [hasZ, h1, h3, decide_true, Bool.true_and]
          rw [has_out]; omega
      · simp -implicitDefEqProofs (disch := first | (refine fineP_go ?_; kernel_rfl) | omega | (refine of_eq_true ?_; simp (disch := first | omega | (refine of_eq_true ?_; simp only [go_sem]; done) | (simp only [go_sem]; omega)) only [go_sem]; done) | (simp only [go_sem]; omega) | assumption) only [go_sem, Bool.false_eq_true, ↓sel_fineP, ↓reduceIte, Nat.reduceEqDiff, sel_y, sel_n, sel_ny, sel_nn, wrap_u64, wrap_i64, wrap_u32, min_l, h1, h2, h3]
        simp [hasZ, h3]
    · simp -implicitDefEqProofs (disch := first | (refine fineP_go ?_; kernel_rfl) | omega | (refine of_eq_true ?_; simp (disch := first | omega | (refine of_eq_true ?_; simp only [go_sem]; done) | (simp only [go_sem]; omega)) only [go_sem]; done) | (simp only [go_sem]; omega) | assumption) only [go_sem, Bool.false_eq_true, ↓sel_fineP, ↓reduceIte, Nat.reduceEqDiff, sel_y, sel_n, sel_ny, sel_nn, wrap_u64, wrap_i64, wrap_u32, min_l, h1, h2]
      simp only [hasZ, h1, decide_true, Bool.true_and]
      rw [has_out (.inl (by omega))]; simp
  · simp -implicitDefEqProofs (disch := first | (refine fineP_go ?_; kernel_rfl) | omega | (refine of_eq_true ?_; simp (disch := first | omega | (refine of_eq_true ?_; simp only [go_sem]; done) | (simp only [go_sem]; omega)) only [go_sem]; done) | (simp only [go_sem]; omega) | assumption) only [go_sem, Bool.false_eq_true, ↓sel_fineP, ↓reduceIte, Nat.reduceEqDiff, sel_y, sel_n, sel_ny, sel_nn, wrap_u64, wrap_i64, wrap_u32, min_l, h1]
    simp [hasZ, h1]
@[go_sem] theorem pu_rHas {l : Rl} (hl : l.length ≤ 32) {i k : Int} {K : Ka V} : @Pu Tryz.prog 71 [enc l, .int .i64 i, .int .i64 k] K = K.k (.t (.bool (hasZ l i k))) := (ref05_Has hl).pu
theorem ref05_power {k : Nat} (hk : k ≤ 1000) : Fun Tryz.prog 159 [.int .i64 k] (.t (.int .u32 (((1#32 : U32) <<< k).toNat : Int))) := by
  refine Fun.go (b := false) Tryz.func159 rfl rfl (by kernel_rfl) (by kernel_rfl) ?_
  simp -implicitDefEqProofs (disch := first | (refine fineP_go ?_; kernel_rfl) | omega | (refine of_eq_true ?_; simp (disch := first | omega | (refine of_eq_true ?_; simp only [go_sem]; done) | (simp only [go_sem]; omega)) only [go_sem]; done) | (simp only [go_sem]; omega) | assumption) only [go_sem, Bool.false_eq_true, ↓sel_fineP, ↓reduceIte, Nat.reduceEqDiff, sel_y, sel_n, sel_ny, sel_nn, wrap_u64, wrap_i64, wrap_u32, min_l]
  refine loop_up (n := k) (fun i e H => e 0 = .t (.int .i64 k) ∧ e 3 = .t (.int .u32 (((1#32 : U32) <<< i).toNat : Int)) ∧ e 4 = .t (.int .i64 i)) ?_ _ _ ?_
  · rintro i e H hi ⟨h0, h3, h4⟩
    by_cases hlt : i < k
    · simp -implicitDefEqProofs (disch := first | (refine fineP_go ?_; kernel_rfl) | omega | (refine of_eq_true ?_; simp (disch := first | omega | (refine of_eq_true ?_; simp only [go_sem]; done) | (simp only [go_sem]; omega)) only [go_sem]; done) | (simp only [go_sem]; omega) | assumption) only [go_sem, Bool.false_eq_true, ↓sel_fineP, ↓reduceIte, Nat.reduceEqDiff, sel_y, sel_n, sel_ny, sel_nn, wrap_u64, wrap_i64, wrap_u32, min_l, h0, h3, h4, shl_shl1]
      exact hlt
    · obtain rfl : i = k := by omega
      simp -implicitDefEqProofs (disch := first | (refine fineP_go ?_; kernel_rfl) | omega | (refine of_eq_true ?_; simp (disch := first | omega | (refine of_eq_true ?_; simp only [go_sem]; done) | (simp only [go_sem]; omega)) only [go_sem]; done) | (simp only [go_sem]; omega) | assumption) only [go_sem, Bool.false_eq_true, ↓sel_fineP, ↓reduceIte, Nat.reduceEqDiff, sel_y, sel_n, sel_ny, sel_nn, wrap_u64, wrap_i64, wrap_u32, min_l, h0, h3, h4]
  · simp -implicitDefEqProofs (disch := first | (refine fineP_go ?_; kernel_rfl) | omega | (refine of_eq_true ?_; simp (disch := first | omega | (refine of_eq_true ?_; simp only [go_sem]; done) | (simp only [go_sem]; omega)) only [go_sem]; done) | (simp only [go_sem]; omega) | assumption) only [go_sem, Bool.false_eq_true, ↓sel_fineP, ↓reduceIte, Nat.reduceEqDiff, sel_y, sel_n, sel_ny, sel_nn, wrap_u64, wrap_i64, wrap_u32, min_l, BitVec.shiftLeft_zero]
@[go_sem] theorem pu_power {k : Nat} (hk : k ≤ 1000) {K : Ka V} : @Pu Tryz.prog 159 [.int .i64 k] K = K.k (.t (.int .u32 (((1#32 : U32) <<< k).toNat : Int))) := (ref05_power hk).pu

/-- The relation of some pairs. -/
def madeR (n : Nat) (l : List (Int × Int)) : Rl := mk n fun i k => l.any fun p => decide (p.1 = (i : Int)) && decide (p.2 = (k : Int))
@[go_sem] theorem madeR_len (n l) : (madeR n l).length = n := by simp [madeR, mk_len]
theorem madeR_step {n : Nat} (hn : n ≤ 32) {l : List (Int × Int)} {a b : Nat} (ha : a < n) (hb : b < n) :
    madeR n (l ++ [((a : Int), (b : Int))]) = if has (madeR n l) a b then madeR n l else (madeR n l).set a (gd (madeR n l) a + 1#32 <<< b) := by
  have hh : has (madeR n l) a b = l.any fun p => decide (p.1 = (a : Int)) && decide (p.2 = (b : Int)) := has_mk' hn ha hb
  cases hc : has (madeR n l) a b
  · simp only [Bool.false_eq_true, if_false]
    symm
    apply mk_has (by rw [List.length_set, madeR_len])
    intro i k hi
    have hab : (gd (madeR n l) a).getLsbD b = false := by
      rw [has_true (by rw [madeR_len]; exact ha) (by rw [madeR_len]; exact hb)] at hc; exact hc
    by_cases h : i = a
    · subst h
      rw [gd_set_eq (by rw [madeR_len]; exact hi), add_bit hab, BitVec.getLsbD_or, madeR, mk_gd hi, rowB_get, BitVec.getLsbD_shiftLeft, List.any_append]
      by_cases hk : k < n
      · have hk32 : k < 32 := by omega
        by_cases hkb : k = b
        · subst hkb; simp [hk, hk32]
        · by_cases h2 : k < b
          · have : ¬ (b : Int) = (k : Int) := by omega
            simp [hk, hk32, h2, this]
          · have e1 : k - b ≠ 0 := by omega
            have : ¬ (b : Int) = (k : Int) := by omega
            simp [hk, hk32, h2, e1, this]
      · have : k - b ≠ 0 := by omega
        simp [hk, this]
    · rw [gd_set_ne (fun e => h e.symm), madeR, mk_gd hi, rowB_get, List.any_append]
      have : ¬ (a : Int) = (i : Int) := by omega
      by_cases hk : k < n
      · have hk32 : k < 32 := by omega
        simp [hk, hk32, this]
      · simp [hk]
  · simp only [if_true]
    unfold madeR
    apply mk_ext
    intro i k hi hk
    rw [List.any_append]
    by_cases h1 : (a : Int) = (i : Int)
    · by_cases h2 : (b : Int) = (k : Int)
      · obtain rfl : a = i := by omega
        obtain rfl : b = k := by omega
        rw [hc] at hh
        rw [← hh]; simp
      · simp [h2]
    · simp [h1]
theorem ref05_Made {n : Nat} (hn : n ≤ 32) {l : List (Int × Int)} (hl : l.length ≤ 1000000) (hr : ∀ p ∈ l, ∃ a b : Nat, p = ((a : Int), (b : Int)) ∧ a < n ∧ b < n) : Fun Tryz.prog 115 [.int .i64 n, enc l] (.t (enc (madeR n l))) := by
  refine Fun.go (b := false) Tryz.func115 rfl rfl (by kernel_rfl) (by kernel_rfl) ?_
  simp -implicitDefEqProofs (disch := first | (refine fineP_go ?_; kernel_rfl) | omega | (refine of_eq_true ?_; simp (disch := first | omega | (refine of_eq_true ?_; simp only [go_sem]; done) | (simp only [go_sem]; omega)) only [go_sem]; done) | (simp only [go_sem]; omega) | assumption) only [go_sem, Bool.false_eq_true, ↓sel_fineP, ↓reduceIte, Nat.reduceEqDiff, sel_y, sel_n, sel_ny, sel_nn, wrap_u64, wrap_i64, wrap_u32, min_l]
  refine loop_up (n := l.length) (fun j e H => e 1 = .t (enc l) ∧ e 5 = .ref 0 n ∧ e 6 = .t (.int .i64 j) ∧ H = [⟨vs (madeR n (l.take j)), 1, false⟩]) ?_ _ _ ?_
  · rintro j e H hj ⟨h1, h5, h6, rfl⟩
    by_cases hlt : j < l.length
    · obtain ⟨a, b, hab, ha, hb⟩ := hr _ (gd_mem hlt)
      have hstep := madeR_step hn (l := l.take j) ha hb
      rw [← hab, take_gd hlt] at hstep
      have hz : hasZ (madeR n (l.take j)) a b = has (madeR n (l.take j)) a b := by simp [hasZ]
      cases hc : has (madeR n (l.take j)) a b
      · rw [hc, if_neg (by decide)] at hstep
        simp -implicitDefEqProofs (disch := first | (refine fineP_go ?_; kernel_rfl) | omega | (refine of_eq_true ?_; simp (disch := first | omega | (refine of_eq_true ?_; simp only [go_sem]; done) | (simp only [go_sem]; omega)) only [go_sem]; done) | (simp only [go_sem]; omega) | assumption) only [go_sem, Bool.false_eq_true, ↓sel_fineP, ↓reduceIte, Nat.reduceEqDiff, sel_y, sel_n, sel_ny, sel_nn, wrap_u64, wrap_i64, wrap_u32, min_l, h1, h5, h6, hab, hz, hc, hstep]
        exact hlt
      · rw [hc, if_pos rfl] at hstep
        simp -implicitDefEqProofs (disch := first | (refine fineP_go ?_; kernel_rfl) | omega | (refine of_eq_true ?_; simp (disch := first | omega | (refine of_eq_true ?_; simp only [go_sem]; done) | (simp only [go_sem]; omega)) only [go_sem]; done) | (simp only [go_sem]; omega) | assumption) only [go_sem, Bool.false_eq_true, ↓sel_fineP, ↓reduceIte, Nat.reduceEqDiff, sel_y, sel_n, sel_ny, sel_nn, wrap_u64, wrap_i64, wrap_u32, min_l, h1, h5, h6, hab, hz, hc, hstep]
        exact hlt
    · obtain rfl : j = l.length := by omega
      simp -implicitDefEqProofs (disch := first | (refine fineP_go ?_; kernel_rfl) | omega | (refine of_eq_true ?_; simp (disch := first | omega | (refine of_eq_true ?_; simp only [go_sem]; done) | (simp only [go_sem]; omega)) only [go_sem]; done) | (simp only [go_sem]; omega) | assumption) only [go_sem, Bool.false_eq_true, ↓sel_fineP, ↓reduceIte, Nat.reduceEqDiff, sel_y, sel_n, sel_ny, sel_nn, wrap_u64, wrap_i64, wrap_u32, min_l, h1, h5, h6, List.take_length]
  · simp -implicitDefEqProofs (disch := first | (refine fineP_go ?_; kernel_rfl) | omega | (refine of_eq_true ?_; simp (disch := first | omega | (refine of_eq_true ?_; simp only [go_sem]; done) | (simp only [go_sem]; omega)) only [go_sem]; done) | (simp only [go_sem]; omega) | assumption) only [go_sem, Bool.false_eq_true, ↓sel_fineP, ↓reduceIte, Nat.reduceEqDiff, sel_y, sel_n, sel_ny, sel_nn, wrap_u64, wrap_i64, wrap_u32, min_l]
    have e : List.replicate n 0#32 = madeR n [] := by
      apply mk_has (by simp)
      intro i k hi
      rw [gd_rep hi]; simp
    rw [e]

@[go_sem] theorem pu_Made {n : Nat} (hn : n ≤ 32) {l : List (Int × Int)} (hl : l.length ≤ 1000000) (hr : ∀ p ∈ l, ∃ a b : Nat, p = ((a : Int), (b : Int)) ∧ a < n ∧ b < n) {K : Ka V} : @Pu Tryz.prog 115 [.int .i64 n, enc l] K = K.k (.t (enc (madeR n l))) := (ref05_Made hn hl hr).pu
theorem madeR_mk {n : Nat} {l : List (Int × Int)} {q : Nat → Nat → Bool} (h : ∀ i k, i < n → k < n → (((i : Int), (k : Int)) ∈ l ↔ q i k = true)) : madeR n l = mk n q := by
  apply mk_ext
  intro i k hi hk
  rw [Bool.eq_iff_iff, ← h i k hi hk, List.any_eq_true]
  constructor
  · rintro ⟨p, hp, he⟩
    simp only [Bool.and_eq_true, decide_eq_true_eq] at he
    obtain ⟨a, b⟩ := p
    simp only at he
    rw [← he.1, ← he.2]; exact hp
  · intro hp; exact ⟨_, hp, by simp⟩
/-- Pairs of which something is true: of one row; of some rows. -/
def prow (p : Nat → Nat → Bool) (i j : Nat) : List (Int × Int) := ((List.range j).filter (p i)).map fun (k : Nat) => ((i : Int), (k : Int))
def pto (p : Nat → Nat → Bool) (n i : Nat) : List (Int × Int) := (List.range i).flatMap fun i => prow p i n
theorem prow_succ (p i j) : prow p i (j + 1) = if p i j then prow p i j ++ [((i : Int), (j : Int))] else prow p i j := by
  unfold prow
  rw [List.range_succ, List.filter_append, List.map_append]
  cases h : p i j <;> simp [h]
theorem pto_succ (p n i) : pto p n (i + 1) = pto p n i ++ prow p i n := by simp [pto, List.range_succ, List.flatMap_append]
theorem prow_len (p i j) : (prow p i j).length ≤ j := by
  unfold prow
  rw [List.length_map]
  exact Nat.le_trans (List.length_filter_le _ _) (by simp)
theorem pto_len (p n i) : (pto p n i).length ≤ i * n := by
  induction i with
  | zero => simp [pto]
  | succ i ih => rw [pto_succ, List.length_append, Nat.succ_mul]; have := prow_len p i n; omega
theorem pto_len32 {p n i} (hn : n ≤ 32) (hi : i ≤ 32) : (pto p n i).length ≤ 1024 := by
  have := pto_len p n i
  have := Nat.mul_le_mul hi hn
  omega
theorem mem_pto {p n m} {q : Int × Int} : q ∈ pto p n m ↔ ∃ i k : Nat, q = ((i : Int), (k : Int)) ∧ i < m ∧ k < n ∧ p i k = true := by
  simp only [pto, prow, List.mem_flatMap, List.mem_range, List.mem_map, List.mem_filter]
  constructor
  · rintro ⟨i, h1, k, ⟨h2, h⟩, rfl⟩; exact ⟨i, k, rfl, h1, h2, h⟩
  · rintro ⟨i, k, rfl, h1, h2, h⟩; exact ⟨i, h1, k, ⟨h2, h⟩, rfl⟩
theorem pto_all (a : Rl) : pto (has a) a.length a.length = pairsR a := rfl
theorem made_pto {n : Nat} {p : Nat → Nat → Bool} : madeR n (pto p n n) = mk n p := by
  apply madeR_mk
  intro i k hi hk
  rw [mem_pto]
  constructor
  · rintro ⟨a, b, e, _, _, h⟩
    simp only [Prod.mk.injEq] at e
    obtain rfl : i = a := by omega
    obtain rfl : k = b := by omega
    exact h
  · intro h; exact ⟨i, k, rfl, hi, hk, h⟩
theorem pto_ok {n : Nat} {p : Nat → Nat → Bool} : ∀ q ∈ pto p n n, ∃ a b : Nat, q = ((a : Int), (b : Int)) ∧ a < n ∧ b < n := by
  intro q hq
  obtain ⟨a, b, h1, h2, h3, _⟩ := mem_pto.1 hq
  exact ⟨a, b, h1, h2, h3⟩
theorem pairs_ok {a : Rl} {n : Nat} (h : a.length = n) : ∀ q ∈ pairsR a, ∃ i k : Nat, q = ((i : Int), (k : Int)) ∧ i < n ∧ k < n := by
  intro q hq
  obtain ⟨i, k, h1, h2⟩ := mem_pairsR.1 hq
  have := has_lt h2
  exact ⟨i, k, h1, by omega, by omega⟩
theorem mem_pair {a : Rl} {i k : Nat} : ((i : Int), (k : Int)) ∈ pairsR a ↔ has a i k = true := by
  rw [mem_pairsR]
  constructor
  · rintro ⟨x, y, e, h⟩
    simp only [Prod.mk.injEq] at e
    obtain rfl : i = x := by omega
    obtain rfl : k = y := by omega
    exact h
  · intro h; exact ⟨i, k, rfl, h⟩
theorem hasZ_nat (a : Rl) (i k : Nat) : hasZ a (i : Int) (k : Int) = has a i k := by simp [hasZ]
attribute [go_sem] hasZ_nat

/-- What may be written, handed back. -/
def frV (l : List (Int × Int)) : V := if l.isEmpty then .ex [] else .fr 2 false (l.map enc)
theorem ref05_Pairs {a : Rl} (ha : a.length ≤ 32) : Fun Tryz.prog 70 [enc a] (frV (pairsR a)) := by
  refine Fun.go (b := true) Tryz.func70 rfl rfl (by kernel_rfl) (by kernel_rfl) ?_
  simp -implicitDefEqProofs (disch := first | (refine fineP_go ?_; kernel_rfl) | omega | (refine of_eq_true ?_; simp (disch := first | omega | (refine of_eq_true ?_; simp only [go_sem]; done) | (simp only [go_sem]; omega)) only [go_sem]; done) | (simp only [go_sem]; omega) | assumption) only [go_sem, Bool.false_eq_true, ↓sel_fineP, ↓reduceIte, Nat.reduceEqDiff, sel_y, sel_n, sel_ny, sel_nn, wrap_u64, wrap_i64, wrap_u32, min_l]
  refine loop_up (n := a.length) (fun i e H => e 0 = .t (enc a) ∧ e 3 = accV 0 (pto (has a) a.length i) ∧ e 4 = .t (.int .i64 a.length) ∧ e 5 = .t (.int .i64 i) ∧ H = accO (pto (has a) a.length i)) ?_ _ _ ?_
  · rintro i e H hi ⟨h0, h3, h4, h5, rfl⟩
    by_cases hlt : i < a.length
    · have hp1 := pto_len32 (p := has a) (n := a.length) (i := i) ha (by omega)
      simp -implicitDefEqProofs (disch := first | (refine fineP_go ?_; kernel_rfl) | omega | (refine of_eq_true ?_; simp (disch := first | omega | (refine of_eq_true ?_; simp only [go_sem]; done) | (simp only [go_sem]; omega)) only [go_sem]; done) | (simp only [go_sem]; omega) | assumption) only [go_sem, Bool.false_eq_true, ↓sel_fineP, ↓reduceIte, Nat.reduceEqDiff, sel_y, sel_n, sel_ny, sel_nn, wrap_u64, wrap_i64, wrap_u32, min_l, h0, h3, h4, h5]
      refine loop_up (n := a.length) (fun k e H => e 0 = .t (enc a) ∧ e 3 = accV 0 (pto (has a) a.length i ++ prow (has a) i k) ∧ e 4 = .t (.int .i64 a.length) ∧ e 5 = .t (.int .i64 i) ∧ e 6 = .t (.int .i64 k) ∧ H = accO (pto (has a) a.length i ++ prow (has a) i k)) ?_ _ _ ?_
      · rintro k e H hk ⟨h0, h3, h4, h5, h6, rfl⟩
        by_cases hkl : k < a.length
        · have hr := prow_succ (has a) i k
          have hrl := prow_len (has a) i k
          have hl : (pto (has a) a.length i ++ prow (has a) i k).length ≤ 1100 := by rw [List.length_append]; omega
          cases hx : has a i k
          · rw [hx] at hr
            simp -implicitDefEqProofs (disch := first | (refine fineP_go ?_; kernel_rfl) | omega | (refine of_eq_true ?_; simp (disch := first | omega | (refine of_eq_true ?_; simp only [go_sem]; done) | (simp only [go_sem]; omega)) only [go_sem]; done) | (simp only [go_sem]; omega) | assumption) only [go_sem, Bool.false_eq_true, ↓sel_fineP, ↓reduceIte, Nat.reduceEqDiff, sel_y, sel_n, sel_ny, sel_nn, wrap_u64, wrap_i64, wrap_u32, min_l, h0, h3, h4, h5, h6, hx, hr]
            exact hkl
          · rw [hx] at hr
            simp -implicitDefEqProofs (disch := first | (refine fineP_go ?_; kernel_rfl) | omega | (refine of_eq_true ?_; simp (disch := first | omega | (refine of_eq_true ?_; simp only [go_sem]; done) | (simp only [go_sem]; omega)) only [go_sem]; done) | (simp only [go_sem]; omega) | assumption) only [go_sem, Bool.false_eq_true, ↓sel_fineP, ↓reduceIte, Nat.reduceEqDiff, sel_y, sel_n, sel_ny, sel_nn, wrap_u64, wrap_i64, wrap_u32, min_l, h0, h3, h4, h5, h6, hx, hr, List.append_assoc]
            exact hkl
        · obtain rfl : k = a.length := by omega
          simp -implicitDefEqProofs (disch := first | (refine fineP_go ?_; kernel_rfl) | omega | (refine of_eq_true ?_; simp (disch := first | omega | (refine of_eq_true ?_; simp only [go_sem]; done) | (simp only [go_sem]; omega)) only [go_sem]; done) | (simp only [go_sem]; omega) | assumption) only [go_sem, Bool.false_eq_true, ↓sel_fineP, ↓reduceIte, Nat.reduceEqDiff, sel_y, sel_n, sel_ny, sel_nn, wrap_u64, wrap_i64, wrap_u32, min_l, h0, h3, h4, h5, h6, pto_succ]
          exact hlt
      · simp -implicitDefEqProofs (disch := first | (refine fineP_go ?_; kernel_rfl) | omega | (refine of_eq_true ?_; simp (disch := first | omega | (refine of_eq_true ?_; simp only [go_sem]; done) | (simp only [go_sem]; omega)) only [go_sem]; done) | (simp only [go_sem]; omega) | assumption) only [go_sem, Bool.false_eq_true, ↓sel_fineP, ↓reduceIte, Nat.reduceEqDiff, sel_y, sel_n, sel_ny, sel_nn, wrap_u64, wrap_i64, wrap_u32, min_l, h0, h3, h4, h5, show prow (has a) i 0 = [] from rfl]
    · obtain rfl : i = a.length := by omega
      simp -implicitDefEqProofs (disch := first | (refine fineP_go ?_; kernel_rfl) | omega | (refine of_eq_true ?_; simp (disch := first | omega | (refine of_eq_true ?_; simp only [go_sem]; done) | (simp only [go_sem]; omega)) only [go_sem]; done) | (simp only [go_sem]; omega) | assumption) only [go_sem, Bool.false_eq_true, ↓sel_fineP, ↓reduceIte, Nat.reduceEqDiff, sel_y, sel_n, sel_ny, sel_nn, wrap_u64, wrap_i64, wrap_u32, min_l, h0, h3, h4, h5, pto_all]
      unfold frV
      cases he : (pairsR a).isEmpty
      · exact acc_expV_n (R := []) he
      · exact acc_expV_e he
  · simp -implicitDefEqProofs (disch := first | (refine fineP_go ?_; kernel_rfl) | omega | (refine of_eq_true ?_; simp (disch := first | omega | (refine of_eq_true ?_; simp only [go_sem]; done) | (simp only [go_sem]; omega)) only [go_sem]; done) | (simp only [go_sem]; omega) | assumption) only [go_sem, Bool.false_eq_true, ↓sel_fineP, ↓reduceIte, Nat.reduceEqDiff, sel_y, sel_n, sel_ny, sel_nn, wrap_u64, wrap_i64, wrap_u32, min_l]
    exact ⟨rfl, rfl⟩
theorem pu_rPairs_n {a : Rl} (ha : a.length ≤ 32) (h : (pairsR a).isEmpty = false) {K : Ka V} : @Pu Tryz.prog 70 [enc a] K = K.k (.fr 2 false ((pairsR a).map enc)) := by
  rw [(ref05_Pairs ha).pu, frV, h]; rfl
theorem pu_rPairs_e {a : Rl} (ha : a.length ≤ 32) (h : pairsR a = []) {K : Ka V} : @Pu Tryz.prog 70 [enc a] K = K.k (.ex []) := by
  rw [(ref05_Pairs ha).pu, frV, h]; rfl
theorem pairs_nil {a : Rl} (h : (pairsR a).isEmpty = true) : pairsR a = [] := by simpa using h

theorem ref05_Or {a b : Rl} (ha : a.length ≤ 32) (hb : b.length = a.length) : Fun Tryz.prog 62 [enc a, enc b] (.t (enc (orR a b))) := by
  refine Fun.go (b := false) Tryz.func62 rfl rfl (by kernel_rfl) (by kernel_rfl) ?_
  have h1 := pairsR_len a ha
  have h2 := pairsR_len b (by omega)
  have h3 : ∀ q ∈ pairsR a ++ pairsR b, ∃ i k : Nat, q = ((i : Int), (k : Int)) ∧ i < a.length ∧ k < a.length := by
    intro q hq
    rcases List.mem_append.1 hq with hq | hq
    · exact pairs_ok rfl q hq
    · exact pairs_ok hb q hq
  have e : madeR a.length (pairsR a ++ pairsR b) = orR a b := madeR_mk fun i k hi hk => by rw [List.mem_append, mem_pair, mem_pair]; simp
  have n0 : ∀ (q : Int × Int), q ∈ ([] : List (Int × Int)) → ∃ i k : Nat, q = ((i : Int), (k : Int)) ∧ i < a.length ∧ k < a.length := fun q h => nomatch h
  cases hp : (pairsR a).isEmpty
  · cases hq : (pairsR b).isEmpty
    · have hpv : (vs (pairsR a)).isEmpty = false := by rw [← hp]; simp [vs]
      have hqv : (vs (pairsR b)).isEmpty = false := by rw [← hq]; simp [vs]
      simp -implicitDefEqProofs (disch := first | (refine fineP_go ?_; kernel_rfl) | omega | (refine of_eq_true ?_; simp (disch := first | omega | (refine of_eq_true ?_; simp only [go_sem, fun K => pu_rPairs_n ha hp (K := K), fun K => pu_rPairs_n (a := b) (by omega) hq (K := K), map_t_enc, hpv, hqv, e]; done) | (simp only [go_sem, fun K => pu_rPairs_n ha hp (K := K), fun K => pu_rPairs_n (a := b) (by omega) hq (K := K), map_t_enc, hpv, hqv, e]; omega)) only [go_sem, fun K => pu_rPairs_n ha hp (K := K), fun K => pu_rPairs_n (a := b) (by omega) hq (K := K), map_t_enc, hpv, hqv, e]; done) | (simp only [go_sem, fun K => pu_rPairs_n ha hp (K := K), fun K => pu_rPairs_n (a := b) (by omega) hq (K := K), map_t_enc, hpv, hqv, e]; omega) | assumption) only [go_sem, Bool.false_eq_true, ↓sel_fineP, ↓reduceIte, Nat.reduceEqDiff, sel_y, sel_n, sel_ny, sel_nn, wrap_u64, wrap_i64, wrap_u32, min_l, fun K => pu_rPairs_n ha hp (K := K), fun K => pu_rPairs_n (a := b) (by omega) hq (K := K), map_t_enc, hpv, hqv, e]
    · have hpv : (vs (pairsR a)).isEmpty = false := by rw [← hp]; simp [vs]
      rw [pairs_nil hq, List.append_nil] at e
      have h3' := h3
      rw [pairs_nil hq, List.append_nil] at h3'
      simp -implicitDefEqProofs (disch := first | (refine fineP_go ?_; kernel_rfl) | omega | (refine of_eq_true ?_; simp (disch := first | omega | (refine of_eq_true ?_; simp only [go_sem, fun K => pu_rPairs_n ha hp (K := K), fun K => pu_rPairs_e (a := b) (by omega) (pairs_nil hq) (K := K), map_t_enc, hpv, e]; done) | (simp only [go_sem, fun K => pu_rPairs_n ha hp (K := K), fun K => pu_rPairs_e (a := b) (by omega) (pairs_nil hq) (K := K), map_t_enc, hpv, e]; omega)) only [go_sem, fun K => pu_rPairs_n ha hp (K := K), fun K => pu_rPairs_e (a := b) (by omega) (pairs_nil hq) (K := K), map_t_enc, hpv, e]; done) | (simp only [go_sem, fun K => pu_rPairs_n ha hp (K := K), fun K => pu_rPairs_e (a := b) (by omega) (pairs_nil hq) (K := K), map_t_enc, hpv, e]; omega) | assumption) only [go_sem, Bool.false_eq_true, ↓sel_fineP, ↓reduceIte, Nat.reduceEqDiff, sel_y, sel_n, sel_ny, sel_nn, wrap_u64, wrap_i64, wrap_u32, min_l, fun K => pu_rPairs_n ha hp (K := K), fun K => pu_rPairs_e (a := b) (by omega) (pairs_nil hq) (K := K), map_t_enc, hpv, e]
  · rw [pairs_nil hp, List.nil_append] at e h3
    cases hq : (pairsR b).isEmpty
    · have hqv : (vs (pairsR b)).isEmpty = false := by rw [← hq]; simp [vs]
      simp -implicitDefEqProofs (disch := first | (refine fineP_go ?_; kernel_rfl) | omega | (refine of_eq_true ?_; simp (disch := first | omega | (refine of_eq_true ?_; simp only [go_sem, fun K => pu_rPairs_e ha (pairs_nil hp) (K := K), fun K => pu_rPairs_n (a := b) (by omega) hq (K := K), map_t_enc, hqv, e]; done) | (simp only [go_sem, fun K => pu_rPairs_e ha (pairs_nil hp) (K := K), fun K => pu_rPairs_n (a := b) (by omega) hq (K := K), map_t_enc, hqv, e]; omega)) only [go_sem, fun K => pu_rPairs_e ha (pairs_nil hp) (K := K), fun K => pu_rPairs_n (a := b) (by omega) hq (K := K), map_t_enc, hqv, e]; done) | (simp only [go_sem, fun K => pu_rPairs_e ha (pairs_nil hp) (K := K), fun K => pu_rPairs_n (a := b) (by omega) hq (K := K), map_t_enc, hqv, e]; omega) | assumption) only [go_sem, Bool.false_eq_true, ↓sel_fineP, ↓reduceIte, Nat.reduceEqDiff, sel_y, sel_n, sel_ny, sel_nn, wrap_u64, wrap_i64, wrap_u32, min_l, fun K => pu_rPairs_e ha (pairs_nil hp) (K := K), fun K => pu_rPairs_n (a := b) (by omega) hq (K := K), map_t_enc, hqv, e]
    · rw [pairs_nil hq] at e h3
      simp -implicitDefEqProofs (disch := first | (refine fineP_go ?_; kernel_rfl) | omega | (refine of_eq_true ?_; simp (disch := first | omega | (refine of_eq_true ?_; simp only [go_sem, fun K => pu_rPairs_e ha (pairs_nil hp) (K := K), fun K => pu_rPairs_e (a := b) (by omega) (pairs_nil hq) (K := K), e]; done) | (simp only [go_sem, fun K => pu_rPairs_e ha (pairs_nil hp) (K := K), fun K => pu_rPairs_e (a := b) (by omega) (pairs_nil hq) (K := K), e]; omega)) only [go_sem, fun K => pu_rPairs_e ha (pairs_nil hp) (K := K), fun K => pu_rPairs_e (a := b) (by omega) (pairs_nil hq) (K := K), e]; done) | (simp only [go_sem, fun K => pu_rPairs_e ha (pairs_nil hp) (K := K), fun K => pu_rPairs_e (a := b) (by omega) (pairs_nil hq) (K := K), e]; omega) | assumption) only [go_sem, Bool.false_eq_true, ↓sel_fineP, ↓reduceIte, Nat.reduceEqDiff, sel_y, sel_n, sel_ny, sel_nn, wrap_u64, wrap_i64, wrap_u32, min_l, fun K => pu_rPairs_e ha (pairs_nil hp) (K := K), fun K => pu_rPairs_e (a := b) (by omega) (pairs_nil hq) (K := K), e]
@[go_sem] theorem pu_rOr {a b : Rl} (ha : a.length ≤ 32) (hb : b.length = a.length) {K : Ka V} : @Pu Tryz.prog 62 [enc a, enc b] K = K.k (.t (enc (orR a b))) := (ref05_Or ha hb).pu

theorem filt_step {α : Type} [Enc α] {l : List α} {f : α → Bool} {j : Nat} (h : j < l.length) : (l.take (j + 1)).filter f = if f (gd l j) then (l.take j).filter f ++ [gd l j] else (l.take j).filter f := by
  rw [← take_gd h, List.filter_append]
  cases hf : f (gd l j) <;> simp [hf]
theorem filt_len {α : Type} {l : List α} {f : α → Bool} {j : Nat} : ((l.take j).filter f).length ≤ l.length := Nat.le_trans (List.length_filter_le _ _) (by simp; omega)

theorem ref05_And {a b : Rl} (ha : a.length ≤ 32) (hb : b.length = a.length) : Fun Tryz.prog 116 [enc a, enc b] (.t (enc (andR a b))) := by
  refine Fun.go (b := false) Tryz.func116 rfl rfl (by kernel_rfl) (by kernel_rfl) ?_
  have h1 := pairsR_len a ha
  cases hp : (pairsR a).isEmpty
  case true =>
    have e : madeR a.length [] = andR a b := madeR_mk fun i k hi hk => by
      have : has a i k = false := by
        cases hh : has a i k
        · rfl
        · have := mem_pair.2 hh; rw [pairs_nil hp] at this; cases this
      simp [this]
    have n0 : ∀ (q : Int × Int), q ∈ ([] : List (Int × Int)) → ∃ i k : Nat, q = ((i : Int), (k : Int)) ∧ i < a.length ∧ k < a.length := fun q h => nomatch h
    simp -implicitDefEqProofs (disch := first | (refine fineP_go ?_; kernel_rfl) | omega | (refine of_eq_true ?_; simp (disch := first | omega | (refine of_eq_true ?_; simp only [go_sem, fun K => pu_rPairs_e ha (pairs_nil hp) (K := K)]; done) | (simp only [go_sem, fun K => pu_rPairs_e ha (pairs_nil hp) (K := K)]; omega)) only [go_sem, fun K => pu_rPairs_e ha (pairs_nil hp) (K := K)]; done) | (simp only [go_sem, fun K => pu_rPairs_e ha (pairs_nil hp) (K := K)]; omega) | assumption) only [go_sem, Bool.false_eq_true, ↓sel_fineP, ↓reduceIte, Nat.reduceEqDiff, sel_y, sel_n, sel_ny, sel_nn, wrap_u64, wrap_i64, wrap_u32, min_l, fun K => pu_rPairs_e ha (pairs_nil hp) (K := K)]
    rw [e_loop]
    simp -implicitDefEqProofs (disch := first | (refine fineP_go ?_; kernel_rfl) | omega | (refine of_eq_true ?_; simp (disch := first | omega | (refine of_eq_true ?_; simp only [go_sem]; done) | (simp only [go_sem]; omega)) only [go_sem]; done) | (simp only [go_sem]; omega) | assumption) only [go_sem, Bool.false_eq_true, ↓sel_fineP, ↓reduceIte, Nat.reduceEqDiff, sel_y, sel_n, sel_ny, sel_nn, wrap_u64, wrap_i64, wrap_u32, min_l, e]
  simp -implicitDefEqProofs (disch := first | (refine fineP_go ?_; kernel_rfl) | omega | (refine of_eq_true ?_; simp (disch := first | omega | (refine of_eq_true ?_; simp only [go_sem, fun K => pu_rPairs_n ha hp (K := K), map_t_enc]; done) | (simp only [go_sem, fun K => pu_rPairs_n ha hp (K := K), map_t_enc]; omega)) only [go_sem, fun K => pu_rPairs_n ha hp (K := K), map_t_enc]; done) | (simp only [go_sem, fun K => pu_rPairs_n ha hp (K := K), map_t_enc]; omega) | assumption) only [go_sem, Bool.false_eq_true, ↓sel_fineP, ↓reduceIte, Nat.reduceEqDiff, sel_y, sel_n, sel_ny, sel_nn, wrap_u64, wrap_i64, wrap_u32, min_l, fun K => pu_rPairs_n ha hp (K := K), map_t_enc]
  refine loop_up (n := (pairsR a).length) (fun j e H => e 0 = .t (enc a) ∧ e 1 = .t (enc b) ∧ e 5 = accV 1 (((pairsR a).take j).filter fun p => hasZ b p.1 p.2) ∧ e 6 = .ref 0 (pairsR a).length ∧ e 7 = .t (.int .i64 j) ∧ H = ⟨vs (pairsR a), 2, false⟩ :: accO (((pairsR a).take j).filter fun p => hasZ b p.1 p.2)) ?_ _ _ ?_
  · rintro j e H hj ⟨g0, g1, g5, g6, g7, rfl⟩
    have hfl := filt_len (l := pairsR a) (f := fun p => hasZ b p.1 p.2) (j := j)
    by_cases hlt : j < (pairsR a).length
    · have hs := filt_step (f := fun p => hasZ b p.1 p.2) hlt
      cases hx : hasZ b (gd (pairsR a) j).1 (gd (pairsR a) j).2
      · simp only [hx, Bool.false_eq_true, if_false] at hs
        simp -implicitDefEqProofs (disch := first | (refine fineP_go ?_; kernel_rfl) | omega | (refine of_eq_true ?_; simp (disch := first | omega | (refine of_eq_true ?_; simp only [go_sem]; done) | (simp only [go_sem]; omega)) only [go_sem]; done) | (simp only [go_sem]; omega) | assumption) only [go_sem, Bool.false_eq_true, ↓sel_fineP, ↓reduceIte, Nat.reduceEqDiff, sel_y, sel_n, sel_ny, sel_nn, wrap_u64, wrap_i64, wrap_u32, min_l, g0, g1, g5, g6, g7, hx, hs]
        exact hlt
      · simp only [hx, if_true] at hs
        simp -implicitDefEqProofs (disch := first | (refine fineP_go ?_; kernel_rfl) | omega | (refine of_eq_true ?_; simp (disch := first | omega | (refine of_eq_true ?_; simp only [go_sem]; done) | (simp only [go_sem]; omega)) only [go_sem]; done) | (simp only [go_sem]; omega) | assumption) only [go_sem, Bool.false_eq_true, ↓sel_fineP, ↓reduceIte, Nat.reduceEqDiff, sel_y, sel_n, sel_ny, sel_nn, wrap_u64, wrap_i64, wrap_u32, min_l, g0, g1, g5, g6, g7, hx, hs]
        exact hlt
    · obtain rfl : j = (pairsR a).length := by omega
      have h3 : ∀ q ∈ (pairsR a).filter (fun p => hasZ b p.1 p.2), ∃ i k : Nat, q = ((i : Int), (k : Int)) ∧ i < a.length ∧ k < a.length := fun q hq => pairs_ok rfl q (List.mem_filter.1 hq).1
      rw [List.take_length] at hfl
      simp -implicitDefEqProofs (disch := first | (refine fineP_go ?_; kernel_rfl) | omega | (refine of_eq_true ?_; simp (disch := first | omega | (refine of_eq_true ?_; simp only [go_sem]; done) | (simp only [go_sem]; omega)) only [go_sem]; done) | (simp only [go_sem]; omega) | assumption) only [go_sem, Bool.false_eq_true, ↓sel_fineP, ↓reduceIte, Nat.reduceEqDiff, sel_y, sel_n, sel_ny, sel_nn, wrap_u64, wrap_i64, wrap_u32, min_l, g0, g1, g5, g6, g7, List.take_length]
      rw [show madeR a.length ((pairsR a).filter fun p => hasZ b p.1 p.2) = andR a b from madeR_mk fun i k hi hk => by rw [List.mem_filter, mem_pair]; simp [hasZ]]
  · simp -implicitDefEqProofs (disch := first | (refine fineP_go ?_; kernel_rfl) | omega | (refine of_eq_true ?_; simp (disch := first | omega | (refine of_eq_true ?_; simp only [go_sem]; done) | (simp only [go_sem]; omega)) only [go_sem]; done) | (simp only [go_sem]; omega) | assumption) only [go_sem, Bool.false_eq_true, ↓sel_fineP, ↓reduceIte, Nat.reduceEqDiff, sel_y, sel_n, sel_ny, sel_nn, wrap_u64, wrap_i64, wrap_u32, min_l]
    exact ⟨rfl, rfl⟩
@[go_sem] theorem pu_rAnd {a b : Rl} (ha : a.length ≤ 32) (hb : b.length = a.length) {K : Ka V} : @Pu Tryz.prog 116 [enc a, enc b] K = K.k (.t (enc (andR a b))) := (ref05_And ha hb).pu

/-- Of some pairs, each lengthened. -/
def sqrow (b : Rl) (p : Int × Int) (j : Nat) : List (Int × Int) := ((List.range j).filter fun k => has b p.2.toNat k).map fun (k : Nat) => (p.1, (k : Int))
def sqto (b : Rl) (ps : List (Int × Int)) (m : Nat) : List (Int × Int) := (ps.take m).flatMap fun p => sqrow b p b.length
theorem sqrow_succ (b p j) : sqrow b p (j + 1) = if has b p.2.toNat j then sqrow b p j ++ [(p.1, (j : Int))] else sqrow b p j := by
  unfold sqrow
  rw [List.range_succ, List.filter_append, List.map_append]
  cases h : has b p.2.toNat j <;> simp [h]
theorem sqrow_len (b p j) : (sqrow b p j).length ≤ j := by
  unfold sqrow
  rw [List.length_map]
  exact Nat.le_trans (List.length_filter_le _ _) (by simp)
theorem sqto_succ {b ps m} (h : m < ps.length) : sqto b ps (m + 1) = sqto b ps m ++ sqrow b (gd ps m) b.length := by
  unfold sqto; rw [← take_gd h, List.flatMap_append]; simp
theorem sqto_len {b ps} (m) : (sqto b ps m).length ≤ m * b.length := by
  induction m with
  | zero => simp [sqto]
  | succ m ih =>
    rw [Nat.succ_mul]
    by_cases h : m < ps.length
    · rw [sqto_succ h, List.length_append]; have := sqrow_len b (gd ps m) b.length; omega
    · have : sqto b ps (m + 1) = sqto b ps m := by unfold sqto; rw [List.take_of_length_le (by omega), List.take_of_length_le (by omega)]
      rw [this]; omega
theorem ref05_Seq {a b : Rl} (ha : a.length ≤ 32) (hb : b.length = a.length) : Fun Tryz.prog 122 [enc a, enc b] (.t (enc (seqR a b))) := by
  refine Fun.go (b := false) Tryz.func122 rfl rfl (by kernel_rfl) (by kernel_rfl) ?_
  have h1 := pairsR_len a ha
  cases hp : (pairsR a).isEmpty
  case true =>
    have e : madeR a.length [] = seqR a b := madeR_mk fun i k hi hk => by
      have : ∀ m, has a i m = false := fun m => by
        cases hh : has a i m
        · rfl
        · have := mem_pair.2 hh; rw [pairs_nil hp] at this; cases this
      simp [seqP, this]
    have n0 : ∀ (q : Int × Int), q ∈ ([] : List (Int × Int)) → ∃ i k : Nat, q = ((i : Int), (k : Int)) ∧ i < a.length ∧ k < a.length := fun q h => nomatch h
    simp -implicitDefEqProofs (disch := first | (refine fineP_go ?_; kernel_rfl) | omega | (refine of_eq_true ?_; simp (disch := first | omega | (refine of_eq_true ?_; simp only [go_sem, fun K => pu_rPairs_e ha (pairs_nil hp) (K := K)]; done) | (simp only [go_sem, fun K => pu_rPairs_e ha (pairs_nil hp) (K := K)]; omega)) only [go_sem, fun K => pu_rPairs_e ha (pairs_nil hp) (K := K)]; done) | (simp only [go_sem, fun K => pu_rPairs_e ha (pairs_nil hp) (K := K)]; omega) | assumption) only [go_sem, Bool.false_eq_true, ↓sel_fineP, ↓reduceIte, Nat.reduceEqDiff, sel_y, sel_n, sel_ny, sel_nn, wrap_u64, wrap_i64, wrap_u32, min_l, fun K => pu_rPairs_e ha (pairs_nil hp) (K := K)]
    rw [e_loop]
    simp -implicitDefEqProofs (disch := first | (refine fineP_go ?_; kernel_rfl) | omega | (refine of_eq_true ?_; simp (disch := first | omega | (refine of_eq_true ?_; simp only [go_sem]; done) | (simp only [go_sem]; omega)) only [go_sem]; done) | (simp only [go_sem]; omega) | assumption) only [go_sem, Bool.false_eq_true, ↓sel_fineP, ↓reduceIte, Nat.reduceEqDiff, sel_y, sel_n, sel_ny, sel_nn, wrap_u64, wrap_i64, wrap_u32, min_l, e]
  simp -implicitDefEqProofs (disch := first | (refine fineP_go ?_; kernel_rfl) | omega | (refine of_eq_true ?_; simp (disch := first | omega | (refine of_eq_true ?_; simp only [go_sem, fun K => pu_rPairs_n ha hp (K := K), map_t_enc]; done) | (simp only [go_sem, fun K => pu_rPairs_n ha hp (K := K), map_t_enc]; omega)) only [go_sem, fun K => pu_rPairs_n ha hp (K := K), map_t_enc]; done) | (simp only [go_sem, fun K => pu_rPairs_n ha hp (K := K), map_t_enc]; omega) | assumption) only [go_sem, Bool.false_eq_true, ↓sel_fineP, ↓reduceIte, Nat.reduceEqDiff, sel_y, sel_n, sel_ny, sel_nn, wrap_u64, wrap_i64, wrap_u32, min_l, fun K => pu_rPairs_n ha hp (K := K), map_t_enc]
  refine loop_up (n := (pairsR a).length) (fun j e H => e 0 = .t (enc a) ∧ e 1 = .t (enc b) ∧ e 5 = accV 1 (sqto b (pairsR a) j) ∧ e 6 = .ref 0 (pairsR a).length ∧ e 7 = .t (.int .i64 j) ∧ H = ⟨vs (pairsR a), 2, false⟩ :: accO (sqto b (pairsR a) j)) ?_ _ _ ?_
  · rintro j e H hj ⟨g0, g1, g5, g6, g7, rfl⟩
    have hsl := sqto_len (b := b) (ps := pairsR a) j
    have hsl2 : j * b.length ≤ 1024 * 32 := Nat.mul_le_mul (by omega) (by omega)
    by_cases hlt : j < (pairsR a).length
    · obtain ⟨x, y, hxy, hh⟩ := pairsR_gd hlt
      have hss := sqto_succ (b := b) hlt
      rw [hxy] at hss
      simp -implicitDefEqProofs (disch := first | (refine fineP_go ?_; kernel_rfl) | omega | (refine of_eq_true ?_; simp (disch := first | omega | (refine of_eq_true ?_; simp only [go_sem]; done) | (simp only [go_sem]; omega)) only [go_sem]; done) | (simp only [go_sem]; omega) | assumption) only [go_sem, Bool.false_eq_true, ↓sel_fineP, ↓reduceIte, Nat.reduceEqDiff, sel_y, sel_n, sel_ny, sel_nn, wrap_u64, wrap_i64, wrap_u32, min_l, g0, g1, g5, g6, g7]
      refine loop_up (n := a.length) (fun k e H => e 0 = .t (enc a) ∧ e 1 = .t (enc b) ∧ e 5 = accV 1 (sqto b (pairsR a) j ++ sqrow b ((x : Int), (y : Int)) k) ∧ e 6 = .ref 0 (pairsR a).length ∧ e 7 = .t (.int .i64 j) ∧ e 8 = .t (.int .i64 k) ∧ H = ⟨vs (pairsR a), 2, false⟩ :: accO (sqto b (pairsR a) j ++ sqrow b ((x : Int), (y : Int)) k)) ?_ _ _ ?_
      · rintro k e H hk ⟨g0, g1, g5, g6, g7, g8, rfl⟩
        have hrl := sqrow_len b ((x : Int), (y : Int)) k
        have hl : (sqto b (pairsR a) j ++ sqrow b ((x : Int), (y : Int)) k).length ≤ 40000 := by rw [List.length_append]; omega
        by_cases hkl : k < a.length
        · have hr := sqrow_succ b ((x : Int), (y : Int)) k
          simp only [Int.toNat_natCast] at hr
          cases hx : has b y k
          · rw [hx] at hr
            simp -implicitDefEqProofs (disch := first | (refine fineP_go ?_; kernel_rfl) | omega | (refine of_eq_true ?_; simp (disch := first | omega | (refine of_eq_true ?_; simp only [go_sem]; done) | (simp only [go_sem]; omega)) only [go_sem]; done) | (simp only [go_sem]; omega) | assumption) only [go_sem, Bool.false_eq_true, ↓sel_fineP, ↓reduceIte, Nat.reduceEqDiff, sel_y, sel_n, sel_ny, sel_nn, wrap_u64, wrap_i64, wrap_u32, min_l, g0, g1, g5, g6, g7, g8, hxy, hx, hr]
            exact hkl
          · rw [hx] at hr
            simp -implicitDefEqProofs (disch := first | (refine fineP_go ?_; kernel_rfl) | omega | (refine of_eq_true ?_; simp (disch := first | omega | (refine of_eq_true ?_; simp only [go_sem]; done) | (simp only [go_sem]; omega)) only [go_sem]; done) | (simp only [go_sem]; omega) | assumption) only [go_sem, Bool.false_eq_true, ↓sel_fineP, ↓reduceIte, Nat.reduceEqDiff, sel_y, sel_n, sel_ny, sel_nn, wrap_u64, wrap_i64, wrap_u32, min_l, g0, g1, g5, g6, g7, g8, hxy, hx, hr, List.append_assoc]
            exact hkl
        · obtain rfl : k = a.length := by omega
          rw [hb] at hss
          simp -implicitDefEqProofs (disch := first | (refine fineP_go ?_; kernel_rfl) | omega | (refine of_eq_true ?_; simp (disch := first | omega | (refine of_eq_true ?_; simp only [go_sem]; done) | (simp only [go_sem]; omega)) only [go_sem]; done) | (simp only [go_sem]; omega) | assumption) only [go_sem, Bool.false_eq_true, ↓sel_fineP, ↓reduceIte, Nat.reduceEqDiff, sel_y, sel_n, sel_ny, sel_nn, wrap_u64, wrap_i64, wrap_u32, min_l, g0, g1, g5, g6, g7, g8, hss]
          exact hlt
      · simp -implicitDefEqProofs (disch := first | (refine fineP_go ?_; kernel_rfl) | omega | (refine of_eq_true ?_; simp (disch := first | omega | (refine of_eq_true ?_; simp only [go_sem]; done) | (simp only [go_sem]; omega)) only [go_sem]; done) | (simp only [go_sem]; omega) | assumption) only [go_sem, Bool.false_eq_true, ↓sel_fineP, ↓reduceIte, Nat.reduceEqDiff, sel_y, sel_n, sel_ny, sel_nn, wrap_u64, wrap_i64, wrap_u32, min_l, g0, g1, g5, g6, g7, show sqrow b ((x : Int), (y : Int)) 0 = [] from rfl]
    · obtain rfl : j = (pairsR a).length := by omega
      have h3 : ∀ q ∈ sqto b (pairsR a) (pairsR a).length, ∃ i k : Nat, q = ((i : Int), (k : Int)) ∧ i < a.length ∧ k < a.length := by
        intro q hq
        unfold sqto sqrow at hq
        rw [List.take_length] at hq
        obtain ⟨p, hp, hq⟩ := List.mem_flatMap.1 hq
        obtain ⟨k, hk, rfl⟩ := List.mem_map.1 hq
        obtain ⟨i, m, rfl, him⟩ := mem_pairsR.1 hp
        have := has_lt him
        have hk := List.mem_range.1 (List.mem_filter.1 hk).1
        exact ⟨i, k, rfl, this.1, by omega⟩
      simp -implicitDefEqProofs (disch := first | (refine fineP_go ?_; kernel_rfl) | omega | (refine of_eq_true ?_; simp (disch := first | omega | (refine of_eq_true ?_; simp only [go_sem]; done) | (simp only [go_sem]; omega)) only [go_sem]; done) | (simp only [go_sem]; omega) | assumption) only [go_sem, Bool.false_eq_true, ↓sel_fineP, ↓reduceIte, Nat.reduceEqDiff, sel_y, sel_n, sel_ny, sel_nn, wrap_u64, wrap_i64, wrap_u32, min_l, g0, g1, g5, g6, g7]
      rw [show madeR a.length (sqto b (pairsR a) (pairsR a).length) = seqR a b from madeR_mk fun i k hi hk => by
        unfold sqto sqrow seqP
        rw [List.take_length]
        simp only [List.mem_flatMap, List.mem_map, List.mem_filter, List.mem_range, List.any_eq_true, Bool.and_eq_true, Prod.mk.injEq]
        constructor
        · rintro ⟨p, hp, c, ⟨hc1, hc2⟩, e1, e2⟩
          obtain ⟨i', m, rfl, him⟩ := mem_pairsR.1 hp
          simp only at e1
          obtain rfl : i' = i := by omega
          obtain rfl : c = k := by omega
          have := has_lt him
          exact ⟨m, this.2, him, by simpa using hc2⟩
        · rintro ⟨m, hm, h1, h2⟩
          exact ⟨((i : Int), (m : Int)), mem_pair.2 h1, k, ⟨by omega, by simpa using h2⟩, rfl, rfl⟩]
  · simp -implicitDefEqProofs (disch := first | (refine fineP_go ?_; kernel_rfl) | omega | (refine of_eq_true ?_; simp (disch := first | omega | (refine of_eq_true ?_; simp only [go_sem]; done) | (simp only [go_sem]; omega)) only [go_sem]; done) | (simp only [go_sem]; omega) | assumption) only [go_sem, Bool.false_eq_true, ↓sel_fineP, ↓reduceIte, Nat.reduceEqDiff, sel_y, sel_n, sel_ny, sel_nn, wrap_u64, wrap_i64, wrap_u32, min_l]
    exact ⟨rfl, rfl⟩
@[go_sem] theorem pu_rSeq {a b : Rl} (ha : a.length ≤ 32) (hb : b.length = a.length) {K : Ka V} : @Pu Tryz.prog 122 [enc a, enc b] K = K.k (.t (enc (seqR a b))) := (ref05_Seq ha hb).pu

theorem ref05_Clean {a : Rl} (ha : a.length ≤ 32) : Fun Tryz.prog 72 [enc a] (.t (enc (cln a))) := by
  refine Fun.go (b := false) Tryz.func72 rfl rfl (by kernel_rfl) (by kernel_rfl) ?_
  have h1 := pairsR_len a ha
  have h3 := pairs_ok (a := a) rfl
  have e : madeR a.length (pairsR a) = cln a := madeR_mk fun i k hi hk => mem_pair
  cases hp : (pairsR a).isEmpty
  · simp -implicitDefEqProofs (disch := first | (refine fineP_go ?_; kernel_rfl) | omega | (refine of_eq_true ?_; simp (disch := first | omega | (refine of_eq_true ?_; simp only [go_sem, fun K => pu_rPairs_n ha hp (K := K), map_t_enc, e]; done) | (simp only [go_sem, fun K => pu_rPairs_n ha hp (K := K), map_t_enc, e]; omega)) only [go_sem, fun K => pu_rPairs_n ha hp (K := K), map_t_enc, e]; done) | (simp only [go_sem, fun K => pu_rPairs_n ha hp (K := K), map_t_enc, e]; omega) | assumption) only [go_sem, Bool.false_eq_true, ↓sel_fineP, ↓reduceIte, Nat.reduceEqDiff, sel_y, sel_n, sel_ny, sel_nn, wrap_u64, wrap_i64, wrap_u32, min_l, fun K => pu_rPairs_n ha hp (K := K), map_t_enc, e]
  · rw [pairs_nil hp] at e h3
    simp -implicitDefEqProofs (disch := first | (refine fineP_go ?_; kernel_rfl) | omega | (refine of_eq_true ?_; simp (disch := first | omega | (refine of_eq_true ?_; simp only [go_sem, fun K => pu_rPairs_e ha (pairs_nil hp) (K := K), e]; done) | (simp only [go_sem, fun K => pu_rPairs_e ha (pairs_nil hp) (K := K), e]; omega)) only [go_sem, fun K => pu_rPairs_e ha (pairs_nil hp) (K := K), e]; done) | (simp only [go_sem, fun K => pu_rPairs_e ha (pairs_nil hp) (K := K), e]; omega) | assumption) only [go_sem, Bool.false_eq_true, ↓sel_fineP, ↓reduceIte, Nat.reduceEqDiff, sel_y, sel_n, sel_ny, sel_nn, wrap_u64, wrap_i64, wrap_u32, min_l, fun K => pu_rPairs_e ha (pairs_nil hp) (K := K), e]
@[go_sem] theorem pu_rClean {a : Rl} (ha : a.length ≤ 32) {K : Ka V} : @Pu Tryz.prog 72 [enc a] K = K.k (.t (enc (cln a))) := (ref05_Clean ha).pu
theorem ref05_Same {a b : Rl} (ha : a.length ≤ 32) (hb : b.length ≤ 32) : Fun Tryz.prog 25 [enc a, enc b] (.t (.bool (sameR a b))) := by
  refine Fun.go (b := false) Tryz.func25 rfl rfl (by kernel_rfl) (by kernel_rfl) ?_
  rw [sameR_cln ha hb]
  by_cases hl : a.length = b.length
  · simp -implicitDefEqProofs (disch := first | (refine fineP_go ?_; kernel_rfl) | omega | (refine of_eq_true ?_; simp (disch := first | omega | (refine of_eq_true ?_; simp only [go_sem]; done) | (simp only [go_sem]; omega)) only [go_sem]; done) | (simp only [go_sem]; omega) | assumption) only [go_sem, Bool.false_eq_true, ↓sel_fineP, ↓reduceIte, Nat.reduceEqDiff, sel_y, sel_n, sel_ny, sel_nn, wrap_u64, wrap_i64, wrap_u32, min_l, hl]
    refine loop_up (n := b.length) (fun i e H => e 5 = .t (enc (cln a)) ∧ e 6 = .t (enc (cln b)) ∧ e 7 = .t (.int .i64 i) ∧ ∀ k, k < i → gd (cln a) k = gd (cln b) k) ?_ _ _ ?_
    · rintro i e H hi ⟨h5, h6, h7, hk⟩
      by_cases hlt : i < b.length
      · by_cases he : gd (cln a) i = gd (cln b) i
        · simp -implicitDefEqProofs (disch := first | (refine fineP_go ?_; kernel_rfl) | omega | (refine of_eq_true ?_; simp (disch := first | omega | (refine of_eq_true ?_; simp only [go_sem]; done) | (simp only [go_sem]; omega)) only [go_sem]; done) | (simp only [go_sem]; omega) | assumption) only [go_sem, Bool.false_eq_true, ↓sel_fineP, ↓reduceIte, Nat.reduceEqDiff, sel_y, sel_n, sel_ny, sel_nn, wrap_u64, wrap_i64, wrap_u32, min_l, h5, h6, h7, he]
          refine ⟨hlt, fun k hk' => ?_⟩
          by_cases e : k = i
          · subst e; exact he
          · exact hk k (by omega)
        · have hne : ¬ cln a = cln b := fun e => he (by rw [e])
          simp -implicitDefEqProofs (disch := first | (refine fineP_go ?_; kernel_rfl) | omega | (refine of_eq_true ?_; simp (disch := first | omega | (refine of_eq_true ?_; simp only [go_sem]; done) | (simp only [go_sem]; omega)) only [go_sem]; done) | (simp only [go_sem]; omega) | assumption) only [go_sem, Bool.false_eq_true, ↓sel_fineP, ↓reduceIte, Nat.reduceEqDiff, sel_y, sel_n, sel_ny, sel_nn, wrap_u64, wrap_i64, wrap_u32, min_l, h5, h6, h7, he, hne]
      · obtain rfl : i = b.length := by omega
        have heq : cln a = cln b := gd_ext (by rw [cln_len, cln_len, hl]) fun k hk' => hk k (by rw [cln_len] at hk'; omega)
        simp -implicitDefEqProofs (disch := first | (refine fineP_go ?_; kernel_rfl) | omega | (refine of_eq_true ?_; simp (disch := first | omega | (refine of_eq_true ?_; simp only [go_sem]; done) | (simp only [go_sem]; omega)) only [go_sem]; done) | (simp only [go_sem]; omega) | assumption) only [go_sem, Bool.false_eq_true, ↓sel_fineP, ↓reduceIte, Nat.reduceEqDiff, sel_y, sel_n, sel_ny, sel_nn, wrap_u64, wrap_i64, wrap_u32, min_l, h5, h6, h7]
        simp [heq]
    · simp -implicitDefEqProofs (disch := first | (refine fineP_go ?_; kernel_rfl) | omega | (refine of_eq_true ?_; simp (disch := first | omega | (refine of_eq_true ?_; simp only [go_sem]; done) | (simp only [go_sem]; omega)) only [go_sem]; done) | (simp only [go_sem]; omega) | assumption) only [go_sem, Bool.false_eq_true, ↓sel_fineP, ↓reduceIte, Nat.reduceEqDiff, sel_y, sel_n, sel_ny, sel_nn, wrap_u64, wrap_i64, wrap_u32, min_l]
      intro k hk; omega
  · have : ¬ cln a = cln b := fun e => hl (by rw [← cln_len a, e, cln_len])
    simp -implicitDefEqProofs (disch := first | (refine fineP_go ?_; kernel_rfl) | omega | (refine of_eq_true ?_; simp (disch := first | omega | (refine of_eq_true ?_; simp only [go_sem]; done) | (simp only [go_sem]; omega)) only [go_sem]; done) | (simp only [go_sem]; omega) | assumption) only [go_sem, Bool.false_eq_true, ↓sel_fineP, ↓reduceIte, Nat.reduceEqDiff, sel_y, sel_n, sel_ny, sel_nn, wrap_u64, wrap_i64, wrap_u32, min_l, hl, this]

@[go_sem] theorem pu_rSame {a b : Rl} (ha : a.length ≤ 32) (hb : b.length ≤ 32) {K : Ka V} : @Pu Tryz.prog 25 [enc a, enc b] K = K.k (.t (.bool (sameR a b))) := (ref05_Same ha hb).pu
end Go.Sim
