/- Part: FlatU -/
import Derived.Test.YtoaboplnnhifpaaGreatFlatT
set_option linter.all false
set_option maxRecDepth 100000
namespace Go.Sim
open Enc (enc)
open Go.Proofs
theorem ref05_Size {l : Rl} (h : l.length <= 32) : Fun Tryz.prog 156 [enc l] (.t (.int .i64 l.length)) := by
  refine Fun.go (b := false) Tryz.func156 rfl rfl (by kernel_rfl) (by kernel_rfl) ?_
  simp -implicitDefEqProofs (disch := first | exact dsch | fail) only [go_sem, ↓reduceIte, Nat.reduceEqDiff]
@[go_sem] theorem pu_Size {l : Rl} (h : l.length <= 32) {K : Kp} : @Pu _ Tryz.prog 156 [enc l] K = K.k (.t (.int .i64 l.length)) := (ref05_Size h).pu
theorem shr_shr1 (x : U32) (i : Nat) : x >>> i >>> 1 = x >>> (i + 1) := by rw [BitVec.shiftRight_add]
theorem shl_shl1 (x : U32) (i : Nat) : x <<< i <<< 1 = x <<< (i + 1) := by rw [BitVec.shiftLeft_add]
theorem ref05_bit {x : U32} {k : Nat} (hk : k <= 1000) : Fun Tryz.prog 239 [.int .u32 (x.toNat : Int), .int .i64 k] (.t (.bool (x.getLsbD k))) := by
  refine Fun.go (b := false) Tryz.func239 rfl rfl (by kernel_rfl) (by kernel_rfl) ?_
  simp -implicitDefEqProofs (disch := first | exact dsch | fail) only [go_sem, ↓reduceIte, Nat.reduceEqDiff]
  refine loop_up (n := k) (fun i e H => e 0 = .t (.int .u32 ((x >>> i).toNat : Int)) /\ e 1 = .t (.int .i64 k) /\ e 5 = .t (.int .i64 i)) ?_ _ _ ?_
  . rintro i e H hi ⟨h0, h1, h5⟩
    by_cases hlt : i < k
    . simp -implicitDefEqProofs (disch := first | exact dsch | fail) only [go_sem, ↓reduceIte, Nat.reduceEqDiff, h0, h1, h5, shr_shr1]
      exact hlt
    . obtain rfl : i = k := by omega
      simp -implicitDefEqProofs (disch := first | exact dsch | fail) only [go_sem, ↓reduceIte, Nat.reduceEqDiff, h0, h1, h5]
  . simp -implicitDefEqProofs (disch := first | exact dsch | fail) only [go_sem, ↓reduceIte, Nat.reduceEqDiff, BitVec.ushiftRight_zero]
@[go_sem] theorem pu_bit {x : U32} {k : Nat} (hk : k <= 1000) {K : Kp} : @Pu _ Tryz.prog 239 [.int .u32 (x.toNat : Int), .int .i64 k] K = K.k (.t (.bool (x.getLsbD k))) := (ref05_bit hk).pu
theorem ref05_Has {l : Rl} (hl : l.length <= 32) {i k : Int} : Fun Tryz.prog 191 [enc l, .int .i64 i, .int .i64 k] (.t (.bool (hasZ l i k))) := by
  refine Fun.go (b := false) Tryz.func191 rfl rfl (by kernel_rfl) (by kernel_rfl) ?_
  by_cases h1 : 0 <= i
  . by_cases h2 : i < l.length
    . by_cases h3 : 0 <= k
      . by_cases h4 : k < l.length
        . obtain ⟨a, rfl⟩ := Int.eq_ofNat_of_zero_le h1
          obtain ⟨b, rfl⟩ := Int.eq_ofNat_of_zero_le h3
          simp -implicitDefEqProofs (disch := first | exact dsch | fail) only [go_sem, ↓reduceIte, Nat.reduceEqDiff, h1, h2, h3, h4]
          have e1 : a < l.length := by omega
          have e2 : b < l.length := by omega
          simp [hasZ, has, e1, e2]
        . simp -implicitDefEqProofs (disch := first | exact dsch | fail) only [go_sem, ↓reduceIte, Nat.reduceEqDiff, h1, h2, h3, h4]
          simp only [hasZ, h1, h3, decide_true, Bool.true_and]
          rw [has_out]; omega
      . simp -implicitDefEqProofs (disch := first | exact dsch | fail) only [go_sem, ↓reduceIte, Nat.reduceEqDiff, h1, h2, h3]
        simp [hasZ, h3]
    . simp -implicitDefEqProofs (disch := first | exact dsch | fail) only [go_sem, ↓reduceIte, Nat.reduceEqDiff, h1, h2]
      simp only [hasZ, h1, decide_true, Bool.true_and]
      rw [has_out (.inl (by omega))]; simp
  . simp -implicitDefEqProofs (disch := first | exact dsch | fail) only [go_sem, ↓reduceIte, Nat.reduceEqDiff, h1]
    simp [hasZ, h1]
@[go_sem] theorem pu_rHas {l : Rl} (hl : l.length <= 32) {i k : Int} {K : Kp} : @Pu _ Tryz.prog 191 [enc l, .int .i64 i, .int .i64 k] K = K.k (.t (.bool (hasZ l i k))) := (ref05_Has hl).pu
theorem ref05_power {k : Nat} (hk : k <= 1000) : Fun Tryz.prog 192 [.int .i64 k] (.t (.int .u32 (((1#32 : U32) <<< k).toNat : Int))) := by
  refine Fun.go (b := false) Tryz.func192 rfl rfl (by kernel_rfl) (by kernel_rfl) ?_
  simp -implicitDefEqProofs (disch := first | exact dsch | fail) only [go_sem, ↓reduceIte, Nat.reduceEqDiff]
  refine loop_up (n := k) (fun i e H => e 0 = .t (.int .i64 k) /\ e 3 = .t (.int .u32 (((1#32 : U32) <<< i).toNat : Int)) /\ e 4 = .t (.int .i64 i)) ?_ _ _ ?_
  . rintro i e H hi ⟨h0, h3, h4⟩
    by_cases hlt : i < k
    . simp -implicitDefEqProofs (disch := first | exact dsch | fail) only [go_sem, ↓reduceIte, Nat.reduceEqDiff, h0, h3, h4, shl_shl1]
      exact hlt
    . obtain rfl : i = k := by omega
      simp -implicitDefEqProofs (disch := first | exact dsch | fail) only [go_sem, ↓reduceIte, Nat.reduceEqDiff, h0, h3, h4]
  . simp -implicitDefEqProofs (disch := first | exact dsch | fail) only [go_sem, ↓reduceIte, Nat.reduceEqDiff, BitVec.shiftLeft_zero]
@[go_sem] theorem pu_power {k : Nat} (hk : k <= 1000) {K : Kp} : @Pu _ Tryz.prog 192 [.int .i64 k] K = K.k (.t (.int .u32 (((1#32 : U32) <<< k).toNat : Int))) := (ref05_power hk).pu
def madeR (n : Nat) (l : List (Int × Int)) : Rl := mk n fun i k => l.any fun p => decide (p.1 = (i : Int)) && decide (p.2 = (k : Int))
@[go_sem] theorem madeR_len (n l) : (madeR n l).length = n := by simp [madeR, mk_len]
theorem madeR_step {n : Nat} (hn : n <= 32) {l : List (Int × Int)} {a b : Nat} (ha : a < n) (hb : b < n) :
    madeR n (l ++ [((a : Int), (b : Int))]) = if has (madeR n l) a b then madeR n l else (madeR n l).set a (gd (madeR n l) a + 1#32 <<< b) := by
  have hh : has (madeR n l) a b = l.any fun p => decide (p.1 = (a : Int)) && decide (p.2 = (b : Int)) := has_mk' hn ha hb
  cases hc : has (madeR n l) a b
  . simp only [Bool.false_eq_true, if_false]
    symm
    apply mk_has (by rw [List.length_set, madeR_len])
    intro i k hi
    have hab : (gd (madeR n l) a).getLsbD b = false := by
      rw [has_true (by rw [madeR_len]; exact ha) (by rw [madeR_len]; exact hb)] at hc; exact hc
    by_cases h : i = a
    . subst h
      rw [gd_set_eq (by rw [madeR_len]; exact hi), add_bit hab, BitVec.getLsbD_or, madeR, mk_gd hi, rowB_get, BitVec.getLsbD_shiftLeft, List.any_append]
      by_cases hk : k < n
      . have hk32 : k < 32 := by omega
        by_cases hkb : k = b
        . subst hkb; simp [hk, hk32]
        . by_cases h2 : k < b
          . have : ¬ (b : Int) = (k : Int) := by omega
            simp [hk, hk32, h2, this]
          . have e1 : k - b ≠ 0 := by omega
            have : ¬ (b : Int) = (k : Int) := by omega
            simp [hk, hk32, h2, e1, this]
      . have : k - b ≠ 0 := by omega
        simp [hk, this]
    . rw [gd_set_ne (fun e => h e.symm), madeR, mk_gd hi, rowB_get, List.any_append]
      have : ¬ (a : Int) = (i : Int) := by omega
      by_cases hk : k < n
      . have hk32 : k < 32 := by omega
        simp [hk, hk32, this]
      . simp [hk]
  . simp only [if_true]
    unfold madeR
    apply mk_ext
    intro i k hi hk
    rw [List.any_append]
    by_cases h1 : (a : Int) = (i : Int)
    . by_cases h2 : (b : Int) = (k : Int)
      . obtain rfl : a = i := by omega
        obtain rfl : b = k := by omega
        rw [hc] at hh
        rw [← hh]; simp
      . simp [h2]
    . simp [h1]
theorem ref05_Made {n : Nat} (hn : n <= 32) {l : List (Int × Int)} (hl : l.length <= 1000000) (hr : ∀ p ∈ l, ∃ a b : Nat, p = ((a : Int), (b : Int)) /\ a < n /\ b < n) : Fun Tryz.prog 106 [.int .i64 n, enc l] (.t (enc (madeR n l))) := by
  refine Fun.go (b := false) Tryz.func106 rfl rfl (by kernel_rfl) (by kernel_rfl) ?_
  simp -implicitDefEqProofs (disch := first | exact dsch | fail) only [go_sem, ↓reduceIte, Nat.reduceEqDiff]
  refine loop_up (n := l.length) (fun j e H => e 1 = .t (enc l) /\ e 5 = .ref 0 n /\ e 6 = .t (.int .i64 j) /\ H = [⟨vs (madeR n (l.take j)), 1, false⟩]) ?_ _ _ ?_
  . rintro j e H hj ⟨h1, h5, h6, rfl⟩
    by_cases hlt : j < l.length
    . obtain ⟨a, b, hab, ha, hb⟩ := hr _ (gd_mem hlt)
      have hstep := madeR_step hn (l := l.take j) ha hb
      rw [← hab, take_gd hlt] at hstep
      have hz : hasZ (madeR n (l.take j)) a b = has (madeR n (l.take j)) a b := by simp [hasZ]
      cases hc : has (madeR n (l.take j)) a b
      . rw [hc, if_neg (by decide)] at hstep
        simp -implicitDefEqProofs (disch := first | exact dsch | fail) only [go_sem, ↓reduceIte, Nat.reduceEqDiff, h1, h5, h6, hab, hz, hc, hstep]
        exact hlt
      . rw [hc, if_pos rfl] at hstep
        simp -implicitDefEqProofs (disch := first | exact dsch | fail) only [go_sem, ↓reduceIte, Nat.reduceEqDiff, h1, h5, h6, hab, hz, hc, hstep]
        exact hlt
    . obtain rfl : j = l.length := by omega
      simp -implicitDefEqProofs (disch := first | exact dsch | fail) only [go_sem, ↓reduceIte, Nat.reduceEqDiff, h1, h5, h6, List.take_length]
  . simp -implicitDefEqProofs (disch := first | exact dsch | fail) only [go_sem, ↓reduceIte, Nat.reduceEqDiff]
    have e : List.replicate n 0#32 = madeR n [] := by
      apply mk_has (by simp)
      intro i k hi
      rw [gd_rep hi]; simp
    rw [e]
@[go_sem] theorem pu_Made {n : Nat} (hn : n <= 32) {l : List (Int × Int)} (hl : l.length <= 1000000) (hr : ∀ p ∈ l, ∃ a b : Nat, p = ((a : Int), (b : Int)) /\ a < n /\ b < n) {K : Kp} : @Pu _ Tryz.prog 106 [.int .i64 n, enc l] K = K.k (.t (enc (madeR n l))) := (ref05_Made hn hl hr).pu
theorem madeR_mk {n : Nat} {l : List (Int × Int)} {q : Nat -> Nat -> Bool} (h : ∀ i k, i < n -> k < n -> (((i : Int), (k : Int)) ∈ l ↔ q i k = true)) : madeR n l = mk n q := by
  apply mk_ext
  intro i k hi hk
  rw [Bool.eq_iff_iff, ← h i k hi hk, List.any_eq_true]
  constructor
  . rintro ⟨p, hp, he⟩
    simp only [Bool.and_eq_true, decide_eq_true_eq] at he
    obtain ⟨a, b⟩ := p
    simp only at he
    rw [← he.1, ← he.2]; exact hp
  . intro hp; exact ⟨_, hp, by simp⟩
def prow (p : Nat -> Nat -> Bool) (i j : Nat) : List (Int × Int) := ((List.range j).filter (p i)).map fun (k : Nat) => ((i : Int), (k : Int))
def pto (p : Nat -> Nat -> Bool) (n i : Nat) : List (Int × Int) := (List.range i).flatMap fun i => prow p i n
theorem prow_succ (p i j) : prow p i (j + 1) = if p i j then prow p i j ++ [((i : Int), (j : Int))] else prow p i j := by
  unfold prow
  rw [List.range_succ, List.filter_append, List.map_append]
  cases h : p i j <;> simp [h]
theorem pto_succ (p n i) : pto p n (i + 1) = pto p n i ++ prow p i n := by simp [pto, List.range_succ, List.flatMap_append]
theorem prow_len (p i j) : (prow p i j).length <= j := by
  unfold prow
  rw [List.length_map]
  exact Nat.le_trans (List.length_filter_le _ _) (by simp)
theorem pto_len (p n i) : (pto p n i).length <= i * n := by
  induction i with
  | zero => simp [pto]
  | succ i ih => rw [pto_succ, List.length_append, Nat.succ_mul]; have := prow_len p i n; omega
theorem pto_len32 {p n i} (hn : n <= 32) (hi : i <= 32) : (pto p n i).length <= 1024 := by
  have := pto_len p n i
  have := Nat.mul_le_mul hi hn
  omega
theorem mem_pto {p n m} {q : Int × Int} : q ∈ pto p n m ↔ ∃ i k : Nat, q = ((i : Int), (k : Int)) /\ i < m /\ k < n /\ p i k = true := by
  simp only [pto, prow, List.mem_flatMap, List.mem_range, List.mem_map, List.mem_filter]
  constructor
  . rintro ⟨i, h1, k, ⟨h2, h⟩, rfl⟩; exact ⟨i, k, rfl, h1, h2, h⟩
  . rintro ⟨i, k, rfl, h1, h2, h⟩; exact ⟨i, h1, k, ⟨h2, h⟩, rfl⟩
theorem pto_all (a : Rl) : pto (has a) a.length a.length = pairsR a := rfl
theorem made_pto {n : Nat} {p : Nat -> Nat -> Bool} : madeR n (pto p n n) = mk n p := by
  apply madeR_mk
  intro i k hi hk
  rw [mem_pto]
  constructor
  . rintro ⟨a, b, e, _, _, h⟩
    simp only [Prod.mk.injEq] at e
    obtain rfl : i = a := by omega
    obtain rfl : k = b := by omega
    exact h
  . intro h; exact ⟨i, k, rfl, hi, hk, h⟩
theorem pairs_ok {a : Rl} {n : Nat} (h : a.length = n) : ∀ q ∈ pairsR a, ∃ i k : Nat, q = ((i : Int), (k : Int)) /\ i < n /\ k < n := by
  intro q hq
  obtain ⟨i, k, h1, h2⟩ := mem_pairsR.1 hq
  have := has_lt h2
  exact ⟨i, k, h1, by omega, by omega⟩
theorem mem_pair {a : Rl} {i k : Nat} : ((i : Int), (k : Int)) ∈ pairsR a ↔ has a i k = true := by
  rw [mem_pairsR]
  constructor
  . rintro ⟨x, y, e, h⟩
    simp only [Prod.mk.injEq] at e
    obtain rfl : i = x := by omega
    obtain rfl : k = y := by omega
    exact h
  . intro h; exact ⟨i, k, rfl, h⟩
theorem hasZ_nat (a : Rl) (i k : Nat) : hasZ a (i : Int) (k : Int) = has a i k := by simp [hasZ]
attribute [go_sem] hasZ_nat
def frV (l : List (Int × Int)) : V := if l.isEmpty then .ex [] else .fr 2 false (l.map enc)
theorem ref05_Pairs {a : Rl} (ha : a.length <= 32) : Fun Tryz.prog 157 [enc a] (frV (pairsR a)) := by
  refine Fun.go (b := true) Tryz.func157 rfl rfl (by kernel_rfl) (by kernel_rfl) ?_
  simp -implicitDefEqProofs (disch := first | exact dsch | fail) only [go_sem, ↓reduceIte, Nat.reduceEqDiff]
  refine loop_up (n := a.length) (fun i e H => e 0 = .t (enc a) /\ e 3 = accV 0 (pto (has a) a.length i) /\ e 4 = .t (.int .i64 a.length) /\ e 5 = .t (.int .i64 i) /\ H = accO (pto (has a) a.length i)) ?_ _ _ ?_
  . rintro i e H hi ⟨h0, h3, h4, h5, rfl⟩
    by_cases hlt : i < a.length
    . have hp1 := pto_len32 (p := has a) (n := a.length) (i := i) ha (by omega)
      simp -implicitDefEqProofs (disch := first | exact dsch | fail) only [go_sem, ↓reduceIte, Nat.reduceEqDiff, h0, h3, h4, h5]
      refine loop_up (n := a.length) (fun k e H => e 0 = .t (enc a) /\ e 3 = accV 0 (pto (has a) a.length i ++ prow (has a) i k) /\ e 4 = .t (.int .i64 a.length) /\ e 5 = .t (.int .i64 i) /\ e 6 = .t (.int .i64 k) /\ H = accO (pto (has a) a.length i ++ prow (has a) i k)) ?_ _ _ ?_
      . rintro k e H hk ⟨h0, h3, h4, h5, h6, rfl⟩
        by_cases hkl : k < a.length
        . have hr := prow_succ (has a) i k
          have hrl := prow_len (has a) i k
          have hl : (pto (has a) a.length i ++ prow (has a) i k).length <= 1100 := by rw [List.length_append]; omega
          cases hx : has a i k
          . rw [hx] at hr
            simp -implicitDefEqProofs (disch := first | exact dsch | fail) only [go_sem, ↓reduceIte, Nat.reduceEqDiff, h0, h3, h4, h5, h6, hx, hr]
            exact hkl
          . rw [hx] at hr
            simp -implicitDefEqProofs (disch := first | exact dsch | fail) only [go_sem, ↓reduceIte, Nat.reduceEqDiff, h0, h3, h4, h5, h6, hx, hr, List.append_assoc]
            exact hkl
        . obtain rfl : k = a.length := by omega
          simp -implicitDefEqProofs (disch := first | exact dsch | fail) only [go_sem, ↓reduceIte, Nat.reduceEqDiff, h0, h3, h4, h5, h6, pto_succ]
          exact hlt
      . simp -implicitDefEqProofs (disch := first | exact dsch | fail) only [go_sem, ↓reduceIte, Nat.reduceEqDiff, h0, h3, h4, h5, show prow (has a) i 0 = [] from rfl]
    . obtain rfl : i = a.length := by omega
      simp -implicitDefEqProofs (disch := first | exact dsch | fail) only [go_sem, ↓reduceIte, Nat.reduceEqDiff, h0, h3, h4, h5, pto_all]
      unfold frV
      cases he : (pairsR a).isEmpty
      . exact acc_expV_n (R := []) he
      . exact acc_expV_e he
  . simp -implicitDefEqProofs (disch := first | exact dsch | fail) only [go_sem, ↓reduceIte, Nat.reduceEqDiff]
    exact ⟨rfl, rfl⟩
theorem pu_rPairs_n {a : Rl} (ha : a.length <= 32) (h : (pairsR a).isEmpty = false) {K : Kp} : @Pu _ Tryz.prog 157 [enc a] K = K.k (.fr 2 false ((pairsR a).map enc)) := by
  rw [(ref05_Pairs ha).pu, frV, h]; rfl
theorem pu_rPairs_e {a : Rl} (ha : a.length <= 32) (h : pairsR a = []) {K : Kp} : @Pu _ Tryz.prog 157 [enc a] K = K.k (.ex []) := by
  rw [(ref05_Pairs ha).pu, frV, h]; rfl
theorem pairs_nil {a : Rl} (h : (pairsR a).isEmpty = true) : pairsR a = [] := by simpa using h
theorem ref05_Clean {a : Rl} (ha : a.length <= 32) : Fun Tryz.prog 83 [enc a] (.t (enc (cln a))) := by
  refine Fun.go (b := false) Tryz.func83 rfl rfl (by kernel_rfl) (by kernel_rfl) ?_
  have h1 := pairsR_len a ha
  have h3 := pairs_ok (a := a) rfl
  have e : madeR a.length (pairsR a) = cln a := madeR_mk fun i k hi hk => mem_pair
  cases hp : (pairsR a).isEmpty
  . simp -implicitDefEqProofs (disch := first | exact dsch | fail) only [go_sem, ↓reduceIte, Nat.reduceEqDiff, fun K => pu_rPairs_n ha hp (K := K), map_t_enc, e]
  . rw [pairs_nil hp] at e h3
    simp -implicitDefEqProofs (disch := first | exact dsch | fail) only [go_sem, ↓reduceIte, Nat.reduceEqDiff, fun K => pu_rPairs_e ha (pairs_nil hp) (K := K), e]
@[go_sem] theorem pu_rClean {a : Rl} (ha : a.length <= 32) {K : Kp} : @Pu _ Tryz.prog 83 [enc a] K = K.k (.t (enc (cln a))) := (ref05_Clean ha).pu
theorem ref05_Same {a b : Rl} (ha : a.length <= 32) (hb : b.length <= 32) : Fun Tryz.prog 36 [enc a, enc b] (.t (.bool (sameR a b))) := by
  refine Fun.go (b := false) Tryz.func36 rfl rfl (by kernel_rfl) (by kernel_rfl) ?_
  rw [sameR_cln ha hb]
  by_cases hl : a.length = b.length
  . simp -implicitDefEqProofs (disch := first | exact dsch | fail) only [go_sem, ↓reduceIte, Nat.reduceEqDiff, hl]
    refine loop_up (n := b.length) (fun i e H => e 5 = .t (enc (cln a)) /\ e 6 = .t (enc (cln b)) /\ e 7 = .t (.int .i64 i) /\ ∀ k, k < i -> gd (cln a) k = gd (cln b) k) ?_ _ _ ?_
    . rintro i e H hi ⟨h5, h6, h7, hk⟩
      by_cases hlt : i < b.length
      . by_cases he : gd (cln a) i = gd (cln b) i
        . simp -implicitDefEqProofs (disch := first | exact dsch | fail) only [go_sem, ↓reduceIte, Nat.reduceEqDiff, h5, h6, h7, he]
          refine ⟨hlt, fun k hk' => ?_⟩
          by_cases e : k = i
          . subst e; exact he
          . exact hk k (by omega)
        . have hne : ¬ cln a = cln b := fun e => he (by rw [e])
          simp -implicitDefEqProofs (disch := first | exact dsch | fail) only [go_sem, ↓reduceIte, Nat.reduceEqDiff, h5, h6, h7, he, hne]
      . obtain rfl : i = b.length := by omega
        have heq : cln a = cln b := gd_ext (by rw [cln_len, cln_len, hl]) fun k hk' => hk k (by rw [cln_len] at hk'; omega)
        simp -implicitDefEqProofs (disch := first | exact dsch | fail) only [go_sem, ↓reduceIte, Nat.reduceEqDiff, h5, h6, h7]
        simp [heq]
    . simp -implicitDefEqProofs (disch := first | exact dsch | fail) only [go_sem, ↓reduceIte, Nat.reduceEqDiff]
      intro k hk; omega
  . have : ¬ cln a = cln b := fun e => hl (by rw [← cln_len a, e, cln_len])
    simp -implicitDefEqProofs (disch := first | exact dsch | fail) only [go_sem, ↓reduceIte, Nat.reduceEqDiff, hl, this]
@[go_sem] theorem pu_rSame {a b : Rl} (ha : a.length <= 32) (hb : b.length <= 32) {K : Kp} : @Pu _ Tryz.prog 36 [enc a, enc b] K = K.k (.t (.bool (sameR a b))) := (ref05_Same ha hb).pu
end Go.Sim
