/- A part of the proof of a law of module cupola: Rel. It has no conditions of its own. -/
import Derived.Test.YtoaboplnnhifpaaGreatTypes
import Derived.Test.YtoaboplnnhifpaaGreatEv
import Derived.Test.YtoaboplnnhifpaaGreatSimUu
import Derived.KernelRfl
set_option linter.all false
namespace Go.Sim
open Enc (enc)
open Go.Proofs

def allB (n : Nat) : U32 := BitVec.ofNat 32 (2 ^ n - 1)
theorem allB_get {n k : Nat} (h : n ≤ 32) : (allB n).getLsbD k = decide (k < n) := by
  unfold allB
  rw [BitVec.getLsbD_ofNat, Nat.testBit_two_pow_sub_one]
  by_cases h1 : k < n
  · simp [h1]; omega
  · simp [h1]

theorem rel_all (n : Nat) (h1 : n ≤ 32) : Fun Tryz.prog 136 [.int .i64 n] (.t (enc (allB n))) := by
  refine Fun.go (b := false) Tryz.func136 rfl rfl (by kernel_rfl) (by kernel_rfl) ?_
  have hp : (2 : Nat) ^ n ≤ 2 ^ 32 := Nat.pow_le_pow_right (by omega) h1
  have hp0 : 0 < (2 : Nat) ^ n := Nat.pow_pos (by omega)
  have e : (1 * 2 ^ n : Int) = ((2 ^ n : Nat) : Int) := by simp
  have hw : (((2 ^ n : Nat) : Int) - 1) = ((2 ^ n - 1 : Nat) : Int) := by omega
  have hb : ((2 ^ n - 1 : Nat) : Int) = ((allB n).toNat : Int) := by
    unfold allB; rw [BitVec.toNat_ofNat, Nat.mod_eq_of_lt (by omega)]
  simp -implicitDefEqProofs (disch := first | exact dsch | fail) only [go_sem, ↓reduceIte, Nat.reduceEqDiff, e, hw, hb]

def cleanF (l : Rl) (i : Nat) : U32 := gd l i &&& allB l.length
theorem cleanF_eq {l : Rl} (h : l.length ≤ 32) {i : Nat} (hi : i < l.length) : cleanF l i = rowB l.length (has l i) := by
  apply rowB_eq
  intro k hk
  unfold cleanF has
  rw [BitVec.getLsbD_and, allB_get h]
  by_cases h2 : k < l.length <;> simp [hi, h2]
theorem fill_end {α : Type} {f : Nat → α} {m : List α} {n : Nat} (h : m.length = n) : fillTo f m n = (List.range n).map f := by subst h; exact fill_all f m
theorem fill_rep_len {α : Type} {f : Nat → α} {a : α} {n i : Nat} (h : i ≤ n) : (fillTo f (List.replicate n a) i).length = n := by rw [fill_len] <;> simp; omega
theorem fill_rep_set {α : Type} {f : Nat → α} {a x : α} {n i : Nat} (h : i < n) (hx : x = f i) : (fillTo f (List.replicate n a) i).set i x = fillTo f (List.replicate n a) (i + 1) := by subst hx; exact fill_set (by simpa using h)

theorem rel_clean (l : Rl) (h : l.length ≤ 32) : Fun Tryz.prog 68 [enc l] (.fr 1 false ((cln l).map enc)) := by
  refine Fun.go (b := true) Tryz.func68 rfl rfl (by kernel_rfl) (by kernel_rfl) ?_
  simp -implicitDefEqProofs (disch := first | exact dsch | fail) only [go_sem, ↓reduceIte, Nat.reduceEqDiff, h]
  refine loop_up (n := l.length) (fun i e H => e 0 = .t (enc l) ∧ e 3 = .ref 0 l.length ∧ e 13 = .t (.int .i64 l.length) ∧ e 14 = .t (.int .i64 i) ∧ H = [⟨vs (fillTo (cleanF l) (List.replicate l.length 0#32) i), 1, false⟩]) ?_ _ _ ?_
  · rintro i e H hi ⟨h0, h3, h13, h14, rfl⟩
    have hl := fill_rep_len (f := cleanF l) (a := 0#32) hi
    by_cases hlt : i < l.length
    · simp -implicitDefEqProofs (disch := first | exact dsch | fail) only [go_sem, ↓reduceIte, Nat.reduceEqDiff, h0, h3, h13, h14, (rel_all l.length h).pu]
      refine ⟨hlt, ?_⟩
      congr 3; exact fill_rep_set hlt rfl
    · obtain rfl : i = l.length := by omega
      simp -implicitDefEqProofs (disch := first | exact dsch | fail) only [go_sem, ↓reduceIte, Nat.reduceEqDiff, h0, h3, h13, h14]
      rw [fill_end (by simp)]
      congr 3
      exact List.map_congr_left fun i hi => cleanF_eq h (List.mem_range.1 hi)
  · simp -implicitDefEqProofs (disch := first | exact dsch | fail) only [go_sem, ↓reduceIte, Nat.reduceEqDiff, fill_zero]

theorem rel_New (n : Nat) (h : n ≤ 32) : Fun Tryz.prog 57 [.int .i64 n] (.fr 1 false ((noneR n).map enc)) := by
  refine Fun.go (b := true) Tryz.func57 rfl rfl (by kernel_rfl) (by kernel_rfl) ?_
  simp -implicitDefEqProofs (disch := first | exact dsch | fail) only [go_sem, ↓reduceIte, Nat.reduceEqDiff]
  have e : List.replicate n 0#32 = noneR n := by
    apply mk_has (by simp)
    intro i k hi
    rw [gd_rep hi]; simp
  rw [e]

theorem rel_in (l : Rl) (i k : Int) : Fun Tryz.prog 211 [enc l, .int .i64 i, .int .i64 k] (.t (.bool (decide (0 ≤ i ∧ i < l.length ∧ 0 ≤ k ∧ k < l.length)))) := by
  refine Fun.go (b := false) Tryz.func211 rfl rfl (by kernel_rfl) (by kernel_rfl) ?_
  by_cases h1 : 0 ≤ i <;> by_cases h2 : i < l.length <;> by_cases h3 : 0 ≤ k <;> by_cases h4 : k < l.length <;> simp -implicitDefEqProofs (disch := first | exact dsch | fail) only [go_sem, ↓reduceIte, Nat.reduceEqDiff, h1, h2, h3, h4, true_and, false_and, and_true, and_false, and_self]


theorem has_true {l : Rl} {i k : Nat} (hi : i < l.length) (hk : k < l.length) : has l i k = (gd l i).getLsbD k := by simp [has, hi, hk]
theorem putRow {l : Rl} (hl : l.length ≤ 32) {i k : Nat} (hi : i < l.length) (hk : k < l.length) : (cln l).set i (gd (cln l) i ||| 1#32 <<< k) = putR l i k := by
  apply mk_has (by rw [List.length_set, cln_len])
  intro a b ha
  by_cases h : a = i
  · subst h
    rw [gd_set_eq (by rw [cln_len]; exact hi), BitVec.getLsbD_or, cln_gd hi, rowB_get, BitVec.getLsbD_shiftLeft]
    by_cases hb : b < l.length
    · by_cases hbk : b = k
      · subst hbk; simp [hb]; omega
      · simp only [hb, hbk, decide_true, Bool.true_and, Int.natCast_inj, decide_false, Bool.or_false, Bool.and_false]
        have : b < 32 := by omega
        simp [this]
        intro h1
        rcases Nat.lt_or_ge b k with h2 | h2
        · omega
        · have : b - k ≠ 0 := by omega
          simp [this]
    · have hbk : b ≠ k := by omega
      simp [hb]
      intro h1 h2
      omega
  · rw [gd_set_ne (fun e => h e.symm), cln_gd ha, rowB_get]
    have hne : ¬ (a : Int) = (i : Int) := by omega
    by_cases hb : b < l.length
    · have : b < 32 := by omega
      have e2 : (decide ((a : Int) = (i : Int)) && decide ((b : Int) = (k : Int))) = false := by rw [decide_eq_false hne]; rfl
      rw [e2]
      simp [hb, this]
    · simp [hb]
theorem put_out {l : Rl} {x y : Int} (h : ¬ (0 ≤ x ∧ x < l.length ∧ 0 ≤ y ∧ y < l.length)) : cln l = putR l x y := by
  unfold cln putR
  apply mk_ext
  intro i k hi hk
  by_cases h1 : (i : Int) = x
  · by_cases h2 : (k : Int) = y
    · omega
    · simp [h2]
  · simp [h1]

theorem rel_Put (l : Rl) (hl : l.length ≤ 32) (i k : Int) : Fun Tryz.prog 139 [enc l, .int .i64 i, .int .i64 k] (.t (enc (putR l i k))) := by
  refine Fun.go (b := false) Tryz.func139 rfl rfl (by kernel_rfl) (by kernel_rfl) ?_
  by_cases h : 0 ≤ i ∧ i < l.length ∧ 0 ≤ k ∧ k < l.length
  · obtain ⟨h1, h2, h3, h4⟩ := h
    obtain ⟨a, rfl⟩ := Int.eq_ofNat_of_zero_le h1
    obtain ⟨b, rfl⟩ := Int.eq_ofNat_of_zero_le h3
    simp -implicitDefEqProofs (disch := first | exact dsch | fail) only [go_sem, ↓reduceIte, Nat.reduceEqDiff, (rel_clean l hl).pu, (rel_in _ _ _).pu, map_t_enc]
    rw [putRow hl (by omega) (by omega)]
  · simp -implicitDefEqProofs (disch := first | exact dsch | fail) only [go_sem, ↓reduceIte, Nat.reduceEqDiff, (rel_clean l hl).pu, (rel_in _ _ _).pu, map_t_enc, h]
    rw [put_out h]

theorem rel_Has (l : Rl) (hl : l.length ≤ 32) (i k : Int) : Fun Tryz.prog 155 [enc l, .int .i64 i, .int .i64 k] (.t (.bool (hasZ l i k))) := by
  refine Fun.go (b := false) Tryz.func155 rfl rfl (by kernel_rfl) (by kernel_rfl) ?_
  by_cases h : 0 ≤ i ∧ i < l.length ∧ 0 ≤ k ∧ k < l.length
  · obtain ⟨h1, h2, h3, h4⟩ := h
    obtain ⟨a, rfl⟩ := Int.eq_ofNat_of_zero_le h1
    obtain ⟨b, rfl⟩ := Int.eq_ofNat_of_zero_le h3
    simp -implicitDefEqProofs (disch := first | exact dsch | fail) only [go_sem, ↓reduceIte, Nat.reduceEqDiff, (rel_in _ _ _).pu, h1, h2, h3, h4, true_and]
    have e1 : a < l.length := by omega
    have e2 : b < l.length := by omega
    simp [hasZ, has, e1, e2]
  · simp -implicitDefEqProofs (disch := first | exact dsch | fail) only [go_sem, ↓reduceIte, Nat.reduceEqDiff, (rel_in _ _ _).pu, h]
    simp only [hasZ]
    by_cases h1 : 0 ≤ i <;> by_cases h3 : 0 ≤ k <;> simp [h1, h3]
    rw [has_out]
    omega

def Two (f : FuncId) (g : U32 → U32 → U32) : Prop := ∀ x y : U32, Fun Tryz.prog f [.int .u32 (x.toNat : Int), .int .u32 (y.toNat : Int)] (.t (.int .u32 ((g x y).toNat : Int)))

theorem rel_both (f : FuncId) (g : U32 → U32 → U32) (hf : Two f g) (a b : Rl) (ha : a.length ≤ 32) (hb : b.length = a.length) :
    Fun Tryz.prog 137 [enc a, enc b, .fn f] (.t (enc ((List.range a.length).map fun i => g (gd (cln a) i) (gd (cln b) i)))) := by
  refine Fun.go (b := false) Tryz.func137 rfl rfl (by kernel_rfl) (by kernel_rfl) ?_
  simp -implicitDefEqProofs (disch := first | exact dsch | fail) only [go_sem, ↓reduceIte, Nat.reduceEqDiff, (rel_clean a ha).pu, (rel_clean b (by omega)).pu, map_t_enc]
  refine loop_up (n := a.length) (fun i e H => e 2 = .t (.fn f) ∧ e 7 = .ref 0 a.length ∧ e 8 = .ref 1 a.length ∧ e 21 = .t (.int .i64 a.length) ∧ e 22 = .t (.int .i64 i) ∧ H = [⟨vs (fillTo (fun i => g (gd (cln a) i) (gd (cln b) i)) (cln a) i), 1, false⟩, ⟨vs (cln b), 1, false⟩]) ?_ _ _ ?_
  · rintro i e H hi ⟨h2, h7, h8, h21, h22, rfl⟩
    have hl : (fillTo (fun i => g (gd (cln a) i) (gd (cln b) i)) (cln a) i).length = a.length := by rw [fill_len] <;> simp [cln_len]; omega
    by_cases hlt : i < a.length
    · simp -implicitDefEqProofs (disch := first | exact dsch | fail) only [go_sem, ↓reduceIte, Nat.reduceEqDiff, h2, h7, h8, h21, h22, (hf _ _).pu]
      refine ⟨hlt, ?_⟩
      congr 3
      rw [fill_ge (Nat.le_refl i)]
      exact fill_set (f := fun i => g (gd (cln a) i) (gd (cln b) i)) (by rw [cln_len]; exact hlt)
    · obtain rfl : i = a.length := by omega
      simp -implicitDefEqProofs (disch := first | exact dsch | fail) only [go_sem, ↓reduceIte, Nat.reduceEqDiff, h2, h7, h8, h21, h22]
      rw [fill_end (cln_len a)]
  · simp -implicitDefEqProofs (disch := first | exact dsch | fail) only [go_sem, ↓reduceIte, Nat.reduceEqDiff, fill_zero, hb]

theorem rel_Or (a b : Rl) (ha : a.length ≤ 32) (hb : b.length = a.length) : Fun Tryz.prog 69 [enc a, enc b] (.t (enc (orR a b))) := by
  refine Fun.go (b := false) Tryz.func69 rfl rfl (by kernel_rfl) (by kernel_rfl) ?_
  have h1 : Two 138 (· ||| ·) := by
    intro x y
    refine Fun.go (b := false) Tryz.func138 rfl rfl (by kernel_rfl) (by kernel_rfl) ?_
    simp -implicitDefEqProofs (disch := first | exact dsch | fail) only [go_sem, ↓reduceIte, Nat.reduceEqDiff]
  simp -implicitDefEqProofs (disch := first | exact dsch | fail) only [go_sem, ↓reduceIte, Nat.reduceEqDiff, (rel_both _ _ h1 a b ha hb).pu, map_t_enc]
  congr 3
  apply mk_has (by simp)
  intro i k hi
  rw [gd_range _ hi, BitVec.getLsbD_or, cln_gd hi, cln_gd (by omega), rowB_get, rowB_get, hb]
  by_cases hk : k < a.length
  · have : k < 32 := by omega
    simp [hk, this]
  · simp [hk]
theorem rel_And (a b : Rl) (ha : a.length ≤ 32) (hb : b.length = a.length) : Fun Tryz.prog 135 [enc a, enc b] (.t (enc (andR a b))) := by
  refine Fun.go (b := false) Tryz.func135 rfl rfl (by kernel_rfl) (by kernel_rfl) ?_
  have h1 : Two 210 (· &&& ·) := by
    intro x y
    refine Fun.go (b := false) Tryz.func210 rfl rfl (by kernel_rfl) (by kernel_rfl) ?_
    simp -implicitDefEqProofs (disch := first | exact dsch | fail) only [go_sem, ↓reduceIte, Nat.reduceEqDiff]
  simp -implicitDefEqProofs (disch := first | exact dsch | fail) only [go_sem, ↓reduceIte, Nat.reduceEqDiff, (rel_both _ _ h1 a b ha hb).pu, map_t_enc]
  congr 3
  apply mk_has (by simp)
  intro i k hi
  rw [gd_range _ hi, BitVec.getLsbD_and, cln_gd hi, cln_gd (by omega), rowB_get, rowB_get, hb]
  by_cases hk : k < a.length
  · have : k < 32 := by omega
    simp [hk, this]
  · simp [hk]

theorem seq1_does {H : Heap} {y : Rl} {n : Nat} (hy : y.length = n) (hn : n ≤ 32) {st : Bool} (h1 : H[1]? = some ⟨[.ref 0 n], 1, false⟩) (h0 : H[0]? = some ⟨vs y, 1, st⟩) (x z : U32) :
    Comes Tryz.prog 206 [.t (.int .u32 (x.toNat : Int)), .t (.int .u32 (z.toNat : Int)), .ptr 1 1 0 0] H (.t (.int .u32 ((seqAcc x y n).toNat : Int))) H true := by
  refine Comes.heap (by simp only [go_sem]) ?_
  refine FunH.go Tryz.func206 rfl rfl (by kernel_rfl) ?_
  simp -implicitDefEqProofs (disch := first | exact dsch | fail) only [go_sem, ↓reduceIte, Nat.reduceEqDiff, h1, h0]
  refine loop_up (n := n) (fun i e H' => e 0 = .t (.int .u32 (x.toNat : Int)) ∧ e 2 = .ptr 1 1 0 0 ∧ e 6 = .t (.int .u32 ((seqAcc x y i).toNat : Int)) ∧ e 9 = .t (.int .i64 n) ∧ e 10 = .t (.int .i64 i) ∧ H' = H) ?_ _ _ ?_
  · rintro i e H' hi ⟨h_0, h_2, h_6, h_9, h_10, rfl⟩
    by_cases hlt : i < n
    · cases hx : x.getLsbD i
      · simp -implicitDefEqProofs (disch := first | exact dsch | fail) only [go_sem, ↓reduceIte, Nat.reduceEqDiff, h1, h0, h_0, h_2, h_6, h_9, h_10, hx, seqAcc]
        exact hlt
      · simp -implicitDefEqProofs (disch := first | exact dsch | fail) only [go_sem, ↓reduceIte, Nat.reduceEqDiff, h1, h0, h_0, h_2, h_6, h_9, h_10, hx, seqAcc]
        exact hlt
    · obtain rfl : i = n := by omega
      simp -implicitDefEqProofs (disch := first | exact dsch | fail) only [go_sem, ↓reduceIte, Nat.reduceEqDiff, h1, h0, h_0, h_2, h_6, h_9, h_10]
  · simp -implicitDefEqProofs (disch := first | exact dsch | fail) only [go_sem, ↓reduceIte, Nat.reduceEqDiff, seqAcc]

theorem both_seq (a b : Rl) (ha : a.length ≤ 32) (hb : b.length = a.length) :
    Comes Tryz.prog 137 [.t (enc a), .t (enc b), .fn 206 [] [.ptr 1 1 0 0]] [⟨vs (cln b), 1, false⟩, ⟨[.ref 0 a.length], 1, false⟩] (.ref 2 a.length)
      [⟨vs (cln b), 1, false⟩, ⟨[.ref 0 a.length], 1, false⟩, ⟨vs (seqR a b), 1, false⟩, ⟨vs (cln b), 1, false⟩] true := by
  refine Comes.heap (by simp only [go_sem]) ?_
  refine FunH.go Tryz.func137 rfl rfl (by kernel_rfl) ?_
  have hbl : (cln b).length = a.length := by rw [cln_len]; exact hb
  simp -implicitDefEqProofs (disch := first | exact dsch | fail) only [go_sem, ↓reduceIte, Nat.reduceEqDiff, (rel_clean a ha).pu, (rel_clean b (by omega)).pu, map_t_enc, hb]
  refine loop_up (n := a.length) (fun i e H => e 2 = .fn 206 [] [.ptr 1 1 0 0] ∧ e 7 = .ref 2 a.length ∧ e 8 = .ref 3 a.length ∧ e 21 = .t (.int .i64 a.length) ∧ e 22 = .t (.int .i64 i) ∧
    H = [⟨vs (cln b), 1, false⟩, ⟨[.ref 0 a.length], 1, false⟩, ⟨vs (fillTo (fun i => seqAcc (gd (cln a) i) (cln b) a.length) (cln a) i), 1, false⟩, ⟨vs (cln b), 1, false⟩]) ?_ _ _ ?_
  · rintro i e H hi ⟨h2, h7, h8, h21, h22, rfl⟩
    have hl : (fillTo (fun i => seqAcc (gd (cln a) i) (cln b) a.length) (cln a) i).length = a.length := by rw [fill_len] <;> simp [cln_len]; omega
    by_cases hlt : i < a.length
    · simp -implicitDefEqProofs (disch := first | exact dsch | fail) only [go_sem, ↓reduceIte, Nat.reduceEqDiff, h2, h7, h8, h21, h22]
      refine (seq1_does (y := cln b) (n := a.length) hbl ha rfl rfl _ _).go ?_
      simp -implicitDefEqProofs (disch := first | exact dsch | fail) only [go_sem, ↓reduceIte, Nat.reduceEqDiff, h2, h7, h8, h21, h22]
      refine ⟨hlt, ?_⟩
      congr 3
      rw [fill_ge (Nat.le_refl i)]
      exact congrArg (fun z => (⟨vs z, 1, false⟩ : Obj)) (fill_set (f := fun i => seqAcc (gd (cln a) i) (cln b) a.length) (by rw [cln_len]; exact hlt))
    · obtain rfl : i = a.length := by omega
      simp -implicitDefEqProofs (disch := first | exact dsch | fail) only [go_sem, ↓reduceIte, Nat.reduceEqDiff, h2, h7, h8, h21, h22]
      rw [fill_end (cln_len a), show (List.range a.length).map (fun i => seqAcc (gd (cln a) i) (cln b) a.length) = seqR a b from List.map_congr_left fun i hi => seqAcc_eq hb ha (List.mem_range.1 hi)]
  · simp -implicitDefEqProofs (disch := first | exact dsch | fail) only [go_sem, ↓reduceIte, Nat.reduceEqDiff, fill_zero]

theorem rel_Seq (a b : Rl) (ha : a.length ≤ 32) (hb : b.length = a.length) : Fun Tryz.prog 124 [enc a, enc b] (.t (enc (seqR a b))) := by
  refine Fun.go (b := false) Tryz.func124 rfl rfl (by kernel_rfl) (by kernel_rfl) ?_
  simp -implicitDefEqProofs (disch := first | exact dsch | fail) only [go_sem, ↓reduceIte, Nat.reduceEqDiff, (rel_clean b (by omega)).pu, map_t_enc, hb]
  refine (both_seq a b ha hb).go ?_
  simp -implicitDefEqProofs (disch := first | exact dsch | fail) only [go_sem, ↓reduceIte, Nat.reduceEqDiff]

theorem rel_Only (a : Rl) (ha : a.length ≤ 32) (f t : U32) : Fun Tryz.prog 122 [enc a, .int .u32 (f.toNat : Int), .int .u32 (t.toNat : Int)] (.t (enc (onlyR a f t))) := by
  refine Fun.go (b := false) Tryz.func122 rfl rfl (by kernel_rfl) (by kernel_rfl) ?_
  simp -implicitDefEqProofs (disch := first | exact dsch | fail) only [go_sem, ↓reduceIte, Nat.reduceEqDiff, (rel_clean a ha).pu, map_t_enc]
  refine loop_up (n := a.length) (fun i e H => e 1 = .t (.int .u32 (f.toNat : Int)) ∧ e 2 = .t (.int .u32 (t.toNat : Int)) ∧ e 7 = .ref 0 a.length ∧ e 12 = .t (.int .i64 a.length) ∧ e 13 = .t (.int .i64 i) ∧
    H = [⟨vs (fillTo (fun i => (if f.getLsbD i then gd (cln a) i else 0#32) &&& t) (cln a) i), 1, false⟩]) ?_ _ _ ?_
  · rintro i e H hi ⟨h1, h2, h7, h12, h13, rfl⟩
    have hl : (fillTo (fun i => (if f.getLsbD i then gd (cln a) i else 0#32) &&& t) (cln a) i).length = a.length := by rw [fill_len] <;> simp [cln_len]; omega
    by_cases hlt : i < a.length
    · have hset := fill_set (f := fun i => (if f.getLsbD i then gd (cln a) i else 0#32) &&& t) (m := cln a) (i := i) (by rw [cln_len]; exact hlt)
      cases hx : f.getLsbD i
      · simp only [hx] at hset
        simp -implicitDefEqProofs (disch := first | exact dsch | fail) only [go_sem, ↓reduceIte, Nat.reduceEqDiff, h1, h2, h7, h12, h13, hx, gd_set_eq, List.set_set]
        refine ⟨hlt, ?_⟩
        congr 3
      · simp only [hx] at hset
        simp -implicitDefEqProofs (disch := first | exact dsch | fail) only [go_sem, ↓reduceIte, Nat.reduceEqDiff, h1, h2, h7, h12, h13, hx]
        refine ⟨hlt, ?_⟩
        congr 3
        rw [fill_ge (Nat.le_refl i)]
        exact hset
    · obtain rfl : i = a.length := by omega
      simp -implicitDefEqProofs (disch := first | exact dsch | fail) only [go_sem, ↓reduceIte, Nat.reduceEqDiff, h1, h2, h7, h12, h13]
      rw [fill_end (cln_len a)]
      congr 3
      apply mk_has (by simp)
      intro i k hi
      rw [gd_range _ hi, BitVec.getLsbD_and]
      cases hx : f.getLsbD i
      · simp
      · simp only [if_true, Bool.true_and]
        rw [cln_gd hi, rowB_get]
        by_cases hk : k < a.length
        · have : k < 32 := by omega
          simp [hk, this]
        · simp [hk]
  · simp -implicitDefEqProofs (disch := first | exact dsch | fail) only [go_sem, ↓reduceIte, Nat.reduceEqDiff, fill_zero]

theorem rel_Cross (n : Nat) (hn : n ≤ 32) (f t : U32) : Fun Tryz.prog 208 [.int .i64 n, .int .u32 (f.toNat : Int), .int .u32 (t.toNat : Int)] (.t (enc (crossR n f t))) := by
  refine Fun.go (b := false) Tryz.func208 rfl rfl (by kernel_rfl) (by kernel_rfl) ?_
  simp -implicitDefEqProofs (disch := first | exact dsch | fail) only [go_sem, ↓reduceIte, Nat.reduceEqDiff, (rel_New n hn).pu, map_t_enc]
  refine loop_up (n := n) (fun i e H => e 0 = .t (.int .i64 n) ∧ e 1 = .t (.int .u32 (f.toNat : Int)) ∧ e 2 = .t (.int .u32 (t.toNat : Int)) ∧ e 7 = .ref 0 n ∧ e 12 = .t (.int .i64 n) ∧ e 13 = .t (.int .i64 i) ∧
    H = [⟨vs (fillTo (fun _ => allB n) (noneR n) i), 1, false⟩]) ?_ _ _ ?_
  · rintro i e H hi ⟨h0, h1, h2, h7, h12, h13, rfl⟩
    have hl : (fillTo (fun _ => allB n) (noneR n) i).length = n := by rw [fill_len] <;> simp [noneR_len]; omega
    by_cases hlt : i < n
    · simp -implicitDefEqProofs (disch := first | exact dsch | fail) only [go_sem, ↓reduceIte, Nat.reduceEqDiff, h0, h1, h2, h7, h12, h13, (rel_all n hn).pu]
      refine ⟨hlt, ?_⟩
      congr 3
      exact fill_set (f := fun _ => allB n) (by rw [noneR_len]; exact hlt)
    · obtain rfl : i = n := by omega
      simp -implicitDefEqProofs (disch := first | exact dsch | fail) only [go_sem, ↓reduceIte, Nat.reduceEqDiff, h0, h1, h2, h7, h12, h13, (rel_Only _ (by rw [hl]; exact hn) f t).pu]
      rw [fill_end (noneR_len i)]
      congr 3
      unfold onlyR crossR
      rw [List.length_map, List.length_range]
      apply mk_ext
      intro a b ha hb
      rw [has_true (by simpa using ha) (by simpa using hb), gd_range _ ha, allB_get hn]
      simp [hb]
  · simp -implicitDefEqProofs (disch := first | exact dsch | fail) only [go_sem, ↓reduceIte, Nat.reduceEqDiff, fill_zero]

theorem rel_Plus (a : Rl) (ha : a.length ≤ 32) : Fun Tryz.prog 140 [enc a] (.t (enc (plusR a))) := by
  refine Fun.go (b := false) Tryz.func140 rfl rfl (by kernel_rfl) (by kernel_rfl) ?_
  simp -implicitDefEqProofs (disch := first | exact dsch | fail) only [go_sem, ↓reduceIte, Nat.reduceEqDiff, (rel_clean a ha).pu, map_t_enc]
  refine loop_up (n := a.length) (fun j e H => e 3 = .ref 0 a.length ∧ e 9 = .t (.int .i64 a.length) ∧ e 10 = .t (.int .i64 j) ∧ H = [⟨vs (mk a.length (midB a j)), 1, false⟩]) ?_ _ _ ?_
  · rintro j e H hj ⟨h3, h9, h10, rfl⟩
    by_cases hlt : j < a.length
    · simp -implicitDefEqProofs (disch := first | exact dsch | fail) only [go_sem, ↓reduceIte, Nat.reduceEqDiff, h3, h9, h10]
      refine loop_up (n := a.length) (fun i e H => e 3 = .ref 0 a.length ∧ e 4 = .t (.int .i64 j) ∧ e 9 = .t (.int .i64 a.length) ∧ e 10 = .t (.int .i64 j) ∧ e 14 = .t (.int .i64 a.length) ∧ e 15 = .t (.int .i64 i) ∧ H = [⟨vs (fillTo (fun i => rowB a.length (midB a (j + 1) i)) (mk a.length (midB a j)) i), 1, false⟩]) ?_ _ _ ?_
      · rintro i e H hi ⟨h3, h4, h9, h10, h14, h15, rfl⟩
        have hl : (fillTo (fun i => rowB a.length (midB a (j + 1) i)) (mk a.length (midB a j)) i).length = a.length := by rw [fill_len] <;> simp [mk_len]; omega
        by_cases hil : i < a.length
        · have hset := fill_set (f := fun i => rowB a.length (midB a (j + 1) i)) (m := mk a.length (midB a j)) (i := i) (by rw [mk_len]; exact hil)
          have hgi : gd (fillTo (fun i => rowB a.length (midB a (j + 1) i)) (mk a.length (midB a j)) i) i = rowB a.length (midB a j i) := by rw [fill_ge (Nat.le_refl i), mk_gd hil]
          have hgj : gd (fillTo (fun i => rowB a.length (midB a (j + 1) i)) (mk a.length (midB a j)) i) j = rowB a.length (midB a j j) := by
            by_cases hji : j < i
            · rw [fill_lt hji]
              congr 1
              funext k
              rw [midB_step]
              cases midB a j j k <;> cases midB a j j j <;> rfl
            · rw [fill_ge (by omega), mk_gd hlt]
          have hbit : (rowB a.length (midB a j i)).getLsbD j = midB a j i j := by rw [rowB_get]; simp [hlt]; omega
          cases hx : midB a j i j
          · simp -implicitDefEqProofs (disch := first | exact dsch | fail) only [go_sem, ↓reduceIte, Nat.reduceEqDiff, h3, h4, h9, h10, h14, h15, hgi, hbit, hx]
            refine ⟨hil, ?_⟩
            congr 3
            rw [← hset]
            have e1 : rowB a.length (midB a (j + 1) i) = gd (fillTo (fun i => rowB a.length (midB a (j + 1) i)) (mk a.length (midB a j)) i) i := by
              rw [hgi]; congr 1; funext k; rw [midB_step, hx]; simp
            rw [e1]
            apply gd_ext (by simp)
            intro k hk
            by_cases hki : i = k
            · subst hki; rw [gd_set_eq hk]
            · rw [gd_set_ne hki]
          · simp -implicitDefEqProofs (disch := first | exact dsch | fail) only [go_sem, ↓reduceIte, Nat.reduceEqDiff, h3, h4, h9, h10, h14, h15, hgi, hgj, hbit, hx]
            refine ⟨hil, ?_⟩
            congr 3
            rw [← hset]
            congr 1
            apply rowB_eq
            intro k hk
            rw [BitVec.getLsbD_or, rowB_get, rowB_get, midB_step, hx]
            simp [hk]
            cases decide (k < a.length) <;> simp
        · obtain rfl : i = a.length := by omega
          simp -implicitDefEqProofs (disch := first | exact dsch | fail) only [go_sem, ↓reduceIte, Nat.reduceEqDiff, h3, h4, h9, h10, h14, h15]
          refine ⟨hlt, ?_⟩
          rw [fill_end (by rw [mk_len])]
          rfl
      · simp -implicitDefEqProofs (disch := first | exact dsch | fail) only [go_sem, ↓reduceIte, Nat.reduceEqDiff, h3, h9, h10, fill_zero]
    · obtain rfl : j = a.length := by omega
      simp -implicitDefEqProofs (disch := first | exact dsch | fail) only [go_sem, ↓reduceIte, Nat.reduceEqDiff, h3, h9, h10]
      rw [midB_all]; rfl
  · simp -implicitDefEqProofs (disch := first | exact dsch | fail) only [go_sem, ↓reduceIte, Nat.reduceEqDiff]
    rw [midB_zero]; rfl

theorem rel_Acyclic (a : Rl) (ha : a.length ≤ 32) : Fun Tryz.prog 71 [enc a] (.t (.bool (acyR a))) := by
  refine Fun.go (b := false) Tryz.func71 rfl rfl (by kernel_rfl) (by kernel_rfl) ?_
  simp -implicitDefEqProofs (disch := first | exact dsch | fail) only [go_sem, ↓reduceIte, Nat.reduceEqDiff, (rel_Plus a ha).pu]
  refine loop_up (n := a.length) (fun i e H => e 6 = .t (enc (plusR a)) ∧ e 7 = .t (.int .i64 a.length) ∧ e 8 = .t (.int .i64 i) ∧ H = [] ∧ ∀ k, k < i → wayB a k k = false) ?_ _ _ ?_
  · rintro i e H hi ⟨h6, h7, h8, rfl, hw⟩
    by_cases hlt : i < a.length
    · have hg : gd (plusR a) i = rowB a.length (wayB a i) := mk_gd hlt
      have hbit : (rowB a.length (wayB a i)).getLsbD i = wayB a i i := by rw [rowB_get]; simp [hlt]; omega
      cases hx : wayB a i i
      · simp -implicitDefEqProofs (disch := first | exact dsch | fail) only [go_sem, ↓reduceIte, Nat.reduceEqDiff, h6, h7, h8, hg, hbit, hx]
        refine ⟨hlt, fun k hk => ?_⟩
        by_cases e : k = i
        · subst e; exact hx
        · exact hw k (by omega)
      · simp -implicitDefEqProofs (disch := first | exact dsch | fail) only [go_sem, ↓reduceIte, Nat.reduceEqDiff, h6, h7, h8, hg, hbit, hx]
        congr 3
        have : acyR a = false := by
          rw [acyR, List.all_eq_false]
          exact ⟨i, List.mem_range.2 hlt, by simp [hx]⟩
        rw [this]
    · obtain rfl : i = a.length := by omega
      simp -implicitDefEqProofs (disch := first | exact dsch | fail) only [go_sem, ↓reduceIte, Nat.reduceEqDiff, h6, h7, h8]
      have : acyR a = true := by
        rw [acyR, List.all_eq_true]
        intro k hk
        simp [hw k (List.mem_range.1 hk)]
      rw [this]
  · simp -implicitDefEqProofs (disch := first | exact dsch | fail) only [go_sem, ↓reduceIte, Nat.reduceEqDiff]
    intro k hk; omega

theorem rel_Pairs (a : Rl) (ha : a.length ≤ 32) : Fun Tryz.prog 27 [enc a] (.t (enc (pairsR a))) := by
  refine Fun.go (b := false) Tryz.func27 rfl rfl (by kernel_rfl) (by kernel_rfl) ?_
  simp -implicitDefEqProofs (disch := first | exact dsch | fail) only [go_sem, ↓reduceIte, Nat.reduceEqDiff, (rel_clean a ha).pu, map_t_enc]
  refine loop_up (n := a.length) (fun i e H => e 0 = .t (enc a) ∧ e 3 = accV 1 (pairsTo a i) ∧ e 8 = .ref 0 a.length ∧ e 9 = .t (.int .i64 a.length) ∧ e 10 = .t (.int .i64 i) ∧ H = ⟨vs (cln a), 1, false⟩ :: accO (pairsTo a i)) ?_ _ _ ?_
  · rintro i e H hi ⟨h0, h3, h8, h9, h10, rfl⟩
    by_cases hlt : i < a.length
    · simp -implicitDefEqProofs (disch := first | exact dsch | fail) only [go_sem, ↓reduceIte, Nat.reduceEqDiff, h0, h3, h8, h9, h10]
      have hp1 := pairsTo_len a i
      have hp2 : i * a.length ≤ 32 * 32 := Nat.mul_le_mul (by omega) ha
      have hgi : gd (cln a) i = rowB a.length (has a i) := cln_gd hlt
      refine loop_up (n := a.length) (fun k e H => e 0 = .t (enc a) ∧ e 3 = accV 1 (pairsTo a i ++ rowPairs a i k) ∧ e 4 = .t (.int .i64 i) ∧ e 5 = .t (.int .u32 ((rowB a.length (has a i)).toNat : Int)) ∧ e 8 = .ref 0 a.length ∧ e 9 = .t (.int .i64 a.length) ∧ e 10 = .t (.int .i64 i) ∧ e 16 = .t (.int .i64 a.length) ∧ e 17 = .t (.int .i64 k) ∧ H = ⟨vs (cln a), 1, false⟩ :: accO (pairsTo a i ++ rowPairs a i k)) ?_ _ _ ?_
      · rintro k e H hk ⟨h0, h3, h4, h5, h8, h9, h10, h16, h17, rfl⟩
        by_cases hkl : k < a.length
        · have hbit : (rowB a.length (has a i)).getLsbD k = has a i k := by rw [rowB_get]; simp [hkl]; omega
          have hr := rowPairs_succ a i k
          have hrl := rowPairs_len a i k
          have hl : (pairsTo a i ++ rowPairs a i k).length ≤ 1100 := by rw [List.length_append]; omega
          cases hx : has a i k
          · rw [hx] at hr
            simp -implicitDefEqProofs (disch := first | exact dsch | fail) only [go_sem, ↓reduceIte, Nat.reduceEqDiff, h0, h3, h4, h5, h8, h9, h10, h16, h17, hbit, hx, hr]
            exact hkl
          · rw [hx] at hr
            simp -implicitDefEqProofs (disch := first | exact dsch | fail) only [go_sem, ↓reduceIte, Nat.reduceEqDiff, h0, h3, h4, h5, h8, h9, h10, h16, h17, hbit, hx, hr, List.append_assoc]
            exact hkl
        · obtain rfl : k = a.length := by omega
          simp -implicitDefEqProofs (disch := first | exact dsch | fail) only [go_sem, ↓reduceIte, Nat.reduceEqDiff, h0, h3, h4, h5, h8, h9, h10, h16, h17, pairsTo_succ]
          exact hlt
      · simp -implicitDefEqProofs (disch := first | exact dsch | fail) only [go_sem, ↓reduceIte, Nat.reduceEqDiff, h0, h3, h8, h9, h10, hgi, show rowPairs a i 0 = [] from rfl, List.append_nil]
    · obtain rfl : i = a.length := by omega
      simp -implicitDefEqProofs (disch := first | exact dsch | fail) only [go_sem, ↓reduceIte, Nat.reduceEqDiff, h0, h3, h8, h9, h10]
      rfl
  · simp -implicitDefEqProofs (disch := first | exact dsch | fail) only [go_sem, ↓reduceIte, Nat.reduceEqDiff]
    exact ⟨rfl, rfl⟩

section
variable {K : Kp}
@[go_sem] theorem pu_all {n : Nat} (h : n ≤ 32) : @Pu _ Tryz.prog 136 [.int .i64 n] K = K.k (.t (.int .u32 ((allB n).toNat : Int))) := (rel_all n h).pu
@[go_sem] theorem pu_clean {l : Rl} (h : l.length ≤ 32) : @Pu _ Tryz.prog 68 [enc l] K = K.k (.fr 1 false ((cln l).map enc)) := (rel_clean l h).pu
@[go_sem] theorem pu_New {n : Nat} (h : n ≤ 32) : @Pu _ Tryz.prog 57 [.int .i64 n] K = K.k (.fr 1 false ((noneR n).map enc)) := (rel_New n h).pu
@[go_sem] theorem pu_Put {l : Rl} {i k : Int} (h : l.length ≤ 32) : @Pu _ Tryz.prog 139 [enc l, .int .i64 i, .int .i64 k] K = K.k (.t (enc (putR l i k))) := (rel_Put l h i k).pu
@[go_sem] theorem pu_Has {l : Rl} {i k : Int} (h : l.length ≤ 32) : @Pu _ Tryz.prog 155 [enc l, .int .i64 i, .int .i64 k] K = K.k (.t (.bool (hasZ l i k))) := (rel_Has l h i k).pu
@[go_sem] theorem pu_Or {a b : Rl} (ha : a.length ≤ 32) (hb : b.length = a.length) : @Pu _ Tryz.prog 69 [enc a, enc b] K = K.k (.t (enc (orR a b))) := (rel_Or a b ha hb).pu
@[go_sem] theorem pu_And {a b : Rl} (ha : a.length ≤ 32) (hb : b.length = a.length) : @Pu _ Tryz.prog 135 [enc a, enc b] K = K.k (.t (enc (andR a b))) := (rel_And a b ha hb).pu
@[go_sem] theorem pu_Seq {a b : Rl} (ha : a.length ≤ 32) (hb : b.length = a.length) : @Pu _ Tryz.prog 124 [enc a, enc b] K = K.k (.t (enc (seqR a b))) := (rel_Seq a b ha hb).pu
@[go_sem] theorem pu_Only {a : Rl} {f t : U32} (ha : a.length ≤ 32) : @Pu _ Tryz.prog 122 [enc a, .int .u32 (f.toNat : Int), .int .u32 (t.toNat : Int)] K = K.k (.t (enc (onlyR a f t))) := (rel_Only a ha f t).pu
@[go_sem] theorem pu_Cross {n : Nat} {f t : U32} (hn : n ≤ 32) : @Pu _ Tryz.prog 208 [.int .i64 n, .int .u32 (f.toNat : Int), .int .u32 (t.toNat : Int)] K = K.k (.t (enc (crossR n f t))) := (rel_Cross n hn f t).pu
@[go_sem] theorem pu_Plus {a : Rl} (ha : a.length ≤ 32) : @Pu _ Tryz.prog 140 [enc a] K = K.k (.t (enc (plusR a))) := (rel_Plus a ha).pu
@[go_sem] theorem pu_Acyclic {a : Rl} (ha : a.length ≤ 32) : @Pu _ Tryz.prog 71 [enc a] K = K.k (.t (.bool (acyR a))) := (rel_Acyclic a ha).pu
@[go_sem] theorem pu_Pairs {a : Rl} (ha : a.length ≤ 32) : @Pu _ Tryz.prog 27 [enc a] K = K.k (.t (enc (pairsR a))) := (rel_Pairs a ha).pu
end
end Go.Sim
