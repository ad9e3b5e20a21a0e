/- A part of the proof of a law of module cupola: StT. It has no conditions of its own. -/
import Derived.Test.YtkfceeaokfdmfaaDoorStS
set_option linter.all false
set_option maxRecDepth 100000
namespace Go.Sim
open Enc (enc)
open Go.Proofs
open Go.Lib (itoa decDigits)
theorem mkB_app (a b : List UInt8) : mkB a ++ mkB b = mkB (a ++ b) := by
  rw [← mkB_of (mkB a ++ mkB b), app_list, mkB_list, mkB_list]
theorem itoa_step {n : Int} (h : n ≤ -10 ∨ 10 ≤ n) : itoa n = itoa (n.tdiv 10) ++ [UInt8.ofNat (48 + (n.tmod 10).natAbs)] := by
  have hd : (n.tdiv 10).natAbs = n.natAbs / 10 := Int.natAbs_tdiv n 10
  have hm : (n.tmod 10).natAbs = n.natAbs % 10 := Int.natAbs_tmod n 10
  rcases h with h | h
  · have h1 : n < 0 := by omega
    have h2 : n.tdiv 10 < 0 := by
      have e1 : n.tdiv 10 = -((-n).tdiv 10) := by rw [Int.neg_tdiv, Int.neg_neg]
      rw [e1, Int.tdiv_eq_ediv_of_nonneg (by omega)]; omega
    unfold Go.Lib.itoa
    rw [if_pos h1, if_pos h2, dec_step n.natAbs (by omega), hd, hm]; rfl
  · have h1 : ¬ n < 0 := by omega
    have h2 : ¬ n.tdiv 10 < 0 := by
      rw [Int.tdiv_eq_ediv_of_nonneg (by omega)]; omega
    unfold Go.Lib.itoa
    rw [if_neg h1, if_neg h2, dec_step n.toNat (by omega), hm]
    have e1 : n.natAbs = n.toNat := by omega
    have e2 : (n.tdiv 10).toNat = n.toNat / 10 := by omega
    rw [e1, e2]
theorem figB_step {n : Int} (h : n ≤ -10 ∨ 10 ≤ n) : figB n = figB (n.tdiv 10) ++ ⟨#[UInt8.ofNat (48 + (n.tmod 10).natAbs)]⟩ := by
  rw [figB_mk, figB_mk, itoa_step h]
  exact (mkB_app _ [_]).symm
theorem figB_pos {n : Int} (h0 : 0 ≤ n) (h1 : n < 10) : figB n = ⟨#[UInt8.ofNat (48 + n).toNat]⟩ := by
  unfold figB Go.Lib.itoa
  rw [if_neg (by omega), dec_small n.toNat (by omega), show (48 + n).toNat = 48 + n.toNat by omega]
theorem figB_neg {n : Int} (h0 : n < 0) (h1 : -10 < n) : figB n = ⟨#[45]⟩ ++ ⟨#[UInt8.ofNat (48 - n).toNat]⟩ := by
  rw [figB_mk]
  unfold Go.Lib.itoa
  rw [if_pos h0, dec_small n.natAbs (by omega), show (48 - n).toNat = 48 + n.natAbs by omega]
  exact (mkB_app [45] [_]).symm
theorem ref03_Figures (k : Nat) : ∀ n : Int, n.natAbs ≤ k → InR n → Fun Tryd.prog 49 [.int .i64 n] (.t (.str (figB n))) := by
  induction k using Nat.strongRecOn with
  | ind k ih =>
    intro n hk hn
    have hn' := hn
    unfold InR at hn'
    by_cases hs : -10 < n ∧ n < 10
    · obtain ⟨ha, hb⟩ := hs
      by_cases h0 : n < 0
      · have hw : IntKind.u8.wrap (48 - n) = 48 - n := wrap_u8 (by omega) (by omega)
        refine Fun.go (b := false) Tryd.func49 rfl rfl (by kernel_rfl) (by kernel_rfl) ?_
        simp -implicitDefEqProofs (disch := first | exact dsch | fail) only [go_sem, ↓reduceIte, Nat.reduceEqDiff, ha, hb, h0, hw]
        rw [figB_neg h0 ha]
      · have hw : IntKind.u8.wrap (48 + n) = 48 + n := wrap_u8 (by omega) (by omega)
        refine Fun.go (b := false) Tryd.func49 rfl rfl (by kernel_rfl) (by kernel_rfl) ?_
        simp -implicitDefEqProofs (disch := first | exact dsch | fail) only [go_sem, ↓reduceIte, Nat.reduceEqDiff, ha, hb, h0, hw]
        rw [figB_pos (by omega) hb]
    · have hq : (n.tdiv 10).natAbs = n.natAbs / 10 := Int.natAbs_tdiv n 10
      have hm : (n.tmod 10).natAbs = n.natAbs % 10 := Int.natAbs_tmod n 10
      have hin : InR (n.tdiv 10) := by unfold InR; omega
      have hsz := figB_size hin
      have hst := figB_step (n := n) (by omega)
      have pu : ∀ {K : Kp}, @Pu _ Tryd.prog 49 [.int .i64 (n.tdiv 10)] K = K.k (.t (.str (figB (n.tdiv 10)))) := (ih (n.natAbs / 10) (by omega) (n.tdiv 10) (by omega) hin).pu
      have hw0 : IntKind.i64.wrap (n.tdiv 10) = n.tdiv 10 := wrap_i64 (by omega) (by omega)
      have hno : (-10 < n) = False ∨ (n < 10) = False := by
        by_cases h : -10 < n
        · exact .inr (eq_false fun h2 => hs ⟨h, h2⟩)
        · exact .inl (eq_false h)
      by_cases h0 : n.tmod 10 < 0
      · have e : (48 + (0 - n.tmod 10)) = ((48 + (n.tmod 10).natAbs : Nat) : Int) := by omega
        have hw : IntKind.u8.wrap (48 + (0 - n.tmod 10)) = ((48 + (n.tmod 10).natAbs : Nat) : Int) := by rw [e]; exact wrap_u8 (by omega) (by omega)
        refine Fun.go (b := false) Tryd.func49 rfl rfl (by kernel_rfl) (by kernel_rfl) ?_
        rcases hno with ha | ha
        · simp -implicitDefEqProofs (disch := first | exact dsch | fail) only [go_sem, ↓reduceIte, Nat.reduceEqDiff, ha, h0, hw, hw0, binT_quo (show (10 : Int) ≠ 0 by decide), binT_rem (show (10 : Int) ≠ 0 by decide), pu]
          rw [hst]; rfl
        · by_cases hb : -10 < n
          · simp -implicitDefEqProofs (disch := first | exact dsch | fail) only [go_sem, ↓reduceIte, Nat.reduceEqDiff, ha, hb, h0, hw, hw0, binT_quo (show (10 : Int) ≠ 0 by decide), binT_rem (show (10 : Int) ≠ 0 by decide), pu]
            rw [hst]; rfl
          · simp -implicitDefEqProofs (disch := first | exact dsch | fail) only [go_sem, ↓reduceIte, Nat.reduceEqDiff, ha, hb, h0, hw, hw0, binT_quo (show (10 : Int) ≠ 0 by decide), binT_rem (show (10 : Int) ≠ 0 by decide), pu]
            rw [hst]; rfl
      · have e : (48 + n.tmod 10) = ((48 + (n.tmod 10).natAbs : Nat) : Int) := by omega
        have hw : IntKind.u8.wrap (48 + n.tmod 10) = ((48 + (n.tmod 10).natAbs : Nat) : Int) := by rw [e]; exact wrap_u8 (by omega) (by omega)
        refine Fun.go (b := false) Tryd.func49 rfl rfl (by kernel_rfl) (by kernel_rfl) ?_
        by_cases hb : -10 < n
        · have ha : ¬ n < 10 := fun h => hs ⟨hb, h⟩
          simp -implicitDefEqProofs (disch := first | exact dsch | fail) only [go_sem, ↓reduceIte, Nat.reduceEqDiff, ha, hb, h0, hw, hw0, binT_quo (show (10 : Int) ≠ 0 by decide), binT_rem (show (10 : Int) ≠ 0 by decide), pu]
          rw [hst]; rfl
        · simp -implicitDefEqProofs (disch := first | exact dsch | fail) only [go_sem, ↓reduceIte, Nat.reduceEqDiff, hb, h0, hw, hw0, binT_quo (show (10 : Int) ≠ 0 by decide), binT_rem (show (10 : Int) ≠ 0 by decide), pu]
          rw [hst]; rfl
@[go_sem] theorem pu_Figures {n : Int} (h : InR n) {K : Kp} : @Pu _ Tryd.prog 49 [.int .i64 n] K = K.k (.t (.str (figB n))) := (ref03_Figures _ n (Nat.le_refl _) h).pu

theorem listB_take {l : List Int} {i : Nat} (h : i < l.length) : listB (l.take (i + 1)) = (if 0 < i then listB (l.take i) ++ comma else listB (l.take i)) ++ figB (gd l i) := by
  have key : ∀ (a : List Int) (n : Int), listL (a ++ [n]) = (if a = [] then listL a else listL a ++ [44]) ++ itoa n := by
    intro a n
    cases a with
    | nil => rfl
    | cons m a =>
      rw [List.cons_append, listL_cons, if_neg (by simp), listL_cons]
      have : ∀ b : List Int, listT (b ++ [n]) = listT b ++ 44 :: itoa n := by
        intro b
        induction b with
        | nil => simp [listT]
        | cons x b ih => simp [listT, ih]
      rw [this]; simp
  rw [← mkB_of (listB (l.take (i + 1))), listB_list, ← take_gd h, key]
  by_cases h0 : 0 < i
  · rw [if_pos h0, if_neg (by intro e; have := congrArg List.length e; rw [List.length_take] at this; simp only [List.length_nil] at this; omega)]
    rw [← mkB_of (listB (l.take i) ++ comma ++ figB (gd l i))]
    congr 1
    rw [app_list, app_list, listB_list]; simp [comma, figB_mk, mkB_list]
  · have e : i = 0 := by omega
    subst e
    rw [if_neg h0, List.take_zero, if_pos rfl]
    rw [← mkB_of (listB [] ++ figB (gd l 0))]
    congr 1
theorem ref20_list {l : List Int} (hr : ∀ n ∈ l, InR n) (hl : l.length ≤ 1000000) : Fun Tryd.prog 50 [enc l] (.t (.str (listB l))) := by
  refine Fun.go (b := false) Tryd.func50 rfl rfl (by kernel_rfl) (by kernel_rfl) ?_
  simp -implicitDefEqProofs (disch := first | exact dsch | fail) only [go_sem, ↓reduceIte, Nat.reduceEqDiff]
  refine loop_k (n := l.length) [0, 2] (by kernel_rfl) (fun i e H => e 4 = .t (.int .i64 i) ∧ e 3 = .t (.str (listB (l.take i)))) ?_ ?_
  · rintro i e H hi hk ⟨h4, h3⟩
    simp only [keepP, go_sem, ↓reduceIte, Nat.reduceEqDiff, and_true] at hk
    by_cases hlt : i < l.length
    · have hn := hr _ (gd_mem hlt)
      have hsz := listB_size (l := l.take i) (fun n hn => hr n (List.mem_of_mem_take hn))
      have hle : (l.take i).length = i := by rw [List.length_take]; omega
      have hf := figB_size hn
      have hst := listB_take hlt
      by_cases h0 : 0 < i
      · rw [if_pos h0] at hst
        have h0' : (0 : Int) < i := by omega
        simp -implicitDefEqProofs (disch := first | exact dsch | fail) only [go_sem, ↓reduceIte, Nat.reduceEqDiff, hk, h4, h3, hn, h0']
        refine ⟨hlt, ?_⟩
        rw [hst]; rfl
      · rw [if_neg h0] at hst
        have h0' : ¬ (0 : Int) < i := by omega
        simp -implicitDefEqProofs (disch := first | exact dsch | fail) only [go_sem, ↓reduceIte, Nat.reduceEqDiff, hk, h4, h3, hn, h0']
        refine ⟨hlt, ?_⟩
        rw [hst]
    · obtain rfl : i = l.length := by omega
      rw [List.take_length] at h3
      simp -implicitDefEqProofs (disch := first | exact dsch | fail) only [go_sem, ↓reduceIte, Nat.reduceEqDiff, hk, h4, h3]
  · simp -implicitDefEqProofs (disch := first | exact dsch | fail) only [go_sem, ↓reduceIte, Nat.reduceEqDiff]
    rfl
@[go_sem] theorem pu_list20 {l : List Int} (hr : ∀ n ∈ l, InR n) (hl : l.length ≤ 1000000) {K : Kp} : @Pu _ Tryd.prog 50 [enc l] K = K.k (.t (.str (listB l))) := (ref20_list hr hl).pu
theorem ref20_Code {s : Fs} (h : OkF s) : Fun Tryd.prog 20 [enc s] (.t (.str (codeB s))) := by
  have hf := h.f
  have hfl : s.f.length ≤ 1000000 := by have := h.fl; omega
  have hin : InR (s.d.toNat : Int) := by have := s.d.isLt; unfold InR; omega
  have hd := figB_size hin
  have hs := listB_size h.f
  have h2 := h.fl
  have hll := h.ll
  have hu : (0 : Int) ≤ s.d.toNat ∧ ((s.d.toNat : Nat) : Int) ≤ 9223372036854775807 := ⟨by omega, by have := s.d.isLt; omega⟩
  have hw : IntKind.i64.wrap (s.d.toNat : Int) = s.d.toNat := wrap_i64 (by omega) hu.2
  refine Fun.go (b := false) Tryd.func20 rfl rfl (by kernel_rfl) (by kernel_rfl) ?_
  simp -implicitDefEqProofs (disch := first | exact dsch | fail) only [go_sem, ↓reduceIte, Nat.reduceEqDiff, hu, hw, hf, hfl, hin]
  refine loop_k (n := s.l.length) [1, 2] (by kernel_rfl) (fun i e H => e 4 = .t (.int .i64 i) ∧ e 3 = .t (.str (codeTo s i)) ∧ H = [⟨[.t (enc s)], 3, false⟩]) ?_ ?_
  · rintro i e H hi hk ⟨h4, h3, rfl⟩
    simp only [keepP, go_sem, ↓reduceIte, Nat.reduceEqDiff, and_true] at hk
    have hz := codeTo_size h i hi
    by_cases hlt : i < s.l.length
    · have hn := h.l _ (gd_mem hlt)
      have hm := h.rl _ (gd_mem hlt)
      have hm' : (gd s.l i).length ≤ 1000000 := by omega
      have hy := listB_size hn
      simp -implicitDefEqProofs (disch := first | exact dsch | fail) only [go_sem, ↓reduceIte, Nat.reduceEqDiff, hk, h4, h3, hn, hm']
      refine ⟨hlt, ?_⟩
      show V.t (T.str (codeTo s i ++ listB (gd s.l i) ++ slash)) = V.t (T.str (codeTo s i ++ (listB (gd s.l i) ++ slash)))
      rw [ByteArray.append_assoc]
    · obtain rfl : i = s.l.length := by omega
      simp -implicitDefEqProofs (disch := first | exact dsch | fail) only [go_sem, ↓reduceIte, Nat.reduceEqDiff, hk, h4, h3]
      rfl
  · simp -implicitDefEqProofs (disch := first | exact dsch | fail) only [go_sem, ↓reduceIte, Nat.reduceEqDiff]
    rfl
@[go_sem] theorem pu_Code20 {s : Fs} (h : OkF s) {K : Kp} : @Pu _ Tryd.prog 20 [enc s] K = K.k (.t (.str (codeB s))) := (ref20_Code h).pu
theorem shl_shl1 (x : U32) (i : Nat) : x <<< i <<< 1 = x <<< (i + 1) := by rw [BitVec.shiftLeft_add]
theorem ref19_power {k : Nat} (hk : k ≤ 1000) : Fun Tryd.prog 83 [.int .i64 k] (.t (.int .u32 (((1#32 : U32) <<< k).toNat : Int))) := by
  refine Fun.go (b := false) Tryd.func83 rfl rfl (by kernel_rfl) (by kernel_rfl) ?_
  simp -implicitDefEqProofs (disch := first | exact dsch | fail) only [go_sem, ↓reduceIte, Nat.reduceEqDiff]
  refine loop_k (n := k) [0, 2] (by kernel_rfl) (fun i e H => e 3 = .t (.int .u32 (((1#32 : U32) <<< i).toNat : Int)) ∧ e 4 = .t (.int .i64 i)) ?_ ?_
  · rintro i e H hi hk ⟨h3, h4⟩
    simp only [keepP, go_sem, ↓reduceIte, Nat.reduceEqDiff, and_true] at hk
    by_cases hlt : i < k
    · simp -implicitDefEqProofs (disch := first | exact dsch | fail) only [go_sem, ↓reduceIte, Nat.reduceEqDiff, hk, h3, h4, shl_shl1]
      exact hlt
    · obtain rfl : i = k := by omega
      simp -implicitDefEqProofs (disch := first | exact dsch | fail) only [go_sem, ↓reduceIte, Nat.reduceEqDiff, hk, h3, h4]
  · simp -implicitDefEqProofs (disch := first | exact dsch | fail) only [go_sem, ↓reduceIte, Nat.reduceEqDiff, BitVec.shiftLeft_zero]
@[go_sem] theorem pu_power19 {k : Nat} (hk : k ≤ 1000) {K : Kp} : @Pu _ Tryd.prog 83 [.int .i64 k] K = K.k (.t (.int .u32 (((1#32 : U32) <<< k).toNat : Int))) := (ref19_power hk).pu
theorem shl_nat {k : Nat} (hk : k < 32) : ((1#32 : U32) <<< k).toNat = 2 ^ k := by
  have h : 2 ^ k < 2 ^ 32 := Nat.pow_lt_pow_right (by decide) hk
  rw [BitVec.toNat_shiftLeft, Nat.shiftLeft_eq]
  show 1 * 2 ^ k % 2 ^ 32 = _
  rw [Nat.one_mul, Nat.mod_eq_of_lt h]
theorem div_pow {xb} (x : U32) {k : Nat} (hk : k < 32) : binT .quo xb (.int .u32 (x.toNat : Int)) (.int .u32 (((1#32 : U32) <<< k).toNat : Int)) = some (.int .u32 ((x >>> k).toNat : Int)) := by
  have hp : 0 < 2 ^ k := Nat.pow_pos (by decide)
  rw [shl_nat hk, binT_quo (by omega)]
  have e : (x.toNat : Int).tdiv ((2 ^ k : Nat) : Int) = ((x >>> k).toNat : Int) := by
    rw [BitVec.toNat_ushiftRight, Nat.shiftRight_eq_div_pow]
    rw [Int.tdiv_eq_ediv_of_nonneg (by omega)]; rfl
  rw [e, wrapB]
theorem ref19_Has {s : Fs} {k : Nat} (hk : k < 32) : Fun Tryd.prog 51 [enc s, .int .i64 k] (.t (.bool (s.d.getLsbD k))) := by
  have hd := fun xb => div_pow (xb := xb) s.d hk
  refine Fun.go (b := false) Tryd.func51 rfl rfl (by kernel_rfl) (by kernel_rfl) ?_
  simp -implicitDefEqProofs (disch := first | exact dsch | fail) only [go_sem, ↓reduceIte, Nat.reduceEqDiff, hd]
@[go_sem] theorem pu_Has19 {s : Fs} {k : Nat} (hk : k < 32) {K : Kp} : @Pu _ Tryd.prog 51 [enc s, .int .i64 k] K = K.k (.t (.bool (s.d.getLsbD k))) := (ref19_Has hk).pu
theorem ref20_Count {s : Fs} : Fun Tryd.prog 21 [enc s] (.t (.int .i64 (popC s.d))) := by
  rw [popC_cnt]
  refine Fun.go (b := false) Tryd.func21 rfl rfl (by kernel_rfl) (by kernel_rfl) ?_
  simp -implicitDefEqProofs (disch := first | exact dsch | fail) only [go_sem, ↓reduceIte, Nat.reduceEqDiff]
  refine loop_k (n := 32) [1, 2] (by kernel_rfl) (fun i e H => e 4 = .t (.int .i64 i) ∧ e 3 = .t (.int .i64 (cntTo s.d i)) ∧ H = [⟨[.t (enc s)], 3, false⟩]) ?_ ?_
  · rintro i e H hi hk ⟨h4, h3, rfl⟩
    simp only [keepP, go_sem, ↓reduceIte, Nat.reduceEqDiff, and_true] at hk
    have hc := cnt_le s.d i
    by_cases hlt : i < 32
    · have hst : cntTo s.d (i + 1) = cntTo s.d i + (s.d.getLsbD i).toNat := rfl
      have hlt' : (i : Int) < 32 := by omega
      cases hb : s.d.getLsbD i
      · rw [hb] at hst
        simp -implicitDefEqProofs (disch := first | exact dsch | fail) only [go_sem, ↓reduceIte, Nat.reduceEqDiff, hk, h4, h3, hlt, hlt', hb]
        rw [hst]; rfl
      · rw [hb] at hst
        simp -implicitDefEqProofs (disch := first | exact dsch | fail) only [go_sem, ↓reduceIte, Nat.reduceEqDiff, hk, h4, h3, hlt, hlt', hb]
        rw [hst]; rfl
    · obtain rfl : i = 32 := by omega
      simp -implicitDefEqProofs (disch := first | exact dsch | fail) only [go_sem, ↓reduceIte, Nat.reduceEqDiff, hk, h4, h3]
  · simp -implicitDefEqProofs (disch := first | exact dsch | fail) only [go_sem, ↓reduceIte, Nat.reduceEqDiff]
    rfl
@[go_sem] theorem pu_Count20 {s : Fs} {K : Kp} : @Pu _ Tryd.prog 21 [enc s] K = K.k (.t (.int .i64 (popC s.d))) := ref20_Count.pu
theorem ref20_Less {a b : Fs} (ha : OkF a) (hb : OkF b) : Fun Tryd.prog 22 [enc a, enc b] (.t (.bool (lessB a b))) := by
  have e : lessB a b = if popC a.d = popC b.d then ltB (codeB a) (codeB b) else decide ((popC a.d : Int) < popC b.d) := by
    rw [Bool.eq_iff_iff, less_iff]
    by_cases h : popC a.d = popC b.d
    · rw [if_pos h]; simp [h]
    · rw [if_neg h]; simp [h]
  rw [e]
  refine Fun.go (b := false) Tryd.func22 rfl rfl (by kernel_rfl) (by kernel_rfl) ?_
  by_cases h : popC a.d = popC b.d
  · rw [if_pos h]
    simp -implicitDefEqProofs (disch := first | exact dsch | fail) only [go_sem, ↓reduceIte, Nat.reduceEqDiff, ha, hb, h]
  · rw [if_neg h]
    have h' : ¬ (popC a.d : Int) = popC b.d := by omega
    simp -implicitDefEqProofs (disch := first | exact dsch | fail) only [go_sem, ↓reduceIte, Nat.reduceEqDiff, ha, hb, h']
@[go_sem] theorem pu_Less20 {a b : Fs} (ha : OkF a) (hb : OkF b) {K : Kp} : @Pu _ Tryd.prog 22 [enc a, enc b] K = K.k (.t (.bool (lessB a b))) := (ref20_Less ha hb).pu
end Go.Sim
