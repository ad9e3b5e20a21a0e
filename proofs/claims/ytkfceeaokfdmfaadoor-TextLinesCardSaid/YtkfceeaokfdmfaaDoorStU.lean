/- A part of the proof of a law of module cupola: StU. It has no conditions of its own. -/
import Derived.Test.YtkfceeaokfdmfaaDoorStT
set_option linter.all false
set_option maxRecDepth 100000
namespace Go.Sim
open Enc (enc)
open Go.Proofs
open Go.Lib (itoa decDigits)
theorem get_list {s : ByteArray} {i : Nat} (h : i < s.size) : s.data.toList[i]? = some (s.get! i) := by
  have h' : i < s.data.toList.length := h
  rw [List.getElem?_eq_getElem h']
  congr 1
  show _ = s.data[i]!
  rw [getElem!_pos s.data i h]
  rfl
theorem tw_at {p : UInt8 → Bool} : ∀ {l : List UInt8} {i : Nat}, i < (l.takeWhile p).length → ∃ c, l[i]? = some c ∧ (l.takeWhile p)[i]? = some c ∧ p c = true
  | [], i, h => by simp at h
  | x :: l, i, h => by
    rw [List.takeWhile_cons] at h ⊢
    split at h
    · rename_i hp
      rw [if_pos hp]
      cases i with
      | zero => exact ⟨x, rfl, rfl, hp⟩
      | succ i =>
        obtain ⟨c, h1, h2, h3⟩ := tw_at (l := l) (i := i) (by simpa using h)
        exact ⟨c, by simpa using h1, by simpa using h2, h3⟩
    · simp at h
theorem tw_stop {p : UInt8 → Bool} : ∀ {l : List UInt8} {c : UInt8}, l[(l.takeWhile p).length]? = some c → p c = false
  | [], c, h => by simp at h
  | x :: l, c, h => by
    rw [List.takeWhile_cons] at h
    split at h
    · rw [List.length_cons, List.getElem?_cons_succ] at h; exact tw_stop h
    · rename_i hp
      simp at h; subst h; simpa using hp
structure FigP (s : ByteArray) : Prop where
  hd : 0 < s.size → ((s.get! 0).toNat = 45 ↔ negL s.data.toList = true)
  e0 : s.size = 0 → negL s.data.toList = false
  le : (negL s.data.toList).toNat + (figsL s.data.toList).length ≤ s.size
  fig : ∀ i, i < (figsL s.data.toList).length → 48 ≤ (s.get! ((negL s.data.toList).toNat + i)).toNat ∧ (s.get! ((negL s.data.toList).toNat + i)).toNat ≤ 57 ∧ ((figsL s.data.toList).take (i + 1)).foldl stepW 0 = stepW (((figsL s.data.toList).take i).foldl stepW 0) (s.get! ((negL s.data.toList).toNat + i))
  fin : (negL s.data.toList).toNat + (figsL s.data.toList).length < s.size → ¬ (48 ≤ (s.get! ((negL s.data.toList).toNat + (figsL s.data.toList).length)).toNat ∧ (s.get! ((negL s.data.toList).toNat + (figsL s.data.toList).length)).toNat ≤ 57)
theorem body_drop (l : List UInt8) : bodyL l = l.drop (negL l).toNat := by
  unfold bodyL
  cases negL l
  · rfl
  · cases l <;> rfl
theorem figP (s : ByteArray) : FigP s := by
  have hb := body_drop s.data.toList
  have hle := numA_le s.data.toList
  unfold numA at hle
  have hat : ∀ i, (bodyL s.data.toList)[i]? = s.data.toList[(negL s.data.toList).toNat + i]? := fun i => by rw [hb, List.getElem?_drop]
  refine ⟨fun h => ?_, fun h => ?_, hle, fun i hi => ?_, fun h hn => ?_⟩
  · have := get_list h
    unfold negL
    rw [List.head?_eq_getElem?, this]; simp
  · have : s.data.toList = [] := List.eq_nil_of_length_eq_zero h
    rw [this]; rfl
  · obtain ⟨c, h1, h2, h3⟩ := tw_at hi
    have hle' : (negL s.data.toList).toNat + i < s.size := by have : s.data.toList.length = s.size := rfl; omega
    rw [hat, get_list hle'] at h1
    simp only [Option.some.injEq] at h1
    rw [h1]
    unfold digB at h3
    simp only [decide_eq_true_eq] at h3
    refine ⟨h3.1, h3.2, ?_⟩
    rw [List.take_add_one, show (figsL s.data.toList)[i]? = some c from h2, List.foldl_append]
    rfl
  · have h1 := hat (figsL s.data.toList).length
    rw [get_list h] at h1
    have := tw_stop h1
    unfold digB at this
    simp only [decide_eq_false_iff_not] at this
    exact this hn
theorem ref20_number {s : ByteArray} (hs : s.size ≤ 1000000) : Fun Tryd.prog 47 [.str s] (.tup [.t (.int .i64 (numR s.data.toList)), .t (.int .i64 (numA s.data.toList))]) := by
  obtain ⟨hd, e0, le, fig, fin⟩ := figP s
  unfold numR numA numV
  generalize hf : figsL s.data.toList = F at *
  generalize hg : negL s.data.toList = g at *
  refine Fun.go (b := false) Tryd.func47 rfl rfl (by kernel_rfl) (by kernel_rfl) ?_
  cases g
  · by_cases h0 : 0 < s.size
    · have hn : ¬ ((s.get! 0).toNat : Int) = 45 := fun h => by have := (hd h0).1 (by omega); cases this
      have hn' : ¬ (s.get! 0).toNat = 45 := by omega
      simp -implicitDefEqProofs (disch := first | exact dsch | fail) only [go_sem, ↓reduceIte, Nat.reduceEqDiff, h0, hn]
      refine loop_k (n := F.length) [0, 2, 3] (by kernel_rfl) (fun i e H => e 4 = .t (.int .i64 (i : Int)) ∧ e 5 = .t (.int .i64 ((F.take i).foldl stepW 0))) ?_ ?_
      · rintro i e H hi hk ⟨h4, h5⟩
        simp only [keepP, go_sem, ↓reduceIte, Nat.reduceEqDiff, and_true] at hk
        by_cases hlt : i < F.length
        · obtain ⟨f1, f2, f3⟩ := fig i hlt
          simp only [Bool.toNat_false, Nat.zero_add] at f1 f2 f3 le
          have hix : ((i : Int)).toNat = i := by omega
          have f1' : (48 : Int) ≤ ((s.get! (i)).toNat : Int) := by omega
          have f2' : ((s.get! (i)).toNat : Int) ≤ 57 := by omega
          have hw : IntKind.u8.wrap (((s.get! (i)).toNat : Int) - 48) = ((s.get! (i)).toNat : Int) - 48 := wrap_u8 (by omega) (by omega)
          simp -implicitDefEqProofs (disch := first | exact dsch | fail) only [go_sem, ↓reduceIte, Nat.reduceEqDiff, hk, h4, h5, hix, f1', f2', hw]
          first | (rw [f3]; rfl) | exact ⟨hlt, by rw [f3]; rfl⟩ | exact ⟨hlt, by rw [Int.add_assoc], by rw [f3]; rfl⟩ | exact ⟨by rw [Int.add_assoc], by rw [f3]; rfl⟩
        · obtain rfl : i = F.length := by omega
          rw [List.take_length] at h5
          by_cases hz : F.length < s.size
          · have hix : ((F.length : Int)).toNat = F.length := by omega
            have fz := fin (by simp only [Bool.toNat_false, Nat.zero_add]; omega)
            simp only [Bool.toNat_false, Nat.zero_add] at fz
            by_cases f1 : 48 ≤ (s.get! (F.length)).toNat
            · have f1' : (48 : Int) ≤ ((s.get! (F.length)).toNat : Int) := by omega
              have f2' : ¬ ((s.get! (F.length)).toNat : Int) ≤ 57 := fun h => fz ⟨f1, by omega⟩
              simp -implicitDefEqProofs (disch := first | exact dsch | fail) only [go_sem, ↓reduceIte, Nat.reduceEqDiff, hk, h4, h5, hix, f1', f2', hz, h0, hn]
              all_goals simp
            · have f1' : ¬ (48 : Int) ≤ ((s.get! (F.length)).toNat : Int) := by omega
              simp -implicitDefEqProofs (disch := first | exact dsch | fail) only [go_sem, ↓reduceIte, Nat.reduceEqDiff, hk, h4, h5, hix, f1', hz, h0, hn]
              all_goals simp
          · simp -implicitDefEqProofs (disch := first | exact dsch | fail) only [go_sem, ↓reduceIte, Nat.reduceEqDiff, hk, h4, h5, hz, h0, hn]
            all_goals simp
      · simp -implicitDefEqProofs (disch := first | exact dsch | fail) only [go_sem, ↓reduceIte, Nat.reduceEqDiff]
        try exact ⟨rfl, rfl⟩
    · have hF : F = [] := List.eq_nil_of_length_eq_zero (by simp only [Bool.toNat_false] at le; omega)
      subst hF
      simp -implicitDefEqProofs (disch := first | exact dsch | fail) only [go_sem, ↓reduceIte, Nat.reduceEqDiff, h0]
      rw [e_loop]
      simp -implicitDefEqProofs (disch := first | exact dsch | fail) only [go_sem, ↓reduceIte, Nat.reduceEqDiff, h0]
      simp
  · have h0 : 0 < s.size := by
      rcases Nat.eq_zero_or_pos s.size with h | h
      · have := e0 h; cases this
      · exact h
    have hn : ((s.get! 0).toNat : Int) = 45 := by have := (hd h0).2 rfl; omega
    simp -implicitDefEqProofs (disch := first | exact dsch | fail) only [go_sem, ↓reduceIte, Nat.reduceEqDiff, h0, hn]
    refine loop_k (n := F.length) [0, 2, 3] (by kernel_rfl) (fun i e H => e 4 = .t (.int .i64 (1 + (i : Int))) ∧ e 5 = .t (.int .i64 ((F.take i).foldl stepW 0))) ?_ ?_
    · rintro i e H hi hk ⟨h4, h5⟩
      simp only [keepP, go_sem, ↓reduceIte, Nat.reduceEqDiff, and_true] at hk
      by_cases hlt : i < F.length
      · obtain ⟨f1, f2, f3⟩ := fig i hlt
        simp only [Bool.toNat_true] at f1 f2 f3 le
        have hix : ((1 + (i : Int))).toNat = (1 + i) := by omega
        have f1' : (48 : Int) ≤ ((s.get! ((1 + i))).toNat : Int) := by omega
        have f2' : ((s.get! ((1 + i))).toNat : Int) ≤ 57 := by omega
        have hw : IntKind.u8.wrap (((s.get! ((1 + i))).toNat : Int) - 48) = ((s.get! ((1 + i))).toNat : Int) - 48 := wrap_u8 (by omega) (by omega)
        simp -implicitDefEqProofs (disch := first | exact dsch | fail) only [go_sem, ↓reduceIte, Nat.reduceEqDiff, hk, h4, h5, hix, f1', f2', hw]
        first | (rw [f3]; rfl) | exact ⟨hlt, by rw [f3]; rfl⟩ | exact ⟨hlt, by rw [Int.add_assoc], by rw [f3]; rfl⟩ | exact ⟨by rw [Int.add_assoc], by rw [f3]; rfl⟩
      · obtain rfl : i = F.length := by omega
        rw [List.take_length] at h5
        by_cases hz : (1 + F.length) < s.size
        · have hix : ((1 + (F.length : Int))).toNat = (1 + F.length) := by omega
          have fz := fin (by simp only [Bool.toNat_true]; omega)
          simp only [Bool.toNat_true] at fz
          by_cases f1 : 48 ≤ (s.get! ((1 + F.length))).toNat
          · have f1' : (48 : Int) ≤ ((s.get! ((1 + F.length))).toNat : Int) := by omega
            have f2' : ¬ ((s.get! ((1 + F.length))).toNat : Int) ≤ 57 := fun h => fz ⟨f1, by omega⟩
            simp -implicitDefEqProofs (disch := first | exact dsch | fail) only [go_sem, ↓reduceIte, Nat.reduceEqDiff, hk, h4, h5, hix, f1', f2', hz, h0, hn]
            all_goals simp
          · have f1' : ¬ (48 : Int) ≤ ((s.get! ((1 + F.length))).toNat : Int) := by omega
            simp -implicitDefEqProofs (disch := first | exact dsch | fail) only [go_sem, ↓reduceIte, Nat.reduceEqDiff, hk, h4, h5, hix, f1', hz, h0, hn]
            all_goals simp
        · simp -implicitDefEqProofs (disch := first | exact dsch | fail) only [go_sem, ↓reduceIte, Nat.reduceEqDiff, hk, h4, h5, hz, h0, hn]
          all_goals simp
    · simp -implicitDefEqProofs (disch := first | exact dsch | fail) only [go_sem, ↓reduceIte, Nat.reduceEqDiff]
      try exact ⟨rfl, rfl⟩
@[go_sem] theorem pu_number20 {s : ByteArray} (hs : s.size ≤ 1000000) {K : Kp} : @Pu _ Tryd.prog 47 [.str s] K = K.k (.tup [.t (.int .i64 (numR s.data.toList)), .t (.int .i64 (numA s.data.toList))]) := (ref20_number hs).pu
theorem ext_list (s : ByteArray) (n : Nat) : (s.extract n s.size).data.toList = s.data.toList.drop n := by
  rw [ByteArray.data_extract, Array.toList_extract, List.extract_eq_take_drop]
  apply List.take_of_length_le
  rw [List.length_drop]; exact Nat.le_refl _
theorem app_one {H : Heap} {x : Int} {by_ : Nat} (hr : 1 * by_ ≤ 70368744177664) : appendV (some (1, by_)) H (.ex []) [.t (.int .i64 x)] = some ⟨accV H.length [x], H ++ accO [x], .none⟩ := app_nil1 (m := [x]) hr
theorem acc_i0 {l : List Int} {x : Int} {by_ : Nat} (hr : (l.length + 1) * by_ ≤ 70368744177664) :
    appendV (some (1, by_)) (accO l) (accV 0 l) [.t (.int .i64 x)] = some ⟨accV 0 (l ++ [x]), (accO (l ++ [x])), accE 0 l⟩ := acc_app (R := []) rfl hr
theorem more_stop {k : Nat} {l : List UInt8} (h : ∀ c, l.head? = some c → c.toNat ≠ 44) : moreL k l = ([], 0) := by
  cases k with
  | zero => rfl
  | succ k =>
    unfold moreL
    rw [if_neg]
    intro e
    cases hl : l.head? with
    | none => rw [hl] at e; cases e
    | some c => rw [hl] at e; simp only [Option.map_some, Option.some.injEq] at e; exact h c hl e
theorem ref20_numbers {s : ByteArray} (hs : s.size ≤ 1000000) : Fun Tryd.prog 48 [.str s] (.tup [.t (enc (numsL s.data.toList).1), .t (.int .i64 (numsL s.data.toList).2)]) := by
  have hA := numA_le s.data.toList
  have hsz : s.data.toList.length = s.size := rfl
  unfold numsL
  refine Fun.go (b := false) Tryd.func48 rfl rfl (by kernel_rfl) (by kernel_rfl) ?_
  by_cases h0 : numA s.data.toList = 0
  · rw [if_pos h0]
    simp -implicitDefEqProofs (disch := first | exact dsch | fail) only [go_sem, ↓reduceIte, Nat.reduceEqDiff, h0]
    rfl
  · rw [if_neg h0]
    have h0' : ¬ (numA s.data.toList : Int) = 0 := by omega
    simp -implicitDefEqProofs (disch := first | exact dsch | fail) only [go_sem, ↓reduceIte, Nat.reduceEqDiff, h0', app_one, List.nil_append, List.length_nil]
    refine loop_k (n := s.size) [0, 2, 3] (by kernel_rfl) (fun i e H => ∃ (out : List Int) (at_ k : Nat), e 4 = accV 0 out ∧ H = accO out ∧ e 6 = .t (.int .i64 at_) ∧ out.length ≤ i + 1 ∧ at_ ≤ s.size ∧ i + k = s.size ∧ s.size ≤ k + at_ ∧ out ++ (moreL k (s.data.toList.drop at_)).1 = numR s.data.toList :: (moreL s.data.toList.length (s.data.toList.drop (numA s.data.toList))).1 ∧ at_ + (moreL k (s.data.toList.drop at_)).2 = numA s.data.toList + (moreL s.data.toList.length (s.data.toList.drop (numA s.data.toList))).2) ?_ ?_
    · rintro i e H hi hk ⟨out, at_, k, h4, rfl, h6, hol, hat, hik, hka, hO, hE⟩
      simp only [keepP, go_sem, ↓reduceIte, Nat.reduceEqDiff, and_true] at hk
      by_cases hlt : at_ < s.size
      · have hg := get_list hlt
        have hhd : (s.data.toList.drop at_).head? = some (s.get! at_) := by rw [List.head?_drop, hg]
        by_cases hc : (s.get! at_).toNat = 44
        · have hc' : ((s.get! at_).toNat : Int) = 44 := by omega
          have hx : ((at_ : Int) + 1).toNat = at_ + 1 := by omega
          have hsz2 : (s.extract (at_ + 1) s.size).size ≤ 1000000 := by rw [ByteArray.size_extract]; omega
          have hA2 := numA_le (s.data.toList.drop (at_ + 1))
          rw [List.length_drop] at hA2
          simp -implicitDefEqProofs (disch := first | exact dsch | fail) only [go_sem, ↓reduceIte, Nat.reduceEqDiff, hk, h4, h6, hc', hx, hsz2, ext_list, acc_i0]
          obtain ⟨k', rfl⟩ : ∃ k', k = k' + 1 := ⟨k - 1, by omega⟩
          rw [show moreL (k' + 1) (s.data.toList.drop at_) = (numR (s.data.toList.drop at_).tail :: (moreL k' ((s.data.toList.drop at_).tail.drop (numA (s.data.toList.drop at_).tail))).1, 1 + numA (s.data.toList.drop at_).tail + (moreL k' ((s.data.toList.drop at_).tail.drop (numA (s.data.toList.drop at_).tail))).2) by
            conv => lhs; unfold moreL
            rw [if_pos (by rw [hhd]; simp [hc])]] at hO hE
          rw [List.tail_drop, List.drop_drop] at hO hE
          refine ⟨by omega, out ++ [numR (s.data.toList.drop (at_ + 1))], at_ + 1 + numA (s.data.toList.drop (at_ + 1)), k', rfl, rfl, ?_, by simp; omega, by omega, by omega, by omega, ?_, ?_⟩
          · congr 2
          · rw [← hO]; simp
          · rw [← hE]; simp only; omega
        · have hc' : ¬ ((s.get! at_).toNat : Int) = 44 := by omega
          have hst := more_stop (k := k) (l := s.data.toList.drop at_) (fun c h => by rw [hhd] at h; cases h; exact hc)
          rw [hst] at hO hE
          rw [List.append_nil] at hO
          simp -implicitDefEqProofs (disch := first | exact dsch | fail) only [go_sem, ↓reduceIte, Nat.reduceEqDiff, hk, h4, h6, hc']
          simp only [Nat.add_zero] at hE
          rw [← hO, ← Int.natCast_add, ← hE]
      · have hst := more_stop (k := k) (l := s.data.toList.drop at_) (fun c h => by rw [List.drop_eq_nil_of_le (by omega)] at h; cases h)
        rw [hst] at hO hE
        rw [List.append_nil] at hO
        simp -implicitDefEqProofs (disch := first | exact dsch | fail) only [go_sem, ↓reduceIte, Nat.reduceEqDiff, hk, h4, h6]
        simp only [Nat.add_zero] at hE
        rw [← hO, ← Int.natCast_add, ← hE]
    · simp -implicitDefEqProofs (disch := first | exact dsch | fail) only [go_sem, ↓reduceIte, Nat.reduceEqDiff]
      exact ⟨[numR s.data.toList], numA s.data.toList, s.size, rfl, rfl, rfl, by simp, hA, by omega, by omega, rfl, rfl⟩
@[go_sem] theorem pu_numbers20 {s : ByteArray} (hs : s.size ≤ 1000000) {K : Kp} : @Pu _ Tryd.prog 48 [.str s] K = K.k (.tup [.t (enc (numsL s.data.toList).1), .t (.int .i64 (numsL s.data.toList).2)]) := (ref20_numbers hs).pu
theorem wrap_u32i (n : Int) : IntKind.u32.wrap n = ((BitVec.ofInt 32 n).toNat : Int) := by
  rw [IntKind.wrap_u32, BitVec.toNat_ofInt]
  omega
theorem rows_stop {k : Nat} : rowsR k [] = [] := by
  cases k with
  | zero => rfl
  | succ k => unfold rowsR; exact if_pos rfl
set_option maxHeartbeats 1000000 in
theorem ref20_Read {c : ByteArray} (hs : c.size ≤ 1000) : Fun Tryd.prog 19 [.str c] (.tup [.t (enc (refB c)), .t (.bool (refOk c))]) := by
  have hsz : c.data.toList.length = c.size := rfl
  have hA := numA_le c.data.toList
  have hs' : c.size ≤ 1000000 := by omega
  refine Fun.go (b := false) Tryd.func19 rfl rfl (by kernel_rfl) (by kernel_rfl) ?_
  by_cases h0 : numA c.data.toList < c.size
  · have hx : ((numA c.data.toList : Int) + 1).toNat = numA c.data.toList + 1 := by omega
    have hsz2 : (c.extract (numA c.data.toList + 1) c.size).size ≤ 1000000 := by rw [ByteArray.size_extract]; omega
    have ok := refP_ok (l := c.data.toList) (by omega)
    have hm := numsL_le (c.data.toList.drop (numA c.data.toList + 1))
    rw [List.length_drop] at hm
    have h0' : ¬ (numA c.data.toList : Int) ≥ c.size := by omega
    simp -implicitDefEqProofs (disch := first | exact dsch | fail) only [go_sem, ↓reduceIte, Nat.reduceEqDiff, h0, h0', hx, hsz2, ext_list, wrap_u32i, accV_nil]
    unfold refP at ok
    generalize hd : BitVec.ofInt 32 (numR c.data.toList) = d at *
    generalize hf : (numsL (c.data.toList.drop (numA c.data.toList + 1))).1 = f at *
    generalize hq : (numsL (c.data.toList.drop (numA c.data.toList + 1))).2 = m at *
    generalize hr : rowsR c.data.toList.length (c.data.toList.drop (numA c.data.toList + 2 + m)) = R at *
    have hrp : refP c.data.toList = ⟨d, f, R⟩ := by unfold refP; rw [hd, hf, hq, hr]
    refine loop_k (n := c.size) [0, 2, 3, 4] (by kernel_rfl) (fun i e H => ∃ (rows : List (List Int)) (at_ k : Nat), e 6 = .t (.int .i64 at_) ∧ H = ⟨[.agg [.t (.int .u32 0), .ex [], .ex []]], 3, false⟩ :: ⟨[.agg [.t (.int .u32 (d.toNat : Int)), .t (enc f), accV 2 rows]], 3, false⟩ :: accO rows ∧ rows.length ≤ i ∧ i + k = c.size ∧ c.size ≤ k + at_ ∧ at_ ≤ 2000000 ∧ rows ++ rowsR k (c.data.toList.drop at_) = R) ?_ ?_
    · rintro i e H hi hk ⟨rows, at_, k, h6, rfl, hrl, hik, hka, hat, hR⟩
      simp only [keepP, go_sem, ↓reduceIte, Nat.reduceEqDiff, and_true] at hk
      by_cases hlt : at_ < c.size
      · have hx2 : ((at_ : Int)).toNat = at_ := by omega
        have hsz3 : (c.extract at_ c.size).size ≤ 1000000 := by rw [ByteArray.size_extract]; omega
        have hn := numsL_le (c.data.toList.drop at_)
        rw [List.length_drop] at hn
        obtain ⟨k', rfl⟩ : ∃ k', k = k' + 1 := ⟨k - 1, by omega⟩
        have hst : rowsR (k' + 1) (c.data.toList.drop at_) = (numsL (c.data.toList.drop at_)).1 :: rowsR k' (c.data.toList.drop (at_ + ((numsL (c.data.toList.drop at_)).2 + 1))) := by
          conv => lhs; unfold rowsR
          rw [if_neg (by intro e; have := congrArg List.length e; rw [List.length_drop, List.length_nil] at this; omega), List.drop_drop]
        rw [hst] at hR
        cases hem : rows.isEmpty
        · have hv : accV 2 rows = .ref 2 rows.length := accV_ne hem
          have ho : accO rows = [⟨vs rows, 1, false⟩] := accO_ne hem
          rw [hv, ho]
          simp -implicitDefEqProofs (disch := first | exact dsch | fail) only [go_sem, ↓reduceIte, Nat.reduceEqDiff, hk, h6, hx2, hsz3, ext_list, accV_snoc, accO_snoc, List.length_append, List.length_cons, List.length_nil, List.cons_append, List.nil_append]
          refine ⟨by omega, rows ++ [(numsL (c.data.toList.drop at_)).1], at_ + ((numsL (c.data.toList.drop at_)).2 + 1), k', ?_, ?_, by simp; omega, by omega, by omega, by omega, ?_⟩
          · congr 2
          · rw [accV_snoc, accO_snoc]; rfl
          · rw [← hR]; simp
        · have hz : rows = [] := by simpa using hem
          subst hz
          simp -implicitDefEqProofs (disch := first | exact dsch | fail) only [go_sem, ↓reduceIte, Nat.reduceEqDiff, hk, h6, hx2, hsz3, ext_list, accV_nil, accO_nil, accV_snoc, accO_snoc, List.length_append, List.length_cons, List.length_nil, List.cons_append, List.nil_append]
          refine ⟨by omega, [(numsL (c.data.toList.drop at_)).1], at_ + ((numsL (c.data.toList.drop at_)).2 + 1), k', ?_, ?_, by simp only [List.length_cons, List.length_nil]; omega, by omega, by omega, by omega, ?_⟩
          · congr 2
          · rfl
          · rw [← hR]; simp
      · have hst : rowsR k (c.data.toList.drop at_) = [] := by rw [List.drop_eq_nil_of_le (by omega)]; exact rows_stop
        rw [hst, List.append_nil] at hR
        subst hR
        have hok : refOk c = eqB (codeB ⟨d, f, rows⟩) c := by unfold refOk; rw [decide_eq_true h0, hrp]; rfl
        have hrd : refB c = if refOk c = true then ⟨d, f, rows⟩ else zeroF := by unfold refB; rw [hrp]
        cases hem : rows.isEmpty
        · have hv : accV 2 rows = .ref 2 rows.length := accV_ne hem
          have ho : accO rows = [⟨vs rows, 1, false⟩] := accO_ne hem
          rw [hv, ho]
          cases hq : refOk c
          · rw [hq] at hok hrd
            simp -implicitDefEqProofs (disch := first | exact dsch | fail) only [go_sem, ↓reduceIte, Nat.reduceEqDiff, hk, h6, ok, hok.symm]
            rw [hrd]; rfl
          · rw [hq] at hok hrd
            simp -implicitDefEqProofs (disch := first | exact dsch | fail) only [go_sem, ↓reduceIte, Nat.reduceEqDiff, hk, h6, ok, hok.symm]
            rw [hrd]; rfl
        · have hz : rows = [] := by simpa using hem
          subst hz
          have e0 : T.agg [.int .u32 (d.toNat : Int), enc f, enc ([] : List (Int × Int))] = enc (⟨d, f, []⟩ : Fs) := rfl
          cases hq : refOk c
          · rw [hq] at hok hrd
            simp -implicitDefEqProofs (disch := first | exact dsch | fail) only [go_sem, ↓reduceIte, Nat.reduceEqDiff, hk, h6, ok, hok.symm, accV_nil, accO_nil, e0]
            rw [hrd]; rfl
          · rw [hq] at hok hrd
            simp -implicitDefEqProofs (disch := first | exact dsch | fail) only [go_sem, ↓reduceIte, Nat.reduceEqDiff, hk, h6, ok, hok.symm, accV_nil, accO_nil, e0]
            rw [hrd]; rfl
    · simp -implicitDefEqProofs (disch := first | exact dsch | fail) only [go_sem, ↓reduceIte, Nat.reduceEqDiff]
      exact ⟨[], numA c.data.toList + 2 + m, c.size, by congr 2, rfl, by simp, by omega, by omega, by omega, by rw [← hr]; rfl⟩
  · have h0' : (numA c.data.toList : Int) ≥ c.size := by omega
    have hok : refOk c = false := by unfold refOk; rw [decide_eq_false h0]; rfl
    have hrd : refB c = zeroF := by unfold refB; rw [hok]; rfl
    simp -implicitDefEqProofs (disch := first | exact dsch | fail) only [go_sem, ↓reduceIte, Nat.reduceEqDiff, h0, h0', wrap_u32i]
    rw [hok, hrd]; rfl
@[go_sem] theorem pu_Read20 {c : ByteArray} (hs : c.size ≤ 1000) {K : Kp} : @Pu _ Tryd.prog 19 [.str c] K = K.k (.tup [.t (enc (refB c)), .t (.bool (refOk c))]) := (ref20_Read hs).pu
end Go.Sim
