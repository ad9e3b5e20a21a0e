/- A part of the proof of a law of module cupola: TxC. It has no conditions of its own. -/
import Derived.Test.YtkfceeaokfdmfaaDoorTxP
set_option linter.all false
set_option maxRecDepth 100000
namespace Go.Sim
open Enc (enc)
open Go.Proofs
open Go.Lib (itoa decDigits)
theorem kind_nn (op : Int) : 0 ≤ kindI op := by
  unfold kindI
  split
  · omega
  · split <;> omega
theorem ref01_Kind (x : In) : Fun Tryd.prog 64 [enc x] (.t (.int .i64 (kindI x.op))) := by
  refine Fun.go (b := false) Tryd.func64 rfl rfl (by kernel_rfl) (by kernel_rfl) ?_
  unfold kindI
  by_cases h5 : x.op = 5
  · simp -implicitDefEqProofs (disch := first | exact dsch | fail) only [go_sem, ↓reduceIte, Nat.reduceEqDiff, h5]; rfl
  by_cases h7 : x.op = 7
  · simp -implicitDefEqProofs (disch := first | exact dsch | fail) only [go_sem, ↓reduceIte, Nat.reduceEqDiff, h7, h5]; rfl
  by_cases h9 : x.op = 9
  · simp -implicitDefEqProofs (disch := first | exact dsch | fail) only [go_sem, ↓reduceIte, Nat.reduceEqDiff, h9, h7, h5]; rfl
  by_cases h6 : x.op = 6
  · simp -implicitDefEqProofs (disch := first | exact dsch | fail) only [go_sem, ↓reduceIte, Nat.reduceEqDiff, h9, h7, h5, h6]; rfl
  by_cases h8 : x.op = 8
  · simp -implicitDefEqProofs (disch := first | exact dsch | fail) only [go_sem, ↓reduceIte, Nat.reduceEqDiff, h9, h7, h5, h6, h8]; rfl
  by_cases h10 : x.op = 10
  · simp -implicitDefEqProofs (disch := first | exact dsch | fail) only [go_sem, ↓reduceIte, Nat.reduceEqDiff, h9, h7, h5, h6, h8, h10]; rfl
  · simp -implicitDefEqProofs (disch := first | exact dsch | fail) only [go_sem, ↓reduceIte, Nat.reduceEqDiff, h9, h7, h5, h6, h8, h10]; rfl
@[go_sem] theorem pu_Kind01 {x : In} {K : Kp} : @Pu _ Tryd.prog 64 [enc x] K = K.k (.t (.int .i64 (kindI x.op))) := (ref01_Kind x).pu
theorem ref01_HasD (x : In) : Fun Tryd.prog 60 [enc x] (.t (.bool (dI x.op))) := by
  refine Fun.go (b := false) Tryd.func60 rfl rfl (by kernel_rfl) (by kernel_rfl) ?_
  unfold dI
  by_cases h1 : 1 ≤ x.op <;> by_cases h2 : x.op ≤ 4 <;> by_cases h3 : kindI x.op = 1 <;> by_cases h4 : x.op = 10 <;> first | (exfalso; omega) | (simp -implicitDefEqProofs (disch := first | exact dsch | fail) only [go_sem, ↓reduceIte, Nat.reduceEqDiff, h1, h2, h3, h4, (show kindI 10 = 2 from rfl)] <;> try simp [h1, h2, h3, h4, (show kindI 10 = 2 from rfl)])
@[go_sem] theorem pu_HasD {x : In} {K : Kp} : @Pu _ Tryd.prog 60 [enc x] K = K.k (.t (.bool (dI x.op))) := (ref01_HasD x).pu
theorem ref01_HasA (x : In) : Fun Tryd.prog 62 [enc x] (.t (.bool (aI x.op))) := by
  refine Fun.go (b := false) Tryd.func62 rfl rfl (by kernel_rfl) (by kernel_rfl) ?_
  unfold aI
  by_cases h1 : 2 ≤ x.op <;> by_cases h2 : x.op ≤ 10 <;> by_cases h3 : x.op = 13 <;> by_cases h4 : x.op = 14 <;> first | (exfalso; omega) | (simp -implicitDefEqProofs (disch := first | exact dsch | fail) only [go_sem, ↓reduceIte, Nat.reduceEqDiff, h1, h2, h3, h4] <;> try simp [h1, h2, h3, h4])
@[go_sem] theorem pu_HasA {x : In} {K : Kp} : @Pu _ Tryd.prog 62 [enc x] K = K.k (.t (.bool (aI x.op))) := (ref01_HasA x).pu
theorem ref01_HasB (x : In) : Fun Tryd.prog 63 [enc x] (.t (.bool (bI x.op))) := by
  refine Fun.go (b := false) Tryd.func63 rfl rfl (by kernel_rfl) (by kernel_rfl) ?_
  unfold bI
  by_cases h1 : 2 ≤ x.op <;> by_cases h2 : x.op ≤ 4 <;> by_cases h3 : kindI x.op = 2 <;> first | (exfalso; omega) | (simp -implicitDefEqProofs (disch := first | exact dsch | fail) only [go_sem, ↓reduceIte, Nat.reduceEqDiff, h1, h2, h3] <;> try simp [h1, h2, h3])
@[go_sem] theorem pu_HasB {x : In} {K : Kp} : @Pu _ Tryd.prog 63 [enc x] K = K.k (.t (.bool (bI x.op))) := (ref01_HasB x).pu
theorem ref01_HasImm (x : In) : Fun Tryd.prog 65 [enc x] (.t (.bool (mI x.op))) := by
  refine Fun.go (b := false) Tryd.func65 rfl rfl (by kernel_rfl) (by kernel_rfl) ?_
  unfold mI
  by_cases h1 : x.op = 1 <;> by_cases h2 : x.op = 11 <;> by_cases h3 : x.op = 13 <;> by_cases h4 : x.op = 14 <;> first | (exfalso; omega) | (simp -implicitDefEqProofs (disch := first | exact dsch | fail) only [go_sem, ↓reduceIte, Nat.reduceEqDiff, h1, h2, h3, h4] <;> try simp [h1, h2, h3, h4])
@[go_sem] theorem pu_HasImm {x : In} {K : Kp} : @Pu _ Tryd.prog 65 [enc x] K = K.k (.t (.bool (mI x.op))) := (ref01_HasImm x).pu
theorem text_imm (op : Int) : Fun Tryd.prog 56 [.int .i64 op] (.t (.bool (mI op))) := by
  refine Fun.go (b := false) Tryd.func56 rfl rfl (by kernel_rfl) (by kernel_rfl) ?_
  unfold mI
  by_cases h1 : op = 1 <;> by_cases h2 : op = 11 <;> by_cases h3 : op = 13 <;> by_cases h4 : op = 14 <;> first | (exfalso; omega) | (simp -implicitDefEqProofs (disch := first | exact dsch | fail) only [go_sem, ↓reduceIte, Nat.reduceEqDiff, h1, h2, h3, h4] <;> try simp [h1, h2, h3, h4])
@[go_sem] theorem pu_timm {op : Int} {K : Kp} : @Pu _ Tryd.prog 56 [.int .i64 op] K = K.k (.t (.bool (mI op))) := (text_imm op).pu
theorem ref01_Name (op : Int) : Fun Tryd.prog 59 [.int .i64 op] (.t (.str (rowI op).1)) := by
  by_cases h : 0 ≤ op ∧ op < 15
  · obtain ⟨h0, h1⟩ := h
    obtain ⟨n, rfl⟩ := Int.eq_ofNat_of_zero_le h0
    match n, h1 with
    | 0, _ | 1, _ | 2, _ | 3, _ | 4, _ | 5, _ | 6, _ | 7, _ | 8, _ | 9, _ | 10, _ | 11, _ | 12, _ | 13, _ | 14, _ => exact Fun.eval (k := 40) (by kernel_rfl)
    | n + 15, h => omega
  · have hr : rowI op = (⟨#[]⟩, 0) := by unfold rowI; rw [if_neg h]
    rw [hr]
    refine Fun.go (b := false) Tryd.func59 rfl rfl (by kernel_rfl) (by kernel_rfl) ?_
    by_cases h1 : op < 1
    · simp -implicitDefEqProofs (disch := first | exact dsch | fail) only [go_sem, ↓reduceIte, Nat.reduceEqDiff, h1]
      try rfl
    · have h2 : op > 14 := by omega
      simp -implicitDefEqProofs (disch := first | exact dsch | fail) only [go_sem, ↓reduceIte, Nat.reduceEqDiff, h1, h2]
      try rfl
@[go_sem] theorem pu_Name01 {op : Int} {K : Kp} : @Pu _ Tryd.prog 59 [.int .i64 op] K = K.k (.t (.str (rowI op).1)) := (ref01_Name op).pu
theorem fin_fun {n : Int} (h : InR n) : Fun Tryd.prog 68 [.int .i64 n, .int .i64 10] (.t (.str (figB n))) := by
  refine orc_fun (v := .t (.str (figB n))) (H := []) rfl ?_ ?_
  · show (finT [.int .i64 n, .int .i64 10]).map _ = _
    simp only [finT, inRB_of h, and_self, if_true, Option.map_some]
  · rfl
@[go_sem] theorem pu_FormatInt {n : Int} (h : InR n) {K : Kp} : @Pu _ Tryd.prog 68 [.int .i64 n, .int .i64 10] K = K.k (.t (.str (figB n))) := (fin_fun h).pu
theorem pi_fun {s : ByteArray} (h : s.size ≤ 1000000000) : Fun Tryd.prog 57 [.str s, .int .i64 10, .int .i64 64] (.t (pairT (.int .i64 (piN s)) (piB s))) := by
  refine orc_fun (v := .t (pairT (.int .i64 (piN s)) (piB s))) (H := []) rfl ?_ ?_
  · show (piT [.str s, .int .i64 10, .int .i64 64]).map _ = _
    simp only [piT, h, and_self, if_true, Option.map_some]
  · rfl
@[go_sem] theorem pu_PI {s : ByteArray} (h : s.size ≤ 1000000000) {K : Kp} : @Pu _ Tryd.prog 57 [.str s, .int .i64 10, .int .i64 64] K = K.k (.t (pairT (.int .i64 (piN s)) (piB s))) := (pi_fun h).pu
theorem wordsTo_s (x : In) (k : Nat) : wordsTo x (k + 1) = if fI x.op k = true then wordsTo x k ++ ⟨#[32]⟩ ++ figB (x.g k) else wordsTo x k := by
  show (if fI x.op k = true then wordsTo x k ++ (blank ++ figB (x.g k)) else wordsTo x k) = _
  cases fI x.op k
  · rfl
  · rw [if_pos rfl, if_pos rfl, ← ByteArray.append_assoc]; rfl
set_option maxHeartbeats 8000000 in
theorem ref03_Line {x : In} (w : WfI x) : Fun Tryd.prog 27 [enc x] (.t (.str (lineB x))) := by
  have g0 := w.g 0
  have g1 := w.g 1
  have g2 := w.g 2
  have g3 := w.g 3
  have gm := w.imm
  have f0 := figB_size g0
  have f1 := figB_size g1
  have f2 := figB_size g2
  have f3 := figB_size g3
  have fm := figB_size gm
  have hr := row_size x.op
  simp only [In.g] at g0 g1 g2 g3 f0 f1 f2 f3
  unfold lineB
  by_cases h0 : (rowI x.op).1.size = 0
  · have he : eqB (rowI x.op).1 ⟨#[]⟩ = true := by rw [show (⟨#[]⟩ : ByteArray) = emptyB from rfl, eqB_empty]; simpa using h0
    rw [if_pos h0]
    refine Fun.go (b := false) Tryd.func27 rfl rfl (by kernel_rfl) (by kernel_rfl) ?_
    simp -implicitDefEqProofs (disch := first | exact dsch | fail) only [go_sem, ↓reduceIte, Nat.reduceEqDiff, he]
  · have he : eqB (rowI x.op).1 ⟨#[]⟩ = false := by rw [show (⟨#[]⟩ : ByteArray) = emptyB from rfl, eqB_empty]; simpa using h0
    rw [if_neg h0, wordsTo_s, wordsTo_s, wordsTo_s, wordsTo_s, wordsTo_s]
    simp only [fI, In.g, wordsTo, ← ByteArray.append_assoc]
    have hk : (0 < kindI x.op) ↔ lI x.op = true := by
      have := kind_nn x.op
      unfold lI
      by_cases h : kindI x.op = 0 <;> simp [h] <;> omega
    cases hd : dI x.op <;> cases ha : aI x.op <;> cases hb : bI x.op <;> cases hl : lI x.op <;> cases hm : mI x.op
    all_goals
      rw [hl] at hk
      simp only [Bool.false_eq_true, iff_false, iff_true] at hk
      refine Fun.go (b := false) Tryd.func27 rfl rfl (by kernel_rfl) (by kernel_rfl) ?_
      simp -implicitDefEqProofs (disch := first | exact dsch | fail) only [go_sem, ↓reduceIte, Nat.reduceEqDiff, he, hd, ha, hb, hk, hm, g0, g1, g2, g3, gm]
      try rfl
end Go.Sim
