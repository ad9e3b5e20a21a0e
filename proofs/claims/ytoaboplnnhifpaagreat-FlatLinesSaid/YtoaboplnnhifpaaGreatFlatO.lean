/- A part of the proof of a law of module cupola: FlatO. It has no conditions of its own. -/
import Derived.Test.YtoaboplnnhifpaaGreatFlatK
set_option linter.all false
set_option maxRecDepth 100000
namespace Go.Sim
open Enc (enc)
open Go.Proofs

theorem ref01_In {l : List Int} {n : Int} (hl : l.length ≤ 10000) : Fun Tryz.prog 22 [enc l, .int .i64 n] (.t (.bool (decide (n ∈ l)))) := by
  refine Fun.go (b := false) Tryz.func22 rfl rfl (by kernel_rfl) (by kernel_rfl) ?_
  simp -implicitDefEqProofs (disch := first | exact dsch | fail) only [go_sem, ↓reduceIte, Nat.reduceEqDiff]
  refine loop_k (n := l.length) [0, 1] (by kernel_rfl) (fun i e H => e 5 = .t (.int .i64 i) ∧ (∀ j, j < i → gd l j ≠ n) ∧ H = []) ?_ ?_
  · rintro i e H hi hk ⟨hct, hno, rfl⟩
    simp only [keepP, go_sem, ↓reduceIte, Nat.reduceEqDiff, and_true] at hk
    by_cases hlt : i < l.length
    · by_cases he : gd l i = n
      · have hm : n ∈ l := he ▸ gd_mem hlt
        simp -implicitDefEqProofs (disch := first | exact dsch | (simp only [go_sem, hk, hct, he, hm]; omega) | (refine of_eq_true ?_; simp (disch := first | omega | (refine of_eq_true ?_; simp only [go_sem, hk, hct, he, hm]; done) | (simp only [go_sem, hk, hct, he, hm]; omega)) only [go_sem, hk, hct, he, hm]; done) | fail) only [go_sem, ↓reduceIte, Nat.reduceEqDiff, hk, hct, he, hm]
      · simp -implicitDefEqProofs (disch := first | exact dsch | (simp only [go_sem, hk, hct, he]; omega) | (refine of_eq_true ?_; simp (disch := first | omega | (refine of_eq_true ?_; simp only [go_sem, hk, hct, he]; done) | (simp only [go_sem, hk, hct, he]; omega)) only [go_sem, hk, hct, he]; done) | fail) only [go_sem, ↓reduceIte, Nat.reduceEqDiff, hk, hct, he]
        refine ⟨hlt, fun j hj => ?_⟩
        by_cases e : j = i
        · subst e; exact he
        · exact hno j (by omega)
    · obtain rfl : i = l.length := by omega
      have hm : ¬ n ∈ l := fun hm => by
        obtain ⟨j, hj, rfl⟩ := List.mem_iff_getElem.1 hm
        exact hno j hj (by rw [gd_get hj])
      simp -implicitDefEqProofs (disch := first | exact dsch | (simp only [go_sem, hk, hct, hm]; omega) | (refine of_eq_true ?_; simp (disch := first | omega | (refine of_eq_true ?_; simp only [go_sem, hk, hct, hm]; done) | (simp only [go_sem, hk, hct, hm]; omega)) only [go_sem, hk, hct, hm]; done) | fail) only [go_sem, ↓reduceIte, Nat.reduceEqDiff, hk, hct, hm]
  · simp -implicitDefEqProofs (disch := first | exact dsch | fail) only [go_sem, ↓reduceIte, Nat.reduceEqDiff]
    intro j hj; omega
@[go_sem] theorem pu_In01 {l : List Int} {n : Int} (hl : l.length ≤ 10000) {K : Kp} : @Pu _ Tryz.prog 22 [enc l, .int .i64 n] K = K.k (.t (.bool (decide (n ∈ l)))) := (ref01_In hl).pu

def AccT (B H : Heap) (v : V) (l : List Int) : Prop := ∃ R, H = B ++ R ∧ ((l = [] ∧ v = .ex []) ∨ ∃ m st, v = .ref (B.length + m) l.length ∧ R[m]? = some ⟨vs l, 1, st⟩)
theorem AccT.push {B H : Heap} {v : V} {l : List Int} (h : AccT B H v l) (x : Int) {by_ : Nat} (hr : (l.length + 1) * by_ ≤ 70368744177664) :
    ∃ v' H' f, appendV (some (1, by_)) H v [V.t (enc x)] = some ⟨v', H', f⟩ ∧ AccT B H' v' (l ++ [x]) := by
  have hf : (vs [x]).all (fits 1) = true := fits_vs [x]
  obtain ⟨R, rfl, h⟩ := h
  rcases h with ⟨rfl, rfl⟩ | ⟨m, st, rfl, h⟩
  · refine ⟨_, (B ++ R) ++ [⟨vs [x], 1, false⟩], _, app_ex hf rfl rfl (by rw [vs_len]; simpa using hr), R ++ [⟨vs [x], 1, false⟩], by rw [List.append_assoc], .inr ⟨R.length, false, by simp [vs_len], by simp⟩⟩
  · refine ⟨.ref (B.length + m) (l.length + 1), (B ++ R).set (B.length + m) ⟨vs (l ++ [x]), 1, st⟩, .grow (B.length + m), ?_, R.set m ⟨vs (l ++ [x]), 1, st⟩, by rw [sxk], .inr ⟨m, st, by simp, by rw [List.getElem?_set_self (at_lt h)]⟩⟩
    show appendV (some (1, by_)) (B ++ R) (.ref (B.length + m) l.length) (vs [x]) = _
    rw [app_ref hf, cur_some (o := ⟨vs l, 1, st⟩) (by rw [gxk]; exact h) (vs_len l), Option.bind_some, app1_go rfl (by rw [vs_len]; simpa using hr), vs_app]
    rfl
theorem AccT.mono {B H : Heap} {v : V} {l : List Int} (h : AccT B H v l) (Y : Heap) : AccT B (H ++ Y) v l := by
  obtain ⟨R, rfl, h⟩ := h
  refine ⟨R ++ Y, by rw [List.append_assoc], ?_⟩
  rcases h with h | ⟨m, st, h1, h2⟩
  · exact .inl h
  · exact .inr ⟨m, st, h1, at_all h2 Y⟩
theorem lens_bd {l : List (List Int)} (hr : ∀ r ∈ l, r.length ≤ 100) : ∀ i, i ≤ l.length → lens l i ≤ 100 * i
  | 0, _ => by simp [lens]
  | i + 1, h => by
    rw [lens_step (by omega)]
    have := hr _ (gd_mem (by omega : i < l.length))
    have := lens_bd hr i (by omega)
    omega
theorem seen_len (s : Fs) (i q : Nat) : (seenR s i q).length ≤ lens s.l i + (gd s.l i).length := by
  unfold seenR
  rw [List.length_append, lens_flat, List.length_take]
  omega
theorem seen_step {s : Fs} {i q : Nat} (hq : q < (gd s.l i).length) : seenR s i (q + 1) = seenR s i q ++ [gd (gd s.l i) q] := by
  unfold seenR
  rw [← take_gd hq, List.append_assoc]
theorem seen_row {s : Fs} {i : Nat} (hi : i < s.l.length) : seenR s i (gd s.l i).length = (s.l.take (i + 1)).flatten := by
  unfold seenR
  rw [List.take_length, flat_take' hi]
theorem seen_zero (s : Fs) (i : Nat) : seenR s i 0 = (s.l.take i).flatten := by
  unfold seenR; simp
end Go.Sim
