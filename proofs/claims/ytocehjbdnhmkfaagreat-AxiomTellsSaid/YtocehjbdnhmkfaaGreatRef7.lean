/- A part of the proof of a law of module cupola: Ref7. It has no conditions of its own. -/
import Derived.Test.YtocehjbdnhmkfaaGreatRef6
set_option linter.all false
set_option maxRecDepth 20000
set_option maxHeartbeats 1000000
/-! Contracts of package cupolaref16. -/
namespace Go.Sim
open Enc (enc)
open Go.Proofs

instance : Enc Nat := ⟨fun n => .int .i64 (n : Int), 0, 1, by decide, fun _ => rfl⟩
attribute [go_sem] fits_vs
instance : One Nat := ⟨rfl, fun _ => rfl, fun _ => rfl⟩
@[go_sem] theorem enc_nat (n : Nat) : enc n = .int .i64 (n : Int) := rfl
@[go_sem] theorem fold_nat (l : List Nat) (x : Nat) : vs l ++ [V.t (.int .i64 (x : Int))] = vs (l ++ [x]) := by simp [vs, enc_nat]

structure BackI (r : Rl) (i0 to i : Nat) (todo : List Nat) (seen : List Bool) : Prop where
  len : seen.length = r.length
  cnt : seen.count true + 1 = todo.length
  le : i ≤ todo.length
  td : ∀ t ∈ todo, t = i0 ∨ Way r i0 t
  fst : gd todo 0 = i0
  sn : ∀ k, gd seen k = true → k ∈ todo
  dn : ∀ p, p < i → ∀ k, has r (gd todo p) k = true → k ≠ to ∧ gd seen k = true
theorem gd_out {α : Type} [Enc α] {l : List α} {i : Nat} (h : l.length ≤ i) : gd l i = Enc.dflt := by simp [gd, h]
theorem BackI.small {r i0 to i todo seen} (h : BackI r i0 to i todo seen) : todo.length ≤ r.length + 1 := by
  have := h.cnt
  have h2 : seen.count true ≤ seen.length := List.count_le_length
  have := h.len
  omega
theorem BackI.way {r i0 to i todo seen} (h : BackI r i0 to i todo seen) {p k} (hp : p < todo.length) (hk : has r (gd todo p) k = true) : Way r i0 k := by
  rcases h.td _ (gd_mem hp) with e | e
  · rw [e] at hk; exact .single hk
  · exact .tail e hk
theorem BackI.add {r i0 to i todo seen} (h : BackI r i0 to i todo seen) {p k} (hp : p < todo.length) (hk : has r (gd todo p) k = true) (hs : gd seen k = false) : BackI r i0 to i (todo ++ [k]) (seen.set k true) := by
  have hkl := (has_lt hk).2
  have hks : k < seen.length := by rw [h.len]; exact hkl
  refine ⟨by rw [List.length_set]; exact h.len, ?_, ?_, ?_, ?_, ?_, ?_⟩
  · rw [List.count_set hks, gd_get hks, hs, List.length_append]
    have := h.cnt
    simp; omega
  · rw [List.length_append]; have := h.le; omega
  · intro t ht
    rcases List.mem_append.1 ht with ht | ht
    · exact h.td t ht
    · simp at ht; subst ht; exact .inr (h.way hp hk)
  · rw [gd_app_l (by omega)]; exact h.fst
  · intro k' hk'
    by_cases e : k = k'
    · subst e; exact List.mem_append_right _ (by simp)
    · rw [gd_set_ne e] at hk'; exact List.mem_append_left _ (h.sn k' hk')
  · intro q hq k' hk'
    rw [gd_app_l (by have := h.le; omega)] at hk'
    obtain ⟨a, b⟩ := h.dn q hq k' hk'
    refine ⟨a, ?_⟩
    by_cases e : k = k'
    · subst e; exact gd_set_eq hks
    · rw [gd_set_ne e]; exact b
theorem BackI.done {r i0 to todo seen} (h : BackI r i0 to todo.length todo seen) : ¬ Way r i0 to := by
  have key : ∀ k, Way r i0 k → k ≠ to ∧ gd seen k = true := by
    intro k hw
    induction hw with
    | single hk => exact h.dn 0 (by have := h.cnt; omega) _ (by rw [h.fst]; exact hk)
    | tail _ hk ih =>
      obtain ⟨p, hp, e⟩ := List.mem_iff_getElem.1 (h.sn _ ih.2)
      exact h.dn p hp _ (by rw [← gd_get hp, e]; exact hk)
  intro hw
  exact (key to hw).1 rfl
theorem backI_0 (r : Rl) (i0 to : Nat) : BackI r i0 to 0 [i0] (List.replicate r.length false) := by
  refine ⟨by simp, by simp [List.count_replicate], by simp, by simp, rfl, ?_, fun p hp => by omega⟩
  intro k hk
  by_cases h : k < r.length
  · rw [gd_rep h] at hk; cases hk
  · rw [gd_out (by simp; omega)] at hk; cases hk

/-- Things to be looked at: as they were laid first, or grown. -/
def TodoAt (todo : List Nat) (v : V) (seen : List Bool) (H : Heap) : Prop :=
  (v = .ex (todo.map enc) ∧ H = [⟨vs seen, 1, false⟩]) ∨ (v = .ref 1 todo.length ∧ H = [⟨vs seen, 1, false⟩, ⟨vs todo, 1, false⟩])

theorem ref16_back {r : Rl} (hr : r.length ≤ 32) {i0 to : Nat} : i0 < r.length → to < r.length → Fun Tryz.prog 114 [enc r, .int .i64 i0, .int .i64 to] (.t (.bool (wayB r i0 to))) := by
  intro hi0 hto
  refine Fun.go (b := false) Tryz.func114 rfl rfl (by kernel_rfl) (by kernel_rfl) ?_
  simp -implicitDefEqProofs (disch := first | (refine fineP_go ?_; kernel_rfl) | omega | (refine of_eq_true ?_; simp (disch := first | omega | (refine of_eq_true ?_; simp only [go_sem]; done) | (simp only [go_sem]; omega)) only [go_sem]; done) | (simp only [go_sem]; omega) | assumption) only [go_sem, Bool.false_eq_true, ↓sel_fineP, ↓reduceIte, Nat.reduceEqDiff, sel_y, sel_n, sel_ny, sel_nn, wrap_u64, wrap_i64, wrap_u32, min_l]
  refine loop_up (n := r.length + 1) (fun i e H => e 0 = .t (enc r) ∧ e 2 = .t (.int .i64 to) ∧ e 7 = .t (.int .i64 r.length) ∧ e 8 = .ref 0 r.length ∧ e 10 = .t (.int .i64 i) ∧ ∃ todo seen v, BackI r i0 to i todo seen ∧ e 9 = v ∧ TodoAt todo v seen H) ?_ _ _ ?_
  · rintro i e H hi ⟨g0, g2, g7, g8, g10, todo, seen, v, hB, g9, hT⟩
    have hsm := hB.small
    have hle := hB.le
    have hsl := hB.len
    by_cases hlt : i < todo.length
    · refine (?main : (∀ (e : Env), e 0 = .t (enc r) ∧ e 2 = .t (.int .i64 to) ∧ e 7 = .t (.int .i64 r.length) ∧ e 8 = .ref 0 r.length ∧ e 10 = .t (.int .i64 i) ∧ e 9 = v ∧ e 11 = .t (.int .i64 0) → @C Tryz.prog ?c e H ?Q) → _) ?loop
      case main =>
        intro loop
        rcases hT with ⟨rfl, rfl⟩ | ⟨rfl, rfl⟩
        · simp -implicitDefEqProofs (disch := first | (refine fineP_go ?_; kernel_rfl) | omega | (refine of_eq_true ?_; simp (disch := first | omega | (refine of_eq_true ?_; simp only [go_sem]; done) | (simp only [go_sem]; omega)) only [go_sem]; done) | (simp only [go_sem]; omega) | assumption) only [go_sem, Bool.false_eq_true, ↓sel_fineP, ↓reduceIte, Nat.reduceEqDiff, sel_y, sel_n, sel_ny, sel_nn, wrap_u64, wrap_i64, wrap_u32, min_l, g0, g2, g7, g8, g9, g10]
          refine loop _ ?_
          simp -implicitDefEqProofs (disch := first | (refine fineP_go ?_; kernel_rfl) | omega | (refine of_eq_true ?_; simp (disch := first | omega | (refine of_eq_true ?_; simp only [go_sem]; done) | (simp only [go_sem]; omega)) only [go_sem]; done) | (simp only [go_sem]; omega) | assumption) only [go_sem, Bool.false_eq_true, ↓sel_fineP, ↓reduceIte, Nat.reduceEqDiff, sel_y, sel_n, sel_ny, sel_nn, wrap_u64, wrap_i64, wrap_u32, min_l, g0, g2, g7, g8, g9, g10]
        · simp -implicitDefEqProofs (disch := first | (refine fineP_go ?_; kernel_rfl) | omega | (refine of_eq_true ?_; simp (disch := first | omega | (refine of_eq_true ?_; simp only [go_sem]; done) | (simp only [go_sem]; omega)) only [go_sem]; done) | (simp only [go_sem]; omega) | assumption) only [go_sem, Bool.false_eq_true, ↓sel_fineP, ↓reduceIte, Nat.reduceEqDiff, sel_y, sel_n, sel_ny, sel_nn, wrap_u64, wrap_i64, wrap_u32, min_l, g0, g2, g7, g8, g9, g10]
          refine loop _ ?_
          simp -implicitDefEqProofs (disch := first | (refine fineP_go ?_; kernel_rfl) | omega | (refine of_eq_true ?_; simp (disch := first | omega | (refine of_eq_true ?_; simp only [go_sem]; done) | (simp only [go_sem]; omega)) only [go_sem]; done) | (simp only [go_sem]; omega) | assumption) only [go_sem, Bool.false_eq_true, ↓sel_fineP, ↓reduceIte, Nat.reduceEqDiff, sel_y, sel_n, sel_ny, sel_nn, wrap_u64, wrap_i64, wrap_u32, min_l, g0, g2, g7, g8, g9, g10]
      case loop =>
        clear g0 g2 g7 g8 g10 g9 e
        rintro e ⟨g0, g2, g7, g8, g10, g9, g11⟩
        refine loop_up (n := r.length) (fun k e H => e 0 = .t (enc r) ∧ e 2 = .t (.int .i64 to) ∧ e 7 = .t (.int .i64 r.length) ∧ e 8 = .ref 0 r.length ∧ e 10 = .t (.int .i64 i) ∧ e 11 = .t (.int .i64 k) ∧ ∃ todo seen v, BackI r i0 to i todo seen ∧ i < todo.length ∧ (∀ k', k' < k → has r (gd todo i) k' = true → k' ≠ to ∧ gd seen k' = true) ∧ e 9 = v ∧ TodoAt todo v seen H) ?_ _ _ ?_
        · clear hsm hle hsl hlt hB hT g0 g2 g7 g8 g10 g9 g11 e seen v todo
          rintro k e H hk ⟨g0, g2, g7, g8, g10, g11, todo, seen, v, hB, hit, hpart, g9, hT⟩
          have hsm := hB.small
          have hsl := hB.len
          by_cases hkl : k < r.length
          · cases hh : has r (gd todo i) k
            · have hp' : ∀ k', k' < k + 1 → has r (gd todo i) k' = true → k' ≠ to ∧ gd seen k' = true := fun k' h1 h2 => by
                by_cases e : k' = k
                · subst e; rw [hh] at h2; cases h2
                · exact hpart k' (by omega) h2
              rcases hT with ⟨rfl, rfl⟩ | ⟨rfl, rfl⟩
              · simp -implicitDefEqProofs (disch := first | (refine fineP_go ?_; kernel_rfl) | omega | (refine of_eq_true ?_; simp (disch := first | omega | (refine of_eq_true ?_; simp only [go_sem]; done) | (simp only [go_sem]; omega)) only [go_sem]; done) | (simp only [go_sem]; omega) | assumption) only [go_sem, Bool.false_eq_true, ↓sel_fineP, ↓reduceIte, Nat.reduceEqDiff, sel_y, sel_n, sel_ny, sel_nn, wrap_u64, wrap_i64, wrap_u32, min_l, g0, g2, g7, g8, g9, g10, g11, hh]
                exact ⟨hkl, todo, seen, _, hB, hit, hp', rfl, .inl ⟨rfl, rfl⟩⟩
              · simp -implicitDefEqProofs (disch := first | (refine fineP_go ?_; kernel_rfl) | omega | (refine of_eq_true ?_; simp (disch := first | omega | (refine of_eq_true ?_; simp only [go_sem]; done) | (simp only [go_sem]; omega)) only [go_sem]; done) | (simp only [go_sem]; omega) | assumption) only [go_sem, Bool.false_eq_true, ↓sel_fineP, ↓reduceIte, Nat.reduceEqDiff, sel_y, sel_n, sel_ny, sel_nn, wrap_u64, wrap_i64, wrap_u32, min_l, g0, g2, g7, g8, g9, g10, g11, hh]
                exact ⟨hkl, todo, seen, _, hB, hit, hp', rfl, .inr ⟨rfl, rfl⟩⟩
            · by_cases hkt : k = to
              · have hw : wayB r i0 to = true := wayB_iff.2 (hkt ▸ hB.way hit hh)
                rcases hT with ⟨rfl, rfl⟩ | ⟨rfl, rfl⟩
                · simp -implicitDefEqProofs (disch := first | (refine fineP_go ?_; kernel_rfl) | omega | (refine of_eq_true ?_; simp (disch := first | omega | (refine of_eq_true ?_; simp only [go_sem]; done) | (simp only [go_sem]; omega)) only [go_sem]; done) | (simp only [go_sem]; omega) | assumption) only [go_sem, Bool.false_eq_true, ↓sel_fineP, ↓reduceIte, Nat.reduceEqDiff, sel_y, sel_n, sel_ny, sel_nn, wrap_u64, wrap_i64, wrap_u32, min_l, g0, g2, g7, g8, g9, g10, g11, hh, hw]
                · simp -implicitDefEqProofs (disch := first | (refine fineP_go ?_; kernel_rfl) | omega | (refine of_eq_true ?_; simp (disch := first | omega | (refine of_eq_true ?_; simp only [go_sem]; done) | (simp only [go_sem]; omega)) only [go_sem]; done) | (simp only [go_sem]; omega) | assumption) only [go_sem, Bool.false_eq_true, ↓sel_fineP, ↓reduceIte, Nat.reduceEqDiff, sel_y, sel_n, sel_ny, sel_nn, wrap_u64, wrap_i64, wrap_u32, min_l, g0, g2, g7, g8, g9, g10, g11, hh, hw]
              · cases hsk : gd seen k
                · have hB2 := hB.add hit hh hsk
                  have hp' : ∀ k', k' < k + 1 → has r (gd (todo ++ [k]) i) k' = true → k' ≠ to ∧ gd (seen.set k true) k' = true := fun k' h1 h2 => by
                    rw [gd_app_l hit] at h2
                    by_cases e : k = k'
                    · subst e; exact ⟨hkt, gd_set_eq (by omega)⟩
                    · rw [gd_set_ne e]; exact hpart k' (by omega) h2
                  have hit2 : i < (todo ++ [k]).length := by rw [List.length_append]; omega
                  rcases hT with ⟨rfl, rfl⟩ | ⟨rfl, rfl⟩
                  · simp -implicitDefEqProofs (disch := first | (refine fineP_go ?_; kernel_rfl) | omega | (refine of_eq_true ?_; simp (disch := first | omega | (refine of_eq_true ?_; simp only [go_sem]; done) | (simp only [go_sem]; omega)) only [go_sem]; done) | (simp only [go_sem]; omega) | assumption) only [go_sem, Bool.false_eq_true, ↓sel_fineP, ↓reduceIte, Nat.reduceEqDiff, sel_y, sel_n, sel_ny, sel_nn, wrap_u64, wrap_i64, wrap_u32, min_l, g0, g2, g7, g8, g9, g10, g11, hh, hsk]
                    exact ⟨hkl, todo ++ [k], seen.set k true, _, hB2, hit2, hp', rfl, .inr ⟨by simp, rfl⟩⟩
                  · simp -implicitDefEqProofs (disch := first | (refine fineP_go ?_; kernel_rfl) | omega | (refine of_eq_true ?_; simp (disch := first | omega | (refine of_eq_true ?_; simp only [go_sem]; done) | (simp only [go_sem]; omega)) only [go_sem]; done) | (simp only [go_sem]; omega) | assumption) only [go_sem, Bool.false_eq_true, ↓sel_fineP, ↓reduceIte, Nat.reduceEqDiff, sel_y, sel_n, sel_ny, sel_nn, wrap_u64, wrap_i64, wrap_u32, min_l, g0, g2, g7, g8, g9, g10, g11, hh, hsk]
                    exact ⟨hkl, todo ++ [k], seen.set k true, _, hB2, hit2, hp', rfl, .inr ⟨by simp, rfl⟩⟩
                · have hp' : ∀ k', k' < k + 1 → has r (gd todo i) k' = true → k' ≠ to ∧ gd seen k' = true := fun k' h1 h2 => by
                    by_cases e : k' = k
                    · subst e; exact ⟨hkt, hsk⟩
                    · exact hpart k' (by omega) h2
                  rcases hT with ⟨rfl, rfl⟩ | ⟨rfl, rfl⟩
                  · simp -implicitDefEqProofs (disch := first | (refine fineP_go ?_; kernel_rfl) | omega | (refine of_eq_true ?_; simp (disch := first | omega | (refine of_eq_true ?_; simp only [go_sem]; done) | (simp only [go_sem]; omega)) only [go_sem]; done) | (simp only [go_sem]; omega) | assumption) only [go_sem, Bool.false_eq_true, ↓sel_fineP, ↓reduceIte, Nat.reduceEqDiff, sel_y, sel_n, sel_ny, sel_nn, wrap_u64, wrap_i64, wrap_u32, min_l, g0, g2, g7, g8, g9, g10, g11, hh, hsk]
                    exact ⟨hkl, todo, seen, _, hB, hit, hp', rfl, .inl ⟨rfl, rfl⟩⟩
                  · simp -implicitDefEqProofs (disch := first | (refine fineP_go ?_; kernel_rfl) | omega | (refine of_eq_true ?_; simp (disch := first | omega | (refine of_eq_true ?_; simp only [go_sem]; done) | (simp only [go_sem]; omega)) only [go_sem]; done) | (simp only [go_sem]; omega) | assumption) only [go_sem, Bool.false_eq_true, ↓sel_fineP, ↓reduceIte, Nat.reduceEqDiff, sel_y, sel_n, sel_ny, sel_nn, wrap_u64, wrap_i64, wrap_u32, min_l, g0, g2, g7, g8, g9, g10, g11, hh, hsk]
                    exact ⟨hkl, todo, seen, _, hB, hit, hp', rfl, .inr ⟨rfl, rfl⟩⟩
          · obtain rfl : k = r.length := by omega
            have hB2 : BackI r i0 to (i + 1) todo seen := ⟨hB.len, hB.cnt, by omega, hB.td, hB.fst, hB.sn, fun p hp k' hk' => by
              by_cases e : p = i
              · subst e; exact hpart k' (has_lt hk').2 hk'
              · exact hB.dn p (by omega) k' hk'⟩
            simp -implicitDefEqProofs (disch := first | (refine fineP_go ?_; kernel_rfl) | omega | (refine of_eq_true ?_; simp (disch := first | omega | (refine of_eq_true ?_; simp only [go_sem]; done) | (simp only [go_sem]; omega)) only [go_sem]; done) | (simp only [go_sem]; omega) | assumption) only [go_sem, Bool.false_eq_true, ↓sel_fineP, ↓reduceIte, Nat.reduceEqDiff, sel_y, sel_n, sel_ny, sel_nn, wrap_u64, wrap_i64, wrap_u32, min_l, g0, g2, g7, g8, g9, g10, g11]
            exact ⟨by omega, todo, seen, _, hB2, rfl, hT⟩
        · simp -implicitDefEqProofs (disch := first | (refine fineP_go ?_; kernel_rfl) | omega | (refine of_eq_true ?_; simp (disch := first | omega | (refine of_eq_true ?_; simp only [go_sem]; done) | (simp only [go_sem]; omega)) only [go_sem]; done) | (simp only [go_sem]; omega) | assumption) only [go_sem, Bool.false_eq_true, ↓sel_fineP, ↓reduceIte, Nat.reduceEqDiff, sel_y, sel_n, sel_ny, sel_nn, wrap_u64, wrap_i64, wrap_u32, min_l, g0, g2, g7, g8, g9, g10, g11]
          exact ⟨todo, seen, _, hB, hlt, fun k' h => by omega, rfl, hT⟩
    · obtain rfl : i = todo.length := by omega
      have hw : wayB r i0 to = false := by
        cases h : wayB r i0 to
        · rfl
        · exact absurd (wayB_iff.1 h) hB.done
      rcases hT with ⟨rfl, rfl⟩ | ⟨rfl, rfl⟩
      · simp -implicitDefEqProofs (disch := first | (refine fineP_go ?_; kernel_rfl) | omega | (refine of_eq_true ?_; simp (disch := first | omega | (refine of_eq_true ?_; simp only [go_sem]; done) | (simp only [go_sem]; omega)) only [go_sem]; done) | (simp only [go_sem]; omega) | assumption) only [go_sem, Bool.false_eq_true, ↓sel_fineP, ↓reduceIte, Nat.reduceEqDiff, sel_y, sel_n, sel_ny, sel_nn, wrap_u64, wrap_i64, wrap_u32, min_l, g0, g2, g7, g8, g9, g10, hw]
      · simp -implicitDefEqProofs (disch := first | (refine fineP_go ?_; kernel_rfl) | omega | (refine of_eq_true ?_; simp (disch := first | omega | (refine of_eq_true ?_; simp only [go_sem]; done) | (simp only [go_sem]; omega)) only [go_sem]; done) | (simp only [go_sem]; omega) | assumption) only [go_sem, Bool.false_eq_true, ↓sel_fineP, ↓reduceIte, Nat.reduceEqDiff, sel_y, sel_n, sel_ny, sel_nn, wrap_u64, wrap_i64, wrap_u32, min_l, g0, g2, g7, g8, g9, g10, hw]
  · simp -implicitDefEqProofs (disch := first | (refine fineP_go ?_; kernel_rfl) | omega | (refine of_eq_true ?_; simp (disch := first | omega | (refine of_eq_true ?_; simp only [go_sem]; done) | (simp only [go_sem]; omega)) only [go_sem]; done) | (simp only [go_sem]; omega) | assumption) only [go_sem, Bool.false_eq_true, ↓sel_fineP, ↓reduceIte, Nat.reduceEqDiff, sel_y, sel_n, sel_ny, sel_nn, wrap_u64, wrap_i64, wrap_u32, min_l]
    exact ⟨[i0], List.replicate r.length false, _, backI_0 r i0 to, rfl, .inl ⟨rfl, rfl⟩⟩
end Go.Sim
