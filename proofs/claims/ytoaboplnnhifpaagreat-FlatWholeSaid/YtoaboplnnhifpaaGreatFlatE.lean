/- Part: FlatE -/
import Derived.Test.YtoaboplnnhifpaaGreatFlatN
set_option linter.all false
set_option maxRecDepth 100000
namespace Go.Sim
open Enc (enc)
open Go.Proofs
theorem isSl_all (l : List (List Int)) : (l.map enc).all isSl = true := by
  rw [List.all_eq_true]
  intro t ht
  obtain ⟨a, _, rfl⟩ := List.mem_map.1 ht
  rfl
theorem clone_rows (l : List (List Int)) (hl : l.length <= 1000000) : Fun Tryz.prog 129 [enc l] (freshL l) := by
  refine orc_fun rfl (clone_run (ok := fun xs => xs.all isSl) (isSl_all l) hl) ?_
  rw [show isFresh Tryz.prog 129 = true by kernel_rfl]; exact clone_exp l
@[go_sem] theorem pu_clrows {l : List (List Int)} (hl : l.length <= 1000000) {K : Kp} : @Pu _ Tryz.prog 129 [enc l] K = K.k (freshL l) := (clone_rows l hl).pu
theorem grow_dead (x y : T) : Dead Tryz.prog 207 [x, y] := ⟨1, .dead, [], rfl, rfl⟩
theorem grow_go {H : Heap} {n : Nat} (h0 : 0 < n) (h1 : n <= 1000000) : FunH Tryz.prog 207 [.ex [], .t (.int .i64 n)] H (.ref H.length 0) (H ++ [⟨[], 1, false⟩]) := by
  refine ⟨1, ?_⟩
  show growRun [.ex [], .t (.int .i64 n)] H = _
  unfold growRun
  simp only
  rw [if_pos (by omega)]
def lens (l : List (List Int)) (i : Nat) : Nat := ((l.take i).map List.length).sum
theorem lens_step {l : List (List Int)} {i : Nat} (h : i < l.length) : lens l (i + 1) = lens l i + (gd l i).length := by
  unfold lens
  rw [← take_gd h, List.map_append, List.sum_append]; simp
theorem lens_le {l : List (List Int)} {i : Nat} : lens l i <= lens l l.length := by
  unfold lens
  rw [List.take_length]
  conv => rhs; rw [← List.take_append_drop i l, List.map_append, List.sum_append]
  omega
theorem flat_take' {l : List (List Int)} {i : Nat} (h : i < l.length) : (l.take (i + 1)).flatten = (l.take i).flatten ++ gd l i := by
  rw [← take_gd h, List.flatten_append]; simp
theorem lens_flat {l : List (List Int)} {i : Nat} : ((l.take i).flatten).length = lens l i := by
  unfold lens; rw [List.length_flatten]
theorem app_row {A B : List Int} {n : Nat} (hn : A.length = n) (hr : (A.length + B.length) * 8 <= 70368744177664) : ∃ f, appendV (some (1, 8)) [⟨vs A, 1, false⟩] (.ref 0 n) (vs B) = some ⟨.ref 0 (n + B.length), [⟨vs (A ++ B), 1, false⟩], f⟩ := by
  subst hn
  rw [app_ref (fits_vs B), cur_some (o := ⟨vs A, 1, false⟩) rfl (vs_len A), Option.bind_some]
  cases B with
  | nil => exact ⟨_, by simp [app1, vs]; rfl⟩
  | cons b B => exact ⟨_, by rw [app1_go rfl (by rw [vs_len]; simpa using hr), vs_app]; simp [vs]; rfl⟩
theorem slices_Concat {ls : List (List Int)} (h1 : ls.length <= 1000) (h2 : lens ls ls.length <= 100000) (h0 : 0 < lens ls ls.length) : Fun Tryz.prog 130 [enc ls] (.t (enc ls.flatten)) := by
  refine Fun.go (b := false) Tryz.func130 rfl rfl (by kernel_rfl) (by kernel_rfl) ?_
  simp -implicitDefEqProofs (disch := first | exact dsch | fail) only [go_sem, ↓reduceIte, Nat.reduceEqDiff]
  refine loop_k (n := ls.length) [0, 2, 9, 10] (by kernel_rfl) (fun i e H => e 11 = .t (.int .i64 i) /\ H = [] /\ e 3 = .t (.int .i64 (lens ls i : Nat))) ?_ ?_
  . rintro i e H hi hk ⟨hct, rfl, h3⟩
    simp only [keepP, go_sem, ↓reduceIte, Nat.reduceEqDiff, and_true] at hk
    by_cases hlt : i < ls.length
    . have hst := lens_step hlt
      have hle := lens_le (l := ls) (i := i + 1)
      simp -implicitDefEqProofs (disch := first | exact dsch | fail) only [go_sem, ↓reduceIte, Nat.reduceEqDiff, hk, hct, h3]
      exact ⟨hlt, by rw [hst]; push_cast; rfl⟩
    . obtain rfl : i = ls.length := by omega
      simp -implicitDefEqProofs (disch := first | exact dsch | fail) only [go_sem, ↓reduceIte, Nat.reduceEqDiff, hk, hct, h3]
      refine Pu.dead (grow_dead _ _) (HeapGo.go (grow_go h0 (by omega)) ?_)
      simp -implicitDefEqProofs (disch := first | exact dsch | fail) only [go_sem, ↓reduceIte, Nat.reduceEqDiff, hk, hct, h3]
      refine loop_k (n := ls.length) [2, 25, 26] (by kernel_rfl) (fun i e H => e 27 = .t (.int .i64 i) /\ H = [⟨vs ((ls.take i).flatten), 1, false⟩] /\ e 6 = .ref 0 (lens ls i)) ?_ ?_
      . rintro i e H hi hk ⟨hct, rfl, h6⟩
        simp only [keepP, go_sem, ↓reduceIte, Nat.reduceEqDiff, and_true] at hk
        by_cases hlt : i < ls.length
        . have hst := lens_step hlt
          have hle := lens_le (l := ls) (i := i + 1)
          have hfl := lens_flat (l := ls) (i := i)
          obtain ⟨f, hap⟩ := app_row (A := (ls.take i).flatten) (B := gd ls i) hfl (by omega)
          simp -implicitDefEqProofs (disch := first | exact dsch | fail) only [go_sem, ↓reduceIte, Nat.reduceEqDiff, hk, hct, h6, hap]
          exact ⟨hlt, by rw [flat_take' hlt], by rw [hst]⟩
        . obtain rfl : i = ls.length := by omega
          have hfl := lens_flat (l := ls) (i := ls.length)
          rw [List.take_length] at hfl
          simp -implicitDefEqProofs (disch := first | exact dsch | fail) only [go_sem, ↓reduceIte, Nat.reduceEqDiff, hk, hct, h6, List.take_length, hfl]
      . simp -implicitDefEqProofs (disch := first | exact dsch | fail) only [go_sem, ↓reduceIte, Nat.reduceEqDiff]
        exact ⟨rfl, rfl⟩
  . simp -implicitDefEqProofs (disch := first | exact dsch | fail) only [go_sem, ↓reduceIte, Nat.reduceEqDiff]
    rfl
end Go.Sim
