/- A part of the proof of a law of module cupola: Ref. It has no conditions of its own. -/
import Derived.Test.YtocehjbdnhmkfaaGreatRef05
set_option linter.all false
set_option maxRecDepth 20000
/-! Contracts of packages cupolaref10 to cupolaref15. -/
namespace Go.Sim
open Enc (enc)
open Go.Proofs

/-- A list of pairs that grew somewhere behind the first object. -/
def Acc (R : Heap) (v : V) (l : List (Int × Int)) : Prop := (l = [] ∧ v = .ex []) ∨ ∃ m, v = .ref (m + 1) l.length ∧ ∀ X, (R ++ X)[m]? = some ⟨vs l, 2, false⟩
theorem Acc.nil (R : Heap) : Acc R (.ex []) [] := .inl ⟨rfl, rfl⟩
theorem Acc.mono {R : Heap} {v : V} {l : List (Int × Int)} (h : Acc R v l) (Y : Heap) : Acc (R ++ Y) v l := by
  rcases h with h | ⟨m, h1, h2⟩
  · exact .inl h
  · exact .inr ⟨m, h1, fun X => by rw [List.append_assoc]; exact h2 _⟩
theorem Acc.toT {R : Heap} {v : V} {l : List (Int × Int)} (h : Acc R v l) (o : Obj) : Sim.toT (o :: R) depth v = some (enc l) := by
  rcases h with ⟨rfl, rfl⟩ | ⟨m, rfl, h2⟩
  · exact toT_ex _ _ _
  · have := h2 []
    rw [List.append_nil] at this
    rw [toT_ref', cur_some (o := ⟨vs l, 2, false⟩) (by rw [List.getElem?_cons_succ]; exact this) (vs_len l), Option.bind_some, toTo_vs]
theorem Acc.push {R : Heap} {v : V} {l : List (Int × Int)} (h : Acc R v l) (o : Obj) (a b : Int) (hr : l.length ≤ 1000000) :
    ∃ v' R' f, appendV (some (2, 16)) (o :: R) v [.t (.agg [.int .i64 a, .int .i64 b])] = some ⟨v', o :: R', f⟩ ∧ Acc R' v' (l ++ [(a, b)]) := by
  rcases h with ⟨rfl, rfl⟩ | ⟨m, rfl, h2⟩
  · refine ⟨_, R ++ [⟨vs [(a, b)], 2, false⟩], _, app_ex rfl rfl rfl (by simp), .inr ⟨R.length, rfl, fun X => ?_⟩⟩
    simp
  · have h3 := h2 []
    rw [List.append_nil] at h3
    have hm : m < R.length := by
      rcases Nat.lt_or_ge m R.length with h | h
      · exact h
      · rw [List.getElem?_eq_none h] at h3; cases h3
    refine ⟨.ref (m + 1) (l.length + 1), R.set m ⟨vs (l ++ [(a, b)]), 2, false⟩, .grow (m + 1), ?_, .inr ⟨m, by simp, fun X => ?_⟩⟩
    · rw [app_ref rfl, cur_some (o := ⟨vs l, 2, false⟩) (by rw [List.getElem?_cons_succ]; exact h3) (vs_len l), Option.bind_some, app1_go rfl (by simp; omega), List.set_cons_succ, fold_pair]
      rfl
    · rw [List.getElem?_append_left (by simpa using hm)]
      simp [hm]

theorem alikeG_def (x y : Ev) : alikeG x y = ((decide (x.kind = 1) || decide (x.kind = 2)) && ((decide (y.kind = 1) || decide (y.kind = 2)) && decide (x.loc = y.loc))) := rfl
def alikeP (l : List Ev) (i k : Nat) : Bool := decide (i ≠ k) && alikeG (gd l i) (gd l k)
theorem ref10_Alike {x : Ex} (hx : x.ev.length ≤ 32) : Fun Tryz.prog 117 [enc x] (.t (enc (alikeR x.ev))) := by
  refine Fun.go (b := false) Tryz.func117 rfl rfl (by kernel_rfl) (by kernel_rfl) ?_
  simp -implicitDefEqProofs (disch := first | (refine fineP_go ?_; kernel_rfl) | omega | (refine of_eq_true ?_; simp (disch := first | omega | (refine of_eq_true ?_; simp only [go_sem]; done) | (simp only [go_sem]; omega)) only [go_sem]; done) | (simp only [go_sem]; omega) | assumption) only [go_sem, Bool.false_eq_true, ↓sel_fineP, ↓reduceIte, Nat.reduceEqDiff, sel_y, sel_n, sel_ny, sel_nn, wrap_u64, wrap_i64, wrap_u32, min_l]
  refine loop_up (n := x.ev.length) (fun i e H => e 1 = .ptr 0 1 0 0 ∧ e 4 = .t (.int .i64 i) ∧ ∃ R v, e 3 = v ∧ Acc R v (pto (alikeP x.ev) x.ev.length i) ∧ H = ⟨[.t (enc x)], 7, false⟩ :: R) ?_ _ _ ?_
  · rintro i e H hi ⟨h1, h4, R, v, h3, hA, rfl⟩
    by_cases hlt : i < x.ev.length
    · have hp1 := pto_len32 (p := alikeP x.ev) (n := x.ev.length) (i := i) hx (by omega)
      simp -implicitDefEqProofs (disch := first | (refine fineP_go ?_; kernel_rfl) | omega | (refine of_eq_true ?_; simp (disch := first | omega | (refine of_eq_true ?_; simp only [go_sem]; done) | (simp only [go_sem]; omega)) only [go_sem]; done) | (simp only [go_sem]; omega) | assumption) only [go_sem, Bool.false_eq_true, ↓sel_fineP, ↓reduceIte, Nat.reduceEqDiff, sel_y, sel_n, sel_ny, sel_nn, wrap_u64, wrap_i64, wrap_u32, min_l, h1, h3, h4]
      refine loop_up (n := x.ev.length) (fun k e H => e 1 = .ptr 0 1 0 0 ∧ e 4 = .t (.int .i64 i) ∧ e 5 = .t (.int .i64 k) ∧ ∃ R v, e 3 = v ∧ Acc R v (pto (alikeP x.ev) x.ev.length i ++ prow (alikeP x.ev) i k) ∧ H = ⟨[.t (enc x)], 7, false⟩ :: R) ?_ _ _ ?_
      · rintro k e H hk ⟨h1, h4, h5, R, v, h3, hA, rfl⟩
        by_cases hkl : k < x.ev.length
        · have hrl := prow_len (alikeP x.ev) i k
          have hl : (pto (alikeP x.ev) x.ev.length i ++ prow (alikeP x.ev) i k).length ≤ 1100 := by rw [List.length_append]; omega
          have hA' := (hA.mono [⟨[.t (enc (gd x.ev i))], 7, false⟩]).mono [⟨[.t (enc (gd x.ev k))], 7, false⟩]
          have hr := prow_succ (alikeP x.ev) i k
          have hp : alikeP x.ev i k = (decide (i ≠ k) && alikeG (gd x.ev i) (gd x.ev k)) := rfl
          rw [alikeG_def] at hp
          obtain ⟨v', R', f, happ, hA2⟩ := hA'.push ⟨[.t (enc x)], 7, false⟩ i k (by omega)
          have yes : alikeP x.ev i k = true → Acc R' v' (pto (alikeP x.ev) x.ev.length i ++ prow (alikeP x.ev) i (k + 1)) := fun h => by rw [hr, if_pos h, ← List.append_assoc]; exact hA2
          have no : alikeP x.ev i k = false → Acc (R ++ [⟨[.t (enc (gd x.ev i))], 7, false⟩] ++ [⟨[.t (enc (gd x.ev k))], 7, false⟩]) v (pto (alikeP x.ev) x.ev.length i ++ prow (alikeP x.ev) i (k + 1)) := fun h => by rw [hr, h, if_neg (by decide)]; exact hA'
          by_cases hik : i = k
          · simp -implicitDefEqProofs (disch := first | (refine fineP_go ?_; kernel_rfl) | omega | (refine of_eq_true ?_; simp (disch := first | omega | (refine of_eq_true ?_; simp only [go_sem]; done) | (simp only [go_sem]; omega)) only [go_sem]; done) | (simp only [go_sem]; omega) | assumption) only [go_sem, Bool.false_eq_true, ↓sel_fineP, ↓reduceIte, Nat.reduceEqDiff, sel_y, sel_n, sel_ny, sel_nn, wrap_u64, wrap_i64, wrap_u32, min_l, h1, h3, h4, h5]
            exact ⟨hkl, _, _, rfl, no (by rw [hp]; simp [hik]), rfl⟩
          · by_cases k1 : (gd x.ev i).kind = 1
            · by_cases y1 : (gd x.ev k).kind = 1
              · by_cases hloc : (gd x.ev i).loc = (gd x.ev k).loc
                · simp -implicitDefEqProofs (disch := first | (refine fineP_go ?_; kernel_rfl) | omega | (refine of_eq_true ?_; simp (disch := first | omega | (refine of_eq_true ?_; simp only [go_sem]; done) | (simp only [go_sem]; omega)) only [go_sem]; done) | (simp only [go_sem]; omega) | assumption) only [go_sem, Bool.false_eq_true, ↓sel_fineP, ↓reduceIte, Nat.reduceEqDiff, sel_y, sel_n, sel_ny, sel_nn, wrap_u64, wrap_i64, wrap_u32, min_l, h1, h3, h4, h5, happ]
                  exact ⟨hkl, _, _, rfl, yes (by rw [hp]; simp [hik, k1, y1, hloc]), rfl⟩
                · simp -implicitDefEqProofs (disch := first | (refine fineP_go ?_; kernel_rfl) | omega | (refine of_eq_true ?_; simp (disch := first | omega | (refine of_eq_true ?_; simp only [go_sem]; done) | (simp only [go_sem]; omega)) only [go_sem]; done) | (simp only [go_sem]; omega) | assumption) only [go_sem, Bool.false_eq_true, ↓sel_fineP, ↓reduceIte, Nat.reduceEqDiff, sel_y, sel_n, sel_ny, sel_nn, wrap_u64, wrap_i64, wrap_u32, min_l, h1, h3, h4, h5, happ]
                  exact ⟨hkl, _, _, rfl, no (by rw [hp]; simp [hloc]), rfl⟩
              · by_cases y2 : (gd x.ev k).kind = 2
                · by_cases hloc : (gd x.ev i).loc = (gd x.ev k).loc
                  · simp -implicitDefEqProofs (disch := first | (refine fineP_go ?_; kernel_rfl) | omega | (refine of_eq_true ?_; simp (disch := first | omega | (refine of_eq_true ?_; simp only [go_sem]; done) | (simp only [go_sem]; omega)) only [go_sem]; done) | (simp only [go_sem]; omega) | assumption) only [go_sem, Bool.false_eq_true, ↓sel_fineP, ↓reduceIte, Nat.reduceEqDiff, sel_y, sel_n, sel_ny, sel_nn, wrap_u64, wrap_i64, wrap_u32, min_l, h1, h3, h4, h5, happ]
                    exact ⟨hkl, _, _, rfl, yes (by rw [hp]; simp [hik, k1, y2, hloc]), rfl⟩
                  · simp -implicitDefEqProofs (disch := first | (refine fineP_go ?_; kernel_rfl) | omega | (refine of_eq_true ?_; simp (disch := first | omega | (refine of_eq_true ?_; simp only [go_sem]; done) | (simp only [go_sem]; omega)) only [go_sem]; done) | (simp only [go_sem]; omega) | assumption) only [go_sem, Bool.false_eq_true, ↓sel_fineP, ↓reduceIte, Nat.reduceEqDiff, sel_y, sel_n, sel_ny, sel_nn, wrap_u64, wrap_i64, wrap_u32, min_l, h1, h3, h4, h5, happ]
                    exact ⟨hkl, _, _, rfl, no (by rw [hp]; simp [hloc]), rfl⟩
                · simp -implicitDefEqProofs (disch := first | (refine fineP_go ?_; kernel_rfl) | omega | (refine of_eq_true ?_; simp (disch := first | omega | (refine of_eq_true ?_; simp only [go_sem]; done) | (simp only [go_sem]; omega)) only [go_sem]; done) | (simp only [go_sem]; omega) | assumption) only [go_sem, Bool.false_eq_true, ↓sel_fineP, ↓reduceIte, Nat.reduceEqDiff, sel_y, sel_n, sel_ny, sel_nn, wrap_u64, wrap_i64, wrap_u32, min_l, h1, h3, h4, h5, happ]
                  exact ⟨hkl, _, _, rfl, no (by rw [hp]; simp [y1, y2]), rfl⟩
            · by_cases k2 : (gd x.ev i).kind = 2
              · by_cases y1 : (gd x.ev k).kind = 1
                · by_cases hloc : (gd x.ev i).loc = (gd x.ev k).loc
                  · simp -implicitDefEqProofs (disch := first | (refine fineP_go ?_; kernel_rfl) | omega | (refine of_eq_true ?_; simp (disch := first | omega | (refine of_eq_true ?_; simp only [go_sem]; done) | (simp only [go_sem]; omega)) only [go_sem]; done) | (simp only [go_sem]; omega) | assumption) only [go_sem, Bool.false_eq_true, ↓sel_fineP, ↓reduceIte, Nat.reduceEqDiff, sel_y, sel_n, sel_ny, sel_nn, wrap_u64, wrap_i64, wrap_u32, min_l, h1, h3, h4, h5, happ]
                    exact ⟨hkl, _, _, rfl, yes (by rw [hp]; simp [hik, k2, y1, hloc]), rfl⟩
                  · simp -implicitDefEqProofs (disch := first | (refine fineP_go ?_; kernel_rfl) | omega | (refine of_eq_true ?_; simp (disch := first | omega | (refine of_eq_true ?_; simp only [go_sem]; done) | (simp only [go_sem]; omega)) only [go_sem]; done) | (simp only [go_sem]; omega) | assumption) only [go_sem, Bool.false_eq_true, ↓sel_fineP, ↓reduceIte, Nat.reduceEqDiff, sel_y, sel_n, sel_ny, sel_nn, wrap_u64, wrap_i64, wrap_u32, min_l, h1, h3, h4, h5, happ]
                    exact ⟨hkl, _, _, rfl, no (by rw [hp]; simp [hloc]), rfl⟩
                · by_cases y2 : (gd x.ev k).kind = 2
                  · by_cases hloc : (gd x.ev i).loc = (gd x.ev k).loc
                    · simp -implicitDefEqProofs (disch := first | (refine fineP_go ?_; kernel_rfl) | omega | (refine of_eq_true ?_; simp (disch := first | omega | (refine of_eq_true ?_; simp only [go_sem]; done) | (simp only [go_sem]; omega)) only [go_sem]; done) | (simp only [go_sem]; omega) | assumption) only [go_sem, Bool.false_eq_true, ↓sel_fineP, ↓reduceIte, Nat.reduceEqDiff, sel_y, sel_n, sel_ny, sel_nn, wrap_u64, wrap_i64, wrap_u32, min_l, h1, h3, h4, h5, happ]
                      exact ⟨hkl, _, _, rfl, yes (by rw [hp]; simp [hik, k2, y2, hloc]), rfl⟩
                    · simp -implicitDefEqProofs (disch := first | (refine fineP_go ?_; kernel_rfl) | omega | (refine of_eq_true ?_; simp (disch := first | omega | (refine of_eq_true ?_; simp only [go_sem]; done) | (simp only [go_sem]; omega)) only [go_sem]; done) | (simp only [go_sem]; omega) | assumption) only [go_sem, Bool.false_eq_true, ↓sel_fineP, ↓reduceIte, Nat.reduceEqDiff, sel_y, sel_n, sel_ny, sel_nn, wrap_u64, wrap_i64, wrap_u32, min_l, h1, h3, h4, h5, happ]
                      exact ⟨hkl, _, _, rfl, no (by rw [hp]; simp [hloc]), rfl⟩
                  · simp -implicitDefEqProofs (disch := first | (refine fineP_go ?_; kernel_rfl) | omega | (refine of_eq_true ?_; simp (disch := first | omega | (refine of_eq_true ?_; simp only [go_sem]; done) | (simp only [go_sem]; omega)) only [go_sem]; done) | (simp only [go_sem]; omega) | assumption) only [go_sem, Bool.false_eq_true, ↓sel_fineP, ↓reduceIte, Nat.reduceEqDiff, sel_y, sel_n, sel_ny, sel_nn, wrap_u64, wrap_i64, wrap_u32, min_l, h1, h3, h4, h5, happ]
                    exact ⟨hkl, _, _, rfl, no (by rw [hp]; simp [y1, y2]), rfl⟩
              · simp -implicitDefEqProofs (disch := first | (refine fineP_go ?_; kernel_rfl) | omega | (refine of_eq_true ?_; simp (disch := first | omega | (refine of_eq_true ?_; simp only [go_sem]; done) | (simp only [go_sem]; omega)) only [go_sem]; done) | (simp only [go_sem]; omega) | assumption) only [go_sem, Bool.false_eq_true, ↓sel_fineP, ↓reduceIte, Nat.reduceEqDiff, sel_y, sel_n, sel_ny, sel_nn, wrap_u64, wrap_i64, wrap_u32, min_l, h1, h3, h4, h5, happ]
                exact ⟨hkl, _, _, rfl, no (by rw [hp]; simp [k1, k2]), rfl⟩
        · obtain rfl : k = x.ev.length := by omega
          simp -implicitDefEqProofs (disch := first | (refine fineP_go ?_; kernel_rfl) | omega | (refine of_eq_true ?_; simp (disch := first | omega | (refine of_eq_true ?_; simp only [go_sem]; done) | (simp only [go_sem]; omega)) only [go_sem]; done) | (simp only [go_sem]; omega) | assumption) only [go_sem, Bool.false_eq_true, ↓sel_fineP, ↓reduceIte, Nat.reduceEqDiff, sel_y, sel_n, sel_ny, sel_nn, wrap_u64, wrap_i64, wrap_u32, min_l, h1, h3, h4, h5, pto_succ]
          exact ⟨hlt, _, _, rfl, hA, rfl⟩
      · simp -implicitDefEqProofs (disch := first | (refine fineP_go ?_; kernel_rfl) | omega | (refine of_eq_true ?_; simp (disch := first | omega | (refine of_eq_true ?_; simp only [go_sem]; done) | (simp only [go_sem]; omega)) only [go_sem]; done) | (simp only [go_sem]; omega) | assumption) only [go_sem, Bool.false_eq_true, ↓sel_fineP, ↓reduceIte, Nat.reduceEqDiff, sel_y, sel_n, sel_ny, sel_nn, wrap_u64, wrap_i64, wrap_u32, min_l, h1, h3, h4, show prow (alikeP x.ev) i 0 = [] from rfl]
        exact ⟨_, _, rfl, hA, rfl⟩
    · obtain rfl : i = x.ev.length := by omega
      have hT := hA.toT ⟨[.t (enc x)], 7, false⟩
      have hp1 := pto_len32 (p := alikeP x.ev) (n := x.ev.length) (i := x.ev.length) hx hx
      have hok := pto_ok (n := x.ev.length) (p := alikeP x.ev)
      simp -implicitDefEqProofs (disch := first | (refine fineP_go ?_; kernel_rfl) | omega | (refine of_eq_true ?_; simp (disch := first | omega | (refine of_eq_true ?_; simp only [go_sem, h1, h3, h4, hT]; done) | (simp only [go_sem, h1, h3, h4, hT]; omega)) only [go_sem, h1, h3, h4, hT]; done) | (simp only [go_sem, h1, h3, h4, hT]; omega) | assumption) only [go_sem, Bool.false_eq_true, ↓sel_fineP, ↓reduceIte, Nat.reduceEqDiff, sel_y, sel_n, sel_ny, sel_nn, wrap_u64, wrap_i64, wrap_u32, min_l, h1, h3, h4, hT]
      rw [made_pto]; rfl
  · simp -implicitDefEqProofs (disch := first | (refine fineP_go ?_; kernel_rfl) | omega | (refine of_eq_true ?_; simp (disch := first | omega | (refine of_eq_true ?_; simp only [go_sem]; done) | (simp only [go_sem]; omega)) only [go_sem]; done) | (simp only [go_sem]; omega) | assumption) only [go_sem, Bool.false_eq_true, ↓sel_fineP, ↓reduceIte, Nat.reduceEqDiff, sel_y, sel_n, sel_ny, sel_nn, wrap_u64, wrap_i64, wrap_u32, min_l]
    exact ⟨_, _, rfl, Acc.nil _, rfl⟩
@[go_sem] theorem pu_rAlike {x : Ex} (hx : x.ev.length ≤ 32) {K : Ka V} : @Pu Tryz.prog 117 [enc x] K = K.k (.t (enc (alikeR x.ev))) := (ref10_Alike hx).pu
end Go.Sim
