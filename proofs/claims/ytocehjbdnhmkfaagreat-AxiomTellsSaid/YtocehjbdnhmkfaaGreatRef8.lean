/- A part of the proof of a law of module cupola: Ref8. It has no conditions of its own. -/
import Derived.Test.YtocehjbdnhmkfaaGreatRef7
set_option linter.all false
set_option maxRecDepth 20000
set_option maxHeartbeats 1000000
/-! Contracts of package cupolaref16: the axioms. -/
namespace Go.Sim
open Enc (enc)
open Go.Proofs

@[go_sem] theorem pu_back {r : Rl} (hr : r.length ≤ 32) {i0 to : Nat} (h1 : i0 < r.length) (h2 : to < r.length) {K : Ka V} : @Pu Tryz.prog 114 [enc r, .int .i64 i0, .int .i64 to] K = K.k (.t (.bool (wayB r i0 to))) := (ref16_back hr h1 h2).pu
theorem ref16_Acyclic {a : Rl} (ha : a.length ≤ 32) : Fun Tryz.prog 61 [enc a] (.t (.bool (acyR a))) := by
  refine Fun.go (b := false) Tryz.func61 rfl rfl (by kernel_rfl) (by kernel_rfl) ?_
  simp -implicitDefEqProofs (disch := first | (refine fineP_go ?_; kernel_rfl) | omega | (refine of_eq_true ?_; simp (disch := first | omega | (refine of_eq_true ?_; simp only [go_sem]; done) | (simp only [go_sem]; omega)) only [go_sem]; done) | (simp only [go_sem]; omega) | assumption) only [go_sem, Bool.false_eq_true, ↓sel_fineP, ↓reduceIte, Nat.reduceEqDiff, sel_y, sel_n, sel_ny, sel_nn, wrap_u64, wrap_i64, wrap_u32, min_l]
  refine loop_up (n := a.length) (fun i e H => e 0 = .t (enc a) ∧ e 3 = .t (.int .i64 i) ∧ H = [] ∧ ∀ k, k < i → wayB a k k = false) ?_ _ _ ?_
  · rintro i e H hi ⟨h0, h3, rfl, hw⟩
    by_cases hlt : i < a.length
    · cases hx : wayB a i i
      · simp -implicitDefEqProofs (disch := first | (refine fineP_go ?_; kernel_rfl) | omega | (refine of_eq_true ?_; simp (disch := first | omega | (refine of_eq_true ?_; simp only [go_sem]; done) | (simp only [go_sem]; omega)) only [go_sem]; done) | (simp only [go_sem]; omega) | assumption) only [go_sem, Bool.false_eq_true, ↓sel_fineP, ↓reduceIte, Nat.reduceEqDiff, sel_y, sel_n, sel_ny, sel_nn, wrap_u64, wrap_i64, wrap_u32, min_l, h0, h3, hx]
        refine ⟨hlt, fun k hk => ?_⟩
        by_cases e : k = i
        · subst e; exact hx
        · exact hw k (by omega)
      · have : acyR a = false := by
          rw [acyR, List.all_eq_false]
          exact ⟨i, List.mem_range.2 hlt, by simp [hx]⟩
        simp -implicitDefEqProofs (disch := first | (refine fineP_go ?_; kernel_rfl) | omega | (refine of_eq_true ?_; simp (disch := first | omega | (refine of_eq_true ?_; simp only [go_sem]; done) | (simp only [go_sem]; omega)) only [go_sem]; done) | (simp only [go_sem]; omega) | assumption) only [go_sem, Bool.false_eq_true, ↓sel_fineP, ↓reduceIte, Nat.reduceEqDiff, sel_y, sel_n, sel_ny, sel_nn, wrap_u64, wrap_i64, wrap_u32, min_l, h0, h3, hx, this]
    · obtain rfl : i = a.length := by omega
      have : acyR a = true := by
        rw [acyR, List.all_eq_true]
        intro k hk
        simp [hw k (List.mem_range.1 hk)]
      simp -implicitDefEqProofs (disch := first | (refine fineP_go ?_; kernel_rfl) | omega | (refine of_eq_true ?_; simp (disch := first | omega | (refine of_eq_true ?_; simp only [go_sem]; done) | (simp only [go_sem]; omega)) only [go_sem]; done) | (simp only [go_sem]; omega) | assumption) only [go_sem, Bool.false_eq_true, ↓sel_fineP, ↓reduceIte, Nat.reduceEqDiff, sel_y, sel_n, sel_ny, sel_nn, wrap_u64, wrap_i64, wrap_u32, min_l, h0, h3, this]
  · simp -implicitDefEqProofs (disch := first | (refine fineP_go ?_; kernel_rfl) | omega | (refine of_eq_true ?_; simp (disch := first | omega | (refine of_eq_true ?_; simp only [go_sem]; done) | (simp only [go_sem]; omega)) only [go_sem]; done) | (simp only [go_sem]; omega) | assumption) only [go_sem, Bool.false_eq_true, ↓sel_fineP, ↓reduceIte, Nat.reduceEqDiff, sel_y, sel_n, sel_ny, sel_nn, wrap_u64, wrap_i64, wrap_u32, min_l]
    intro k hk; omega
@[go_sem] theorem pu_rAcyclic {a : Rl} (ha : a.length ≤ 32) {K : Ka V} : @Pu Tryz.prog 61 [enc a] K = K.k (.t (.bool (acyR a))) := (ref16_Acyclic ha).pu

theorem or_assoc3 {a b c : Rl} (h : a.length ≤ 32) (hb : b.length = a.length) : orR a (orR b c) = orR (orR a b) c := by
  refine Cl.ext (n := a.length) (cl_or h rfl) (cl_or h (orR_len _ _)) fun i k hi hk => ?_
  rw [has_orR h hi hk, has_orR (by omega) (by omega) (by omega), has_orR (by rw [orR_len]; exact h) (by rw [orR_len]; exact hi) (by rw [orR_len]; exact hk), has_orR h hi hk, Bool.or_assoc]
@[go_sem] theorem obsR_len (x fr co) : (obsR x fr co).length = x.ev.length := outerR_len _ _
theorem ref16_Ob {x : Ex} (hx : Okx x) (h24 : x.ev.length ≤ 24) {fr : List Int} (hf : fr.length ≤ 1000) {co : Rl} (hc : co.length = x.ev.length) : Fun Tryz.prog 27 [enc x, enc fr, enc co] (.t (enc (obR x fr co))) := by
  have hx' := hx
  obtain ⟨hn, h1, h2, h3, h4, h5⟩ := hx
  refine Fun.go (b := false) Tryz.func27 rfl rfl (by kernel_rfl) (by kernel_rfl) ?_
  have e : orR (orR (obsR x fr co) (dobR x fr co)) (orR (aobR x fr) (bobR x co)) = obR x fr co := by
    rw [or_assoc3 (by rw [orR_len, obsR_len]; exact hn) (by rw [orR_len, obsR_len, aobR_len])]; rfl
  simp -implicitDefEqProofs (disch := first | (refine fineP_go ?_; kernel_rfl) | omega | (refine of_eq_true ?_; simp (disch := first | omega | (refine of_eq_true ?_; simp only [go_sem]; done) | (simp only [go_sem]; omega)) only [go_sem]; done) | (simp only [go_sem]; omega) | assumption) only [go_sem, Bool.false_eq_true, ↓sel_fineP, ↓reduceIte, Nat.reduceEqDiff, sel_y, sel_n, sel_ny, sel_nn, wrap_u64, wrap_i64, wrap_u32, min_l, e]
@[go_sem] theorem pu_rOb {x : Ex} (hx : Okx x) (h24 : x.ev.length ≤ 24) {fr : List Int} (hf : fr.length ≤ 1000) {co : Rl} (hc : co.length = x.ev.length) {K : Ka V} : @Pu Tryz.prog 27 [enc x, enc fr, enc co] K = K.k (.t (enc (obR x fr co))) := (ref16_Ob hx h24 hf hc).pu
theorem ref16_Internal {x : Ex} (hx : Okx x) {fr : List Int} (hf : fr.length ≤ 1000) {co : Rl} (hc : co.length = x.ev.length) : Fun Tryz.prog 18 [enc x, enc fr, enc co] (.t (.bool (internalB x fr co))) := by
  obtain ⟨hn, h1, h2, h3, h4, h5⟩ := hx
  refine Fun.go (b := false) Tryz.func18 rfl rfl (by kernel_rfl) (by kernel_rfl) ?_
  simp -implicitDefEqProofs (disch := first | (refine fineP_go ?_; kernel_rfl) | omega | (refine of_eq_true ?_; simp (disch := first | omega | (refine of_eq_true ?_; simp only [go_sem]; done) | (simp only [go_sem]; omega)) only [go_sem]; done) | (simp only [go_sem]; omega) | assumption) only [go_sem, Bool.false_eq_true, ↓sel_fineP, ↓reduceIte, Nat.reduceEqDiff, sel_y, sel_n, sel_ny, sel_nn, wrap_u64, wrap_i64, wrap_u32, min_l, internalB]
theorem ref16_External {x : Ex} (hx : Okx x) (h24 : x.ev.length ≤ 24) {fr : List Int} (hf : fr.length ≤ 1000) {co : Rl} (hc : co.length = x.ev.length) : Fun Tryz.prog 20 [enc x, enc fr, enc co] (.t (.bool (externalB x fr co))) := by
  have hx' := hx
  obtain ⟨hn, h1, h2, h3, h4, h5⟩ := hx
  refine Fun.go (b := false) Tryz.func20 rfl rfl (by kernel_rfl) (by kernel_rfl) ?_
  simp -implicitDefEqProofs (disch := first | (refine fineP_go ?_; kernel_rfl) | omega | (refine of_eq_true ?_; simp (disch := first | omega | (refine of_eq_true ?_; simp only [go_sem]; done) | (simp only [go_sem]; omega)) only [go_sem]; done) | (simp only [go_sem]; omega) | assumption) only [go_sem, Bool.false_eq_true, ↓sel_fineP, ↓reduceIte, Nat.reduceEqDiff, sel_y, sel_n, sel_ny, sel_nn, wrap_u64, wrap_i64, wrap_u32, min_l, externalB]
/-- Comes another thread write between? -/
def atJ (x : Ex) (fr : List Int) (co : Rl) (p : Int × Int) (k : Nat) : Bool := hasZ (outerR x.ev (frR x.ev fr co)) p.1 k && hasZ (outerR x.ev co) k p.2
theorem atomic_iff {x : Ex} (hx : Okx x) {fr : List Int} {co : Rl} (hc : co.length = x.ev.length) : atomicB x fr co = true ↔ ∀ p ∈ pairsR x.rmw, ∀ k, k < x.ev.length → atJ x fr co p k = false := by
  obtain ⟨hn, h1, h2, h3, h4, h5⟩ := hx
  have hb : ∀ a b, has (betweenR x fr co) a b = true ↔ has x.rmw a b = true ∧ ∃ k, k < x.ev.length ∧ atJ x fr co ((a : Int), (b : Int)) k = true := by
    intro a b
    by_cases hab : a < x.ev.length ∧ b < x.ev.length
    · rw [betweenR, andR, h5, has_mk' hn hab.1 hab.2, has_seqR (by rw [outerR_len]; exact hn) (by rw [outerR_len]; exact hab.1) (by rw [outerR_len]; exact hab.2), outerR_len]
      simp only [Bool.and_eq_true, List.any_eq_true, List.mem_range, atJ, hasZ_nat]
    · constructor
      · intro h; have := has_lt h; rw [betweenR_len] at this; omega
      · rintro ⟨h, _⟩; have := has_lt h; omega
  unfold atomicB
  rw [decide_eq_true_eq]
  constructor
  · intro h p hp k hk
    obtain ⟨a, b, rfl, hab⟩ := mem_pairsR.1 hp
    cases hj : atJ x fr co ((a : Int), (b : Int)) k
    · rfl
    · exfalso
      have := mem_pair.2 ((hb a b).2 ⟨hab, k, hk, hj⟩)
      have h0 : pairsR (betweenR x fr co) = [] := List.length_eq_zero_iff.1 (by omega)
      rw [h0] at this; cases this
  · intro h
    have h0 : pairsR (betweenR x fr co) = [] := by
      apply List.eq_nil_iff_forall_not_mem.2
      intro p hp
      obtain ⟨a, b, rfl, hab⟩ := mem_pairsR.1 hp
      obtain ⟨h1, k, hk, h2⟩ := (hb a b).1 hab
      rw [h _ (mem_pair.2 h1) k hk] at h2; cases h2
    rw [h0]; rfl
theorem ref16_Atomic {x : Ex} (hx : Okx x) {fr : List Int} (hf : fr.length ≤ 1000) {co : Rl} (hc : co.length = x.ev.length) : Fun Tryz.prog 22 [enc x, enc fr, enc co] (.t (.bool (atomicB x fr co))) := by
  have hai := atomic_iff hx (fr := fr) hc
  have hx' := hx
  obtain ⟨hn, h1, h2, h3, h4, h5⟩ := hx
  have hpl := pairsR_len x.rmw (by omega)
  refine Fun.go (b := false) Tryz.func22 rfl rfl (by kernel_rfl) (by kernel_rfl) ?_
  cases hp : (pairsR x.rmw).isEmpty
  case true =>
    have y : atomicB x fr co = true := hai.2 (by rw [pairs_nil hp]; intro p h; cases h)
    simp -implicitDefEqProofs (disch := first | (refine fineP_go ?_; kernel_rfl) | omega | (refine of_eq_true ?_; simp (disch := first | omega | (refine of_eq_true ?_; simp only [go_sem, fun K => pu_rPairs_e (a := x.rmw) (by omega) (pairs_nil hp) (K := K)]; done) | (simp only [go_sem, fun K => pu_rPairs_e (a := x.rmw) (by omega) (pairs_nil hp) (K := K)]; omega)) only [go_sem, fun K => pu_rPairs_e (a := x.rmw) (by omega) (pairs_nil hp) (K := K)]; done) | (simp only [go_sem, fun K => pu_rPairs_e (a := x.rmw) (by omega) (pairs_nil hp) (K := K)]; omega) | assumption) only [go_sem, Bool.false_eq_true, ↓sel_fineP, ↓reduceIte, Nat.reduceEqDiff, sel_y, sel_n, sel_ny, sel_nn, wrap_u64, wrap_i64, wrap_u32, min_l, fun K => pu_rPairs_e (a := x.rmw) (by omega) (pairs_nil hp) (K := K)]
    rw [e_loop]
    simp -implicitDefEqProofs (disch := first | (refine fineP_go ?_; kernel_rfl) | omega | (refine of_eq_true ?_; simp (disch := first | omega | (refine of_eq_true ?_; simp only [go_sem]; done) | (simp only [go_sem]; omega)) only [go_sem]; done) | (simp only [go_sem]; omega) | assumption) only [go_sem, Bool.false_eq_true, ↓sel_fineP, ↓reduceIte, Nat.reduceEqDiff, sel_y, sel_n, sel_ny, sel_nn, wrap_u64, wrap_i64, wrap_u32, min_l, y]
  simp -implicitDefEqProofs (disch := first | (refine fineP_go ?_; kernel_rfl) | omega | (refine of_eq_true ?_; simp (disch := first | omega | (refine of_eq_true ?_; simp only [go_sem, fun K => pu_rPairs_n (a := x.rmw) (by omega) hp (K := K), map_t_enc]; done) | (simp only [go_sem, fun K => pu_rPairs_n (a := x.rmw) (by omega) hp (K := K), map_t_enc]; omega)) only [go_sem, fun K => pu_rPairs_n (a := x.rmw) (by omega) hp (K := K), map_t_enc]; done) | (simp only [go_sem, fun K => pu_rPairs_n (a := x.rmw) (by omega) hp (K := K), map_t_enc]; omega) | assumption) only [go_sem, Bool.false_eq_true, ↓sel_fineP, ↓reduceIte, Nat.reduceEqDiff, sel_y, sel_n, sel_ny, sel_nn, wrap_u64, wrap_i64, wrap_u32, min_l, fun K => pu_rPairs_n (a := x.rmw) (by omega) hp (K := K), map_t_enc]
  refine loop_up (n := (pairsR x.rmw).length) (fun i e H => e 3 = .ptr 0 1 0 0 ∧ e 7 = .t (enc (outerR x.ev (frR x.ev fr co))) ∧ e 8 = .t (enc (outerR x.ev co)) ∧ e 9 = .ref 1 (pairsR x.rmw).length ∧ e 10 = .t (.int .i64 i) ∧ H = [⟨[.t (enc x)], 7, false⟩, ⟨vs (pairsR x.rmw), 2, false⟩] ∧ ∀ j, j < i → ∀ k, k < x.ev.length → atJ x fr co (gd (pairsR x.rmw) j) k = false) ?_ _ _ ?_
  · rintro i e H hi ⟨g3, g7, g8, g9, g10, rfl, hno⟩
    by_cases hlt : i < (pairsR x.rmw).length
    · obtain ⟨a, b, hab, hh⟩ := pairsR_gd hlt
      simp -implicitDefEqProofs (disch := first | (refine fineP_go ?_; kernel_rfl) | omega | (refine of_eq_true ?_; simp (disch := first | omega | (refine of_eq_true ?_; simp only [go_sem]; done) | (simp only [go_sem]; omega)) only [go_sem]; done) | (simp only [go_sem]; omega) | assumption) only [go_sem, Bool.false_eq_true, ↓sel_fineP, ↓reduceIte, Nat.reduceEqDiff, sel_y, sel_n, sel_ny, sel_nn, wrap_u64, wrap_i64, wrap_u32, min_l, g3, g7, g8, g9, g10]
      refine loop_up (n := x.ev.length) (fun k e H => e 3 = .ptr 0 1 0 0 ∧ e 7 = .t (enc (outerR x.ev (frR x.ev fr co))) ∧ e 8 = .t (enc (outerR x.ev co)) ∧ e 9 = .ref 1 (pairsR x.rmw).length ∧ e 10 = .t (.int .i64 i) ∧ e 11 = .t (.int .i64 k) ∧ H = [⟨[.t (enc x)], 7, false⟩, ⟨vs (pairsR x.rmw), 2, false⟩] ∧ ∀ k', k' < k → atJ x fr co ((a : Int), (b : Int)) k' = false) ?_ _ _ ?_
      · rintro k e H hk ⟨g3, g7, g8, g9, g10, g11, rfl, hnk⟩
        by_cases hkl : k < x.ev.length
        · have step : atJ x fr co ((a : Int), (b : Int)) k = false → ∀ k', k' < k + 1 → atJ x fr co ((a : Int), (b : Int)) k' = false := fun nj j' h => if e : j' = k then e ▸ nj else hnk j' (by omega)
          cases A : has (outerR x.ev (frR x.ev fr co)) a k
          · simp -implicitDefEqProofs (disch := first | (refine fineP_go ?_; kernel_rfl) | omega | (refine of_eq_true ?_; simp (disch := first | omega | (refine of_eq_true ?_; simp only [go_sem]; done) | (simp only [go_sem]; omega)) only [go_sem]; done) | (simp only [go_sem]; omega) | assumption) only [go_sem, Bool.false_eq_true, ↓sel_fineP, ↓reduceIte, Nat.reduceEqDiff, sel_y, sel_n, sel_ny, sel_nn, wrap_u64, wrap_i64, wrap_u32, min_l, g3, g7, g8, g9, g10, g11, hab, A]
            exact ⟨hkl, step (by simp [atJ, hasZ_nat, A])⟩
          · cases B : has (outerR x.ev co) k b
            · simp -implicitDefEqProofs (disch := first | (refine fineP_go ?_; kernel_rfl) | omega | (refine of_eq_true ?_; simp (disch := first | omega | (refine of_eq_true ?_; simp only [go_sem]; done) | (simp only [go_sem]; omega)) only [go_sem]; done) | (simp only [go_sem]; omega) | assumption) only [go_sem, Bool.false_eq_true, ↓sel_fineP, ↓reduceIte, Nat.reduceEqDiff, sel_y, sel_n, sel_ny, sel_nn, wrap_u64, wrap_i64, wrap_u32, min_l, g3, g7, g8, g9, g10, g11, hab, A, B]
              exact ⟨hkl, step (by simp [atJ, hasZ_nat, B])⟩
            · have n : atomicB x fr co = false := by
                cases h : atomicB x fr co
                · rfl
                · have := hai.1 h _ (mem_pair.2 hh) k hkl
                  simp [atJ, hasZ_nat, A, B] at this
              simp -implicitDefEqProofs (disch := first | (refine fineP_go ?_; kernel_rfl) | omega | (refine of_eq_true ?_; simp (disch := first | omega | (refine of_eq_true ?_; simp only [go_sem]; done) | (simp only [go_sem]; omega)) only [go_sem]; done) | (simp only [go_sem]; omega) | assumption) only [go_sem, Bool.false_eq_true, ↓sel_fineP, ↓reduceIte, Nat.reduceEqDiff, sel_y, sel_n, sel_ny, sel_nn, wrap_u64, wrap_i64, wrap_u32, min_l, g3, g7, g8, g9, g10, g11, hab, A, B, n]
        · obtain rfl : k = x.ev.length := by omega
          simp -implicitDefEqProofs (disch := first | (refine fineP_go ?_; kernel_rfl) | omega | (refine of_eq_true ?_; simp (disch := first | omega | (refine of_eq_true ?_; simp only [go_sem]; done) | (simp only [go_sem]; omega)) only [go_sem]; done) | (simp only [go_sem]; omega) | assumption) only [go_sem, Bool.false_eq_true, ↓sel_fineP, ↓reduceIte, Nat.reduceEqDiff, sel_y, sel_n, sel_ny, sel_nn, wrap_u64, wrap_i64, wrap_u32, min_l, g3, g7, g8, g9, g10, g11]
          refine ⟨hlt, fun j hj k hk => ?_⟩
          by_cases e : j = i
          · subst e; rw [hab]; exact hnk k hk
          · exact hno j (by omega) k hk
      · simp -implicitDefEqProofs (disch := first | (refine fineP_go ?_; kernel_rfl) | omega | (refine of_eq_true ?_; simp (disch := first | omega | (refine of_eq_true ?_; simp only [go_sem]; done) | (simp only [go_sem]; omega)) only [go_sem]; done) | (simp only [go_sem]; omega) | assumption) only [go_sem, Bool.false_eq_true, ↓sel_fineP, ↓reduceIte, Nat.reduceEqDiff, sel_y, sel_n, sel_ny, sel_nn, wrap_u64, wrap_i64, wrap_u32, min_l, g3, g7, g8, g9, g10]
        intro k' h; omega
    · obtain rfl : i = (pairsR x.rmw).length := by omega
      have y : atomicB x fr co = true := hai.2 (by
        intro p hp k hk
        obtain ⟨j, hj, e⟩ := List.mem_iff_getElem.1 hp
        have := hno j hj k hk
        rw [← gd_get hj, e] at this; exact this)
      simp -implicitDefEqProofs (disch := first | (refine fineP_go ?_; kernel_rfl) | omega | (refine of_eq_true ?_; simp (disch := first | omega | (refine of_eq_true ?_; simp only [go_sem]; done) | (simp only [go_sem]; omega)) only [go_sem]; done) | (simp only [go_sem]; omega) | assumption) only [go_sem, Bool.false_eq_true, ↓sel_fineP, ↓reduceIte, Nat.reduceEqDiff, sel_y, sel_n, sel_ny, sel_nn, wrap_u64, wrap_i64, wrap_u32, min_l, g3, g7, g8, g9, g10, y]
  · simp -implicitDefEqProofs (disch := first | (refine fineP_go ?_; kernel_rfl) | omega | (refine of_eq_true ?_; simp (disch := first | omega | (refine of_eq_true ?_; simp only [go_sem]; done) | (simp only [go_sem]; omega)) only [go_sem]; done) | (simp only [go_sem]; omega) | assumption) only [go_sem, Bool.false_eq_true, ↓sel_fineP, ↓reduceIte, Nat.reduceEqDiff, sel_y, sel_n, sel_ny, sel_nn, wrap_u64, wrap_i64, wrap_u32, min_l]
    intro j h; omega
section
variable {K : Ka V}
@[go_sem] theorem pu_rInternal {x : Ex} (hx : Okx x) {fr : List Int} (hf : fr.length ≤ 1000) {co : Rl} (hc : co.length = x.ev.length) : @Pu Tryz.prog 18 [enc x, enc fr, enc co] K = K.k (.t (.bool (internalB x fr co))) := (ref16_Internal hx hf hc).pu
@[go_sem] theorem pu_rExternal {x : Ex} (hx : Okx x) (h24 : x.ev.length ≤ 24) {fr : List Int} (hf : fr.length ≤ 1000) {co : Rl} (hc : co.length = x.ev.length) : @Pu Tryz.prog 20 [enc x, enc fr, enc co] K = K.k (.t (.bool (externalB x fr co))) := (ref16_External hx h24 hf hc).pu
@[go_sem] theorem pu_rAtomic {x : Ex} (hx : Okx x) {fr : List Int} (hf : fr.length ≤ 1000) {co : Rl} (hc : co.length = x.ev.length) : @Pu Tryz.prog 22 [enc x, enc fr, enc co] K = K.k (.t (.bool (atomicB x fr co))) := (ref16_Atomic hx hf hc).pu
end
theorem ref16_Good {x : Ex} (hx : Okx x) (h24 : x.ev.length ≤ 24) {fr : List Int} (hf : fr.length ≤ 1000) {co : Rl} (hc : co.length = x.ev.length) : Fun Tryz.prog 24 [enc x, enc fr, enc co] (.t (.bool (goodB x fr co))) := by
  have hx' := hx
  obtain ⟨hn, h1, h2, h3, h4, h5⟩ := hx
  refine Fun.go (b := false) Tryz.func24 rfl rfl (by kernel_rfl) (by kernel_rfl) ?_
  unfold goodB
  cases g1 : internalB x fr co
  · simp -implicitDefEqProofs (disch := first | (refine fineP_go ?_; kernel_rfl) | omega | (refine of_eq_true ?_; simp (disch := first | omega | (refine of_eq_true ?_; simp only [go_sem]; done) | (simp only [go_sem]; omega)) only [go_sem]; done) | (simp only [go_sem]; omega) | assumption) only [go_sem, Bool.false_eq_true, ↓sel_fineP, ↓reduceIte, Nat.reduceEqDiff, sel_y, sel_n, sel_ny, sel_nn, wrap_u64, wrap_i64, wrap_u32, min_l, g1, Bool.false_and]
  · cases g2 : externalB x fr co
    · simp -implicitDefEqProofs (disch := first | (refine fineP_go ?_; kernel_rfl) | omega | (refine of_eq_true ?_; simp (disch := first | omega | (refine of_eq_true ?_; simp only [go_sem]; done) | (simp only [go_sem]; omega)) only [go_sem]; done) | (simp only [go_sem]; omega) | assumption) only [go_sem, Bool.false_eq_true, ↓sel_fineP, ↓reduceIte, Nat.reduceEqDiff, sel_y, sel_n, sel_ny, sel_nn, wrap_u64, wrap_i64, wrap_u32, min_l, g1, g2, Bool.true_and, Bool.false_and]
    · simp -implicitDefEqProofs (disch := first | (refine fineP_go ?_; kernel_rfl) | omega | (refine of_eq_true ?_; simp (disch := first | omega | (refine of_eq_true ?_; simp only [go_sem]; done) | (simp only [go_sem]; omega)) only [go_sem]; done) | (simp only [go_sem]; omega) | assumption) only [go_sem, Bool.false_eq_true, ↓sel_fineP, ↓reduceIte, Nat.reduceEqDiff, sel_y, sel_n, sel_ny, sel_nn, wrap_u64, wrap_i64, wrap_u32, min_l, g1, g2, Bool.true_and]
theorem wide_eq {x : Ex} (hn : x.ev.length ≤ 32) {fr : List Int} {co : Rl} (hc : co.length = x.ev.length) : orR (obR x fr co) (orR (withinR x.ev co) (withinR x.ev (frR x.ev fr co))) = wideR x fr co := by
  unfold wideR
  refine Cl.ext (n := x.ev.length) (cl_or hn (obR_len _ _ _)) (cl_or hn (obR_len _ _ _)) fun i k hi hk => ?_
  have ho := obR_len x fr co
  have hf := frR_len x.ev fr co
  have hw := withinR_len x.ev co
  rw [has_orR (a := obR x fr co) (b := orR (withinR x.ev co) (withinR x.ev (frR x.ev fr co))) (by omega) (by omega) (by omega), has_orR (a := withinR x.ev co) (by omega) (by omega) (by omega), has_orR (a := obR x fr co) (by omega) (by omega) (by omega)]
  congr 1
  unfold withinR
  have e : ∀ r : Rl, r.length = x.ev.length → has (andR r (innerR x.ev)) i k = (has r i k && has (innerR x.ev) i k) := fun r hr => by rw [andR, has_mk' (by omega) (by omega) (by omega)]
  rw [e _ hc, e _ hf, e _ (by rw [orR_len, hc]), has_orR (by omega) (by omega) (by omega)]
  cases has (innerR x.ev) i k <;> simp
theorem ref16_Wide {x : Ex} (hx : Okx x) (h24 : x.ev.length ≤ 24) {fr : List Int} (hf : fr.length ≤ 1000) {co : Rl} (hc : co.length = x.ev.length) : Fun Tryz.prog 29 [enc x, enc fr, enc co] (.t (enc (wideR x fr co))) := by
  have hx' := hx
  obtain ⟨hn, h1, h2, h3, h4, h5⟩ := hx
  refine Fun.go (b := false) Tryz.func29 rfl rfl (by kernel_rfl) (by kernel_rfl) ?_
  simp -implicitDefEqProofs (disch := first | (refine fineP_go ?_; kernel_rfl) | omega | (refine of_eq_true ?_; simp (disch := first | omega | (refine of_eq_true ?_; simp only [go_sem]; done) | (simp only [go_sem]; omega)) only [go_sem]; done) | (simp only [go_sem]; omega) | assumption) only [go_sem, Bool.false_eq_true, ↓sel_fineP, ↓reduceIte, Nat.reduceEqDiff, sel_y, sel_n, sel_ny, sel_nn, wrap_u64, wrap_i64, wrap_u32, min_l, wide_eq hn hc]
section
variable {K : Ka V}
@[go_sem] theorem pu_rGood {x : Ex} (hx : Okx x) (h24 : x.ev.length ≤ 24) {fr : List Int} (hf : fr.length ≤ 1000) {co : Rl} (hc : co.length = x.ev.length) : @Pu Tryz.prog 24 [enc x, enc fr, enc co] K = K.k (.t (.bool (goodB x fr co))) := (ref16_Good hx h24 hf hc).pu
@[go_sem] theorem pu_rWide {x : Ex} (hx : Okx x) (h24 : x.ev.length ≤ 24) {fr : List Int} (hf : fr.length ≤ 1000) {co : Rl} (hc : co.length = x.ev.length) : @Pu Tryz.prog 29 [enc x, enc fr, enc co] K = K.k (.t (enc (wideR x fr co))) := (ref16_Wide hx h24 hf hc).pu
end
end Go.Sim
