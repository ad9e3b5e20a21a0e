/- A part of the proof of a law of module cupola: Ref6. It has no conditions of its own. -/
import Derived.Test.YtocehjbdnhmkfaaGreatRef5
set_option linter.all false
set_option maxRecDepth 20000
set_option maxHeartbeats 1000000
/-! Contracts of package cupolaref15: Fences, Orders, Bob, Aob. -/
namespace Go.Sim
open Enc (enc)
open Go.Proofs

theorem mask_get {l : List Ev} (hl : l.length ≤ 32) {g : Ev → Bool} {k : Nat} (hk : k < l.length) : (maskB l g).getLsbD k = g (gd l k) := by
  rw [maskB_get (by omega)]; simp [hk]
theorem has_overR {x : Ex} (hx : Okx x) {f t : U32} {c : Int} {i k : Nat} (hi : i < x.ev.length) (hk : k < x.ev.length) :
    has (overR x f c t) i k = (List.range x.ev.length).any fun j => (has x.po i j && (f.getLsbD i && decide ((gd x.ev j).kind = c))) && (has x.po j k && (decide ((gd x.ev j).kind = c) && t.getLsbD k)) := by
  obtain ⟨hn, h1, h2, h3, h4, h5⟩ := hx
  rw [overR, has_seqR (by rw [onlyR_len]; omega) (by rw [onlyR_len]; omega) (by rw [onlyR_len]; omega), onlyR_len, h1, Bool.eq_iff_iff, List.any_eq_true, List.any_eq_true]
  refine exists_congr fun j => and_congr_right fun hj => ?_
  have hj := List.mem_range.1 hj
  rw [has_onlyR (by omega) (by omega) (by omega), has_onlyR (by omega) (by omega) (by omega), kindM_get hn hj]
  simp
theorem fences_eq {x : Ex} (hx : Okx x) : mk x.ev.length (fencesQ x) = fencesR x := by
  have hn := hx.n
  refine Cl.ext (n := x.ev.length) (cl_mk hn) (cl_only hn (unionR_len _ _)) fun i k hi hk => ?_
  rw [has_mk' hn hi hk, fencesR, has_memR hn (unionR_len _ _) hi hk, has_unionR hn hi hk]
  simp only [List.any_cons, List.any_nil, Bool.or_false]
  rw [has_overR hx hi hk, has_overR hx hi hk, has_overR hx hi hk, ones_get (by omega), ones_get (by omega), kindM_get hn hi, kindM_get hn hi, kindM_get hn hk]
  unfold fencesQ ovP
  rw [Bool.eq_iff_iff]
  simp only [Bool.and_eq_true, Bool.or_eq_true, List.any_eq_true, List.mem_range, decide_eq_true_eq, List.mem_singleton, ovJ, ovK]
  constructor
  · rintro ⟨m1, m2, j, hj, ⟨p1, p2⟩, h | ⟨h, a⟩ | ⟨h, a, b⟩⟩
    · exact ⟨.inl ⟨j, hj, ⟨p1, trivial, h⟩, p2, h, trivial⟩, m1, m2⟩
    · exact ⟨.inr (.inl ⟨j, hj, ⟨p1, a, h⟩, p2, h, trivial⟩), m1, m2⟩
    · exact ⟨.inr (.inr ⟨j, hj, ⟨p1, a, h⟩, p2, h, b⟩), m1, m2⟩
  · rintro ⟨⟨j, hj, ⟨p1, _, h⟩, p2, _, _⟩ | ⟨j, hj, ⟨p1, a, h⟩, p2, _, _⟩ | ⟨j, hj, ⟨p1, a, h⟩, p2, _, b⟩, m1, m2⟩
    · exact ⟨m1, m2, j, hj, ⟨p1, p2⟩, .inl h⟩
    · exact ⟨m1, m2, j, hj, ⟨p1, p2⟩, .inr (.inl ⟨h, a⟩)⟩
    · exact ⟨m1, m2, j, hj, ⟨p1, p2⟩, .inr (.inr ⟨h, a, b⟩)⟩
theorem orders_eq {x : Ex} (hx : Okx x) : mk x.ev.length (ordersQ x) = ordersR x := by
  have hn := hx.n
  have h1 := hx.po
  refine Cl.ext (n := x.ev.length) (cl_mk hn) (cl_only hn (unionR_len _ _)) fun i k hi hk => ?_
  rw [has_mk' hn hi hk, ordersR, has_memR hn (unionR_len _ _) hi hk, has_unionR hn hi hk]
  simp only [List.any_cons, List.any_nil, Bool.or_false]
  rw [has_onlyR (by omega) (by omega) (by omega), has_onlyR (by omega) (by omega) (by omega), has_onlyR (by omega) (by omega) (by omega), ones_get (by omega), ones_get (by omega), mask_get hn hi, mask_get hn hi, mask_get hn hk, mask_get hn hk]
  unfold ordersQ byG
  cases memK (gd x.ev i) <;> cases memK (gd x.ev k) <;> cases has x.po i k <;> simp
theorem ref15_Fences {x : Ex} (hx : Okx x) : Fun Tryz.prog 129 [enc x] (.t (enc (fencesR x))) := by
  refine Fun.go (b := false) Tryz.func129 rfl rfl (by kernel_rfl) (by kernel_rfl) ?_
  simp -implicitDefEqProofs (disch := first | (refine fineP_go ?_; kernel_rfl) | omega | (refine of_eq_true ?_; simp (disch := first | omega | (refine of_eq_true ?_; simp only [go_sem]; done) | (simp only [go_sem]; omega)) only [go_sem]; done) | (simp only [go_sem]; omega) | assumption) only [go_sem, Bool.false_eq_true, ↓sel_fineP, ↓reduceIte, Nat.reduceEqDiff, sel_y, sel_n, sel_ny, sel_nn, wrap_u64, wrap_i64, wrap_u32, min_l, fun K => (ref15_of_f hx).pu (K := K), fences_eq hx]
theorem ref15_Orders {x : Ex} (hx : Okx x) : Fun Tryz.prog 130 [enc x] (.t (enc (ordersR x))) := by
  refine Fun.go (b := false) Tryz.func130 rfl rfl (by kernel_rfl) (by kernel_rfl) ?_
  simp -implicitDefEqProofs (disch := first | (refine fineP_go ?_; kernel_rfl) | omega | (refine of_eq_true ?_; simp (disch := first | omega | (refine of_eq_true ?_; simp only [go_sem]; done) | (simp only [go_sem]; omega)) only [go_sem]; done) | (simp only [go_sem]; omega) | assumption) only [go_sem, Bool.false_eq_true, ↓sel_fineP, ↓reduceIte, Nat.reduceEqDiff, sel_y, sel_n, sel_ny, sel_nn, wrap_u64, wrap_i64, wrap_u32, min_l, fun K => (ref15_of_o hx).pu (K := K), orders_eq hx]
@[go_sem] theorem pu_rFences {x : Ex} (hx : Okx x) {K : Ka V} : @Pu Tryz.prog 129 [enc x] K = K.k (.t (enc (fencesR x))) := (ref15_Fences hx).pu
@[go_sem] theorem pu_rOrders {x : Ex} (hx : Okx x) {K : Ka V} : @Pu Tryz.prog 130 [enc x] K = K.k (.t (enc (ordersR x))) := (ref15_Orders hx).pu

/-! Bob -/
def bobJ (x : Ex) (co : Rl) (i k j : Nat) : Bool := relG (gd x.ev j) && (has x.po i j && has (withinR x.ev co) j k)
def tri1 (x : Ex) (co : Rl) (i k j : Nat) : List (Int × Int) := ((List.range j).filter (bobJ x co i k)).map fun _ => ((i : Int), (k : Int))
def tri2 (x : Ex) (co : Rl) (i k : Nat) : List (Int × Int) := (List.range k).flatMap fun k => tri1 x co i k x.ev.length
def tri3 (x : Ex) (co : Rl) (i : Nat) : List (Int × Int) := (List.range i).flatMap fun i => tri2 x co i x.ev.length
theorem tri1_succ (x co i k j) : tri1 x co i k (j + 1) = if bobJ x co i k j then tri1 x co i k j ++ [((i : Int), (k : Int))] else tri1 x co i k j := by
  unfold tri1
  rw [List.range_succ, List.filter_append, List.map_append]
  cases h : bobJ x co i k j <;> simp [h]
theorem tri2_succ (x co i k) : tri2 x co i (k + 1) = tri2 x co i k ++ tri1 x co i k x.ev.length := by simp [tri2, List.range_succ, List.flatMap_append]
theorem tri3_succ (x co i) : tri3 x co (i + 1) = tri3 x co i ++ tri2 x co i x.ev.length := by simp [tri3, List.range_succ, List.flatMap_append]
theorem tri1_len (x co i k j) : (tri1 x co i k j).length ≤ j := by
  unfold tri1; rw [List.length_map]; exact Nat.le_trans (List.length_filter_le _ _) (by simp)
theorem tri2_len (x co i k) : (tri2 x co i k).length ≤ k * x.ev.length := by
  induction k with
  | zero => simp [tri2]
  | succ k ih => rw [tri2_succ, List.length_append, Nat.succ_mul]; have := tri1_len x co i k x.ev.length; omega
theorem tri2_len' {x co i k} (hn : x.ev.length ≤ 32) (hk : k ≤ x.ev.length) : (tri2 x co i k).length ≤ 1024 := by
  have := tri2_len x co i k
  have := Nat.mul_le_mul (show k ≤ 32 by omega) hn
  omega
theorem tri3_len {x : Ex} (co i) (hn : x.ev.length ≤ 32) : (tri3 x co i).length ≤ i * 1024 := by
  induction i with
  | zero => simp [tri3]
  | succ i ih => rw [tri3_succ, List.length_append, Nat.succ_mul]; have := tri2_len' (co := co) (i := i) hn (Nat.le_refl _); omega
def bobQ (x : Ex) (co : Rl) (i k : Nat) : Bool := (List.range x.ev.length).any (bobJ x co i k)
theorem mem_tri3 {x co m} {q : Int × Int} : q ∈ tri3 x co m ↔ ∃ i k : Nat, q = ((i : Int), (k : Int)) ∧ i < m ∧ k < x.ev.length ∧ bobQ x co i k = true := by
  simp only [tri3, tri2, tri1, List.mem_flatMap, List.mem_range, List.mem_map, List.mem_filter, bobQ, List.any_eq_true]
  constructor
  · rintro ⟨i, h1, k, h2, j, hj, rfl⟩; exact ⟨i, k, rfl, h1, h2, j, hj⟩
  · rintro ⟨i, k, rfl, h1, h2, j, hj⟩; exact ⟨i, h1, k, h2, j, hj, rfl⟩
theorem made_tri {x co} : madeR x.ev.length (tri3 x co x.ev.length) = mk x.ev.length (bobQ x co) := by
  apply madeR_mk
  intro i k hi hk
  rw [mem_tri3]
  constructor
  · rintro ⟨a, b, e, _, _, h⟩
    simp only [Prod.mk.injEq] at e
    obtain rfl : i = a := by omega
    obtain rfl : k = b := by omega
    exact h
  · intro h; exact ⟨i, k, rfl, hi, hk, h⟩
theorem bob_eq {x : Ex} (hx : Okx x) {co : Rl} (hc : co.length = x.ev.length) : orR (orR (fencesR x) (ordersR x)) (memR x.ev (mk x.ev.length (bobQ x co))) = bobR x co := by
  obtain ⟨hn, h1, h2, h3, h4, h5⟩ := hx
  refine Cl.ext (n := x.ev.length) (cl_or hn (by rw [orR_len, fencesR_len])) (cl_only hn (unionR_len _ _)) fun i k hi hk => ?_
  rw [has_orR (by rw [orR_len, fencesR_len]; exact hn) (by rw [orR_len, fencesR_len]; exact hi) (by rw [orR_len, fencesR_len]; exact hk), has_orR (by rw [fencesR_len]; exact hn) (by rw [fencesR_len]; exact hi) (by rw [fencesR_len]; exact hk),
    has_memR hn (mk_len _ _) hi hk, has_mk' hn hi hk, bobR, has_memR hn (unionR_len _ _) hi hk, has_unionR hn hi hk]
  simp only [List.any_cons, List.any_nil, Bool.or_false]
  have e1 : has (fencesR x) i k = (has (fencesR x) i k && (memK (gd x.ev i) && memK (gd x.ev k))) := by
    rw [fencesR, has_memR hn (unionR_len _ _) hi hk, Bool.and_assoc, Bool.and_self]
  have e2 : has (ordersR x) i k = (has (ordersR x) i k && (memK (gd x.ev i) && memK (gd x.ev k))) := by
    rw [ordersR, has_memR hn (unionR_len _ _) hi hk, Bool.and_assoc, Bool.and_self]
  have e3 : has (seqR (onlyR x.po onesB (maskB x.ev relG)) (withinR x.ev co)) i k = bobQ x co i k := by
    rw [has_seqR (by rw [onlyR_len]; omega) (by rw [onlyR_len]; omega) (by rw [onlyR_len]; omega), onlyR_len, h1, bobQ, Bool.eq_iff_iff, List.any_eq_true, List.any_eq_true]
    refine exists_congr fun j => and_congr_right fun hj => ?_
    have hj := List.mem_range.1 hj
    rw [has_onlyR (by omega) (by omega) (by omega), ones_get (by omega), mask_get hn hj, bobJ]
    cases has x.po i j <;> cases relG (gd x.ev j) <;> simp
  rw [e3]
  rw [e1, e2]
  cases memK (gd x.ev i) <;> cases memK (gd x.ev k) <;> simp [Bool.or_assoc]
theorem ref15_Bob {x : Ex} (hx : Okx x) {co : Rl} (hc : co.length = x.ev.length) : Fun Tryz.prog 77 [enc x, enc co] (.t (enc (bobR x co))) := by
  have hx' := hx
  obtain ⟨hn, h1, h2, h3, h4, h5⟩ := hx
  refine Fun.go (b := false) Tryz.func77 rfl rfl (by kernel_rfl) (by kernel_rfl) ?_
  simp -implicitDefEqProofs (disch := first | (refine fineP_go ?_; kernel_rfl) | omega | (refine of_eq_true ?_; simp (disch := first | omega | (refine of_eq_true ?_; simp only [go_sem]; done) | (simp only [go_sem]; omega)) only [go_sem]; done) | (simp only [go_sem]; omega) | assumption) only [go_sem, Bool.false_eq_true, ↓sel_fineP, ↓reduceIte, Nat.reduceEqDiff, sel_y, sel_n, sel_ny, sel_nn, wrap_u64, wrap_i64, wrap_u32, min_l]
  refine loop_up (n := x.ev.length) (fun i e H => e 2 = .ptr 0 1 0 0 ∧ e 5 = .t (enc (withinR x.ev co)) ∧ e 6 = accV 1 (tri3 x co i) ∧ e 7 = .t (.int .i64 x.ev.length) ∧ e 8 = .t (.int .i64 i) ∧ H = ⟨[.t (enc x)], 7, false⟩ :: accO (tri3 x co i)) ?_ _ _ ?_
  · rintro i e H hi ⟨g2, g5, g6, g7, g8, rfl⟩
    have t3 := tri3_len (x := x) co i hn
    by_cases hlt : i < x.ev.length
    · simp -implicitDefEqProofs (disch := first | (refine fineP_go ?_; kernel_rfl) | omega | (refine of_eq_true ?_; simp (disch := first | omega | (refine of_eq_true ?_; simp only [go_sem]; done) | (simp only [go_sem]; omega)) only [go_sem]; done) | (simp only [go_sem]; omega) | assumption) only [go_sem, Bool.false_eq_true, ↓sel_fineP, ↓reduceIte, Nat.reduceEqDiff, sel_y, sel_n, sel_ny, sel_nn, wrap_u64, wrap_i64, wrap_u32, min_l, g2, g5, g6, g7, g8]
      refine loop_up (n := x.ev.length) (fun k e H => e 2 = .ptr 0 1 0 0 ∧ e 5 = .t (enc (withinR x.ev co)) ∧ e 6 = accV 1 (tri3 x co i ++ tri2 x co i k) ∧ e 7 = .t (.int .i64 x.ev.length) ∧ e 8 = .t (.int .i64 i) ∧ e 9 = .t (.int .i64 k) ∧ H = ⟨[.t (enc x)], 7, false⟩ :: accO (tri3 x co i ++ tri2 x co i k)) ?_ _ _ ?_
      · rintro k e H hk ⟨g2, g5, g6, g7, g8, g9, rfl⟩
        have t2 := tri2_len' (co := co) (i := i) hn hk
        by_cases hkl : k < x.ev.length
        · simp -implicitDefEqProofs (disch := first | (refine fineP_go ?_; kernel_rfl) | omega | (refine of_eq_true ?_; simp (disch := first | omega | (refine of_eq_true ?_; simp only [go_sem]; done) | (simp only [go_sem]; omega)) only [go_sem]; done) | (simp only [go_sem]; omega) | assumption) only [go_sem, Bool.false_eq_true, ↓sel_fineP, ↓reduceIte, Nat.reduceEqDiff, sel_y, sel_n, sel_ny, sel_nn, wrap_u64, wrap_i64, wrap_u32, min_l, g2, g5, g6, g7, g8, g9]
          refine loop_up (n := x.ev.length) (fun j e H => e 2 = .ptr 0 1 0 0 ∧ e 5 = .t (enc (withinR x.ev co)) ∧ e 6 = accV 1 (tri3 x co i ++ tri2 x co i k ++ tri1 x co i k j) ∧ e 7 = .t (.int .i64 x.ev.length) ∧ e 8 = .t (.int .i64 i) ∧ e 9 = .t (.int .i64 k) ∧ e 10 = .t (.int .i64 j) ∧ H = ⟨[.t (enc x)], 7, false⟩ :: accO (tri3 x co i ++ tri2 x co i k ++ tri1 x co i k j)) ?_ _ _ ?_
          · rintro j e H hj ⟨g2, g5, g6, g7, g8, g9, g10, rfl⟩
            have t1 := tri1_len x co i k j
            have hl : (tri3 x co i ++ tri2 x co i k ++ tri1 x co i k j).length ≤ 100000 := by rw [List.length_append, List.length_append]; omega
            by_cases hjl : j < x.ev.length
            · have hs := tri1_succ x co i k j
              cases A : relG (gd x.ev j)
              · rw [show bobJ x co i k j = false by simp [bobJ, A], if_neg (by decide)] at hs
                simp -implicitDefEqProofs (disch := first | (refine fineP_go ?_; kernel_rfl) | omega | (refine of_eq_true ?_; simp (disch := first | omega | (refine of_eq_true ?_; simp only [go_sem]; done) | (simp only [go_sem]; omega)) only [go_sem]; done) | (simp only [go_sem]; omega) | assumption) only [go_sem, Bool.false_eq_true, ↓sel_fineP, ↓reduceIte, Nat.reduceEqDiff, sel_y, sel_n, sel_ny, sel_nn, wrap_u64, wrap_i64, wrap_u32, min_l, g2, g5, g6, g7, g8, g9, g10, A, hs]
                exact hjl
              · cases B : has x.po i j
                · rw [show bobJ x co i k j = false by simp [bobJ, B], if_neg (by decide)] at hs
                  simp -implicitDefEqProofs (disch := first | (refine fineP_go ?_; kernel_rfl) | omega | (refine of_eq_true ?_; simp (disch := first | omega | (refine of_eq_true ?_; simp only [go_sem]; done) | (simp only [go_sem]; omega)) only [go_sem]; done) | (simp only [go_sem]; omega) | assumption) only [go_sem, Bool.false_eq_true, ↓sel_fineP, ↓reduceIte, Nat.reduceEqDiff, sel_y, sel_n, sel_ny, sel_nn, wrap_u64, wrap_i64, wrap_u32, min_l, g2, g5, g6, g7, g8, g9, g10, A, B, hs]
                  exact hjl
                · cases C : has (withinR x.ev co) j k
                  · rw [show bobJ x co i k j = false by simp [bobJ, C], if_neg (by decide)] at hs
                    simp -implicitDefEqProofs (disch := first | (refine fineP_go ?_; kernel_rfl) | omega | (refine of_eq_true ?_; simp (disch := first | omega | (refine of_eq_true ?_; simp only [go_sem]; done) | (simp only [go_sem]; omega)) only [go_sem]; done) | (simp only [go_sem]; omega) | assumption) only [go_sem, Bool.false_eq_true, ↓sel_fineP, ↓reduceIte, Nat.reduceEqDiff, sel_y, sel_n, sel_ny, sel_nn, wrap_u64, wrap_i64, wrap_u32, min_l, g2, g5, g6, g7, g8, g9, g10, A, B, C, hs]
                    exact hjl
                  · rw [show bobJ x co i k j = true by simp [bobJ, A, B, C], if_pos rfl] at hs
                    simp -implicitDefEqProofs (disch := first | (refine fineP_go ?_; kernel_rfl) | omega | (refine of_eq_true ?_; simp (disch := first | omega | (refine of_eq_true ?_; simp only [go_sem]; done) | (simp only [go_sem]; omega)) only [go_sem]; done) | (simp only [go_sem]; omega) | assumption) only [go_sem, Bool.false_eq_true, ↓sel_fineP, ↓reduceIte, Nat.reduceEqDiff, sel_y, sel_n, sel_ny, sel_nn, wrap_u64, wrap_i64, wrap_u32, min_l, g2, g5, g6, g7, g8, g9, g10, A, B, C, hs, List.append_assoc]
                    exact hjl
            · obtain rfl : j = x.ev.length := by omega
              simp -implicitDefEqProofs (disch := first | (refine fineP_go ?_; kernel_rfl) | omega | (refine of_eq_true ?_; simp (disch := first | omega | (refine of_eq_true ?_; simp only [go_sem]; done) | (simp only [go_sem]; omega)) only [go_sem]; done) | (simp only [go_sem]; omega) | assumption) only [go_sem, Bool.false_eq_true, ↓sel_fineP, ↓reduceIte, Nat.reduceEqDiff, sel_y, sel_n, sel_ny, sel_nn, wrap_u64, wrap_i64, wrap_u32, min_l, g2, g5, g6, g7, g8, g9, g10, tri2_succ, List.append_assoc]
              exact hkl
          · simp -implicitDefEqProofs (disch := first | (refine fineP_go ?_; kernel_rfl) | omega | (refine of_eq_true ?_; simp (disch := first | omega | (refine of_eq_true ?_; simp only [go_sem]; done) | (simp only [go_sem]; omega)) only [go_sem]; done) | (simp only [go_sem]; omega) | assumption) only [go_sem, Bool.false_eq_true, ↓sel_fineP, ↓reduceIte, Nat.reduceEqDiff, sel_y, sel_n, sel_ny, sel_nn, wrap_u64, wrap_i64, wrap_u32, min_l, g2, g5, g6, g7, g8, g9, show tri1 x co i k 0 = [] from rfl]
        · obtain rfl : k = x.ev.length := by omega
          simp -implicitDefEqProofs (disch := first | (refine fineP_go ?_; kernel_rfl) | omega | (refine of_eq_true ?_; simp (disch := first | omega | (refine of_eq_true ?_; simp only [go_sem]; done) | (simp only [go_sem]; omega)) only [go_sem]; done) | (simp only [go_sem]; omega) | assumption) only [go_sem, Bool.false_eq_true, ↓sel_fineP, ↓reduceIte, Nat.reduceEqDiff, sel_y, sel_n, sel_ny, sel_nn, wrap_u64, wrap_i64, wrap_u32, min_l, g2, g5, g6, g7, g8, g9, tri3_succ]
          exact hlt
      · simp -implicitDefEqProofs (disch := first | (refine fineP_go ?_; kernel_rfl) | omega | (refine of_eq_true ?_; simp (disch := first | omega | (refine of_eq_true ?_; simp only [go_sem]; done) | (simp only [go_sem]; omega)) only [go_sem]; done) | (simp only [go_sem]; omega) | assumption) only [go_sem, Bool.false_eq_true, ↓sel_fineP, ↓reduceIte, Nat.reduceEqDiff, sel_y, sel_n, sel_ny, sel_nn, wrap_u64, wrap_i64, wrap_u32, min_l, g2, g5, g6, g7, g8, show tri2 x co i 0 = [] from rfl]
    · obtain rfl : i = x.ev.length := by omega
      have hl : (tri3 x co x.ev.length).length ≤ 100000 := by omega
      have hok : ∀ q ∈ tri3 x co x.ev.length, ∃ a b : Nat, q = ((a : Int), (b : Int)) ∧ a < x.ev.length ∧ b < x.ev.length := by
        intro q hq
        obtain ⟨a, b, e, h1, h2, _⟩ := mem_tri3.1 hq
        exact ⟨a, b, e, h1, h2⟩
      simp -implicitDefEqProofs (disch := first | (refine fineP_go ?_; kernel_rfl) | omega | (refine of_eq_true ?_; simp (disch := first | omega | (refine of_eq_true ?_; simp only [go_sem]; done) | (simp only [go_sem]; omega)) only [go_sem]; done) | (simp only [go_sem]; omega) | assumption) only [go_sem, Bool.false_eq_true, ↓sel_fineP, ↓reduceIte, Nat.reduceEqDiff, sel_y, sel_n, sel_ny, sel_nn, wrap_u64, wrap_i64, wrap_u32, min_l, g2, g5, g6, g7, g8, made_tri, bob_eq hx' hc]
  · simp -implicitDefEqProofs (disch := first | (refine fineP_go ?_; kernel_rfl) | omega | (refine of_eq_true ?_; simp (disch := first | omega | (refine of_eq_true ?_; simp only [go_sem]; done) | (simp only [go_sem]; omega)) only [go_sem]; done) | (simp only [go_sem]; omega) | assumption) only [go_sem, Bool.false_eq_true, ↓sel_fineP, ↓reduceIte, Nat.reduceEqDiff, sel_y, sel_n, sel_ny, sel_nn, wrap_u64, wrap_i64, wrap_u32, min_l]
    exact ⟨rfl, rfl⟩
@[go_sem] theorem pu_rBob {x : Ex} (hx : Okx x) {co : Rl} (hc : co.length = x.ev.length) {K : Ka V} : @Pu Tryz.prog 77 [enc x, enc co] K = K.k (.t (enc (bobR x co))) := (ref15_Bob hx hc).pu

/-! Aob -/
def aobF (x : Ex) (p q : Int × Int) : Bool := decide (q.2 = p.1) && acqG (gd x.ev p.2.toNat)
def aobRow (x : Ex) (st : List (Int × Int)) (p : Int × Int) (j : Nat) : List (Int × Int) := ((st.take j).filter (aobF x p)).map fun _ => p
def aobTo (x : Ex) (ps st : List (Int × Int)) (i : Nat) : List (Int × Int) := (ps.take i).flatMap fun p => aobRow x st p st.length
theorem aobRow_succ {x st p j} (h : j < st.length) : aobRow x st p (j + 1) = if aobF x p (gd st j) then aobRow x st p j ++ [p] else aobRow x st p j := by
  unfold aobRow
  rw [← take_gd h, List.filter_append, List.map_append]
  cases hf : aobF x p (gd st j) <;> simp [hf]
theorem aobTo_succ {x ps st i} (h : i < ps.length) : aobTo x ps st (i + 1) = aobTo x ps st i ++ aobRow x st (gd ps i) st.length := by
  unfold aobTo; rw [← take_gd h, List.flatMap_append]; simp
theorem aobRow_len (x st p j) : (aobRow x st p j).length ≤ j := by
  unfold aobRow; rw [List.length_map]; exact Nat.le_trans (List.length_filter_le _ _) (by simp; omega)
theorem aobTo_len (x ps st) (hs : st.length ≤ 576) : ∀ i, i ≤ ps.length → (aobTo x ps st i).length ≤ i * 576
  | 0, _ => by simp [aobTo]
  | i + 1, h => by
    have := aobTo_len x ps st hs i (by omega)
    have := aobRow_len x st (gd ps i) st.length
    rw [aobTo_succ (by omega), List.length_append, Nat.succ_mul]; omega
theorem pairsR_len' (a : Rl) (h : a.length ≤ 24) : (pairsR a).length ≤ 576 := by
  rw [← pairsTo_all]
  have := pairsTo_len a a.length
  have := Nat.mul_le_mul h h
  omega
def aobL (x : Ex) (fr : List Int) : List (Int × Int) := pairsR x.rmw ++ aobTo x (pairsR (rfiR x.ev fr)) (pairsR x.rmw) (pairsR (rfiR x.ev fr)).length
theorem mem_aobL {x : Ex} {fr : List Int} {i k : Nat} : ((i : Int), (k : Int)) ∈ aobL x fr ↔ has x.rmw i k = true ∨ (has (rfiR x.ev fr) i k = true ∧ (∃ a, has x.rmw a i = true) ∧ acqG (gd x.ev k) = true) := by
  unfold aobL aobTo aobRow
  rw [List.mem_append, mem_pair, List.take_length]
  simp only [List.mem_flatMap, List.mem_map, List.mem_filter, List.take_length, aobF, Bool.and_eq_true, decide_eq_true_eq]
  refine or_congr Iff.rfl ?_
  constructor
  · rintro ⟨p, hp, q, ⟨hq, h1, h2⟩, rfl⟩
    rw [mem_pair] at hp
    obtain ⟨a, b, rfl, hab⟩ := mem_pairsR.1 hq
    simp only at h1 h2
    obtain rfl : b = i := by omega
    exact ⟨hp, ⟨a, hab⟩, by simpa using h2⟩
  · rintro ⟨h1, ⟨a, h2⟩, h3⟩
    exact ⟨((i : Int), (k : Int)), mem_pair.2 h1, ((a : Int), (i : Int)), ⟨mem_pair.2 h2, rfl, by simpa using h3⟩, rfl⟩
theorem aob_eq {x : Ex} (hx : Okx x) {fr : List Int} : memR x.ev (madeR x.ev.length (aobL x fr)) = aobR x fr := by
  obtain ⟨hn, h1, h2, h3, h4, h5⟩ := hx
  refine Cl.ext (n := x.ev.length) (cl_only hn (madeR_len _ _)) (cl_only hn (unionR_len _ _)) fun i k hi hk => ?_
  rw [has_memR hn (madeR_len _ _) hi hk, aobR, has_memR hn (unionR_len _ _) hi hk, has_unionR hn hi hk]
  congr 1
  simp only [List.any_cons, List.any_nil, Bool.or_false]
  rw [has_onlyR (by rw [rfiR_len]; exact hn) (by rw [rfiR_len]; exact hi) (by rw [rfiR_len]; exact hk), mask_get hn hk, ends_pairs (by omega)]
  have : madeR x.ev.length (aobL x fr) = mk x.ev.length fun i k => has x.rmw i k || (has (rfiR x.ev fr) i k && ((List.range x.rmw.length).any (fun a => has x.rmw a i) && acqG (gd x.ev k))) := by
    apply madeR_mk
    intro a b ha hb
    rw [mem_aobL]
    simp only [Bool.or_eq_true, Bool.and_eq_true, List.any_eq_true, List.mem_range]
    refine or_congr Iff.rfl (and_congr_right fun _ => and_congr_left fun _ => ?_)
    constructor
    · rintro ⟨c, hc⟩; exact ⟨c, (has_lt hc).1, hc⟩
    · rintro ⟨c, _, hc⟩; exact ⟨c, hc⟩
  rw [this, has_mk' hn hi hk]
theorem aob_ok {x : Ex} (hx : Okx x) {fr : List Int} : ∀ q ∈ aobL x fr, ∃ a b : Nat, q = ((a : Int), (b : Int)) ∧ a < x.ev.length ∧ b < x.ev.length := by
  intro q hq
  rcases List.mem_append.1 hq with hq | hq
  · exact pairs_ok hx.rmw q hq
  · unfold aobTo aobRow at hq
    simp only [List.take_length] at hq
    obtain ⟨p, hp, hq⟩ := List.mem_flatMap.1 hq
    obtain ⟨_, _, rfl⟩ := List.mem_map.1 hq
    exact pairs_ok (rfiR_len _ _) _ hp
theorem ref15_Aob {x : Ex} (hx : Okx x) (h24 : x.ev.length ≤ 24) {fr : List Int} (hf : fr.length ≤ 1000) : Fun Tryz.prog 76 [enc x, enc fr] (.t (enc (aobR x fr))) := by
  have hx' := hx
  obtain ⟨hn, h1, h2, h3, h4, h5⟩ := hx
  refine Fun.go (b := false) Tryz.func76 rfl rfl (by kernel_rfl) (by kernel_rfl) ?_
  have hl1 := pairsR_len' x.rmw (by omega)
  have hl2 := pairsR_len' (rfiR x.ev fr) (by rw [rfiR_len]; exact h24)
  have haq := aob_eq hx' (fr := fr)
  have hok := aob_ok hx' (fr := fr)
  have hal : (aobL x fr).length ≤ 400000 := by
    unfold aobL
    rw [List.length_append]
    have := aobTo_len x (pairsR (rfiR x.ev fr)) (pairsR x.rmw) hl1 _ (Nat.le_refl _)
    have := Nat.mul_le_mul_right 576 hl2
    omega
  cases hp : (pairsR x.rmw).isEmpty
  case true =>
    have ea : aobL x fr = [] := by
      unfold aobL aobTo aobRow
      rw [pairs_nil hp]; simp
    rw [ea] at haq hok
    cases hq : (pairsR (rfiR x.ev fr)).isEmpty
    case true =>
      simp -implicitDefEqProofs (disch := first | (refine fineP_go ?_; kernel_rfl) | omega | (refine of_eq_true ?_; simp (disch := first | omega | (refine of_eq_true ?_; simp only [go_sem, fun K => pu_rPairs_e (a := x.rmw) (by omega) (pairs_nil hp) (K := K), fun K => pu_rPairs_e (a := rfiR x.ev fr) (by rw [rfiR_len]; exact hn) (pairs_nil hq) (K := K)]; done) | (simp only [go_sem, fun K => pu_rPairs_e (a := x.rmw) (by omega) (pairs_nil hp) (K := K), fun K => pu_rPairs_e (a := rfiR x.ev fr) (by rw [rfiR_len]; exact hn) (pairs_nil hq) (K := K)]; omega)) only [go_sem, fun K => pu_rPairs_e (a := x.rmw) (by omega) (pairs_nil hp) (K := K), fun K => pu_rPairs_e (a := rfiR x.ev fr) (by rw [rfiR_len]; exact hn) (pairs_nil hq) (K := K)]; done) | (simp only [go_sem, fun K => pu_rPairs_e (a := x.rmw) (by omega) (pairs_nil hp) (K := K), fun K => pu_rPairs_e (a := rfiR x.ev fr) (by rw [rfiR_len]; exact hn) (pairs_nil hq) (K := K)]; omega) | assumption) only [go_sem, Bool.false_eq_true, ↓sel_fineP, ↓reduceIte, Nat.reduceEqDiff, sel_y, sel_n, sel_ny, sel_nn, wrap_u64, wrap_i64, wrap_u32, min_l, fun K => pu_rPairs_e (a := x.rmw) (by omega) (pairs_nil hp) (K := K), fun K => pu_rPairs_e (a := rfiR x.ev fr) (by rw [rfiR_len]; exact hn) (pairs_nil hq) (K := K)]
      rw [e_loop]
      simp -implicitDefEqProofs (disch := first | (refine fineP_go ?_; kernel_rfl) | omega | (refine of_eq_true ?_; simp (disch := first | omega | (refine of_eq_true ?_; simp only [go_sem]; done) | (simp only [go_sem]; omega)) only [go_sem]; done) | (simp only [go_sem]; omega) | assumption) only [go_sem, Bool.false_eq_true, ↓sel_fineP, ↓reduceIte, Nat.reduceEqDiff, sel_y, sel_n, sel_ny, sel_nn, wrap_u64, wrap_i64, wrap_u32, min_l, haq]
    case false =>
      simp -implicitDefEqProofs (disch := first | (refine fineP_go ?_; kernel_rfl) | omega | (refine of_eq_true ?_; simp (disch := first | omega | (refine of_eq_true ?_; simp only [go_sem, fun K => pu_rPairs_e (a := x.rmw) (by omega) (pairs_nil hp) (K := K), fun K => pu_rPairs_n (a := rfiR x.ev fr) (by rw [rfiR_len]; exact hn) hq (K := K), map_t_enc]; done) | (simp only [go_sem, fun K => pu_rPairs_e (a := x.rmw) (by omega) (pairs_nil hp) (K := K), fun K => pu_rPairs_n (a := rfiR x.ev fr) (by rw [rfiR_len]; exact hn) hq (K := K), map_t_enc]; omega)) only [go_sem, fun K => pu_rPairs_e (a := x.rmw) (by omega) (pairs_nil hp) (K := K), fun K => pu_rPairs_n (a := rfiR x.ev fr) (by rw [rfiR_len]; exact hn) hq (K := K), map_t_enc]; done) | (simp only [go_sem, fun K => pu_rPairs_e (a := x.rmw) (by omega) (pairs_nil hp) (K := K), fun K => pu_rPairs_n (a := rfiR x.ev fr) (by rw [rfiR_len]; exact hn) hq (K := K), map_t_enc]; omega) | assumption) only [go_sem, Bool.false_eq_true, ↓sel_fineP, ↓reduceIte, Nat.reduceEqDiff, sel_y, sel_n, sel_ny, sel_nn, wrap_u64, wrap_i64, wrap_u32, min_l, fun K => pu_rPairs_e (a := x.rmw) (by omega) (pairs_nil hp) (K := K), fun K => pu_rPairs_n (a := rfiR x.ev fr) (by rw [rfiR_len]; exact hn) hq (K := K), map_t_enc]
      refine loop_up (n := (pairsR (rfiR x.ev fr)).length) (fun i e H => e 2 = .ptr 0 1 0 0 ∧ e 6 = .ex [] ∧ e 7 = .ref 1 (pairsR (rfiR x.ev fr)).length ∧ e 8 = .ex [] ∧ e 9 = .t (.int .i64 i) ∧ H = [⟨[.t (enc x)], 7, false⟩, ⟨vs (pairsR (rfiR x.ev fr)), 2, false⟩]) ?_ _ _ ?_
      · rintro i e H hi ⟨g2, g6, g7, g8, g9, rfl⟩
        by_cases hlt : i < (pairsR (rfiR x.ev fr)).length
        · simp -implicitDefEqProofs (disch := first | (refine fineP_go ?_; kernel_rfl) | omega | (refine of_eq_true ?_; simp (disch := first | omega | (refine of_eq_true ?_; simp only [go_sem]; done) | (simp only [go_sem]; omega)) only [go_sem]; done) | (simp only [go_sem]; omega) | assumption) only [go_sem, Bool.false_eq_true, ↓sel_fineP, ↓reduceIte, Nat.reduceEqDiff, sel_y, sel_n, sel_ny, sel_nn, wrap_u64, wrap_i64, wrap_u32, min_l, g2, g6, g7, g8, g9]
          rw [e_loop]
          simp -implicitDefEqProofs (disch := first | (refine fineP_go ?_; kernel_rfl) | omega | (refine of_eq_true ?_; simp (disch := first | omega | (refine of_eq_true ?_; simp only [go_sem]; done) | (simp only [go_sem]; omega)) only [go_sem]; done) | (simp only [go_sem]; omega) | assumption) only [go_sem, Bool.false_eq_true, ↓sel_fineP, ↓reduceIte, Nat.reduceEqDiff, sel_y, sel_n, sel_ny, sel_nn, wrap_u64, wrap_i64, wrap_u32, min_l, g2, g6, g7, g8, g9]
          exact hlt
        · obtain rfl : i = (pairsR (rfiR x.ev fr)).length := by omega
          simp -implicitDefEqProofs (disch := first | (refine fineP_go ?_; kernel_rfl) | omega | (refine of_eq_true ?_; simp (disch := first | omega | (refine of_eq_true ?_; simp only [go_sem]; done) | (simp only [go_sem]; omega)) only [go_sem]; done) | (simp only [go_sem]; omega) | assumption) only [go_sem, Bool.false_eq_true, ↓sel_fineP, ↓reduceIte, Nat.reduceEqDiff, sel_y, sel_n, sel_ny, sel_nn, wrap_u64, wrap_i64, wrap_u32, min_l, g2, g6, g7, g8, g9, haq]
      · simp -implicitDefEqProofs (disch := first | (refine fineP_go ?_; kernel_rfl) | omega | (refine of_eq_true ?_; simp (disch := first | omega | (refine of_eq_true ?_; simp only [go_sem]; done) | (simp only [go_sem]; omega)) only [go_sem]; done) | (simp only [go_sem]; omega) | assumption) only [go_sem, Bool.false_eq_true, ↓sel_fineP, ↓reduceIte, Nat.reduceEqDiff, sel_y, sel_n, sel_ny, sel_nn, wrap_u64, wrap_i64, wrap_u32, min_l]
  case false =>
    cases hq : (pairsR (rfiR x.ev fr)).isEmpty
    case true =>
      have ea : aobL x fr = pairsR x.rmw := by
        unfold aobL aobTo
        rw [pairs_nil hq]; simp
      rw [ea] at haq hok
      simp -implicitDefEqProofs (disch := first | (refine fineP_go ?_; kernel_rfl) | omega | (refine of_eq_true ?_; simp (disch := first | omega | (refine of_eq_true ?_; simp only [go_sem, fun K => pu_rPairs_n (a := x.rmw) (by omega) hp (K := K), fun K => pu_rPairs_e (a := rfiR x.ev fr) (by rw [rfiR_len]; exact hn) (pairs_nil hq) (K := K), map_t_enc]; done) | (simp only [go_sem, fun K => pu_rPairs_n (a := x.rmw) (by omega) hp (K := K), fun K => pu_rPairs_e (a := rfiR x.ev fr) (by rw [rfiR_len]; exact hn) (pairs_nil hq) (K := K), map_t_enc]; omega)) only [go_sem, fun K => pu_rPairs_n (a := x.rmw) (by omega) hp (K := K), fun K => pu_rPairs_e (a := rfiR x.ev fr) (by rw [rfiR_len]; exact hn) (pairs_nil hq) (K := K), map_t_enc]; done) | (simp only [go_sem, fun K => pu_rPairs_n (a := x.rmw) (by omega) hp (K := K), fun K => pu_rPairs_e (a := rfiR x.ev fr) (by rw [rfiR_len]; exact hn) (pairs_nil hq) (K := K), map_t_enc]; omega) | assumption) only [go_sem, Bool.false_eq_true, ↓sel_fineP, ↓reduceIte, Nat.reduceEqDiff, sel_y, sel_n, sel_ny, sel_nn, wrap_u64, wrap_i64, wrap_u32, min_l, fun K => pu_rPairs_n (a := x.rmw) (by omega) hp (K := K), fun K => pu_rPairs_e (a := rfiR x.ev fr) (by rw [rfiR_len]; exact hn) (pairs_nil hq) (K := K), map_t_enc]
      rw [e_loop]
      simp -implicitDefEqProofs (disch := first | (refine fineP_go ?_; kernel_rfl) | omega | (refine of_eq_true ?_; simp (disch := first | omega | (refine of_eq_true ?_; simp only [go_sem]; done) | (simp only [go_sem]; omega)) only [go_sem]; done) | (simp only [go_sem]; omega) | assumption) only [go_sem, Bool.false_eq_true, ↓sel_fineP, ↓reduceIte, Nat.reduceEqDiff, sel_y, sel_n, sel_ny, sel_nn, wrap_u64, wrap_i64, wrap_u32, min_l, haq]
    case false =>
      simp -implicitDefEqProofs (disch := first | (refine fineP_go ?_; kernel_rfl) | omega | (refine of_eq_true ?_; simp (disch := first | omega | (refine of_eq_true ?_; simp only [go_sem, fun K => pu_rPairs_n (a := x.rmw) (by omega) hp (K := K), fun K => pu_rPairs_n (a := rfiR x.ev fr) (by rw [rfiR_len]; exact hn) hq (K := K), map_t_enc]; done) | (simp only [go_sem, fun K => pu_rPairs_n (a := x.rmw) (by omega) hp (K := K), fun K => pu_rPairs_n (a := rfiR x.ev fr) (by rw [rfiR_len]; exact hn) hq (K := K), map_t_enc]; omega)) only [go_sem, fun K => pu_rPairs_n (a := x.rmw) (by omega) hp (K := K), fun K => pu_rPairs_n (a := rfiR x.ev fr) (by rw [rfiR_len]; exact hn) hq (K := K), map_t_enc]; done) | (simp only [go_sem, fun K => pu_rPairs_n (a := x.rmw) (by omega) hp (K := K), fun K => pu_rPairs_n (a := rfiR x.ev fr) (by rw [rfiR_len]; exact hn) hq (K := K), map_t_enc]; omega) | assumption) only [go_sem, Bool.false_eq_true, ↓sel_fineP, ↓reduceIte, Nat.reduceEqDiff, sel_y, sel_n, sel_ny, sel_nn, wrap_u64, wrap_i64, wrap_u32, min_l, fun K => pu_rPairs_n (a := x.rmw) (by omega) hp (K := K), fun K => pu_rPairs_n (a := rfiR x.ev fr) (by rw [rfiR_len]; exact hn) hq (K := K), map_t_enc]
      refine loop_up (n := (pairsR (rfiR x.ev fr)).length) (fun i e H => e 2 = .ptr 0 1 0 0 ∧ e 6 = .ref 1 (pairsR x.rmw ++ aobTo x (pairsR (rfiR x.ev fr)) (pairsR x.rmw) i).length ∧ e 7 = .ref 2 (pairsR (rfiR x.ev fr)).length ∧ e 8 = .ref 3 (pairsR x.rmw).length ∧ e 9 = .t (.int .i64 i) ∧
        H = [⟨[.t (enc x)], 7, false⟩, ⟨vs (pairsR x.rmw ++ aobTo x (pairsR (rfiR x.ev fr)) (pairsR x.rmw) i), 2, false⟩, ⟨vs (pairsR (rfiR x.ev fr)), 2, false⟩, ⟨vs (pairsR x.rmw), 2, false⟩]) ?_ _ _ ?_
      · rintro i e H hi ⟨g2, g6, g7, g8, g9, rfl⟩
        have ht := aobTo_len x (pairsR (rfiR x.ev fr)) (pairsR x.rmw) hl1 i hi
        by_cases hlt : i < (pairsR (rfiR x.ev fr)).length
        · obtain ⟨a, b, hab, hh⟩ := pairsR_gd hlt
          have hab2 := has_lt hh
          rw [rfiR_len] at hab2
          have hts := aobTo_succ (x := x) (st := pairsR x.rmw) hlt
          rw [hab] at hts
          simp -implicitDefEqProofs (disch := first | (refine fineP_go ?_; kernel_rfl) | omega | (refine of_eq_true ?_; simp (disch := first | omega | (refine of_eq_true ?_; simp only [go_sem]; done) | (simp only [go_sem]; omega)) only [go_sem]; done) | (simp only [go_sem]; omega) | assumption) only [go_sem, Bool.false_eq_true, ↓sel_fineP, ↓reduceIte, Nat.reduceEqDiff, sel_y, sel_n, sel_ny, sel_nn, wrap_u64, wrap_i64, wrap_u32, min_l, g2, g6, g7, g8, g9]
          refine loop_up (n := (pairsR x.rmw).length) (fun j e H => e 2 = .ptr 0 1 0 0 ∧ e 6 = .ref 1 (pairsR x.rmw ++ aobTo x (pairsR (rfiR x.ev fr)) (pairsR x.rmw) i ++ aobRow x (pairsR x.rmw) ((a : Int), (b : Int)) j).length ∧ e 7 = .ref 2 (pairsR (rfiR x.ev fr)).length ∧ e 8 = .ref 3 (pairsR x.rmw).length ∧ e 9 = .t (.int .i64 i) ∧ e 10 = .t (.int .i64 j) ∧
            H = [⟨[.t (enc x)], 7, false⟩, ⟨vs (pairsR x.rmw ++ aobTo x (pairsR (rfiR x.ev fr)) (pairsR x.rmw) i ++ aobRow x (pairsR x.rmw) ((a : Int), (b : Int)) j), 2, false⟩, ⟨vs (pairsR (rfiR x.ev fr)), 2, false⟩, ⟨vs (pairsR x.rmw), 2, false⟩]) ?_ _ _ ?_
          · rintro j e H hj ⟨g2, g6, g7, g8, g9, g10, rfl⟩
            by_cases hjl : j < (pairsR x.rmw).length
            · obtain ⟨c, d, hcd, hh2⟩ := pairsR_gd hjl
              have hs := aobRow_succ (x := x) (st := pairsR x.rmw) (p := ((a : Int), (b : Int))) hjl
              have hrl := aobRow_len x (pairsR x.rmw) ((a : Int), (b : Int)) j
              rw [hcd] at hs
              by_cases hda : d = a
              · cases hacq : acqG (gd x.ev b)
                · rw [show aobF x ((a : Int), (b : Int)) ((c : Int), (d : Int)) = false by simp [aobF, hacq], if_neg (by decide)] at hs
                  simp -implicitDefEqProofs (disch := first | (refine fineP_go ?_; kernel_rfl) | omega | (refine of_eq_true ?_; simp (disch := first | omega | (refine of_eq_true ?_; simp only [go_sem]; done) | (simp only [go_sem]; omega)) only [go_sem]; done) | (simp only [go_sem]; omega) | assumption) only [go_sem, Bool.false_eq_true, ↓sel_fineP, ↓reduceIte, Nat.reduceEqDiff, sel_y, sel_n, sel_ny, sel_nn, wrap_u64, wrap_i64, wrap_u32, min_l, g2, g6, g7, g8, g9, g10, hab, hcd, hacq, hs]
                  exact hjl
                · rw [show aobF x ((a : Int), (b : Int)) ((c : Int), (d : Int)) = true by simp [aobF, hacq, hda], if_pos rfl] at hs
                  have hL : (pairsR x.rmw ++ aobTo x (pairsR (rfiR x.ev fr)) (pairsR x.rmw) i ++ aobRow x (pairsR x.rmw) ((a : Int), (b : Int)) j).length ≤ 400000 := by
                    rw [List.length_append, List.length_append]
                    have := Nat.mul_le_mul_right 576 hl2
                    have := Nat.mul_le_mul_right 576 (show i ≤ (pairsR (rfiR x.ev fr)).length from hi)
                    omega
                  generalize pairsR x.rmw ++ aobTo x (pairsR (rfiR x.ev fr)) (pairsR x.rmw) i = L at *
                  rw [List.length_append] at hL
                  simp -implicitDefEqProofs (disch := first | (refine fineP_go ?_; kernel_rfl) | omega | (refine of_eq_true ?_; simp (disch := first | omega | (refine of_eq_true ?_; simp only [go_sem]; done) | (simp only [go_sem]; omega)) only [go_sem]; done) | (simp only [go_sem]; omega) | assumption) only [go_sem, Bool.false_eq_true, ↓sel_fineP, ↓reduceIte, Nat.reduceEqDiff, sel_y, sel_n, sel_ny, sel_nn, wrap_u64, wrap_i64, wrap_u32, min_l, g2, g6, g7, g8, g9, g10, hab, hcd, hacq, hs, ← List.append_assoc]
                  exact hjl
              · rw [show aobF x ((a : Int), (b : Int)) ((c : Int), (d : Int)) = false by simp [aobF]; omega, if_neg (by decide)] at hs
                simp -implicitDefEqProofs (disch := first | (refine fineP_go ?_; kernel_rfl) | omega | (refine of_eq_true ?_; simp (disch := first | omega | (refine of_eq_true ?_; simp only [go_sem]; done) | (simp only [go_sem]; omega)) only [go_sem]; done) | (simp only [go_sem]; omega) | assumption) only [go_sem, Bool.false_eq_true, ↓sel_fineP, ↓reduceIte, Nat.reduceEqDiff, sel_y, sel_n, sel_ny, sel_nn, wrap_u64, wrap_i64, wrap_u32, min_l, g2, g6, g7, g8, g9, g10, hab, hcd, hs]
                exact hjl
            · obtain rfl : j = (pairsR x.rmw).length := by omega
              simp -implicitDefEqProofs (disch := first | (refine fineP_go ?_; kernel_rfl) | omega | (refine of_eq_true ?_; simp (disch := first | omega | (refine of_eq_true ?_; simp only [go_sem]; done) | (simp only [go_sem]; omega)) only [go_sem]; done) | (simp only [go_sem]; omega) | assumption) only [go_sem, Bool.false_eq_true, ↓sel_fineP, ↓reduceIte, Nat.reduceEqDiff, sel_y, sel_n, sel_ny, sel_nn, wrap_u64, wrap_i64, wrap_u32, min_l, g2, g6, g7, g8, g9, g10, hts, ← List.append_assoc]
              exact hlt
          · simp -implicitDefEqProofs (disch := first | (refine fineP_go ?_; kernel_rfl) | omega | (refine of_eq_true ?_; simp (disch := first | omega | (refine of_eq_true ?_; simp only [go_sem]; done) | (simp only [go_sem]; omega)) only [go_sem]; done) | (simp only [go_sem]; omega) | assumption) only [go_sem, Bool.false_eq_true, ↓sel_fineP, ↓reduceIte, Nat.reduceEqDiff, sel_y, sel_n, sel_ny, sel_nn, wrap_u64, wrap_i64, wrap_u32, min_l, g2, g6, g7, g8, g9, show aobRow x (pairsR x.rmw) ((a : Int), (b : Int)) 0 = [] from rfl]
        · obtain rfl : i = (pairsR (rfiR x.ev fr)).length := by omega
          have eL : pairsR x.rmw ++ aobTo x (pairsR (rfiR x.ev fr)) (pairsR x.rmw) (pairsR (rfiR x.ev fr)).length = aobL x fr := rfl
          rw [eL] at g6 ⊢
          simp -implicitDefEqProofs (disch := first | (refine fineP_go ?_; kernel_rfl) | omega | (refine of_eq_true ?_; simp (disch := first | omega | (refine of_eq_true ?_; simp only [go_sem]; done) | (simp only [go_sem]; omega)) only [go_sem]; done) | (simp only [go_sem]; omega) | assumption) only [go_sem, Bool.false_eq_true, ↓sel_fineP, ↓reduceIte, Nat.reduceEqDiff, sel_y, sel_n, sel_ny, sel_nn, wrap_u64, wrap_i64, wrap_u32, min_l, g2, g6, g7, g8, g9, haq]
      · simp -implicitDefEqProofs (disch := first | (refine fineP_go ?_; kernel_rfl) | omega | (refine of_eq_true ?_; simp (disch := first | omega | (refine of_eq_true ?_; simp only [go_sem]; done) | (simp only [go_sem]; omega)) only [go_sem]; done) | (simp only [go_sem]; omega) | assumption) only [go_sem, Bool.false_eq_true, ↓sel_fineP, ↓reduceIte, Nat.reduceEqDiff, sel_y, sel_n, sel_ny, sel_nn, wrap_u64, wrap_i64, wrap_u32, min_l, show aobTo x (pairsR (rfiR x.ev fr)) (pairsR x.rmw) 0 = [] from rfl]
@[go_sem] theorem pu_rAob {x : Ex} (hx : Okx x) (h24 : x.ev.length ≤ 24) {fr : List Int} (hf : fr.length ≤ 1000) {K : Ka V} : @Pu Tryz.prog 76 [enc x, enc fr] K = K.k (.t (enc (aobR x fr))) := (ref15_Aob hx h24 hf).pu
end Go.Sim
