/- A part of the proof of a law of module cupola: Ref3. It has no conditions of its own. -/
import Derived.Test.YtocehjbdnhmkfaaGreatRef2
set_option linter.all false
set_option maxRecDepth 20000
/-! Contracts of packages cupolaref13, 14. -/
namespace Go.Sim
open Enc (enc)
open Go.Proofs

def partF (l : List Ev) (same : Bool) (p : Int × Int) : Bool := decide (p.1 ≠ p.2) && (decide ((gd l p.1.toNat).thread = (gd l p.2.toNat).thread) == same)
theorem ref13_part {x : Ex} (hx : x.ev.length ≤ 32) {r : Rl} (hr : r.length = x.ev.length) {same : Bool} : Fun Tryz.prog 120 [enc x, enc r, .bool same] (.t (enc (madeR x.ev.length ((pairsR r).filter (partF x.ev same))))) := by
  refine Fun.go (b := false) Tryz.func120 rfl rfl (by kernel_rfl) (by kernel_rfl) ?_
  have h1 := pairsR_len r (by omega)
  cases hp : (pairsR r).isEmpty
  case true =>
    have e : madeR x.ev.length [] = madeR x.ev.length ((pairsR r).filter (partF x.ev same)) := by
      rw [pairs_nil hp]; rfl
    have n0 : ∀ (q : Int × Int), q ∈ ([] : List (Int × Int)) → ∃ i k : Nat, q = ((i : Int), (k : Int)) ∧ i < x.ev.length ∧ k < x.ev.length := fun q h => nomatch h
    simp -implicitDefEqProofs (disch := first | (refine fineP_go ?_; kernel_rfl) | omega | (refine of_eq_true ?_; simp (disch := first | omega | (refine of_eq_true ?_; simp only [go_sem, fun K => pu_rPairs_e (a := r) (by omega) (pairs_nil hp) (K := K)]; done) | (simp only [go_sem, fun K => pu_rPairs_e (a := r) (by omega) (pairs_nil hp) (K := K)]; omega)) only [go_sem, fun K => pu_rPairs_e (a := r) (by omega) (pairs_nil hp) (K := K)]; done) | (simp only [go_sem, fun K => pu_rPairs_e (a := r) (by omega) (pairs_nil hp) (K := K)]; omega) | assumption) only [go_sem, Bool.false_eq_true, ↓sel_fineP, ↓reduceIte, Nat.reduceEqDiff, sel_y, sel_n, sel_ny, sel_nn, wrap_u64, wrap_i64, wrap_u32, min_l, fun K => pu_rPairs_e (a := r) (by omega) (pairs_nil hp) (K := K)]
    rw [e_loop]
    simp -implicitDefEqProofs (disch := first | (refine fineP_go ?_; kernel_rfl) | omega | (refine of_eq_true ?_; simp (disch := first | omega | (refine of_eq_true ?_; simp only [go_sem]; done) | (simp only [go_sem]; omega)) only [go_sem]; done) | (simp only [go_sem]; omega) | assumption) only [go_sem, Bool.false_eq_true, ↓sel_fineP, ↓reduceIte, Nat.reduceEqDiff, sel_y, sel_n, sel_ny, sel_nn, wrap_u64, wrap_i64, wrap_u32, min_l, e]
  simp -implicitDefEqProofs (disch := first | (refine fineP_go ?_; kernel_rfl) | omega | (refine of_eq_true ?_; simp (disch := first | omega | (refine of_eq_true ?_; simp only [go_sem, fun K => pu_rPairs_n (a := r) (by omega) hp (K := K), map_t_enc]; done) | (simp only [go_sem, fun K => pu_rPairs_n (a := r) (by omega) hp (K := K), map_t_enc]; omega)) only [go_sem, fun K => pu_rPairs_n (a := r) (by omega) hp (K := K), map_t_enc]; done) | (simp only [go_sem, fun K => pu_rPairs_n (a := r) (by omega) hp (K := K), map_t_enc]; omega) | assumption) only [go_sem, Bool.false_eq_true, ↓sel_fineP, ↓reduceIte, Nat.reduceEqDiff, sel_y, sel_n, sel_ny, sel_nn, wrap_u64, wrap_i64, wrap_u32, min_l, fun K => pu_rPairs_n (a := r) (by omega) hp (K := K), map_t_enc]
  refine loop_up (n := (pairsR r).length) (fun j e H => e 2 = .t (.bool same) ∧ e 3 = .ptr 0 1 0 0 ∧ e 7 = .t (.int .i64 x.ev.length) ∧ e 8 = accV 2 (((pairsR r).take j).filter (partF x.ev same)) ∧ e 9 = .ref 1 (pairsR r).length ∧ e 10 = .t (.int .i64 j) ∧ H = ⟨[.t (enc x)], 7, false⟩ :: ⟨vs (pairsR r), 2, false⟩ :: accO (((pairsR r).take j).filter (partF x.ev same))) ?_ _ _ ?_
  · rintro j e H hj ⟨g2, g3, g7, g8, g9, g10, rfl⟩
    have hfl := filt_len (l := pairsR r) (f := partF x.ev same) (j := j)
    by_cases hlt : j < (pairsR r).length
    · obtain ⟨a, b, hab, hh⟩ := pairsR_gd hlt
      have hab2 := has_lt hh
      have hs := filt_step (f := partF x.ev same) hlt
      rw [hab] at hs
      by_cases hne : a = b
      · rw [show partF x.ev same ((a : Int), (b : Int)) = false by simp [partF, hne], if_neg (by decide)] at hs
        simp -implicitDefEqProofs (disch := first | (refine fineP_go ?_; kernel_rfl) | omega | (refine of_eq_true ?_; simp (disch := first | omega | (refine of_eq_true ?_; simp only [go_sem]; done) | (simp only [go_sem]; omega)) only [go_sem]; done) | (simp only [go_sem]; omega) | assumption) only [go_sem, Bool.false_eq_true, ↓sel_fineP, ↓reduceIte, Nat.reduceEqDiff, sel_y, sel_n, sel_ny, sel_nn, wrap_u64, wrap_i64, wrap_u32, min_l, g2, g3, g7, g8, g9, g10, hab, hs]
        exact hlt
      · by_cases ht : (gd x.ev a).thread = (gd x.ev b).thread
        · cases same
          · rw [show partF x.ev false ((a : Int), (b : Int)) = false by simp [partF, ht], if_neg (by decide)] at hs
            simp -implicitDefEqProofs (disch := first | (refine fineP_go ?_; kernel_rfl) | omega | (refine of_eq_true ?_; simp (disch := first | omega | (refine of_eq_true ?_; simp only [go_sem]; done) | (simp only [go_sem]; omega)) only [go_sem]; done) | (simp only [go_sem]; omega) | assumption) only [go_sem, Bool.false_eq_true, ↓sel_fineP, ↓reduceIte, Nat.reduceEqDiff, sel_y, sel_n, sel_ny, sel_nn, wrap_u64, wrap_i64, wrap_u32, min_l, g2, g3, g7, g8, g9, g10, hab, hs, ht, Bool.true_beq]
            exact hlt
          · rw [show partF x.ev true ((a : Int), (b : Int)) = true by simp [partF, ht]; omega, if_pos rfl] at hs
            simp -implicitDefEqProofs (disch := first | (refine fineP_go ?_; kernel_rfl) | omega | (refine of_eq_true ?_; simp (disch := first | omega | (refine of_eq_true ?_; simp only [go_sem]; done) | (simp only [go_sem]; omega)) only [go_sem]; done) | (simp only [go_sem]; omega) | assumption) only [go_sem, Bool.false_eq_true, ↓sel_fineP, ↓reduceIte, Nat.reduceEqDiff, sel_y, sel_n, sel_ny, sel_nn, wrap_u64, wrap_i64, wrap_u32, min_l, g2, g3, g7, g8, g9, g10, hab, hs, ht, Bool.true_beq]
            exact hlt
        · cases same
          · rw [show partF x.ev false ((a : Int), (b : Int)) = true by simp [partF, ht]; omega, if_pos rfl] at hs
            simp -implicitDefEqProofs (disch := first | (refine fineP_go ?_; kernel_rfl) | omega | (refine of_eq_true ?_; simp (disch := first | omega | (refine of_eq_true ?_; simp only [go_sem]; done) | (simp only [go_sem]; omega)) only [go_sem]; done) | (simp only [go_sem]; omega) | assumption) only [go_sem, Bool.false_eq_true, ↓sel_fineP, ↓reduceIte, Nat.reduceEqDiff, sel_y, sel_n, sel_ny, sel_nn, wrap_u64, wrap_i64, wrap_u32, min_l, g2, g3, g7, g8, g9, g10, hab, hs, ht, Bool.false_beq]
            exact hlt
          · rw [show partF x.ev true ((a : Int), (b : Int)) = false by simp [partF, ht], if_neg (by decide)] at hs
            simp -implicitDefEqProofs (disch := first | (refine fineP_go ?_; kernel_rfl) | omega | (refine of_eq_true ?_; simp (disch := first | omega | (refine of_eq_true ?_; simp only [go_sem]; done) | (simp only [go_sem]; omega)) only [go_sem]; done) | (simp only [go_sem]; omega) | assumption) only [go_sem, Bool.false_eq_true, ↓sel_fineP, ↓reduceIte, Nat.reduceEqDiff, sel_y, sel_n, sel_ny, sel_nn, wrap_u64, wrap_i64, wrap_u32, min_l, g2, g3, g7, g8, g9, g10, hab, hs, ht, Bool.false_beq]
            exact hlt
    · obtain rfl : j = (pairsR r).length := by omega
      have h3 : ∀ q ∈ (pairsR r).filter (partF x.ev same), ∃ i k : Nat, q = ((i : Int), (k : Int)) ∧ i < x.ev.length ∧ k < x.ev.length := fun q hq => pairs_ok hr q (List.mem_filter.1 hq).1
      rw [List.take_length] at hfl
      simp -implicitDefEqProofs (disch := first | (refine fineP_go ?_; kernel_rfl) | omega | (refine of_eq_true ?_; simp (disch := first | omega | (refine of_eq_true ?_; simp only [go_sem]; done) | (simp only [go_sem]; omega)) only [go_sem]; done) | (simp only [go_sem]; omega) | assumption) only [go_sem, Bool.false_eq_true, ↓sel_fineP, ↓reduceIte, Nat.reduceEqDiff, sel_y, sel_n, sel_ny, sel_nn, wrap_u64, wrap_i64, wrap_u32, min_l, g2, g3, g7, g8, g9, g10, List.take_length]
  · simp -implicitDefEqProofs (disch := first | (refine fineP_go ?_; kernel_rfl) | omega | (refine of_eq_true ?_; simp (disch := first | omega | (refine of_eq_true ?_; simp only [go_sem]; done) | (simp only [go_sem]; omega)) only [go_sem]; done) | (simp only [go_sem]; omega) | assumption) only [go_sem, Bool.false_eq_true, ↓sel_fineP, ↓reduceIte, Nat.reduceEqDiff, sel_y, sel_n, sel_ny, sel_nn, wrap_u64, wrap_i64, wrap_u32, min_l]
    exact ⟨rfl, rfl⟩
@[go_sem] theorem pu_part {x : Ex} (hx : x.ev.length ≤ 32) {r : Rl} (hr : r.length = x.ev.length) {same : Bool} {K : Ka V} : @Pu Tryz.prog 120 [enc x, enc r, .bool same] K = K.k (.t (enc (madeR x.ev.length ((pairsR r).filter (partF x.ev same))))) := (ref13_part hx hr).pu
theorem innerR_has {l : List Ev} (hl : l.length ≤ 32) {i k : Nat} (hi : i < l.length) (hk : k < l.length) : has (innerR l) i k = (decide (i ≠ k) && decide ((gd l i).thread = (gd l k).thread)) := by
  rw [innerR, pairsG, has_mk' hl hi hk]; rfl
theorem made_within {l : List Ev} (hl : l.length ≤ 32) {r : Rl} (hr : r.length = l.length) : madeR l.length ((pairsR r).filter (partF l true)) = withinR l r := by
  unfold withinR andR
  rw [hr]
  apply madeR_mk
  intro i k hi hk
  rw [List.mem_filter, mem_pair, innerR_has hl hi hk]
  simp [partF, Int.natCast_inj]
theorem made_outer {l : List Ev} {r : Rl} : madeR l.length ((pairsR r).filter (partF l false)) = outerR l r := by
  unfold outerR
  apply madeR_mk
  intro i k hi hk
  rw [List.mem_filter, mem_pair]
  have e : partF l false ((i : Int), (k : Int)) = (decide ((i : Int) ≠ (k : Int)) && !decide ((gd l i).thread = (gd l k).thread)) := by
    simp only [partF, Int.toNat_natCast]
    cases decide ((gd l i).thread = (gd l k).thread) <;> rfl
  rw [e]
  simp only [Bool.and_eq_true, decide_eq_true_eq, Bool.not_eq_true', decide_eq_false_iff_not]
  constructor
  · rintro ⟨h1, _, h2⟩; exact ⟨h1, h2⟩
  · rintro ⟨h1, h2⟩; exact ⟨h1, fun e => h2 (by rw [show i = k by omega]), h2⟩
theorem ref13_Within {x : Ex} (hx : x.ev.length ≤ 32) {r : Rl} (hr : r.length = x.ev.length) : Fun Tryz.prog 78 [enc x, enc r] (.t (enc (withinR x.ev r))) := by
  refine Fun.go (b := false) Tryz.func78 rfl rfl (by kernel_rfl) (by kernel_rfl) ?_
  simp -implicitDefEqProofs (disch := first | (refine fineP_go ?_; kernel_rfl) | omega | (refine of_eq_true ?_; simp (disch := first | omega | (refine of_eq_true ?_; simp only [go_sem]; done) | (simp only [go_sem]; omega)) only [go_sem]; done) | (simp only [go_sem]; omega) | assumption) only [go_sem, Bool.false_eq_true, ↓sel_fineP, ↓reduceIte, Nat.reduceEqDiff, sel_y, sel_n, sel_ny, sel_nn, wrap_u64, wrap_i64, wrap_u32, min_l, made_within hx hr]
theorem ref13_Outer {x : Ex} (hx : x.ev.length ≤ 32) {r : Rl} (hr : r.length = x.ev.length) : Fun Tryz.prog 68 [enc x, enc r] (.t (enc (outerR x.ev r))) := by
  refine Fun.go (b := false) Tryz.func68 rfl rfl (by kernel_rfl) (by kernel_rfl) ?_
  simp -implicitDefEqProofs (disch := first | (refine fineP_go ?_; kernel_rfl) | omega | (refine of_eq_true ?_; simp (disch := first | omega | (refine of_eq_true ?_; simp only [go_sem]; done) | (simp only [go_sem]; omega)) only [go_sem]; done) | (simp only [go_sem]; omega) | assumption) only [go_sem, Bool.false_eq_true, ↓sel_fineP, ↓reduceIte, Nat.reduceEqDiff, sel_y, sel_n, sel_ny, sel_nn, wrap_u64, wrap_i64, wrap_u32, min_l, made_outer]
section
variable {K : Ka V}
@[go_sem] theorem pu_rWithin {x : Ex} (hx : x.ev.length ≤ 32) {r : Rl} (hr : r.length = x.ev.length) : @Pu Tryz.prog 78 [enc x, enc r] K = K.k (.t (enc (withinR x.ev r))) := (ref13_Within hx hr).pu
@[go_sem] theorem pu_rOuter {x : Ex} (hx : x.ev.length ≤ 32) {r : Rl} (hr : r.length = x.ev.length) : @Pu Tryz.prog 68 [enc x, enc r] K = K.k (.t (enc (outerR x.ev r))) := (ref13_Outer hx hr).pu
end
/-- Of two relations: what they have. -/
theorem has_orR {a b : Rl} (ha : a.length ≤ 32) {i k : Nat} (hi : i < a.length) (hk : k < a.length) : has (orR a b) i k = (has a i k || has b i k) := by rw [orR, has_mk' ha hi hk]
theorem has_noneR {n i k : Nat} (hn : n ≤ 32) : has (noneR n) i k = false := by rw [noneR, has_mk hn]; simp
theorem has_unionR {n : Nat} (hn : n ≤ 32) {ls : List Rl} {i k : Nat} (hi : i < n) (hk : k < n) : has (unionR n ls) i k = ls.any fun r => has r i k := by
  unfold unionR
  suffices h : ∀ (a : Rl), a.length = n → has (ls.foldl orR a) i k = (has a i k || ls.any fun r => has r i k) by
    rw [h _ (noneR_len n), has_noneR hn, Bool.false_or]
  induction ls with
  | nil => intro a ha; simp
  | cons b ls ih =>
    intro a ha
    rw [List.foldl_cons, ih _ (by rw [orR_len, ha]), has_orR (by omega) (by omega) (by omega), List.any_cons, Bool.or_assoc]
/-- Relations of n things that have the same are the same, where both are clean. -/
def Cl (n : Nat) (r : Rl) : Prop := r = mk n (has r)
theorem Cl.len {n r} (h : Cl n r) : r.length = n := by rw [h, mk_len]
theorem cl_mk {n p} (hn : n ≤ 32) : Cl n (mk n p) := by
  unfold Cl; apply mk_ext; intro i k hi hk; rw [has_mk' hn hi hk]
theorem Cl.ext {n a b} (ha : Cl n a) (hb : Cl n b) (h : ∀ i k, i < n → k < n → has a i k = has b i k) : a = b := by
  rw [ha, hb]; exact mk_ext h
theorem cl_or {n a b} (hn : n ≤ 32) (ha : a.length = n) : Cl n (orR a b) := by subst ha; exact cl_mk hn
theorem cl_and {n a b} (hn : n ≤ 32) (ha : a.length = n) : Cl n (andR a b) := by subst ha; exact cl_mk hn
theorem cl_seq {n a b} (hn : n ≤ 32) (ha : a.length = n) : Cl n (seqR a b) := by subst ha; exact cl_mk hn
theorem cl_only {n a f t} (hn : n ≤ 32) (ha : a.length = n) : Cl n (onlyR a f t) := by subst ha; exact cl_mk hn
theorem cl_none {n} (hn : n ≤ 32) : Cl n (noneR n) := cl_mk hn
theorem cl_union {n ls} (hn : n ≤ 32) : Cl n (unionR n ls) := by
  unfold unionR
  suffices h : ∀ a, Cl n a → Cl n (ls.foldl orR a) from h _ (cl_none hn)
  induction ls with
  | nil => intro a ha; exact ha
  | cons b ls ih => intro a ha; exact ih _ (cl_or hn ha.len)
theorem com_eq {l : List Ev} (hl : l.length ≤ 32) {fr : List Int} {co : Rl} (hc : co.length = l.length) : orR (rfR l.length fr) (orR co (frR l fr co)) = comR l fr co := by
  refine Cl.ext (n := l.length) (cl_or hl (rfR_len _ _)) (cl_union hl) fun i k hi hk => ?_
  rw [comR, has_unionR hl hi hk, has_orR (by rw [rfR_len]; exact hl) (by rw [rfR_len]; exact hi) (by rw [rfR_len]; exact hk), has_orR (by omega) (by omega) (by omega)]
  simp
theorem ref13_Com {x : Ex} (hx : x.ev.length ≤ 32) {fr : List Int} (hf : fr.length ≤ 1000) {co : Rl} (hc : co.length = x.ev.length) : Fun Tryz.prog 64 [enc x, enc fr, enc co] (.t (enc (comR x.ev fr co))) := by
  refine Fun.go (b := false) Tryz.func64 rfl rfl (by kernel_rfl) (by kernel_rfl) ?_
  simp -implicitDefEqProofs (disch := first | (refine fineP_go ?_; kernel_rfl) | omega | (refine of_eq_true ?_; simp (disch := first | omega | (refine of_eq_true ?_; simp only [go_sem]; done) | (simp only [go_sem]; omega)) only [go_sem]; done) | (simp only [go_sem]; omega) | assumption) only [go_sem, Bool.false_eq_true, ↓sel_fineP, ↓reduceIte, Nat.reduceEqDiff, sel_y, sel_n, sel_ny, sel_nn, wrap_u64, wrap_i64, wrap_u32, min_l, com_eq hx hc]
@[go_sem] theorem pu_rCom {x : Ex} (hx : x.ev.length ≤ 32) {fr : List Int} (hf : fr.length ≤ 1000) {co : Rl} (hc : co.length = x.ev.length) {K : Ka V} : @Pu Tryz.prog 64 [enc x, enc fr, enc co] K = K.k (.t (enc (comR x.ev fr co))) := (ref13_Com hx hf hc).pu
theorem ref13_Obs {x : Ex} (hx : x.ev.length ≤ 32) {fr : List Int} (hf : fr.length ≤ 1000) {co : Rl} (hc : co.length = x.ev.length) : Fun Tryz.prog 74 [enc x, enc fr, enc co] (.t (enc (obsR x fr co))) := by
  refine Fun.go (b := false) Tryz.func74 rfl rfl (by kernel_rfl) (by kernel_rfl) ?_
  simp -implicitDefEqProofs (disch := first | (refine fineP_go ?_; kernel_rfl) | omega | (refine of_eq_true ?_; simp (disch := first | omega | (refine of_eq_true ?_; simp only [go_sem]; done) | (simp only [go_sem]; omega)) only [go_sem]; done) | (simp only [go_sem]; omega) | assumption) only [go_sem, Bool.false_eq_true, ↓sel_fineP, ↓reduceIte, Nat.reduceEqDiff, sel_y, sel_n, sel_ny, sel_nn, wrap_u64, wrap_i64, wrap_u32, min_l, obsR]
@[go_sem] theorem pu_rObs {x : Ex} (hx : x.ev.length ≤ 32) {fr : List Int} (hf : fr.length ≤ 1000) {co : Rl} (hc : co.length = x.ev.length) {K : Ka V} : @Pu Tryz.prog 74 [enc x, enc fr, enc co] K = K.k (.t (enc (obsR x fr co))) := (ref13_Obs hx hf hc).pu
theorem ref13_PoLoc {x : Ex} (hx : x.ev.length ≤ 32) (hp : x.po.length = x.ev.length) : Fun Tryz.prog 63 [enc x] (.t (enc (polocR x))) := by
  refine Fun.go (b := false) Tryz.func63 rfl rfl (by kernel_rfl) (by kernel_rfl) ?_
  simp -implicitDefEqProofs (disch := first | (refine fineP_go ?_; kernel_rfl) | omega | (refine of_eq_true ?_; simp (disch := first | omega | (refine of_eq_true ?_; simp only [go_sem]; done) | (simp only [go_sem]; omega)) only [go_sem]; done) | (simp only [go_sem]; omega) | assumption) only [go_sem, Bool.false_eq_true, ↓sel_fineP, ↓reduceIte, Nat.reduceEqDiff, sel_y, sel_n, sel_ny, sel_nn, wrap_u64, wrap_i64, wrap_u32, min_l, polocR]
@[go_sem] theorem pu_rPoLoc {x : Ex} (hx : x.ev.length ≤ 32) (hp : x.po.length = x.ev.length) {K : Ka V} : @Pu Tryz.prog 63 [enc x] K = K.k (.t (enc (polocR x))) := (ref13_PoLoc hx hp).pu

/-! cupolaref14 -/
theorem ref14_Coi {x : Ex} (hx : x.ev.length ≤ 32) {r : Rl} (hr : r.length = x.ev.length) : Fun Tryz.prog 123 [enc x, enc r] (.t (enc (withinR x.ev r))) := by
  refine Fun.go (b := false) Tryz.func123 rfl rfl (by kernel_rfl) (by kernel_rfl) ?_
  simp -implicitDefEqProofs (disch := first | (refine fineP_go ?_; kernel_rfl) | omega | (refine of_eq_true ?_; simp (disch := first | omega | (refine of_eq_true ?_; simp only [go_sem]; done) | (simp only [go_sem]; omega)) only [go_sem]; done) | (simp only [go_sem]; omega) | assumption) only [go_sem, Bool.false_eq_true, ↓sel_fineP, ↓reduceIte, Nat.reduceEqDiff, sel_y, sel_n, sel_ny, sel_nn, wrap_u64, wrap_i64, wrap_u32, min_l]
@[go_sem] theorem pu_rCoi {x : Ex} (hx : x.ev.length ≤ 32) {r : Rl} (hr : r.length = x.ev.length) {K : Ka V} : @Pu Tryz.prog 123 [enc x, enc r] K = K.k (.t (enc (withinR x.ev r))) := (ref14_Coi hx hr).pu
theorem ref14_Rfi {x : Ex} (hx : x.ev.length ≤ 32) {fr : List Int} (hf : fr.length ≤ 1000) : Fun Tryz.prog 124 [enc x, enc fr] (.t (enc (rfiR x.ev fr))) := by
  refine Fun.go (b := false) Tryz.func124 rfl rfl (by kernel_rfl) (by kernel_rfl) ?_
  simp -implicitDefEqProofs (disch := first | (refine fineP_go ?_; kernel_rfl) | omega | (refine of_eq_true ?_; simp (disch := first | omega | (refine of_eq_true ?_; simp only [go_sem]; done) | (simp only [go_sem]; omega)) only [go_sem]; done) | (simp only [go_sem]; omega) | assumption) only [go_sem, Bool.false_eq_true, ↓sel_fineP, ↓reduceIte, Nat.reduceEqDiff, sel_y, sel_n, sel_ny, sel_nn, wrap_u64, wrap_i64, wrap_u32, min_l, rfiR]
@[go_sem] theorem pu_rRfi {x : Ex} (hx : x.ev.length ≤ 32) {fr : List Int} (hf : fr.length ≤ 1000) {K : Ka V} : @Pu Tryz.prog 124 [enc x, enc fr] K = K.k (.t (enc (rfiR x.ev fr))) := (ref14_Rfi hx hf).pu
theorem memK_def (y : Ev) : memK y = (decide (y.kind = 1) || decide (y.kind = 2)) := rfl
theorem ref14_Mem {x : Ex} {i : Nat} (hi : i < x.ev.length) (hx : x.ev.length ≤ 32) : Fun Tryz.prog 160 [enc x, .int .i64 i] (.t (.bool (memK (gd x.ev i)))) := by
  refine Fun.go (b := false) Tryz.func160 rfl rfl (by kernel_rfl) (by kernel_rfl) ?_
  rw [memK_def]
  by_cases h : (gd x.ev i).kind = 1
  · simp -implicitDefEqProofs (disch := first | (refine fineP_go ?_; kernel_rfl) | omega | (refine of_eq_true ?_; simp (disch := first | omega | (refine of_eq_true ?_; simp only [go_sem]; done) | (simp only [go_sem]; omega)) only [go_sem]; done) | (simp only [go_sem]; omega) | assumption) only [go_sem, Bool.false_eq_true, ↓sel_fineP, ↓reduceIte, Nat.reduceEqDiff, sel_y, sel_n, sel_ny, sel_nn, wrap_u64, wrap_i64, wrap_u32, min_l, h, Bool.true_or]
  · simp -implicitDefEqProofs (disch := first | (refine fineP_go ?_; kernel_rfl) | omega | (refine of_eq_true ?_; simp (disch := first | omega | (refine of_eq_true ?_; simp only [go_sem]; done) | (simp only [go_sem]; omega)) only [go_sem]; done) | (simp only [go_sem]; omega) | assumption) only [go_sem, Bool.false_eq_true, ↓sel_fineP, ↓reduceIte, Nat.reduceEqDiff, sel_y, sel_n, sel_ny, sel_nn, wrap_u64, wrap_i64, wrap_u32, min_l, h, Bool.false_or]
@[go_sem] theorem pu_rMem {x : Ex} {i : Nat} (hi : i < x.ev.length) (hx : x.ev.length ≤ 32) {K : Ka V} : @Pu Tryz.prog 160 [enc x, .int .i64 i] K = K.k (.t (.bool (memK (gd x.ev i)))) := (ref14_Mem hi hx).pu
def memF (l : List Ev) (p : Int × Int) : Bool := memK (gd l p.1.toNat) && memK (gd l p.2.toNat)
theorem kindM_get {l : List Ev} (hl : l.length ≤ 32) {ks : List Int} {k : Nat} (hk : k < l.length) : (kindM l ks).getLsbD k = decide ((gd l k).kind ∈ ks) := by
  rw [kindM, maskB_get (by omega)]; simp [hk]
theorem memM_get {l : List Ev} (hl : l.length ≤ 32) {k : Nat} (hk : k < l.length) : (memM l).getLsbD k = memK (gd l k) := by
  rw [memM, kindM_get hl hk, memK_def]; simp
theorem has_onlyR {a : Rl} (ha : a.length ≤ 32) {f t : U32} {i k : Nat} (hi : i < a.length) (hk : k < a.length) : has (onlyR a f t) i k = (has a i k && (f.getLsbD i && t.getLsbD k)) := by rw [onlyR, has_mk' ha hi hk]
theorem has_memR {l : List Ev} (hl : l.length ≤ 32) {r : Rl} (hr : r.length = l.length) {i k : Nat} (hi : i < l.length) (hk : k < l.length) : has (memR l r) i k = (has r i k && (memK (gd l i) && memK (gd l k))) := by
  rw [memR, has_onlyR (by omega) (by omega) (by omega), memM_get hl hi, memM_get hl hk]
theorem made_mem {l : List Ev} (hl : l.length ≤ 32) {r : Rl} (hr : r.length = l.length) : madeR l.length ((pairsR r).filter (memF l)) = memR l r := by
  have e : memR l r = mk l.length (has (memR l r)) := by
    have := cl_only (n := l.length) (a := r) (f := memM l) (t := memM l) hl hr
    exact this
  rw [e]
  apply madeR_mk
  intro i k hi hk
  rw [List.mem_filter, mem_pair, has_memR hl hr hi hk]
  simp [memF]
theorem ref14_Memory {x : Ex} (hx : x.ev.length ≤ 32) {r : Rl} (hr : r.length = x.ev.length) : Fun Tryz.prog 126 [enc x, enc r] (.t (enc (memR x.ev r))) := by
  refine Fun.go (b := false) Tryz.func126 rfl rfl (by kernel_rfl) (by kernel_rfl) ?_
  have h1 := pairsR_len r (by omega)
  cases hp : (pairsR r).isEmpty
  case true =>
    have e : madeR x.ev.length [] = memR x.ev r := by
      rw [← made_mem hx hr, pairs_nil hp]; rfl
    have n0 : ∀ (q : Int × Int), q ∈ ([] : List (Int × Int)) → ∃ i k : Nat, q = ((i : Int), (k : Int)) ∧ i < x.ev.length ∧ k < x.ev.length := fun q h => nomatch h
    simp -implicitDefEqProofs (disch := first | (refine fineP_go ?_; kernel_rfl) | omega | (refine of_eq_true ?_; simp (disch := first | omega | (refine of_eq_true ?_; simp only [go_sem, fun K => pu_rPairs_e (a := r) (by omega) (pairs_nil hp) (K := K)]; done) | (simp only [go_sem, fun K => pu_rPairs_e (a := r) (by omega) (pairs_nil hp) (K := K)]; omega)) only [go_sem, fun K => pu_rPairs_e (a := r) (by omega) (pairs_nil hp) (K := K)]; done) | (simp only [go_sem, fun K => pu_rPairs_e (a := r) (by omega) (pairs_nil hp) (K := K)]; omega) | assumption) only [go_sem, Bool.false_eq_true, ↓sel_fineP, ↓reduceIte, Nat.reduceEqDiff, sel_y, sel_n, sel_ny, sel_nn, wrap_u64, wrap_i64, wrap_u32, min_l, fun K => pu_rPairs_e (a := r) (by omega) (pairs_nil hp) (K := K)]
    rw [e_loop]
    simp -implicitDefEqProofs (disch := first | (refine fineP_go ?_; kernel_rfl) | omega | (refine of_eq_true ?_; simp (disch := first | omega | (refine of_eq_true ?_; simp only [go_sem]; done) | (simp only [go_sem]; omega)) only [go_sem]; done) | (simp only [go_sem]; omega) | assumption) only [go_sem, Bool.false_eq_true, ↓sel_fineP, ↓reduceIte, Nat.reduceEqDiff, sel_y, sel_n, sel_ny, sel_nn, wrap_u64, wrap_i64, wrap_u32, min_l, e]
  simp -implicitDefEqProofs (disch := first | (refine fineP_go ?_; kernel_rfl) | omega | (refine of_eq_true ?_; simp (disch := first | omega | (refine of_eq_true ?_; simp only [go_sem, fun K => pu_rPairs_n (a := r) (by omega) hp (K := K), map_t_enc]; done) | (simp only [go_sem, fun K => pu_rPairs_n (a := r) (by omega) hp (K := K), map_t_enc]; omega)) only [go_sem, fun K => pu_rPairs_n (a := r) (by omega) hp (K := K), map_t_enc]; done) | (simp only [go_sem, fun K => pu_rPairs_n (a := r) (by omega) hp (K := K), map_t_enc]; omega) | assumption) only [go_sem, Bool.false_eq_true, ↓sel_fineP, ↓reduceIte, Nat.reduceEqDiff, sel_y, sel_n, sel_ny, sel_nn, wrap_u64, wrap_i64, wrap_u32, min_l, fun K => pu_rPairs_n (a := r) (by omega) hp (K := K), map_t_enc]
  refine loop_up (n := (pairsR r).length) (fun j e H => e 2 = .ptr 0 1 0 0 ∧ e 5 = .t (.int .i64 x.ev.length) ∧ e 6 = accV 2 (((pairsR r).take j).filter (memF x.ev)) ∧ e 7 = .ref 1 (pairsR r).length ∧ e 8 = .t (.int .i64 j) ∧ H = ⟨[.t (enc x)], 7, false⟩ :: ⟨vs (pairsR r), 2, false⟩ :: accO (((pairsR r).take j).filter (memF x.ev))) ?_ _ _ ?_
  · rintro j e H hj ⟨g2, g5, g6, g7, g8, rfl⟩
    have hfl := filt_len (l := pairsR r) (f := memF x.ev) (j := j)
    by_cases hlt : j < (pairsR r).length
    · obtain ⟨a, b, hab, hh⟩ := pairsR_gd hlt
      have hab2 := has_lt hh
      have hs := filt_step (f := memF x.ev) hlt
      rw [hab] at hs
      cases ma : memK (gd x.ev a)
      · rw [show memF x.ev ((a : Int), (b : Int)) = false by simp [memF, ma], if_neg (by decide)] at hs
        simp -implicitDefEqProofs (disch := first | (refine fineP_go ?_; kernel_rfl) | omega | (refine of_eq_true ?_; simp (disch := first | omega | (refine of_eq_true ?_; simp only [go_sem]; done) | (simp only [go_sem]; omega)) only [go_sem]; done) | (simp only [go_sem]; omega) | assumption) only [go_sem, Bool.false_eq_true, ↓sel_fineP, ↓reduceIte, Nat.reduceEqDiff, sel_y, sel_n, sel_ny, sel_nn, wrap_u64, wrap_i64, wrap_u32, min_l, g2, g5, g6, g7, g8, hab, hs, ma]
        exact hlt
      · cases mb : memK (gd x.ev b)
        · rw [show memF x.ev ((a : Int), (b : Int)) = false by simp [memF, mb], if_neg (by decide)] at hs
          simp -implicitDefEqProofs (disch := first | (refine fineP_go ?_; kernel_rfl) | omega | (refine of_eq_true ?_; simp (disch := first | omega | (refine of_eq_true ?_; simp only [go_sem]; done) | (simp only [go_sem]; omega)) only [go_sem]; done) | (simp only [go_sem]; omega) | assumption) only [go_sem, Bool.false_eq_true, ↓sel_fineP, ↓reduceIte, Nat.reduceEqDiff, sel_y, sel_n, sel_ny, sel_nn, wrap_u64, wrap_i64, wrap_u32, min_l, g2, g5, g6, g7, g8, hab, hs, ma, mb]
          exact hlt
        · rw [show memF x.ev ((a : Int), (b : Int)) = true by simp [memF, ma, mb], if_pos rfl] at hs
          simp -implicitDefEqProofs (disch := first | (refine fineP_go ?_; kernel_rfl) | omega | (refine of_eq_true ?_; simp (disch := first | omega | (refine of_eq_true ?_; simp only [go_sem]; done) | (simp only [go_sem]; omega)) only [go_sem]; done) | (simp only [go_sem]; omega) | assumption) only [go_sem, Bool.false_eq_true, ↓sel_fineP, ↓reduceIte, Nat.reduceEqDiff, sel_y, sel_n, sel_ny, sel_nn, wrap_u64, wrap_i64, wrap_u32, min_l, g2, g5, g6, g7, g8, hab, hs, ma, mb]
          exact hlt
    · obtain rfl : j = (pairsR r).length := by omega
      have h3 : ∀ q ∈ (pairsR r).filter (memF x.ev), ∃ i k : Nat, q = ((i : Int), (k : Int)) ∧ i < x.ev.length ∧ k < x.ev.length := fun q hq => pairs_ok hr q (List.mem_filter.1 hq).1
      rw [List.take_length] at hfl
      simp -implicitDefEqProofs (disch := first | (refine fineP_go ?_; kernel_rfl) | omega | (refine of_eq_true ?_; simp (disch := first | omega | (refine of_eq_true ?_; simp only [go_sem]; done) | (simp only [go_sem]; omega)) only [go_sem]; done) | (simp only [go_sem]; omega) | assumption) only [go_sem, Bool.false_eq_true, ↓sel_fineP, ↓reduceIte, Nat.reduceEqDiff, sel_y, sel_n, sel_ny, sel_nn, wrap_u64, wrap_i64, wrap_u32, min_l, g2, g5, g6, g7, g8, List.take_length, made_mem hx hr]
  · simp -implicitDefEqProofs (disch := first | (refine fineP_go ?_; kernel_rfl) | omega | (refine of_eq_true ?_; simp (disch := first | omega | (refine of_eq_true ?_; simp only [go_sem]; done) | (simp only [go_sem]; omega)) only [go_sem]; done) | (simp only [go_sem]; omega) | assumption) only [go_sem, Bool.false_eq_true, ↓sel_fineP, ↓reduceIte, Nat.reduceEqDiff, sel_y, sel_n, sel_ny, sel_nn, wrap_u64, wrap_i64, wrap_u32, min_l]
    exact ⟨rfl, rfl⟩
@[go_sem] theorem pu_rMemory {x : Ex} (hx : x.ev.length ≤ 32) {r : Rl} (hr : r.length = x.ev.length) {K : Ka V} : @Pu Tryz.prog 126 [enc x, enc r] K = K.k (.t (enc (memR x.ev r))) := (ref14_Memory hx hr).pu
end Go.Sim
