/- A part of the proof of a law of module cupola: Local, Pur. It has no conditions of its own. -/
import Derived.Test.YtoaboplnnhifpaaGreatDob
import Derived.Test.YtoaboplnnhifpaaGreatAllX
set_option linter.all false
set_option maxRecDepth 20000
namespace Go.Sim
open Enc (enc)
open Go.Proofs

def lateR (x : Ex) : Rl := onlyR (andR (andR x.po (alikeR x.ev)) (innerR x.ev)) (kindM x.ev [2]) (kindM x.ev [2])
@[go_sem] theorem lateR_len (x : Ex) : (lateR x).length = x.po.length := by unfold lateR; simp only [go_sem]
theorem local_Late {x : Ex} (hx : Okx x) : Fun Tryz.prog 117 [enc x] (.t (enc (lateR x))) := by
  obtain ⟨h0, h1, h2, h3, h4, h5⟩ := hx
  refine Fun.go (b := false) Tryz.func117 rfl rfl (by kernel_rfl) (by kernel_rfl) ?_
  simp -implicitDefEqProofs (disch := first | exact dsch | fail) only [go_sem, ↓reduceIte, Nat.reduceEqDiff, h1]
  rfl
@[go_sem] theorem pu_Late {x : Ex} (hx : Okx x) {K : Kp} : @Pu _ Tryz.prog 117 [enc x] K = K.k (.t (enc (lateR x))) := (local_Late hx).pu
def readsB (x : Ex) (r : Int) : Bool := decide (0 ≤ r) && (decide (r < x.ev.length) && decide ((gd x.ev r.toNat).kind = 1))
theorem local_reads {x : Ex} {r : Int} : Fun Tryz.prog 154 [enc x, .int .i64 r] (.t (.bool (readsB x r))) := by
  refine Fun.go (b := false) Tryz.func154 rfl rfl (by kernel_rfl) (by kernel_rfl) ?_
  unfold readsB
  by_cases h1 : 0 ≤ r
  · by_cases h2 : r < x.ev.length
    · simp -implicitDefEqProofs (disch := first | exact dsch | fail) only [go_sem, ↓reduceIte, Nat.reduceEqDiff, h1, h2]
    · simp -implicitDefEqProofs (disch := first | exact dsch | fail) only [go_sem, ↓reduceIte, Nat.reduceEqDiff, h1, h2, Bool.false_and]
  · simp -implicitDefEqProofs (disch := first | exact dsch | fail) only [go_sem, ↓reduceIte, Nat.reduceEqDiff, h1, Bool.false_and]
@[go_sem] theorem pu_reads {x : Ex} {r : Int} {K : Kp} : @Pu _ Tryz.prog 154 [enc x, .int .i64 r] K = K.k (.t (.bool (readsB x r))) := local_reads.pu
def fewB (t : Te) : Bool := decide (t.init.length ≤ 10) && (decide (t.th.length ≤ 10) && t.th.all fun x => decide (x.length ≤ 40))
theorem ref02_Few (t : Te) : Fun Tryz.prog 16 [enc t] (.t (.bool (fewB t))) := by
  refine Fun.go (b := false) Tryz.func16 rfl rfl (by kernel_rfl) (by kernel_rfl) ?_
  unfold fewB
  by_cases h1 : t.init.length ≤ 10
  · by_cases h2 : t.th.length ≤ 10
    · simp -implicitDefEqProofs (disch := first | exact dsch | fail) only [go_sem, ↓reduceIte, Nat.reduceEqDiff, h1, h2]
      refine loop_k (n := t.th.length) [1] (by kernel_rfl) (fun i e H => e 3 = .t (.int .i64 i) ∧ H = [⟨[.t (enc t)], 2, false⟩] ∧ ∀ k, k < i → (gd t.th k).length ≤ 40) ?_ ?_
      · rintro i e H hi hk ⟨h3, rfl, hq⟩
        simp only [keepP, go_sem, ↓reduceIte, Nat.reduceEqDiff, and_true] at hk
        by_cases hlt : i < t.th.length
        · by_cases he : (gd t.th i).length ≤ 40
          · simp -implicitDefEqProofs (disch := first | exact dsch | fail) only [go_sem, ↓reduceIte, Nat.reduceEqDiff, hk, h3, he]
            refine ⟨hlt, fun k hk' => ?_⟩
            by_cases e : k = i
            · subst e; exact he
            · exact hq k (by omega)
          · have : (t.th.all fun x => decide (x.length ≤ 40)) = false := by
              rw [List.all_eq_false]; exact ⟨_, gd_mem hlt, by simpa using he⟩
            simp -implicitDefEqProofs (disch := first | exact dsch | fail) only [go_sem, ↓reduceIte, Nat.reduceEqDiff, hk, h3, he, this, Bool.and_false]
        · obtain rfl : i = t.th.length := by omega
          have : (t.th.all fun x => decide (x.length ≤ 40)) = true := by
            rw [List.all_eq_true]
            intro x hx
            obtain ⟨k, hk', rfl⟩ := List.mem_iff_getElem.1 hx
            have := hq k hk'
            simpa [gd_get hk'] using this
          simp -implicitDefEqProofs (disch := first | exact dsch | fail) only [go_sem, ↓reduceIte, Nat.reduceEqDiff, hk, h3, this]
          simp [h1, h2]
      · simp -implicitDefEqProofs (disch := first | exact dsch | fail) only [go_sem, ↓reduceIte, Nat.reduceEqDiff]
        intro k hk; omega
    · simp -implicitDefEqProofs (disch := first | exact dsch | fail) only [go_sem, ↓reduceIte, Nat.reduceEqDiff, h1, h2, Bool.false_and]
  · simp -implicitDefEqProofs (disch := first | exact dsch | fail) only [go_sem, ↓reduceIte, Nat.reduceEqDiff, h1, Bool.false_and]
@[go_sem] theorem pu_Few {t : Te} {K : Kp} : @Pu _ Tryz.prog 16 [enc t] K = K.k (.t (.bool (fewB t))) := (ref02_Few t).pu
def shutB (x : Ex) (r w : Int) : Bool := if r < 0 ∨ w < 0 ∨ (x.ev.length : Int) ≤ r ∨ (x.ev.length : Int) ≤ w then false else
  (maskB x.ev acqG).getLsbD r.toNat && decide (0 < (pairsR (onlyR x.rmw onesB (1#32 <<< w.toNat))).length)
theorem local_Shut {x : Ex} (hx : Okx x) {r w : Int} : Fun Tryz.prog 127 [enc x, .int .i64 r, .int .i64 w] (.t (.bool (shutB x r w))) := by
  obtain ⟨h0, h1, h2, h3, h4, h5⟩ := hx
  refine Fun.go (b := false) Tryz.func127 rfl rfl (by kernel_rfl) (by kernel_rfl) ?_
  by_cases a : r < 0
  · have hz : shutB x r w = false := by unfold shutB; rw [if_pos (.inl a)]
    simp -implicitDefEqProofs (disch := first | exact dsch | fail) only [go_sem, ↓reduceIte, Nat.reduceEqDiff, a, hz]
  by_cases b : w < 0
  · have hz : shutB x r w = false := by unfold shutB; rw [if_pos (.inr (.inl b))]
    simp -implicitDefEqProofs (disch := first | exact dsch | fail) only [go_sem, ↓reduceIte, Nat.reduceEqDiff, a, b, hz]
  by_cases c : (x.ev.length : Int) ≤ r
  · have hz : shutB x r w = false := by unfold shutB; rw [if_pos (.inr (.inr (.inl c)))]
    simp -implicitDefEqProofs (disch := first | exact dsch | fail) only [go_sem, ↓reduceIte, Nat.reduceEqDiff, a, b, c, hz]
  by_cases d : (x.ev.length : Int) ≤ w
  · have hz : shutB x r w = false := by unfold shutB; rw [if_pos (.inr (.inr (.inr d)))]
    simp -implicitDefEqProofs (disch := first | exact dsch | fail) only [go_sem, ↓reduceIte, Nat.reduceEqDiff, a, b, c, d, hz]
  obtain ⟨r, rfl⟩ := Int.eq_ofNat_of_zero_le (a := r) (by omega)
  obtain ⟨w, rfl⟩ := Int.eq_ofNat_of_zero_le (a := w) (by omega)
  have hz : shutB x r w = ((maskB x.ev acqG).getLsbD r && decide (0 < (pairsR (onlyR x.rmw onesB (1#32 <<< w))).length)) := by unfold shutB; rw [if_neg (by omega)]; rfl
  rw [hz]
  simp -implicitDefEqProofs (disch := first | exact dsch | fail) only [go_sem, ↓reduceIte, Nat.reduceEqDiff, h5]
  cases (maskB x.ev acqG).getLsbD r <;> (simp -implicitDefEqProofs (disch := first | exact dsch | fail) only [go_sem, ↓reduceIte, Nat.reduceEqDiff, h5, Bool.false_and, Bool.true_and]) <;> (try simp)
@[go_sem] theorem pu_Shut {x : Ex} (hx : Okx x) {r w : Int} {K : Kp} : @Pu _ Tryz.prog 127 [enc x, .int .i64 r, .int .i64 w] K = K.k (.t (.bool (shutB x r w))) := (local_Shut hx).pu

def ownQ (x : Ex) (r w : Nat) : Bool := decide ((gd x.ev w).kind = 2) && (decide ((gd x.ev w).loc = (gd x.ev r).loc) && (decide ((gd x.ev w).thread = (gd x.ev r).thread) && has x.po w r))
def ownL (x : Ex) (r : Nat) : List Int := ((List.range x.ev.length).filter (ownQ x r)).map fun (k : Nat) => (k : Int)
def ownTo (x : Ex) (r n : Nat) : List Int := ((List.range n).filter (ownQ x r)).map fun (k : Nat) => (k : Int)
theorem ownTo_step (x : Ex) (r n : Nat) : ownTo x r (n + 1) = if ownQ x r n then ownTo x r n ++ [(n : Int)] else ownTo x r n := by
  unfold ownTo
  rw [List.range_succ, List.filter_append, List.map_append]
  cases h : ownQ x r n <;> simp [h]
def lastB (x : Ex) (l : List Int) (w : Int) : Bool := l.all fun k => !hasZ (lateR x) w k
def ownZ (x : Ex) (r : Int) : Int := if readsB x r then ((ownL x r.toNat).find? (lastB x (ownL x r.toNat))).getD (-1) else -1
theorem ownTo_len (x : Ex) (r n : Nat) : (ownTo x r n).length ≤ n := by
  unfold ownTo
  have := List.length_filter_le (ownQ x r) (List.range n)
  rw [List.length_range] at this
  rw [List.length_map]; exact this
theorem find_at {α : Type} [Enc α] {p : α → Bool} {l : List α} {i : Nat} (hi : i < l.length) (h : ∀ k, k < i → p (gd l k) = false) (hp : p (gd l i) = true) : l.find? p = some (gd l i) := by
  rw [← gd_get hi] at hp ⊢
  rw [List.find?_eq_some_iff_getElem]
  refine ⟨hp, i, hi, rfl, fun j hj => ?_⟩
  have := h j hj
  rw [← gd_get (by omega)] at this
  simp [this]
theorem find_no {α : Type} [Enc α] {p : α → Bool} {l : List α} (h : ∀ k, k < l.length → p (gd l k) = false) : l.find? p = none := by
  rw [List.find?_eq_none]
  intro x hx
  obtain ⟨k, hk, rfl⟩ := List.mem_iff_getElem.1 hx
  have := h k hk
  rw [← gd_get hk] at this
  simp [this]
def AccG (R : Heap) (v : V) (l : List Int) : Prop := (l = [] ∧ v = .ex []) ∨ ∃ m, v = .ref (m + 1) l.length ∧ R[m]? = some ⟨vs l, 1, false⟩
theorem AccG.nil (R : Heap) : AccG R (.ex []) [] := .inl ⟨rfl, rfl⟩
theorem AccG.mono {R : Heap} {v : V} {l : List Int} (h : AccG R v l) (Y : Heap) : AccG (R ++ Y) v l := by
  rcases h with h | ⟨m, h1, h2⟩
  · exact .inl h
  · exact .inr ⟨m, h1, at_all h2 Y⟩
theorem AccG.push {R : Heap} {v : V} {l : List Int} (h : AccG R v l) (o : Obj) (a : Int) (hr : l.length ≤ 1000000) :
    ∃ v' R' f, appendV (some (1, 8)) (o :: R) v [.t (.int .i64 a)] = some ⟨v', o :: R', f⟩ ∧ AccG R' v' (l ++ [a]) := by
  rcases h with ⟨rfl, rfl⟩ | ⟨m, rfl, hg⟩
  · exact ⟨_, R ++ [⟨vs [a], 1, false⟩], _, app_ex rfl rfl rfl (by simp), .inr ⟨R.length, rfl, by simp⟩⟩
  · have hm := at_lt hg
    refine ⟨.ref (m + 1) (l.length + 1), R.set m ⟨vs (l ++ [a]), 1, false⟩, .grow (m + 1), ?_, .inr ⟨m, by simp, ?_⟩⟩
    · rw [app_ref rfl, cur_some (o := ⟨vs l, 1, false⟩) (by rw [List.getElem?_cons_succ]; exact hg) (vs_len l), Option.bind_some, app1_go rfl (by simp; omega), List.set_cons_succ]
      simp [vs]; rfl
    · simp [hm]
theorem local_Own {x : Ex} (hx : Okx x) {r : Int} : Fun Tryz.prog 82 [enc x, .int .i64 r] (.t (.int .i64 (ownZ x r))) := by
  have hx' := hx
  obtain ⟨h0, h1, h2, h3, h4, h5⟩ := hx
  refine Fun.go (b := false) Tryz.func82 rfl rfl (by kernel_rfl) (by kernel_rfl) ?_
  cases hr : readsB x r
  · have hz : ownZ x r = -1 := by unfold ownZ; rw [hr]; rfl
    simp -implicitDefEqProofs (disch := first | exact dsch | fail) only [go_sem, ↓reduceIte, Nat.reduceEqDiff, hr, hz]
  · have hr2 := hr
    unfold readsB at hr2
    simp only [Bool.and_eq_true, decide_eq_true_eq] at hr2
    obtain ⟨r, rfl⟩ := Int.eq_ofNat_of_zero_le hr2.1
    have hrl : r < x.ev.length := by omega
    have hz : ownZ x r = ((ownL x r).find? (lastB x (ownL x r))).getD (-1) := by unfold ownZ; rw [hr]; rfl
    rw [hz]
    simp -implicitDefEqProofs (disch := first | exact dsch | fail) only [go_sem, ↓reduceIte, Nat.reduceEqDiff, hr, h1]
    refine loop_k (n := x.ev.length) [1, 2, 4, 5, 20, 21] (by kernel_rfl) (fun i e H => e 22 = .t (.int .i64 i) ∧ ∃ v R, e 6 = v ∧ H = ⟨[.t (enc x)], 7, false⟩ :: R ∧ AccG R v (ownTo x r i)) ?_ ?_
    · rintro i e H hi hk ⟨hc, v, R, h6, rfl, hA⟩
      simp only [keepP, go_sem, ↓reduceIte, Nat.reduceEqDiff, and_true] at hk
      by_cases hlt : i < x.ev.length
      · have hst := ownTo_step x r i
        have hle := ownTo_len x r i
        cases hq : ownQ x r i
        · rw [hq, if_neg (by decide)] at hst
          have fin : ∃ v_1 R_1, v = v_1 ∧ (⟨[V.t (enc x)], 7, false⟩ :: (R ++ [⟨[V.t (enc (gd x.ev i))], 7, false⟩]) : Heap) = ⟨[.t (enc x)], 7, false⟩ :: R_1 ∧ AccG R_1 v_1 (ownTo x r (i + 1)) := ⟨v, _, rfl, rfl, by rw [hst]; exact hA.mono _⟩
          unfold ownQ at hq
          by_cases q1 : (gd x.ev i).kind = 2
          · by_cases q2 : (gd x.ev i).loc = (gd x.ev r).loc
            · by_cases q3 : (gd x.ev i).thread = (gd x.ev r).thread
              · have q4 : has x.po i r = false := by simpa [q1, q2, q3] using hq
                have q5 : hasZ x.po i r = false := by simp [hasZ, q4]
                simp -implicitDefEqProofs (disch := first | exact dsch | fail) only [go_sem, ↓reduceIte, Nat.reduceEqDiff, hk, hc, h6, h1, gx0, gxk, sx0, sxk, List.append_assoc, q1, q2, q3, q5]
                exact ⟨hlt, fin⟩
              · simp -implicitDefEqProofs (disch := first | exact dsch | fail) only [go_sem, ↓reduceIte, Nat.reduceEqDiff, hk, hc, h6, h1, gx0, gxk, sx0, sxk, List.append_assoc, q1, q2, q3]
                exact ⟨hlt, fin⟩
            · simp -implicitDefEqProofs (disch := first | exact dsch | fail) only [go_sem, ↓reduceIte, Nat.reduceEqDiff, hk, hc, h6, h1, gx0, gxk, sx0, sxk, List.append_assoc, q1, q2]
              exact ⟨hlt, fin⟩
          · simp -implicitDefEqProofs (disch := first | exact dsch | fail) only [go_sem, ↓reduceIte, Nat.reduceEqDiff, hk, hc, h6, h1, gx0, gxk, sx0, sxk, List.append_assoc, q1]
            exact ⟨hlt, fin⟩
        · rw [hq, if_pos rfl] at hst
          obtain ⟨v', R', f, hp, hA'⟩ := (hA.mono [⟨[V.t (enc (gd x.ev i))], 7, false⟩]).push ⟨[.t (enc x)], 7, false⟩ (i : Int) (by omega)
          unfold ownQ at hq
          simp only [Bool.and_eq_true, decide_eq_true_eq] at hq
          obtain ⟨q1, q2, q3, q4⟩ := hq
          have q5 : hasZ x.po i r = true := by simp [hasZ, q4]
          simp -implicitDefEqProofs (disch := first | exact dsch | fail) only [go_sem, ↓reduceIte, Nat.reduceEqDiff, hk, hc, h6, h1, gx0, gxk, sx0, sxk, List.append_assoc, q1, q2, q3, q5, hp]
          exact ⟨hlt, _, _, rfl, rfl, by rw [hst]; exact hA'⟩
      · obtain rfl : i = x.ev.length := by omega
        have hfin : ownTo x r x.ev.length = ownL x r := rfl
        rw [hfin] at hA
        have hle := ownTo_len x r x.ev.length
        rw [hfin] at hle
        generalize ownL x r = l at hA hle ⊢
        rcases hA with ⟨rfl, rfl⟩ | ⟨m, rfl, hg⟩
        · simp -implicitDefEqProofs (disch := first | exact dsch | fail) only [go_sem, ↓reduceIte, Nat.reduceEqDiff, hk, hc, h6]
          rw [e_loop]
          simp -implicitDefEqProofs (disch := first | exact dsch | fail) only [go_sem, ↓reduceIte, Nat.reduceEqDiff]
          rfl
        · simp -implicitDefEqProofs (disch := first | exact dsch | fail) only [go_sem, ↓reduceIte, Nat.reduceEqDiff, hk, hc, h6, hg]
          refine loop_k (n := l.length) [5, 6, 64, 65] (by kernel_rfl) (fun i e H => e 66 = .t (.int .i64 i) ∧ H = ⟨[.t (enc x)], 7, false⟩ :: R ∧ ∀ k, k < i → lastB x l (gd l k) = false) ?_ ?_
          · rintro i e2 H2 hi hk2 ⟨hc2, rfl, hq⟩
            simp only [keepP, go_sem, ↓reduceIte, Nat.reduceEqDiff, and_true] at hk2
            by_cases hlt2 : i < l.length
            · simp -implicitDefEqProofs (disch := first | exact dsch | fail) only [go_sem, ↓reduceIte, Nat.reduceEqDiff, hk, hc, h6, hk2, hc2, hg]
              refine loop_k (n := l.length) [4, 5, 10, 66, 70, 71] (by kernel_rfl) (fun j e H => e 72 = .t (.int .i64 j) ∧ H = ⟨[.t (enc x)], 7, false⟩ :: R ∧ ∀ k, k < j → hasZ (lateR x) (gd l i) (gd l k) = false) ?_ ?_
              · rintro j e3 H3 hj hk3 ⟨hc3, rfl, hq3⟩
                simp only [keepP, go_sem, ↓reduceIte, Nat.reduceEqDiff, and_true] at hk3
                by_cases hlt3 : j < l.length
                · cases hh : hasZ (lateR x) (gd l i) (gd l j)
                  · simp -implicitDefEqProofs (disch := first | exact dsch | fail) only [go_sem, ↓reduceIte, Nat.reduceEqDiff, hk, hc, h6, hk2, hc2, hk3, hc3, hg, h1, hh]
                    refine ⟨hlt3, fun k hk' => ?_⟩
                    by_cases e : k = j
                    · subst e; exact hh
                    · exact hq3 k (by omega)
                  · have hl : lastB x l (gd l i) = false := by
                      unfold lastB
                      rw [List.all_eq_false]
                      exact ⟨_, gd_mem hlt3, by simp [hh]⟩
                    simp -implicitDefEqProofs (disch := first | exact dsch | fail) only [go_sem, ↓reduceIte, Nat.reduceEqDiff, hk, hc, h6, hk2, hc2, hk3, hc3, hg, h1, hh]
                    refine ⟨hlt2, fun k hk' => ?_⟩
                    by_cases e : k = i
                    · subst e; exact hl
                    · exact hq k (by omega)
                · obtain rfl : j = l.length := by omega
                  have hl : lastB x l (gd l i) = true := by
                    unfold lastB
                    rw [List.all_eq_true]
                    intro y hy
                    obtain ⟨k, hk', rfl⟩ := List.mem_iff_getElem.1 hy
                    have := hq3 k hk'
                    rw [gd_get hk']; simp [this]
                  have hf := find_at hlt2 hq hl
                  simp -implicitDefEqProofs (disch := first | exact dsch | fail) only [go_sem, ↓reduceIte, Nat.reduceEqDiff, hk, hc, h6, hk2, hc2, hk3, hc3, hg, hf, Option.getD_some]
              · simp -implicitDefEqProofs (disch := first | exact dsch | fail) only [go_sem, ↓reduceIte, Nat.reduceEqDiff]
                intro k hk; omega
            · obtain rfl : i = l.length := by omega
              have hf := find_no hq
              simp -implicitDefEqProofs (disch := first | exact dsch | fail) only [go_sem, ↓reduceIte, Nat.reduceEqDiff, hk, hc, h6, hk2, hc2, hf, Option.getD_none]
          · simp -implicitDefEqProofs (disch := first | exact dsch | fail) only [go_sem, ↓reduceIte, Nat.reduceEqDiff]
            intro k hk; omega
    · simp -implicitDefEqProofs (disch := first | exact dsch | fail) only [go_sem, ↓reduceIte, Nat.reduceEqDiff]
      exact ⟨_, _, rfl, rfl, .nil _⟩
@[go_sem] theorem pu_Own {x : Ex} (hx : Okx x) {r : Int} {K : Kp} : @Pu _ Tryz.prog 82 [enc x, .int .i64 r] K = K.k (.t (.int .i64 (ownZ x r))) := (local_Own hx).pu

theorem prs_ok {a : Rl} {n : Nat} (h : a.length = n) : ∀ q ∈ pairsR a, ∃ i k : Nat, q = ((i : Int), (k : Int)) ∧ i < n ∧ k < n := by
  intro q hq
  obtain ⟨i, k, h1, h2⟩ := mem_pairsR.1 hq
  have := has_lt h2
  exact ⟨i, k, h1, by omega, by omega⟩
def orsTo (l : List (Int × Int)) : Nat → U32
  | 0 => 0#32
  | k + 1 => orsTo l k ||| 1#32 <<< (gd l k).1.toNat
def needL (x : Ex) (w : Nat) : List (Int × Int) := pairsR (onlyR (orR x.addr x.data) onesB (1#32 <<< w))
def needsM (x : Ex) (w : Int) : U32 := if w < 0 ∨ (x.ev.length : Int) ≤ w then 0#32 else orsTo (needL x w.toNat) (needL x w.toNat).length
theorem local_Needs {x : Ex} (hx : Okx x) {w : Int} : Fun Tryz.prog 126 [enc x, .int .i64 w] (.t (.int .u32 ((needsM x w).toNat : Int))) := by
  obtain ⟨h0, h1, h2, h3, h4, h5⟩ := hx
  refine Fun.go (b := false) Tryz.func126 rfl rfl (by kernel_rfl) (by kernel_rfl) ?_
  by_cases b : w < 0
  · have hz : needsM x w = 0#32 := by unfold needsM; rw [if_pos (.inl b)]
    simp -implicitDefEqProofs (disch := first | exact dsch | fail) only [go_sem, ↓reduceIte, Nat.reduceEqDiff, b, hz]
  by_cases d : (x.ev.length : Int) ≤ w
  · have hz : needsM x w = 0#32 := by unfold needsM; rw [if_pos (.inr d)]
    simp -implicitDefEqProofs (disch := first | exact dsch | fail) only [go_sem, ↓reduceIte, Nat.reduceEqDiff, b, d, hz]
  obtain ⟨w, rfl⟩ := Int.eq_ofNat_of_zero_le (a := w) (by omega)
  have hz : needsM x w = orsTo (needL x w) (needL x w).length := by unfold needsM; rw [if_neg (by omega)]; rfl
  rw [hz]
  have hl := pairsR_len (onlyR (orR x.addr x.data) onesB (1#32 <<< w)) (by simp only [go_sem]; omega)
  have hp := prs_ok (a := onlyR (orR x.addr x.data) onesB (1#32 <<< w)) (n := x.ev.length) (by simp only [go_sem]; omega)
  have hn : pairsR (onlyR (orR x.addr x.data) (4294967295#32) (1#32 <<< w)) = needL x w := rfl
  rw [show pairsR (onlyR (orR x.addr x.data) onesB (1#32 <<< w)) = needL x w from rfl] at hl hp
  simp -implicitDefEqProofs (disch := first | exact dsch | fail) only [go_sem, ↓reduceIte, Nat.reduceEqDiff, h2, h3, hn]
  generalize needL x w = l at hl hp ⊢
  refine loop_k (n := l.length) [4, 26, 27] (by kernel_rfl) (fun i e H => e 28 = .t (.int .i64 i) ∧ e 5 = .t (.int .u32 ((orsTo l i).toNat : Int)) ∧ ∃ R, H = ⟨[.t (enc x)], 7, false⟩ :: R) ?_ ?_
  · rintro i e H hi hk ⟨hc, he5, R, rfl⟩
    simp only [keepP, go_sem, ↓reduceIte, Nat.reduceEqDiff, and_true] at hk
    by_cases hlt : i < l.length
    · obtain ⟨a, b, hab, ha, hb⟩ := hp _ (gd_mem hlt)
      simp -implicitDefEqProofs (disch := first | exact dsch | fail) only [go_sem, ↓reduceIte, Nat.reduceEqDiff, hk, hc, he5, hab, gx0, gxk, sx0, sxk, List.append_assoc]
      refine ⟨hlt, ?_, _, rfl⟩
      rw [orsTo, hab]; rfl
    · obtain rfl : i = l.length := by omega
      simp -implicitDefEqProofs (disch := first | exact dsch | fail) only [go_sem, ↓reduceIte, Nat.reduceEqDiff, hk, hc, he5]
  · simp -implicitDefEqProofs (disch := first | exact dsch | fail) only [go_sem, ↓reduceIte, Nat.reduceEqDiff]
    exact ⟨rfl, _, rfl⟩
@[go_sem] theorem pu_Needs {x : Ex} (hx : Okx x) {w : Int} {K : Kp} : @Pu _ Tryz.prog 126 [enc x, .int .i64 w] K = K.k (.t (.int .u32 ((needsM x w).toNat : Int))) := (local_Needs hx).pu

def ahead0 (x : Ex) : Rl := orR (orR (staticR x) (memR x.ev x.rmw)) (orR (fencesR x) (ordersR x))
def aheadB (x : Ex) (a r : Rl) : Rl := orR a (memR x.ev (seqR r (lateR x)))
def aheadZ (x : Ex) : Rl := aheadB x (aheadB x (aheadB x (ahead0 x) x.ctrl) x.data) (onlyR x.po onesB (maskB x.ev relG))
@[go_sem] theorem aheadZ_len (x : Ex) : (aheadZ x).length = x.ev.length := by simp only [aheadZ, aheadB, ahead0, go_sem]
theorem local_Ahead {x : Ex} (hx : Okx x) : Fun Tryz.prog 59 [enc x] (.t (enc (aheadZ x))) := by
  have hx' := hx
  obtain ⟨h0, h1, h2, h3, h4, h5⟩ := hx
  refine Fun.go (b := false) Tryz.func59 rfl rfl (by kernel_rfl) (by kernel_rfl) ?_
  obtain ⟨l, e3, g0, g1, g2, gl⟩ : ∃ l : List Rl, [(enc x.ctrl : T), enc x.data, enc (onlyR x.po (4294967295#32) (maskB x.ev relG))] = l.map enc ∧ gd l 0 = x.ctrl ∧ gd l 1 = x.data ∧ gd l 2 = onlyR x.po (4294967295#32) (maskB x.ev relG) ∧ l.length = 3 := ⟨[_, _, _], rfl, rfl, rfl, rfl, rfl⟩
  simp -implicitDefEqProofs (disch := first | exact dsch | fail) only [go_sem, ↓reduceIte, Nat.reduceEqDiff, h1, h5, e3]
  rw [e_loop]
  simp -implicitDefEqProofs (disch := first | exact dsch | fail) only [go_sem, ↓reduceIte, Nat.reduceEqDiff, h1, h3, h4, g0, g1, g2, gl]
  rw [e_loop]
  simp -implicitDefEqProofs (disch := first | exact dsch | fail) only [go_sem, ↓reduceIte, Nat.reduceEqDiff, h1, h3, h4, g0, g1, g2, gl]
  rw [e_loop]
  simp -implicitDefEqProofs (disch := first | exact dsch | fail) only [go_sem, ↓reduceIte, Nat.reduceEqDiff, h1, h3, h4, g0, g1, g2, gl]
  rw [e_loop]
  simp -implicitDefEqProofs (disch := first | exact dsch | fail) only [go_sem, ↓reduceIte, Nat.reduceEqDiff, h1, h3, h4, g0, g1, g2, gl]
  rfl
@[go_sem] theorem pu_Ahead {x : Ex} (hx : Okx x) {K : Kp} : @Pu _ Tryz.prog 59 [enc x] K = K.k (.t (enc (aheadZ x))) := (local_Ahead hx).pu
end Go.Sim

namespace Go.Sim
open Enc (enc)
open Go.Proofs

theorem h_or {a b : Rl} (ha : a.length ≤ 32) (hb : b.length = a.length) (i k : Nat) : has (orR a b) i k = (has a i k || has b i k) := by
  rw [orR, has_mk ha]
  by_cases h1 : i < a.length
  · by_cases h2 : k < a.length
    · simp [h1, h2]
    · rw [has_out (.inr (by omega)), has_out (l := b) (.inr (by omega))]; simp
  · rw [has_out (.inl (by omega)), has_out (l := b) (.inl (by omega))]; simp
theorem h_and {a b : Rl} (ha : a.length ≤ 32) (i k : Nat) : has (andR a b) i k = (has a i k && has b i k) := by
  rw [andR, has_mk ha]
  by_cases h1 : i < a.length
  · by_cases h2 : k < a.length
    · simp [h1, h2]
    · rw [has_out (.inr (by omega))]; simp
  · rw [has_out (.inl (by omega))]; simp
theorem h_only {a : Rl} (ha : a.length ≤ 32) (f t : U32) (i k : Nat) : has (onlyR a f t) i k = (has a i k && (f.getLsbD i && t.getLsbD k)) := by
  rw [onlyR, has_mk ha]
  by_cases h1 : i < a.length
  · by_cases h2 : k < a.length
    · simp [h1, h2]
    · rw [has_out (.inr (by omega))]; simp
  · rw [has_out (.inl (by omega))]; simp
theorem h_seq {a b : Rl} (ha : a.length ≤ 32) (hb : b.length = a.length) (i k : Nat) : has (seqR a b) i k = true ↔ ∃ j, has a i j = true ∧ has b j k = true := by
  rw [seqR, has_mk ha]
  simp only [Bool.and_eq_true, decide_eq_true_eq, seqP, List.any_eq_true, List.mem_range]
  constructor
  · rintro ⟨_, _, j, _, h1, h2⟩; exact ⟨j, h1, h2⟩
  · rintro ⟨j, h1, h2⟩
    have a1 := has_lt h1
    have a2 := has_lt h2
    exact ⟨a1.1, by omega, j, a1.2, h1, h2⟩
theorem h_mask {l : List Ev} {g : Ev → Bool} {k : Nat} (hl : l.length ≤ 32) (hk : k < l.length) : (maskB l g).getLsbD k = g (gd l k) := by
  rw [maskB_get (by omega)]; simp [hk]
theorem h_kind {l : List Ev} {ks : List Int} {k : Nat} (hl : l.length ≤ 32) (hk : k < l.length) : (kindM l ks).getLsbD k = decide ((gd l k).kind ∈ ks) := h_mask hl hk
theorem h_pairs {l : List Ev} (hl : l.length ≤ 32) (g : Ev → Ev → Bool) (i k : Nat) : has (pairsG l g) i k = (decide (i < l.length) && (decide (k < l.length) && (decide (i ≠ k) && g (gd l i) (gd l k)))) := by rw [pairsG, has_mk hl]
theorem h_mem {l : List Ev} {r : Rl} (hl : l.length ≤ 32) (hr : r.length = l.length) {i k : Nat} : has (memR l r) i k = true ↔ has r i k = true ∧ (gd l i).kind ∈ [(1 : Int), 2] ∧ (gd l k).kind ∈ [(1 : Int), 2] := by
  rw [memR, h_only (by omega), Bool.and_eq_true, Bool.and_eq_true]
  constructor
  · rintro ⟨h1, h2, h3⟩
    have a1 := has_lt h1
    rw [memM, h_kind hl (by omega), decide_eq_true_eq] at h2 h3
    exact ⟨h1, h2, h3⟩
  · rintro ⟨h1, h2, h3⟩
    have a1 := has_lt h1
    rw [memM, h_kind hl (by omega), h_kind hl (by omega)]
    exact ⟨h1, decide_eq_true h2, decide_eq_true h3⟩
theorem h_fold {n : Nat} (hn : n ≤ 32) {i k : Nat} : ∀ {ls : List Rl} {a : Rl}, a.length = n → (∀ r ∈ ls, r.length = n) → (has (ls.foldl orR a) i k = true ↔ has a i k = true ∨ ∃ r ∈ ls, has r i k = true)
  | [], a, _, _ => by simp
  | r :: ls, a, ha, hl => by
    have hr := hl r (by simp)
    rw [List.foldl_cons, h_fold hn (a := orR a r) (by simp only [go_sem]; exact ha) (fun x hx => hl x (by simp [hx])), h_or (by omega) (by omega), Bool.or_eq_true]
    constructor
    · rintro ((h | h) | ⟨x, hx, h⟩)
      · exact .inl h
      · exact .inr ⟨r, by simp, h⟩
      · exact .inr ⟨x, by simp [hx], h⟩
    · rintro (h | ⟨x, hx, h⟩)
      · exact .inl (.inl h)
      · rcases List.mem_cons.1 hx with rfl | hx
        · exact .inl (.inr h)
        · exact .inr ⟨x, hx, h⟩
theorem h_union {n : Nat} (hn : n ≤ 32) {ls : List Rl} (hl : ∀ r ∈ ls, r.length = n) {i k : Nat} : has (unionR n ls) i k = true ↔ ∃ r ∈ ls, has r i k = true := by
  unfold unionR
  rw [h_fold hn (noneR_len n) hl, noneR, has_mk hn]
  simp

theorem WfE.ok {n : Int} {x : Ex} (h : WfE n x) : Okx x := ⟨by have := h.n; omega, h.lpo, h.laddr, h.ldata, h.lctrl, h.lrmw⟩
def LateP (x : Ex) (i k : Nat) : Prop := i < k ∧ k < x.ev.length ∧ th x.ev i = th x.ev k ∧ (gd x.ev i).kind = 2 ∧ (gd x.ev k).kind = 2 ∧ (gd x.ev i).loc = (gd x.ev k).loc
theorem late_iff {n : Int} {x : Ex} (h : WfE n x) {i k : Nat} : has (lateR x) i k = true ↔ LateP x i k := by
  have hn := h.n
  have hl := h.lpo
  unfold lateR LateP
  rw [h_only (by simp only [go_sem]; omega), h_and (by simp only [go_sem]; omega), h_and (by omega)]
  simp only [Bool.and_eq_true]
  rw [h.po]
  constructor
  · rintro ⟨⟨⟨⟨h1, h2, h3⟩, h4⟩, h5⟩, h6, h7⟩
    rw [h_kind (by omega) (by omega)] at h6 h7
    rw [alikeR, h_pairs (by omega)] at h4
    simp [alikeG] at h4 h6 h7
    exact ⟨h1, h2, h3, h6, h7, h4.2.2.2.2.2⟩
  · rintro ⟨h1, h2, h3, h4, h5, h6⟩
    rw [h_kind (by omega) (by omega), h_kind (by omega) (by omega), alikeR, innerR, h_pairs (by omega), h_pairs (by omega)]
    have t3 : (gd x.ev i).thread = (gd x.ev k).thread := h3
    have e1 : i < x.ev.length := by omega
    have e2 : ¬ i = k := by omega
    simp [alikeG, innerG, memK, h1, h2, h3, h4, h5, h6, t3, e1, e2]
theorem way_late {n : Int} {x : Ex} (h : WfE n x) {i k : Nat} (w : Way (lateR x) i k) : LateP x i k := by
  induction w with
  | single h1 => exact (late_iff h).1 h1
  | tail _ h2 ih =>
    have b := (late_iff h).1 h2
    obtain ⟨a1, a2, a3, a4, a5, a6⟩ := ih
    obtain ⟨b1, b2, b3, b4, b5, b6⟩ := b
    exact ⟨by omega, b2, a3.trans b3, a4, b5, a6.trans b6⟩
theorem late_acy {n : Int} {x : Ex} (h : WfE n x) : acyR (lateR x) = true := by
  unfold acyR
  rw [List.all_eq_true]
  intro i _
  rw [Bool.not_eq_true']
  cases hw : wayB (lateR x) i i with
  | false => rfl
  | true =>
    have := way_late h (wayB_iff.1 hw)
    exact absurd this.1 (by omega)
theorem late_trans {n : Int} {x : Ex} (h : WfE n x) : sameR (plusR (lateR x)) (lateR x) = true := by
  have hn := h.n
  have hl := h.lpo
  rw [sameR_iff]
  refine ⟨plusR_len _, fun i k => ?_⟩
  rw [Bool.eq_iff_iff]
  constructor
  · intro hh
    rw [plusR, has_mk (by simp only [go_sem]; omega)] at hh
    simp only [Bool.and_eq_true] at hh
    exact (late_iff h).2 (way_late h (wayB_iff.1 hh.2.2))
  · intro hh
    have hb := has_lt hh
    rw [plusR, has_mk' (by simp only [go_sem]; omega) hb.1 hb.2]
    exact wayB_iff.2 (.single hh)
def bothB (x : Ex) (i k : Nat) : Bool := decide (i ≠ k) && (decide ((gd x.ev i).kind = 2) && (decide ((gd x.ev k).kind = 2) && (decide ((gd x.ev i).loc = (gd x.ev k).loc) && decide ((gd x.ev i).thread = (gd x.ev k).thread))))
theorem late_both {n : Int} {x : Ex} (h : WfE n x) {i k : Nat} (hi : i < x.ev.length) (hk : k < x.ev.length) : (has (lateR x) i k != has (lateR x) k i) = bothB x i k := by
  have a := late_iff h (i := i) (k := k)
  have b := late_iff h (i := k) (k := i)
  have c : bothB x i k = true ↔ LateP x i k ∨ LateP x k i := by
    unfold bothB LateP th
    simp only [Bool.and_eq_true, decide_eq_true_eq]
    constructor
    · rintro ⟨h1, h2, h3, h4, h5⟩
      rcases Nat.lt_or_gt_of_ne h1 with h6 | h6
      · exact .inl ⟨h6, hk, h5, h2, h3, h4⟩
      · exact .inr ⟨h6, hi, h5.symm, h3, h2, h4.symm⟩
    · rintro (⟨h1, _, h3, h4, h5, h6⟩ | ⟨h1, _, h3, h4, h5, h6⟩)
      · exact ⟨by omega, h4, h5, h6, h3⟩
      · exact ⟨by omega, h5, h4, h6.symm, h3.symm⟩
  have d : ¬ (LateP x i k ∧ LateP x k i) := fun ⟨h1, h2⟩ => by have := h1.1; have := h2.1; omega
  cases h1 : has (lateR x) i k <;> cases h2 : has (lateR x) k i <;> cases h3 : bothB x i k <;> simp_all
theorem shut_excl {n : Int} {x : Ex} (h : WfE n x) {i k : Nat} (hs : shutB x i k = true) : (gd x.ev k).excl = true := by
  unfold shutB at hs
  split at hs
  · cases hs
  · rename_i hh
    simp only [Bool.and_eq_true, decide_eq_true_eq] at hs
    have hl := h.lrmw
    have hn := h.n
    obtain ⟨p, hp⟩ := List.exists_mem_of_length_pos hs.2
    obtain ⟨a, b, rfl, hab⟩ := mem_pairsR.1 hp
    rw [h_only (by omega)] at hab
    simp only [Bool.and_eq_true, BitVec.getLsbD_shiftLeft] at hab
    have hr := h.rmw _ _ hab.1
    have : b = k := by
      have h2 := hab.2.2
      simp at h2
      omega
    subst this
    exact hr.2.2.2.2.1
end Go.Sim
