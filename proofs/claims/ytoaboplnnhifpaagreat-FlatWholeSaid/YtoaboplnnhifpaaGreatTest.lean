/- A part of the proof of a law of module cupola: Test. It has no conditions of its own. -/
import Derived.Test.YtoaboplnnhifpaaGreatIns
set_option linter.all false
namespace Go.Sim
open Enc (enc)
open Go.Proofs

structure Te where
  init : List Int
  th : List (List In)
instance : Enc Te := ⟨fun e => .agg [enc e.init, enc e.th], ⟨[], []⟩, 2, by decide, fun _ => rfl⟩
@[go_sem] theorem cells_Te (e : Te) : (V.t (enc e)).cells = [.t (enc e.init), .t (enc e.th)] := rfl
@[go_sem] theorem stor_Te (e : Te) : (V.t (enc e)).storable = true := rfl
@[go_sem] theorem isAgg_Te (e : Te) : (V.t (enc e)).isAgg = true := rfl
@[go_sem] theorem rd_Te (e : Te) : rdV (.t (enc e)) 2 0 true 2 = some (.t (enc e)) := rfl
@[go_sem] theorem fits_Te (e : Te) : fits 2 (.t (enc e)) = true := rfl
@[go_sem] theorem cellsT_Te (e : Te) : (enc e : T).cells.length = 2 := rfl
@[go_sem] theorem noSl_Te (e : Te) : noSl (.t (enc e)) = false := rfl
@[go_sem] theorem noSl1_Te (e : Te) : noSl1 (.t (enc e)) = false := rfl
@[go_sem] theorem sz_Te : Enc.sz Te = 2 := rfl
@[go_sem] theorem fitsl_Te (l : List Te) : (vs l).all (fits 2) = true := by
  rw [List.all_eq_true]; intro v hv; obtain ⟨p, _, rfl⟩ := List.mem_map.1 hv; rfl
@[go_sem] theorem ix_Te {H : Heap} {e : Nat} {l : List Te} {i : Int} (h0 : 0 ≤ i) (h1 : i < l.length) : indexV H (.sl e) 2 (.t (enc l)) i = some (.tp (l.map enc) i.toNat 0) := ix_enc rfl h0 h1
@[go_sem] theorem ixex_Te {H : Heap} {e : Nat} {l : List Te} {i : Int} (h0 : 0 ≤ i) (h1 : i < l.length) : indexV H (.sl e) 2 (.ex (l.map enc)) i = some (.tp (l.map enc) i.toNat 0) := ix_Te (H := H) (e := e) (l := l) h0 h1
@[go_sem] theorem load_Te {H : Heap} {l : List Te} {i off sz : Nat} {a : Bool} (h1 : i < l.length) : loadV H (some (a, sz)) (.tp (l.map enc) i off) = (rdV (.t (enc (gd l i))) 2 off a sz).bind fun u => some ⟨u, H, .none⟩ := load_tpc h1
@[go_sem] theorem load1_Te {H : Heap} {id i off sz : Nat} {a : Bool} {l : List Te} {st : Bool} (hi : i < l.length) : load1 H id ⟨vs l, 2, st⟩ i off a sz = (rdV (.t (enc (gd l i))) 2 off a sz).bind fun u => some ⟨u, H, .load id⟩ := load1_vsc hi
@[go_sem] theorem agg_Te {x0 : List Int} {x1 : List (List In)} : T.agg [enc x0, enc x1] = enc (⟨x0, x1⟩ : Te) := rfl
@[go_sem] theorem eta_Te (e : Te) : (⟨e.init, e.th⟩ : Te) = e := rfl

def sizedT (t : Te) : Bool := !(t.init.any fun n => decide (n < -1000) || decide (1000 < n)) && (decide (1 ≤ (t.init.length : Int)) && decide ((t.init.length : Int) ≤ 3) && decide (1 ≤ (t.th.length : Int)) && decide ((t.th.length : Int) ≤ 3))
theorem test_sized (t : Te) (hl : t.init.length ≤ 1000000000) (hl2 : t.th.length ≤ 1000000000) : Fun Tryz.prog 164 [enc t] (.t (.bool (sizedT t))) := by
  refine Fun.go (b := false) Tryz.func164 rfl rfl (by kernel_rfl) (by kernel_rfl) ?_
  simp -implicitDefEqProofs (disch := first | exact dsch | fail) only [go_sem, ↓reduceIte, Nat.reduceEqDiff]
  refine loop_k (n := t.init.length) [1, 6, 7] (by kernel_rfl) (fun i e H => e 8 = .t (.int .i64 i) ∧ (t.init.take i).any (fun n => decide (n < -1000) || decide (1000 < n)) = false ∧ H = [⟨[.t (enc t)], 2, false⟩]) ?_ ?_
  · rintro i e H hi hk ⟨hc, hb, rfl⟩
    simp only [keepP, go_sem, ↓reduceIte, Nat.reduceEqDiff, and_true] at hk
    by_cases hlt : i < t.init.length
    · have hst := any_take (f := fun n => decide (n < -1000) || decide (1000 < n)) hlt
      rw [hb, Bool.false_or] at hst
      have hs : 1000 < gd t.init i ∨ gd t.init i < -1000 → sizedT t = false := by
        intro h
        unfold sizedT
        rw [List.any_eq_true.2 ⟨_, gd_mem hlt, by simpa using h.symm⟩]; rfl
      by_cases h1 : gd t.init i < -1000
      · simp -implicitDefEqProofs (disch := first | exact dsch | fail) only [go_sem, ↓reduceIte, Nat.reduceEqDiff, hk, hc, h1]
        rw [hs (.inr h1)]
      · by_cases h2 : 1000 < gd t.init i
        · simp -implicitDefEqProofs (disch := first | exact dsch | fail) only [go_sem, ↓reduceIte, Nat.reduceEqDiff, hk, hc, h1, h2]
          rw [hs (.inl h2)]
        · simp -implicitDefEqProofs (disch := first | exact dsch | fail) only [go_sem, ↓reduceIte, Nat.reduceEqDiff, hk, hc, h1, h2]
          exact ⟨hlt, by rw [hst]; simp [h1, h2]⟩
    · obtain rfl : i = t.init.length := by omega
      rw [List.take_length] at hb
      unfold sizedT
      rw [hb]
      by_cases h1 : 1 ≤ (t.init.length : Int) <;> by_cases h2 : (t.init.length : Int) ≤ 3 <;> by_cases h3 : 1 ≤ (t.th.length : Int) <;> by_cases h4 : (t.th.length : Int) ≤ 3 <;> simp -implicitDefEqProofs (disch := first | exact dsch | fail) only [go_sem, ↓reduceIte, Nat.reduceEqDiff, hk, hc, h1, h2, h3, h4, decide_true, decide_false, Bool.not_false, Bool.and_false, Bool.false_and]
  · simp -implicitDefEqProofs (disch := first | exact dsch | fail) only [go_sem, ↓reduceIte, Nat.reduceEqDiff]
    rfl
@[go_sem] theorem pu_sized {t : Te} (hl : t.init.length ≤ 1000000000) (hl2 : t.th.length ≤ 1000000000) {K : Kp} : @Pu _ Tryz.prog 164 [enc t] K = K.k (.t (.bool (sizedT t))) := (test_sized t hl hl2).pu

theorem vint {k : IntKind} {a b : Int} (h : a = b) : V.t (.int k a) = V.t (.int k b) := by rw [h]
def cntK (k : Int) (l : List In) : Nat := (l.filter fun x => decide (kindI x.op = k)).length
theorem cntK_app (k : Int) (l m : List In) : cntK k (l ++ m) = cntK k l + cntK k m := by simp [cntK]
theorem cntK_le (k : Int) (l : List In) : cntK k l ≤ l.length := List.length_filter_le _ _
theorem cntK_step (k : Int) {l : List In} {i : Nat} (h : i < l.length) : cntK k (l.take (i + 1)) = cntK k (l.take i) + if kindI (gd l i).op = k then 1 else 0 := by
  rw [← take_gd h, cntK_app]
  congr 1
  unfold cntK
  by_cases hk : kindI (gd l i).op = k <;> simp [hk]
def cntT (k : Int) (t : Te) : Nat := cntK k t.th.flatten
theorem flat_step {α : Type} [Enc α] {l : List (List α)} {i : Nat} (h : i < l.length) : (l.take (i + 1)).flatten = (l.take i).flatten ++ gd l i := by
  rw [← take_gd h]; simp
theorem flat_le {l : List (List In)} {i m : Nat} (hm : ∀ x ∈ l, x.length ≤ m) : (l.take i).flatten.length ≤ i * m := by
  induction i with
  | zero => simp
  | succ i ih =>
    by_cases h : i < l.length
    · rw [flat_step h, List.length_append, Nat.add_mul]
      have := hm _ (gd_mem h)
      omega
    · rw [List.take_of_length_le (by omega)] at ih ⊢
      rw [Nat.add_mul]; omega
theorem test_Count (t : Te) (hl : t.th.length ≤ 1000) (hl2 : ∀ x ∈ t.th, x.length ≤ 1000) : Fun Tryz.prog 88 [enc t] (.tup [.t (.int .i64 (cntT 1 t)), .t (.int .i64 (cntT 2 t))]) := by
  refine Fun.go (b := false) Tryz.func88 rfl rfl (by kernel_rfl) (by kernel_rfl) ?_
  simp -implicitDefEqProofs (disch := first | exact dsch | fail) only [go_sem, ↓reduceIte, Nat.reduceEqDiff]
  refine loop_k (n := t.th.length) [2, 3, 11, 12] (by kernel_rfl) (fun i e H => e 13 = .t (.int .i64 i) ∧ e 4 = .t (.int .i64 (cntK 1 (t.th.take i).flatten)) ∧ e 5 = .t (.int .i64 (cntK 2 (t.th.take i).flatten)) ∧ ∃ R, H = ⟨[.t (enc t)], 2, false⟩ :: R) ?_ ?_
  · rintro i e H hi hk ⟨hc, h4, h5, R, rfl⟩
    simp only [keepP, go_sem, ↓reduceIte, Nat.reduceEqDiff, and_true] at hk
    by_cases hlt : i < t.th.length
    · have hb := hl2 _ (gd_mem hlt)
      have hb2 := flat_le (i := i) hl2
      have hb3 : i * 1000 ≤ 1000 * 1000 := Nat.mul_le_mul_right _ (by omega)
      have a1 := cntK_le 1 (t.th.take i).flatten
      have a2 := cntK_le 2 (t.th.take i).flatten
      simp -implicitDefEqProofs (disch := first | exact dsch | fail) only [go_sem, ↓reduceIte, Nat.reduceEqDiff, hk, hc, h4, h5]
      refine loop_k (n := (gd t.th i).length) [2, 3, 13, 17, 18] (by kernel_rfl) (fun j e H => e 19 = .t (.int .i64 j) ∧ e 4 = .t (.int .i64 ((cntK 1 (t.th.take i).flatten + cntK 1 ((gd t.th i).take j) : Nat))) ∧ e 5 = .t (.int .i64 ((cntK 2 (t.th.take i).flatten + cntK 2 ((gd t.th i).take j) : Nat))) ∧ ∃ R, H = ⟨[.t (enc t)], 2, false⟩ :: R) ?_ ?_
      · rintro j e2 H2 hj hk2 ⟨hc2, h42, h52, R2, rfl⟩
        simp only [keepP, go_sem, ↓reduceIte, Nat.reduceEqDiff, and_true] at hk2
        by_cases hlt2 : j < (gd t.th i).length
        · have s1 := cntK_step 1 hlt2
          have s2 := cntK_step 2 hlt2
          have a3 := cntK_le 1 ((gd t.th i).take j)
          have a4 := cntK_le 2 ((gd t.th i).take j)
          rw [List.length_take] at a3 a4
          by_cases k1 : kindI (gd (gd t.th i) j).op = 1
          · have k2 : ¬ kindI (gd (gd t.th i) j).op = 2 := by omega
            rw [if_pos k1] at s1
            rw [if_neg k2] at s2
            simp -implicitDefEqProofs (disch := first | exact dsch | fail) only [go_sem, ↓reduceIte, Nat.reduceEqDiff, hk2, hc2, h42, h52, k1, k2]
            exact ⟨hlt2, vint (by rw [s1]; omega), by rw [s2]; rfl, _, rfl⟩
          · rw [if_neg k1] at s1
            by_cases k2 : kindI (gd (gd t.th i) j).op = 2
            · rw [if_pos k2] at s2
              simp -implicitDefEqProofs (disch := first | exact dsch | fail) only [go_sem, ↓reduceIte, Nat.reduceEqDiff, hk2, hc2, h42, h52, k1, k2]
              exact ⟨hlt2, by rw [s1]; rfl, vint (by rw [s2]; omega), _, rfl⟩
            · rw [if_neg k2] at s2
              simp -implicitDefEqProofs (disch := first | exact dsch | fail) only [go_sem, ↓reduceIte, Nat.reduceEqDiff, hk2, hc2, h42, h52, k1, k2]
              exact ⟨hlt2, by rw [s1]; rfl, by rw [s2]; rfl, _, rfl⟩
        · obtain rfl : j = (gd t.th i).length := by omega
          rw [List.take_length, ← cntK_app, ← flat_step hlt] at h42 h52
          simp -implicitDefEqProofs (disch := first | exact dsch | fail) only [go_sem, ↓reduceIte, Nat.reduceEqDiff, hk, hc, hk2, hc2]
          exact ⟨hlt, h42, h52, _, rfl⟩
      · simp -implicitDefEqProofs (disch := first | exact dsch | fail) only [go_sem, ↓reduceIte, Nat.reduceEqDiff, h4, h5]
        exact ⟨rfl, rfl, _, rfl⟩
    · obtain rfl : i = t.th.length := by omega
      rw [List.take_length] at h4 h5
      simp -implicitDefEqProofs (disch := first | exact dsch | fail) only [go_sem, ↓reduceIte, Nat.reduceEqDiff, hk, hc, h4, h5]
      rfl
  · simp -implicitDefEqProofs (disch := first | exact dsch | fail) only [go_sem, ↓reduceIte, Nat.reduceEqDiff]
    exact ⟨rfl, rfl, _, rfl⟩
@[go_sem] theorem pu_Count {t : Te} (hl : t.th.length ≤ 1000) (hl2 : ∀ x ∈ t.th, x.length ≤ 1000) {K : Kp} : @Pu _ Tryz.prog 88 [enc t] K = K.k (.tup [.t (.int .i64 (cntT 1 t)), .t (.int .i64 (cntT 2 t))]) := (test_Count t hl hl2).pu

def thE (locs : Int) (th : List In) : Int :=
  if (th.length : Int) < 1 ∨ 8 < (th.length : Int) then 1 else if (List.range th.length).any (fun k => !mayI (gd th k) (th.length - 1 - k) locs) then 2 else 0
def firstE : List Int → Int
  | [] => 0
  | e :: r => if e = 0 then firstE r else e
theorem firstE_at : ∀ {l : List Int} {i : Nat}, (∀ k, k < i → l[k]? = some 0) → ∀ {e}, l[i]? = some e → e ≠ 0 → firstE l = e
  | [], i, _, e, h, _ => by simp at h
  | a :: l, 0, _, e, h, he => by simp at h; subst h; simp [firstE, he]
  | a :: l, i + 1, hz, e, h, he => by
    have h0 := hz 0 (by omega)
    simp at h0
    subst h0
    show firstE l = e
    exact firstE_at (i := i) (fun k hk => by have := hz (k + 1) (by omega); simpa using this) (by simpa using h) he
theorem firstE_all : ∀ {l : List Int}, (∀ x ∈ l, x = 0) → firstE l = 0
  | [], _ => rfl
  | a :: l, h => by
    have := h a (by simp)
    subst this
    exact firstE_all (l := l) fun x hx => h x (by simp [hx])
def checkE (t : Te) : Int :=
  if sizedT t = false then 1 else if firstE (t.th.map (thE t.init.length)) ≠ 0 then firstE (t.th.map (thE t.init.length)) else if 4 < (cntT 1 t : Int) ∨ 6 < (cntT 1 t : Int) + cntT 2 t then 3 else 0
theorem thE_0 {locs : Int} {th : List In} (h : thE locs th = 0) : 1 ≤ th.length ∧ th.length ≤ 8 ∧ ∀ k, k < th.length → mayI (gd th k) (th.length - 1 - k) locs = true := by
  unfold thE at h
  split at h
  · omega
  · split at h
    · omega
    · rename_i h1 h2
      refine ⟨by omega, by omega, fun k hk => ?_⟩
      cases hm : mayI (gd th k) (th.length - 1 - k) locs
      · exact absurd (List.any_eq_true.2 ⟨k, List.mem_range.2 hk, by simp [hm]⟩) h2
      · rfl
theorem thE_1 {locs : Int} {th : List In} (h : (th.length : Int) < 1 ∨ 8 < (th.length : Int)) : thE locs th = 1 := if_pos h
theorem thE_2 {locs : Int} {th : List In} (h : ¬ ((th.length : Int) < 1 ∨ 8 < (th.length : Int))) {k : Nat} (hk : k < th.length) (hm : mayI (gd th k) (th.length - 1 - k) locs = false) : thE locs th = 2 := by
  unfold thE
  rw [if_neg h, if_pos (List.any_eq_true.2 ⟨k, List.mem_range.2 hk, by simp [hm]⟩)]
theorem thE_ok {locs : Int} {th : List In} (h : ¬ ((th.length : Int) < 1 ∨ 8 < (th.length : Int))) (hm : ∀ k, k < th.length → mayI (gd th k) (th.length - 1 - k) locs = true) : thE locs th = 0 := by
  unfold thE
  rw [if_neg h, if_neg]
  intro hh
  obtain ⟨k, hk, h2⟩ := List.any_eq_true.1 hh
  rw [hm k (List.mem_range.1 hk)] at h2
  simp at h2
theorem check_bad {t : Te} (hs : sizedT t = true) {i : Nat} (hi : i < t.th.length) (hz : ∀ k, k < i → thE t.init.length (gd t.th k) = 0) {e : Int} (he : thE t.init.length (gd t.th i) = e) (h0 : e ≠ 0) : checkE t = e := by
  have : firstE (t.th.map (thE t.init.length)) = e := by
    refine firstE_at (i := i) (fun k hk => ?_) ?_ h0
    · rw [List.getElem?_map, gd_opt (by omega)]; simp [hz k hk]
    · rw [List.getElem?_map, gd_opt hi]; simp [he]
  unfold checkE
  rw [if_neg (by rw [hs]; decide), this, if_pos h0]
theorem check_all {t : Te} (hs : sizedT t = true) (hz : ∀ k, k < t.th.length → thE t.init.length (gd t.th k) = 0) : checkE t = if 4 < (cntT 1 t : Int) ∨ 6 < (cntT 1 t : Int) + cntT 2 t then 3 else 0 := by
  have : firstE (t.th.map (thE t.init.length)) = 0 := by
    refine firstE_all fun x hx => ?_
    obtain ⟨th, hth, rfl⟩ := List.mem_map.1 hx
    obtain ⟨k, hk, rfl⟩ := List.mem_iff_getElem.1 hth
    rw [gd_get hk]; exact hz k hk
  unfold checkE
  rw [if_neg (by rw [hs]; decide), this, if_neg (by decide)]
theorem sized_len {t : Te} (hs : sizedT t = true) : 1 ≤ t.init.length ∧ t.init.length ≤ 3 ∧ 1 ≤ t.th.length ∧ t.th.length ≤ 3 := by
  unfold sizedT at hs
  simp only [Bool.and_eq_true, decide_eq_true_eq] at hs
  omega
theorem test_Check (t : Te) (hl : t.init.length ≤ 1000000) (hl2 : t.th.length ≤ 1000000) (hl3 : ∀ x ∈ t.th, x.length ≤ 1000000) : ∃ u, Fun Tryz.prog 87 [enc t] u ∧ ∃ a b : Int, u = .tup [.t (.int .i64 a), .t (.int .i64 b), .t (.int .i64 (checkE t))] := by
  refine Fun.goX (b := false) Tryz.func87 rfl rfl (by kernel_rfl) (by kernel_rfl) ?_
  cases hs : sizedT t with
  | false =>
    simp -implicitDefEqProofs (disch := first | exact dsch | fail) only [go_sem, ↓reduceIte, Nat.reduceEqDiff, hs]
    exact ⟨_, _, by unfold checkE; rw [if_pos hs]⟩
  | true =>
    obtain ⟨s1, s2, s3, s4⟩ := sized_len hs
    simp -implicitDefEqProofs (disch := first | exact dsch | fail) only [go_sem, ↓reduceIte, Nat.reduceEqDiff, hs]
    refine loop_k (n := t.th.length) [1, 15, 16] (by kernel_rfl) (fun i e H => e 17 = .t (.int .i64 i) ∧ (∀ k, k < i → thE t.init.length (gd t.th k) = 0) ∧ ∃ R, H = ⟨[.t (enc t)], 2, false⟩ :: R) ?_ ?_
    · rintro i e H hi hk ⟨hc, hz, R, rfl⟩
      simp only [keepP, go_sem, ↓reduceIte, Nat.reduceEqDiff, and_true] at hk
      by_cases hlt : i < t.th.length
      · have hb := hl3 _ (gd_mem hlt)
        by_cases c1 : ((gd t.th i).length : Int) < 1
        · simp -implicitDefEqProofs (disch := first | exact dsch | fail) only [go_sem, ↓reduceIte, Nat.reduceEqDiff, hk, hc, c1]
          exact ⟨_, _, by rw [check_bad hs hlt hz (thE_1 (.inl c1)) (by decide)]⟩
        by_cases c2 : 8 < ((gd t.th i).length : Int)
        · simp -implicitDefEqProofs (disch := first | exact dsch | fail) only [go_sem, ↓reduceIte, Nat.reduceEqDiff, hk, hc, c1, c2]
          exact ⟨_, _, by rw [check_bad hs hlt hz (thE_1 (.inr c2)) (by decide)]⟩
        have c3 : ¬ (((gd t.th i).length : Int) < 1 ∨ 8 < ((gd t.th i).length : Int)) := by omega
        simp -implicitDefEqProofs (disch := first | exact dsch | fail) only [go_sem, ↓reduceIte, Nat.reduceEqDiff, hk, hc, c1, c2]
        refine loop_k (n := (gd t.th i).length) [1, 5, 6, 17, 31, 32] (by kernel_rfl) (fun j e H => e 33 = .t (.int .i64 j) ∧ (∀ k, k < j → mayI (gd (gd t.th i) k) ((gd t.th i).length - 1 - k) t.init.length = true) ∧ ∃ R, H = ⟨[.t (enc t)], 2, false⟩ :: R) ?_ ?_
        · rintro j e2 H2 hj hk2 ⟨hc2, hm, R2, rfl⟩
          simp only [keepP, go_sem, ↓reduceIte, Nat.reduceEqDiff, and_true] at hk2
          by_cases hlt2 : j < (gd t.th i).length
          · cases hv : mayI (gd (gd t.th i) j) ((gd t.th i).length - 1 - j) t.init.length
            · simp -implicitDefEqProofs (disch := first | exact dsch | fail) only [go_sem, ↓reduceIte, Nat.reduceEqDiff, hk, hc, hk2, hc2, hv]
              exact ⟨_, _, by rw [check_bad hs hlt hz (thE_2 c3 hlt2 hv) (by decide)]⟩
            · simp -implicitDefEqProofs (disch := first | exact dsch | fail) only [go_sem, ↓reduceIte, Nat.reduceEqDiff, hk, hc, hk2, hc2, hv]
              refine ⟨hlt2, fun k hk3 => ?_, _, rfl⟩
              by_cases e : k = j
              · subst e; exact hv
              · exact hm k (by omega)
          · obtain rfl : j = (gd t.th i).length := by omega
            have := thE_ok c3 hm
            simp -implicitDefEqProofs (disch := first | exact dsch | fail) only [go_sem, ↓reduceIte, Nat.reduceEqDiff, hk, hc, hk2, hc2]
            refine ⟨hlt, fun k hk3 => ?_, _, rfl⟩
            by_cases e : k = i
            · subst e; exact this
            · exact hz k (by omega)
        · simp -implicitDefEqProofs (disch := first | exact dsch | fail) only [go_sem, ↓reduceIte, Nat.reduceEqDiff]
          exact ⟨fun k hk => absurd hk (by omega), _, rfl⟩
      · obtain rfl : i = t.th.length := by omega
        have hz' := check_all hs hz
        have hb : ∀ x ∈ t.th, x.length ≤ 1000 := fun x hx => by
          obtain ⟨k, hk, rfl⟩ := List.mem_iff_getElem.1 hx
          rw [gd_get hk]; have := (thE_0 (hz k hk)).2.1; omega
        by_cases c1 : 4 < (cntT 1 t : Int)
        · rw [if_pos (.inl c1)] at hz'
          simp -implicitDefEqProofs (disch := first | exact dsch | (simp only [go_sem, hk, hc, c1, hz', pu_Count (by omega) hb]; omega) | (refine of_eq_true ?_; simp (disch := first | omega | (refine of_eq_true ?_; simp only [go_sem, hk, hc, c1, hz', pu_Count (by omega) hb]; done) | (simp only [go_sem, hk, hc, c1, hz', pu_Count (by omega) hb]; omega)) only [go_sem, hk, hc, c1, hz', pu_Count (by omega) hb]; done) | fail) only [go_sem, ↓reduceIte, Nat.reduceEqDiff, hk, hc, c1, hz', pu_Count (by omega) hb]
          exact ⟨_, _, rfl⟩
        have a1 : cntT 1 t ≤ 4 := by omega
        have a2 : cntT 2 t ≤ 24 := by
          have := cntK_le 2 t.th.flatten
          have h2 := flat_le (l := t.th) (i := t.th.length) (m := 8) (fun x hx => by
            obtain ⟨k, hk, rfl⟩ := List.mem_iff_getElem.1 hx
            rw [gd_get hk]; exact (thE_0 (hz k hk)).2.1)
          rw [List.take_length] at h2
          unfold cntT; omega
        by_cases c2 : 6 < (cntT 1 t : Int) + cntT 2 t
        · rw [if_pos (.inr c2)] at hz'
          simp -implicitDefEqProofs (disch := first | exact dsch | (simp only [go_sem, hk, hc, c1, c2, hz', pu_Count (by omega) hb]; omega) | (refine of_eq_true ?_; simp (disch := first | omega | (refine of_eq_true ?_; simp only [go_sem, hk, hc, c1, c2, hz', pu_Count (by omega) hb]; done) | (simp only [go_sem, hk, hc, c1, c2, hz', pu_Count (by omega) hb]; omega)) only [go_sem, hk, hc, c1, c2, hz', pu_Count (by omega) hb]; done) | fail) only [go_sem, ↓reduceIte, Nat.reduceEqDiff, hk, hc, c1, c2, hz', pu_Count (by omega) hb]
          exact ⟨_, _, rfl⟩
        · rw [if_neg (by omega)] at hz'
          simp -implicitDefEqProofs (disch := first | exact dsch | (simp only [go_sem, hk, hc, c1, c2, hz', pu_Count (by omega) hb]; omega) | (refine of_eq_true ?_; simp (disch := first | omega | (refine of_eq_true ?_; simp only [go_sem, hk, hc, c1, c2, hz', pu_Count (by omega) hb]; done) | (simp only [go_sem, hk, hc, c1, c2, hz', pu_Count (by omega) hb]; omega)) only [go_sem, hk, hc, c1, c2, hz', pu_Count (by omega) hb]; done) | fail) only [go_sem, ↓reduceIte, Nat.reduceEqDiff, hk, hc, c1, c2, hz', pu_Count (by omega) hb]
          exact ⟨_, _, rfl⟩
    · simp -implicitDefEqProofs (disch := first | exact dsch | fail) only [go_sem, ↓reduceIte, Nat.reduceEqDiff]
      exact ⟨fun k hk => absurd hk (by omega), _, rfl⟩
end Go.Sim
