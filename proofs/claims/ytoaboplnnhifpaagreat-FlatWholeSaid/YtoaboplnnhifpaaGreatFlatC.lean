/- Part: FlatC, FlatM -/
import Derived.Test.YtoaboplnnhifpaaGreatFlatD
set_option linter.all false
set_option maxRecDepth 100000
namespace Go.Sim
open Enc (enc)
open Go.Proofs
theorem flat_has {s : Fs} {i : Nat} (hi : i <= 1000) : Fun Tryz.prog 66 [enc s, .int .i64 i] (.t (.bool (s.d.getLsbD i))) := by
  refine Fun.go (b := false) Tryz.func66 rfl rfl (by kernel_rfl) (by kernel_rfl) ?_
  simp -implicitDefEqProofs (disch := first | exact dsch | fail) only [go_sem, ↓reduceIte, Nat.reduceEqDiff]
@[go_sem] theorem pu_fhas {s : Fs} {i : Nat} (hi : i <= 1000) {K : Kp} : @Pu _ Tryz.prog 66 [enc s, .int .i64 i] K = K.k (.t (.bool (s.d.getLsbD i))) := (flat_has hi).pu
theorem flat_last {s : Fs} {loc : Nat} (hl : loc < s.l.length) (h2 : ∀ l ∈ s.l, l.length <= 1000) : Fun Tryz.prog 131 [enc s, .int .i64 loc] (.t (.int .i64 (lastS s loc))) := by
  have hg := h2 _ (gd_mem hl)
  have e : lastS s (loc : Int) = lastL (gd s.l loc) := by unfold lastS; rw [Int.toNat_natCast]
  rw [e]
  unfold lastL
  refine Fun.go (b := false) Tryz.func131 rfl rfl (by kernel_rfl) (by kernel_rfl) ?_
  by_cases h : (gd s.l loc).length = 0
  . simp -implicitDefEqProofs (disch := first | exact dsch | fail) only [go_sem, ↓reduceIte, Nat.reduceEqDiff, h]
  . have h3 : ((gd s.l loc).length : Int) - 1 = (((gd s.l loc).length - 1 : Nat) : Int) := by omega
    simp -implicitDefEqProofs (disch := first | exact dsch | (simp only [go_sem, h, h3]; omega) | (refine of_eq_true ?_; simp (disch := first | omega | (refine of_eq_true ?_; simp only [go_sem, h, h3]; done) | (simp only [go_sem, h, h3]; omega)) only [go_sem, h, h3]; done) | fail) only [go_sem, ↓reduceIte, Nat.reduceEqDiff, h, h3]
@[go_sem] theorem pu_flast {s : Fs} {loc : Nat} (hl : loc < s.l.length) (h2 : ∀ l ∈ s.l, l.length <= 1000) {K : Kp} : @Pu _ Tryz.prog 131 [enc s, .int .i64 loc] K = K.k (.t (.int .i64 (lastS s loc))) := (flat_last hl h2).pu
theorem flat_value {x : Ex} {init : List Int} {s : Fs} {loc : Nat} (hl : loc < s.l.length) (hi : loc < init.length) (h2 : ∀ l ∈ s.l, l.length <= 1000) (h3 : lastS s loc ≠ -1 -> ∃ w : Nat, lastS s loc = (w : Int) /\ w < x.ev.length) :
    Fun Tryz.prog 125 [enc x, enc init, enc s, .int .i64 loc] (.t (.int .i64 (valueS x init s loc))) := by
  unfold valueS
  rw [Int.toNat_natCast]
  refine Fun.go (b := false) Tryz.func125 rfl rfl (by kernel_rfl) (by kernel_rfl) ?_
  by_cases h : lastS s loc = -1
  . simp -implicitDefEqProofs (disch := first | exact dsch | fail) only [go_sem, ↓reduceIte, Nat.reduceEqDiff, h]
  . obtain ⟨w, h4, h5⟩ := h3 h
    have h6 : ¬ (w : Int) = -1 := by omega
    rw [if_neg h, h4, Int.toNat_natCast]
    simp -implicitDefEqProofs (disch := first | exact dsch | (simp only [go_sem, h4, h6]; omega) | (refine of_eq_true ?_; simp (disch := first | omega | (refine of_eq_true ?_; simp only [go_sem, h4, h6]; done) | (simp only [go_sem, h4, h6]; omega)) only [go_sem, h4, h6]; done) | fail) only [go_sem, ↓reduceIte, Nat.reduceEqDiff, h4, h6]
end Go.Sim
set_option maxRecDepth 100000
namespace Go.Sim
open Enc (enc)
open Go.Proofs
structure BdS (x : Ex) (init : List Int) (s : Fs) : Prop where
  n : x.ev.length <= 24
  k : init.length <= 100
  l : s.l.length = init.length
  f : s.f.length = x.ev.length
  r : ∀ l ∈ s.l, l.length <= 100
theorem all_gd {α : Type} [Enc α] {l : List α} {p : α -> Bool} : l.all p = (List.range l.length).all fun i => p (gd l i) := by
  rw [Bool.eq_iff_iff, List.all_eq_true, List.all_eq_true]
  constructor
  . intro h i hi; exact h _ (gd_mem (List.mem_range.1 hi))
  . intro h a ha
    obtain ⟨i, hi, rfl⟩ := List.mem_iff_getElem.1 ha
    rw [gd_get hi]; exact h i (List.mem_range.2 hi)
theorem allf {n : Nat} {p : Nat -> Bool} (h : ∀ i, i < n -> p i = true) : (List.range n).all p = true := List.all_eq_true.2 fun i hi => h i (List.mem_range.1 hi)
theorem alln {n : Nat} {p : Nat -> Bool} {i : Nat} (hi : i < n) (h : p i = false) : (List.range n).all p = false := by
  cases hh : (List.range n).all p
  . rfl
  . rw [List.all_eq_true.1 hh i (List.mem_range.2 hi)] at h; cases h
theorem flat_fits {x : Ex} {init : List Int} {s : Fs} (B : BdS x init s) : Fun Tryz.prog 58 [enc x, enc init, enc s] (.t (.bool (fitsB x init s))) := by
  have hn := B.n
  have hk := B.k
  have hl := B.l
  have hf := B.f
  have hr := B.r
  have hls : s.l.length <= 100 := by omega
  have hB : fitsB x init s = (List.range s.l.length).all fun loc => (gd s.l loc).all (fitW x loc) := by
    unfold fitsB
    simp [hf, hl]
  rw [hB]
  refine Fun.go (b := false) Tryz.func58 rfl rfl (by kernel_rfl) (by kernel_rfl) ?_
  simp -implicitDefEqProofs (disch := first | exact dsch | fail) only [go_sem, ↓reduceIte, Nat.reduceEqDiff, hf, hl]
  refine loop_k (n := init.length) [3, 27, 28] (by kernel_rfl) (fun i e H => e 29 = .t (.int .i64 i) /\ H = ⟨[.t (enc x)], 7, false⟩ :: ⟨[.t (enc s)], 3, false⟩ :: [] /\ ∀ j, j < i -> (gd s.l j).all (fitW x j) = true) ?_ ?_
  . rintro i e H hi hk0 ⟨hct, rfl, hd⟩
    simp only [keepP, go_sem, ↓reduceIte, Nat.reduceEqDiff, and_true] at hk0
    by_cases hlt : i < init.length
    . have hlt' : i < s.l.length := by omega
      have hrow := hr _ (gd_mem hlt')
      simp -implicitDefEqProofs (disch := first | exact dsch | fail) only [go_sem, ↓reduceIte, Nat.reduceEqDiff, hk0, hct, hl]
      refine loop_k (n := (gd s.l i).length) [3, 7, 29, 34, 35] (by kernel_rfl) (fun j e H => e 36 = .t (.int .i64 j) /\ H = ⟨[.t (enc x)], 7, false⟩ :: ⟨[.t (enc s)], 3, false⟩ :: [] /\ ∀ q, q < j -> fitW x i (gd (gd s.l i) q) = true) ?_ ?_
      . rintro q e H hq hk1 ⟨hct1, rfl, hd1⟩
        simp only [keepP, go_sem, ↓reduceIte, Nat.reduceEqDiff, and_true] at hk1
        by_cases hlt1 : q < (gd s.l i).length
        . generalize hv : gd (gd s.l i) q = v at *
          have hbad : fitW x i v = false -> ((List.range init.length).all fun loc => (gd s.l loc).all (fitW x loc)) = false := fun h => by
            refine alln hlt ?_
            rw [all_gd]
            exact alln hlt1 (hv.symm ▸ h)
          by_cases c1 : v < 0
          . have hb := hbad (by unfold fitW; rw [decide_eq_false (by omega : ¬ 0 <= v)]; rfl)
            simp -implicitDefEqProofs (disch := first | exact dsch | fail) only [go_sem, ↓reduceIte, Nat.reduceEqDiff, hk0, hk1, hct, hct1, hl, hv, c1, hb]
          obtain ⟨w, rfl⟩ := Int.eq_ofNat_of_zero_le (Int.not_lt.1 c1)
          by_cases c2 : w < x.ev.length
          . by_cases c3 : (gd x.ev w).kind = 2
            . by_cases c4 : (gd x.ev w).loc = (i : Int)
              . simp -implicitDefEqProofs (disch := first | exact dsch | fail) only [go_sem, ↓reduceIte, Nat.reduceEqDiff, hk0, hk1, hct, hct1, hl, hv, c2, c3, c4]
                refine ⟨hlt1, fun j hj => ?_⟩
                by_cases e : j = q
                . subst e; rw [hv]; unfold fitW; simp [c2, c3, c4]
                . exact hd1 j (by omega)
              . have hb := hbad (by unfold fitW; simp [c4])
                simp -implicitDefEqProofs (disch := first | exact dsch | fail) only [go_sem, ↓reduceIte, Nat.reduceEqDiff, hk0, hk1, hct, hct1, hl, hv, c2, c3, c4, hb]
            . have hb := hbad (by unfold fitW; simp [c3])
              simp -implicitDefEqProofs (disch := first | exact dsch | fail) only [go_sem, ↓reduceIte, Nat.reduceEqDiff, hk0, hk1, hct, hct1, hl, hv, c2, c3, hb]
          . have hb := hbad (by unfold fitW; simp [c2])
            simp -implicitDefEqProofs (disch := first | exact dsch | fail) only [go_sem, ↓reduceIte, Nat.reduceEqDiff, hk0, hk1, hct, hct1, hl, hv, c2, hb]
        . obtain rfl : q = (gd s.l i).length := by omega
          simp -implicitDefEqProofs (disch := first | exact dsch | fail) only [go_sem, ↓reduceIte, Nat.reduceEqDiff, hk0, hk1, hct, hct1, hl]
          refine ⟨hlt, fun j hj => ?_⟩
          by_cases e : j = i
          . subst e; rw [all_gd]; exact allf hd1
          . exact hd j (by omega)
      . simp -implicitDefEqProofs (disch := first | exact dsch | fail) only [go_sem, ↓reduceIte, Nat.reduceEqDiff]
        intro q hq; omega
    . obtain rfl : i = init.length := by omega
      have hb := allf hd
      simp -implicitDefEqProofs (disch := first | exact dsch | fail) only [go_sem, ↓reduceIte, Nat.reduceEqDiff, hk0, hct, hl, hb]
  . simp -implicitDefEqProofs (disch := first | exact dsch | fail) only [go_sem, ↓reduceIte, Nat.reduceEqDiff]
    intro q hq; omega
@[go_sem] theorem pu_fits {x : Ex} {init : List Int} {s : Fs} (B : BdS x init s) {K : Kp} : @Pu _ Tryz.prog 58 [enc x, enc init, enc s] K = K.k (.t (.bool (fitsB x init s))) := (flat_fits B).pu
theorem notD (a : U32) : BitVec.ofInt 32 (if IntKind.u32.signed = true then -1 else IntKind.u32.max) ^^^ BitVec.ofInt 32 (a.toNat : Int) = ~~~a := by
  have h1 : BitVec.ofInt 32 (a.toNat : Int) = a := by
    apply BitVec.eq_of_toNat_eq
    rw [BitVec.toNat_ofInt]
    have := a.isLt
    omega
  have h2 : BitVec.ofInt 32 (if IntKind.u32.signed = true then -1 else IntKind.u32.max) = BitVec.allOnes 32 := by decide
  rw [h1, h2, BitVec.allOnes_xor]
@[go_sem] theorem not_u32 (a : U32) : IntKind.u32.wrap ((BitVec.ofInt IntKind.u32.bits (if IntKind.u32.signed = true then -1 else IntKind.u32.max) ^^^ BitVec.ofInt IntKind.u32.bits (a.toNat : Int)).toNat : Int) = ((~~~a).toNat : Int) := by
  have h : (BitVec.ofInt IntKind.u32.bits (if IntKind.u32.signed = true then -1 else IntKind.u32.max) ^^^ BitVec.ofInt IntKind.u32.bits (a.toNat : Int)) = ~~~a := notD a
  rw [h]
  exact wrapB _
theorem flat_ready {x : Ex} {init : List Int} {s : Fs} (hn : x.ev.length <= 32) (hk : init.length <= 100) {i : Nat} (hi : i < x.ev.length) {ah : Rl} (ha : ah.length <= 32) :
    Fun Tryz.prog 60 [enc x, enc init, enc s, .int .i64 i, enc ah] (.t (.bool (readyB x init s i ah))) := by
  unfold readyB
  refine Fun.go (b := false) Tryz.func60 rfl rfl (by kernel_rfl) (by kernel_rfl) ?_
  cases c1 : s.d.getLsbD i
  . by_cases c2 : 0 <= (gd x.ev i).loc
    . by_cases c3 : (gd x.ev i).loc < init.length
      . simp -implicitDefEqProofs (disch := first | exact dsch | fail) only [go_sem, ↓reduceIte, Nat.reduceEqDiff, c1, c2, c3, Bool.not_false, Bool.not_true, Bool.true_and, Bool.false_and]
      . simp -implicitDefEqProofs (disch := first | exact dsch | fail) only [go_sem, ↓reduceIte, Nat.reduceEqDiff, c1, c2, c3, Bool.not_false, Bool.not_true, Bool.true_and, Bool.false_and]
    . simp -implicitDefEqProofs (disch := first | exact dsch | fail) only [go_sem, ↓reduceIte, Nat.reduceEqDiff, c1, c2, Bool.not_false, Bool.not_true, Bool.true_and, Bool.false_and]
  . simp -implicitDefEqProofs (disch := first | exact dsch | fail) only [go_sem, ↓reduceIte, Nat.reduceEqDiff, c1, Bool.not_false, Bool.not_true, Bool.true_and, Bool.false_and]
theorem flat_ready_pu {x : Ex} {init : List Int} {s : Fs} (hn : x.ev.length <= 32) (hk : init.length <= 100) {i : Nat} (hi : i < x.ev.length) {ah : Rl} (ha : ah.length <= 32) {K : Kp} : @Pu _ Tryz.prog 60 [enc x, enc init, enc s, .int .i64 i, enc ah] K = K.k (.t (.bool (readyB x init s i ah))) := (flat_ready hn hk hi ha).pu
attribute [go_sem] flat_ready_pu
theorem fit_last {x : Ex} {init : List Int} {s : Fs} (hf : fitsB x init s = true) {loc : Nat} (hl : loc < init.length) : lastS s loc ≠ -1 -> ∃ w : Nat, lastS s loc = (w : Int) /\ w < x.ev.length := by
  unfold fitsB at hf
  simp only [Bool.and_eq_true, decide_eq_true_eq] at hf
  obtain ⟨_, h2, h3⟩ := hf
  have h4 := List.all_eq_true.1 h3 loc (List.mem_range.2 (by omega))
  intro hne
  unfold lastS lastL at hne ⊢
  rw [Int.toNat_natCast] at hne ⊢
  by_cases e : (gd s.l loc).length = 0
  . simp [e] at hne
  . rw [if_neg e] at hne ⊢
    rw [all_gd] at h4
    have h5 := List.all_eq_true.1 h4 ((gd s.l loc).length - 1) (List.mem_range.2 (by omega))
    generalize gd (gd s.l loc) ((gd s.l loc).length - 1) = v at *
    unfold fitW at h5
    simp only [Bool.and_eq_true, decide_eq_true_eq] at h5
    exact ⟨v.toNat, by omega, by omega⟩
theorem flat_may {x : Ex} {init : List Int} {s : Fs} {n : Nat} (W : WfE n x) (B : BdS x init s) (hf : fitsB x init s = true) {i : Nat} (hi : i < x.ev.length) (h0 : 0 <= (gd x.ev i).loc) (h1 : (gd x.ev i).loc < init.length) (o : Bool) :
    Fun Tryz.prog 61 [enc x, enc init, enc s, enc (⟨i, o⟩ : Mv)] (.t (.bool (mayB x init s i o))) := by
  have hok := W.ok
  have hk := B.k
  have hl := B.l
  have hn := B.n
  have hr : ∀ l ∈ s.l, l.length <= 1000 := fun l h => by have := B.r l h; omega
  obtain ⟨loc, hloc⟩ := Int.eq_ofNat_of_zero_le h0
  have hll : loc < init.length := by omega
  have hlast := fit_last hf hll
  unfold mayB waitsB
  rw [hloc]
  refine Fun.go (b := false) Tryz.func61 rfl rfl (by kernel_rfl) (by kernel_rfl) ?_
  generalize hown : ownZ x (i : Int) = w
  have hw := own_nat W i
  rw [hown] at hw
  have hvp := fun K => (flat_value (init := init) (s := s) (x := x) (loc := loc) (by omega) hll hr hlast).pu (K := K)
  have hoo : ∀ w : Int, w = -1 \/ (∃ v : Nat, w = (v : Int) /\ v < x.ev.length /\ (gd x.ev v).kind = 2) -> ∃ wt : Bool, (decide (0 <= w) && !s.d.getLsbD w.toNat) = wt := fun w _ => ⟨_, rfl⟩
  by_cases c1 : (gd x.ev i).kind = 2
  . rcases hw with rfl | ⟨v, rfl, hv, _⟩
    . cases o <;> simp -implicitDefEqProofs (disch := first | exact dsch | fail) only [go_sem, ↓reduceIte, Nat.reduceEqDiff, c1, hown]
    . cases c2 : s.d.getLsbD v <;> cases o <;> simp -implicitDefEqProofs (disch := first | exact dsch | fail) only [go_sem, ↓reduceIte, Nat.reduceEqDiff, c1, hown, c2]
  . by_cases c3 : (gd x.ev i).kind = 1
    . rcases hw with rfl | ⟨v, rfl, hv, _⟩
      . cases o <;> simp -implicitDefEqProofs (disch := first | exact dsch | fail) only [go_sem, ↓reduceIte, Nat.reduceEqDiff, c1, c3, hown, hvp, hloc]
        all_goals simp
      . cases c2 : s.d.getLsbD v <;> cases o
        . simp -implicitDefEqProofs (disch := first | exact dsch | fail) only [go_sem, ↓reduceIte, Nat.reduceEqDiff, c1, c3, hown, c2, hvp, hloc]
          simp
        . by_cases c4 : (gd x.ev v).val = (gd x.ev i).val
          . by_cases c5 : needsM x v &&& ~~~s.d = 0#32
            . cases c6 : shutB x i v
              . simp -implicitDefEqProofs (disch := first | exact dsch | fail) only [go_sem, ↓reduceIte, Nat.reduceEqDiff, c1, c3, hown, c2, hvp, hloc, c4, c5, c6]
                simp
              . simp -implicitDefEqProofs (disch := first | exact dsch | fail) only [go_sem, ↓reduceIte, Nat.reduceEqDiff, c1, c3, hown, c2, hvp, hloc, c4, c5, c6]
                simp
            . simp -implicitDefEqProofs (disch := first | exact dsch | fail) only [go_sem, ↓reduceIte, Nat.reduceEqDiff, c1, c3, hown, c2, hvp, hloc, c4, c5]
              simp
          . simp -implicitDefEqProofs (disch := first | exact dsch | fail) only [go_sem, ↓reduceIte, Nat.reduceEqDiff, c1, c3, hown, c2, hvp, hloc, c4]
            simp
        . simp -implicitDefEqProofs (disch := first | exact dsch | fail) only [go_sem, ↓reduceIte, Nat.reduceEqDiff, c1, c3, hown, c2, hvp, hloc]
          simp
        . simp -implicitDefEqProofs (disch := first | exact dsch | fail) only [go_sem, ↓reduceIte, Nat.reduceEqDiff, c1, c3, hown, c2, hvp, hloc]
          simp
    . rcases hw with rfl | ⟨v, rfl, hv, _⟩
      . cases o <;> simp -implicitDefEqProofs (disch := first | exact dsch | fail) only [go_sem, ↓reduceIte, Nat.reduceEqDiff, c1, c3, hown]
        all_goals rw [if_pos c3]
      . cases c2 : s.d.getLsbD v <;> cases o <;> simp -implicitDefEqProofs (disch := first | exact dsch | fail) only [go_sem, ↓reduceIte, Nat.reduceEqDiff, c1, c3, hown, c2]
        all_goals rw [if_pos c3]
end Go.Sim
