/- A part of the proof of a law of module cupola: Exec. It has no conditions of its own. -/
import Derived.Test.YtoaboplnnhifpaaGreatRel
import Derived.Test.YtoaboplnnhifpaaGreatEv
set_option linter.all false
namespace Go.Sim
open Enc (enc)
open Go.Proofs

def maskTo (l : List Ev) (g : Ev → Bool) : Nat → U32
  | 0 => 0#32
  | i + 1 => if g (gd l i) then maskTo l g i ||| 1#32 <<< i else maskTo l g i
def maskB (l : List Ev) (g : Ev → Bool) : U32 := maskTo l g l.length
theorem maskTo_get {l : List Ev} {g : Ev → Bool} {k : Nat} (hk : k < 32) : ∀ i, (maskTo l g i).getLsbD k = (decide (k < i) && g (gd l k))
  | 0 => by simp [maskTo]
  | i + 1 => by
    have ih := maskTo_get (l := l) (g := g) hk i
    have hb : (1#32 <<< i).getLsbD k = decide (k = i) := by
      rw [BitVec.getLsbD_shiftLeft]
      by_cases h : k = i
      · subst h; simp [hk]
      · simp only [h, decide_false, hk, decide_true, Bool.true_and]
        by_cases h2 : k < i
        · simp [h2]
        · have : k - i ≠ 0 := by omega
          simp [h2, this]
    unfold maskTo
    by_cases hg : g (gd l i) = true
    · rw [if_pos hg, BitVec.getLsbD_or, ih, hb]
      by_cases h : k = i
      · subst h; simp [hg]
      · have e1 : decide (k < i + 1) = decide (k < i) := by rw [decide_eq_decide]; omega
        simp [h, e1]
    · rw [if_neg hg, ih]
      by_cases h : k = i
      · subst h; simp at hg; simp [hg]
      · have e1 : decide (k < i + 1) = decide (k < i) := by rw [decide_eq_decide]; omega
        rw [e1]
theorem maskB_get {l : List Ev} {g : Ev → Bool} {k : Nat} (hk : k < 32) : (maskB l g).getLsbD k = (decide (k < l.length) && g (gd l k)) := maskTo_get hk _

def Pred1 (f : FuncId) (g : Ev → Bool) : Prop := ∀ x : Ev, Fun Tryz.prog f [enc x] (.t (.bool (g x)))
def Pred2 (f : FuncId) (g : Ev → Ev → Bool) : Prop := ∀ x y : Ev, Fun Tryz.prog f [enc x, enc y] (.t (.bool (g x y)))

theorem exec_Mask {f : FuncId} {g : Ev → Bool} (hf : Pred1 f g) {x : Ex} (hx : x.ev.length ≤ 32) : Fun Tryz.prog 63 [enc x, .fn f] (.t (.int .u32 ((maskB x.ev g).toNat : Int))) := by
  refine Fun.go (b := false) Tryz.func63 rfl rfl (by kernel_rfl) (by kernel_rfl) ?_
  simp -implicitDefEqProofs (disch := first | exact dsch | fail) only [go_sem, ↓reduceIte, Nat.reduceEqDiff]
  refine loop_up (n := x.ev.length) (fun i e H => e 1 = .t (.fn f) ∧ e 5 = .t (.int .u32 ((maskTo x.ev g i).toNat : Int)) ∧ e 9 = .t (enc x.ev) ∧ e 10 = .t (.int .i64 x.ev.length) ∧ e 11 = .t (.int .i64 i) ∧ ∃ R, H = ⟨[.t (enc x)], 7, false⟩ :: R) ?_ _ _ ?_
  · rintro i e H hi ⟨h1, h5, h9, h10, h11, R, rfl⟩
    by_cases hlt : i < x.ev.length
    · have hpu := fun (K : Kp) => Fun.pu (hf (gd x.ev i)) (K := K)
      cases hg : g (gd x.ev i)
      · simp -implicitDefEqProofs (disch := first | exact dsch | fail) only [go_sem, ↓reduceIte, Nat.reduceEqDiff, h1, h5, h9, h10, h11, hpu, hg, maskTo]
        exact ⟨hlt, _, rfl⟩
      · simp -implicitDefEqProofs (disch := first | exact dsch | fail) only [go_sem, ↓reduceIte, Nat.reduceEqDiff, h1, h5, h9, h10, h11, hpu, hg, maskTo]
        exact ⟨hlt, _, rfl⟩
    · obtain rfl : i = x.ev.length := by omega
      simp -implicitDefEqProofs (disch := first | exact dsch | fail) only [go_sem, ↓reduceIte, Nat.reduceEqDiff, h1, h5, h9, h10, h11]
      rfl
  · simp -implicitDefEqProofs (disch := first | exact dsch | fail) only [go_sem, ↓reduceIte, Nat.reduceEqDiff, maskTo]
    exact ⟨_, rfl⟩

def PredH (f : FuncId) (o : Obj) (g : Ev → Bool) : Prop := ∀ (H : Heap) (x : Ev), H[1]? = some o → ∃ R, Comes Tryz.prog f [.t (enc x), .ptr 1 1 0 0] H (.t (.bool (g x))) (H ++ R) true

theorem mask_heap {f : FuncId} {o : Obj} {g : Ev → Bool} (hf : PredH f o g) {x : Ex} (hx : x.ev.length ≤ 32) (o0 : Obj) :
    ∃ H', Comes Tryz.prog 63 [.t (enc x), .fn f [] [.ptr 1 1 0 0]] [o0, o] (.t (.int .u32 ((maskB x.ev g).toNat : Int))) H' true := by
  suffices h : ∃ H', FunH Tryz.prog 63 [.t (enc x), .fn f [] [.ptr 1 1 0 0]] [o0, o] (.t (.int .u32 ((maskB x.ev g).toNat : Int))) H' from
    let ⟨H', h⟩ := h; ⟨H', Comes.heap (by simp only [go_sem]) h⟩
  refine FunH.go' Tryz.func63 rfl rfl (by kernel_rfl) ?_
  simp -implicitDefEqProofs (disch := first | exact dsch | fail) only [go_sem, ↓reduceIte, Nat.reduceEqDiff]
  refine loop_up (n := x.ev.length) (fun i e H => e 1 = .fn f [] [.ptr 1 1 0 0] ∧ e 5 = .t (.int .u32 ((maskTo x.ev g i).toNat : Int)) ∧ e 9 = .t (enc x.ev) ∧ e 10 = .t (.int .i64 x.ev.length) ∧ e 11 = .t (.int .i64 i) ∧ ∃ R, H = o0 :: o :: ⟨[.t (enc x)], 7, false⟩ :: R) ?_ _ _ ?_
  · rintro i e H hi ⟨h1, h5, h9, h10, h11, R, rfl⟩
    by_cases hlt : i < x.ev.length
    · simp -implicitDefEqProofs (disch := first | exact dsch | fail) only [go_sem, ↓reduceIte, Nat.reduceEqDiff, h1, h5, h9, h10, h11, maskTo]
      obtain ⟨R', hd⟩ := hf (o0 :: o :: ⟨[.t (enc x)], 7, false⟩ :: (R ++ [⟨[.t (enc (gd x.ev i))], 7, false⟩])) (gd x.ev i) rfl
      refine hd.go ?_
      cases hg : g (gd x.ev i)
      · simp -implicitDefEqProofs (disch := first | exact dsch | fail) only [go_sem, ↓reduceIte, Nat.reduceEqDiff, h1, h5, h9, h10, h11, hg, maskTo]
        exact ⟨hlt, _, rfl⟩
      · simp -implicitDefEqProofs (disch := first | exact dsch | fail) only [go_sem, ↓reduceIte, Nat.reduceEqDiff, h1, h5, h9, h10, h11, hg, maskTo]
        exact ⟨hlt, _, rfl⟩
    · obtain rfl : i = x.ev.length := by omega
      simp -implicitDefEqProofs (disch := first | exact dsch | fail) only [go_sem, ↓reduceIte, Nat.reduceEqDiff, h1, h5, h9, h10, h11]
      rfl
  · simp -implicitDefEqProofs (disch := first | exact dsch | fail) only [go_sem, ↓reduceIte, Nat.reduceEqDiff, maskTo]
    exact ⟨_, rfl⟩

theorem slices_Index {l : List Int} {v : Int} (hl : l.length ≤ 1000) : Fun Tryz.prog 132 [enc l, .int .i64 v] (.t (.int .i64 (if v ∈ l then (l.idxOf v : Int) else -1))) := by
  refine Fun.go (b := false) Tryz.func132 rfl rfl (by kernel_rfl) (by kernel_rfl) ?_
  simp -implicitDefEqProofs (disch := first | exact dsch | fail) only [go_sem, ↓reduceIte, Nat.reduceEqDiff]
  refine loop_up (n := l.length) (fun i e H => e 0 = .t (enc l) ∧ e 1 = .t (.int .i64 v) ∧ e 7 = .t (.int .i64 l.length) ∧ e 8 = .t (.int .i64 i) ∧ H = [] ∧ ∀ k, k < i → gd l k ≠ v) ?_ _ _ ?_
  · rintro i e H hi ⟨h0, h1, h7, h8, rfl, hn⟩
    by_cases hlt : i < l.length
    · by_cases hv : v = gd l i
      · simp -implicitDefEqProofs (disch := first | exact dsch | fail) only [go_sem, ↓reduceIte, Nat.reduceEqDiff, h0, h1, h7, h8, hv]
        have hm : gd l i ∈ l := gd_mem hlt
        have e1 : l.idxOf (gd l i) = i := by
          rw [← gd_get hlt]
          have hlt2 : l.idxOf l[i] < l.length := List.idxOf_lt_length_of_mem (List.getElem_mem hlt)
          rcases Nat.lt_trichotomy (l.idxOf l[i]) i with h | h | h
          · exfalso
            refine hn _ h ?_
            rw [← gd_get hlt2, List.getElem_idxOf hlt2, gd_get hlt, hv]
          · exact h
          · exfalso
            have := List.not_of_lt_findIdx (p := (· == l[i])) (xs := l) (i := i) (by simpa [List.idxOf] using h)
            simp at this
        rw [if_pos hm, e1]
      · simp -implicitDefEqProofs (disch := first | exact dsch | fail) only [go_sem, ↓reduceIte, Nat.reduceEqDiff, h0, h1, h7, h8, hv]
        refine ⟨hlt, fun k hk => ?_⟩
        by_cases e : k = i
        · subst e; exact fun e => hv e.symm
        · exact hn k (by omega)
    · obtain rfl : i = l.length := by omega
      have hnm : ¬ v ∈ l := by
        intro hm
        obtain ⟨k, hk, rfl⟩ := List.mem_iff_getElem.1 hm
        exact hn k hk (by rw [gd_get hk])
      simp -implicitDefEqProofs (disch := first | exact dsch | fail) only [go_sem, ↓reduceIte, Nat.reduceEqDiff, h0, h1, h7, h8, hnm]
  · simp -implicitDefEqProofs (disch := first | exact dsch | fail) only [go_sem, ↓reduceIte, Nat.reduceEqDiff]
    intro k hk; omega
@[go_sem] theorem pu_Index {l : List Int} {v : Int} (hl : l.length ≤ 1000) {K : Kp} : @Pu _ Tryz.prog 132 [enc l, .int .i64 v] K = K.k (.t (.int .i64 (if v ∈ l then (l.idxOf v : Int) else -1))) := (slices_Index hl).pu
theorem slices_Contains {l : List Int} {v : Int} (hl : l.length ≤ 1000) : Fun Tryz.prog 65 [enc l, .int .i64 v] (.t (.bool (decide (v ∈ l)))) := by
  refine Fun.go (b := false) Tryz.func65 rfl rfl (by kernel_rfl) (by kernel_rfl) ?_
  by_cases h : v ∈ l
  · simp -implicitDefEqProofs (disch := first | exact dsch | fail) only [go_sem, ↓reduceIte, Nat.reduceEqDiff, h, Int.natCast_nonneg]
  · simp -implicitDefEqProofs (disch := first | exact dsch | fail) only [go_sem, ↓reduceIte, Nat.reduceEqDiff, h, show ¬ (0 : Int) ≤ -1 by decide]
@[go_sem] theorem pu_Contains {l : List Int} {v : Int} (hl : l.length ≤ 1000) {K : Kp} : @Pu _ Tryz.prog 65 [enc l, .int .i64 v] K = K.k (.t (.bool (decide (v ∈ l)))) := (slices_Contains hl).pu

theorem kinds1 (l : List Int) (hl : l.length ≤ 1000) : PredH 64 ⟨[.t (enc l)], 1, false⟩ (fun x => decide (x.kind ∈ l)) := by
  intro H x h1
  refine ⟨[⟨[.t (enc x)], 7, false⟩], Comes.heap (by simp only [go_sem]) ?_⟩
  have hlt : 1 < H.length := by
    rcases Nat.lt_or_ge 1 H.length with h | h
    · exact h
    · rw [List.getElem?_eq_none h] at h1; cases h1
  have h2 : ∀ X : Heap, (H ++ X)[1]? = some ⟨[.t (enc l)], 1, false⟩ := fun X => by rw [List.getElem?_append_left hlt]; exact h1
  refine FunH.go Tryz.func64 rfl rfl (by kernel_rfl) ?_
  simp -implicitDefEqProofs (disch := first | exact dsch | fail) only [go_sem, ↓reduceIte, Nat.reduceEqDiff, h1, h2]

theorem exec_Kinds {x : Ex} (hx : x.ev.length ≤ 32) {l : List Int} (hl : l.length ≤ 1000) : Fun Tryz.prog 24 [enc x, enc l] (.t (.int .u32 ((maskB x.ev fun y => decide (y.kind ∈ l)).toNat : Int))) := by
  refine Fun.go (b := false) Tryz.func24 rfl rfl (by kernel_rfl) (by kernel_rfl) ?_
  simp -implicitDefEqProofs (disch := first | exact dsch | fail) only [go_sem, ↓reduceIte, Nat.reduceEqDiff]
  obtain ⟨H', h⟩ := mask_heap (kinds1 l hl) hx ⟨[.t (enc x)], 7, false⟩
  refine h.go ?_
  simp -implicitDefEqProofs (disch := first | exact dsch | fail) only [go_sem, ↓reduceIte, Nat.reduceEqDiff]

@[go_sem] theorem pu_Kinds {x : Ex} {l : List Int} (hx : x.ev.length ≤ 32) (hl : l.length ≤ 1000) {K : Kp} : @Pu _ Tryz.prog 24 [enc x, enc l] K = K.k (.t (.int .u32 ((maskB x.ev fun y => decide (y.kind ∈ l)).toNat : Int))) := (exec_Kinds hx hl).pu

theorem exec_memory : Pred1 216 (fun x => decide (x.kind = 1) || decide (x.kind = 2)) := by
  intro x
  refine Fun.go (b := false) Tryz.func216 rfl rfl (by kernel_rfl) (by kernel_rfl) ?_
  by_cases h : x.kind = 1
  · simp -implicitDefEqProofs (disch := first | exact dsch | fail) only [go_sem, ↓reduceIte, Nat.reduceEqDiff, h, Bool.true_or]
  · simp -implicitDefEqProofs (disch := first | exact dsch | fail) only [go_sem, ↓reduceIte, Nat.reduceEqDiff, h, Bool.false_or]
@[go_sem] theorem pu_memory {x : Ev} {K : Kp} : @Pu _ Tryz.prog 216 [enc x] K = K.k (.t (.bool (decide (x.kind = 1) || decide (x.kind = 2)))) := (exec_memory x).pu

def pairsG (l : List Ev) (g : Ev → Ev → Bool) : Rl := mk l.length fun i k => decide (i ≠ k) && g (gd l i) (gd l k)
theorem putR_mk {n : Nat} (hn : n ≤ 32) {p : Nat → Nat → Bool} {i k : Nat} : putR (mk n p) i k = mk n fun a b => p a b || (decide (a = i) && decide (b = k)) := by
  unfold putR
  rw [mk_len]
  apply mk_ext
  intro a b ha hb
  rw [has_mk' hn ha hb]
  simp only [Int.natCast_inj]
def pairsTo2 (l : List Ev) (g : Ev → Ev → Bool) (i k : Nat) : Rl := mk l.length fun a b => (decide (a < i) || (decide (a = i) && decide (b < k))) && (decide (a ≠ b) && g (gd l a) (gd l b))
@[go_sem] theorem pairsTo2_len (l g i k) : (pairsTo2 l g i k).length = l.length := by simp [pairsTo2, mk_len]
theorem pairsTo2_zero (l g) : pairsTo2 l g 0 0 = noneR l.length := by
  unfold pairsTo2 noneR; apply mk_ext; intro i k _ _; simp
theorem pairsTo2_row (l : List Ev) (g i) : pairsTo2 l g i l.length = pairsTo2 l g (i + 1) 0 := by
  unfold pairsTo2; apply mk_ext; intro a b ha hb
  have : (decide (a < i) || (decide (a = i) && decide (b < l.length))) = (decide (a < i + 1) || (decide (a = i + 1) && decide (b < 0))) := by
    simp [hb]; by_cases h : a < i
    · simp [h]; omega
    · by_cases h2 : a = i
      · simp [h2]
      · have : ¬ a < i + 1 := by omega
        simp [h, h2, this]
  rw [this]
theorem pairsTo2_all (l : List Ev) (g) : pairsTo2 l g l.length 0 = pairsG l g := by
  unfold pairsTo2 pairsG; apply mk_ext; intro a b ha hb; simp [ha]
theorem pairsTo2_step {l : List Ev} {g : Ev → Ev → Bool} (hl : l.length ≤ 32) {i k : Nat} (b : Bool) (hb : (decide (i ≠ k) && g (gd l i) (gd l k)) = b) : pairsTo2 l g i (k + 1) = if b then putR (pairsTo2 l g i k) i k else pairsTo2 l g i k := by
  have key : pairsTo2 l g i (k + 1) = mk l.length fun a c => ((decide (a < i) || (decide (a = i) && decide (c < k))) && (decide (a ≠ c) && g (gd l a) (gd l c))) || (b && (decide (a = i) && decide (c = k))) := by
    unfold pairsTo2; apply mk_ext; intro a c ha hc
    by_cases h1 : a = i
    · subst h1
      by_cases h2 : c = k
      · subst h2; simp only [Nat.lt_irrefl, decide_false, decide_true, Nat.lt_add_one, Bool.and_true, Bool.true_and, Bool.false_or, Bool.false_and, Bool.or_false, Bool.and_false]; rw [hb]
      · have e : decide (c < k + 1) = decide (c < k) := by rw [decide_eq_decide]; omega
        simp [h2, e]
    · simp [h1]
  rw [key]
  cases b
  · simp only [Bool.false_and, Bool.or_false, Bool.false_eq_true, if_false]; rfl
  · simp only [Bool.true_and, if_true]
    unfold pairsTo2
    rw [putR_mk hl]

theorem exec_pairs {f : FuncId} {g : Ev → Ev → Bool} (hf : Pred2 f g) {x : Ex} (hx : x.ev.length ≤ 32) : Fun Tryz.prog 214 [enc x, .fn f] (.t (enc (pairsG x.ev g))) := by
  refine Fun.go (b := false) Tryz.func214 rfl rfl (by kernel_rfl) (by kernel_rfl) ?_
  simp -implicitDefEqProofs (disch := first | exact dsch | fail) only [go_sem, ↓reduceIte, Nat.reduceEqDiff]
  refine loop_up (n := x.ev.length) (fun i e H => e 1 = .t (.fn f) ∧ e 2 = .ptr 0 1 0 0 ∧ (e 5 = .t (enc (pairsTo2 x.ev g i 0)) ∨ (e 5 = .ref 1 x.ev.length ∧ pairsTo2 x.ev g i 0 = noneR x.ev.length)) ∧ e 15 = .t (enc x.ev) ∧ e 16 = .t (.int .i64 x.ev.length) ∧ e 17 = .t (.int .i64 i) ∧ ∃ R st, H = ⟨[.t (enc x)], 7, false⟩ :: ⟨vs (noneR x.ev.length), 1, st⟩ :: R) ?_ _ _ ?_
  · rintro i e H hi ⟨h1, h2, h5, h15, h16, h17, R, st, rfl⟩
    by_cases hlt : i < x.ev.length
    · simp -implicitDefEqProofs (disch := first | exact dsch | fail) only [go_sem, ↓reduceIte, Nat.reduceEqDiff, h1, h2, h15, h16, h17]
      refine loop_up (n := x.ev.length) (fun k e H => e 1 = .t (.fn f) ∧ e 2 = .ptr 0 1 0 0 ∧ e 6 = .t (.int .i64 i) ∧ e 7 = .ptr (R.length + 1 + 1) 1 0 0 ∧ (e 5 = .t (enc (pairsTo2 x.ev g i k)) ∨ (e 5 = .ref 1 x.ev.length ∧ pairsTo2 x.ev g i k = noneR x.ev.length)) ∧ e 15 = .t (enc x.ev) ∧ e 16 = .t (.int .i64 x.ev.length) ∧ e 17 = .t (.int .i64 i) ∧ e 23 = .t (enc x.ev) ∧ e 24 = .t (.int .i64 x.ev.length) ∧ e 25 = .t (.int .i64 k) ∧ ∃ S st, H = ⟨[.t (enc x)], 7, false⟩ :: ⟨vs (noneR x.ev.length), 1, st⟩ :: S ∧ ∀ X, (S ++ X)[R.length]? = some ⟨[.t (enc (gd x.ev i))], 7, false⟩) ?_ _ _ ?_
      · rintro k e H hk ⟨h1, h2, h6, h7, h5, h15, h16, h17, h23, h24, h25, S, st, rfl, hS⟩
        by_cases hkl : k < x.ev.length
        · have hstep := pairsTo2_step (l := x.ev) (g := g) hx (i := i) (k := k)
          have hpu := fun (K : Kp) => Fun.pu (hf (gd x.ev i) (gd x.ev k)) (K := K)
          by_cases hik : i = k
          · have hs := hstep false (by simp [hik])
            rw [if_neg (by decide)] at hs
            simp -implicitDefEqProofs (disch := first | exact dsch | fail) only [go_sem, ↓reduceIte, Nat.reduceEqDiff, h1, h2, h6, h7, h15, h16, h17, h23, h24, h25, hS, hpu]
            exact ⟨hkl, by rw [hs]; exact h5, _, _, rfl, fun X => by rw [List.append_assoc]; exact hS _⟩
          · cases hg : g (gd x.ev i) (gd x.ev k)
            · have hs := hstep false (by simp [hg])
              rw [if_neg (by decide)] at hs
              simp -implicitDefEqProofs (disch := first | exact dsch | fail) only [go_sem, ↓reduceIte, Nat.reduceEqDiff, h1, h2, h6, h7, h15, h16, h17, h23, h24, h25, hS, hpu, hg]
              exact ⟨hkl, by rw [hs]; exact h5, _, _, rfl, fun X => by rw [List.append_assoc]; exact hS _⟩
            · have hs := hstep true (by simp [hg, hik])
              rw [if_pos rfl] at hs
              rcases h5 with h5 | ⟨h5, h5'⟩
              · simp -implicitDefEqProofs (disch := first | exact dsch | fail) only [go_sem, ↓reduceIte, Nat.reduceEqDiff, h1, h2, h6, h7, h5, h15, h16, h17, h23, h24, h25, hS, hpu, hg, hs]
                exact ⟨hkl, .inl trivial, _, _, rfl, fun X => by rw [List.append_assoc]; exact hS _⟩
              · rw [h5'] at hs
                simp -implicitDefEqProofs (disch := first | exact dsch | fail) only [go_sem, ↓reduceIte, Nat.reduceEqDiff, h1, h2, h6, h7, h5, h15, h16, h17, h23, h24, h25, hS, hpu, hg, hs]
                exact ⟨hkl, .inl trivial, _, _, rfl, fun X => by rw [List.append_assoc]; exact hS _⟩
        · obtain rfl : k = x.ev.length := by omega
          simp -implicitDefEqProofs (disch := first | exact dsch | fail) only [go_sem, ↓reduceIte, Nat.reduceEqDiff, h1, h2, h6, h7, h15, h16, h17, h23, h24, h25]
          exact ⟨hlt, by rw [← pairsTo2_row]; exact h5, _, _, rfl⟩
      · simp -implicitDefEqProofs (disch := first | exact dsch | fail) only [go_sem, ↓reduceIte, Nat.reduceEqDiff, h1, h2, h15, h16, h17]
        exact ⟨h5, _, _, rfl, fun X => by simp⟩
    · obtain rfl : i = x.ev.length := by omega
      rcases h5 with h5 | ⟨h5, h5'⟩
      · simp -implicitDefEqProofs (disch := first | exact dsch | fail) only [go_sem, ↓reduceIte, Nat.reduceEqDiff, h1, h2, h5, h15, h16, h17, pairsTo2_all]
      · simp -implicitDefEqProofs (disch := first | exact dsch | fail) only [go_sem, ↓reduceIte, Nat.reduceEqDiff, h1, h2, h5, h15, h16, h17]
        rw [← h5', pairsTo2_all]
  · simp -implicitDefEqProofs (disch := first | exact dsch | fail) only [go_sem, ↓reduceIte, Nat.reduceEqDiff, pairsTo2_zero]
    exact ⟨.inr trivial, _, _, rfl⟩

def memK (x : Ev) : Bool := decide (x.kind = 1) || decide (x.kind = 2)
def alikeG (x y : Ev) : Bool := memK x && (memK y && decide (x.loc = y.loc))
def innerG (x y : Ev) : Bool := decide (x.thread = y.thread)
theorem alike1 : Pred2 215 alikeG := by
  intro x y
  refine Fun.go (b := false) Tryz.func215 rfl rfl (by kernel_rfl) (by kernel_rfl) ?_
  unfold alikeG memK
  cases h1 : (decide (x.kind = 1) || decide (x.kind = 2)) <;> cases h2 : (decide (y.kind = 1) || decide (y.kind = 2)) <;> simp -implicitDefEqProofs (disch := first | exact dsch | fail) only [go_sem, ↓reduceIte, Nat.reduceEqDiff, h1, h2, Bool.false_and, Bool.and_false]
theorem inner1 : Pred2 247 innerG := by
  intro x y
  refine Fun.go (b := false) Tryz.func247 rfl rfl (by kernel_rfl) (by kernel_rfl) ?_
  unfold innerG
  simp -implicitDefEqProofs (disch := first | exact dsch | fail) only [go_sem, ↓reduceIte, Nat.reduceEqDiff]
def alikeR (l : List Ev) : Rl := pairsG l alikeG
def innerR (l : List Ev) : Rl := pairsG l innerG
@[go_sem] theorem alikeR_len (l) : (alikeR l).length = l.length := by simp [alikeR, pairsG, mk_len]
@[go_sem] theorem innerR_len (l) : (innerR l).length = l.length := by simp [innerR, pairsG, mk_len]
theorem exec_Alike {x : Ex} (hx : x.ev.length ≤ 32) : Fun Tryz.prog 145 [enc x] (.t (enc (alikeR x.ev))) := by
  refine Fun.go (b := false) Tryz.func145 rfl rfl (by kernel_rfl) (by kernel_rfl) ?_
  simp -implicitDefEqProofs (disch := first | exact dsch | fail) only [go_sem, ↓reduceIte, Nat.reduceEqDiff, fun K => (exec_pairs alike1 hx).pu (K := K)]
  rfl
theorem exec_Inner {x : Ex} (hx : x.ev.length ≤ 32) : Fun Tryz.prog 199 [enc x] (.t (enc (innerR x.ev))) := by
  refine Fun.go (b := false) Tryz.func199 rfl rfl (by kernel_rfl) (by kernel_rfl) ?_
  simp -implicitDefEqProofs (disch := first | exact dsch | fail) only [go_sem, ↓reduceIte, Nat.reduceEqDiff, fun K => (exec_pairs inner1 hx).pu (K := K)]
  rfl
section
variable {K : Kp}
@[go_sem] theorem pu_Alike {x : Ex} (hx : x.ev.length ≤ 32) : @Pu _ Tryz.prog 145 [enc x] K = K.k (.t (enc (alikeR x.ev))) := (exec_Alike hx).pu
@[go_sem] theorem pu_Inner {x : Ex} (hx : x.ev.length ≤ 32) : @Pu _ Tryz.prog 199 [enc x] K = K.k (.t (enc (innerR x.ev))) := (exec_Inner hx).pu
end
end Go.Sim
