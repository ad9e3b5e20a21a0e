/- A part of the proof of a law of module cupola: Derive. It has no conditions of its own. -/
import Derived.Test.YtoaboplnnhifpaaGreatExec
set_option linter.all false
namespace Go.Sim
open Enc (enc)
open Go.Proofs

def rfTo (n : Nat) (fr : List Int) (j : Nat) : Rl := mk n fun i k => decide (k < j) && decide (gd fr k = (i : Int))
def rfR (n : Nat) (fr : List Int) : Rl := mk n fun i k => decide (k < fr.length) && decide (gd fr k = (i : Int))
@[go_sem] theorem rfTo_len (n fr j) : (rfTo n fr j).length = n := by simp [rfTo, mk_len]
@[go_sem] theorem rfR_len (n fr) : (rfR n fr).length = n := by simp [rfR, mk_len]
theorem rfTo_zero (n fr) : rfTo n fr 0 = noneR n := by unfold rfTo noneR; apply mk_ext; intro i k _ _; simp
theorem rfTo_step {n : Nat} (hn : n ≤ 32) (fr : List Int) (j : Nat) : putR (rfTo n fr j) (gd fr j) j = rfTo n fr (j + 1) := by
  unfold putR
  rw [rfTo_len]
  unfold rfTo
  apply mk_ext
  intro i k hi hk
  rw [has_mk' hn hi hk]
  by_cases h : k = j
  · subst h; simp [eq_comm]
  · have e : decide (k < j + 1) = decide (k < j) := by rw [decide_eq_decide]; omega
    have e2 : decide ((k : Int) = (j : Int)) = false := by rw [decide_eq_false]; omega
    rw [e, e2]; simp
theorem source_Rf {x : Ex} (hx : x.ev.length ≤ 32) {fr : List Int} (hf : fr.length ≤ 1000) : Fun Tryz.prog 147 [enc x, enc fr] (.t (enc (rfR x.ev.length fr))) := by
  refine Fun.go (b := false) Tryz.func147 rfl rfl (by kernel_rfl) (by kernel_rfl) ?_
  simp -implicitDefEqProofs (disch := first | exact dsch | fail) only [go_sem, ↓reduceIte, Nat.reduceEqDiff]
  refine loop_up (n := fr.length) (fun j e H => (e 5 = .t (enc (rfTo x.ev.length fr j)) ∨ (e 5 = .ref 1 x.ev.length ∧ j = 0)) ∧ e 12 = .t (enc fr) ∧ e 13 = .t (.int .i64 fr.length) ∧ e 14 = .t (.int .i64 j) ∧ ∃ st, H = [⟨[.t (enc x)], 7, false⟩, ⟨vs (noneR x.ev.length), 1, st⟩]) ?_ _ _ ?_
  · rintro j e H hj ⟨h5, h12, h13, h14, st, rfl⟩
    by_cases hlt : j < fr.length
    · have hs := rfTo_step hx fr j
      rcases h5 with h5 | ⟨h5, h0⟩
      · simp -implicitDefEqProofs (disch := first | exact dsch | fail) only [go_sem, ↓reduceIte, Nat.reduceEqDiff, h5, h12, h13, h14, hs]
        exact ⟨hlt, .inl trivial, _, rfl⟩
      · rw [show rfTo x.ev.length fr j = noneR x.ev.length by subst h0; exact rfTo_zero _ _] at hs
        simp -implicitDefEqProofs (disch := first | exact dsch | fail) only [go_sem, ↓reduceIte, Nat.reduceEqDiff, h5, h12, h13, h14, hs]
        exact ⟨hlt, .inl trivial, _, rfl⟩
    · obtain rfl : j = fr.length := by omega
      rcases h5 with h5 | ⟨h5, h0⟩
      · simp -implicitDefEqProofs (disch := first | exact dsch | fail) only [go_sem, ↓reduceIte, Nat.reduceEqDiff, h5, h12, h13, h14]
        rfl
      · simp -implicitDefEqProofs (disch := first | exact dsch | fail) only [go_sem, ↓reduceIte, Nat.reduceEqDiff, h5, h12, h13, h14]
        rw [← rfTo_zero _ fr, ← h0]; rfl
  · simp -implicitDefEqProofs (disch := first | exact dsch | fail) only [go_sem, ↓reduceIte, Nat.reduceEqDiff]
    exact ⟨.inr trivial, _, rfl⟩
@[go_sem] theorem pu_Rf {x : Ex} (hx : x.ev.length ≤ 32) {fr : List Int} (hf : fr.length ≤ 1000) {K : Kp} : @Pu _ Tryz.prog 147 [enc x, enc fr] K = K.k (.t (enc (rfR x.ev.length fr))) := (source_Rf hx hf).pu

theorem behind1 (loc : Int) : PredH 249 ⟨[.t (.int .i64 loc)], 1, false⟩ (fun x => decide (x.kind = 2) && decide (x.loc = loc)) := by
  intro H x h1
  refine ⟨[⟨[.t (enc x)], 7, false⟩], Comes.heap (by simp only [go_sem]) ?_⟩
  have hlt : 1 < H.length := by
    rcases Nat.lt_or_ge 1 H.length with h | h
    · exact h
    · rw [List.getElem?_eq_none h] at h1; cases h1
  have h2 : ∀ X : Heap, (H ++ X)[1]? = some ⟨[.t (.int .i64 loc)], 1, false⟩ := fun X => by rw [List.getElem?_append_left hlt]; exact h1
  refine FunH.go Tryz.func249 rfl rfl (by kernel_rfl) ?_
  by_cases h : x.kind = 2
  · simp -implicitDefEqProofs (disch := first | exact dsch | fail) only [go_sem, ↓reduceIte, Nat.reduceEqDiff, h1, h2, h, Bool.true_and]
  · simp -implicitDefEqProofs (disch := first | exact dsch | fail) only [go_sem, ↓reduceIte, Nat.reduceEqDiff, h1, h2, h, Bool.false_and]

def behindTo (co : Rl) (w j : Nat) : U32 := match j with
  | 0 => 0#32
  | j + 1 => if has co w j then behindTo co w j ||| 1#32 <<< j else behindTo co w j
theorem behindTo_get {co : Rl} {w k : Nat} (hk : k < 32) : ∀ j, (behindTo co w j).getLsbD k = (decide (k < j) && has co w k)
  | 0 => by simp [behindTo]
  | j + 1 => by
    have ih := behindTo_get (co := co) (w := w) hk j
    have hb : (1#32 <<< j).getLsbD k = decide (k = j) := by
      rw [BitVec.getLsbD_shiftLeft]
      by_cases h : k = j
      · subst h; simp [hk]
      · simp only [h, decide_false, hk, decide_true, Bool.true_and]
        by_cases h2 : k < j
        · simp [h2]
        · have : k - j ≠ 0 := by omega
          simp [h2, this]
    have e1 : ∀ _ : k ≠ j, decide (k < j + 1) = decide (k < j) := fun h => by rw [decide_eq_decide]; omega
    unfold behindTo
    by_cases hg : has co w j = true
    · rw [if_pos hg, BitVec.getLsbD_or, ih, hb]
      by_cases h : k = j
      · subst h; simp [hg]
      · simp [h, e1 h]
    · rw [if_neg hg, ih]
      by_cases h : k = j
      · subst h; simp at hg; simp [hg]
      · rw [e1 h]
def behindB (l : List Ev) (r : Nat) (w : Int) (co : Rl) : U32 :=
  if w = -1 then maskB l (fun x => decide (x.kind = 2) && decide (x.loc = (gd l r).loc))
  else if 0 ≤ w ∧ w < l.length ∧ (gd l w.toNat).kind = 2 then behindTo co w.toNat l.length else 0#32
theorem derive_behind {x : Ex} (hx : x.ev.length ≤ 32) {r : Nat} (hr : r < x.ev.length) {w : Int} {co : Rl} (hc : co.length = x.ev.length) : Fun Tryz.prog 209 [enc x, .int .i64 r, .int .i64 w, enc co] (.t (.int .u32 ((behindB x.ev r w co).toNat : Int))) := by
  refine Fun.go (b := false) Tryz.func209 rfl rfl (by kernel_rfl) (by kernel_rfl) ?_
  unfold behindB
  by_cases h1 : w = -1
  · subst h1
    simp -implicitDefEqProofs (disch := first | exact dsch | fail) only [go_sem, ↓reduceIte, Nat.reduceEqDiff]
    obtain ⟨H', h⟩ := mask_heap (behind1 (gd x.ev r).loc) hx ⟨[.t (enc x)], 7, false⟩
    refine h.go ?_
    simp -implicitDefEqProofs (disch := first | exact dsch | fail) only [go_sem, ↓reduceIte, Nat.reduceEqDiff]
  · rw [if_neg h1]
    by_cases h2 : 0 ≤ w
    · by_cases h3 : w < x.ev.length
      · by_cases h4 : (gd x.ev w.toNat).kind = 2
        · obtain ⟨m, rfl⟩ := Int.eq_ofNat_of_zero_le h2
          rw [Int.toNat_natCast] at h4
          simp -implicitDefEqProofs (disch := first | exact dsch | fail) only [go_sem, ↓reduceIte, Nat.reduceEqDiff, h1, h4]
          refine loop_up (n := x.ev.length) (fun j e H => e 2 = .t (.int .i64 m) ∧ e 3 = .t (enc co) ∧ e 10 = .t (.int .u32 ((behindTo co m j).toNat : Int)) ∧ e 45 = .t (.int .i64 x.ev.length) ∧ e 46 = .t (.int .i64 j) ∧ H = [⟨[.t (enc x)], 7, false⟩]) ?_ _ _ ?_
          · rintro j e H hj ⟨h2', h3', h10, h45, h46, rfl⟩
            by_cases hlt : j < x.ev.length
            · have hz : hasZ co (m : Int) (j : Int) = has co m j := by simp [hasZ]
              cases hh : has co m j
              · simp -implicitDefEqProofs (disch := first | exact dsch | fail) only [go_sem, ↓reduceIte, Nat.reduceEqDiff, h2', h3', h10, h45, h46, hz, hh, behindTo]
                exact hlt
              · simp -implicitDefEqProofs (disch := first | exact dsch | fail) only [go_sem, ↓reduceIte, Nat.reduceEqDiff, h2', h3', h10, h45, h46, hz, hh, behindTo]
                exact hlt
            · obtain rfl : j = x.ev.length := by omega
              simp -implicitDefEqProofs (disch := first | exact dsch | fail) only [go_sem, ↓reduceIte, Nat.reduceEqDiff, h2', h3', h10, h45, h46]
              rw [if_pos ⟨h2, h3, h4⟩]
          · simp -implicitDefEqProofs (disch := first | exact dsch | fail) only [go_sem, ↓reduceIte, Nat.reduceEqDiff, behindTo]
        · simp -implicitDefEqProofs (disch := first | exact dsch | fail) only [go_sem, ↓reduceIte, Nat.reduceEqDiff, h1, h4, and_false]
      · simp -implicitDefEqProofs (disch := first | exact dsch | fail) only [go_sem, ↓reduceIte, Nat.reduceEqDiff, h1, false_and, and_false, show ¬ (w < (x.ev.length : Int)) from h3]
    · simp -implicitDefEqProofs (disch := first | exact dsch | fail) only [go_sem, ↓reduceIte, Nat.reduceEqDiff, h1, false_and, show ¬ (0 ≤ w) from h2]

@[go_sem] theorem pu_behind {x : Ex} (hx : x.ev.length ≤ 32) {r : Nat} (hr : r < x.ev.length) {w : Int} {co : Rl} (hc : co.length = x.ev.length) {K : Kp} : @Pu _ Tryz.prog 209 [enc x, .int .i64 r, .int .i64 w, enc co] K = K.k (.t (.int .u32 ((behindB x.ev r w co).toNat : Int))) := (derive_behind hx hr hc).pu

def frP (l : List Ev) (fr : List Int) (co : Rl) (r k : Nat) : Bool := decide (r < fr.length) && (decide (k ≠ r) && (behindB l r (gd fr r) co).getLsbD k)
def frR (l : List Ev) (fr : List Int) (co : Rl) : Rl := mk l.length (frP l fr co)
def frTo (l : List Ev) (fr : List Int) (co : Rl) (j : Nat) : Rl := mk l.length fun r k => decide (r < j) && frP l fr co r k
@[go_sem] theorem frR_len (l fr co) : (frR l fr co).length = l.length := by simp [frR, mk_len]
@[go_sem] theorem frTo_len (l fr co j) : (frTo l fr co j).length = l.length := by simp [frTo, mk_len]
theorem frTo_zero (l fr co) : frTo l fr co 0 = noneR l.length := by unfold frTo noneR; apply mk_ext; intro i k _ _; simp
theorem one_get {r k : Nat} (hr : k < 32) : (1#32 <<< r).getLsbD k = decide (k = r) := by
  rw [BitVec.getLsbD_shiftLeft]
  by_cases h : k = r
  · subst h; simp [hr]
  · simp only [h, decide_false, hr, decide_true, Bool.true_and]
    by_cases h2 : k < r
    · simp [h2]
    · have : k - r ≠ 0 := by omega
      simp [h2, this]
theorem frTo_step {l : List Ev} (hl : l.length ≤ 32) {fr : List Int} {co : Rl} {j : Nat} (hj : j < fr.length) (hjl : j < l.length) :
    orR (frTo l fr co j) (crossR l.length (1#32 <<< j) (behindB l j (gd fr j) co &&& ~~~(1#32 <<< j))) = frTo l fr co (j + 1) := by
  unfold orR
  rw [frTo_len]
  unfold frTo crossR
  apply mk_ext
  intro r k hr hk
  have hk32 : k < 32 := by omega
  rw [has_mk' hl hr hk, has_mk' hl hr hk, one_get (by omega), BitVec.getLsbD_and, BitVec.getLsbD_not, one_get hk32]
  by_cases h : r = j
  · subst h
    unfold frP
    simp [hj, hk32]
    rw [Bool.and_comm]
  · have e : decide (r < j + 1) = decide (r < j) := by rw [decide_eq_decide]; omega
    rw [e]; simp [h]
theorem derive_Fr {x : Ex} (hx : x.ev.length ≤ 32) {fr : List Int} (hf : fr.length ≤ 1000) {co : Rl} (hc : co.length = x.ev.length) : Fun Tryz.prog 134 [enc x, enc fr, enc co] (.t (enc (frR x.ev fr co))) := by
  refine Fun.go (b := false) Tryz.func134 rfl rfl (by kernel_rfl) (by kernel_rfl) ?_
  simp -implicitDefEqProofs (disch := first | exact dsch | fail) only [go_sem, ↓reduceIte, Nat.reduceEqDiff]
  have hmin : (min (fr.length : Int) (x.ev.length : Int)) = ((min fr.length x.ev.length : Nat) : Int) := by omega
  refine loop_up (n := min fr.length x.ev.length) (fun j e H => e 1 = .t (enc fr) ∧ e 2 = .t (enc co) ∧ e 3 = .ptr 0 1 0 0 ∧ e 7 = .t (.int .i64 x.ev.length) ∧ (e 8 = .t (enc (frTo x.ev fr co j)) ∨ (e 8 = .ref 1 x.ev.length ∧ j = 0)) ∧ e 19 = .t (.int .i64 (min fr.length x.ev.length : Nat)) ∧ e 20 = .t (.int .i64 j) ∧ ∃ st, H = [⟨[.t (enc x)], 7, false⟩, ⟨vs (noneR x.ev.length), 1, st⟩]) ?_ _ _ ?_
  · rintro j e H hj ⟨h1, h2, h3, h7, h8, h19, h20, st, rfl⟩
    by_cases hlt : j < min fr.length x.ev.length
    · have hs := frTo_step hx (fr := fr) (co := co) (j := j) (by omega) (by omega)
      rcases h8 with h8 | ⟨h8, h0⟩
      · simp -implicitDefEqProofs (disch := first | exact dsch | fail) only [go_sem, ↓reduceIte, Nat.reduceEqDiff, h1, h2, h3, h7, h8, h19, h20, hs]
        exact ⟨hlt, .inl trivial, _, rfl⟩
      · rw [show frTo x.ev fr co j = noneR x.ev.length by subst h0; exact frTo_zero _ _ _] at hs
        simp -implicitDefEqProofs (disch := first | exact dsch | fail) only [go_sem, ↓reduceIte, Nat.reduceEqDiff, h1, h2, h3, h7, h8, h19, h20, hs]
        exact ⟨hlt, .inl trivial, _, rfl⟩
    · obtain rfl : j = min fr.length x.ev.length := by omega
      have e : frR x.ev fr co = frTo x.ev fr co (min fr.length x.ev.length) := by
        unfold frR frTo
        apply mk_ext
        intro r k hr hk
        unfold frP
        by_cases h : r < fr.length
        · have : r < min fr.length x.ev.length := by omega
          simp [h, this]
        · simp [h]
      rcases h8 with h8 | ⟨h8, h0⟩
      · simp -implicitDefEqProofs (disch := first | exact dsch | fail) only [go_sem, ↓reduceIte, Nat.reduceEqDiff, h1, h2, h3, h7, h8, h19, h20]
        rw [e]
      · simp -implicitDefEqProofs (disch := first | exact dsch | fail) only [go_sem, ↓reduceIte, Nat.reduceEqDiff, h1, h2, h3, h7, h8, h19, h20]
        rw [e, h0, frTo_zero]
  · simp -implicitDefEqProofs (disch := first | exact dsch | fail) only [go_sem, ↓reduceIte, Nat.reduceEqDiff, hmin]
    exact ⟨.inr trivial, _, rfl⟩

@[go_sem] theorem pu_Fr {x : Ex} (hx : x.ev.length ≤ 32) {fr : List Int} (hf : fr.length ≤ 1000) {co : Rl} (hc : co.length = x.ev.length) {K : Kp} : @Pu _ Tryz.prog 134 [enc x, enc fr, enc co] K = K.k (.t (enc (frR x.ev fr co))) := (derive_Fr hx hf hc).pu

def unionR (n : Nat) (ls : List Rl) : Rl := ls.foldl orR (noneR n)
def unionTo (n : Nat) (ls : List Rl) (j : Nat) : Rl := (ls.take j).foldl orR (noneR n)
theorem foldl_or_len (ls : List Rl) (a : Rl) : (ls.foldl orR a).length = a.length := by
  induction ls generalizing a with
  | nil => rfl
  | cons b ls ih => rw [List.foldl_cons, ih, orR_len]
@[go_sem] theorem unionR_len (n ls) : (unionR n ls).length = n := by rw [unionR, foldl_or_len, noneR_len]
@[go_sem] theorem unionTo_len (n ls j) : (unionTo n ls j).length = n := by rw [unionTo, foldl_or_len, noneR_len]
theorem unionTo_step {n : Nat} {ls : List Rl} {j : Nat} (h : j < ls.length) : orR (unionTo n ls j) (gd ls j) = unionTo n ls (j + 1) := by
  unfold unionTo
  rw [← take_gd h, List.foldl_append]; rfl
theorem unionTo_all (n : Nat) (ls : List Rl) : unionTo n ls ls.length = unionR n ls := by rw [unionTo, List.take_length]; rfl
theorem derive_union {n : Nat} (hn : n ≤ 32) {ls : List Rl} (hl : ls.length ≤ 1000) (hls : ∀ j, j < ls.length → (gd ls j).length = n) : Fun Tryz.prog 146 [.int .i64 n, enc ls] (.t (enc (unionR n ls))) := by
  refine Fun.go (b := false) Tryz.func146 rfl rfl (by kernel_rfl) (by kernel_rfl) ?_
  simp -implicitDefEqProofs (disch := first | exact dsch | fail) only [go_sem, ↓reduceIte, Nat.reduceEqDiff]
  refine loop_up (n := ls.length) (fun j e H => (e 5 = .t (enc (unionTo n ls j)) ∨ (e 5 = .ref 0 n ∧ j = 0)) ∧ e 10 = .t (enc ls) ∧ e 11 = .t (.int .i64 ls.length) ∧ e 12 = .t (.int .i64 j) ∧ ∃ st, H = [⟨vs (noneR n), 1, st⟩]) ?_ _ _ ?_
  · rintro j e H hj ⟨h5, h10, h11, h12, st, rfl⟩
    by_cases hlt : j < ls.length
    · have hs := unionTo_step (n := n) hlt
      have hg := hls j hlt
      rcases h5 with h5 | ⟨h5, h0⟩
      · simp -implicitDefEqProofs (disch := first | exact dsch | fail) only [go_sem, ↓reduceIte, Nat.reduceEqDiff, h5, h10, h11, h12, hs]
        exact ⟨hlt, .inl trivial, _, rfl⟩
      · rw [show unionTo n ls j = noneR n by subst h0; rfl] at hs
        simp -implicitDefEqProofs (disch := first | exact dsch | fail) only [go_sem, ↓reduceIte, Nat.reduceEqDiff, h5, h10, h11, h12, hs]
        exact ⟨hlt, .inl trivial, _, rfl⟩
    · obtain rfl : j = ls.length := by omega
      rcases h5 with h5 | ⟨h5, h0⟩
      · simp -implicitDefEqProofs (disch := first | exact dsch | fail) only [go_sem, ↓reduceIte, Nat.reduceEqDiff, h5, h10, h11, h12]
        rw [unionTo_all]
      · simp -implicitDefEqProofs (disch := first | exact dsch | fail) only [go_sem, ↓reduceIte, Nat.reduceEqDiff, h5, h10, h11, h12]
        rw [← unionTo_all, h0]; rfl
  · simp -implicitDefEqProofs (disch := first | exact dsch | fail) only [go_sem, ↓reduceIte, Nat.reduceEqDiff]
    exact ⟨.inr trivial, _, rfl⟩
@[go_sem] theorem pu_union3 {n : Nat} (hn : n ≤ 32) {a b c : Rl} (ha : a.length = n) (hb : b.length = n) (hc : c.length = n) {K : Kp} : @Pu _ Tryz.prog 146 [.int .i64 n, enc [a, b, c]] K = K.k (.t (enc (unionR n [a, b, c]))) :=
  (derive_union hn (by simp) (by intro j hj; match j, hj with | 0, _ => exact ha | 1, _ => exact hb | 2, _ => exact hc)).pu

def comR (l : List Ev) (fr : List Int) (co : Rl) : Rl := unionR l.length [rfR l.length fr, co, frR l fr co]
@[go_sem] theorem comR_len (l fr co) : (comR l fr co).length = l.length := unionR_len _ _
theorem derive_Com {x : Ex} (hx : x.ev.length ≤ 32) {fr : List Int} (hf : fr.length ≤ 1000) {co : Rl} (hc : co.length = x.ev.length) : Fun Tryz.prog 74 [enc x, enc fr, enc co] (.t (enc (comR x.ev fr co))) := by
  refine Fun.go (b := false) Tryz.func74 rfl rfl (by kernel_rfl) (by kernel_rfl) ?_
  simp -implicitDefEqProofs (disch := first | exact dsch | fail) only [go_sem, ↓reduceIte, Nat.reduceEqDiff, comR]
@[go_sem] theorem pu_Com {x : Ex} (hx : x.ev.length ≤ 32) {fr : List Int} (hf : fr.length ≤ 1000) {co : Rl} (hc : co.length = x.ev.length) {K : Kp} : @Pu _ Tryz.prog 74 [enc x, enc fr, enc co] K = K.k (.t (enc (comR x.ev fr co))) := (derive_Com hx hf hc).pu

def polocR (x : Ex) : Rl := andR x.po (alikeR x.ev)
@[go_sem] theorem polocR_len (x) : (polocR x).length = x.po.length := andR_len _ _
theorem derive_PoLoc {x : Ex} (hx : x.ev.length ≤ 32) (hp : x.po.length = x.ev.length) : Fun Tryz.prog 73 [enc x] (.t (enc (polocR x))) := by
  refine Fun.go (b := false) Tryz.func73 rfl rfl (by kernel_rfl) (by kernel_rfl) ?_
  simp -implicitDefEqProofs (disch := first | exact dsch | fail) only [go_sem, ↓reduceIte, Nat.reduceEqDiff, polocR]
@[go_sem] theorem pu_PoLoc {x : Ex} (hx : x.ev.length ≤ 32) (hp : x.po.length = x.ev.length) {K : Kp} : @Pu _ Tryz.prog 73 [enc x] K = K.k (.t (enc (polocR x))) := (derive_PoLoc hx hp).pu

def withinR (l : List Ev) (r : Rl) : Rl := andR r (innerR l)
@[go_sem] theorem withinR_len (l r) : (withinR l r).length = r.length := andR_len _ _
theorem derive_Within {x : Ex} (hx : x.ev.length ≤ 32) {r : Rl} (hr : r.length = x.ev.length) : Fun Tryz.prog 153 [enc x, enc r] (.t (enc (withinR x.ev r))) := by
  refine Fun.go (b := false) Tryz.func153 rfl rfl (by kernel_rfl) (by kernel_rfl) ?_
  simp -implicitDefEqProofs (disch := first | exact dsch | fail) only [go_sem, ↓reduceIte, Nat.reduceEqDiff, withinR]
@[go_sem] theorem pu_Within {x : Ex} (hx : x.ev.length ≤ 32) {r : Rl} (hr : r.length = x.ev.length) {K : Kp} : @Pu _ Tryz.prog 153 [enc x, enc r] K = K.k (.t (enc (withinR x.ev r))) := (derive_Within hx hr).pu

def outerR (l : List Ev) (r : Rl) : Rl := mk l.length fun i k => has r i k && !decide ((gd l i).thread = (gd l k).thread)
@[go_sem] theorem outerR_len (l r) : (outerR l r).length = l.length := by simp [outerR, mk_len]
def outerTo (l : List Ev) (ps : List (Int × Int)) (j : Nat) : Rl := mk l.length fun i k => (ps.take j).any fun p => decide ((i : Int) = p.1) && (decide ((k : Int) = p.2) && !decide ((gd l i).thread = (gd l k).thread))
@[go_sem] theorem outerTo_len (l ps j) : (outerTo l ps j).length = l.length := by simp [outerTo, mk_len]
theorem outerTo_step {l : List Ev} (hl : l.length ≤ 32) {ps : List (Int × Int)} {j : Nat} (hj : j < ps.length) (b : Bool) (hb : (!decide ((gd l (gd ps j).1.toNat).thread = (gd l (gd ps j).2.toNat).thread)) = b) :
    outerTo l ps (j + 1) = if b then putR (outerTo l ps j) (gd ps j).1 (gd ps j).2 else mk l.length fun i k => (ps.take j).any fun p => decide ((i : Int) = p.1) && (decide ((k : Int) = p.2) && !decide ((gd l i).thread = (gd l k).thread)) := by
  have key : outerTo l ps (j + 1) = mk l.length fun i k => ((ps.take j).any fun p => decide ((i : Int) = p.1) && (decide ((k : Int) = p.2) && !decide ((gd l i).thread = (gd l k).thread))) || (b && (decide ((i : Int) = (gd ps j).1) && decide ((k : Int) = (gd ps j).2))) := by
    unfold outerTo
    apply mk_ext
    intro i k hi hk
    rw [← take_gd hj, List.any_append]
    congr 1
    simp only [List.any_cons, List.any_nil, Bool.or_false]
    by_cases h1 : (i : Int) = (gd ps j).1
    · by_cases h2 : (k : Int) = (gd ps j).2
      · have e1 : (gd ps j).1.toNat = i := by omega
        have e2 : (gd ps j).2.toNat = k := by omega
        rw [e1, e2] at hb
        rw [hb]; simp [h1, h2]
      · simp [h2]
    · simp [h1]
  rw [key]
  cases b
  · simp
  · simp only [Bool.true_and, if_true]
    unfold putR outerTo
    rw [mk_len]
    apply mk_ext
    intro i k hi hk
    rw [has_mk' hl hi hk]
theorem outerTo_zero (l ps) : outerTo l ps 0 = noneR l.length := by unfold outerTo noneR; apply mk_ext; intro i k _ _; simp
theorem outerTo_all {l : List Ev} {r : Rl} (hr : r.length = l.length) : outerTo l (pairsR r) (pairsR r).length = outerR l r := by
  unfold outerTo outerR
  rw [List.take_length]
  apply mk_ext
  intro i k hi hk
  rw [Bool.eq_iff_iff]
  simp only [List.any_eq_true, Bool.and_eq_true, decide_eq_true_eq]
  constructor
  · rintro ⟨p, hp, h1, h2, h3⟩
    obtain ⟨a, b, rfl, hab⟩ := mem_pairsR.1 hp
    simp only at h1 h2
    obtain rfl : i = a := by omega
    obtain rfl : k = b := by omega
    exact ⟨hab, h3⟩
  · rintro ⟨h1, h2⟩
    exact ⟨_, mem_pairsR.2 ⟨i, k, rfl, h1⟩, rfl, rfl, h2⟩
theorem pairsR_len (a : Rl) (h : a.length ≤ 32) : (pairsR a).length ≤ 1024 := by
  rw [← pairsTo_all]
  have := pairsTo_len a a.length
  have := Nat.mul_le_mul h h
  omega
theorem pairsR_gd {a : Rl} {j : Nat} (h : j < (pairsR a).length) : ∃ i k : Nat, gd (pairsR a) j = ((i : Int), (k : Int)) ∧ has a i k = true := mem_pairsR.1 (gd_mem h)
theorem derive_Outer {x : Ex} (hx : x.ev.length ≤ 32) {r : Rl} (hr : r.length = x.ev.length) : Fun Tryz.prog 133 [enc x, enc r] (.t (enc (outerR x.ev r))) := by
  refine Fun.go (b := false) Tryz.func133 rfl rfl (by kernel_rfl) (by kernel_rfl) ?_
  simp -implicitDefEqProofs (disch := first | exact dsch | fail) only [go_sem, ↓reduceIte, Nat.reduceEqDiff]
  have hpl := pairsR_len r (by omega)
  refine loop_up (n := (pairsR r).length) (fun j e H => e 2 = .ptr 0 1 0 0 ∧ (e 6 = .t (enc (outerTo x.ev (pairsR r) j)) ∨ (e 6 = .ref 1 x.ev.length ∧ outerTo x.ev (pairsR r) j = noneR x.ev.length)) ∧ e 20 = .t (enc (pairsR r)) ∧ e 21 = .t (.int .i64 (pairsR r).length) ∧ e 22 = .t (.int .i64 j) ∧ ∃ R st, H = ⟨[.t (enc x)], 7, false⟩ :: ⟨vs (noneR x.ev.length), 1, st⟩ :: R) ?_ _ _ ?_
  · rintro j e H hj ⟨h2, h6, h20, h21, h22, R, st, rfl⟩
    by_cases hlt : j < (pairsR r).length
    · obtain ⟨a, b, hab, hh⟩ := pairsR_gd hlt
      have hab2 := has_lt hh
      have hstep := outerTo_step hx (ps := pairsR r) hlt
      rw [hab] at hstep
      by_cases ht : (gd x.ev a).thread = (gd x.ev b).thread
      · have hs := hstep false (by simp [ht])
        rw [if_neg (by decide)] at hs
        simp -implicitDefEqProofs (disch := first | exact dsch | fail) only [go_sem, ↓reduceIte, Nat.reduceEqDiff, h2, h20, h21, h22, hab, ht]
        exact ⟨hlt, by rw [hs]; exact h6, _, _, rfl⟩
      · have hs := hstep true (by simp [ht])
        rw [if_pos rfl] at hs
        rcases h6 with h6 | ⟨h6, h0⟩
        · simp -implicitDefEqProofs (disch := first | exact dsch | fail) only [go_sem, ↓reduceIte, Nat.reduceEqDiff, h2, h6, h20, h21, h22, hab, ht, hs]
          exact ⟨hlt, .inl trivial, _, _, rfl⟩
        · rw [h0] at hs
          simp -implicitDefEqProofs (disch := first | exact dsch | fail) only [go_sem, ↓reduceIte, Nat.reduceEqDiff, h2, h6, h20, h21, h22, hab, ht, hs]
          exact ⟨hlt, .inl trivial, _, _, rfl⟩
    · obtain rfl : j = (pairsR r).length := by omega
      rcases h6 with h6 | ⟨h6, h0⟩
      · simp -implicitDefEqProofs (disch := first | exact dsch | fail) only [go_sem, ↓reduceIte, Nat.reduceEqDiff, h2, h6, h20, h21, h22, outerTo_all hr]
      · simp -implicitDefEqProofs (disch := first | exact dsch | fail) only [go_sem, ↓reduceIte, Nat.reduceEqDiff, h2, h6, h20, h21, h22]
        rw [← h0, outerTo_all hr]
  · simp -implicitDefEqProofs (disch := first | exact dsch | fail) only [go_sem, ↓reduceIte, Nat.reduceEqDiff]
    exact ⟨.inr (outerTo_zero _ _), _, _, rfl⟩
@[go_sem] theorem pu_Outer {x : Ex} (hx : x.ev.length ≤ 32) {r : Rl} (hr : r.length = x.ev.length) {K : Kp} : @Pu _ Tryz.prog 133 [enc x, enc r] K = K.k (.t (enc (outerR x.ev r))) := (derive_Outer hx hr).pu
theorem derive_Obs {x : Ex} (hx : x.ev.length ≤ 32) {fr : List Int} (hf : fr.length ≤ 1000) {co : Rl} (hc : co.length = x.ev.length) : Fun Tryz.prog 141 [enc x, enc fr, enc co] (.t (enc (outerR x.ev (comR x.ev fr co)))) := by
  refine Fun.go (b := false) Tryz.func141 rfl rfl (by kernel_rfl) (by kernel_rfl) ?_
  simp -implicitDefEqProofs (disch := first | exact dsch | fail) only [go_sem, ↓reduceIte, Nat.reduceEqDiff]
@[go_sem] theorem pu_Obs {x : Ex} (hx : x.ev.length ≤ 32) {fr : List Int} (hf : fr.length ≤ 1000) {co : Rl} (hc : co.length = x.ev.length) {K : Kp} : @Pu _ Tryz.prog 141 [enc x, enc fr, enc co] K = K.k (.t (enc (outerR x.ev (comR x.ev fr co)))) := (derive_Obs hx hf hc).pu
end Go.Sim
