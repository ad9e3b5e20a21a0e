/- A part of the proof of a law of module cupola: StR, StS, StT. It has no conditions of its own. -/
import Derived.Test.YtkfceeaokfdmfaaGreatDoorStB
set_option linter.all false
set_option maxRecDepth 100000
namespace Go.Sim
open Enc (enc)
open Go.Proofs
end Go.Sim

set_option maxRecDepth 100000
namespace Go.Sim
open Enc (enc)
open Go.Lib (itoa decDigits)
def digB (c : UInt8) : Bool := decide (48 ≤ c.toNat ∧ c.toNat ≤ 57)
def negL (l : List UInt8) : Bool := decide (l.head?.map (·.toNat) = some 45)
def stepW (n : Int) (c : UInt8) : Int := IntKind.i64.wrap (IntKind.i64.wrap (10 * n) - ((c.toNat : Int) - 48))
def bodyL (l : List UInt8) : List UInt8 := if negL l then l.tail else l
def figsL (l : List UInt8) : List UInt8 := (bodyL l).takeWhile digB
def numV (l : List UInt8) : Int := (figsL l).foldl stepW 0
def numA (l : List UInt8) : Nat := (negL l).toNat + (figsL l).length
def numR (l : List UInt8) : Int := if negL l then numV l else IntKind.i64.wrap (-(numV l))
def moreL : Nat → List UInt8 → List Int × Nat
  | 0, _ => ([], 0)
  | k + 1, l => if l.head?.map (·.toNat) = some 44 then (numR l.tail :: (moreL k (l.tail.drop (numA l.tail))).1, 1 + numA l.tail + (moreL k (l.tail.drop (numA l.tail))).2) else ([], 0)
def numsL (l : List UInt8) : List Int × Nat := if numA l = 0 then ([], 0) else (numR l :: (moreL l.length (l.drop (numA l))).1, numA l + (moreL l.length (l.drop (numA l))).2)
def rowsR : Nat → List UInt8 → List (List Int)
  | 0, _ => []
  | k + 1, l => if l = [] then [] else (numsL l).1 :: rowsR k (l.drop ((numsL l).2 + 1))
def refP (l : List UInt8) : Fs := ⟨BitVec.ofInt 32 (numR l), (numsL (l.drop (numA l + 1))).1, rowsR l.length (l.drop (numA l + 2 + (numsL (l.drop (numA l + 1))).2))⟩
def refOk (c : ByteArray) : Bool := decide (numA c.data.toList < c.size) && eqB (codeB (refP c.data.toList)) c
def refB (c : ByteArray) : Fs := if refOk c = true then refP c.data.toList else zeroF

theorem wrap_in (n : Int) : InR (IntKind.i64.wrap n) := by
  unfold InR
  rw [IntKind.wrap_i64]; omega
theorem foldW_in : ∀ (l : List UInt8) (a : Int), InR a → InR (l.foldl stepW a)
  | [], a, h => h
  | c :: l, a, _ => foldW_in l _ (wrap_in _)
theorem numV_in (l : List UInt8) : InR (numV l) := foldW_in _ 0 (by unfold InR; omega)
theorem numR_in (l : List UInt8) : InR (numR l) := by
  unfold numR
  split
  · exact numV_in l
  · exact wrap_in _
theorem body_le (l : List UInt8) : (negL l).toNat + (bodyL l).length ≤ l.length := by
  unfold bodyL
  cases h : negL l
  · simp
  · cases l with
    | nil => cases h
    | cons c r => simp; omega
theorem tw_len {p : UInt8 → Bool} : ∀ l : List UInt8, (l.takeWhile p).length ≤ l.length
  | [] => Nat.le_refl _
  | c :: l => by
    have := tw_len (p := p) l
    rw [List.takeWhile_cons]; split <;> simp <;> omega
theorem numA_le (l : List UInt8) : numA l ≤ l.length := by
  have := body_le l
  have h2 : (figsL l).length ≤ (bodyL l).length := tw_len _
  unfold numA; omega
theorem more_in : ∀ (k : Nat) (l : List UInt8), ∀ n ∈ (moreL k l).1, InR n
  | 0, l, n, h => by cases h
  | k + 1, l, n, h => by
    unfold moreL at h
    split at h
    · rcases List.mem_cons.1 h with rfl | h
      · exact numR_in _
      · exact more_in k _ n h
    · cases h
theorem more_le : ∀ (k : Nat) (l : List UInt8), (moreL k l).1.length ≤ (moreL k l).2 ∧ (moreL k l).2 ≤ l.length
  | 0, l => ⟨Nat.le_refl _, Nat.zero_le _⟩
  | k + 1, l => by
    unfold moreL
    split
    · rename_i hc
      obtain ⟨h1, h2⟩ := more_le k (l.tail.drop (numA l.tail))
      have h3 := numA_le l.tail
      cases l with
      | nil => simp at hc
      | cons c r =>
        simp only [List.tail_cons, List.length_cons, List.length_drop] at *
        omega
    · exact ⟨Nat.le_refl _, Nat.zero_le _⟩
theorem numsL_in (l : List UInt8) : ∀ n ∈ (numsL l).1, InR n := by
  intro n h
  unfold numsL at h
  split at h
  · cases h
  · rcases List.mem_cons.1 h with rfl | h
    · exact numR_in _
    · exact more_in _ _ n h
theorem numsL_le (l : List UInt8) : (numsL l).1.length ≤ (numsL l).2 ∧ (numsL l).2 ≤ l.length := by
  unfold numsL
  split
  · exact ⟨Nat.le_refl _, Nat.zero_le _⟩
  · have h1 := more_le l.length (l.drop (numA l))
    have h2 := numA_le l
    simp only [List.length_cons, List.length_drop] at *
    omega
theorem rowsR_in : ∀ (k : Nat) (l : List UInt8), (rowsR k l).length ≤ l.length ∧ ∀ r ∈ rowsR k l, (∀ n ∈ r, InR n) ∧ r.length ≤ l.length
  | 0, l => ⟨Nat.zero_le _, fun r h => by cases h⟩
  | k + 1, l => by
    unfold rowsR
    split
    · exact ⟨Nat.zero_le _, fun r h => by cases h⟩
    · rename_i hl
      have hp := List.length_pos_iff.2 hl
      obtain ⟨h1, h2⟩ := rowsR_in k (l.drop ((numsL l).2 + 1))
      have h3 := numsL_le l
      rw [List.length_drop] at h1
      refine ⟨by rw [List.length_cons]; omega, fun r hr => ?_⟩
      rcases List.mem_cons.1 hr with rfl | hr
      · exact ⟨numsL_in l, by omega⟩
      · have := h2 r hr
        rw [List.length_drop] at this
        exact ⟨this.1, by omega⟩
theorem refP_ok {l : List UInt8} (h : l.length ≤ 1000) : OkF (refP l) := by
  have h1 := numsL_le (l.drop (numA l + 1))
  obtain ⟨h2, h3⟩ := rowsR_in l.length (l.drop (numA l + 2 + (numsL (l.drop (numA l + 1))).2))
  rw [List.length_drop] at h1 h2
  refine ⟨numsL_in _, fun r hr => (h3 r hr).1, ?_, ?_, fun r hr => ?_⟩
  · show (numsL _).1.length ≤ 1000; omega
  · show (rowsR _ _).length ≤ 1000; omega
  · have := (h3 r hr).2
    rw [List.length_drop] at this; omega

theorem digB_of {c : UInt8} (h : digit c) : digB c = true := by unfold digB; unfold digit at h; simpa using h
def Stop (l : List UInt8) : Prop := ∀ c r, l = c :: r → digB c = false
theorem tw_dec {a b : List UInt8} (ha : ∀ c ∈ a, digB c = true) (hb : Stop b) : (a ++ b).takeWhile digB = a := by
  induction a with
  | nil =>
    cases b with
    | nil => rfl
    | cons c r => rw [List.nil_append, List.takeWhile_cons, hb c r rfl]; rfl
  | cons x a ih =>
    rw [List.cons_append, List.takeWhile_cons, ha x (by simp), if_pos rfl, ih (fun c hc => ha c (by simp [hc]))]
theorem fold_w : ∀ (l : List UInt8) (a : Nat), (∀ c ∈ l, digit c) → l.foldl stepD a ≤ 9223372036854775808 → l.foldl stepW (-(a : Int)) = -((l.foldl stepD a : Nat) : Int)
  | [], a, _, _ => rfl
  | c :: l, a, hd, h => by
    have hc := hd c (by simp)
    unfold digit at hc
    have hg := fold_ge l (stepD a c)
    have e : (c :: l).foldl stepD a = l.foldl stepD (stepD a c) := rfl
    rw [e] at h ⊢
    have hs : stepD a c = 10 * a + (c.toNat - 48) := rfl
    have hw : stepW (-(a : Int)) c = -((stepD a c : Nat) : Int) := by
      unfold stepW
      rw [wrap_i64 (n := 10 * -(a : Int)) (by omega) (by omega), wrap_i64 (by omega) (by omega), hs]; omega
    show l.foldl stepW (stepW (-(a : Int)) c) = _
    rw [hw]
    exact fold_w l _ (fun x hx => hd x (by simp [hx])) h
theorem neg_dec (u : Nat) (r : List UInt8) : negL (decDigits u ++ r) = false := by
  have h0 := dec_digit u
  have h2 := dec_ne u
  cases hl : decDigits u with
  | nil => exact absurd hl h2
  | cons c q =>
    rw [hl] at h0
    have hc := h0 c (by simp)
    unfold digit at hc
    unfold negL
    simp; omega
theorem num_itoa {n : Int} (h : InR n) {r : List UInt8} (hr : Stop r) : numR (itoa n ++ r) = n ∧ numA (itoa n ++ r) = (itoa n).length := by
  unfold InR at h
  by_cases hn : n < 0
  · have e : itoa n = 45 :: decDigits n.natAbs := by unfold Go.Lib.itoa; rw [if_pos hn]
    have hg : negL (itoa n ++ r) = true := by rw [e]; rfl
    have hf : figsL (itoa n ++ r) = decDigits n.natAbs := by
      unfold figsL bodyL; rw [hg, if_pos rfl, e, List.cons_append, List.tail_cons]
      exact tw_dec (fun c hc => digB_of (dec_digit _ c hc)) hr
    have hv : numV (itoa n ++ r) = n := by
      unfold numV; rw [hf]
      have h1 : (decDigits n.natAbs).foldl stepD 0 = n.natAbs := by rw [← valD_fold, valD_dec]
      have := fold_w (decDigits n.natAbs) 0 (dec_digit _) (by rw [h1]; omega)
      rw [h1] at this
      rw [show -((0 : Nat) : Int) = 0 from rfl] at this
      rw [this]; omega
    unfold numR numA
    rw [hg, hf, hv, if_pos rfl, e]
    exact ⟨rfl, by simp; omega⟩
  · have e : itoa n = decDigits n.toNat := by unfold Go.Lib.itoa; rw [if_neg hn]
    have hg : negL (itoa n ++ r) = false := by rw [e]; exact neg_dec _ _
    have hf : figsL (itoa n ++ r) = decDigits n.toNat := by
      unfold figsL bodyL; rw [hg, if_neg (by decide), e]
      exact tw_dec (fun c hc => digB_of (dec_digit _ c hc)) hr
    have hv : numV (itoa n ++ r) = -n := by
      unfold numV; rw [hf]
      have h1 : (decDigits n.toNat).foldl stepD 0 = n.toNat := by rw [← valD_fold, valD_dec]
      have := fold_w (decDigits n.toNat) 0 (dec_digit _) (by rw [h1]; omega)
      rw [h1] at this
      rw [show -((0 : Nat) : Int) = 0 from rfl] at this
      rw [this]; omega
    unfold numR numA
    rw [hg, hf, hv, if_neg (by decide), e]
    exact ⟨by rw [wrap_i64 (by omega) (by omega)]; omega, by simp⟩
def listT : List Int → List UInt8
  | [] => []
  | n :: r => 44 :: (itoa n ++ listT r)
theorem listL_cons : ∀ (n : Int) (l : List Int), listL (n :: l) = itoa n ++ listT l
  | n, [] => by simp [listL, listT]
  | n, m :: r => by
    show itoa n ++ 44 :: listL (m :: r) = itoa n ++ 44 :: (itoa m ++ listT r)
    rw [listL_cons m r]
def Stop2 (l : List UInt8) : Prop := ∀ c r, l = c :: r → digB c = false ∧ c.toNat ≠ 44 ∧ c.toNat ≠ 45
theorem stop_listT {l : List Int} {r : List UInt8} (hr : Stop2 r) : Stop (listT l ++ r) := by
  intro c q h
  cases l with
  | nil => exact (hr c q h).1
  | cons n l =>
    simp only [listT, List.cons_append, List.cons.injEq] at h
    rw [← h.1]; decide
theorem more_list : ∀ (l : List Int) (k : Nat) (r : List UInt8), l.length ≤ k → (∀ n ∈ l, InR n) → Stop2 r → moreL k (listT l ++ r) = (l, (listT l).length)
  | [], 0, r, _, _, _ => rfl
  | [], k + 1, r, _, _, hr => by
    unfold moreL
    rw [if_neg]
    · rfl
    · intro h
      cases r with
      | nil => cases h
      | cons c q =>
        simp only [listT, List.nil_append, List.head?_cons, Option.map_some, Option.some.injEq] at h
        exact (hr c q rfl).2.1 h
  | n :: l, k + 1, r, hk, hi, hr => by
    have hs := stop_listT (l := l) hr
    obtain ⟨h1, h2⟩ := num_itoa (hi n (by simp)) hs
    unfold moreL
    have e : (listT (n :: l) ++ r).tail = itoa n ++ (listT l ++ r) := by simp [listT]
    rw [if_pos (by rfl), e, h1, h2, List.drop_left, more_list l k r (by simp at hk; omega) (fun m hm => hi m (by simp [hm])) hr]
    simp [listT]; omega
theorem listT_len : ∀ l : List Int, l.length ≤ (listT l).length
  | [] => Nat.le_refl _
  | n :: l => by
    have := listT_len l
    simp [listT]; omega
theorem nums_listL {l : List Int} (hi : ∀ n ∈ l, InR n) {r : List UInt8} (hr : Stop2 r) : numsL (listL l ++ r) = (l, (listL l).length) := by
  cases l with
  | nil =>
    have h0 : numA (listL [] ++ r) = 0 := by
      show numA r = 0
      cases r with
      | nil => rfl
      | cons c q =>
        obtain ⟨h1, h2, h3⟩ := hr c q rfl
        have hn : negL (c :: q) = false := by unfold negL; simp; exact h3
        unfold numA figsL bodyL
        rw [hn, if_neg (by decide), List.takeWhile_cons, h1]; rfl
    unfold numsL
    rw [if_pos h0]; rfl
  | cons n l =>
    rw [listL_cons, List.append_assoc]
    obtain ⟨h1, h2⟩ := num_itoa (hi n (by simp)) (stop_listT (l := l) hr)
    have hne := List.length_pos_iff.2 (itoa_ne n)
    have hl := listT_len l
    unfold numsL
    rw [if_neg (by omega), h1, h2, List.drop_left, more_list l _ r (by simp; omega) (fun m hm => hi m (by simp [hm])) hr]
    simp
theorem rows_read : ∀ (ls : List (List Int)) (k : Nat), ls.length ≤ k → (∀ l ∈ ls, ∀ n ∈ l, InR n) → rowsR k (rowsL ls) = ls
  | [], 0, _, _ => rfl
  | [], k + 1, _, _ => by unfold rowsR; exact if_pos rfl
  | l :: r, k + 1, hk, hi => by
    have h1 := nums_listL (hi l (by simp)) (r := 47 :: rowsL r) (fun c q h => by
      simp only [List.cons.injEq] at h
      rw [← h.1]; decide)
    unfold rowsR
    rw [show rowsL (l :: r) = listL l ++ 47 :: rowsL r from rfl, h1, if_neg (by simp)]
    have e : (listL l ++ 47 :: rowsL r).drop ((listL l).length + 1) = rowsL r := by
      rw [List.drop_append]; simp
    simp only
    rw [e, rows_read r k (by simp at hk; omega) (fun x hx => hi x (by simp [hx]))]
theorem refP_code {s : Fs} (h : OkF s) : refP (codeL s) = s ∧ numA (codeL s) < (codeL s).length := by
  have hd := s.d.isLt
  have hin : InR (s.d.toNat : Int) := by unfold InR; omega
  obtain ⟨h1, h2⟩ := num_itoa (r := 59 :: (listL s.f ++ 59 :: rowsL s.l)) hin (fun c q h => by
    simp only [List.cons.injEq] at h
    rw [← h.1]; decide)
  have e : codeL s = itoa s.d.toNat ++ 59 :: (listL s.f ++ 59 :: rowsL s.l) := rfl
  have d1 : (codeL s).drop ((itoa (s.d.toNat : Int)).length + 1) = listL s.f ++ 59 :: rowsL s.l := by
    rw [e, List.drop_append]; simp
  have h3 := nums_listL h.f (r := 59 :: rowsL s.l) (fun c q h => by
      simp only [List.cons.injEq] at h
      rw [← h.1]; decide)
  have d2 : (codeL s).drop ((itoa (s.d.toNat : Int)).length + 2 + (listL s.f).length) = rowsL s.l := by
    rw [show (itoa (s.d.toNat : Int)).length + 2 + (listL s.f).length = ((itoa (s.d.toNat : Int)).length + 1) + ((listL s.f).length + 1) by omega, ← List.drop_drop, d1, List.drop_append]; simp
  have hl := rowsL_len s.l
  rw [← e] at h1 h2
  refine ⟨?_, by rw [h2, e]; simp⟩
  unfold refP
  rw [h1, h2, d1, h3]
  simp only
  rw [d2, rows_read s.l _ (by rw [e]; simp; omega) h.l]
  cases s with
  | mk d f l => congr 1; simp
theorem size_toL (c : ByteArray) : c.data.toList.length = c.size := rfl
theorem ref_ok {c : ByteArray} (hc : c.size ≤ 1000) : refOk c = okR c ∧ refB c = readB c := by
  have key : refOk c = true → okR c = true ∧ readB c = refP c.data.toList := by
    intro h
    unfold refOk at h
    simp only [Bool.and_eq_true, decide_eq_true_eq] at h
    have ho := refP_ok (l := c.data.toList) hc
    have e := eqB_iff.1 h.2
    rw [← e]
    refine ⟨okR_code ho, ?_⟩
    rw [readB_code ho, e]
  have back : okR c = true → refOk c = true := by
    intro h
    have h3 := h
    unfold okR at h3
    simp only [Bool.and_eq_true, decide_eq_true_eq] at h3
    have ho : OkF (readB c) := by
      unfold readB; rw [h, if_pos rfl]; exact parse_ok hc h3.1
    have e := code_read h
    obtain ⟨h1, h2⟩ := refP_code ho
    have e2 : c.data.toList = codeL (readB c) := by rw [← codeB_list, e]
    unfold refOk
    rw [← size_toL, e2, decide_eq_true h2, h1, e, eqB_self]; rfl
  have eq : refOk c = okR c := by
    rw [Bool.eq_iff_iff]; exact ⟨fun h => (key h).1, back⟩
  refine ⟨eq, ?_⟩
  unfold refB
  cases h : refOk c
  · rw [if_neg (by decide)]
    unfold readB
    rw [← eq, h, if_neg (by decide)]
  · rw [if_pos rfl, (key h).2]
end Go.Sim

set_option maxRecDepth 100000
namespace Go.Sim
open Enc (enc)
open Go.Proofs
open Go.Lib (itoa decDigits)
theorem mkB_app (a b : List UInt8) : mkB a ++ mkB b = mkB (a ++ b) := by
  rw [← mkB_of (mkB a ++ mkB b), app_list, mkB_list, mkB_list]
theorem itoa_step {n : Int} (h : n ≤ -10 ∨ 10 ≤ n) : itoa n = itoa (n.tdiv 10) ++ [UInt8.ofNat (48 + (n.tmod 10).natAbs)] := by
  have hd : (n.tdiv 10).natAbs = n.natAbs / 10 := Int.natAbs_tdiv n 10
  have hm : (n.tmod 10).natAbs = n.natAbs % 10 := Int.natAbs_tmod n 10
  rcases h with h | h
  · have h1 : n < 0 := by omega
    have h2 : n.tdiv 10 < 0 := by
      have e1 : n.tdiv 10 = -((-n).tdiv 10) := by rw [Int.neg_tdiv, Int.neg_neg]
      rw [e1, Int.tdiv_eq_ediv_of_nonneg (by omega)]; omega
    unfold Go.Lib.itoa
    rw [if_pos h1, if_pos h2, dec_step n.natAbs (by omega), hd, hm]; rfl
  · have h1 : ¬ n < 0 := by omega
    have h2 : ¬ n.tdiv 10 < 0 := by
      rw [Int.tdiv_eq_ediv_of_nonneg (by omega)]; omega
    unfold Go.Lib.itoa
    rw [if_neg h1, if_neg h2, dec_step n.toNat (by omega), hm]
    have e1 : n.natAbs = n.toNat := by omega
    have e2 : (n.tdiv 10).toNat = n.toNat / 10 := by omega
    rw [e1, e2]
theorem figB_step {n : Int} (h : n ≤ -10 ∨ 10 ≤ n) : figB n = figB (n.tdiv 10) ++ ⟨#[UInt8.ofNat (48 + (n.tmod 10).natAbs)]⟩ := by
  rw [figB_mk, figB_mk, itoa_step h]
  exact (mkB_app _ [_]).symm
theorem figB_pos {n : Int} (h0 : 0 ≤ n) (h1 : n < 10) : figB n = ⟨#[UInt8.ofNat (48 + n).toNat]⟩ := by
  unfold figB Go.Lib.itoa
  rw [if_neg (by omega), dec_small n.toNat (by omega), show (48 + n).toNat = 48 + n.toNat by omega]
theorem figB_neg {n : Int} (h0 : n < 0) (h1 : -10 < n) : figB n = ⟨#[45]⟩ ++ ⟨#[UInt8.ofNat (48 - n).toNat]⟩ := by
  rw [figB_mk]
  unfold Go.Lib.itoa
  rw [if_pos h0, dec_small n.natAbs (by omega), show (48 - n).toNat = 48 + n.natAbs by omega]
  exact (mkB_app [45] [_]).symm
theorem ref03_Figures (k : Nat) : ∀ n : Int, n.natAbs ≤ k → InR n → Fun Tryz.prog 28 [.int .i64 n] (.t (.str (figB n))) := by
  induction k using Nat.strongRecOn with
  | ind k ih =>
    intro n hk hn
    have hn' := hn
    unfold InR at hn'
    by_cases hs : -10 < n ∧ n < 10
    · obtain ⟨ha, hb⟩ := hs
      by_cases h0 : n < 0
      · have hw : IntKind.u8.wrap (48 - n) = 48 - n := wrap_u8 (by omega) (by omega)
        refine Fun.go (b := false) Tryz.func28 rfl rfl (by kernel_rfl) (by kernel_rfl) ?_
        simp -implicitDefEqProofs (disch := first | exact dsch | fail) only [go_sem, ↓reduceIte, Nat.reduceEqDiff, ha, hb, h0, hw]
        rw [figB_neg h0 ha]
      · have hw : IntKind.u8.wrap (48 + n) = 48 + n := wrap_u8 (by omega) (by omega)
        refine Fun.go (b := false) Tryz.func28 rfl rfl (by kernel_rfl) (by kernel_rfl) ?_
        simp -implicitDefEqProofs (disch := first | exact dsch | fail) only [go_sem, ↓reduceIte, Nat.reduceEqDiff, ha, hb, h0, hw]
        rw [figB_pos (by omega) hb]
    · have hq : (n.tdiv 10).natAbs = n.natAbs / 10 := Int.natAbs_tdiv n 10
      have hm : (n.tmod 10).natAbs = n.natAbs % 10 := Int.natAbs_tmod n 10
      have hin : InR (n.tdiv 10) := by unfold InR; omega
      have hsz := figB_size hin
      have hst := figB_step (n := n) (by omega)
      have pu : ∀ {K : Kp}, @Pu _ Tryz.prog 28 [.int .i64 (n.tdiv 10)] K = K.k (.t (.str (figB (n.tdiv 10)))) := (ih (n.natAbs / 10) (by omega) (n.tdiv 10) (by omega) hin).pu
      have hw0 : IntKind.i64.wrap (n.tdiv 10) = n.tdiv 10 := wrap_i64 (by omega) (by omega)
      have hno : (-10 < n) = False ∨ (n < 10) = False := by
        by_cases h : -10 < n
        · exact .inr (eq_false fun h2 => hs ⟨h, h2⟩)
        · exact .inl (eq_false h)
      by_cases h0 : n.tmod 10 < 0
      · have e : (48 + (0 - n.tmod 10)) = ((48 + (n.tmod 10).natAbs : Nat) : Int) := by omega
        have hw : IntKind.u8.wrap (48 + (0 - n.tmod 10)) = ((48 + (n.tmod 10).natAbs : Nat) : Int) := by rw [e]; exact wrap_u8 (by omega) (by omega)
        refine Fun.go (b := false) Tryz.func28 rfl rfl (by kernel_rfl) (by kernel_rfl) ?_
        rcases hno with ha | ha
        · simp -implicitDefEqProofs (disch := first | exact dsch | fail) only [go_sem, ↓reduceIte, Nat.reduceEqDiff, ha, h0, hw, hw0, binT_quo (show (10 : Int) ≠ 0 by decide), binT_rem (show (10 : Int) ≠ 0 by decide), pu]
          rw [hst]; rfl
        · by_cases hb : -10 < n
          · simp -implicitDefEqProofs (disch := first | exact dsch | fail) only [go_sem, ↓reduceIte, Nat.reduceEqDiff, ha, hb, h0, hw, hw0, binT_quo (show (10 : Int) ≠ 0 by decide), binT_rem (show (10 : Int) ≠ 0 by decide), pu]
            rw [hst]; rfl
          · simp -implicitDefEqProofs (disch := first | exact dsch | fail) only [go_sem, ↓reduceIte, Nat.reduceEqDiff, ha, hb, h0, hw, hw0, binT_quo (show (10 : Int) ≠ 0 by decide), binT_rem (show (10 : Int) ≠ 0 by decide), pu]
            rw [hst]; rfl
      · have e : (48 + n.tmod 10) = ((48 + (n.tmod 10).natAbs : Nat) : Int) := by omega
        have hw : IntKind.u8.wrap (48 + n.tmod 10) = ((48 + (n.tmod 10).natAbs : Nat) : Int) := by rw [e]; exact wrap_u8 (by omega) (by omega)
        refine Fun.go (b := false) Tryz.func28 rfl rfl (by kernel_rfl) (by kernel_rfl) ?_
        by_cases hb : -10 < n
        · have ha : ¬ n < 10 := fun h => hs ⟨hb, h⟩
          simp -implicitDefEqProofs (disch := first | exact dsch | fail) only [go_sem, ↓reduceIte, Nat.reduceEqDiff, ha, hb, h0, hw, hw0, binT_quo (show (10 : Int) ≠ 0 by decide), binT_rem (show (10 : Int) ≠ 0 by decide), pu]
          rw [hst]; rfl
        · simp -implicitDefEqProofs (disch := first | exact dsch | fail) only [go_sem, ↓reduceIte, Nat.reduceEqDiff, hb, h0, hw, hw0, binT_quo (show (10 : Int) ≠ 0 by decide), binT_rem (show (10 : Int) ≠ 0 by decide), pu]
          rw [hst]; rfl
@[go_sem] theorem pu_Figures {n : Int} (h : InR n) {K : Kp} : @Pu _ Tryz.prog 28 [.int .i64 n] K = K.k (.t (.str (figB n))) := (ref03_Figures _ n (Nat.le_refl _) h).pu

theorem listB_take {l : List Int} {i : Nat} (h : i < l.length) : listB (l.take (i + 1)) = (if 0 < i then listB (l.take i) ++ comma else listB (l.take i)) ++ figB (gd l i) := by
  have key : ∀ (a : List Int) (n : Int), listL (a ++ [n]) = (if a = [] then listL a else listL a ++ [44]) ++ itoa n := by
    intro a n
    cases a with
    | nil => rfl
    | cons m a =>
      rw [List.cons_append, listL_cons, if_neg (by simp), listL_cons]
      have : ∀ b : List Int, listT (b ++ [n]) = listT b ++ 44 :: itoa n := by
        intro b
        induction b with
        | nil => simp [listT]
        | cons x b ih => simp [listT, ih]
      rw [this]; simp
  rw [← mkB_of (listB (l.take (i + 1))), listB_list, ← take_gd h, key]
  by_cases h0 : 0 < i
  · rw [if_pos h0, if_neg (by intro e; have := congrArg List.length e; rw [List.length_take] at this; simp only [List.length_nil] at this; omega)]
    rw [← mkB_of (listB (l.take i) ++ comma ++ figB (gd l i))]
    congr 1
    rw [app_list, app_list, listB_list]; simp [comma, figB_mk, mkB_list]
  · have e : i = 0 := by omega
    subst e
    rw [if_neg h0, List.take_zero, if_pos rfl]
    rw [← mkB_of (listB [] ++ figB (gd l 0))]
    congr 1
theorem ref20_list {l : List Int} (hr : ∀ n ∈ l, InR n) (hl : l.length ≤ 1000000) : Fun Tryz.prog 29 [enc l] (.t (.str (listB l))) := by
  refine Fun.go (b := false) Tryz.func29 rfl rfl (by kernel_rfl) (by kernel_rfl) ?_
  simp -implicitDefEqProofs (disch := first | exact dsch | fail) only [go_sem, ↓reduceIte, Nat.reduceEqDiff]
  refine loop_k (n := l.length) [0, 2] (by kernel_rfl) (fun i e H => e 4 = .t (.int .i64 i) ∧ e 3 = .t (.str (listB (l.take i)))) ?_ ?_
  · rintro i e H hi hk ⟨h4, h3⟩
    simp only [keepP, go_sem, ↓reduceIte, Nat.reduceEqDiff, and_true] at hk
    by_cases hlt : i < l.length
    · have hn := hr _ (gd_mem hlt)
      have hsz := listB_size (l := l.take i) (fun n hn => hr n (List.mem_of_mem_take hn))
      have hle : (l.take i).length = i := by rw [List.length_take]; omega
      have hf := figB_size hn
      have hst := listB_take hlt
      by_cases h0 : 0 < i
      · rw [if_pos h0] at hst
        have h0' : (0 : Int) < i := by omega
        simp -implicitDefEqProofs (disch := first | exact dsch | fail) only [go_sem, ↓reduceIte, Nat.reduceEqDiff, hk, h4, h3, hn, h0']
        refine ⟨hlt, ?_⟩
        rw [hst]; rfl
      · rw [if_neg h0] at hst
        have h0' : ¬ (0 : Int) < i := by omega
        simp -implicitDefEqProofs (disch := first | exact dsch | fail) only [go_sem, ↓reduceIte, Nat.reduceEqDiff, hk, h4, h3, hn, h0']
        refine ⟨hlt, ?_⟩
        rw [hst]
    · obtain rfl : i = l.length := by omega
      rw [List.take_length] at h3
      simp -implicitDefEqProofs (disch := first | exact dsch | fail) only [go_sem, ↓reduceIte, Nat.reduceEqDiff, hk, h4, h3]
  · simp -implicitDefEqProofs (disch := first | exact dsch | fail) only [go_sem, ↓reduceIte, Nat.reduceEqDiff]
    rfl
@[go_sem] theorem pu_list20 {l : List Int} (hr : ∀ n ∈ l, InR n) (hl : l.length ≤ 1000000) {K : Kp} : @Pu _ Tryz.prog 29 [enc l] K = K.k (.t (.str (listB l))) := (ref20_list hr hl).pu
theorem ref20_Code {s : Fs} (h : OkF s) : Fun Tryz.prog 20 [enc s] (.t (.str (codeB s))) := by
  have hf := h.f
  have hfl : s.f.length ≤ 1000000 := by have := h.fl; omega
  have hin : InR (s.d.toNat : Int) := by have := s.d.isLt; unfold InR; omega
  have hd := figB_size hin
  have hs := listB_size h.f
  have h2 := h.fl
  have hll := h.ll
  have hu : (0 : Int) ≤ s.d.toNat ∧ ((s.d.toNat : Nat) : Int) ≤ 9223372036854775807 := ⟨by omega, by have := s.d.isLt; omega⟩
  have hw : IntKind.i64.wrap (s.d.toNat : Int) = s.d.toNat := wrap_i64 (by omega) hu.2
  refine Fun.go (b := false) Tryz.func20 rfl rfl (by kernel_rfl) (by kernel_rfl) ?_
  simp -implicitDefEqProofs (disch := first | exact dsch | fail) only [go_sem, ↓reduceIte, Nat.reduceEqDiff, hu, hw, hf, hfl, hin]
  refine loop_k (n := s.l.length) [1, 2] (by kernel_rfl) (fun i e H => e 4 = .t (.int .i64 i) ∧ e 3 = .t (.str (codeTo s i)) ∧ H = [⟨[.t (enc s)], 3, false⟩]) ?_ ?_
  · rintro i e H hi hk ⟨h4, h3, rfl⟩
    simp only [keepP, go_sem, ↓reduceIte, Nat.reduceEqDiff, and_true] at hk
    have hz := codeTo_size h i hi
    by_cases hlt : i < s.l.length
    · have hn := h.l _ (gd_mem hlt)
      have hm := h.rl _ (gd_mem hlt)
      have hm' : (gd s.l i).length ≤ 1000000 := by omega
      have hy := listB_size hn
      simp -implicitDefEqProofs (disch := first | exact dsch | fail) only [go_sem, ↓reduceIte, Nat.reduceEqDiff, hk, h4, h3, hn, hm']
      refine ⟨hlt, ?_⟩
      show V.t (T.str (codeTo s i ++ listB (gd s.l i) ++ slash)) = V.t (T.str (codeTo s i ++ (listB (gd s.l i) ++ slash)))
      rw [ByteArray.append_assoc]
    · obtain rfl : i = s.l.length := by omega
      simp -implicitDefEqProofs (disch := first | exact dsch | fail) only [go_sem, ↓reduceIte, Nat.reduceEqDiff, hk, h4, h3]
      rfl
  · simp -implicitDefEqProofs (disch := first | exact dsch | fail) only [go_sem, ↓reduceIte, Nat.reduceEqDiff]
    rfl
@[go_sem] theorem pu_Code20 {s : Fs} (h : OkF s) {K : Kp} : @Pu _ Tryz.prog 20 [enc s] K = K.k (.t (.str (codeB s))) := (ref20_Code h).pu
theorem shl_shl1 (x : U32) (i : Nat) : x <<< i <<< 1 = x <<< (i + 1) := by rw [BitVec.shiftLeft_add]
theorem ref19_power {k : Nat} (hk : k ≤ 1000) : Fun Tryz.prog 71 [.int .i64 k] (.t (.int .u32 (((1#32 : U32) <<< k).toNat : Int))) := by
  refine Fun.go (b := false) Tryz.func71 rfl rfl (by kernel_rfl) (by kernel_rfl) ?_
  simp -implicitDefEqProofs (disch := first | exact dsch | fail) only [go_sem, ↓reduceIte, Nat.reduceEqDiff]
  refine loop_k (n := k) [0, 2] (by kernel_rfl) (fun i e H => e 3 = .t (.int .u32 (((1#32 : U32) <<< i).toNat : Int)) ∧ e 4 = .t (.int .i64 i)) ?_ ?_
  · rintro i e H hi hk ⟨h3, h4⟩
    simp only [keepP, go_sem, ↓reduceIte, Nat.reduceEqDiff, and_true] at hk
    by_cases hlt : i < k
    · simp -implicitDefEqProofs (disch := first | exact dsch | fail) only [go_sem, ↓reduceIte, Nat.reduceEqDiff, hk, h3, h4, shl_shl1]
      exact hlt
    · obtain rfl : i = k := by omega
      simp -implicitDefEqProofs (disch := first | exact dsch | fail) only [go_sem, ↓reduceIte, Nat.reduceEqDiff, hk, h3, h4]
  · simp -implicitDefEqProofs (disch := first | exact dsch | fail) only [go_sem, ↓reduceIte, Nat.reduceEqDiff, BitVec.shiftLeft_zero]
@[go_sem] theorem pu_power19 {k : Nat} (hk : k ≤ 1000) {K : Kp} : @Pu _ Tryz.prog 71 [.int .i64 k] K = K.k (.t (.int .u32 (((1#32 : U32) <<< k).toNat : Int))) := (ref19_power hk).pu
theorem shl_nat {k : Nat} (hk : k < 32) : ((1#32 : U32) <<< k).toNat = 2 ^ k := by
  have h : 2 ^ k < 2 ^ 32 := Nat.pow_lt_pow_right (by decide) hk
  rw [BitVec.toNat_shiftLeft, Nat.shiftLeft_eq]
  show 1 * 2 ^ k % 2 ^ 32 = _
  rw [Nat.one_mul, Nat.mod_eq_of_lt h]
theorem div_pow {xb} (x : U32) {k : Nat} (hk : k < 32) : binT .quo xb (.int .u32 (x.toNat : Int)) (.int .u32 (((1#32 : U32) <<< k).toNat : Int)) = some (.int .u32 ((x >>> k).toNat : Int)) := by
  have hp : 0 < 2 ^ k := Nat.pow_pos (by decide)
  rw [shl_nat hk, binT_quo (by omega)]
  have e : (x.toNat : Int).tdiv ((2 ^ k : Nat) : Int) = ((x >>> k).toNat : Int) := by
    rw [BitVec.toNat_ushiftRight, Nat.shiftRight_eq_div_pow]
    rw [Int.tdiv_eq_ediv_of_nonneg (by omega)]; rfl
  rw [e, wrapB]
theorem ref19_Has {s : Fs} {k : Nat} (hk : k < 32) : Fun Tryz.prog 49 [enc s, .int .i64 k] (.t (.bool (s.d.getLsbD k))) := by
  have hd := fun xb => div_pow (xb := xb) s.d hk
  refine Fun.go (b := false) Tryz.func49 rfl rfl (by kernel_rfl) (by kernel_rfl) ?_
  simp -implicitDefEqProofs (disch := first | exact dsch | fail) only [go_sem, ↓reduceIte, Nat.reduceEqDiff, hd]
@[go_sem] theorem pu_Has19 {s : Fs} {k : Nat} (hk : k < 32) {K : Kp} : @Pu _ Tryz.prog 49 [enc s, .int .i64 k] K = K.k (.t (.bool (s.d.getLsbD k))) := (ref19_Has hk).pu
theorem ref20_Count {s : Fs} : Fun Tryz.prog 36 [enc s] (.t (.int .i64 (popC s.d))) := by
  rw [popC_cnt]
  refine Fun.go (b := false) Tryz.func36 rfl rfl (by kernel_rfl) (by kernel_rfl) ?_
  simp -implicitDefEqProofs (disch := first | exact dsch | fail) only [go_sem, ↓reduceIte, Nat.reduceEqDiff]
  refine loop_k (n := 32) [1, 2] (by kernel_rfl) (fun i e H => e 4 = .t (.int .i64 i) ∧ e 3 = .t (.int .i64 (cntTo s.d i)) ∧ H = [⟨[.t (enc s)], 3, false⟩]) ?_ ?_
  · rintro i e H hi hk ⟨h4, h3, rfl⟩
    simp only [keepP, go_sem, ↓reduceIte, Nat.reduceEqDiff, and_true] at hk
    have hc := cnt_le s.d i
    by_cases hlt : i < 32
    · have hst : cntTo s.d (i + 1) = cntTo s.d i + (s.d.getLsbD i).toNat := rfl
      have hlt' : (i : Int) < 32 := by omega
      cases hb : s.d.getLsbD i
      · rw [hb] at hst
        simp -implicitDefEqProofs (disch := first | exact dsch | fail) only [go_sem, ↓reduceIte, Nat.reduceEqDiff, hk, h4, h3, hlt, hlt', hb]
        rw [hst]; rfl
      · rw [hb] at hst
        simp -implicitDefEqProofs (disch := first | exact dsch | fail) only [go_sem, ↓reduceIte, Nat.reduceEqDiff, hk, h4, h3, hlt, hlt', hb]
        rw [hst]; rfl
    · obtain rfl : i = 32 := by omega
      simp -implicitDefEqProofs (disch := first | exact dsch | fail) only [go_sem, ↓reduceIte, Nat.reduceEqDiff, hk, h4, h3]
  · simp -implicitDefEqProofs (disch := first | exact dsch | fail) only [go_sem, ↓reduceIte, Nat.reduceEqDiff]
    rfl
@[go_sem] theorem pu_Count20 {s : Fs} {K : Kp} : @Pu _ Tryz.prog 36 [enc s] K = K.k (.t (.int .i64 (popC s.d))) := ref20_Count.pu
theorem ref20_Less {a b : Fs} (ha : OkF a) (hb : OkF b) : Fun Tryz.prog 23 [enc a, enc b] (.t (.bool (lessB a b))) := by
  have e : lessB a b = if popC a.d = popC b.d then ltB (codeB a) (codeB b) else decide ((popC a.d : Int) < popC b.d) := by
    rw [Bool.eq_iff_iff, less_iff]
    by_cases h : popC a.d = popC b.d
    · rw [if_pos h]; simp [h]
    · rw [if_neg h]; simp [h]
  rw [e]
  refine Fun.go (b := false) Tryz.func23 rfl rfl (by kernel_rfl) (by kernel_rfl) ?_
  by_cases h : popC a.d = popC b.d
  · rw [if_pos h]
    simp -implicitDefEqProofs (disch := first | exact dsch | fail) only [go_sem, ↓reduceIte, Nat.reduceEqDiff, ha, hb, h]
  · rw [if_neg h]
    have h' : ¬ (popC a.d : Int) = popC b.d := by omega
    simp -implicitDefEqProofs (disch := first | exact dsch | fail) only [go_sem, ↓reduceIte, Nat.reduceEqDiff, ha, hb, h']
@[go_sem] theorem pu_Less20 {a b : Fs} (ha : OkF a) (hb : OkF b) {K : Kp} : @Pu _ Tryz.prog 23 [enc a, enc b] K = K.k (.t (.bool (lessB a b))) := (ref20_Less ha hb).pu
end Go.Sim
