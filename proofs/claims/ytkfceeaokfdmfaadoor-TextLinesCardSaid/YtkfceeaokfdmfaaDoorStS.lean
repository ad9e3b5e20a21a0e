/- A part of the proof of a law of module cupola: StS. It has no conditions of its own. -/
import Derived.Test.YtkfceeaokfdmfaaDoorStR
set_option linter.all false
set_option maxRecDepth 100000
namespace Go.Sim
open Enc (enc)
open Go.Lib (itoa decDigits)
def digB (c : UInt8) : Bool := decide (48 ≤ c.toNat ∧ c.toNat ≤ 57)
def negL (l : List UInt8) : Bool := decide (l.head?.map (·.toNat) = some 45)
def stepW (n : Int) (c : UInt8) : Int := IntKind.i64.wrap (IntKind.i64.wrap (10 * n) - ((c.toNat : Int) - 48))
def bodyL (l : List UInt8) : List UInt8 := if negL l then l.tail else l
def figsL (l : List UInt8) : List UInt8 := (bodyL l).takeWhile digB
def numV (l : List UInt8) : Int := (figsL l).foldl stepW 0
def numA (l : List UInt8) : Nat := (negL l).toNat + (figsL l).length
def numR (l : List UInt8) : Int := if negL l then numV l else IntKind.i64.wrap (-(numV l))
def moreL : Nat → List UInt8 → List Int × Nat
  | 0, _ => ([], 0)
  | k + 1, l => if l.head?.map (·.toNat) = some 44 then (numR l.tail :: (moreL k (l.tail.drop (numA l.tail))).1, 1 + numA l.tail + (moreL k (l.tail.drop (numA l.tail))).2) else ([], 0)
def numsL (l : List UInt8) : List Int × Nat := if numA l = 0 then ([], 0) else (numR l :: (moreL l.length (l.drop (numA l))).1, numA l + (moreL l.length (l.drop (numA l))).2)
def rowsR : Nat → List UInt8 → List (List Int)
  | 0, _ => []
  | k + 1, l => if l = [] then [] else (numsL l).1 :: rowsR k (l.drop ((numsL l).2 + 1))
def refP (l : List UInt8) : Fs := ⟨BitVec.ofInt 32 (numR l), (numsL (l.drop (numA l + 1))).1, rowsR l.length (l.drop (numA l + 2 + (numsL (l.drop (numA l + 1))).2))⟩
def refOk (c : ByteArray) : Bool := decide (numA c.data.toList < c.size) && eqB (codeB (refP c.data.toList)) c
def refB (c : ByteArray) : Fs := if refOk c = true then refP c.data.toList else zeroF

theorem wrap_in (n : Int) : InR (IntKind.i64.wrap n) := by
  unfold InR
  rw [IntKind.wrap_i64]; omega
theorem foldW_in : ∀ (l : List UInt8) (a : Int), InR a → InR (l.foldl stepW a)
  | [], a, h => h
  | c :: l, a, _ => foldW_in l _ (wrap_in _)
theorem numV_in (l : List UInt8) : InR (numV l) := foldW_in _ 0 (by unfold InR; omega)
theorem numR_in (l : List UInt8) : InR (numR l) := by
  unfold numR
  split
  · exact numV_in l
  · exact wrap_in _
theorem body_le (l : List UInt8) : (negL l).toNat + (bodyL l).length ≤ l.length := by
  unfold bodyL
  cases h : negL l
  · simp
  · cases l with
    | nil => cases h
    | cons c r => simp; omega
theorem tw_len {p : UInt8 → Bool} : ∀ l : List UInt8, (l.takeWhile p).length ≤ l.length
  | [] => Nat.le_refl _
  | c :: l => by
    have := tw_len (p := p) l
    rw [List.takeWhile_cons]; split <;> simp <;> omega
theorem numA_le (l : List UInt8) : numA l ≤ l.length := by
  have := body_le l
  have h2 : (figsL l).length ≤ (bodyL l).length := tw_len _
  unfold numA; omega
theorem more_in : ∀ (k : Nat) (l : List UInt8), ∀ n ∈ (moreL k l).1, InR n
  | 0, l, n, h => by cases h
  | k + 1, l, n, h => by
    unfold moreL at h
    split at h
    · rcases List.mem_cons.1 h with rfl | h
      · exact numR_in _
      · exact more_in k _ n h
    · cases h
theorem more_le : ∀ (k : Nat) (l : List UInt8), (moreL k l).1.length ≤ (moreL k l).2 ∧ (moreL k l).2 ≤ l.length
  | 0, l => ⟨Nat.le_refl _, Nat.zero_le _⟩
  | k + 1, l => by
    unfold moreL
    split
    · rename_i hc
      obtain ⟨h1, h2⟩ := more_le k (l.tail.drop (numA l.tail))
      have h3 := numA_le l.tail
      cases l with
      | nil => simp at hc
      | cons c r =>
        simp only [List.tail_cons, List.length_cons, List.length_drop] at *
        omega
    · exact ⟨Nat.le_refl _, Nat.zero_le _⟩
theorem numsL_in (l : List UInt8) : ∀ n ∈ (numsL l).1, InR n := by
  intro n h
  unfold numsL at h
  split at h
  · cases h
  · rcases List.mem_cons.1 h with rfl | h
    · exact numR_in _
    · exact more_in _ _ n h
theorem numsL_le (l : List UInt8) : (numsL l).1.length ≤ (numsL l).2 ∧ (numsL l).2 ≤ l.length := by
  unfold numsL
  split
  · exact ⟨Nat.le_refl _, Nat.zero_le _⟩
  · have h1 := more_le l.length (l.drop (numA l))
    have h2 := numA_le l
    simp only [List.length_cons, List.length_drop] at *
    omega
theorem rowsR_in : ∀ (k : Nat) (l : List UInt8), (rowsR k l).length ≤ l.length ∧ ∀ r ∈ rowsR k l, (∀ n ∈ r, InR n) ∧ r.length ≤ l.length
  | 0, l => ⟨Nat.zero_le _, fun r h => by cases h⟩
  | k + 1, l => by
    unfold rowsR
    split
    · exact ⟨Nat.zero_le _, fun r h => by cases h⟩
    · rename_i hl
      have hp := List.length_pos_iff.2 hl
      obtain ⟨h1, h2⟩ := rowsR_in k (l.drop ((numsL l).2 + 1))
      have h3 := numsL_le l
      rw [List.length_drop] at h1
      refine ⟨by rw [List.length_cons]; omega, fun r hr => ?_⟩
      rcases List.mem_cons.1 hr with rfl | hr
      · exact ⟨numsL_in l, by omega⟩
      · have := h2 r hr
        rw [List.length_drop] at this
        exact ⟨this.1, by omega⟩
theorem refP_ok {l : List UInt8} (h : l.length ≤ 1000) : OkF (refP l) := by
  have h1 := numsL_le (l.drop (numA l + 1))
  obtain ⟨h2, h3⟩ := rowsR_in l.length (l.drop (numA l + 2 + (numsL (l.drop (numA l + 1))).2))
  rw [List.length_drop] at h1 h2
  refine ⟨numsL_in _, fun r hr => (h3 r hr).1, ?_, ?_, fun r hr => ?_⟩
  · show (numsL _).1.length ≤ 1000; omega
  · show (rowsR _ _).length ≤ 1000; omega
  · have := (h3 r hr).2
    rw [List.length_drop] at this; omega

theorem digB_of {c : UInt8} (h : digit c) : digB c = true := by unfold digB; unfold digit at h; simpa using h
def Stop (l : List UInt8) : Prop := ∀ c r, l = c :: r → digB c = false
theorem tw_dec {a b : List UInt8} (ha : ∀ c ∈ a, digB c = true) (hb : Stop b) : (a ++ b).takeWhile digB = a := by
  induction a with
  | nil =>
    cases b with
    | nil => rfl
    | cons c r => rw [List.nil_append, List.takeWhile_cons, hb c r rfl]; rfl
  | cons x a ih =>
    rw [List.cons_append, List.takeWhile_cons, ha x (by simp), if_pos rfl, ih (fun c hc => ha c (by simp [hc]))]
theorem fold_w : ∀ (l : List UInt8) (a : Nat), (∀ c ∈ l, digit c) → l.foldl stepD a ≤ 9223372036854775808 → l.foldl stepW (-(a : Int)) = -((l.foldl stepD a : Nat) : Int)
  | [], a, _, _ => rfl
  | c :: l, a, hd, h => by
    have hc := hd c (by simp)
    unfold digit at hc
    have hg := fold_ge l (stepD a c)
    have e : (c :: l).foldl stepD a = l.foldl stepD (stepD a c) := rfl
    rw [e] at h ⊢
    have hs : stepD a c = 10 * a + (c.toNat - 48) := rfl
    have hw : stepW (-(a : Int)) c = -((stepD a c : Nat) : Int) := by
      unfold stepW
      rw [wrap_i64 (n := 10 * -(a : Int)) (by omega) (by omega), wrap_i64 (by omega) (by omega), hs]; omega
    show l.foldl stepW (stepW (-(a : Int)) c) = _
    rw [hw]
    exact fold_w l _ (fun x hx => hd x (by simp [hx])) h
theorem neg_dec (u : Nat) (r : List UInt8) : negL (decDigits u ++ r) = false := by
  have h0 := dec_digit u
  have h2 := dec_ne u
  cases hl : decDigits u with
  | nil => exact absurd hl h2
  | cons c q =>
    rw [hl] at h0
    have hc := h0 c (by simp)
    unfold digit at hc
    unfold negL
    simp; omega
theorem num_itoa {n : Int} (h : InR n) {r : List UInt8} (hr : Stop r) : numR (itoa n ++ r) = n ∧ numA (itoa n ++ r) = (itoa n).length := by
  unfold InR at h
  by_cases hn : n < 0
  · have e : itoa n = 45 :: decDigits n.natAbs := by unfold Go.Lib.itoa; rw [if_pos hn]
    have hg : negL (itoa n ++ r) = true := by rw [e]; rfl
    have hf : figsL (itoa n ++ r) = decDigits n.natAbs := by
      unfold figsL bodyL; rw [hg, if_pos rfl, e, List.cons_append, List.tail_cons]
      exact tw_dec (fun c hc => digB_of (dec_digit _ c hc)) hr
    have hv : numV (itoa n ++ r) = n := by
      unfold numV; rw [hf]
      have h1 : (decDigits n.natAbs).foldl stepD 0 = n.natAbs := by rw [← valD_fold, valD_dec]
      have := fold_w (decDigits n.natAbs) 0 (dec_digit _) (by rw [h1]; omega)
      rw [h1] at this
      rw [show -((0 : Nat) : Int) = 0 from rfl] at this
      rw [this]; omega
    unfold numR numA
    rw [hg, hf, hv, if_pos rfl, e]
    exact ⟨rfl, by simp; omega⟩
  · have e : itoa n = decDigits n.toNat := by unfold Go.Lib.itoa; rw [if_neg hn]
    have hg : negL (itoa n ++ r) = false := by rw [e]; exact neg_dec _ _
    have hf : figsL (itoa n ++ r) = decDigits n.toNat := by
      unfold figsL bodyL; rw [hg, if_neg (by decide), e]
      exact tw_dec (fun c hc => digB_of (dec_digit _ c hc)) hr
    have hv : numV (itoa n ++ r) = -n := by
      unfold numV; rw [hf]
      have h1 : (decDigits n.toNat).foldl stepD 0 = n.toNat := by rw [← valD_fold, valD_dec]
      have := fold_w (decDigits n.toNat) 0 (dec_digit _) (by rw [h1]; omega)
      rw [h1] at this
      rw [show -((0 : Nat) : Int) = 0 from rfl] at this
      rw [this]; omega
    unfold numR numA
    rw [hg, hf, hv, if_neg (by decide), e]
    exact ⟨by rw [wrap_i64 (by omega) (by omega)]; omega, by simp⟩
def listT : List Int → List UInt8
  | [] => []
  | n :: r => 44 :: (itoa n ++ listT r)
theorem listL_cons : ∀ (n : Int) (l : List Int), listL (n :: l) = itoa n ++ listT l
  | n, [] => by simp [listL, listT]
  | n, m :: r => by
    show itoa n ++ 44 :: listL (m :: r) = itoa n ++ 44 :: (itoa m ++ listT r)
    rw [listL_cons m r]
def Stop2 (l : List UInt8) : Prop := ∀ c r, l = c :: r → digB c = false ∧ c.toNat ≠ 44 ∧ c.toNat ≠ 45
theorem stop_listT {l : List Int} {r : List UInt8} (hr : Stop2 r) : Stop (listT l ++ r) := by
  intro c q h
  cases l with
  | nil => exact (hr c q h).1
  | cons n l =>
    simp only [listT, List.cons_append, List.cons.injEq] at h
    rw [← h.1]; decide
theorem more_list : ∀ (l : List Int) (k : Nat) (r : List UInt8), l.length ≤ k → (∀ n ∈ l, InR n) → Stop2 r → moreL k (listT l ++ r) = (l, (listT l).length)
  | [], 0, r, _, _, _ => rfl
  | [], k + 1, r, _, _, hr => by
    unfold moreL
    rw [if_neg]
    · rfl
    · intro h
      cases r with
      | nil => cases h
      | cons c q =>
        simp only [listT, List.nil_append, List.head?_cons, Option.map_some, Option.some.injEq] at h
        exact (hr c q rfl).2.1 h
  | n :: l, k + 1, r, hk, hi, hr => by
    have hs := stop_listT (l := l) hr
    obtain ⟨h1, h2⟩ := num_itoa (hi n (by simp)) hs
    unfold moreL
    have e : (listT (n :: l) ++ r).tail = itoa n ++ (listT l ++ r) := by simp [listT]
    rw [if_pos (by rfl), e, h1, h2, List.drop_left, more_list l k r (by simp at hk; omega) (fun m hm => hi m (by simp [hm])) hr]
    simp [listT]; omega
theorem listT_len : ∀ l : List Int, l.length ≤ (listT l).length
  | [] => Nat.le_refl _
  | n :: l => by
    have := listT_len l
    simp [listT]; omega
theorem nums_listL {l : List Int} (hi : ∀ n ∈ l, InR n) {r : List UInt8} (hr : Stop2 r) : numsL (listL l ++ r) = (l, (listL l).length) := by
  cases l with
  | nil =>
    have h0 : numA (listL [] ++ r) = 0 := by
      show numA r = 0
      cases r with
      | nil => rfl
      | cons c q =>
        obtain ⟨h1, h2, h3⟩ := hr c q rfl
        have hn : negL (c :: q) = false := by unfold negL; simp; exact h3
        unfold numA figsL bodyL
        rw [hn, if_neg (by decide), List.takeWhile_cons, h1]; rfl
    unfold numsL
    rw [if_pos h0]; rfl
  | cons n l =>
    rw [listL_cons, List.append_assoc]
    obtain ⟨h1, h2⟩ := num_itoa (hi n (by simp)) (stop_listT (l := l) hr)
    have hne := List.length_pos_iff.2 (itoa_ne n)
    have hl := listT_len l
    unfold numsL
    rw [if_neg (by omega), h1, h2, List.drop_left, more_list l _ r (by simp; omega) (fun m hm => hi m (by simp [hm])) hr]
    simp
theorem rows_read : ∀ (ls : List (List Int)) (k : Nat), ls.length ≤ k → (∀ l ∈ ls, ∀ n ∈ l, InR n) → rowsR k (rowsL ls) = ls
  | [], 0, _, _ => rfl
  | [], k + 1, _, _ => by unfold rowsR; exact if_pos rfl
  | l :: r, k + 1, hk, hi => by
    have h1 := nums_listL (hi l (by simp)) (r := 47 :: rowsL r) (fun c q h => by
      simp only [List.cons.injEq] at h
      rw [← h.1]; decide)
    unfold rowsR
    rw [show rowsL (l :: r) = listL l ++ 47 :: rowsL r from rfl, h1, if_neg (by simp)]
    have e : (listL l ++ 47 :: rowsL r).drop ((listL l).length + 1) = rowsL r := by
      rw [List.drop_append]; simp
    simp only
    rw [e, rows_read r k (by simp at hk; omega) (fun x hx => hi x (by simp [hx]))]
theorem refP_code {s : Fs} (h : OkF s) : refP (codeL s) = s ∧ numA (codeL s) < (codeL s).length := by
  have hd := s.d.isLt
  have hin : InR (s.d.toNat : Int) := by unfold InR; omega
  obtain ⟨h1, h2⟩ := num_itoa (r := 59 :: (listL s.f ++ 59 :: rowsL s.l)) hin (fun c q h => by
    simp only [List.cons.injEq] at h
    rw [← h.1]; decide)
  have e : codeL s = itoa s.d.toNat ++ 59 :: (listL s.f ++ 59 :: rowsL s.l) := rfl
  have d1 : (codeL s).drop ((itoa (s.d.toNat : Int)).length + 1) = listL s.f ++ 59 :: rowsL s.l := by
    rw [e, List.drop_append]; simp
  have h3 := nums_listL h.f (r := 59 :: rowsL s.l) (fun c q h => by
      simp only [List.cons.injEq] at h
      rw [← h.1]; decide)
  have d2 : (codeL s).drop ((itoa (s.d.toNat : Int)).length + 2 + (listL s.f).length) = rowsL s.l := by
    rw [show (itoa (s.d.toNat : Int)).length + 2 + (listL s.f).length = ((itoa (s.d.toNat : Int)).length + 1) + ((listL s.f).length + 1) by omega, ← List.drop_drop, d1, List.drop_append]; simp
  have hl := rowsL_len s.l
  rw [← e] at h1 h2
  refine ⟨?_, by rw [h2, e]; simp⟩
  unfold refP
  rw [h1, h2, d1, h3]
  simp only
  rw [d2, rows_read s.l _ (by rw [e]; simp; omega) h.l]
  cases s with
  | mk d f l => congr 1; simp
theorem size_toL (c : ByteArray) : c.data.toList.length = c.size := rfl
theorem ref_ok {c : ByteArray} (hc : c.size ≤ 1000) : refOk c = okR c ∧ refB c = readB c := by
  have key : refOk c = true → okR c = true ∧ readB c = refP c.data.toList := by
    intro h
    unfold refOk at h
    simp only [Bool.and_eq_true, decide_eq_true_eq] at h
    have ho := refP_ok (l := c.data.toList) hc
    have e := eqB_iff.1 h.2
    rw [← e]
    refine ⟨okR_code ho, ?_⟩
    rw [readB_code ho, e]
  have back : okR c = true → refOk c = true := by
    intro h
    have h3 := h
    unfold okR at h3
    simp only [Bool.and_eq_true, decide_eq_true_eq] at h3
    have ho : OkF (readB c) := by
      unfold readB; rw [h, if_pos rfl]; exact parse_ok hc h3.1
    have e := code_read h
    obtain ⟨h1, h2⟩ := refP_code ho
    have e2 : c.data.toList = codeL (readB c) := by rw [← codeB_list, e]
    unfold refOk
    rw [← size_toL, e2, decide_eq_true h2, h1, e, eqB_self]; rfl
  have eq : refOk c = okR c := by
    rw [Bool.eq_iff_iff]; exact ⟨fun h => (key h).1, back⟩
  refine ⟨eq, ?_⟩
  unfold refB
  cases h : refOk c
  · rw [if_neg (by decide)]
    unfold readB
    rw [← eq, h, if_neg (by decide)]
  · rw [if_pos rfl, (key h).2]
end Go.Sim
