/- A part of the proof of a law of module cupola: TxP, TxQ. It has no conditions of its own. -/
import Derived.Test.YtkfceeaokfdmfaaDoorTxI
set_option linter.all false
set_option maxRecDepth 100000
namespace Go.Sim
open Enc (enc)
open Go.Lib (itoa decDigits)
def blank : ByteArray := ⟨#[32]⟩
def fI (op : Int) : Nat → Bool
  | 0 => dI op
  | 1 => aI op
  | 2 => bI op
  | 3 => lI op
  | _ => false
def In.g (x : In) : Nat → Int
  | 0 => x.d
  | 1 => x.a
  | 2 => x.b
  | 3 => x.loc
  | _ => 0
def In.s (x : In) (k : Nat) (v : Int) : In := match k with
  | 0 => ⟨x.op, v, x.a, x.b, x.loc, x.imm⟩
  | 1 => ⟨x.op, x.d, v, x.b, x.loc, x.imm⟩
  | 2 => ⟨x.op, x.d, x.a, v, x.loc, x.imm⟩
  | 3 => ⟨x.op, x.d, x.a, x.b, v, x.imm⟩
  | _ => x
def In.m (x : In) (v : Int) : In := ⟨x.op, x.d, x.a, x.b, x.loc, v⟩
def wordsTo (x : In) : Nat → ByteArray
  | 0 => (rowI x.op).1
  | k + 1 => if fI x.op k then wordsTo x k ++ (blank ++ figB (x.g k)) else wordsTo x k
def lineB (x : In) : ByteArray := if (rowI x.op).1.size = 0 then ⟨#[63]⟩ else if mI x.op then wordsTo x 5 ++ (blank ++ figB x.imm) else wordsTo x 5
structure WfI (x : In) : Prop where
  op : InR x.op
  g : ∀ k, InR (x.g k)
  imm : InR x.imm
theorem row_size (op : Int) : (rowI op).1.size ≤ 4 := by
  unfold rowI
  split
  · rename_i h
    obtain ⟨h0, h1⟩ := h
    obtain ⟨n, rfl⟩ := Int.eq_ofNat_of_zero_le h0
    match n, h1 with
    | 0, _ | 1, _ | 2, _ | 3, _ | 4, _ | 5, _ | 6, _ | 7, _ | 8, _ | 9, _ | 10, _ | 11, _ | 12, _ | 13, _ | 14, _ => decide +kernel
    | n + 15, h => omega
  · decide
theorem words_size {x : In} (h : WfI x) : ∀ k, (wordsTo x k).size ≤ 4 + 22 * k
  | 0 => row_size x.op
  | k + 1 => by
    have h1 := words_size h k
    have h2 := figB_size (h.g k)
    unfold wordsTo
    split
    · rw [size_app, size_app, show blank.size = 1 from rfl]; omega
    · omega
def opB (s : ByteArray) : Int := match (List.range 14).find? fun n : Nat => eqB (rowI ((n : Int) + 1)).1 s with
  | some n => n + 1
  | none => 0
def pStep (op : Int) (k : Nat) (p : In × List ByteArray) : In × List ByteArray := if fI op k = true ∧ p.2 ≠ [] then (p.1.s k (atoiN (gd p.2 0)), p.2.drop 1) else p
def pTo (op : Int) (w : List ByteArray) : Nat → In × List ByteArray
  | 0 => (⟨op, 0, 0, 0, 0, 0⟩, w)
  | k + 1 => pStep op k (pTo op w k)
def progI (w : List ByteArray) : In := if mI (opB (gd w 0)) = true ∧ (pTo (opB (gd w 0)) (w.drop 1) 5).2 ≠ [] then (pTo (opB (gd w 0)) (w.drop 1) 5).1.m (piN (gd (pTo (opB (gd w 0)) (w.drop 1) 5).2 0)) else (pTo (opB (gd w 0)) (w.drop 1) 5).1
def numF (n : Int) (c : UInt8) : Int := if 48 ≤ c.toNat ∧ c.toNat ≤ 57 then stepW n c else n
def numQ (s : ByteArray) : Int := if negL s.data.toList = true then s.data.toList.foldl numF 0 else IntKind.i64.wrap (-(s.data.toList.foldl numF 0))
def rStep (op : Int) (l : List ByteArray) (k : Nat) (p : In × Nat) : In × Nat := if fI op k = true then (p.1.s k (numQ (gd l p.2)), p.2 + 1) else p
def rTo (op : Int) (l : List ByteArray) : Nat → In × Nat
  | 0 => (⟨op, 0, 0, 0, 0, 0⟩, 0)
  | k + 1 => rStep op l k (rTo op l k)
def five : List ByteArray := [ByteArray.empty, ByteArray.empty, ByteArray.empty, ByteArray.empty, ByteArray.empty]
def refI (op : Int) (w : List ByteArray) : In := if mI op = true then (rTo op (w.drop 1 ++ five) 4).1.m (numQ (gd (w.drop 1 ++ five) (rTo op (w.drop 1 ++ five) 4).2)) else (rTo op (w.drop 1 ++ five) 4).1
def zeroI : In := ⟨0, 0, 0, 0, 0, 0⟩
def okP (s : ByteArray) : Bool := !decide (opB (gd (piecesB 32 s) 0) = 0) && eqB (lineB (progI (piecesB 32 s))) s
def resP (s : ByteArray) : In := if okP s = true then progI (piecesB 32 s) else zeroI
def hitR (s : ByteArray) (n : Nat) : Bool := eqB (rowI ((n : Int) + 1)).1 (gd (piecesB 32 s) 0) && eqB (lineB (refI ((n : Int) + 1) (piecesB 32 s))) s
def okRf (s : ByteArray) : Bool := ((List.range 14).find? (hitR s)).isSome
def resRf (s : ByteArray) : In := match (List.range 14).find? (hitR s) with
  | some n => refI ((n : Int) + 1) (piecesB 32 s)
  | none => zeroI

theorem pim_dec {u : Nat} (h : u < 18446744073709551616) : Go.Lib.parseUintB 64 (decDigits u) = .ok u := by
  unfold Go.Lib.parseUintB
  rw [if_neg (dec_ne u), pum_ok _ (by decide) _ _ (dec_digit u) (by rw [← valD_fold, valD_dec]; show u ≤ 18446744073709551615; omega), ← valD_fold, valD_dec]
theorem piN_fig {n : Int} (h : InR n) : piN (figB n) = n := by
  unfold InR at h
  have key : Go.Lib.parseIntB 64 (itoa n) = .ok n := by
    by_cases hn : n < 0
    · have e : itoa n = 45 :: decDigits n.natAbs := by unfold Go.Lib.itoa; rw [if_pos hn]
      rw [e]
      unfold Go.Lib.parseIntB
      have h45 : (45 : UInt8).toNat = 45 := rfl
      simp only [h45, or_true, if_true]
      rw [pim_dec (by omega)]
      simp only [not_true, false_and, if_false, true_and]
      rw [if_neg (by show ¬ 9223372036854775808 < n.natAbs; omega)]
      congr 1; omega
    · have e : itoa n = decDigits n.toNat := by unfold Go.Lib.itoa; rw [if_neg hn]
      have h0 := dec_digit n.toNat
      have h1 := pim_dec (u := n.toNat) (by omega)
      have h2 := dec_ne n.toNat
      rw [e]
      cases hl : decDigits n.toNat with
      | nil => exact absurd hl h2
      | cons c r =>
        rw [hl] at h0 h1
        have hc := h0 c (by simp)
        unfold digit at hc
        unfold Go.Lib.parseIntB
        simp only
        rw [if_neg (by omega), h1]
        simp only
        rw [if_neg (by show ¬ (¬ _ ∧ 9223372036854775808 ≤ n.toNat); omega), if_neg (by omega), if_neg (by omega)]
        congr 1; omega
  unfold piN
  show (match Go.Lib.parseIntB 64 (itoa n).toArray.toList with | .ok v => v | .syntax => 0 | .range => Go.Lib.intSat 64 _) = n
  rw [List.toList_toArray, key]
theorem piN_in (s : ByteArray) : InR (piN s) := by
  unfold piN
  cases h : Go.Lib.parseIntB 64 s.data.toList with
  | «syntax» => unfold InR; simp only; omega
  | range =>
    unfold InR Go.Lib.intSat; simp only
    split
    · show -9223372036854775808 ≤ -((9223372036854775808 : Nat) : Int) ∧ _; omega
    · show -9223372036854775808 ≤ ((9223372036854775807 : Nat) : Int) ∧ _; omega
  | ok v =>
    unfold InR; simp only
    unfold Go.Lib.parseIntB at h
    split at h
    · cases h
    · rename_i c r _
      simp only at h
      generalize Go.Lib.parseUintB 64 _ = m at h
      cases m with
      | «syntax» => cases h
      | range => cases h
      | ok u =>
        simp only at h
        split at h
        · cases h
        · split at h
          · cases h
          · rename_i h1 h2
            have e : (2 : Nat) ^ (64 - 1) = 9223372036854775808 := by decide
            rw [e] at h1 h2
            simp only [Go.Lib.NumEnd.ok.injEq] at h
            subst h
            split <;> omega
theorem numF_in : ∀ (l : List UInt8) (a : Int), InR a → InR (l.foldl numF a)
  | [], a, h => h
  | c :: l, a, h => numF_in l _ (by unfold numF; split; exact wrap_in _; exact h)
theorem numQ_in (s : ByteArray) : InR (numQ s) := by
  unfold numQ
  split
  · exact numF_in _ 0 (by unfold InR; omega)
  · exact wrap_in _
theorem numF_dec : ∀ (l : List UInt8) (a : Int), (∀ c ∈ l, digit c) → l.foldl numF a = l.foldl stepW a
  | [], a, _ => rfl
  | c :: l, a, h => by
    have hc := h c (by simp)
    unfold digit at hc
    show l.foldl numF (numF a c) = l.foldl stepW (stepW a c)
    have : numF a c = stepW a c := by unfold numF; rw [if_pos hc]
    rw [this]
    exact numF_dec l _ (fun x hx => h x (by simp [hx]))
theorem numQ_fig {n : Int} (h : InR n) : numQ (figB n) = n := by
  have hl : (figB n).data.toList = itoa n := by rw [figB_mk, mkB_list]
  have h' := h
  unfold InR at h'
  unfold numQ
  rw [hl]
  by_cases hn : n < 0
  · have e : itoa n = 45 :: decDigits n.natAbs := by unfold Go.Lib.itoa; rw [if_pos hn]
    rw [e, if_pos (show negL (45 :: decDigits n.natAbs) = true from rfl)]
    have h1 : (decDigits n.natAbs).foldl stepD 0 = n.natAbs := by rw [← valD_fold, valD_dec]
    have := fold_w (decDigits n.natAbs) 0 (dec_digit _) (by rw [h1]; omega)
    rw [h1, show -((0 : Nat) : Int) = 0 from rfl] at this
    show (decDigits n.natAbs).foldl numF (numF 0 45) = n
    rw [show numF 0 45 = 0 from by unfold numF; rw [if_neg (by decide)], numF_dec _ _ (dec_digit _), this]; omega
  · have e : itoa n = decDigits n.toNat := by unfold Go.Lib.itoa; rw [if_neg hn]
    have h1 : (decDigits n.toNat).foldl stepD 0 = n.toNat := by rw [← valD_fold, valD_dec]
    have := fold_w (decDigits n.toNat) 0 (dec_digit _) (by rw [h1]; omega)
    rw [h1, show -((0 : Nat) : Int) = 0 from rfl] at this
    have hg : negL (decDigits n.toNat) = false := by have := neg_dec n.toNat []; rwa [List.append_nil] at this
    rw [e, hg, if_neg (by decide), numF_dec _ _ (dec_digit _), this, Int.neg_neg, wrap_i64 (by omega) (by omega)]; omega

def joinSp : List (List UInt8) → List UInt8
  | [] => []
  | [a] => a
  | a :: b :: r => a ++ 32 :: joinSp (b :: r)
theorem join_pieces : ∀ (ws : List (List UInt8)) (a : List UInt8) (k : Nat), ws.length ≤ k → (∀ w ∈ a :: ws, ∀ c ∈ w, c ≠ 32) → (segsF 32 0 k (mkB (joinSp (a :: ws)))).map (·.1) = (a :: ws).map mkB
  | [], a, k, _, h => by
    rw [show joinSp [a] = a from rfl, segs_end (h a (by simp))]; rfl
  | b :: r, a, k + 1, hk, h => by
    rw [show joinSp (a :: b :: r) = a ++ 32 :: joinSp (b :: r) from rfl, segs_cut (h a (by simp)) (by decide), List.map_cons]
    rw [join_pieces r b k (by simp at hk; omega) (fun w hw => h w (List.mem_cons_of_mem _ hw))]
    simp
theorem join_len : ∀ (ws : List (List UInt8)) (a : List UInt8), ws.length ≤ (joinSp (a :: ws)).length
  | [], a => by simp
  | b :: r, a => by
    have := join_len r b
    show r.length + 1 ≤ (a ++ 32 :: joinSp (b :: r)).length
    simp; omega
theorem pieces_join {a : List UInt8} {ws : List (List UInt8)} (h : ∀ w ∈ a :: ws, ∀ c ∈ w, c ≠ 32) : piecesB 32 (mkB (joinSp (a :: ws))) = (a :: ws).map mkB := by
  unfold piecesB segs
  have := join_len ws a
  exact join_pieces ws a _ (by rw [mkB_size]; omega) h
def wordsL (x : In) : List (List UInt8) := (if dI x.op then [itoa x.d] else []) ++ ((if aI x.op then [itoa x.a] else []) ++ ((if bI x.op then [itoa x.b] else []) ++ ((if lI x.op then [itoa x.loc] else []) ++ (if mI x.op then [itoa x.imm] else []))))
theorem join_snoc (a : List UInt8) : ∀ (ws : List (List UInt8)) (b : List UInt8), joinSp (a :: (ws ++ [b])) = joinSp (a :: ws) ++ 32 :: b := by
  intro ws
  induction ws generalizing a with
  | nil => intro b; rfl
  | cons c r ih =>
    intro b
    show a ++ 32 :: joinSp (c :: (r ++ [b])) = (a ++ 32 :: joinSp (c :: r)) ++ 32 :: b
    rw [ih c b]; simp
theorem line_join {x : In} (h : (rowI x.op).1.size ≠ 0) : lineB x = mkB (joinSp ((rowI x.op).1.data.toList :: wordsL x)) := by
  have st : ∀ (ws : List (List UInt8)) (n : Int), mkB (joinSp ((rowI x.op).1.data.toList :: ws)) ++ (blank ++ figB n) = mkB (joinSp ((rowI x.op).1.data.toList :: (ws ++ [itoa n]))) := by
    intro ws n
    rw [join_snoc, show blank = mkB [32] from rfl, figB_mk, mkB_app, mkB_app]; rfl
  have s0 : (rowI x.op).1 = mkB (joinSp ((rowI x.op).1.data.toList :: [])) := (mkB_of _).symm
  have add : ∀ (b : Bool) (ws : List (List UInt8)) (n : Int), (if b = true then mkB (joinSp ((rowI x.op).1.data.toList :: ws)) ++ (blank ++ figB n) else mkB (joinSp ((rowI x.op).1.data.toList :: ws))) = mkB (joinSp ((rowI x.op).1.data.toList :: (ws ++ (if b = true then [itoa n] else [])))) := by
    intro b ws n
    cases b
    · simp
    · rw [if_pos rfl, if_pos rfl]; exact st ws n
  unfold lineB wordsL
  rw [if_neg h]
  have e5 : wordsTo x 5 = mkB (joinSp ((rowI x.op).1.data.toList :: ((((([] : List (List UInt8)) ++ (if dI x.op then [itoa x.d] else [])) ++ (if aI x.op then [itoa x.a] else [])) ++ (if bI x.op then [itoa x.b] else [])) ++ (if lI x.op then [itoa x.loc] else [])))) := by
    have h4 : wordsTo x 5 = wordsTo x 4 := by
      show (if false = true then _ else wordsTo x 4) = _
      exact if_neg (by decide)
    rw [h4]
    have w0 : wordsTo x 0 = mkB (joinSp ((rowI x.op).1.data.toList :: [])) := s0
    have w1 : wordsTo x 1 = mkB (joinSp ((rowI x.op).1.data.toList :: (([] : List (List UInt8)) ++ (if dI x.op then [itoa x.d] else [])))) := by
      show (if dI x.op = true then wordsTo x 0 ++ (blank ++ figB x.d) else wordsTo x 0) = _
      rw [w0]; exact add _ _ _
    have w2 : wordsTo x 2 = mkB (joinSp ((rowI x.op).1.data.toList :: ((([] : List (List UInt8)) ++ (if dI x.op then [itoa x.d] else [])) ++ (if aI x.op then [itoa x.a] else [])))) := by
      show (if aI x.op = true then wordsTo x 1 ++ (blank ++ figB x.a) else wordsTo x 1) = _
      rw [w1]; exact add _ _ _
    have w3 : wordsTo x 3 = mkB (joinSp ((rowI x.op).1.data.toList :: (((([] : List (List UInt8)) ++ (if dI x.op then [itoa x.d] else [])) ++ (if aI x.op then [itoa x.a] else [])) ++ (if bI x.op then [itoa x.b] else [])))) := by
      show (if bI x.op = true then wordsTo x 2 ++ (blank ++ figB x.b) else wordsTo x 2) = _
      rw [w2]; exact add _ _ _
    show (if lI x.op = true then wordsTo x 3 ++ (blank ++ figB x.loc) else wordsTo x 3) = _
    rw [w3]; exact add _ _ _
  rw [e5]
  have := add (mI x.op) ((((([] : List (List UInt8)) ++ (if dI x.op then [itoa x.d] else [])) ++ (if aI x.op then [itoa x.a] else [])) ++ (if bI x.op then [itoa x.b] else [])) ++ (if lI x.op then [itoa x.loc] else [])) x.imm
  refine this.trans ?_
  congr 3
  simp only [List.nil_append, List.append_assoc]
theorem figC_32 {c : UInt8} (h : figC c) : c ≠ 32 := by
  rintro rfl; rcases h with h | h
  · exact absurd h (by decide)
  · exact absurd h.1 (by decide)
theorem row_32 (op : Int) : ∀ c ∈ (rowI op).1.data.toList, c ≠ 32 := by
  by_cases h : 0 ≤ op ∧ op < 15
  · obtain ⟨h0, h1⟩ := h
    obtain ⟨n, rfl⟩ := Int.eq_ofNat_of_zero_le h0
    match n, h1 with
    | 0, _ | 1, _ | 2, _ | 3, _ | 4, _ | 5, _ | 6, _ | 7, _ | 8, _ | 9, _ | 10, _ | 11, _ | 12, _ | 13, _ | 14, _ => decide +kernel
    | n + 15, h => omega
  · have hr : rowI op = (⟨#[]⟩, 0) := by unfold rowI; rw [if_neg h]
    rw [hr]; intro c hc; cases hc
theorem words_32 (x : In) : ∀ w ∈ (rowI x.op).1.data.toList :: wordsL x, ∀ c ∈ w, c ≠ 32 := by
  intro w hw
  rcases List.mem_cons.1 hw with rfl | hw
  · exact row_32 _
  · intro c hc
    have : ∃ n : Int, w = itoa n := by
      unfold wordsL at hw
      have one : ∀ (b : Bool) (n : Int), w ∈ (if b = true then [itoa n] else []) → ∃ n : Int, w = itoa n := by
        intro b n h; cases b
        · cases h
        · rw [if_pos rfl, List.mem_singleton] at h; exact ⟨n, h⟩
      rcases List.mem_append.1 hw with h | hw
      · exact one _ _ h
      rcases List.mem_append.1 hw with h | hw
      · exact one _ _ h
      rcases List.mem_append.1 hw with h | hw
      · exact one _ _ h
      rcases List.mem_append.1 hw with h | hw
      · exact one _ _ h
      · exact one _ _ hw
    obtain ⟨n, rfl⟩ := this
    exact figC_32 (itoa_figC n c hc)
theorem line_pieces {x : In} (h : (rowI x.op).1.size ≠ 0) : piecesB 32 (lineB x) = (rowI x.op).1 :: (wordsL x).map mkB := by
  rw [line_join h, pieces_join (words_32 x), List.map_cons, mkB_of]
structure Nrm (x : In) : Prop where
  d : dI x.op = false → x.d = 0
  a : aI x.op = false → x.a = 0
  b : bI x.op = false → x.b = 0
  l : lI x.op = false → x.loc = 0
  m : mI x.op = false → x.imm = 0
theorem row_ne {op : Int} (h : (rowI op).1.size ≠ 0) : 1 ≤ op ∧ op ≤ 14 := by
  by_cases h0 : 0 ≤ op ∧ op < 15
  · by_cases e : op = 0
    · subst e; exact absurd rfl h
    · omega
  · have hr : rowI op = (⟨#[]⟩, 0) := by unfold rowI; rw [if_neg h0]
    rw [hr] at h; exact absurd rfl h
theorem op_back : ∀ n : Nat, n < 14 → opB (rowI ((n : Int) + 1)).1 = (n : Int) + 1 := by
  intro n hn
  match n, hn with
  | 0, _ | 1, _ | 2, _ | 3, _ | 4, _ | 5, _ | 6, _ | 7, _ | 8, _ | 9, _ | 10, _ | 11, _ | 12, _ | 13, _ => decide +kernel
end Go.Sim

set_option maxRecDepth 100000
namespace Go.Sim
open Enc (enc)
open Go.Lib (itoa decDigits)
theorem opB_name {op : Int} (h : (rowI op).1.size ≠ 0) : opB (rowI op).1 = op := by
  obtain ⟨h1, h2⟩ := row_ne h
  have := op_back (op - 1).toNat (by omega)
  rw [show (((op - 1).toNat : Nat) : Int) + 1 = op by omega] at this
  exact this
theorem atoi_mk {n : Int} (h : InR n) : atoiN (mkB (itoa n)) = n := by rw [← figB_mk]; exact atoiN_fig h
theorem pi_mk {n : Int} (h : InR n) : piN (mkB (itoa n)) = n := by rw [← figB_mk]; exact piN_fig h
theorem nq_mk {n : Int} (h : InR n) : numQ (mkB (itoa n)) = n := by rw [← figB_mk]; exact numQ_fig h
theorem words_map (x : In) : (wordsL x).map mkB = (if dI x.op then [mkB (itoa x.d)] else []) ++ ((if aI x.op then [mkB (itoa x.a)] else []) ++ ((if bI x.op then [mkB (itoa x.b)] else []) ++ ((if lI x.op then [mkB (itoa x.loc)] else []) ++ (if mI x.op then [mkB (itoa x.imm)] else [])))) := by
  unfold wordsL
  have one : ∀ (b : Bool) (n : Int), (if b = true then [itoa n] else []).map mkB = (if b = true then [mkB (itoa n)] else []) := by
    intro b n; cases b <;> rfl
  simp only [List.map_append, one]
theorem pstep {op : Int} {k : Nat} {y : In} {v : Int} {rest : List ByteArray} (hv : InR v) : pStep op k (y, (if fI op k = true then [mkB (itoa v)] else []) ++ rest) = (if fI op k = true then y.s k v else y, rest) := by
  unfold pStep
  cases fI op k
  · simp
  · simp only [if_true, true_and, List.cons_append, List.nil_append]
    rw [if_pos (by simp)]
    show (y.s k (atoiN (mkB (itoa v))), _) = _
    rw [atoi_mk hv]; rfl
theorem s_nrm {b : Bool} {y : In} {k : Nat} {v : Int} (h : b = false → v = 0) (hy : y.g k = 0) : (if b = true then y.s k v else y) = y.s k v := by
  cases b
  · rw [if_neg (by decide), h rfl]
    match k, hy with
    | 0, hy | 1, hy | 2, hy | 3, hy => cases y; simp only [In.g] at hy; subst hy; rfl
    | k + 4, _ => rfl
  · rw [if_pos rfl]
theorem prog_line {x : In} (w : WfI x) (n : Nrm x) (h : (rowI x.op).1.size ≠ 0) : progI (piecesB 32 (lineB x)) = x := by
  rw [line_pieces h]
  have ho := opB_name h
  unfold progI
  rw [show gd ((rowI x.op).1 :: (wordsL x).map mkB) 0 = (rowI x.op).1 from rfl, ho, show List.drop 1 ((rowI x.op).1 :: (wordsL x).map mkB) = (wordsL x).map mkB from rfl, words_map]
  have e5 : pTo x.op ((if dI x.op then [mkB (itoa x.d)] else []) ++ ((if aI x.op then [mkB (itoa x.a)] else []) ++ ((if bI x.op then [mkB (itoa x.b)] else []) ++ ((if lI x.op then [mkB (itoa x.loc)] else []) ++ (if mI x.op then [mkB (itoa x.imm)] else []))))) 5 = (⟨x.op, x.d, x.a, x.b, x.loc, 0⟩, if mI x.op then [mkB (itoa x.imm)] else []) := by
    show pStep x.op 4 (pStep x.op 3 (pStep x.op 2 (pStep x.op 1 (pStep x.op 0 (⟨x.op, 0, 0, 0, 0, 0⟩, _))))) = _
    have p0 := pstep (op := x.op) (k := 0) (y := ⟨x.op, 0, 0, 0, 0, 0⟩) (v := x.d) (rest := (if aI x.op then [mkB (itoa x.a)] else []) ++ ((if bI x.op then [mkB (itoa x.b)] else []) ++ ((if lI x.op then [mkB (itoa x.loc)] else []) ++ (if mI x.op then [mkB (itoa x.imm)] else [])))) (w.g 0)
    rw [s_nrm (b := fI x.op 0) n.d rfl] at p0
    have p1 := pstep (op := x.op) (k := 1) (y := ⟨x.op, x.d, 0, 0, 0, 0⟩) (v := x.a) (rest := (if bI x.op then [mkB (itoa x.b)] else []) ++ ((if lI x.op then [mkB (itoa x.loc)] else []) ++ (if mI x.op then [mkB (itoa x.imm)] else []))) (w.g 1)
    rw [s_nrm (b := fI x.op 1) n.a rfl] at p1
    have p2 := pstep (op := x.op) (k := 2) (y := ⟨x.op, x.d, x.a, 0, 0, 0⟩) (v := x.b) (rest := (if lI x.op then [mkB (itoa x.loc)] else []) ++ (if mI x.op then [mkB (itoa x.imm)] else [])) (w.g 2)
    rw [s_nrm (b := fI x.op 2) n.b rfl] at p2
    have p3 := pstep (op := x.op) (k := 3) (y := ⟨x.op, x.d, x.a, x.b, 0, 0⟩) (v := x.loc) (rest := (if mI x.op then [mkB (itoa x.imm)] else [])) (w.g 3)
    rw [s_nrm (b := fI x.op 3) n.l rfl] at p3
    refine (congrArg (fun z => pStep x.op 4 (pStep x.op 3 (pStep x.op 2 (pStep x.op 1 z)))) p0).trans ?_
    refine (congrArg (fun z => pStep x.op 4 (pStep x.op 3 (pStep x.op 2 z))) p1).trans ?_
    refine (congrArg (fun z => pStep x.op 4 (pStep x.op 3 z)) p2).trans ?_
    refine (congrArg (fun z => pStep x.op 4 z) p3).trans ?_
    unfold pStep
    exact if_neg (by rintro ⟨h, _⟩; cases h)
  rw [e5]
  cases hm : mI x.op
  · rw [if_neg (by rintro ⟨h, _⟩; cases h)]
    have := n.m hm
    cases x; simp only at this; subst this; rfl
  · rw [if_pos ⟨rfl, by simp⟩]
    show In.mk x.op x.d x.a x.b x.loc (piN (mkB (itoa x.imm))) = x
    rw [pi_mk w.imm]
theorem rstep {op : Int} {k : Nat} {y : In} {v : Int} {pre rest : List ByteArray} (hv : InR v) :
    rStep op (pre ++ ((if fI op k = true then [mkB (itoa v)] else []) ++ rest)) k (y, pre.length) = (if fI op k = true then y.s k v else y, (pre ++ (if fI op k = true then [mkB (itoa v)] else [])).length) := by
  unfold rStep
  cases fI op k
  · simp
  · simp only [if_true]
    have : gd (pre ++ ([mkB (itoa v)] ++ rest)) pre.length = mkB (itoa v) := by
      unfold gd
      rw [List.getD_eq_getElem?_getD, List.getElem?_append_right (Nat.le_refl _), Nat.sub_self]; rfl
    rw [this, nq_mk hv]; simp
theorem ref_line {x : In} (w : WfI x) (n : Nrm x) (h : (rowI x.op).1.size ≠ 0) : refI x.op (piecesB 32 (lineB x)) = x := by
  rw [line_pieces h]
  unfold refI
  rw [show List.drop 1 ((rowI x.op).1 :: (wordsL x).map mkB) = (wordsL x).map mkB from rfl, words_map]
  generalize hD : (if dI x.op then [mkB (itoa x.d)] else []) = D
  generalize hA : (if aI x.op then [mkB (itoa x.a)] else []) = A
  generalize hB : (if bI x.op then [mkB (itoa x.b)] else []) = B
  generalize hL : (if lI x.op then [mkB (itoa x.loc)] else []) = L
  generalize hM : (if mI x.op then [mkB (itoa x.imm)] else []) = M
  have e4 : rTo x.op (D ++ (A ++ (B ++ (L ++ M))) ++ five) 4 = (⟨x.op, x.d, x.a, x.b, x.loc, 0⟩, (((([] ++ D) ++ A) ++ B) ++ L).length) := by
    show rStep x.op _ 3 (rStep x.op _ 2 (rStep x.op _ 1 (rStep x.op _ 0 (⟨x.op, 0, 0, 0, 0, 0⟩, 0)))) = _
    have p0 := rstep (op := x.op) (k := 0) (y := ⟨x.op, 0, 0, 0, 0, 0⟩) (v := x.d) (pre := []) (rest := A ++ (B ++ (L ++ (M ++ five)))) (w.g 0)
    rw [s_nrm (b := fI x.op 0) n.d rfl, show (if fI x.op 0 = true then [mkB (itoa x.d)] else []) = D from hD] at p0
    have p1 := rstep (op := x.op) (k := 1) (y := ⟨x.op, x.d, 0, 0, 0, 0⟩) (v := x.a) (pre := [] ++ D) (rest := B ++ (L ++ (M ++ five))) (w.g 1)
    rw [s_nrm (b := fI x.op 1) n.a rfl, show (if fI x.op 1 = true then [mkB (itoa x.a)] else []) = A from hA] at p1
    have p2 := rstep (op := x.op) (k := 2) (y := ⟨x.op, x.d, x.a, 0, 0, 0⟩) (v := x.b) (pre := ([] ++ D) ++ A) (rest := L ++ (M ++ five)) (w.g 2)
    rw [s_nrm (b := fI x.op 2) n.b rfl, show (if fI x.op 2 = true then [mkB (itoa x.b)] else []) = B from hB] at p2
    have p3 := rstep (op := x.op) (k := 3) (y := ⟨x.op, x.d, x.a, x.b, 0, 0⟩) (v := x.loc) (pre := (([] ++ D) ++ A) ++ B) (rest := M ++ five) (w.g 3)
    rw [s_nrm (b := fI x.op 3) n.l rfl, show (if fI x.op 3 = true then [mkB (itoa x.loc)] else []) = L from hL] at p3
    have a1 : D ++ (A ++ (B ++ (L ++ M))) ++ five = [] ++ (D ++ (A ++ (B ++ (L ++ (M ++ five))))) := by simp
    have a2 : D ++ (A ++ (B ++ (L ++ M))) ++ five = ([] ++ D) ++ (A ++ (B ++ (L ++ (M ++ five)))) := by simp
    have a3 : D ++ (A ++ (B ++ (L ++ M))) ++ five = (([] ++ D) ++ A) ++ (B ++ (L ++ (M ++ five))) := by simp
    have a4 : D ++ (A ++ (B ++ (L ++ M))) ++ five = ((([] ++ D) ++ A) ++ B) ++ (L ++ (M ++ five)) := by simp
    rw [← a1] at p0
    rw [← a2] at p1
    rw [← a3] at p2
    rw [← a4] at p3
    refine (congrArg (fun z => rStep x.op _ 3 (rStep x.op _ 2 (rStep x.op _ 1 z))) p0).trans ?_
    refine (congrArg (fun z => rStep x.op _ 3 (rStep x.op _ 2 z)) p1).trans ?_
    refine (congrArg (fun z => rStep x.op _ 3 z) p2).trans ?_
    exact p3
  rw [e4]
  cases hm : mI x.op
  · rw [if_neg (by decide)]
    have := n.m hm
    cases x; simp only at this; subst this; rfl
  · rw [if_pos rfl]
    rw [hm, if_pos rfl] at hM
    subst hM
    show In.mk x.op x.d x.a x.b x.loc (numQ _) = x
    have : gd (D ++ (A ++ (B ++ (L ++ [mkB (itoa x.imm)]))) ++ five) (((([] ++ D) ++ A) ++ B) ++ L).length = mkB (itoa x.imm) := by
      have a5 : D ++ (A ++ (B ++ (L ++ [mkB (itoa x.imm)]))) ++ five = (((([] ++ D) ++ A) ++ B) ++ L) ++ ([mkB (itoa x.imm)] ++ five) := by simp
      rw [a5]
      unfold gd
      rw [List.getD_eq_getElem?_getD, List.getElem?_append_right (Nat.le_refl _), Nat.sub_self]; rfl
    rw [this, nq_mk w.imm]
structure Rd (op : Int) (y : In) : Prop where
  o : y.op = op
  r : ∀ j, InR (y.g j)
  z : ∀ j, fI op j = false → y.g j = 0
  m : y.imm = 0
theorem rd0 (op : Int) : Rd op ⟨op, 0, 0, 0, 0, 0⟩ := by
  have hz : ∀ j, (In.mk op 0 0 0 0 0).g j = 0 := fun j => by
    match j with
    | 0 | 1 | 2 | 3 => rfl
    | j + 4 => rfl
  exact ⟨rfl, fun j => by rw [hz]; unfold InR; omega, fun j _ => hz j, rfl⟩
theorem g_s (y : In) (k j : Nat) (v : Int) : (y.s k v).g j = if j = k ∧ k < 4 then v else y.g j := by
  match k, j with
  | 0, 0 | 0, 1 | 0, 2 | 0, 3 | 1, 0 | 1, 1 | 1, 2 | 1, 3 | 2, 0 | 2, 1 | 2, 2 | 2, 3 | 3, 0 | 3, 1 | 3, 2 | 3, 3 => rfl
  | 0, j + 4 | 1, j + 4 | 2, j + 4 | 3, j + 4 => rw [if_neg (by omega)]; rfl
  | k + 4, j => rw [if_neg (by omega)]; rfl
theorem s_op (y : In) (k : Nat) (v : Int) : (y.s k v).op = y.op ∧ (y.s k v).imm = y.imm := by
  match k with
  | 0 | 1 | 2 | 3 => exact ⟨rfl, rfl⟩
  | k + 4 => exact ⟨rfl, rfl⟩
theorem rd_s {op : Int} {y : In} {k : Nat} {v : Int} (h : Rd op y) (hf : fI op k = true) (hv : InR v) : Rd op (y.s k v) := by
  refine ⟨(s_op y k v).1.trans h.o, fun j => ?_, fun j hj => ?_, (s_op y k v).2.trans h.m⟩
  · rw [g_s]; split
    · exact hv
    · exact h.r j
  · rw [g_s, if_neg]
    · exact h.z j hj
    · rintro ⟨rfl, _⟩; rw [hf] at hj; cases hj
theorem pTo_rd (op : Int) (w : List ByteArray) : ∀ k, Rd op (pTo op w k).1
  | 0 => rd0 op
  | k + 1 => by
    have := pTo_rd op w k
    show Rd op (pStep op k (pTo op w k)).1
    unfold pStep
    split
    · rename_i h; exact rd_s this h.1 (atoiN_in _)
    · exact this
theorem rTo_rd (op : Int) (l : List ByteArray) : ∀ k, Rd op (rTo op l k).1
  | 0 => rd0 op
  | k + 1 => by
    have := rTo_rd op l k
    show Rd op (rStep op l k (rTo op l k)).1
    unfold rStep
    split
    · rename_i h; exact rd_s this h (numQ_in _)
    · exact this
theorem rd_wf {op : Int} (ho : InR op) {y : In} (h : Rd op y) : WfI y ∧ Nrm y := by
  refine ⟨⟨by rw [h.o]; exact ho, h.r, by rw [h.m]; unfold InR; omega⟩, ?_⟩
  have e := h.o
  exact ⟨fun q => h.z 0 (e ▸ q), fun q => h.z 1 (e ▸ q), fun q => h.z 2 (e ▸ q), fun q => h.z 3 (e ▸ q), fun _ => h.m⟩
theorem rd_m {op : Int} (ho : InR op) {y : In} (h : Rd op y) (hm : mI op = true) {v : Int} (hv : InR v) : WfI (y.m v) ∧ Nrm (y.m v) := by
  have e := h.o
  have hg : ∀ j, (y.m v).g j = y.g j := fun j => by
    match j with
    | 0 | 1 | 2 | 3 => rfl
    | j + 4 => rfl
  refine ⟨⟨by show InR y.op; rw [h.o]; exact ho, fun j => by rw [hg]; exact h.r j, hv⟩, ?_⟩
  exact ⟨fun q => h.z 0 (e ▸ q), fun q => h.z 1 (e ▸ q), fun q => h.z 2 (e ▸ q), fun q => h.z 3 (e ▸ q), fun q => by
    have : mI y.op = false := q
    rw [e, hm] at this; cases this⟩
theorem opB_in (s : ByteArray) : InR (opB s) := by
  unfold opB
  split
  · rename_i n h
    have := List.mem_of_find?_eq_some h
    rw [List.mem_range] at this
    unfold InR; omega
  · unfold InR; omega
theorem prog_wf (w : List ByteArray) : WfI (progI w) ∧ Nrm (progI w) ∧ (progI w).op = opB (gd w 0) := by
  have hr := pTo_rd (opB (gd w 0)) (w.drop 1) 5
  unfold progI
  split
  · rename_i h
    obtain ⟨h1, h2⟩ := rd_m (opB_in _) hr h.1 (piN_in (gd (pTo (opB (gd w 0)) (w.drop 1) 5).2 0))
    exact ⟨h1, h2, hr.o⟩
  · obtain ⟨h1, h2⟩ := rd_wf (opB_in _) hr
    exact ⟨h1, h2, hr.o⟩
theorem ref_wf {op : Int} (ho : InR op) (w : List ByteArray) : WfI (refI op w) ∧ Nrm (refI op w) ∧ (refI op w).op = op := by
  have hr := rTo_rd op (w.drop 1 ++ five) 4
  unfold refI
  split
  · rename_i h
    obtain ⟨h1, h2⟩ := rd_m ho hr h (numQ_in _)
    exact ⟨h1, h2, hr.o⟩
  · obtain ⟨h1, h2⟩ := rd_wf ho hr
    exact ⟨h1, h2, hr.o⟩
theorem row_pos : ∀ n : Nat, n < 14 → (rowI ((n : Int) + 1)).1.size ≠ 0 := by
  intro n hn
  match n, hn with
  | 0, _ | 1, _ | 2, _ | 3, _ | 4, _ | 5, _ | 6, _ | 7, _ | 8, _ | 9, _ | 10, _ | 11, _ | 12, _ | 13, _ => decide +kernel
theorem find_one {p : Nat → Bool} {n0 : Nat} (h0 : n0 < 14) (h : ∀ n, n < 14 → p n = true → n = n0) : (List.range 14).find? p = if p n0 = true then some n0 else none := by
  cases hf : (List.range 14).find? p with
  | none =>
    rw [List.find?_eq_none] at hf
    rw [if_neg (hf n0 (List.mem_range.2 h0))]
  | some m =>
    have h1 := List.find?_some hf
    have h2 := List.mem_range.1 (List.mem_of_find?_eq_some hf)
    have := h m h2 h1
    subst this
    rw [if_pos h1]
theorem read_eq (s : ByteArray) : okP s = okRf s ∧ resP s = resRf s := by
  generalize hw : piecesB 32 s = w
  cases ho : (List.range 14).find? (fun n : Nat => eqB (rowI ((n : Int) + 1)).1 (gd w 0)) with
  | none =>
    have h0 : opB (gd w 0) = 0 := by unfold opB; rw [ho]
    have hn : (List.range 14).find? (hitR s) = none := by
      rw [List.find?_eq_none] at ho ⊢
      intro n hn h
      unfold hitR at h
      rw [Bool.and_eq_true, hw] at h
      exact ho n hn h.1
    have e1 : okP s = false := by unfold okP; rw [hw, h0]; rfl
    have e2 : okRf s = false := by unfold okRf; rw [hn]; rfl
    refine ⟨by rw [e1, e2], ?_⟩
    unfold resP resRf
    rw [e1, hn]; rfl
  | some n0 =>
    have h0 : opB (gd w 0) = (n0 : Int) + 1 := by unfold opB; rw [ho]
    have hlt := List.mem_range.1 (List.mem_of_find?_eq_some ho)
    have hname := eqB_iff.1 (List.find?_some (p := fun n : Nat => eqB (rowI ((n : Int) + 1)).1 (gd w 0)) ho)
    have hf : (List.range 14).find? (hitR s) = if hitR s n0 = true then some n0 else none := find_one hlt (by
      intro n hn h
      unfold hitR at h
      rw [Bool.and_eq_true, hw] at h
      have e := eqB_iff.1 h.1
      have e1 := op_back n hn
      rw [e, ← hname, op_back n0 hlt] at e1
      omega)
    have hin : InR ((n0 : Int) + 1) := by unfold InR; omega
    obtain ⟨p1, p2, p3⟩ := prog_wf w
    obtain ⟨r1, r2, r3⟩ := ref_wf hin w
    rw [h0] at p3
    have hsz := row_pos n0 hlt
    have heq : eqB (lineB (progI w)) s = true → eqB (lineB (refI ((n0 : Int) + 1) w)) s = true ∧ refI ((n0 : Int) + 1) w = progI w := by
      intro h
      have e := eqB_iff.1 h
      have := ref_line p1 p2 (by rw [p3]; exact hsz)
      rw [e, hw, p3] at this
      exact ⟨by rw [this]; exact h, this⟩
    have heq2 : eqB (lineB (refI ((n0 : Int) + 1) w)) s = true → eqB (lineB (progI w)) s = true := by
      intro h
      have e := eqB_iff.1 h
      have := prog_line r1 r2 (by rw [r3]; exact hsz)
      rw [e, hw] at this
      rw [this]; exact h
    have hh : hitR s n0 = eqB (lineB (refI ((n0 : Int) + 1) w)) s := by
      unfold hitR; rw [hw, hname]
      rw [eqB_self, Bool.true_and]
    have hk : okP s = eqB (lineB (progI w)) s := by
      unfold okP; rw [hw, h0, decide_eq_false (by omega)]; rfl
    have e : okP s = hitR s n0 := by
      rw [hh, hk, Bool.eq_iff_iff]
      exact ⟨fun h => (heq h).1, heq2⟩
    have e2 : okRf s = hitR s n0 := by
      unfold okRf; rw [hf]
      cases hitR s n0 <;> rfl
    refine ⟨by rw [e, e2], ?_⟩
    unfold resP resRf
    rw [hf, hw]
    cases hq : hitR s n0
    · rw [hq] at e
      rw [e, if_neg (by decide), if_neg (by decide)]
    · rw [hq] at e
      rw [hk] at e
      rw [hk, e, if_pos rfl, if_pos rfl]
      exact (heq e).2.symm
end Go.Sim
