/- A part of the proof of a law of module cupola: St7, StQ. It has no conditions of its own. -/
import Derived.Test.YtkfceeaokfdmfaaGreatDoorStA
set_option linter.all false
set_option maxRecDepth 100000
namespace Go.Sim
open Enc (enc)
open Go.Proofs
theorem wrap_u32n (n : Nat) : IntKind.u32.wrap (n : Int) = ((BitVec.ofNat 32 n).toNat : Int) := by
  rw [BitVec.toNat_ofNat]
  unfold IntKind.wrap
  simp [IntKind.bits, IntKind.signed]
theorem segs_all_le {c : UInt8} {s : ByteArray} {p : ByteArray × ByteArray} {sv : Nat} (h : p ∈ segs c sv s) : p.1.size ≤ s.size := segs_size c sv _ s p h
theorem piece_le (c : UInt8) (s : ByteArray) (i : Nat) : (gd (piecesB c s) i).size ≤ s.size := by
  rcases Nat.lt_or_ge i (piecesB c s).length with h | h
  · have := gd_mem h
    unfold piecesB at this
    obtain ⟨p, hp, e⟩ := List.mem_map.1 this
    have := segs_all_le hp
    unfold piecesB; rw [← e]; exact this
  · unfold gd
    rw [List.getD_eq_getElem?_getD, List.getElem?_eq_none h]
    exact Nat.zero_le _
@[go_sem] theorem pu_numbers {s : ByteArray} (hs : s.size ≤ 1000000) {K : Kp} : @Pu _ Tryz.prog 32 [.str s] K = K.k (.t (enc (numsB s))) := (state_numbers hs).pu
def rowsTo (s : ByteArray) (i : Nat) : List (List Int) := ((segs 47 1 s).take i).flatMap fun p => if p.1.size = 0 then [] else [numsB (trimB p.1 ⟨#[47]⟩)]
def rowsB (s : ByteArray) : List (List Int) := rowsTo s (segs 47 1 s).length
def parseB (c : ByteArray) : Fs := ⟨BitVec.ofNat 32 (puN (gd (piecesB 59 c) 0)), numsB (gd (piecesB 59 c) 1), rowsB (gd (piecesB 59 c) 2)⟩
def zeroF : Fs := ⟨0#32, [], []⟩
def okR (c : ByteArray) : Bool := decide ((piecesB 59 c).length = 3) && eqB (codeB (parseB c)) c
def readB (c : ByteArray) : Fs := if okR c = true then parseB c else zeroF
theorem rowsTo_succ {s : ByteArray} {i : Nat} {p : ByteArray × ByteArray} (h : (segs 47 1 s)[i]? = some p) : rowsTo s (i + 1) = rowsTo s i ++ (if p.1.size = 0 then [] else [numsB (trimB p.1 ⟨#[47]⟩)]) := by
  unfold rowsTo
  rw [List.take_add_one, h]; simp
theorem rowsTo_len (s : ByteArray) : ∀ i, (rowsTo s i).length ≤ i
  | 0 => by simp [rowsTo]
  | i + 1 => by
    have := rowsTo_len s i
    cases h : (segs 47 1 s)[i]? with
    | none =>
      have e : rowsTo s (i + 1) = rowsTo s i := by unfold rowsTo; rw [List.take_add_one, h]; simp
      rw [e]; omega
    | some p =>
      rw [rowsTo_succ h, List.length_append]
      split <;> simp <;> omega
theorem trimB_le (s p : ByteArray) : (trimB s p).size ≤ s.size := by
  show (Go.Lib.trimSuffix s.data.toList p.data.toList).toArray.size ≤ s.data.toList.length
  rw [List.size_toArray]
  unfold Go.Lib.trimSuffix
  split
  · rw [List.length_take]; omega
  · exact Nat.le_refl _
theorem state_Read {c : ByteArray} (hs : c.size ≤ 900000) (ok : (piecesB 59 c).length = 3 → OkF (parseB c)) : Fun Tryz.prog 21 [.str c] (.tup [.t (enc (readB c)), .t (.bool (okR c))]) := by
  have hl0 := piece_le 59 c 0
  have hl1 := piece_le 59 c 1
  have hl2 := piece_le 59 c 2
  refine Fun.go (b := false) Tryz.func21 rfl rfl (by kernel_rfl) (by kernel_rfl) ?_
  by_cases h3 : (piecesB 59 c).length = 3
  · have ok := ok h3
    simp -implicitDefEqProofs (disch := first | exact dsch | fail) only [go_sem, ↓reduceIte, Nat.reduceEqDiff, h3, hl0, hl1, hl2, wrap_u32n, pairT]
    generalize hd : BitVec.ofNat 32 (puN (gd (piecesB 59 c) 0)) = d
    generalize hf : numsB (gd (piecesB 59 c) 1) = f
    generalize hp2 : gd (piecesB 59 c) 2 = t at *
    have hsl := segs_le 47 1 t
    have hpe : parseB c = ⟨d, f, rowsTo t (segs 47 1 t).length⟩ := by unfold parseB; rw [hd, hf, hp2]; rfl
    refine range_k (f := 68) (caps := [.ptr 3 1 0 0, .ptr 2 1 0 0, .ptr 4 1 0 0]) (fun i H => H = ⟨[.agg [.t (.int .u32 0), .ex [], .ex []]], 3, false⟩ :: ⟨[.agg [.t (.int .u32 (d.toNat : Int)), .t (enc f), accV 5 (rowsTo t i)]], 3, false⟩ :: boxS (prevOf t (segs 47 1 t) i) :: boxS ⟨#[47]⟩ :: boxN 1 :: accO (rowsTo t i)) rfl
      (seq_cut (c := 47) (sv := 1) rfl rfl rfl (by decide) (by decide) (by omega)) rfl ?_ ?_
    · intro i x m H1 hi hI
      obtain ⟨p, hp, rfl, rfl⟩ := items_at hi
      have hil := (List.getElem?_eq_some_iff.1 hp).1
      have hsz := segs_all_le (List.mem_of_getElem? hp)
      have hsz' : p.1.size ≤ 1000000000 := by omega
      have hnl := rowsTo_len t i
      have hpv : prevOf t (segs 47 1 t) (i + 1) = p.2 := by show (((segs 47 1 t)[i]?).map (·.2)).getD t = _; rw [hp]; rfl
      have htr := trimB_le p.1 ⟨#[47]⟩
      subst hI
      refine ⟨_, if_pos ⟨rfl, rfl, rfl⟩, ?_⟩
      by_cases h0 : p.1.size = 0
      · have he : eqB p.1 ⟨#[]⟩ = true := by rw [show (⟨#[]⟩ : ByteArray) = emptyB from rfl, eqB_empty]; simpa using h0
        have hr : rowsTo t (i + 1) = rowsTo t i := by rw [rowsTo_succ hp, if_pos h0, List.append_nil]
        simp -implicitDefEqProofs (disch := first | exact dsch | fail) only [go_sem, ↓reduceIte, Nat.reduceEqDiff, he, hr, hpv]
      · have he : eqB p.1 ⟨#[]⟩ = false := by rw [show (⟨#[]⟩ : ByteArray) = emptyB from rfl, eqB_empty]; simpa using h0
        have hr : rowsTo t (i + 1) = rowsTo t i ++ [numsB (trimB p.1 ⟨#[47]⟩)] := by rw [rowsTo_succ hp, if_neg h0]
        cases hem : (rowsTo t i).isEmpty
        · have hv : accV 5 (rowsTo t i) = .ref 5 (rowsTo t i).length := accV_ne hem
          have ho : accO (rowsTo t i) = [⟨vs (rowsTo t i), 1, false⟩] := accO_ne hem
          rw [hv, ho, hr]
          simp -implicitDefEqProofs (disch := first | exact dsch | fail) only [go_sem, ↓reduceIte, Nat.reduceEqDiff, he, hpv, hsz', accV_snoc, accO_snoc, List.length_append, List.length_cons, List.length_nil, List.cons_append, List.nil_append]
        · have hz : rowsTo t i = [] := by simpa using hem
          rw [hz] at hr ⊢
          rw [hr]
          simp -implicitDefEqProofs (disch := first | exact dsch | fail) only [go_sem, ↓reduceIte, Nat.reduceEqDiff, he, hpv, hsz', accV_nil, accO_nil, accV_snoc, accO_snoc, List.length_append, List.length_cons, List.length_nil, List.cons_append, List.nil_append]
          rfl
    · intro H1 hI
      rw [items_len] at hI
      subst hI
      refine ⟨_, rfl, ?_⟩
      generalize hr : rowsTo t (segs 47 1 t).length = rs at *
      rw [hpe] at ok
      have hok : okR c = eqB (codeB ⟨d, f, rs⟩) c := by unfold okR; rw [h3, hpe]; rfl
      have hrd : readB c = if okR c = true then ⟨d, f, rs⟩ else zeroF := by unfold readB; rw [hpe]
      cases hem : rs.isEmpty
      · have hv : accV 5 rs = .ref 5 rs.length := accV_ne hem
        have ho : accO rs = [⟨vs rs, 1, false⟩] := accO_ne hem
        rw [hv, ho]
        cases hq : okR c
        · rw [hq] at hok hrd
          simp -implicitDefEqProofs (disch := first | exact dsch | fail) only [go_sem, ↓reduceIte, Nat.reduceEqDiff, ok, hok.symm]
          rw [hrd]; rfl
        · rw [hq] at hok hrd
          simp -implicitDefEqProofs (disch := first | exact dsch | fail) only [go_sem, ↓reduceIte, Nat.reduceEqDiff, ok, hok.symm]
          rw [hrd]; rfl
      · have hz : rs = [] := by simpa using hem
        subst hz
        have e0 : T.agg [.int .u32 (d.toNat : Int), enc f, enc ([] : List (Int × Int))] = enc (⟨d, f, []⟩ : Fs) := rfl
        cases hq : okR c
        · rw [hq] at hok hrd
          simp -implicitDefEqProofs (disch := first | exact dsch | fail) only [go_sem, ↓reduceIte, Nat.reduceEqDiff, ok, hok.symm, accV_nil, accO_nil, e0]
          rw [hrd]; rfl
        · rw [hq] at hok hrd
          simp -implicitDefEqProofs (disch := first | exact dsch | fail) only [go_sem, ↓reduceIte, Nat.reduceEqDiff, ok, hok.symm, accV_nil, accO_nil, e0]
          rw [hrd]; rfl
  · have ho : okR c = false := by unfold okR; rw [decide_eq_false h3]; rfl
    have hi : ¬ ((piecesB 59 c).length : Int) = 3 := by omega
    have hr : readB c = zeroF := by unfold readB; rw [ho]; rfl
    simp -implicitDefEqProofs (disch := first | exact dsch | fail) only [go_sem, ↓reduceIte, Nat.reduceEqDiff, hi]
    rw [ho, hr]; rfl
@[go_sem] theorem pu_Read {c : ByteArray} (hs : c.size ≤ 900000) (ok : (piecesB 59 c).length = 3 → OkF (parseB c)) {K : Kp} : @Pu _ Tryz.prog 21 [.str c] K = K.k (.tup [.t (enc (readB c)), .t (.bool (okR c))]) := (state_Read hs ok).pu
end Go.Sim

set_option maxRecDepth 100000
namespace Go.Sim
open Enc (enc)
open Go.Lib (itoa decDigits)
def stepD (a : Nat) (c : UInt8) : Nat := 10 * a + (c.toNat - 48)
theorem fold_ge : ∀ (l : List UInt8) (a : Nat), a ≤ l.foldl stepD a
  | [], a => Nat.le_refl _
  | c :: l, a => by
    have := fold_ge l (stepD a c)
    have h2 : a ≤ stepD a c := by unfold stepD; omega
    exact Nat.le_trans h2 this
theorem pu10_ok : ∀ (l : List UInt8) (a : Nat), (∀ c ∈ l, digit c) → l.foldl stepD a < 18446744073709551616 → Go.Lib.parseUint10 a l = .ok (l.foldl stepD a)
  | [], a, _, _ => rfl
  | c :: l, a, hd, h => by
    have hc := hd c (by simp)
    unfold digit at hc
    have hg := fold_ge l (stepD a c)
    have e : (c :: l).foldl stepD a = l.foldl stepD (stepD a c) := rfl
    rw [e] at h ⊢
    have hs : stepD a c = a * 10 + (c.toNat - 48) := by unfold stepD; omega
    unfold Go.Lib.parseUint10
    rw [if_pos hc, if_neg (by omega), if_neg (by omega), ← hs]
    exact pu10_ok l _ (fun x hx => hd x (by simp [hx])) h
theorem pum_ok (M : Nat) (hM : M < 18446744073709551616) : ∀ (l : List UInt8) (a : Nat), (∀ c ∈ l, digit c) → l.foldl stepD a ≤ M → Go.Lib.parseUintM M a l = .ok (l.foldl stepD a)
  | [], a, _, _ => rfl
  | c :: l, a, hd, h => by
    have hc := hd c (by simp)
    unfold digit at hc
    have hg := fold_ge l (stepD a c)
    have e : (c :: l).foldl stepD a = l.foldl stepD (stepD a c) := rfl
    rw [e] at h ⊢
    have hs : stepD a c = a * 10 + (c.toNat - 48) := by unfold stepD; omega
    unfold Go.Lib.parseUintM
    rw [if_pos hc, if_neg (by omega), if_neg (by omega), ← hs]
    exact pum_ok M hM l _ (fun x hx => hd x (by simp [hx])) h
theorem valD_fold (l : List UInt8) : valD l = l.foldl stepD 0 := rfl
theorem mag_dec {u : Nat} (h : u < 18446744073709551616) : Go.Lib.parseMag (decDigits u) = .ok u := by
  unfold Go.Lib.parseMag
  rw [if_neg (dec_ne u), pu10_ok _ _ (dec_digit u) (by rw [← valD_fold, valD_dec]; exact h), ← valD_fold, valD_dec]
theorem puN_dec {u : Nat} (h : u ≤ 4294967295) : puN ⟨(decDigits u).toArray⟩ = u := by
  have e : Go.Lib.parseUintB 32 (decDigits u) = .ok u := by
    unfold Go.Lib.parseUintB
    rw [if_neg (dec_ne u), pum_ok _ (by decide) _ _ (dec_digit u) (by rw [← valD_fold, valD_dec]; exact h), ← valD_fold, valD_dec]
  unfold puN
  show (match Go.Lib.parseUintB 32 (decDigits u).toArray.toList with | .ok v => v | .syntax => 0 | .range => 4294967295) = u
  rw [List.toList_toArray, e]
theorem atoi_itoa {n : Int} (h : InR n) : Go.Lib.atoiAll (itoa n) = .ok n := by
  unfold InR at h
  unfold itoa
  split
  · rename_i hn
    unfold Go.Lib.atoiAll
    have h45 : (45 : UInt8).toNat = 45 := rfl
    simp only [h45, or_true, if_true]
    rw [mag_dec (by omega)]
    simp only [not_true, false_and, if_false, true_and]
    rw [if_neg (by omega)]
    congr 1; omega
  · rename_i hn
    have h0 := dec_digit n.toNat
    have h1 := mag_dec (u := n.toNat) (by omega)
    have h2 := dec_ne n.toNat
    cases hl : decDigits n.toNat with
    | nil => exact absurd hl h2
    | cons c r =>
      rw [hl] at h0 h1
      have hc := h0 c (by simp)
      unfold digit at hc
      unfold Go.Lib.atoiAll
      simp only
      rw [if_neg (by omega), h1]
      simp only
      rw [if_neg (by omega), if_neg (by omega), if_neg (by omega)]
      congr 1; omega
theorem atoiN_fig {n : Int} (h : InR n) : atoiN (figB n) = n := by
  unfold atoiN
  show (match Go.Lib.atoiAll (itoa n).toArray.toList with | .ok v => v | .syntax => 0 | .range => Go.Lib.atoiSat _) = n
  rw [List.toList_toArray, atoi_itoa h]
theorem atoiN_in (s : ByteArray) : InR (atoiN s) := by
  unfold atoiN
  cases h : Go.Lib.atoiAll s.data.toList with
  | «syntax» => unfold InR; simp only; omega
  | range => unfold InR Go.Lib.atoiSat; simp only; split <;> omega
  | ok v =>
    unfold InR; simp only
    unfold Go.Lib.atoiAll at h
    split at h
    · cases h
    · rename_i c r _
      simp only at h
      generalize Go.Lib.parseMag _ = m at h
      cases m with
      | «syntax» => cases h
      | range => cases h
      | ok u =>
        simp only at h
        split at h
        · cases h
        · split at h
          · cases h
          · rename_i h1 h2
            simp only [Go.Lib.NumEnd.ok.injEq] at h
            subst h
            split <;> omega
def mkB (l : List UInt8) : ByteArray := ⟨l.toArray⟩
theorem mkB_list (l : List UInt8) : (mkB l).data.toList = l := List.toList_toArray
theorem mkB_of (s : ByteArray) : mkB s.data.toList = s := by cases s; rfl
theorem mkB_size (l : List UInt8) : (mkB l).size = l.length := by show l.toArray.size = _; rw [List.size_toArray]
theorem idx_not : ∀ {l : List UInt8} {c : UInt8}, (∀ x ∈ l, x ≠ c) → Go.Lib.indexByte l c = -1
  | [], _, _ => rfl
  | b :: l, c, h => by
    unfold Go.Lib.indexByte
    rw [if_neg (by simpa using h b (by simp)), idx_not (fun x hx => h x (by simp [hx]))]; rfl
theorem idx_cut : ∀ {a b : List UInt8} {c : UInt8}, (∀ x ∈ a, x ≠ c) → Go.Lib.indexByte (a ++ c :: b) c = a.length
  | [], b, c, _ => by unfold Go.Lib.indexByte; simp
  | y :: a, b, c, h => by
    have := idx_cut (a := a) (b := b) (c := c) (fun x hx => h x (by simp [hx]))
    rw [List.cons_append]
    unfold Go.Lib.indexByte
    rw [if_neg (by simpa using h y (by simp)), this, if_neg (by intro e; have := beq_iff_eq.1 e; omega)]
    simp
theorem mkB_extract (l : List UInt8) (i j : Nat) : (mkB l).extract i j = mkB ((l.take j).drop i) := by
  rw [← mkB_of ((mkB l).extract i j)]
  congr 1
  rw [ByteArray.data_extract, Array.toList_extract, List.extract_eq_take_drop, mkB_list, List.drop_take]
theorem segs_end {c : UInt8} {sv n : Nat} {a : List UInt8} (h : ∀ x ∈ a, x ≠ c) : segsF c sv n (mkB a) = [(mkB a, mkB a)] := by
  cases n with
  | zero => rfl
  | succ n => unfold segsF; rw [mkB_list, idx_not h, if_pos (by decide)]
theorem segs_cut {c : UInt8} {sv n : Nat} {a b : List UInt8} (h : ∀ x ∈ a, x ≠ c) (hsv : sv ≤ 1) : segsF c sv (n + 1) (mkB (a ++ c :: b)) = (mkB (a ++ [c].take sv), mkB (a ++ c :: b)) :: segsF c sv n (mkB b) := by
  conv => lhs; unfold segsF
  rw [mkB_list, idx_cut h, if_neg (by omega), Int.toNat_natCast, mkB_extract, mkB_extract, mkB_size]
  have e1 : List.drop 0 (List.take (a.length + sv) (a ++ c :: b)) = a ++ [c].take sv := by
    rw [List.drop_zero, List.take_append]
    rw [List.take_of_length_le (by omega), show a.length + sv - a.length = sv by omega]
    congr 1
    match sv, hsv with
    | 0, _ => rfl
    | 1, _ => rfl
  have e2 : List.drop (a.length + 1) (List.take (a ++ c :: b).length (a ++ c :: b)) = b := by
    rw [List.take_length, List.drop_append]
    simp
  rw [e1, e2]
theorem figB_mk (n : Int) : figB n = mkB (itoa n) := rfl
theorem nums_fuel : ∀ (l : List Int) (n : Int) (k : Nat), l.length ≤ k → (∀ m ∈ n :: l, InR m) → (segsF 44 0 k (mkB (listL (n :: l)))).map (fun p => atoiN p.1) = n :: l
  | [], n, k, _, h => by
    rw [show listL [n] = itoa n from rfl, segs_end (fun x hx => figC_44 (itoa_figC n x hx))]
    show [atoiN (figB n)] = [n]
    rw [atoiN_fig (h n (by simp))]
  | m :: l, n, k + 1, hk, h => by
    rw [show listL (n :: m :: l) = itoa n ++ 44 :: listL (m :: l) from rfl, segs_cut (fun x hx => figC_44 (itoa_figC n x hx)) (by decide), List.map_cons]
    have := nums_fuel l m k (by simp at hk; omega) (fun x hx => h x (by simp only [List.mem_cons] at hx ⊢; exact .inr hx))
    rw [this]
    show atoiN (mkB (itoa n ++ [])) :: m :: l = _
    rw [List.append_nil, ← figB_mk, atoiN_fig (h n (by simp))]
theorem listL_len : ∀ l : List Int, l.length ≤ (listL l).length + 1
  | [] => by simp
  | [n] => by simp
  | n :: m :: r => by
    have := listL_len (m :: r)
    show (m :: r).length + 1 ≤ (itoa n ++ 44 :: listL (m :: r)).length + 1
    have h2 := List.length_pos_iff.2 (itoa_ne n)
    simp only [List.length_append, List.length_cons] at this ⊢
    omega
theorem nums_list {l : List Int} (h : ∀ n ∈ l, InR n) : numsB (mkB (listL l)) = l := by
  unfold numsB
  cases l with
  | nil => rfl
  | cons n r =>
    rw [if_neg (by rw [mkB_size]; intro e; exact listL_ne n r (List.eq_nil_of_length_eq_zero e))]
    have := listL_len (n :: r)
    exact nums_fuel r n _ (by rw [mkB_size]; simp at this; omega) h
theorem trim_47 (a : List UInt8) : trimB (mkB (a ++ [47])) ⟨#[47]⟩ = mkB a := by
  unfold trimB
  rw [mkB_list]
  show mkB (Go.Lib.trimSuffix (a ++ [47]) [47]) = mkB a
  congr 1
  unfold Go.Lib.trimSuffix
  have hs : Go.Lib.hasSuffix (a ++ [47]) [47] = true := List.isSuffixOf_iff_suffix.2 ⟨a, rfl⟩
  rw [if_pos hs]
  simp
theorem rows_fuel : ∀ (ls : List (List Int)) (k : Nat), ls.length ≤ k → (∀ l ∈ ls, ∀ m ∈ l, InR m) → (segsF 47 1 k (mkB (rowsL ls))).flatMap (fun p => if p.1.size = 0 then [] else [numsB (trimB p.1 ⟨#[47]⟩)]) = ls
  | [], k, _, _ => by
    rw [show rowsL [] = [] from rfl, segs_end (fun x hx => by cases hx)]
    rfl
  | l :: r, k + 1, hk, h => by
    rw [show rowsL (l :: r) = listL l ++ 47 :: rowsL r from rfl, segs_cut (listL_47 l) (by decide), List.flatMap_cons]
    have := rows_fuel r k (by simp at hk; omega) (fun x hx => h x (by simp [hx]))
    rw [this, if_neg (by rw [mkB_size]; simp)]
    show [numsB (trimB (mkB (listL l ++ [47])) _)] ++ r = _
    rw [trim_47, nums_list (h l (by simp))]; rfl
theorem rowsL_len : ∀ l : List (List Int), l.length ≤ (rowsL l).length
  | [] => by simp
  | l :: r => by
    have := rowsL_len r
    show r.length + 1 ≤ (listL l ++ 47 :: rowsL r).length
    rw [List.length_append, List.length_cons]; omega
theorem rows_list {ls : List (List Int)} (h : ∀ l ∈ ls, ∀ n ∈ l, InR n) : rowsB (mkB (rowsL ls)) = ls := by
  unfold rowsB rowsTo
  rw [List.take_length]
  have := rowsL_len ls
  exact rows_fuel ls _ (by rw [mkB_size]; omega) h
theorem rowsL_59 : ∀ (ls : List (List Int)), ∀ x ∈ rowsL ls, x ≠ 59
  | [], x, hx => by cases hx
  | l :: r, x, hx => by
    rcases List.mem_append.1 hx with hx | hx
    · exact listL_59 l x hx
    · rcases List.mem_cons.1 hx with rfl | hx
      · decide
      · exact rowsL_59 r x hx
theorem pieces_code (s : Fs) : piecesB 59 (codeB s) = [mkB (itoa s.d.toNat), mkB (listL s.f), mkB (rowsL s.l)] := by
  unfold piecesB segs
  rw [← mkB_of (codeB s), codeB_list]
  unfold codeL
  rw [mkB_size]
  obtain ⟨k, hk⟩ : ∃ k, (itoa (s.d.toNat : Int) ++ 59 :: (listL s.f ++ 59 :: rowsL s.l)).length + 1 = k + 2 := ⟨(itoa (s.d.toNat : Int)).length + (listL s.f ++ 59 :: rowsL s.l).length, by simp; omega⟩
  rw [hk, segs_cut (fun x hx => figC_59 (itoa_figC _ x hx)) (by decide), segs_cut (listL_59 _) (by decide), segs_end (rowsL_59 _)]
  simp
theorem parse_code {s : Fs} (h : OkF s) : parseB (codeB s) = s := by
  unfold parseB
  rw [pieces_code]
  show Fs.mk (BitVec.ofNat 32 (puN (mkB (itoa s.d.toNat)))) (numsB (mkB (listL s.f))) (rowsB (mkB (rowsL s.l))) = s
  rw [nums_list h.f, rows_list h.l]
  have hd := s.d.isLt
  have e : itoa (s.d.toNat : Int) = decDigits s.d.toNat := by
    unfold Go.Lib.itoa; rw [if_neg (by omega), Int.toNat_natCast]
  have e2 : puN (mkB (itoa s.d.toNat)) = s.d.toNat := by rw [e]; exact puN_dec (by omega)
  rw [e2]
  cases s with
  | mk d f l => congr 1; simp
theorem okR_code {s : Fs} (h : OkF s) : okR (codeB s) = true := by
  unfold okR
  rw [parse_code h, eqB_self, pieces_code]; rfl
theorem readB_code {s : Fs} (h : OkF s) : readB (codeB s) = s := by
  unfold readB
  rw [okR_code h, if_pos rfl, parse_code h]
theorem segs_cnt (c : UInt8) (sv : Nat) (s : ByteArray) : (segs c sv s).length ≤ s.size + 1 := by
  unfold segs
  rw [segs_count c sv _ s (by omega)]
  have : Go.Lib.countByte s.data.toList c ≤ s.data.toList.length := List.count_le_length
  have e : s.data.toList.length = s.size := rfl
  omega
theorem nums_len (s : ByteArray) : (numsB s).length ≤ s.size + 1 := by
  unfold numsB
  split
  · simp
  · rw [List.length_map]; exact segs_cnt 44 0 s
theorem nums_in (s : ByteArray) : ∀ n ∈ numsB s, InR n := by
  unfold numsB
  split
  · intro n hn; cases hn
  · intro n hn
    obtain ⟨p, _, rfl⟩ := List.mem_map.1 hn
    exact atoiN_in _
theorem rows_mem {s : ByteArray} {r : List Int} (h : r ∈ rowsB s) : ∃ t : ByteArray, t.size ≤ s.size ∧ r = numsB t := by
  unfold rowsB rowsTo at h
  obtain ⟨p, hp, hr⟩ := List.mem_flatMap.1 h
  have hp' := List.mem_of_mem_take hp
  split at hr
  · cases hr
  · rw [List.mem_singleton] at hr
    subst hr
    exact ⟨_, Nat.le_trans (trimB_le _ _) (segs_all_le hp'), rfl⟩
theorem three_size {c : ByteArray} (h3 : (piecesB 59 c).length = 3) : (gd (piecesB 59 c) 1).size + 2 ≤ c.size ∧ (gd (piecesB 59 c) 2).size + 2 ≤ c.size := by
  have hl : (segs 59 0 c).length = 3 := by unfold piecesB at h3; rwa [List.length_map] at h3
  obtain ⟨x, r, e0⟩ := segsF_head 59 0 (c.size + 1) c
  have g0 : (segsF 59 0 (c.size + 1) c)[0]? = some (x, c) := by rw [e0]; rfl
  obtain ⟨j0, i0, _, q1, g1, z1⟩ := segs_step g0 (by show 0 + 1 < (segs 59 0 c).length; omega)
  obtain ⟨j1, i1, y1, q2, g2, z2⟩ := segs_step g1 (by show 1 + 1 < (segs 59 0 c).length; omega)
  have y2 := segs_last g2 (by show 2 + 1 = (segs 59 0 c).length; omega)
  have l0 := idx_lt c.data.toList 59
  have l1 := idx_lt q1.2.data.toList 59
  simp only at i0 i1 z1 z2
  rw [size_list] at l0 l1
  rw [i0] at l0
  rw [i1] at l1
  have e1 : gd (piecesB 59 c) 1 = q1.1 := by unfold gd piecesB; rw [List.getD_eq_getElem?_getD, List.getElem?_map]; show ((segsF 59 0 (c.size + 1) c)[1]?.map _).getD _ = _; rw [g1]; rfl
  have e2 : gd (piecesB 59 c) 2 = q2.1 := by unfold gd piecesB; rw [List.getD_eq_getElem?_getD, List.getElem?_map]; show ((segsF 59 0 (c.size + 1) c)[2]?.map _).getD _ = _; rw [g2]; rfl
  have s1 : q1.2.size = c.size - (j0 + 1) := by rw [z1, ByteArray.size_extract]; omega
  have s2 : q2.2.size = q1.2.size - (j1 + 1) := by rw [z2, ByteArray.size_extract]; omega
  rw [e1, e2, y2, y1, ByteArray.size_extract]
  omega
theorem parse_ok {c : ByteArray} (hc : c.size ≤ 1000) (h3 : (piecesB 59 c).length = 3) : OkF (parseB c) := by
  obtain ⟨h1, h2⟩ := three_size h3
  refine ⟨nums_in _, fun r hr n hn => ?_, ?_, ?_, fun r hr => ?_⟩
  · obtain ⟨t, _, rfl⟩ := rows_mem hr
    exact nums_in t n hn
  · have := nums_len (gd (piecesB 59 c) 1)
    show (numsB _).length ≤ 1000
    omega
  · have h4 := rowsTo_len (gd (piecesB 59 c) 2) (segs 47 1 (gd (piecesB 59 c) 2)).length
    have h5 := segs_cnt 47 1 (gd (piecesB 59 c) 2)
    show (rowsB _).length ≤ 1000
    unfold rowsB; omega
  · obtain ⟨t, ht, rfl⟩ := rows_mem hr
    have := nums_len t
    have ht' : t.size ≤ (gd (piecesB 59 c) 2).size := ht
    omega
theorem code_read {c : ByteArray} (h : okR c = true) : codeB (readB c) = c := by
  unfold readB
  rw [h, if_pos rfl]
  unfold okR at h
  rw [Bool.and_eq_true] at h
  exact eqB_iff.1 h.2
theorem few_size {s : Fs} (w : WfF s) (h : fewF s = true) : (codeB s).size ≤ 900000 := by
  obtain ⟨h1, h2, h3⟩ := fewF_iff.1 h
  have := codeTo_size (few_ok w h) s.l.length (Nat.le_refl _)
  unfold codeB; omega
end Go.Sim
