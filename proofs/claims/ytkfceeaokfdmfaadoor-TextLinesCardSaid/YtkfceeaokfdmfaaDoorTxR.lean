/- A part of the proof of a law of module cupola: TxR. It has no conditions of its own. -/
import Derived.Test.YtkfceeaokfdmfaaDoorTxF
set_option linter.all false
set_option maxRecDepth 100000
namespace Go.Sim
open Enc (enc)
open Go.Proofs
open Go.Lib (itoa decDigits)
theorem partS_mid {H : Heap} {s : ByteArray} {a b : Int} (h0 : 0 ≤ a) (h1 : a ≤ b) (h2 : b ≤ s.size) : partS H s (some (.t (.int .i64 a))) (some (.t (.int .i64 b))) none = some ⟨.t (.str (s.extract a.toNat b.toNat)), H, .none⟩ := by
  have e1 : bound (some (.t (.int .i64 a))) 0 = some a.toNat := by simp [bound, h0]
  have e2 : bound (some (.t (.int .i64 b))) s.size = some b.toNat := by simp [bound]; omega
  unfold partS
  rw [e1, e2]
  simp only
  rw [if_pos ⟨by omega, by omega⟩]; rfl
theorem partV_drop1 {α : Type} [Enc α] [One α] {H : Heap} {l : List α} {k : IntKind} (h : 1 ≤ l.length) : partV H 1 (.t (enc l)) (some (.t (.int k 1))) none none = some ⟨.t (enc (l.drop 1)), H, .none⟩ := by
  unfold partV
  rw [slOf_enc, toT_t, enc_list]
  have e1 : bound (some (.t (.int k 1))) 0 = some 1 := rfl
  simp only
  rw [e1]
  simp only [bound]
  rw [if_pos]
  · simp [hold_t, effS, vs_len, List.take_of_length_le, enc_list]
  · refine ⟨by rw [vs_len]; exact h, Nat.le_refl _, Nat.le_refl _, by simp [vs_len], by omega, rfl, .inr ?_⟩
    cases hx : (l.map enc)[1]? with
    | none => rfl
    | some y =>
      rw [List.getElem?_map] at hx
      obtain ⟨a, _, rfl⟩ := Option.map_eq_some_iff.1 hx
      have := Enc.cells a
      simp [this, One.sz1]
theorem ref03_number {s : ByteArray} (hs : s.size ≤ 1000000) : Fun Tryd.prog 61 [.str s] (.t (.int .i64 (numQ s))) := by
  have hsz : s.data.toList.length = s.size := rfl
  obtain ⟨hd, e0, le, fig, fin⟩ := figP s
  refine Fun.go (b := false) Tryd.func61 rfl rfl (by kernel_rfl) (by kernel_rfl) ?_
  simp -implicitDefEqProofs (disch := first | exact dsch | fail) only [go_sem, ↓reduceIte, Nat.reduceEqDiff]
  refine loop_k (n := s.size) [0, 2] (by kernel_rfl) (fun i e H => e 4 = .t (.int .i64 i) ∧ e 3 = .t (.int .i64 ((s.data.toList.take i).foldl numF 0))) ?_ ?_
  · rintro i e H hi hk ⟨h4, h3⟩
    simp only [keepP, go_sem, ↓reduceIte, Nat.reduceEqDiff, and_true] at hk
    by_cases hlt : i < s.size
    · have hg := get_list hlt
      have hst : (s.data.toList.take (i + 1)).foldl numF 0 = numF ((s.data.toList.take i).foldl numF 0) (s.get! i) := by
        rw [List.take_add_one, hg, List.foldl_append]; rfl
      by_cases f1 : 48 ≤ (s.get! i).toNat
      · have f1' : (48 : Int) ≤ ((s.get! i).toNat : Int) := by omega
        by_cases f2 : (s.get! i).toNat ≤ 57
        · have f2' : ((s.get! i).toNat : Int) ≤ 57 := by omega
          have hw : IntKind.u8.wrap (((s.get! i).toNat : Int) - 48) = ((s.get! i).toNat : Int) - 48 := wrap_u8 (by omega) (by omega)
          simp -implicitDefEqProofs (disch := first | exact dsch | fail) only [go_sem, ↓reduceIte, Nat.reduceEqDiff, hk, h4, h3, f1', f2', hw, Int.toNat_natCast]
          refine ⟨hlt, ?_⟩
          rw [hst]; unfold numF; rw [if_pos ⟨f1, f2⟩]; rfl
        · have f2' : ¬ ((s.get! i).toNat : Int) ≤ 57 := by omega
          simp -implicitDefEqProofs (disch := first | exact dsch | fail) only [go_sem, ↓reduceIte, Nat.reduceEqDiff, hk, h4, h3, f1', f2', Int.toNat_natCast]
          refine ⟨hlt, ?_⟩
          rw [hst]; unfold numF; rw [if_neg (fun h => f2 h.2)]
      · have f1' : ¬ (48 : Int) ≤ ((s.get! i).toNat : Int) := by omega
        simp -implicitDefEqProofs (disch := first | exact dsch | fail) only [go_sem, ↓reduceIte, Nat.reduceEqDiff, hk, h4, h3, f1', Int.toNat_natCast]
        refine ⟨hlt, ?_⟩
        rw [hst]; unfold numF; rw [if_neg (fun h => f1 h.1)]
    · obtain rfl : i = s.size := by omega
      rw [← hsz, List.take_length] at h3
      unfold numQ
      by_cases h0 : 0 < s.size
      · cases hg : negL s.data.toList
        · have hn : ¬ ((s.get! 0).toNat : Int) = 45 := fun h => by have := (hd h0).1 (by omega); rw [hg] at this; cases this
          simp -implicitDefEqProofs (disch := first | exact dsch | fail) only [go_sem, ↓reduceIte, Nat.reduceEqDiff, hk, h4, h3, h0, hn]
          all_goals simp
        · have hn : ((s.get! 0).toNat : Int) = 45 := by have := (hd h0).2 hg; omega
          simp -implicitDefEqProofs (disch := first | exact dsch | fail) only [go_sem, ↓reduceIte, Nat.reduceEqDiff, hk, h4, h3, h0, hn]
          all_goals simp
      · have hg := e0 (by omega)
        rw [hg]
        simp -implicitDefEqProofs (disch := first | exact dsch | fail) only [go_sem, ↓reduceIte, Nat.reduceEqDiff, hk, h4, h3, h0]
        all_goals simp
  · simp -implicitDefEqProofs (disch := first | exact dsch | fail) only [go_sem, ↓reduceIte, Nat.reduceEqDiff]
@[go_sem] theorem pu_number03 {s : ByteArray} (hs : s.size ≤ 1000000) {K : Kp} : @Pu _ Tryd.prog 61 [.str s] K = K.k (.t (.int .i64 (numQ s))) := (ref03_number hs).pu
theorem segs_mk_end {c : UInt8} {k : Nat} {s : ByteArray} (h : ∀ x ∈ s.data.toList, x ≠ c) : segsF c 0 k s = [(s, s)] := by
  have := segs_end (c := c) (sv := 0) (n := k) h
  rw [show mkB s.data.toList = s from mkB_of s] at this
  exact this
theorem ref03_cut {s : ByteArray} {c : UInt8} (hs : s.size ≤ 1000000) : Fun Tryd.prog 58 [.str s, .int .u8 c.toNat] (.t (enc (piecesB c s))) := by
  have hsz : s.data.toList.length = s.size := rfl
  refine Fun.go (b := false) Tryd.func58 rfl rfl (by kernel_rfl) (by kernel_rfl) ?_
  simp -implicitDefEqProofs (disch := first | exact dsch | fail) only [go_sem, ↓reduceIte, Nat.reduceEqDiff]
  refine loop_k (n := s.size + 1) [0, 1, 4] (by kernel_rfl) (fun i e H => ∃ (out : List ByteArray), e 7 = .t (.int .i64 i) ∧ e 5 = accV 0 out ∧ H = accO out ∧ out.length ≤ i ∧ ((i ≤ s.size ∧ ∃ from_ k : Nat, e 6 = .t (.int .i64 from_) ∧ from_ ≤ i ∧ s.size + 1 ≤ from_ + k ∧ out ++ (segsF c 0 k (s.extract from_ s.size)).map (·.1) = piecesB c s ∧ ∀ j x, from_ ≤ j → j < i → s.data.toList[j]? = some x → x ≠ c) ∨ (i = s.size + 1 ∧ out = piecesB c s))) ?_ ?_
  · rintro i e H hi hk ⟨out, h7, h5, rfl, hol, h⟩
    simp only [keepP, go_sem, ↓reduceIte, Nat.reduceEqDiff, and_true] at hk
    rcases h with ⟨hle, from_, k, h6, hfi, hk2, hO, hno⟩ | ⟨rfl, hO⟩
    · have hle' : (i : Int) ≤ s.size := by omega
      have hacc := fun (x : ByteArray) => acc_str0 (l := out) (x := x) (by_ := 16) (by omega)
      have hf0 : ((from_ : Int)).toNat = from_ := by omega
      have hi0 : ((i : Int)).toNat = i := by omega
      have hmid := fun (H : Heap) => partS_mid (H := H) (s := s) (a := from_) (b := i) (by omega) (by omega) (by omega)
      by_cases he : i = s.size
      · subst he
        have he' : ((s.size : Nat) : Int) = s.size := rfl
        have hall : ∀ x ∈ (s.extract from_ s.size).data.toList, x ≠ c := by
          rw [ext_list]
          intro x hx
          obtain ⟨j, hj2⟩ := List.mem_iff_getElem?.1 hx
          rw [List.getElem?_drop] at hj2
          have := (List.getElem?_eq_some_iff.1 hj2).1
          exact hno (from_ + j) x (by omega) (by omega) hj2
        rw [segs_mk_end hall] at hO
        simp -implicitDefEqProofs (disch := first | exact dsch | fail) only [go_sem, ↓reduceIte, Nat.reduceEqDiff, hk, h7, h5, h6, hle', he', hf0, hi0, hmid, hacc]
        refine ⟨by omega, out ++ [s.extract from_ s.size], rfl, rfl, by simp; omega, .inr ?_⟩
        rw [← hO]; rfl
      · have hlt : i < s.size := by omega
        have hne : ¬ (i : Int) = s.size := by omega
        have hg := get_list hlt
        by_cases hc : s.get! i = c
        · have hc' : ((s.get! i).toNat : Int) = c.toNat := by rw [hc]
          obtain ⟨k', rfl⟩ : ∃ k', k = k' + 1 := ⟨k - 1, by omega⟩
          have hcut : s.extract from_ s.size = mkB ((s.extract from_ i).data.toList ++ c :: (s.extract (i + 1) s.size).data.toList) := by
            rw [← mkB_of (s.extract from_ s.size), ext_list, ext_list]
            congr 1
            rw [ByteArray.data_extract, Array.toList_extract, List.extract_eq_take_drop]
            have h1 : s.data.toList.drop i = c :: s.data.toList.drop (i + 1) := by
              rw [List.drop_eq_getElem_cons (by omega)]
              have := List.getElem?_eq_getElem (l := s.data.toList) (i := i) (by omega)
              rw [hg] at this
              simp only [Option.some.injEq] at this
              rw [← this, hc]
            have h2 := List.take_append_drop (i - from_) (s.data.toList.drop from_)
            rw [List.drop_drop, show from_ + (i - from_) = i by omega, h1] at h2
            exact h2.symm
          have hno2 : ∀ x ∈ (s.extract from_ i).data.toList, x ≠ c := by
            rw [ByteArray.data_extract, Array.toList_extract, List.extract_eq_take_drop]
            intro x hx
            obtain ⟨j, hj2⟩ := List.mem_iff_getElem?.1 hx
            rw [List.getElem?_take] at hj2
            split at hj2
            · rw [List.getElem?_drop] at hj2
              exact hno (from_ + j) x (by omega) (by omega) hj2
            · cases hj2
          rw [hcut, segs_cut hno2 (by decide)] at hO
          simp only [List.take_zero, List.append_nil, mkB_of, List.map_cons] at hO
          simp -implicitDefEqProofs (disch := first | exact dsch | fail) only [go_sem, ↓reduceIte, Nat.reduceEqDiff, hk, h7, h5, h6, hle', hne, hf0, hi0, hmid, hacc, hc']
          refine ⟨by omega, out ++ [s.extract from_ i], rfl, rfl, by simp; omega, .inl ⟨by omega, i + 1, k', rfl, by omega, by omega, ?_, ?_⟩⟩
          · rw [← hO]; simp
          · intro j x h1 h2; omega
        · have hc' : ¬ ((s.get! i).toNat : Int) = c.toNat := fun h => hc (UInt8.toNat_inj.1 (by omega))
          simp -implicitDefEqProofs (disch := first | exact dsch | fail) only [go_sem, ↓reduceIte, Nat.reduceEqDiff, hk, h7, h5, h6, hle', hne, hf0, hi0, hmid, hacc, hc']
          refine ⟨by omega, out, rfl, rfl, by omega, .inl ⟨by omega, from_, k, rfl, by omega, by omega, hO, ?_⟩⟩
          intro j x h1 h2 hj
          by_cases e : j = i
          · subst e; rw [hg] at hj; cases hj; exact hc
          · exact hno j x h1 (by omega) hj
    · have hle' : ¬ ((s.size + 1 : Nat) : Int) ≤ s.size := by omega
      simp -implicitDefEqProofs (disch := first | exact dsch | fail) only [go_sem, ↓reduceIte, Nat.reduceEqDiff, hk, h7, h5, hle']
      rw [hO]
  · simp -implicitDefEqProofs (disch := first | exact dsch | fail) only [go_sem, ↓reduceIte, Nat.reduceEqDiff]
    refine ⟨[], rfl, rfl, by simp, .inl ⟨by omega, 0, s.size + 1, rfl, by omega, by omega, ?_, fun j x h1 h2 => by omega⟩⟩
    rw [List.nil_append]
    unfold piecesB segs
    congr 2
    rw [ByteArray.extract_zero_size]
@[go_sem] theorem pu_cut03 {s : ByteArray} {n : Int} (hs : s.size ≤ 1000000) (hn : n = 32) {K : Kp} : @Pu _ Tryd.prog 58 [.str s, .int .u8 n] K = K.k (.t (enc (piecesB 32 s))) := by subst hn; exact (ref03_cut (c := 32) hs).pu
theorem s_ops (x : In) (k : Nat) (v : Int) : (x.s k v).op = x.op := (s_op x k v).1
theorem ldS {H : Heap} {a : ByteArray} {l : List T} : loadV H (some (false, 1)) (.tp (T.str a :: l) 0 0) = some ⟨.t (.str a), H, .none⟩ := rfl
theorem wr_f {x : In} {k : Nat} {v : Int} (hk : k < 4) : wrV (.t (enc x)) 6 (k + 1) (.t (.int .i64 v)) = some (.t (enc (x.s k v))) := by
  match k, hk with
  | 0, _ | 1, _ | 2, _ | 3, _ => rfl
theorem wr_m {x : In} {v : Int} : wrV (.t (enc x)) 6 5 (.t (.int .i64 v)) = some (.t (enc (x.m v))) := rfl
theorem pieces_pos (c : UInt8) (s : ByteArray) : 1 ≤ (piecesB c s).length := by rw [pieces_len]; omega
theorem pTo_sub (op : Int) (w : List ByteArray) : ∀ k, ∀ p ∈ (pTo op w k).2, p ∈ w
  | 0, p, h => h
  | k + 1, p, h => by
    have ih := pTo_sub op w k
    have h' : p ∈ (pStep op k (pTo op w k)).2 := h
    unfold pStep at h'
    split at h'
    · exact ih p (List.mem_of_mem_drop h')
    · exact ih p h'
theorem piece_mem {c : UInt8} {s p : ByteArray} (h : p ∈ piecesB c s) : p.size ≤ s.size := by
  unfold piecesB at h
  obtain ⟨q, hq, e⟩ := List.mem_map.1 h
  have := segs_all_le hq
  rw [← e]; exact this
set_option maxHeartbeats 1000000 in
theorem text_Read {s : ByteArray} (hs : s.size ≤ 900) : Fun Tryd.prog 24 [.str s] (.tup [.t (enc (resP s)), .t (.bool (okP s))]) := by
  have hs' : s.size ≤ 1000000 := by omega
  have hp := pieces_pos 32 s
  obtain ⟨w1, _, w3⟩ := prog_wf (piecesB 32 s)
  by_cases h0 : opB (gd (piecesB 32 s) 0) = 0
  · have hok : okP s = false := by unfold okP; rw [h0]; rfl
    have hres : resP s = zeroI := by unfold resP; rw [hok]; rfl
    refine Fun.go (b := false) Tryd.func24 rfl rfl (by kernel_rfl) (by kernel_rfl) ?_
    simp -implicitDefEqProofs (disch := first | exact dsch | fail) only [go_sem, ↓reduceIte, Nat.reduceEqDiff, hp, h0]
    rw [hok, hres]; rfl
  · have hok : okP s = eqB (lineB (progI (piecesB 32 s))) s := by unfold okP; rw [decide_eq_false h0]; rfl
    have hres : resP s = if okP s = true then progI (piecesB 32 s) else zeroI := rfl
    generalize hw : piecesB 32 s = w at *
    generalize hop : opB (gd w 0) = op at *
    have hsub := pTo_sub op (w.drop 1)
    have hps : ∀ p ∈ w, p.size ≤ 1000000000 := fun p h => by rw [← hw] at h; have := piece_mem h; omega
    have hg : progI w = if mI op = true ∧ (pTo op (w.drop 1) 5).2 ≠ [] then (pTo op (w.drop 1) 5).1.m (piN (gd (pTo op (w.drop 1) 5).2 0)) else (pTo op (w.drop 1) 5).1 := by unfold progI; rw [hop]
    refine Fun.go (b := false) Tryd.func24 rfl rfl (by kernel_rfl) (by kernel_rfl) ?_
    simp -implicitDefEqProofs (disch := first | exact dsch | fail) only [go_sem, ↓reduceIte, Nat.reduceEqDiff, hp, hw, hop, h0, partV_drop1]
    refine loop_k (n := 5) [0, 2, 3, 5, 21] (by kernel_rfl) (fun i e H => e 22 = .t (.int .i64 i) ∧ e 4 = .t (enc (pTo op (w.drop 1) i).2) ∧ H = [⟨[.t (enc zeroI)], 6, false⟩, ⟨[.t (enc (pTo op (w.drop 1) i).1)], 6, false⟩, boxF 1 op, boxF 1 op]) ?_ ?_
    · rintro i e H hi hk ⟨hc, h4, rfl⟩
      simp only [keepP, go_sem, ↓reduceIte, Nat.reduceEqDiff, and_true] at hk
      by_cases hlt : i < 5
      · have hix := fun (P : Program) (H : Heap) (el : Nat) (ht : tyOf P el = some (false, 1)) => index_fields (P := P) (H := H) (id := 1) (el := el) (op := op) hlt ht
        have hlt' : (i : Int) < 5 := by omega
        have hst : pTo op (w.drop 1) (i + 1) = pStep op i (pTo op (w.drop 1) i) := rfl
        have hsb := hsub i
        generalize hq : pTo op (w.drop 1) i = q at *
        obtain ⟨y, r⟩ := q
        unfold pStep at hst
        simp only at hst h4 hsb
        cases hf : fI op i
        · rw [hf] at hix
          rw [if_neg (by rw [hf]; rintro ⟨h, _⟩; cases h)] at hst
          simp only [Bool.false_eq_true, if_false] at hix
          simp -implicitDefEqProofs (disch := first | exact dsch | fail) only [go_sem, ↓reduceIte, Nat.reduceEqDiff, hk, hc, h4, hlt, hlt', hix]
          rw [hst]; exact ⟨rfl, rfl⟩
        · rw [hf] at hix
          simp only [if_true] at hix
          have hi4 : i < 4 := by
            rcases Nat.lt_or_ge i 4 with h | h
            · exact h
            · have : i = 4 := by omega
              subst this; cases hf
          cases hr : r with
          | nil =>
            subst hr
            rw [if_neg (by rintro ⟨_, h⟩; exact h rfl)] at hst
            simp -implicitDefEqProofs (disch := first | exact dsch | fail) only [go_sem, ↓reduceIte, Nat.reduceEqDiff, hk, hc, h4, hlt, hlt', hix, List.length_nil]
            rw [hst]; exact ⟨rfl, rfl⟩
          | cons a r' =>
            subst hr
            rw [if_pos ⟨hf, by simp⟩] at hst
            have ha : a.size ≤ 1000000000 := hps a (List.mem_of_mem_drop (hsb a (by simp)))
            have hwr := fun v => wr_f (x := y) (v := v) hi4
            have hdr := fun (H : Heap) => partV_drop1 (H := H) (l := a :: r') (k := .i64) (by simp)
            have hgd : gd (a :: r') 0 = a := rfl
            rw [hgd] at hst
            have hlen : (0 : Int) < ((a :: r').length : Int) := by simp
            simp -implicitDefEqProofs (disch := first | exact dsch | fail) only [go_sem, ↓reduceIte, Nat.reduceEqDiff, hk, hc, h4, hlt, hlt', hix, hgd, hdr, hwr, ha, pairT, hlen, ldS]
            rw [hst]; exact ⟨rfl, rfl⟩
      · obtain rfl : i = 5 := by omega
        have hsb := hsub 5
        generalize hq : pTo op (w.drop 1) 5 = q at *
        obtain ⟨y, r⟩ := q
        simp only at h4 hg hsb
        cases hm : mI op
        · rw [if_neg (by rw [hm]; rintro ⟨h, _⟩; cases h)] at hg
          have hm' : mI y.op = false := by rw [hg] at w3; rw [w3]; exact hm
          rw [hg] at w1 w3 hok hres
          cases hz : okP s
          · rw [hz] at hok hres
            simp -implicitDefEqProofs (disch := first | exact dsch | fail) only [go_sem, ↓reduceIte, Nat.reduceEqDiff, hk, hc, h4, hm', w1, hok.symm]
            rw [hres]; rfl
          · rw [hz] at hok hres
            simp -implicitDefEqProofs (disch := first | exact dsch | fail) only [go_sem, ↓reduceIte, Nat.reduceEqDiff, hk, hc, h4, hm', w1, hok.symm]
            rw [hres]; rfl
        · cases hr : r with
          | nil =>
            subst hr
            rw [if_neg (by rintro ⟨_, h⟩; exact h rfl)] at hg
            have hm' : mI y.op = true := by rw [hg] at w3; rw [w3]; exact hm
            rw [hg] at w1 w3 hok hres
            cases hz : okP s
            · rw [hz] at hok hres
              simp -implicitDefEqProofs (disch := first | exact dsch | fail) only [go_sem, ↓reduceIte, Nat.reduceEqDiff, hk, hc, h4, hm', List.length_nil, w1, hok.symm]
              rw [hres]; rfl
            · rw [hz] at hok hres
              simp -implicitDefEqProofs (disch := first | exact dsch | fail) only [go_sem, ↓reduceIte, Nat.reduceEqDiff, hk, hc, h4, hm', List.length_nil, w1, hok.symm]
              rw [hres]; rfl
          | cons a r' =>
            subst hr
            rw [if_pos ⟨hm, by simp⟩] at hg
            have hm' : mI y.op = true := by rw [hg] at w3; have : y.op = op := w3; rw [this]; exact hm
            have ha : a.size ≤ 1000000000 := hps a (List.mem_of_mem_drop (hsb a (by simp)))
            have hgd : gd (a :: r') 0 = a := rfl
            rw [hgd] at hg
            have hlen : (0 : Int) < ((a :: r').length : Int) := by simp
            have hwm := fun v => wr_m (x := y) (v := v)
            rw [hg] at w1 w3 hok hres
            cases hz : okP s
            · rw [hz] at hok hres
              simp -implicitDefEqProofs (disch := first | exact dsch | fail) only [go_sem, ↓reduceIte, Nat.reduceEqDiff, hk, hc, h4, hm', hgd, hwm, ha, pairT, hlen, ldS, w1, hok.symm]
              rw [hres]; rfl
            · rw [hz] at hok hres
              simp -implicitDefEqProofs (disch := first | exact dsch | fail) only [go_sem, ↓reduceIte, Nat.reduceEqDiff, hk, hc, h4, hm', hgd, hwm, ha, pairT, hlen, ldS, w1, hok.symm]
              rw [hres]; rfl
    · simp -implicitDefEqProofs (disch := first | exact dsch | fail) only [go_sem, ↓reduceIte, Nat.reduceEqDiff]
      exact ⟨rfl, rfl⟩
@[go_sem] theorem pu_tRead {s : ByteArray} (hs : s.size ≤ 900) {K : Kp} : @Pu _ Tryd.prog 24 [.str s] K = K.k (.tup [.t (enc (resP s)), .t (.bool (okP s))]) := (text_Read hs).pu
end Go.Sim
