/- A part of the proof of a law of module cupola: TxS. It has no conditions of its own. -/
import Derived.Test.YtkfceeaokfdmfaaDoorTxR
set_option linter.all false
set_option maxRecDepth 100000
namespace Go.Sim
open Enc (enc)
open Go.Proofs
theorem flags8 {op : Int} (h0 : 1 ≤ op) (h1 : op ≤ 14) :
    (dI op = true ∧ aI op = false ∧ bI op = false ∧ lI op = false ∧ mI op = true) ∨
    (dI op = true ∧ aI op = true ∧ bI op = true ∧ lI op = false ∧ mI op = false) ∨
    (dI op = true ∧ aI op = true ∧ bI op = false ∧ lI op = true ∧ mI op = false) ∨
    (dI op = false ∧ aI op = true ∧ bI op = true ∧ lI op = true ∧ mI op = false) ∨
    (dI op = true ∧ aI op = true ∧ bI op = true ∧ lI op = true ∧ mI op = false) ∨
    (dI op = false ∧ aI op = false ∧ bI op = false ∧ lI op = false ∧ mI op = true) ∨
    (dI op = false ∧ aI op = false ∧ bI op = false ∧ lI op = false ∧ mI op = false) ∨
    (dI op = false ∧ aI op = true ∧ bI op = false ∧ lI op = false ∧ mI op = true) := by
  obtain ⟨n, rfl⟩ := Int.eq_ofNat_of_zero_le (show 0 ≤ op by omega)
  match n, h0, h1 with
  | 1, _, _ | 2, _, _ | 3, _, _ | 4, _, _ | 5, _, _ | 6, _, _ | 7, _, _ | 8, _, _ | 9, _, _ | 10, _, _ | 11, _, _ | 12, _, _ | 13, _, _ | 14, _, _ => decide +kernel
  | 0, h, _ => omega
  | n + 15, _, h => omega
theorem wr_0 {x : In} {v : Int} : wrV (.t (enc x)) 6 1 (.t (.int .i64 v)) = some (.t (enc (x.s 0 v))) := rfl
theorem wr_1 {x : In} {v : Int} : wrV (.t (enc x)) 6 2 (.t (.int .i64 v)) = some (.t (enc (x.s 1 v))) := rfl
theorem wr_2 {x : In} {v : Int} : wrV (.t (enc x)) 6 3 (.t (.int .i64 v)) = some (.t (enc (x.s 2 v))) := rfl
theorem wr_3 {x : In} {v : Int} : wrV (.t (enc x)) 6 4 (.t (.int .i64 v)) = some (.t (enc (x.s 3 v))) := rfl
theorem vs_five : [V.t (T.str ⟨#[]⟩), V.t (T.str ⟨#[]⟩), V.t (T.str ⟨#[]⟩), V.t (T.str ⟨#[]⟩), V.t (T.str ⟨#[]⟩)] = vs five := rfl
theorem name_one {s : ByteArray} {n m : Nat} (hn : n < 14) (hm : m < 14) (h1 : eqB (rowI ((n : Int) + 1)).1 s = true) (h2 : eqB (rowI ((m : Int) + 1)).1 s = true) : n = m := by
  have e1 := op_back n hn
  have e2 := op_back m hm
  rw [eqB_iff.1 h1] at e1
  rw [eqB_iff.1 h2] at e2
  omega
theorem app_five {o0 o1 : Obj} {l : List ByteArray} {by_ : Nat} (hr : (l.length + 5) * by_ ≤ 70368744177664) : appendV (some (1, by_)) (o0 :: o1 :: accO l) (accV 2 l) (vs five) = some ⟨.ref 2 (l.length + 5), [o0, o1, ⟨vs (l ++ five), 1, false⟩], accE 2 l⟩ := by
  have ne : (l ++ five).isEmpty = false := by cases l <;> rfl
  have h1 : accV 2 (l ++ five) = .ref 2 (l.length + 5) := by rw [accV_ne ne, List.length_append]; rfl
  have h2 : accO (l ++ five) = [⟨vs (l ++ five), 1, false⟩] := accO_ne ne
  have := acc_apps (R := [o0, o1]) (l := l) (m := five) (by_ := by_) rfl (by rw [One.sz1]; exact fits_vs l) hr
  rw [show [o0, o1].length = 2 from rfl, h1, h2] at this
  exact this
set_option maxHeartbeats 8000000 in
theorem ref03_Read {s : ByteArray} (hs : s.size ≤ 900) : Fun Tryd.prog 25 [.str s] (.tup [.t (enc (resRf s)), .t (.bool (okRf s))]) := by
  have hs' : s.size ≤ 1000000 := by omega
  have hp := pieces_pos 32 s
  have hpl : (piecesB 32 s).length ≤ 901 := by
    rw [pieces_len]
    have : Go.Lib.countByte s.data.toList 32 ≤ s.data.toList.length := List.count_le_length
    have e : s.data.toList.length = s.size := rfl
    omega
  generalize hw : piecesB 32 s = w at *
  have hps : ∀ k, (gd (w.drop 1 ++ five) k).size ≤ 1000000 := by
    intro k
    rcases Nat.lt_or_ge k (w.drop 1 ++ five).length with h | h
    · have := gd_mem h
      rcases List.mem_append.1 this with h | h
      · have h2 := List.mem_of_mem_drop h
        have := piece_mem (c := 32) (s := s) (p := gd (w.drop 1 ++ five) k) (by rw [hw]; exact h2)
        omega
      · have : gd (w.drop 1 ++ five) k = ByteArray.empty := by simpa [five] using h
        rw [this]; decide
    · unfold gd
      rw [List.getD_eq_getElem?_getD, List.getElem?_eq_none h]
      exact Nat.zero_le _
  refine Fun.go (b := false) Tryd.func25 rfl rfl (by kernel_rfl) (by kernel_rfl) ?_
  simp -implicitDefEqProofs (disch := first | exact dsch | fail) only [go_sem, ↓reduceIte, Nat.reduceEqDiff, hw]
  refine loop_k (n := 14) [0, 2, 4] (by kernel_rfl) (fun i e H => e 5 = .t (.int .i64 ((i : Int) + 1)) ∧ ∃ R, H = ⟨[.t (enc zeroI)], 6, false⟩ :: R ∧ (R = [] ∨ ∀ k : Nat, i ≤ k → k < 14 → eqB (rowI ((k : Int) + 1)).1 (gd w 0) = false) ∧ ∀ k, k < i → hitR s k = false) ?_ ?_
  · rintro i e H hi hk ⟨h5, R, rfl, hR, hno⟩
    simp only [keepP, go_sem, ↓reduceIte, Nat.reduceEqDiff, and_true] at hk
    by_cases hlt : i < 14
    · have hlt' : (i : Int) + 1 ≤ 14 := by omega
      cases he : eqB (rowI ((i : Int) + 1)).1 (gd w 0)
      · simp -implicitDefEqProofs (disch := first | exact dsch | fail) only [go_sem, ↓reduceIte, Nat.reduceEqDiff, hk, h5, hlt', he, hp]
        refine ⟨hlt, _, rfl, ?_, fun k hk' => ?_⟩
        · rcases hR with h | h
          · exact .inl h
          · exact .inr fun k h1 h2 => h k (by omega) h2
        · by_cases e : k = i
          · subst e; unfold hitR; rw [hw, he]; rfl
          · exact hno k (by omega)
      · obtain rfl : R = [] := by
          rcases hR with h | h
          · exact h
          · rw [h i (Nat.le_refl _) hlt] at he; cases he
        have hin : InR ((i : Int) + 1) := by unfold InR; omega
        obtain ⟨r1, _, _⟩ := ref_wf hin w
        have hh : hitR s i = eqB (lineB (refI ((i : Int) + 1) w)) s := by unfold hitR; rw [hw, he, Bool.true_and]
        have hf : (List.range 14).find? (hitR s) = if hitR s i = true then some i else none := find_one hlt (by
          intro n hn h
          unfold hitR at h
          rw [Bool.and_eq_true, hw] at h
          exact name_one hn hlt h.1 he)
        have hx : refI ((i : Int) + 1) w = refI ((i : Int) + 1) w := rfl
        have hmb : (w.drop 1).length * 16 ≤ 70368744177664 := by rw [List.length_drop]; omega
        have hfb : ((w.drop 1).length + 5) * 16 ≤ 70368744177664 := by rw [List.length_drop]; omega
        have p0 := hps 0
        have p1 := hps 1
        have p2 := hps 2
        have p3 := hps 3
        have p4 := hps 4
        have hLl : (w.drop 1 ++ five).length = (w.drop 1).length + 5 := by simp [five]
        rcases flags8 (op := (i : Int) + 1) (by omega) (by omega) with ⟨hd, ha, hb, hl, hm⟩ | ⟨hd, ha, hb, hl, hm⟩ | ⟨hd, ha, hb, hl, hm⟩ | ⟨hd, ha, hb, hl, hm⟩ | ⟨hd, ha, hb, hl, hm⟩ | ⟨hd, ha, hb, hl, hm⟩ | ⟨hd, ha, hb, hl, hm⟩ | ⟨hd, ha, hb, hl, hm⟩
        all_goals
          have hl' : (0 < kindI ((i : Int) + 1)) = (lI ((i : Int) + 1) = true) := by
            have := kind_nn ((i : Int) + 1)
            unfold lI
            by_cases h : kindI ((i : Int) + 1) = 0 <;> simp [h] <;> omega
          rw [hl] at hl'
          conv at hx => rhs; simp only [refI, rTo, rStep, fI, Nat.zero_add, hd, ha, hb, hl, hm, if_true, if_false, Bool.false_eq_true, Nat.zero_add, Nat.reduceAdd]
          rw [hx] at r1 hh
          cases hz : hitR s i
          · rw [hz] at hh
            simp -implicitDefEqProofs (disch := first | exact dsch | fail) only [go_sem, ↓reduceIte, Nat.reduceEqDiff, s_ops, hd, ha, hb, hl', hm, hk, h5, hlt', he, partV_drop1, hp, app_nil1, hmb, vs_five, app_five, hfb, wr_0, wr_1, wr_2, wr_3, wr_m, r1, hh.symm, hLl, List.cons_append, List.nil_append, List.length_cons, List.length_nil]
            refine ⟨hlt, _, rfl, .inr fun k h1 h2 => ?_, fun k hk' => ?_⟩
            · cases hq : eqB (rowI ((k : Int) + 1)).1 (gd w 0)
              · rfl
              · have := name_one hlt h2 he hq; omega
            · by_cases e : k = i
              · subst e; exact hz
              · exact hno k (by omega)
          · rw [hz] at hh hf
            rw [if_pos rfl] at hf
            have h1 : okRf s = true := by unfold okRf; rw [hf]; rfl
            have h2 : resRf s = refI ((i : Int) + 1) w := by unfold resRf; rw [hf, hw]
            simp -implicitDefEqProofs (disch := first | exact dsch | fail) only [go_sem, ↓reduceIte, Nat.reduceEqDiff, s_ops, hd, ha, hb, hl', hm, hk, h5, hlt', he, partV_drop1, hp, app_nil1, hmb, vs_five, app_five, hfb, wr_0, wr_1, wr_2, wr_3, wr_m, r1, hh.symm, hLl, List.cons_append, List.nil_append, List.length_cons, List.length_nil]
            rw [h1, h2, hx]
    · obtain rfl : i = 14 := by omega
      have hf : (List.range 14).find? (hitR s) = none := by
        rw [List.find?_eq_none]
        intro n hn
        rw [hno n (List.mem_range.1 hn)]; decide
      have h1 : okRf s = false := by unfold okRf; rw [hf]; rfl
      have h2 : resRf s = zeroI := by unfold resRf; rw [hf]
      simp -implicitDefEqProofs (disch := first | exact dsch | fail) only [go_sem, ↓reduceIte, Nat.reduceEqDiff, hk, h5]
      rw [h1, h2]; rfl
  · simp -implicitDefEqProofs (disch := first | exact dsch | fail) only [go_sem, ↓reduceIte, Nat.reduceEqDiff]
    exact ⟨[], rfl, .inl rfl, fun k hk => by omega⟩
@[go_sem] theorem pu_rRead {s : ByteArray} (hs : s.size ≤ 900) {K : Kp} : @Pu _ Tryd.prog 25 [.str s] K = K.k (.tup [.t (enc (resRf s)), .t (.bool (okRf s))]) := (ref03_Read hs).pu
end Go.Sim
