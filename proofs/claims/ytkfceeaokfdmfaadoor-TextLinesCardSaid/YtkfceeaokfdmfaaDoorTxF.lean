/- A part of the proof of a law of module cupola: TxF. It has no conditions of its own. -/
import Derived.Test.YtkfceeaokfdmfaaDoorTxC
set_option linter.all false
set_option maxRecDepth 100000
namespace Go.Sim
open Enc (enc)
open Go.Proofs
open Go.Lib (itoa decDigits)
def fieldsV (id : Nat) (op : Int) : V := mkAgg [if dI op then .ptr id 1 0 1 else .t .nilp, if aI op then .ptr id 1 0 2 else .t .nilp, if bI op then .ptr id 1 0 3 else .t .nilp, if lI op then .ptr id 1 0 4 else .t .nilp, .t .nilp]
def boxI (x : In) : Obj := ⟨[.t (enc x)], 6, false⟩
def boxF (id : Nat) (op : Int) : Obj := ⟨[fieldsV id op], 5, false⟩
theorem rd_aggT {cs : List T} {sz : Nat} : rdV (.t (.agg cs)) sz 0 true sz = some (.t (.agg cs)) := by simp [rdV, V.isAgg, T.isAgg]
theorem ld1 {H : Heap} {k : IntKind} {n : Int} : loadV H (some (false, 1)) (.tp [T.int k n] 0 0) = some ⟨.t (.int k n), H, .none⟩ := rfl
theorem ld20 {H : Heap} {k : IntKind} {n m : Int} : loadV H (some (false, 1)) (.tp [T.int k n, T.int k m] 0 0) = some ⟨.t (.int k n), H, .none⟩ := rfl
theorem ld21 {H : Heap} {k : IntKind} {n m : Int} : loadV H (some (false, 1)) (.tp [T.int k n, T.int k m] 1 0) = some ⟨.t (.int k m), H, .none⟩ := rfl
set_option maxHeartbeats 8000000 in
theorem fields_go0 {x : In} : FunH Tryd.prog 54 [.ptr 0 1 0 0] [boxI x] (fieldsV 0 x.op) [boxI x, boxF 0 x.op, boxF 0 x.op] := by
  have hk : (kindI x.op = 0) ↔ lI x.op = false := by
    unfold lI
    by_cases h : kindI x.op = 0 <;> simp [h]
  unfold boxF fieldsV boxI
  cases hd : dI x.op <;> cases ha : aI x.op <;> cases hb : bI x.op <;> cases hl : lI x.op
  all_goals
    have hu : usesL x.op = (if aI x.op then [(1 : Int)] else []) ++ (if bI x.op then [2] else []) := rfl
    rw [ha, hb] at hu
    simp only [if_true, if_false, Bool.false_eq_true, List.nil_append, List.append_nil, List.cons_append] at hu
    rw [hl] at hk
    simp only [iff_false, iff_true, Bool.true_eq_false] at hk
    refine FunH.go Tryd.func54 rfl rfl (by kernel_rfl) ?_
    simp -implicitDefEqProofs (disch := first | exact dsch | fail) only [go_sem, ↓reduceIte, Nat.reduceEqDiff, ld1, ld20, ld21, rd_aggT, hd, hk, hu, List.length_nil, List.length_cons]
    rw [e_loop]
    simp -implicitDefEqProofs (disch := first | exact dsch | fail) only [go_sem, ↓reduceIte, Nat.reduceEqDiff, ld1, ld20, ld21, rd_aggT, hd, hk, hu, List.length_nil, List.length_cons, (show gd [(1 : Int), 2] 0 = 1 from rfl), (show gd [(1 : Int)] 0 = 1 from rfl), (show gd [(2 : Int)] 0 = 2 from rfl)]
    try rw [e_loop]
    try simp -implicitDefEqProofs (disch := first | exact dsch | fail) only [go_sem, ↓reduceIte, Nat.reduceEqDiff, ld1, ld20, ld21, rd_aggT, hd, hk, hu, List.length_nil, List.length_cons, (show gd [(1 : Int), 2] 1 = 2 from rfl)]
    try rw [e_loop]
    try simp -implicitDefEqProofs (disch := first | exact dsch | fail) only [go_sem, ↓reduceIte, Nat.reduceEqDiff, ld1, ld20, ld21, rd_aggT, hd, hk, hu, List.length_nil, List.length_cons]
    try rfl
set_option maxHeartbeats 8000000 in
theorem fields_go1 {o : Obj} {x : In} : FunH Tryd.prog 54 [.ptr 1 1 0 0] [o, boxI x] (fieldsV 1 x.op) [o, boxI x, boxF 1 x.op, boxF 1 x.op] := by
  have hk : (kindI x.op = 0) ↔ lI x.op = false := by
    unfold lI
    by_cases h : kindI x.op = 0 <;> simp [h]
  unfold boxF fieldsV boxI
  cases hd : dI x.op <;> cases ha : aI x.op <;> cases hb : bI x.op <;> cases hl : lI x.op
  all_goals
    have hu : usesL x.op = (if aI x.op then [(1 : Int)] else []) ++ (if bI x.op then [2] else []) := rfl
    rw [ha, hb] at hu
    simp only [if_true, if_false, Bool.false_eq_true, List.nil_append, List.append_nil, List.cons_append] at hu
    rw [hl] at hk
    simp only [iff_false, iff_true, Bool.true_eq_false] at hk
    refine FunH.go Tryd.func54 rfl rfl (by kernel_rfl) ?_
    simp -implicitDefEqProofs (disch := first | exact dsch | fail) only [go_sem, ↓reduceIte, Nat.reduceEqDiff, ld1, ld20, ld21, rd_aggT, hd, hk, hu, List.length_nil, List.length_cons]
    rw [e_loop]
    simp -implicitDefEqProofs (disch := first | exact dsch | fail) only [go_sem, ↓reduceIte, Nat.reduceEqDiff, ld1, ld20, ld21, rd_aggT, hd, hk, hu, List.length_nil, List.length_cons, (show gd [(1 : Int), 2] 0 = 1 from rfl), (show gd [(1 : Int)] 0 = 1 from rfl), (show gd [(2 : Int)] 0 = 2 from rfl)]
    try rw [e_loop]
    try simp -implicitDefEqProofs (disch := first | exact dsch | fail) only [go_sem, ↓reduceIte, Nat.reduceEqDiff, ld1, ld20, ld21, rd_aggT, hd, hk, hu, List.length_nil, List.length_cons, (show gd [(1 : Int), 2] 1 = 2 from rfl)]
    try rw [e_loop]
    try simp -implicitDefEqProofs (disch := first | exact dsch | fail) only [go_sem, ↓reduceIte, Nat.reduceEqDiff, ld1, ld20, ld21, rd_aggT, hd, hk, hu, List.length_nil, List.length_cons]
    try rfl
theorem fields_dead (id : Nat) (op : Int) : (fieldsV id op).isDead = false := by
  unfold fieldsV
  cases dI op <;> cases aI op <;> cases bI op <;> cases lI op <;> rfl
theorem F_heap {P : Program} {f : FuncId} {vs : List V} {H : Heap} (hn : toTs H vs = none) {K : Kv} : @F _ P f vs H K = HeapGo P f vs H K.k := by
  rw [toTs_eq] at hn
  show CaW P f vs H K.k = HeapGo P f vs H K.k
  unfold CaW HeapGo callRun
  simp only [hn]
@[go_sem] theorem f_fields0 {x : In} {K : Kv} : @F _ Tryd.prog 54 [.ptr 0 1 0 0] [⟨[.t (enc x)], 6, false⟩] K = K.k (fieldsV 0 x.op) [⟨[.t (enc x)], 6, false⟩, boxF 0 x.op, boxF 0 x.op] .wild := (F_heap (by simp only [go_sem])).trans (HeapGo_eq fields_go0 (fields_dead _ _))
@[go_sem] theorem f_fields1 {o : Obj} {x : In} {K : Kv} : @F _ Tryd.prog 54 [.ptr 1 1 0 0] [o, ⟨[.t (enc x)], 6, false⟩] K = K.k (fieldsV 1 x.op) [o, ⟨[.t (enc x)], 6, false⟩, boxF 1 x.op, boxF 1 x.op] .wild := (F_heap (by simp only [go_sem])).trans (HeapGo_eq fields_go1 (fields_dead _ _))
theorem allT_map : ∀ {cs : List V} {ts : List T}, allT cs = some ts → cs = ts.map V.t
  | [], ts, h => by simp [allT] at h; subst h; rfl
  | c :: r, ts, h => by
    cases c with
    | t x =>
      cases hr : allT r with
      | none => simp [allT, hr] at h
      | some q =>
        simp [allT, hr] at h; subst h
        rw [allT_map hr]; rfl
    | _ => simp [allT] at h
theorem index_mk {P : Program} {H : Heap} {len el : Nat} {cs : List V} {n : Int} (ht : tyOf P el = some (false, 1)) (h0 : 0 ≤ n) (h1 : n < len) : index1 P H (.arr len el) (mkAgg cs) n = (cs[n.toNat]?).bind fun x => some ⟨x, H, .none⟩ := by
  unfold mkAgg
  cases ha : allT cs with
  | none => exact index1_arrV ht h0 h1
  | some ts =>
    have := allT_map ha
    subst this
    simp only
    rw [index1_arr ht h0 h1, List.getElem?_map]
    cases ts[n.toNat]? <;> rfl
theorem index_fields {P : Program} {H : Heap} {id el : Nat} {op : Int} {k : Nat} (hk : k < 5) (ht : tyOf P el = some (false, 1)) : index1 P H (.arr 5 el) (fieldsV id op) (k : Int) = some ⟨if fI op k = true then .ptr id 1 0 (k + 1) else .t .nilp, H, .none⟩ := by
  unfold fieldsV
  rw [index_mk ht (by omega) (by omega), Int.toNat_natCast]
  match k, hk with
  | 0, _ | 1, _ | 2, _ | 3, _ | 4, _ => rfl
theorem text_Line {x : In} (w : WfI x) : Fun Tryd.prog 26 [enc x] (.t (.str (lineB x))) := by
  have hr := row_size x.op
  have gm := w.imm
  have fm := figB_size gm
  have wz := words_size w 5
  unfold lineB
  by_cases h0 : (rowI x.op).1.size = 0
  · have he : eqB (rowI x.op).1 ⟨#[]⟩ = true := by rw [show (⟨#[]⟩ : ByteArray) = emptyB from rfl, eqB_empty]; simpa using h0
    rw [if_pos h0]
    refine Fun.go (b := false) Tryd.func26 rfl rfl (by kernel_rfl) (by kernel_rfl) ?_
    simp -implicitDefEqProofs (disch := first | exact dsch | fail) only [go_sem, ↓reduceIte, Nat.reduceEqDiff, he]
  · have he : eqB (rowI x.op).1 ⟨#[]⟩ = false := by rw [show (⟨#[]⟩ : ByteArray) = emptyB from rfl, eqB_empty]; simpa using h0
    rw [if_neg h0]
    refine Fun.go (b := false) Tryd.func26 rfl rfl (by kernel_rfl) (by kernel_rfl) ?_
    simp -implicitDefEqProofs (disch := first | exact dsch | fail) only [go_sem, ↓reduceIte, Nat.reduceEqDiff, he]
    refine loop_k (n := 5) [1, 2, 11] (by kernel_rfl) (fun i e H => e 12 = .t (.int .i64 i) ∧ e 3 = .t (.str (wordsTo x i)) ∧ H = [⟨[.t (enc x)], 6, false⟩, boxF 0 x.op, boxF 0 x.op]) ?_ ?_
    · rintro i e H hi hk ⟨hc, h3, rfl⟩
      simp only [keepP, go_sem, ↓reduceIte, Nat.reduceEqDiff, and_true] at hk
      by_cases hlt : i < 5
      · have hix := fun (P : Program) (H : Heap) (el : Nat) (ht : tyOf P el = some (false, 1)) => index_fields (P := P) (H := H) (id := 0) (el := el) (op := x.op) hlt ht
        have hg := w.g i
        have fg := figB_size hg
        have ws := words_size w i
        have hlt' : (i : Int) < 5 := by omega
        have hst : wordsTo x (i + 1) = if fI x.op i = true then wordsTo x i ++ (blank ++ figB (x.g i)) else wordsTo x i := rfl
        cases hf : fI x.op i
        · rw [hf] at hst hix
          simp only [Bool.false_eq_true, if_false] at hix hst
          simp -implicitDefEqProofs (disch := first | exact dsch | fail) only [go_sem, ↓reduceIte, Nat.reduceEqDiff, hk, hc, h3, hlt, hlt', hix]
          rw [hst]
        · rw [hf] at hst hix
          simp only [if_true] at hix hst
          have ld : ∀ H' : Heap, H' = [⟨[.t (enc x)], 6, false⟩, boxF 0 x.op, boxF 0 x.op] → loadV H' (some (false, 1)) (.ptr 0 1 0 (i + 1)) = some ⟨.t (.int .i64 (x.g i)), H', .load 0⟩ := by
            rintro _ rfl
            match i, hlt, hf with
            | 0, _, _ | 1, _, _ | 2, _, _ | 3, _, _ => rfl
            | 4, _, h => cases h
          have ld' := ld _ rfl
          simp -implicitDefEqProofs (disch := first | exact dsch | fail) only [go_sem, ↓reduceIte, Nat.reduceEqDiff, hk, hc, h3, hlt, hlt', hix, ld', hg]
          rw [hst]; rfl
      · obtain rfl : i = 5 := by omega
        cases hm : mI x.op
        · simp -implicitDefEqProofs (disch := first | exact dsch | fail) only [go_sem, ↓reduceIte, Nat.reduceEqDiff, hk, hc, h3, hm]
        · simp -implicitDefEqProofs (disch := first | exact dsch | fail) only [go_sem, ↓reduceIte, Nat.reduceEqDiff, hk, hc, h3, hm, gm]
          rfl
    · simp -implicitDefEqProofs (disch := first | exact dsch | fail) only [go_sem, ↓reduceIte, Nat.reduceEqDiff]
      rfl
@[go_sem] theorem pu_tLine {x : In} (w : WfI x) {K : Kp} : @Pu _ Tryd.prog 26 [enc x] K = K.k (.t (.str (lineB x))) := (text_Line w).pu
@[go_sem] theorem pu_rLine {x : In} (w : WfI x) {K : Kp} : @Pu _ Tryd.prog 27 [enc x] K = K.k (.t (.str (lineB x))) := (ref03_Line w).pu
theorem opB_at {s : ByteArray} {i : Nat} (hi : i < 14) (hz : ∀ k : Nat, k < i → eqB (rowI ((k : Int) + 1)).1 s = false) (he : eqB (rowI ((i : Int) + 1)).1 s = true) : opB s = (i : Int) + 1 := by
  unfold opB
  have := find_one (p := fun n : Nat => eqB (rowI ((n : Int) + 1)).1 s) hi (fun n hn h => by
    have e := eqB_iff.1 h
    have e2 := eqB_iff.1 he
    have a1 := op_back n hn
    have a2 := op_back i hi
    rw [e] at a1
    rw [e2] at a2
    omega)
  rw [this, if_pos he]
theorem opB_no {s : ByteArray} (hz : ∀ k : Nat, k < 14 → eqB (rowI ((k : Int) + 1)).1 s = false) : opB s = 0 := by
  unfold opB
  have : (List.range 14).find? (fun n : Nat => eqB (rowI ((n : Int) + 1)).1 s) = none := by
    rw [List.find?_eq_none]
    intro n hn
    rw [hz n (List.mem_range.1 hn)]; decide
  rw [this]
theorem text_op {s : ByteArray} : Fun Tryd.prog 53 [.str s] (.t (.int .i64 (opB s))) := by
  refine Fun.go (b := false) Tryd.func53 rfl rfl (by kernel_rfl) (by kernel_rfl) ?_
  simp -implicitDefEqProofs (disch := first | exact dsch | fail) only [go_sem, ↓reduceIte, Nat.reduceEqDiff]
  refine loop_k (n := 14) [0] (by kernel_rfl) (fun i e H => e 3 = .t (.int .i64 ((i : Int) + 1)) ∧ (∀ k : Nat, k < i → eqB (rowI ((k : Int) + 1)).1 s = false) ∧ H = []) ?_ ?_
  · rintro i e H hi hk ⟨h3, hz, rfl⟩
    simp only [keepP, go_sem, ↓reduceIte, Nat.reduceEqDiff, and_true] at hk
    by_cases hlt : i < 14
    · have hlt' : (i : Int) + 1 ≤ 14 := by omega
      cases he : eqB (rowI ((i : Int) + 1)).1 s
      · simp -implicitDefEqProofs (disch := first | exact dsch | fail) only [go_sem, ↓reduceIte, Nat.reduceEqDiff, hk, h3, hlt', he]
        refine ⟨hlt, fun k hk' => ?_⟩
        by_cases e : k = i
        · subst e; exact he
        · exact hz k (by omega)
      · simp -implicitDefEqProofs (disch := first | exact dsch | fail) only [go_sem, ↓reduceIte, Nat.reduceEqDiff, hk, h3, hlt', he]
        rw [opB_at hlt hz he]
    · obtain rfl : i = 14 := by omega
      simp -implicitDefEqProofs (disch := first | exact dsch | fail) only [go_sem, ↓reduceIte, Nat.reduceEqDiff, hk, h3]
      rw [opB_no hz]
  · simp -implicitDefEqProofs (disch := first | exact dsch | fail) only [go_sem, ↓reduceIte, Nat.reduceEqDiff]
    exact fun k hk => by omega
@[go_sem] theorem pu_top {s : ByteArray} {K : Kp} : @Pu _ Tryd.prog 53 [.str s] K = K.k (.t (.int .i64 (opB s))) := text_op.pu
end Go.Sim
