/- A part of the proof of a law of module cupola: Q1, Q2. It has no conditions of its own. -/
import Derived.Test.YtkfceeaokfdmfaaGreatDoorStB
set_option linter.all false
set_option maxRecDepth 100000
namespace Go.Sim
open Enc (enc)
open Go.Proofs
theorem FunH.goE {P : Program} {f : FuncId} {fn : Func} {c : Code} {rs : List ResultVar} {vs : List V} {H : Heap} {Q : V → Heap → Prop} (hf : P.funcs[f]? = some fn) (hb : fn.body = some c) (hr : fn.results = rs.toArray) (hk : fnOk drawOk fn = true)
    (h : @C _ P ⟨c⟩ (enter vs) H ⟨fun x e H1 => okX x ∧ ∃ u, (resVs P e H1 rs).bind (fun vs => some (one vs)) = some u ∧ Q u H1⟩) (ho : Orc.has f = false := by rfl) : ∃ u H', FunH P f vs H u H' ∧ Q u H' := by
  obtain ⟨k, x, e, H1, h1, hx, u, h2, h3⟩ := h
  rw [Option.bind_eq_some_iff] at h2
  obtain ⟨us, h5, h4⟩ := h2
  simp only [Option.some.injEq] at h4
  exact ⟨u, H1, FunH.go hf hb hr hk ⟨k, x, e, H1, h1, hx, by rw [h5]; simp [h4]⟩ ho, h3⟩
theorem rows_Len {H : Heap} {r n : Nat} {o : Obj} (h : cur H r n = some o) : FunH Tryz.prog 113 [.ref r n] H (.t (.int .i64 n)) H := by
  refine FunH.go Tryz.func113 rfl rfl (by kernel_rfl) ?_
  simp -implicitDefEqProofs (disch := first | exact dsch | fail) only [go_sem, ↓reduceIte, Nat.reduceEqDiff, h]
theorem rows_Less {H : Heap} {r : Nat} {l : List Fs} (h : H[r]? = some ⟨vs l, 3, false⟩) (ho : ∀ s ∈ l, OkF s) {i j : Nat} (hi : i < l.length) (hj : j < l.length) : ∃ H', FunH Tryz.prog 114 [.ref r l.length, .t (.int .i64 i), .t (.int .i64 j)] H (.t (.bool (lessB (gd l i) (gd l j)))) H' ∧ H' = H := by
  have hc : cur H r l.length = some ⟨vs l, 3, false⟩ := cur_some h (vs_len l)
  have h1 := ho _ (gd_mem hi)
  have h2 := ho _ (gd_mem hj)
  refine ⟨H, ?_, rfl⟩
  refine FunH.go Tryz.func114 rfl rfl (by kernel_rfl) ?_
  simp -implicitDefEqProofs (disch := first | exact dsch | fail) only [go_sem, ↓reduceIte, Nat.reduceEqDiff, hc, h1, h2, hi, hj]
@[go_sem] theorem ofVal_nilm : ofVal (.map none) = some (.t .nilm) := rfl
@[go_sem] theorem stor_mp {id : Nat} : (V.mp id).storable = true := rfl
@[go_sem] theorem cells_mp {id : Nat} : (V.mp id).cells = [V.mp id] := rfl
@[go_sem] theorem stor_nilm : (V.t .nilm).storable = true := rfl
@[go_sem] theorem cells_nilm : (V.t .nilm).cells = [V.t .nilm] := rfl
@[go_sem] theorem keysOf_nil {st : Bool} : keysOf ⟨[], 0, st⟩ = some [] := rfl
@[go_sem] theorem contains_nil {c : ByteArray} : ([] : List ByteArray).contains c = false := rfl
def swapL (l : List Fs) (i j : Nat) : List Fs := (l.set i (gd l j)).set j (gd l i)
theorem swapL_len (l : List Fs) (i j : Nat) : (swapL l i j).length = l.length := by simp [swapL]
@[go_sem] theorem store1_F {H : Heap} {id i : Nat} {l : List Fs} {x : Fs} (hi : i < l.length) : store1 H id ⟨vs l, 3, false⟩ i 0 3 (.t (enc x)) = some ⟨.dead, H.set id ⟨vs (l.set i x), 3, false⟩, .grow id⟩ := by
  have e : (vs l).set i (.t (enc x)) = vs (l.set i x) := by unfold vs; rw [List.map_set]
  simp [store1, vs_get l i hi, wr_whole, stor_Fs, cells_Fs, e]
theorem set_at {H : Heap} {r : Nat} (h : r < H.length) (o : Obj) : (H.set r o)[r]? = some o := by simp [h]
theorem rows_Swap {H : Heap} {r : Nat} {l : List Fs} (h : H[r]? = some ⟨vs l, 3, false⟩) {i j : Nat} (hi : i < l.length) (hj : j < l.length) : FunH Tryz.prog 115 [.ref r l.length, .t (.int .i64 i), .t (.int .i64 j)] H (.tup []) (H.set r ⟨vs (swapL l i j), 3, false⟩) := by
  have hr : r < H.length := at_lt h
  refine FunH.go Tryz.func115 rfl rfl (by kernel_rfl) ?_
  have hs := set_at hr
  have e1 : ∀ x, (l.set i x).length = l.length := fun x => List.length_set
  simp -implicitDefEqProofs (disch := first | exact dsch | fail) only [go_sem, ↓reduceIte, Nat.reduceEqDiff, h, hi, hj, hs, e1, List.set_set]
  rfl
theorem at_app {H : Heap} {id : Nat} (h : id < H.length) (X : Heap) : (H ++ X)[id]? = H[id]? := List.getElem?_append_left h
theorem set_app {H : Heap} {id : Nat} (h : id < H.length) (X : Heap) (o : Obj) : (H ++ X).set id o = H.set id o ++ X := List.set_append_left _ _ h
theorem at_ne {H : Heap} {i j : Nat} (h : i ≠ j) (o : Obj) : (H.set i o)[j]? = H[j]? := List.getElem?_set_ne h
theorem at_end {H X : Heap} {B : Obj} : (H ++ B :: X)[H.length]? = some B := by simp
theorem at_end1 {H X : Heap} {A B : Obj} : (H ++ A :: B :: X)[H.length + 1]? = some B := by
  rw [List.getElem?_append_right (by omega)]; simp
theorem at_endS {H X : Heap} {B o : Obj} {r : Nat} : (H.set r o ++ B :: X)[H.length]? = some B := by
  rw [List.getElem?_append_right (by simp)]; simp
theorem at_endSS {H X : Heap} {B o p : Obj} {r q : Nat} : ((H.set r o).set q p ++ B :: X)[H.length]? = some B := by
  rw [List.getElem?_append_right (by simp)]; simp
theorem set_end {H X : Heap} {B C : Obj} : (H ++ B :: X).set H.length C = H ++ C :: X := by
  rw [List.set_append_right _ _ (Nat.le_refl _)]; simp
theorem set_end1 {H X : Heap} {A B C : Obj} : (H ++ A :: B :: X).set (H.length + 1) C = H ++ A :: C :: X := by
  rw [List.set_append_right _ _ (by omega)]; simp
def goneF (l : List Fs) : Obj := ⟨.dead :: vs l, 0, true⟩
def cut1 (H : Heap) (id : Nat) (o : Obj) (n : Nat) (k : Int) : Option Res := if 0 ≤ k ∧ k ≤ n ∧ 0 < o.esz ∧ o.st = false then
    some ⟨.ref H.length k.toNat, H.set id ⟨.dead :: o.el, 0, true⟩ ++ [⟨o.el.take k.toNat, o.esz, false⟩], .wild⟩ else none
@[go_sem] theorem cutV_go {H : Heap} {id n : Nat} {k : Int} : cutV H id n k = (cur H id n).bind fun o => cut1 H id o n k := rfl
@[go_sem] theorem cut1_F {H : Heap} {r n : Nat} {k : Nat} {l : List Fs} (h1 : k ≤ n) : cut1 H r ⟨vs l, 3, false⟩ n (k : Int) = some ⟨.ref H.length k, H.set r (goneF l) ++ [⟨vs (l.take k), 3, false⟩], .wild⟩ := by
  unfold cut1
  rw [if_pos ⟨by omega, by omega, (by decide : 0 < 3), rfl⟩]
  simp [goneF, vs, List.map_take]
theorem rows_Pop {H : Heap} {q r : Nat} {l : List Fs} {sv : V} (hq : H[q]? = some ⟨[.agg [.ref r l.length, sv]], 2, false⟩) (hr : H[r]? = some ⟨vs l, 3, false⟩) (hl : 0 < l.length) (hL : l.length ≤ 1000000) (hne : q ≠ r) :
    FunH Tryz.prog 125 [.ptr q 1 0 0] H (.t (.iface 41 (enc (gd l (l.length - 1))))) ((H.set r (goneF l)).set q ⟨[.agg [.ref (H.length + 1) (l.length - 1), sv]], 2, false⟩ ++ [⟨[.t (enc (gd l (l.length - 1)))], 3, false⟩, ⟨vs (l.take (l.length - 1)), 3, false⟩]) := by
  have hq' := at_lt hq
  have hr' := at_lt hr
  have h1 : l.length - 1 < l.length := by omega
  have h2 : IntKind.i64.wrap ((l.length : Int) - 1) = ((l.length - 1 : Nat) : Int) := by
    rw [wrap_i64 (by omega) (by omega)]; omega
  have hne' := Ne.symm hne
  have h4 : l.length - 1 ≤ l.length := by omega
  refine FunH.go Tryz.func125 rfl rfl (by kernel_rfl) ?_
  simp -implicitDefEqProofs (disch := first | exact dsch | (simp only [go_sem, hq, hr, at_app, set_app, at_ne, at_end, at_end1, at_endS, at_endSS, set_end, set_end1, hq', hr', h1, h2, h4, hl, List.length_set, hne, hne', List.append_assoc, List.cons_append, List.nil_append]; omega) | (refine of_eq_true ?_; simp (disch := first | omega | (refine of_eq_true ?_; simp only [go_sem, hq, hr, at_app, set_app, at_ne, at_end, at_end1, at_endS, at_endSS, set_end, set_end1, hq', hr', h1, h2, h4, hl, List.length_set, hne, hne', List.append_assoc, List.cons_append, List.nil_append]; done) | (simp only [go_sem, hq, hr, at_app, set_app, at_ne, at_end, at_end1, at_endS, at_endSS, set_end, set_end1, hq', hr', h1, h2, h4, hl, List.length_set, hne, hne', List.append_assoc, List.cons_append, List.nil_append]; omega)) only [go_sem, hq, hr, at_app, set_app, at_ne, at_end, at_end1, at_endS, at_endSS, set_end, set_end1, hq', hr', h1, h2, h4, hl, List.length_set, hne, hne', List.append_assoc, List.cons_append, List.nil_append]; done) | fail) only [go_sem, ↓reduceIte, Nat.reduceEqDiff, hq, hr, at_app, set_app, at_ne, at_end, at_end1, at_endS, at_endSS, set_end, set_end1, hq', hr', h1, h2, h4, hl, List.length_set, hne, hne', List.append_assoc, List.cons_append, List.nil_append]
@[go_sem] theorem litF {H : Heap} {len by_ : Nat} {l : List (Nat × V)} (h2 : 0 < by_) (h3 : len * 3 ≤ 16777216) (h4 : allC 3 l = true) :
    lit1 H len (.agg [.t (.int .u32 0), .ex [], .ex []]) (3, by_) l = (litV H (List.replicate len (enc (⟨0#32, [], []⟩ : Fs))) l).bind fun xs => some ⟨.ex xs, foldH H l, effC l⟩ := lit1_go (z' := enc (⟨0#32, [], []⟩ : Fs)) rfl rfl (by decide) h2 h3 h4
theorem vs_snoc (l : List Fs) (s : Fs) : vs l ++ [.t (enc s)] = vs (l ++ [s]) := by simp [vs]
theorem rows_Push {H : Heap} {q r : Nat} {l : List Fs} {s : Fs} {sv : V} (hq : H[q]? = some ⟨[.agg [.ref r l.length, sv]], 2, false⟩) (hr : H[r]? = some ⟨vs l, 3, false⟩) (hL : l.length ≤ 1000000) (hne : q ≠ r) :
    FunH Tryz.prog 126 [.ptr q 1 0 0, .t (.iface 41 (enc s))] H (.tup []) ((H.set r ⟨vs (l ++ [s]), 3, false⟩).set q ⟨[.agg [.ref r (l.length + 1), sv]], 2, false⟩ ++ [⟨[.t (enc s)], 3, false⟩]) := by
  have hq' := at_lt hq
  have hr' := at_lt hr
  have hne' := Ne.symm hne
  refine FunH.go Tryz.func126 rfl rfl (by kernel_rfl) ?_
  simp -implicitDefEqProofs (disch := first | exact dsch | (simp only [go_sem, hq, hr, at_app, set_app, at_ne, at_end, at_end1, at_endS, at_endSS, set_end, set_end1, hq', hr', List.length_set, hne, hne', List.append_assoc, List.cons_append, List.nil_append]; omega) | (refine of_eq_true ?_; simp (disch := first | omega | (refine of_eq_true ?_; simp only [go_sem, hq, hr, at_app, set_app, at_ne, at_end, at_end1, at_endS, at_endSS, set_end, set_end1, hq', hr', List.length_set, hne, hne', List.append_assoc, List.cons_append, List.nil_append]; done) | (simp only [go_sem, hq, hr, at_app, set_app, at_ne, at_end, at_end1, at_endS, at_endSS, set_end, set_end1, hq', hr', List.length_set, hne, hne', List.append_assoc, List.cons_append, List.nil_append]; omega)) only [go_sem, hq, hr, at_app, set_app, at_ne, at_end, at_end1, at_endS, at_endSS, set_end, set_end1, hq', hr', List.length_set, hne, hne', List.append_assoc, List.cons_append, List.nil_append]; done) | fail) only [go_sem, ↓reduceIte, Nat.reduceEqDiff, hq, hr, at_app, set_app, at_ne, at_end, at_end1, at_endS, at_endSS, set_end, set_end1, hq', hr', List.length_set, hne, hne', List.append_assoc, List.cons_append, List.nil_append]
  rfl
theorem rows_Push0 {H : Heap} {q : Nat} {s : Fs} {sv : V} (hq : H[q]? = some ⟨[.agg [.ex [], sv]], 2, false⟩) :
    FunH Tryz.prog 126 [.ptr q 1 0 0, .t (.iface 41 (enc s))] H (.tup []) (H.set q ⟨[.agg [.ref (H.length + 1) 1, sv]], 2, false⟩ ++ [⟨[.t (enc s)], 3, false⟩, ⟨vs [s], 3, false⟩]) := by
  have hq' := at_lt hq
  refine FunH.go Tryz.func126 rfl rfl (by kernel_rfl) ?_
  simp -implicitDefEqProofs (disch := first | exact dsch | (simp only [go_sem, hq, at_app, set_app, at_ne, at_end, at_end1, at_endS, at_endSS, set_end, set_end1, hq', List.length_set, List.append_assoc, List.cons_append, List.nil_append]; omega) | (refine of_eq_true ?_; simp (disch := first | omega | (refine of_eq_true ?_; simp only [go_sem, hq, at_app, set_app, at_ne, at_end, at_end1, at_endS, at_endSS, set_end, set_end1, hq', List.length_set, List.append_assoc, List.cons_append, List.nil_append]; done) | (simp only [go_sem, hq, at_app, set_app, at_ne, at_end, at_end1, at_endS, at_endSS, set_end, set_end1, hq', List.length_set, List.append_assoc, List.cons_append, List.nil_append]; omega)) only [go_sem, hq, at_app, set_app, at_ne, at_end, at_end1, at_endS, at_endSS, set_end, set_end1, hq', List.length_set, List.append_assoc, List.cons_append, List.nil_append]; done) | fail) only [go_sem, ↓reduceIte, Nat.reduceEqDiff, hq, at_app, set_app, at_ne, at_end, at_end1, at_endS, at_endSS, set_end, set_end1, hq', List.length_set, List.append_assoc, List.cons_append, List.nil_append]
  rfl
end Go.Sim

set_option maxRecDepth 100000
namespace Go.Sim
open Enc (enc)
open Go.Proofs
def upL : Nat → List Fs → Nat → List Fs
  | 0, l, _ => l
  | k + 1, l, j => if j = 0 then l else if lessB (gd l j) (gd l ((j - 1) / 2)) = true then upL k (swapL l ((j - 1) / 2) j) ((j - 1) / 2) else l
theorem upL_more : ∀ (k : Nat) (l : List Fs) (j : Nat), j ≤ k → upL (k + 1) l j = upL k l j
  | 0, l, j, h => by
    obtain rfl : j = 0 := by omega
    simp [upL]
  | k + 1, l, j, h => by
    rw [upL]
    conv => rhs; rw [upL]
    by_cases h0 : j = 0
    · rw [if_pos h0, if_pos h0]
    · rw [if_neg h0, if_neg h0]
      split
      · exact upL_more k _ _ (by omega)
      · rfl
theorem upL_fuel {k : Nat} {l : List Fs} {j : Nat} (h : j ≤ k) : upL k l j = upL j l j := by
  induction k with
  | zero => obtain rfl : j = 0 := by omega
            rfl
  | succ k ih =>
    by_cases e : j = k + 1
    · rw [e]
    · rw [upL_more k l j (by omega), ih (by omega)]
def upS (l : List Fs) (j : Nat) : List Fs := upL j l j
theorem upS_0 (l : List Fs) : upS l 0 = l := rfl
theorem upS_no {l : List Fs} {j : Nat} (h : lessB (gd l j) (gd l ((j - 1) / 2)) = false) : upS l j = l := by
  unfold upS
  cases j with
  | zero => rfl
  | succ j => simp [upL] at h ⊢; simp [h]
theorem upS_yes {l : List Fs} {j : Nat} (h0 : 0 < j) (h : lessB (gd l j) (gd l ((j - 1) / 2)) = true) : upS l j = upS (swapL l ((j - 1) / 2) j) ((j - 1) / 2) := by
  unfold upS
  obtain ⟨k, rfl⟩ : ∃ k, j = k + 1 := ⟨j - 1, by omega⟩
  rw [upL, if_neg (by omega), if_pos h]
  exact upL_fuel (by omega)
theorem set_same {H : Heap} {r : Nat} {o : Obj} (h : H[r]? = some o) : H.set r o = H := by
  apply List.ext_getElem?
  intro i
  by_cases e : r = i
  · subst e; rw [set_at (at_lt h), h]
  · rw [at_ne e]
theorem swapL_ok {l : List Fs} (ho : ∀ s ∈ l, OkF s) {i j : Nat} (hi : i < l.length) (hj : j < l.length) : ∀ s ∈ swapL l i j, OkF s := by
  intro s hs
  unfold swapL at hs
  rcases List.mem_or_eq_of_mem_set hs with h | h
  · rcases List.mem_or_eq_of_mem_set h with h | h
    · exact ho s h
    · rw [h]; exact ho _ (gd_mem hj)
  · rw [h]; exact ho _ (gd_mem hi)
theorem wrap_half {j : Nat} (h : j ≤ 1000000) : IntKind.i64.wrap (Int.tdiv (IntKind.i64.wrap ((j : Int) - 1)) 2) = (((j - 1) / 2 : Nat) : Int) := by
  have e : IntKind.i64.wrap ((j : Int) - 1) = (j : Int) - 1 := wrap_i64 (by omega) (by omega)
  rw [e]
  by_cases h0 : j = 0
  · subst h0; decide
  · rw [Int.tdiv_eq_ediv_of_nonneg (by omega)]
    rw [wrap_i64 (by omega) (by omega)]; omega
theorem heap_up {H : Heap} {q r : Nat} {l : List Fs} {sv : V} {j : Nat} (hq : H[q]? = some ⟨[.agg [.ref r l.length, sv]], 2, false⟩) (hr : H[r]? = some ⟨vs l, 3, false⟩) (hL : l.length ≤ 1000000) (hne : q ≠ r) (ho : ∀ s ∈ l, OkF s) (hj : j < l.length) :
    FunH Tryz.prog 35 [.ifc 60 (.ptr q 1 0 0), .t (.int .i64 j)] H (.tup []) (H.set r ⟨vs (upS l j), 3, false⟩) := by
  have hq' := at_lt hq
  have hr' := at_lt hr
  have hne' := Ne.symm hne
  have hsame := set_same hr
  refine FunH.go Tryz.func35 rfl rfl (by kernel_rfl) ?_
  simp -implicitDefEqProofs (disch := first | exact dsch | fail) only [go_sem, ↓reduceIte, Nat.reduceEqDiff]
  refine loop_kinv [0] (by kernel_rfl) (s0 := (l, j)) (fun (s : List Fs × Nat) e H1 => e 1 = .t (.int .i64 s.2) ∧ H1 = H.set r ⟨vs s.1, 3, false⟩ ∧ s.1.length = l.length ∧ (∀ x ∈ s.1, OkF x) ∧ s.2 < l.length ∧ upS s.1 s.2 = upS l j) (fun s => s.2) ?_ ?_
  · rintro ⟨m, i⟩ e H1 hk ⟨h1, rfl, hm, hok, hi, hup⟩
    simp only at h1 hm hok hi hup
    simp only [keepP, go_sem, ↓reduceIte, Nat.reduceEqDiff, and_true] at hk
    have hw := wrap_half (j := i) (by omega)
    have hi2 : (i - 1) / 2 < m.length := by omega
    have hc := set_at hr'
    have hcc := hc ⟨vs m, 3, false⟩
    have gLess : ∀ K, HeapGo Tryz.prog 114 [.ref r l.length, .t (.int .i64 i), .t (.int .i64 ((i - 1) / 2 : Nat))] (H.set r ⟨vs m, 3, false⟩) K = K (.t (.bool (lessB (gd m i) (gd m ((i - 1) / 2))))) (H.set r ⟨vs m, 3, false⟩) (.ran (H.set r ⟨vs m, 3, false⟩) (H.set r ⟨vs m, 3, false⟩)) := by
      intro K
      obtain ⟨H', h1, rfl⟩ := rows_Less hcc hok (i := i) (j := (i - 1) / 2) (by omega) hi2
      rw [hm] at h1
      exact HeapGo_eq h1
    have gSwap : ∀ K, HeapGo Tryz.prog 115 [.ref r l.length, .t (.int .i64 ((i - 1) / 2 : Nat)), .t (.int .i64 i)] (H.set r ⟨vs m, 3, false⟩) K = K (.tup []) (H.set r ⟨vs (swapL m ((i - 1) / 2) i), 3, false⟩) (.ran (H.set r ⟨vs m, 3, false⟩) (H.set r ⟨vs (swapL m ((i - 1) / 2) i), 3, false⟩)) := by
      intro K
      have h1 := rows_Swap hcc (i := (i - 1) / 2) (j := i) hi2 (by omega)
      rw [hm, List.set_set] at h1
      exact HeapGo_eq h1
    by_cases h0 : i = 0
    · subst h0
      have hz : IntKind.i64.wrap ((-1 : Int).tdiv 2) = 0 := by decide
      rw [upS_0] at hup
      simp -implicitDefEqProofs (disch := first | exact dsch | (simp only [go_sem, h1, hk, hz, hup]; omega) | (refine of_eq_true ?_; simp (disch := first | omega | (refine of_eq_true ?_; simp only [go_sem, h1, hk, hz, hup]; done) | (simp only [go_sem, h1, hk, hz, hup]; omega)) only [go_sem, h1, hk, hz, hup]; done) | fail) only [go_sem, ↓reduceIte, Nat.reduceEqDiff, h1, hk, hz, hup]
      rfl
    · have hw1 : IntKind.i64.wrap ((i : Int) - 1) = ((i - 1 : Nat) : Int) := by rw [wrap_i64 (by omega) (by omega)]; omega
      rw [hw1] at hw
      have hd : ¬ ((((i - 1) / 2 : Nat) : Int) = (i : Int)) := by omega
      cases hb : lessB (gd m i) (gd m ((i - 1) / 2))
      · have hstop := upS_no hb
        rw [hstop] at hup
        simp -implicitDefEqProofs (disch := first | exact dsch | (simp only [go_sem, h1, hk, hw, hw1, hd, hc, hq, at_ne, hne', gLess, hb]; omega) | (refine of_eq_true ?_; simp (disch := first | omega | (refine of_eq_true ?_; simp only [go_sem, h1, hk, hw, hw1, hd, hc, hq, at_ne, hne', gLess, hb]; done) | (simp only [go_sem, h1, hk, hw, hw1, hd, hc, hq, at_ne, hne', gLess, hb]; omega)) only [go_sem, h1, hk, hw, hw1, hd, hc, hq, at_ne, hne', gLess, hb]; done) | fail) only [go_sem, ↓reduceIte, Nat.reduceEqDiff, h1, hk, hw, hw1, hd, hc, hq, at_ne, hne', gLess, hb]
        rw [hup]; rfl
      · have hgo := upS_yes (by omega) hb
        rw [hgo] at hup
        have hok2 := swapL_ok hok hi2 (j := i) (by omega)
        have hlen2 := swapL_len m ((i - 1) / 2) i
        simp -implicitDefEqProofs (disch := first | exact dsch | (simp only [go_sem, h1, hk, hw, hw1, hd, hc, hq, at_ne, hne', gLess, gSwap, hb]; omega) | (refine of_eq_true ?_; simp (disch := first | omega | (refine of_eq_true ?_; simp only [go_sem, h1, hk, hw, hw1, hd, hc, hq, at_ne, hne', gLess, gSwap, hb]; done) | (simp only [go_sem, h1, hk, hw, hw1, hd, hc, hq, at_ne, hne', gLess, gSwap, hb]; omega)) only [go_sem, h1, hk, hw, hw1, hd, hc, hq, at_ne, hne', gLess, gSwap, hb]; done) | fail) only [go_sem, ↓reduceIte, Nat.reduceEqDiff, h1, hk, hw, hw1, hd, hc, hq, at_ne, hne', gLess, gSwap, hb]
        exact ⟨(swapL m ((i - 1) / 2) i, (i - 1) / 2), by show (i - 1) / 2 < i; omega, rfl, rfl, by show (swapL m ((i - 1) / 2) i).length = _; omega, hok2, by show (i - 1) / 2 < _; omega, hup⟩
  · exact ⟨rfl, hsame.symm, rfl, ho, hj, rfl⟩
def dnC (l : List Fs) (i n : Nat) : Nat := if 2 * i + 2 < n ∧ lessB (gd l (2 * i + 2)) (gd l (2 * i + 1)) = true then 2 * i + 2 else 2 * i + 1
def dnL : Nat → List Fs → Nat → Nat → List Fs
  | 0, l, _, _ => l
  | k + 1, l, i, n => if 2 * i + 1 < n ∧ lessB (gd l (dnC l i n)) (gd l i) = true then dnL k (swapL l i (dnC l i n)) (dnC l i n) n else l
theorem dnC_gt (l : List Fs) (i n : Nat) : i < dnC l i n := by unfold dnC; split <;> omega
theorem dnC_lt {l : List Fs} {i n : Nat} (h : 2 * i + 1 < n) : dnC l i n < n := by unfold dnC; split <;> omega
theorem dnL_more : ∀ (k : Nat) (l : List Fs) (i n : Nat), n ≤ i + k → dnL (k + 1) l i n = dnL k l i n
  | 0, l, i, n, h => by
    simp only [dnL]
    rw [if_neg (by intro hh; omega)]
  | k + 1, l, i, n, h => by
    rw [dnL]
    conv => rhs; rw [dnL]
    split
    · rename_i hh
      exact dnL_more k _ _ _ (by have := dnC_gt l i n; omega)
    · rfl
theorem dnL_fuel {k : Nat} : ∀ {l : List Fs} {i n : Nat}, n ≤ i + k → dnL k l i n = dnL (n - i) l i n := by
  induction k with
  | zero =>
    intro l i n h
    rw [show n - i = 0 by omega]
  | succ k ih =>
    intro l i n h
    by_cases e : n - i = k + 1
    · rw [e]
    · rw [dnL_more k l i n (by omega), ih (by omega)]
def dnS (l : List Fs) (i n : Nat) : List Fs := dnL (n - i) l i n
theorem dnS_no {l : List Fs} {i n : Nat} (h : ¬ (2 * i + 1 < n ∧ lessB (gd l (dnC l i n)) (gd l i) = true)) : dnS l i n = l := by
  unfold dnS
  cases n - i with
  | zero => rfl
  | succ k => rw [dnL, if_neg h]
theorem dnS_yes {l : List Fs} {i n : Nat} (h : 2 * i + 1 < n ∧ lessB (gd l (dnC l i n)) (gd l i) = true) : dnS l i n = dnS (swapL l i (dnC l i n)) (dnC l i n) n := by
  unfold dnS
  obtain ⟨k, hk⟩ : ∃ k, n - i = k + 1 := ⟨n - i - 1, by omega⟩
  rw [hk, dnL, if_pos h]
  exact dnL_fuel (by have := dnC_gt l i n; omega)
theorem heap_down {H : Heap} {q r : Nat} {l : List Fs} {sv : V} {j n : Nat} (hq : H[q]? = some ⟨[.agg [.ref r l.length, sv]], 2, false⟩) (hr : H[r]? = some ⟨vs l, 3, false⟩) (hL : l.length ≤ 1000000) (hne : q ≠ r) (ho : ∀ s ∈ l, OkF s) (hj : j ≤ n) (hn : n ≤ l.length) :
    ∃ u H', FunH Tryz.prog 37 [.ifc 60 (.ptr q 1 0 0), .t (.int .i64 j), .t (.int .i64 n)] H u H' ∧ (∃ b, u = .t (.bool b)) ∧ H' = H.set r ⟨vs (dnS l j n), 3, false⟩ := by
  have hq' := at_lt hq
  have hr' := at_lt hr
  have hne' := Ne.symm hne
  have hsame := set_same hr
  refine FunH.goE Tryz.func37 rfl rfl (by kernel_rfl) ?_
  simp -implicitDefEqProofs (disch := first | exact dsch | fail) only [go_sem, ↓reduceIte, Nat.reduceEqDiff]
  refine loop_kinv [0, 1, 2] (by kernel_rfl) (s0 := (l, j)) (fun (s : List Fs × Nat) e H1 => e 7 = .t (.int .i64 s.2) ∧ H1 = H.set r ⟨vs s.1, 3, false⟩ ∧ s.1.length = l.length ∧ (∀ x ∈ s.1, OkF x) ∧ s.2 ≤ n ∧ dnS s.1 s.2 n = dnS l j n) (fun s => n - s.2) ?_ ?_
  · rintro ⟨m, i⟩ e H1 hk ⟨h7, rfl, hm, hok, hi, hdn⟩
    simp only at h7 hm hok hi hdn
    simp only [keepP, go_sem, ↓reduceIte, Nat.reduceEqDiff, and_true] at hk
    obtain ⟨k0, k1, k2⟩ := hk
    obtain ⟨c0, hc0⟩ : ∃ c, c = 2 * i := ⟨_, rfl⟩
    obtain ⟨c1, hc1⟩ : ∃ c, c = 2 * i + 1 := ⟨_, rfl⟩
    obtain ⟨c2, hc2⟩ : ∃ c, c = 2 * i + 2 := ⟨_, rfl⟩
    have hw1 : IntKind.i64.wrap (2 * (i : Int)) = (c0 : Int) := by rw [wrap_i64 (by omega) (by omega)]; omega
    have hw2 : IntKind.i64.wrap ((c0 : Int) + 1) = (c1 : Int) := by rw [wrap_i64 (by omega) (by omega)]; omega
    have hw3 : IntKind.i64.wrap ((c1 : Int) + 1) = (c2 : Int) := by rw [wrap_i64 (by omega) (by omega)]; omega
    have hn0 : ¬ ((c1 : Int) < 0) := by omega
    have hc := set_at hr'
    have hcc := hc ⟨vs m, 3, false⟩
    by_cases hb1 : c1 < n
    · have hb1' : ¬ ((c1 : Int) ≥ (n : Int)) := by omega
      have gLess : ∀ (a b : Nat), a < n → b < n → ∀ K, HeapGo Tryz.prog 114 [.ref r l.length, .t (.int .i64 a), .t (.int .i64 b)] (H.set r ⟨vs m, 3, false⟩) K = K (.t (.bool (lessB (gd m a) (gd m b)))) (H.set r ⟨vs m, 3, false⟩) (.ran (H.set r ⟨vs m, 3, false⟩) (H.set r ⟨vs m, 3, false⟩)) := by
        intro a b ha hb K
        obtain ⟨H', h1, rfl⟩ := rows_Less hcc hok (i := a) (j := b) (by omega) (by omega)
        rw [hm] at h1
        exact HeapGo_eq h1
      have gSwap : ∀ (a : Nat), a < n → ∀ K, HeapGo Tryz.prog 115 [.ref r l.length, .t (.int .i64 i), .t (.int .i64 a)] (H.set r ⟨vs m, 3, false⟩) K = K (.tup []) (H.set r ⟨vs (swapL m i a), 3, false⟩) (.ran (H.set r ⟨vs m, 3, false⟩) (H.set r ⟨vs (swapL m i a), 3, false⟩)) := by
        intro a ha K
        have h1 := rows_Swap hcc (i := i) (j := a) (by omega) (by omega)
        rw [hm, List.set_set] at h1
        exact HeapGo_eq h1
      have g1 := gLess c1 i hb1 (by omega)
      have s1 := gSwap c1 hb1
      have hstop : ∀ c, dnC m i n = c → lessB (gd m c) (gd m i) = false → m = dnS m i n := by
        intro c hcc' hls
        exact (dnS_no (by rw [hcc', hls]; simp)).symm
      have next : ∀ c, dnC m i n = c → lessB (gd m c) (gd m i) = true → c < n → i < c → n - c < n - i ∧ (swapL m i c).length = l.length ∧ (∀ x ∈ swapL m i c, OkF x) ∧ c ≤ n ∧ dnS (swapL m i c) c n = dnS l j n := by
        intro c hcc' hls hcn hic
        refine ⟨by omega, by rw [swapL_len, hm], swapL_ok hok (by omega) (by omega), by omega, ?_⟩
        have := dnS_yes (l := m) (i := i) (n := n) ⟨by omega, by rw [hcc']; exact hls⟩
        rw [hcc'] at this
        rw [← this, hdn]
      by_cases hb2 : c2 < n
      · have hb2' : (c2 : Int) < (n : Int) := by omega
        have g2 := gLess c2 c1 hb2 hb1
        have g3 := gLess c2 i hb2 (by omega)
        have s2 := gSwap c2 hb2
        cases hl2 : lessB (gd m c2) (gd m c1)
        · have hcd : dnC m i n = c1 := by unfold dnC; rw [← hc2, ← hc1, if_neg (by simp [hl2])]
          cases hl3 : lessB (gd m c1) (gd m i)
          · have hst := hstop _ hcd hl3
            rw [← hdn, ← hst]
            simp -implicitDefEqProofs (disch := first | exact dsch | (simp only [go_sem, h7, k0, k1, k2, hw1, hw2, hw3, hn0, hb1', hb2', hc, hq, at_ne, hne', g1, g2, hl2, hl3]; omega) | (refine of_eq_true ?_; simp (disch := first | omega | (refine of_eq_true ?_; simp only [go_sem, h7, k0, k1, k2, hw1, hw2, hw3, hn0, hb1', hb2', hc, hq, at_ne, hne', g1, g2, hl2, hl3]; done) | (simp only [go_sem, h7, k0, k1, k2, hw1, hw2, hw3, hn0, hb1', hb2', hc, hq, at_ne, hne', g1, g2, hl2, hl3]; omega)) only [go_sem, h7, k0, k1, k2, hw1, hw2, hw3, hn0, hb1', hb2', hc, hq, at_ne, hne', g1, g2, hl2, hl3]; done) | fail) only [go_sem, ↓reduceIte, Nat.reduceEqDiff, h7, k0, k1, k2, hw1, hw2, hw3, hn0, hb1', hb2', hc, hq, at_ne, hne', g1, g2, hl2, hl3]
            exact ⟨_, rfl, _, rfl⟩
          · obtain ⟨n1, n2, n3, n4, n5⟩ := next _ hcd hl3 hb1 (by omega)
            simp -implicitDefEqProofs (disch := first | exact dsch | (simp only [go_sem, h7, k0, k1, k2, hw1, hw2, hw3, hn0, hb1', hb2', hc, hq, at_ne, hne', g1, g2, s1, hl2, hl3]; omega) | (refine of_eq_true ?_; simp (disch := first | omega | (refine of_eq_true ?_; simp only [go_sem, h7, k0, k1, k2, hw1, hw2, hw3, hn0, hb1', hb2', hc, hq, at_ne, hne', g1, g2, s1, hl2, hl3]; done) | (simp only [go_sem, h7, k0, k1, k2, hw1, hw2, hw3, hn0, hb1', hb2', hc, hq, at_ne, hne', g1, g2, s1, hl2, hl3]; omega)) only [go_sem, h7, k0, k1, k2, hw1, hw2, hw3, hn0, hb1', hb2', hc, hq, at_ne, hne', g1, g2, s1, hl2, hl3]; done) | fail) only [go_sem, ↓reduceIte, Nat.reduceEqDiff, h7, k0, k1, k2, hw1, hw2, hw3, hn0, hb1', hb2', hc, hq, at_ne, hne', g1, g2, s1, hl2, hl3]
            exact ⟨(swapL m i c1, c1), n1, rfl, rfl, n2, n3, n4, n5⟩
        · have hcd : dnC m i n = c2 := by unfold dnC; rw [← hc2, ← hc1, if_pos ⟨hb2, hl2⟩]
          cases hl3 : lessB (gd m c2) (gd m i)
          · have hst := hstop _ hcd hl3
            rw [← hdn, ← hst]
            simp -implicitDefEqProofs (disch := first | exact dsch | (simp only [go_sem, h7, k0, k1, k2, hw1, hw2, hw3, hn0, hb1', hb2', hc, hq, at_ne, hne', g2, g3, hl2, hl3]; omega) | (refine of_eq_true ?_; simp (disch := first | omega | (refine of_eq_true ?_; simp only [go_sem, h7, k0, k1, k2, hw1, hw2, hw3, hn0, hb1', hb2', hc, hq, at_ne, hne', g2, g3, hl2, hl3]; done) | (simp only [go_sem, h7, k0, k1, k2, hw1, hw2, hw3, hn0, hb1', hb2', hc, hq, at_ne, hne', g2, g3, hl2, hl3]; omega)) only [go_sem, h7, k0, k1, k2, hw1, hw2, hw3, hn0, hb1', hb2', hc, hq, at_ne, hne', g2, g3, hl2, hl3]; done) | fail) only [go_sem, ↓reduceIte, Nat.reduceEqDiff, h7, k0, k1, k2, hw1, hw2, hw3, hn0, hb1', hb2', hc, hq, at_ne, hne', g2, g3, hl2, hl3]
            exact ⟨_, rfl, _, rfl⟩
          · obtain ⟨n1, n2, n3, n4, n5⟩ := next _ hcd hl3 hb2 (by omega)
            simp -implicitDefEqProofs (disch := first | exact dsch | (simp only [go_sem, h7, k0, k1, k2, hw1, hw2, hw3, hn0, hb1', hb2', hc, hq, at_ne, hne', g2, g3, s2, hl2, hl3]; omega) | (refine of_eq_true ?_; simp (disch := first | omega | (refine of_eq_true ?_; simp only [go_sem, h7, k0, k1, k2, hw1, hw2, hw3, hn0, hb1', hb2', hc, hq, at_ne, hne', g2, g3, s2, hl2, hl3]; done) | (simp only [go_sem, h7, k0, k1, k2, hw1, hw2, hw3, hn0, hb1', hb2', hc, hq, at_ne, hne', g2, g3, s2, hl2, hl3]; omega)) only [go_sem, h7, k0, k1, k2, hw1, hw2, hw3, hn0, hb1', hb2', hc, hq, at_ne, hne', g2, g3, s2, hl2, hl3]; done) | fail) only [go_sem, ↓reduceIte, Nat.reduceEqDiff, h7, k0, k1, k2, hw1, hw2, hw3, hn0, hb1', hb2', hc, hq, at_ne, hne', g2, g3, s2, hl2, hl3]
            exact ⟨(swapL m i c2, c2), n1, rfl, rfl, n2, n3, n4, n5⟩
      · have hb2' : ¬ ((c2 : Int) < (n : Int)) := by omega
        have hcd : dnC m i n = c1 := by unfold dnC; rw [← hc2, ← hc1, if_neg (by simp [hb2])]
        cases hl3 : lessB (gd m c1) (gd m i)
        · have hst := hstop _ hcd hl3
          rw [← hdn, ← hst]
          simp -implicitDefEqProofs (disch := first | exact dsch | (simp only [go_sem, h7, k0, k1, k2, hw1, hw2, hw3, hn0, hb1', hb2', hc, hq, at_ne, hne', g1, hl3]; omega) | (refine of_eq_true ?_; simp (disch := first | omega | (refine of_eq_true ?_; simp only [go_sem, h7, k0, k1, k2, hw1, hw2, hw3, hn0, hb1', hb2', hc, hq, at_ne, hne', g1, hl3]; done) | (simp only [go_sem, h7, k0, k1, k2, hw1, hw2, hw3, hn0, hb1', hb2', hc, hq, at_ne, hne', g1, hl3]; omega)) only [go_sem, h7, k0, k1, k2, hw1, hw2, hw3, hn0, hb1', hb2', hc, hq, at_ne, hne', g1, hl3]; done) | fail) only [go_sem, ↓reduceIte, Nat.reduceEqDiff, h7, k0, k1, k2, hw1, hw2, hw3, hn0, hb1', hb2', hc, hq, at_ne, hne', g1, hl3]
          exact ⟨_, rfl, _, rfl⟩
        · obtain ⟨n1, n2, n3, n4, n5⟩ := next _ hcd hl3 hb1 (by omega)
          simp -implicitDefEqProofs (disch := first | exact dsch | (simp only [go_sem, h7, k0, k1, k2, hw1, hw2, hw3, hn0, hb1', hb2', hc, hq, at_ne, hne', g1, s1, hl3]; omega) | (refine of_eq_true ?_; simp (disch := first | omega | (refine of_eq_true ?_; simp only [go_sem, h7, k0, k1, k2, hw1, hw2, hw3, hn0, hb1', hb2', hc, hq, at_ne, hne', g1, s1, hl3]; done) | (simp only [go_sem, h7, k0, k1, k2, hw1, hw2, hw3, hn0, hb1', hb2', hc, hq, at_ne, hne', g1, s1, hl3]; omega)) only [go_sem, h7, k0, k1, k2, hw1, hw2, hw3, hn0, hb1', hb2', hc, hq, at_ne, hne', g1, s1, hl3]; done) | fail) only [go_sem, ↓reduceIte, Nat.reduceEqDiff, h7, k0, k1, k2, hw1, hw2, hw3, hn0, hb1', hb2', hc, hq, at_ne, hne', g1, s1, hl3]
          exact ⟨(swapL m i c1, c1), n1, rfl, rfl, n2, n3, n4, n5⟩
    · have hb1' : (c1 : Int) ≥ (n : Int) := by omega
      have hst : m = dnS m i n := (dnS_no (by rintro ⟨h, _⟩; omega)).symm
      rw [← hdn, ← hst]
      simp -implicitDefEqProofs (disch := first | exact dsch | (simp only [go_sem, h7, k0, k1, k2, hw1, hw2, hw3, hn0, hb1', hc, hq, at_ne, hne']; omega) | (refine of_eq_true ?_; simp (disch := first | omega | (refine of_eq_true ?_; simp only [go_sem, h7, k0, k1, k2, hw1, hw2, hw3, hn0, hb1', hc, hq, at_ne, hne']; done) | (simp only [go_sem, h7, k0, k1, k2, hw1, hw2, hw3, hn0, hb1', hc, hq, at_ne, hne']; omega)) only [go_sem, h7, k0, k1, k2, hw1, hw2, hw3, hn0, hb1', hc, hq, at_ne, hne']; done) | fail) only [go_sem, ↓reduceIte, Nat.reduceEqDiff, h7, k0, k1, k2, hw1, hw2, hw3, hn0, hb1', hc, hq, at_ne, hne']
      exact ⟨_, rfl, _, rfl⟩
  · exact ⟨rfl, hsame.symm, rfl, ho, hj, rfl⟩
end Go.Sim
