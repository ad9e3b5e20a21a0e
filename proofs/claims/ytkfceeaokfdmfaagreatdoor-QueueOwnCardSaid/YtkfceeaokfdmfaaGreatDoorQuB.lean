/- A part of the proof of a law of module cupola: Q3, Q4. It has no conditions of its own. -/
import Derived.Test.YtkfceeaokfdmfaaGreatDoorQuA
set_option linter.all false
set_option maxRecDepth 100000
namespace Go.Sim
open Enc (enc)
open Go.Proofs
theorem F_heap {P : Program} {f : FuncId} {vs : List V} {H : Heap} (hn : toTs H vs = none) {K : Kv} : @F _ P f vs H K = HeapGo P f vs H K.k := by
  rw [toTs_eq] at hn
  show CaW P f vs H K.k = HeapGo P f vs H K.k
  unfold CaW HeapGo callRun
  simp only [hn]
def kvs (ks : List ByteArray) : List V := ks.map fun k => V.t (.str k)
@[go_sem] theorem keysOf_kvs {ks : List ByteArray} {st : Bool} : keysOf ⟨kvs ks, 0, st⟩ = some ks := by
  have key : ∀ ks : List ByteArray, (kvs ks).mapM strK = some ks := by
    intro ks
    induction ks with
    | nil => rfl
    | cons k ks ih => rw [kvs, List.map_cons, List.mapM_cons]; show (some k).bind _ = _; rw [← kvs, ih]; rfl
  unfold keysOf; rw [if_pos rfl]; exact key ks
@[go_sem] theorem kvs_snoc {ks : List ByteArray} {k : ByteArray} : kvs ks ++ [.t (.str k)] = kvs (ks ++ [k]) := by simp [kvs]
def rowsV : Option Nat → List Fs → V
  | none, _ => .ex []
  | some r, l => .ref r l.length
def seenV : Option Nat → V
  | none => .t .nilm
  | some m => .mp m
structure QAt (H : Heap) (q : Nat) (rv : Option Nat) (l : List Fs) (mv : Option Nat) (ks : List ByteArray) : Prop where
  qo : H[q]? = some ⟨[.agg [rowsV rv l, seenV mv]], 2, false⟩
  rows : ∀ r, rv = some r → H[r]? = some ⟨vs l, 3, false⟩ ∧ q ≠ r
  rows0 : rv = none → l = []
  seen : ∀ m, mv = some m → H[m]? = some ⟨kvs ks, 0, false⟩ ∧ q ≠ m ∧ ∀ r, rv = some r → m ≠ r
  seen0 : mv = none → ks = []
structure Fram (H H' : Heap) (q : Nat) (rv mv rv' mv' : Option Nat) : Prop where
  len : H.length ≤ H'.length
  keep : ∀ id, id < H.length → id ≠ q → rv ≠ some id → mv ≠ some id → H'[id]? = H[id]?
  rown : rv' = rv ∨ ∃ r, H.length ≤ r ∧ rv' = some r
  mown : mv' = mv ∨ ∃ m, H.length ≤ m ∧ mv' = some m
theorem Fram.trans {H H1 H2 : Heap} {q : Nat} {rv mv rv1 mv1 rv2 mv2 : Option Nat} (h : Fram H H1 q rv mv rv1 mv1) (k : Fram H1 H2 q rv1 mv1 rv2 mv2) : Fram H H2 q rv mv rv2 mv2 where
  len := Nat.le_trans h.len k.len
  keep := fun id hi h1 h2 h3 => by
    have e1 : rv1 ≠ some id := by
      rcases h.rown with e | ⟨r, hr, e⟩ <;> rw [e]
      · exact h2
      · intro e'; cases e'; omega
    have e2 : mv1 ≠ some id := by
      rcases h.mown with e | ⟨r, hr, e⟩ <;> rw [e]
      · exact h3
      · intro e'; cases e'; omega
    rw [k.keep id (Nat.lt_of_lt_of_le hi h.len) h1 e1 e2, h.keep id hi h1 h2 h3]
  rown := by
    rcases k.rown with e | ⟨r, hr, e⟩
    · rw [e]; exact h.rown
    · exact .inr ⟨r, Nat.le_trans h.len hr, e⟩
  mown := by
    rcases k.mown with e | ⟨r, hr, e⟩
    · rw [e]; exact h.mown
    · exact .inr ⟨r, Nat.le_trans h.len hr, e⟩
theorem Fram.refl (H : Heap) (q : Nat) (rv mv : Option Nat) : Fram H H q rv mv rv mv := ⟨Nat.le_refl _, fun _ _ _ _ _ => rfl, .inl rfl, .inl rfl⟩
theorem QAt.more {H : Heap} {q : Nat} {rv mv : Option Nat} {l : List Fs} {ks : List ByteArray} (h : QAt H q rv l mv ks) (X : Heap) : QAt (H ++ X) q rv l mv ks where
  qo := by rw [at_app (at_lt h.qo)]; exact h.qo
  rows := fun r hr => ⟨by rw [at_app (at_lt (h.rows r hr).1)]; exact (h.rows r hr).1, (h.rows r hr).2⟩
  rows0 := h.rows0
  seen := fun m hm => ⟨by rw [at_app (at_lt (h.seen m hm).1)]; exact (h.seen m hm).1, (h.seen m hm).2⟩
  seen0 := h.seen0
theorem Fram.more (H : Heap) (q : Nat) (rv mv : Option Nat) (X : Heap) : Fram H (H ++ X) q rv mv rv mv := ⟨by simp, fun id hi _ _ _ => at_app hi X, .inl rfl, .inl rfl⟩
theorem QAt.turn {H : Heap} {q r : Nat} {mv : Option Nat} {l l' : List Fs} {ks : List ByteArray} (h : QAt H q (some r) l mv ks) (hl : l'.length = l.length) : QAt (H.set r ⟨vs l', 3, false⟩) q (some r) l' mv ks ∧ Fram H (H.set r ⟨vs l', 3, false⟩) q (some r) mv (some r) mv := by
  obtain ⟨hr, hne⟩ := h.rows r rfl
  refine ⟨⟨?_, ?_, fun e => (by cases e), ?_, h.seen0⟩, ⟨by simp, ?_, .inl rfl, .inl rfl⟩⟩
  · rw [at_ne (Ne.symm hne)]
    have := h.qo
    simp only [rowsV] at this ⊢
    rw [hl]; exact this
  · rintro r' e; cases e
    exact ⟨set_at (at_lt hr) _, hne⟩
  · intro m hm
    obtain ⟨h1, h2, h3⟩ := h.seen m hm
    exact ⟨by rw [at_ne (fun e => h3 r rfl e.symm)]; exact h1, h2, h3⟩
  · intro id _ _ h2 _
    rw [at_ne (fun e => h2 (by rw [e]))]
theorem Push_rows {H : Heap} {q : Nat} {rv mv : Option Nat} {l : List Fs} {ks : List ByteArray} {s : Fs} (h : QAt H q rv l mv ks) (hL : l.length ≤ 1000000) :
    ∃ H' r, FunH Tryz.prog 126 [.ptr q 1 0 0, .t (.iface 41 (enc s))] H (.tup []) H' ∧ QAt H' q (some r) (l ++ [s]) mv ks ∧ Fram H H' q rv mv (some r) mv := by
  have hq' := at_lt h.qo
  cases rv with
  | none =>
    have hl := h.rows0 rfl
    subst hl
    refine ⟨_, H.length + 1, rows_Push0 h.qo, ⟨?_, ?_, fun e => (by cases e), ?_, h.seen0⟩, ⟨by simp, ?_, .inr ⟨_, by omega, rfl⟩, .inl rfl⟩⟩
    · rw [at_app (by simpa using hq'), set_at hq']; rfl
    · rintro r e; cases e
      exact ⟨by rw [List.getElem?_append_right (by simp)]; simp, by omega⟩
    · intro m hm
      obtain ⟨h1, h2, _⟩ := h.seen m hm
      have := at_lt h1
      exact ⟨by rw [at_app (by simpa using this), at_ne h2]; exact h1, h2, fun r e => by cases e; omega⟩
    · intro id hi h1 _ _
      rw [at_app (by simpa using hi), at_ne (Ne.symm h1)]
  | some r =>
    obtain ⟨hr, hne⟩ := h.rows r rfl
    have hr' := at_lt hr
    refine ⟨_, r, rows_Push h.qo hr hL hne, ⟨?_, ?_, fun e => (by cases e), ?_, h.seen0⟩, ⟨by simp, ?_, .inl rfl, .inl rfl⟩⟩
    · rw [at_app (by simpa using hq'), set_at (by simpa using hq')]
      simp [rowsV]
    · rintro r' e; cases e
      exact ⟨by rw [at_app (by simpa using hr'), at_ne hne, set_at hr'], hne⟩
    · intro m hm
      obtain ⟨h1, h2, h3⟩ := h.seen m hm
      have := at_lt h1
      exact ⟨by rw [at_app (by simpa using this), at_ne h2, at_ne (fun e => h3 r rfl e.symm)]; exact h1, h2, h3⟩
    · intro id hi h1 h2 _
      rw [at_app (by simpa using hi), at_ne (Ne.symm h1), at_ne (fun e => h2 (by rw [e]))]
theorem Pop_rows {H : Heap} {q r : Nat} {mv : Option Nat} {l : List Fs} {ks : List ByteArray} (h : QAt H q (some r) l mv ks) (hl : 0 < l.length) (hL : l.length ≤ 1000000) :
    ∃ H' r', FunH Tryz.prog 125 [.ptr q 1 0 0] H (.t (.iface 41 (enc (gd l (l.length - 1))))) H' ∧ QAt H' q (some r') (l.take (l.length - 1)) mv ks ∧ Fram H H' q (some r) mv (some r') mv := by
  have hq' := at_lt h.qo
  obtain ⟨hr, hne⟩ := h.rows r rfl
  have hr' := at_lt hr
  refine ⟨_, H.length + 1, rows_Pop h.qo hr hl hL hne, ⟨?_, ?_, fun e => (by cases e), ?_, h.seen0⟩, ⟨by simp, ?_, .inr ⟨_, by omega, rfl⟩, .inl rfl⟩⟩
  · rw [at_app (by simpa using hq'), set_at (by simpa using hq')]
    simp [rowsV, List.length_take]
  · rintro r' e; cases e
    exact ⟨by rw [List.getElem?_append_right (by simp)]; simp, by omega⟩
  · intro m hm
    obtain ⟨h1, h2, h3⟩ := h.seen m hm
    have := at_lt h1
    exact ⟨by rw [at_app (by simpa using this), at_ne h2, at_ne (fun e => h3 r rfl e.symm)]; exact h1, h2, fun r e => by cases e; omega⟩
  · intro id hi h1 h2 _
    rw [at_app (by simpa using hi), at_ne (Ne.symm h1), at_ne (fun e => h2 (by rw [e]))]
def pushS (l : List Fs) (s : Fs) : List Fs := upS (l ++ [s]) l.length
theorem upS_len : ∀ (k : Nat) (l : List Fs) (j : Nat), (upL k l j).length = l.length
  | 0, l, j => rfl
  | k + 1, l, j => by
    rw [upL]; split
    · rfl
    · split
      · rw [upS_len k, swapL_len]
      · rfl
theorem dnL_len : ∀ (k : Nat) (l : List Fs) (i n : Nat), (dnL k l i n).length = l.length
  | 0, l, i, n => rfl
  | k + 1, l, i, n => by
    rw [dnL]; split
    · rw [dnL_len k, swapL_len]
    · rfl
theorem heap_Push {H : Heap} {q : Nat} {rv mv : Option Nat} {l : List Fs} {ks : List ByteArray} {s : Fs} (h : QAt H q rv l mv ks) (hL : l.length ≤ 100000) (ho : ∀ x ∈ l, OkF x) (hs : OkF s) :
    ∃ H' r, FunH Tryz.prog 22 [.ifc 60 (.ptr q 1 0 0), .t (.iface 41 (enc s))] H (.tup []) H' ∧ QAt H' q (some r) (pushS l s) mv ks ∧ Fram H H' q rv mv (some r) mv := by
  obtain ⟨H1, r, g1, q1, f1⟩ := Push_rows (s := s) h (by omega)
  have hlen : (l ++ [s]).length = l.length + 1 := by simp
  have hok : ∀ x ∈ l ++ [s], OkF x := by
    intro x hx
    rcases List.mem_append.1 hx with hx | hx
    · exact ho x hx
    · rw [List.mem_singleton.1 hx]; exact hs
  have hqo := q1.qo
  obtain ⟨hr, hne⟩ := q1.rows r rfl
  have e1 : ∀ K, HeapGo Tryz.prog 126 [.ptr q 1 0 0, .t (.iface 41 (enc s))] H K = K (.tup []) H1 (.ran H H1) := fun K => HeapGo_eq g1
  have e2 : ∀ K, HeapGo Tryz.prog 113 [.ref r (l.length + 1)] H1 K = K (.t (.int .i64 ((l.length + 1 : Nat) : Int))) H1 (.ran H1 H1) := fun K => HeapGo_eq (by
    have := rows_Len (cur_some hr (vs_len _)); rw [hlen] at this; exact this)
  have hup := heap_up (j := l.length) hqo hr (by omega) hne hok (by omega)
  have e3 : ∀ {K : Kv}, @F _ Tryz.prog 35 [.ifc 60 (.ptr q 1 0 0), .t (.int .i64 l.length)] H1 K = K.k (.tup []) (H1.set r ⟨vs (pushS l s), 3, false⟩) (.ran H1 (H1.set r ⟨vs (pushS l s), 3, false⟩)) := fun {K} => (F_heap (by rfl)).trans (HeapGo_eq hup)
  have hw : IntKind.i64.wrap ((l.length : Int) + 1 - 1) = (l.length : Int) := by rw [wrap_i64 (by omega) (by omega)]; omega
  obtain ⟨q2, f2⟩ := q1.turn (l' := pushS l s) (by unfold pushS upS; rw [upS_len])
  refine ⟨_, r, ?_, q2, f1.trans f2⟩
  simp only [rowsV, hlen] at hqo
  refine FunH.go Tryz.func22 rfl rfl (by kernel_rfl) ?_
  simp -implicitDefEqProofs (disch := first | exact dsch | (simp only [go_sem, e1, e2, e3, hqo, hw]; omega) | (refine of_eq_true ?_; simp (disch := first | omega | (refine of_eq_true ?_; simp only [go_sem, e1, e2, e3, hqo, hw]; done) | (simp only [go_sem, e1, e2, e3, hqo, hw]; omega)) only [go_sem, e1, e2, e3, hqo, hw]; done) | fail) only [go_sem, ↓reduceIte, Nat.reduceEqDiff, e1, e2, e3, hqo, hw]
  rfl
theorem dnS_len (l : List Fs) (i n : Nat) : (dnS l i n).length = l.length := dnL_len _ _ _ _
theorem swapL_out {l : List Fs} {i j k : Nat} (h1 : k ≠ i) (h2 : k ≠ j) : gd (swapL l i j) k = gd l k := by
  unfold swapL gd
  rw [List.getD_eq_getElem?_getD, List.getElem?_set_ne (Ne.symm h2), List.getElem?_set_ne (Ne.symm h1), ← List.getD_eq_getElem?_getD]
theorem dnL_out : ∀ (k : Nat) (l : List Fs) (i n m : Nat), n ≤ m → i < m → gd (dnL k l i n) m = gd l m
  | 0, l, i, n, m, _, _ => rfl
  | k + 1, l, i, n, m, h, hi => by
    rw [dnL]; split
    · rename_i hh
      have h1 := dnC_lt (l := l) hh.1
      have h2 := dnC_gt l i n
      rw [dnL_out k _ _ _ _ h (by omega), swapL_out (by omega) (by omega)]
    · rfl
theorem dnS_out (l : List Fs) {i n m : Nat} (h : n ≤ m) (hi : i < m) : gd (dnS l i n) m = gd l m := dnL_out _ _ _ _ _ h hi
theorem dnL_ok : ∀ (k : Nat) (l : List Fs) (i n : Nat), (∀ x ∈ l, OkF x) → n ≤ l.length → i < n → ∀ x ∈ dnL k l i n, OkF x
  | 0, l, i, n, h, _, _ => h
  | k + 1, l, i, n, h, hn, hi => by
    rw [dnL]; split
    · rename_i hh
      have h1 := dnC_lt (l := l) hh.1
      exact dnL_ok k _ _ _ (swapL_ok h (by omega) (by omega)) (by rw [swapL_len]; exact hn) h1
    · exact h
def popS (l : List Fs) : List Fs := (dnS (swapL l 0 (l.length - 1)) 0 (l.length - 1)).take (l.length - 1)
theorem heap_Pop {H : Heap} {q r : Nat} {mv : Option Nat} {l : List Fs} {ks : List ByteArray} (h : QAt H q (some r) l mv ks) (hl : 0 < l.length) (hL : l.length ≤ 100000) (ho : ∀ x ∈ l, OkF x) :
    ∃ H' r', FunH Tryz.prog 24 [.ifc 60 (.ptr q 1 0 0)] H (.t (.iface 41 (enc (gd l 0)))) H' ∧ QAt H' q (some r') (popS l) mv ks ∧ Fram H H' q (some r) mv (some r') mv := by
  have hqo := h.qo
  obtain ⟨hr, hne⟩ := h.rows r rfl
  have e2 : ∀ K, HeapGo Tryz.prog 113 [.ref r l.length] H K = K (.t (.int .i64 l.length)) H (.ran H H) := fun K => HeapGo_eq (rows_Len (cur_some hr (vs_len _)))
  have hw : IntKind.i64.wrap ((l.length : Int) - 1) = ((l.length - 1 : Nat) : Int) := by rw [wrap_i64 (by omega) (by omega)]; omega
  obtain ⟨n, hn⟩ : ∃ n, n = l.length - 1 := ⟨_, rfl⟩
  rw [← hn] at hw
  have hsw := rows_Swap hr (i := 0) (j := n) hl (by omega)
  have e3 : ∀ K, HeapGo Tryz.prog 115 [.ref r l.length, .t (.int .i64 0), .t (.int .i64 n)] H K = K (.tup []) (H.set r ⟨vs (swapL l 0 n), 3, false⟩) (.ran H (H.set r ⟨vs (swapL l 0 n), 3, false⟩)) := fun K => HeapGo_eq hsw
  obtain ⟨q1, f1⟩ := h.turn (l' := swapL l 0 n) (swapL_len _ _ _)
  have hok1 := swapL_ok ho (i := 0) (j := n) hl (by omega)
  have hlen1 := swapL_len l 0 n
  obtain ⟨hr1, _⟩ := q1.rows r rfl
  have hqo1 := q1.qo
  obtain ⟨u, H2, hdn, ⟨b, rfl⟩, rfl⟩ := heap_down (j := 0) (n := n) hqo1 hr1 (by omega) hne hok1 (by omega) (by omega)
  have e4 : ∀ {K : Kv}, @F _ Tryz.prog 37 [.ifc 60 (.ptr q 1 0 0), .t (.int .i64 0), .t (.int .i64 n)] (H.set r ⟨vs (swapL l 0 n), 3, false⟩) K = K.k (.t (.bool b)) ((H.set r ⟨vs (swapL l 0 n), 3, false⟩).set r ⟨vs (dnS (swapL l 0 n) 0 n), 3, false⟩) (.ran (H.set r ⟨vs (swapL l 0 n), 3, false⟩) ((H.set r ⟨vs (swapL l 0 n), 3, false⟩).set r ⟨vs (dnS (swapL l 0 n) 0 n), 3, false⟩)) := fun {K} => (F_heap (by rfl)).trans (HeapGo_eq hdn)
  obtain ⟨q2, f2⟩ := q1.turn (l' := dnS (swapL l 0 n) 0 n) (dnS_len _ _ _)
  have hlen2 : (dnS (swapL l 0 n) 0 n).length = l.length := by rw [dnS_len, swapL_len]
  obtain ⟨H3, r3, g3, q3, f3⟩ := Pop_rows q2 (by omega) (by omega)
  have hlast : gd (dnS (swapL l 0 n) 0 n) ((dnS (swapL l 0 n) 0 n).length - 1) = gd l 0 := by
    rw [hlen2, ← hn]
    by_cases h0 : n = 0
    · subst h0
      rw [dnS_no (by rintro ⟨h, _⟩; omega)]
      simp [swapL, gd, hl]
    · rw [dnS_out _ (Nat.le_refl _) (by omega)]
      unfold swapL gd
      rw [List.getD_eq_getElem?_getD, List.getElem?_set_self (by rw [List.length_set]; omega)]; rfl
  rw [hlast] at g3
  have e5 : ∀ K, HeapGo Tryz.prog 125 [.ptr q 1 0 0] ((H.set r ⟨vs (swapL l 0 n), 3, false⟩).set r ⟨vs (dnS (swapL l 0 n) 0 n), 3, false⟩) K = K (.t (.iface 41 (enc (gd l 0)))) H3 (.ran ((H.set r ⟨vs (swapL l 0 n), 3, false⟩).set r ⟨vs (dnS (swapL l 0 n) 0 n), 3, false⟩) H3) := fun K => HeapGo_eq g3
  refine ⟨H3, r3, ?_, by rw [hlen2, ← hn] at q3; unfold popS; rw [← hn]; exact q3, (f1.trans f2).trans f3⟩
  simp only [rowsV] at hqo
  refine FunH.go Tryz.func24 rfl rfl (by kernel_rfl) ?_
  simp -implicitDefEqProofs (disch := first | exact dsch | (simp only [go_sem, e2, e3, e4, e5, hqo, hw]; omega) | (refine of_eq_true ?_; simp (disch := first | omega | (refine of_eq_true ?_; simp only [go_sem, e2, e3, e4, e5, hqo, hw]; done) | (simp only [go_sem, e2, e3, e4, e5, hqo, hw]; omega)) only [go_sem, e2, e3, e4, e5, hqo, hw]; done) | fail) only [go_sem, ↓reduceIte, Nat.reduceEqDiff, e2, e3, e4, e5, hqo, hw]
  trace_state
end Go.Sim

set_option maxRecDepth 100000
namespace Go.Sim
open Enc (enc)
open Go.Proofs
theorem at_end2 {H X : Heap} {A B C : Obj} : (H ++ A :: B :: C :: X)[H.length + 2]? = some C := by
  rw [List.getElem?_append_right (by omega)]; simp
theorem at_endS1 {H X : Heap} {A B o : Obj} {r : Nat} : (H.set r o ++ A :: B :: X)[H.length + 1]? = some B := by
  rw [List.getElem?_append_right (by simp)]; simp
theorem at_endS2 {H X : Heap} {A B C o : Obj} {r : Nat} : (H.set r o ++ A :: B :: C :: X)[H.length + 2]? = some C := by
  rw [List.getElem?_append_right (by simp)]; simp
theorem at_endS3 {H X : Heap} {A B C D o : Obj} {r : Nat} : (H.set r o ++ A :: B :: C :: D :: X)[H.length + 3]? = some D := by
  rw [List.getElem?_append_right (by simp)]; simp
theorem set_endS2 {H X : Heap} {A B C D o : Obj} {r : Nat} : (H.set r o ++ A :: B :: C :: X).set (H.length + 2) D = H.set r o ++ A :: B :: D :: X := by
  rw [List.set_append_right _ _ (by simp)]; simp
theorem set_endS3 {H X : Heap} {A B C D D' o : Obj} {r : Nat} : (H.set r o ++ A :: B :: C :: D :: X).set (H.length + 3) D' = H.set r o ++ A :: B :: C :: D' :: X := by
  rw [List.set_append_right _ _ (by simp)]; simp
theorem que_Len {H : Heap} {q : Nat} {rv mv : Option Nat} {l : List Fs} {ks : List ByteArray} (h : QAt H q rv l mv ks) : FunH Tryz.prog 16 [.ptr q 1 0 0] H (.t (.int .i64 l.length)) H := by
  have hqo := h.qo
  cases rv with
  | none =>
    have hl := h.rows0 rfl
    subst hl
    simp only [rowsV] at hqo
    refine FunH.go Tryz.func16 rfl rfl (by kernel_rfl) ?_
    simp -implicitDefEqProofs (disch := first | exact dsch | (simp only [go_sem, hqo]; omega) | (refine of_eq_true ?_; simp (disch := first | omega | (refine of_eq_true ?_; simp only [go_sem, hqo]; done) | (simp only [go_sem, hqo]; omega)) only [go_sem, hqo]; done) | fail) only [go_sem, ↓reduceIte, Nat.reduceEqDiff, hqo]
    try rfl
  | some r =>
    obtain ⟨hr, hne⟩ := h.rows r rfl
    simp only [rowsV] at hqo
    refine FunH.go Tryz.func16 rfl rfl (by kernel_rfl) ?_
    simp -implicitDefEqProofs (disch := first | exact dsch | (simp only [go_sem, hqo, hr]; omega) | (refine of_eq_true ?_; simp (disch := first | omega | (refine of_eq_true ?_; simp only [go_sem, hqo, hr]; done) | (simp only [go_sem, hqo, hr]; omega)) only [go_sem, hqo, hr]; done) | fail) only [go_sem, ↓reduceIte, Nat.reduceEqDiff, hqo, hr]
theorem que_Seen {H : Heap} {q : Nat} {rv mv : Option Nat} {l : List Fs} {ks : List ByteArray} (h : QAt H q rv l mv ks) : FunH Tryz.prog 17 [.ptr q 1 0 0] H (.t (.int .i64 ks.length)) H := by
  have hqo := h.qo
  cases mv with
  | none =>
    have hl := h.seen0 rfl
    subst hl
    simp only [seenV] at hqo
    refine FunH.go Tryz.func17 rfl rfl (by kernel_rfl) ?_
    simp -implicitDefEqProofs (disch := first | exact dsch | (simp only [go_sem, hqo]; omega) | (refine of_eq_true ?_; simp (disch := first | omega | (refine of_eq_true ?_; simp only [go_sem, hqo]; done) | (simp only [go_sem, hqo]; omega)) only [go_sem, hqo]; done) | fail) only [go_sem, ↓reduceIte, Nat.reduceEqDiff, hqo]
    try rfl
  | some m =>
    obtain ⟨hm, hne, _⟩ := h.seen m rfl
    simp only [seenV] at hqo
    refine FunH.go Tryz.func17 rfl rfl (by kernel_rfl) ?_
    simp -implicitDefEqProofs (disch := first | exact dsch | (simp only [go_sem, hqo, hm]; omega) | (refine of_eq_true ?_; simp (disch := first | omega | (refine of_eq_true ?_; simp only [go_sem, hqo, hm]; done) | (simp only [go_sem, hqo, hm]; omega)) only [go_sem, hqo, hm]; done) | fail) only [go_sem, ↓reduceIte, Nat.reduceEqDiff, hqo, hm]
structure ValF (H : Heap) (q : Nat) (mv : Option Nat) (sv : V) (s : Fs) : Prop where
  st : sv.storable = true
  cl : sv.cells.length = 3
  rd : rdV sv 3 0 true 3 = some sv
  to : ∀ H' : Heap, (∀ id, id < H.length → id ≠ q → mv ≠ some id → H'[id]? = H[id]?) → toT H' depth sv = some (enc s)
theorem ValF.tree (H : Heap) (q : Nat) (mv : Option Nat) (s : Fs) : ValF H q mv (.t (enc s)) s := ⟨rfl, rfl, rd_Fs s, fun H' _ => toT_t _ _ _⟩
theorem ValF.more {H : Heap} {q : Nat} {mv : Option Nat} {sv : V} {s : Fs} (h : ValF H q mv sv s) (X : Heap) : ValF (H ++ X) q mv sv s := ⟨h.st, h.cl, h.rd, fun H' hk => h.to H' fun id h1 h2 h3 => by rw [hk id (by simp; omega) h2 h3, at_app h1]⟩
theorem ValF.agg (H : Heap) (q : Nat) (mv : Option Nat) {d : U32} : ValF H q mv (.agg [.t (.int .u32 d.toNat), .ex [], .ex []]) ⟨d, [], []⟩ := ⟨rfl, rfl, rfl, fun H' _ => rfl⟩
def boxF (s : Fs) : Obj := ⟨[.t (enc s)], 3, false⟩
theorem que_Has {H : Heap} {q : Nat} {rv mv : Option Nat} {l : List Fs} {ks : List ByteArray} {s : Fs} {sv : V} (h : QAt H q rv l mv ks) (hs : OkF s) (hv : ValF H q mv sv s) : FunH Tryz.prog 8 [.ptr q 1 0 0, sv] H (.t (.bool (ks.contains (codeB s)))) (H ++ [⟨[sv], 3, false⟩]) := by
  have hqo := h.qo
  have hq' := at_lt hqo
  have hst := hv.st
  have hcl := hv.cl
  have hrd := hv.rd
  have hto : ∀ X, toT (H ++ X) depth sv = some (enc s) := fun X => hv.to _ fun id h1 _ _ => at_app h1 X
  cases mv with
  | none =>
    have hl := h.seen0 rfl
    subst hl
    simp only [seenV] at hqo
    refine FunH.go Tryz.func8 rfl rfl (by kernel_rfl) ?_
    simp -implicitDefEqProofs (disch := first | exact dsch | (simp only [go_sem, hqo, hs, hst, hcl, hrd, hto, at_app, hq', at_end]; omega) | (refine of_eq_true ?_; simp (disch := first | omega | (refine of_eq_true ?_; simp only [go_sem, hqo, hs, hst, hcl, hrd, hto, at_app, hq', at_end]; done) | (simp only [go_sem, hqo, hs, hst, hcl, hrd, hto, at_app, hq', at_end]; omega)) only [go_sem, hqo, hs, hst, hcl, hrd, hto, at_app, hq', at_end]; done) | fail) only [go_sem, ↓reduceIte, Nat.reduceEqDiff, hqo, hs, hst, hcl, hrd, hto, at_app, hq', at_end]
    try rfl
  | some m =>
    obtain ⟨hm, hne, _⟩ := h.seen m rfl
    have hm' := at_lt hm
    simp only [seenV] at hqo
    refine FunH.go Tryz.func8 rfl rfl (by kernel_rfl) ?_
    simp -implicitDefEqProofs (disch := first | exact dsch | (simp only [go_sem, hqo, hm, hs, hst, hcl, hrd, hto, at_app, hq', hm', at_end]; omega) | (refine of_eq_true ?_; simp (disch := first | omega | (refine of_eq_true ?_; simp only [go_sem, hqo, hm, hs, hst, hcl, hrd, hto, at_app, hq', hm', at_end]; done) | (simp only [go_sem, hqo, hm, hs, hst, hcl, hrd, hto, at_app, hq', hm', at_end]; omega)) only [go_sem, hqo, hm, hs, hst, hcl, hrd, hto, at_app, hq', hm', at_end]; done) | fail) only [go_sem, ↓reduceIte, Nat.reduceEqDiff, hqo, hm, hs, hst, hcl, hrd, hto, at_app, hq', hm', at_end]
    try rfl
structure OkQ (s : Fs) : Prop where
  ok : OkF s
  sz : (codeB s).size ≤ 900000
theorem que_PushNo {H : Heap} {q : Nat} {rv mv : Option Nat} {l : List Fs} {ks : List ByteArray} {s : Fs} {sv : V} (h : QAt H q rv l mv ks) (hs : OkQ s) (hv : ValF H q mv sv s) (hc : ks.contains (codeB s) = true) :
    FunH Tryz.prog 11 [.ptr q 1 0 0, sv] H (.t (.bool false)) (H ++ [⟨[sv], 3, false⟩, ⟨[sv], 3, false⟩]) := by
  have g := que_Has (h.more [⟨[sv], 3, false⟩]) hs.ok (hv.more _)
  rw [hc] at g
  have e1 : ∀ {K : Kv}, @F _ Tryz.prog 8 [.ptr q 1 0 0, sv] (H ++ [⟨[sv], 3, false⟩]) K = K.k (.t (.bool true)) (H ++ [⟨[sv], 3, false⟩] ++ [⟨[sv], 3, false⟩]) (.ran (H ++ [⟨[sv], 3, false⟩]) (H ++ [⟨[sv], 3, false⟩] ++ [⟨[sv], 3, false⟩])) := fun {K} => (F_heap (by rfl)).trans (HeapGo_eq g)
  have hst := hv.st
  have hcl := hv.cl
  have hrd := hv.rd
  refine FunH.go Tryz.func11 rfl rfl (by kernel_rfl) ?_
  simp -implicitDefEqProofs (disch := first | exact dsch | (simp only [go_sem, e1, hst, hcl, hrd, at_end, List.append_assoc, List.cons_append, List.nil_append]; omega) | (refine of_eq_true ?_; simp (disch := first | omega | (refine of_eq_true ?_; simp only [go_sem, e1, hst, hcl, hrd, at_end, List.append_assoc, List.cons_append, List.nil_append]; done) | (simp only [go_sem, e1, hst, hcl, hrd, at_end, List.append_assoc, List.cons_append, List.nil_append]; omega)) only [go_sem, e1, hst, hcl, hrd, at_end, List.append_assoc, List.cons_append, List.nil_append]; done) | fail) only [go_sem, ↓reduceIte, Nat.reduceEqDiff, e1, hst, hcl, hrd, at_end, List.append_assoc, List.cons_append, List.nil_append]
  try rfl
theorem que_Push1 {H : Heap} {q m : Nat} {rv : Option Nat} {l : List Fs} {ks : List ByteArray} {s : Fs} {sv : V} (h : QAt H q rv l (some m) ks) (hL : l.length ≤ 100000) (ho : ∀ x ∈ l, OkF x) (hs : OkQ s) (hv : ValF H q (some m) sv s) (hc : ks.contains (codeB s) = false) :
    ∃ H' r, FunH Tryz.prog 11 [.ptr q 1 0 0, sv] H (.t (.bool true)) H' ∧ QAt H' q (some r) (pushS l s) (some m) (ks ++ [codeB s]) ∧ Fram H H' q rv (some m) (some r) (some m) := by
  have hok := hs.ok
  have hsz := hs.sz
  obtain ⟨hm, hne, hmr⟩ := h.seen m rfl
  have hne' := Ne.symm hne
  have hm' := at_lt hm
  have hqo := h.qo
  have hq' := at_lt hqo
  have h1 : (piecesB 59 (codeB s)).length = 3 → OkF (parseB (codeB s)) := fun _ => by rw [parse_code hok]; exact hok
  have h5 := readB_code hok
  have h6 := okR_code hok
  have g := que_Has (h.more [⟨[sv], 3, false⟩]) hok (hv.more _)
  rw [hc] at g
  have e1 : ∀ {K : Kv}, @F _ Tryz.prog 8 [.ptr q 1 0 0, sv] (H ++ [⟨[sv], 3, false⟩]) K = K.k (.t (.bool false)) (H ++ [⟨[sv], 3, false⟩] ++ [⟨[sv], 3, false⟩]) (.ran (H ++ [⟨[sv], 3, false⟩]) (H ++ [⟨[sv], 3, false⟩] ++ [⟨[sv], 3, false⟩])) := fun {K} => (F_heap (by rfl)).trans (HeapGo_eq g)
  have q1 : QAt (H.set m ⟨kvs (ks ++ [codeB s]), 0, false⟩) q rv l (some m) (ks ++ [codeB s]) := by
    refine ⟨by rw [at_ne hne']; exact hqo, fun r hr => ⟨by rw [at_ne (hmr r hr)]; exact (h.rows r hr).1, (h.rows r hr).2⟩, h.rows0, ?_, fun e => (by cases e)⟩
    rintro m' e; cases e
    exact ⟨set_at hm' _, hne, hmr⟩
  have f1 : Fram H (H.set m ⟨kvs (ks ++ [codeB s]), 0, false⟩) q rv (some m) rv (some m) := ⟨by simp, fun id _ _ _ h3 => at_ne (fun e => h3 (by rw [e])) _, .inl rfl, .inl rfl⟩
  obtain ⟨H2, r, g2, q2, f2⟩ := heap_Push (s := s) (q1.more [⟨[sv], 3, false⟩, ⟨[sv], 3, false⟩, ⟨[.t (enc s)], 3, false⟩]) hL ho hok
  have e2 : ∀ {K : Kv}, @F _ Tryz.prog 22 [.ifc 60 (.ptr q 1 0 0), .t (.iface 41 (enc s))] (H.set m ⟨kvs (ks ++ [codeB s]), 0, false⟩ ++ [⟨[sv], 3, false⟩, ⟨[sv], 3, false⟩, ⟨[.t (enc s)], 3, false⟩]) K = K.k (.tup []) H2 (.ran (H.set m ⟨kvs (ks ++ [codeB s]), 0, false⟩ ++ [⟨[sv], 3, false⟩, ⟨[sv], 3, false⟩, ⟨[.t (enc s)], 3, false⟩]) H2) := fun {K} => (F_heap (by rfl)).trans (HeapGo_eq g2)
  refine ⟨H2, r, ?_, q2, (f1.trans (Fram.more _ _ _ _ _)).trans f2⟩
  have hst := hv.st
  have hcl := hv.cl
  have hrd := hv.rd
  have hto : ∀ X, toT (H.set m ⟨kvs (ks ++ [codeB s]), 0, false⟩ ++ X) depth sv = some (enc s) := fun X => hv.to _ fun id h1 _ h3 => by rw [at_app (by simpa using h1), at_ne (fun e => h3 (by rw [e]))]
  have hto' : ∀ X, toT (H ++ X) depth sv = some (enc s) := fun X => hv.to _ fun id h1 _ _ => at_app h1 X
  simp only [seenV] at hqo
  refine FunH.go Tryz.func11 rfl rfl (by kernel_rfl) ?_
  simp -implicitDefEqProofs (disch := first | exact dsch | (simp only [go_sem, e1, hst, hcl, hrd, hto, hto', e2, hqo, hm, hq', hm', hc, hok, hsz, h1, h5, h6, at_app, set_app, at_ne, hne, hne', at_end, at_end1, at_end2, at_endS, at_endS1, at_endS2, set_endS2, List.length_set, List.append_assoc, List.cons_append, List.nil_append, Bool.false_eq_true]; omega) | (refine of_eq_true ?_; simp (disch := first | omega | (refine of_eq_true ?_; simp only [go_sem, e1, hst, hcl, hrd, hto, hto', e2, hqo, hm, hq', hm', hc, hok, hsz, h1, h5, h6, at_app, set_app, at_ne, hne, hne', at_end, at_end1, at_end2, at_endS, at_endS1, at_endS2, set_endS2, List.length_set, List.append_assoc, List.cons_append, List.nil_append, Bool.false_eq_true]; done) | (simp only [go_sem, e1, hst, hcl, hrd, hto, hto', e2, hqo, hm, hq', hm', hc, hok, hsz, h1, h5, h6, at_app, set_app, at_ne, hne, hne', at_end, at_end1, at_end2, at_endS, at_endS1, at_endS2, set_endS2, List.length_set, List.append_assoc, List.cons_append, List.nil_append, Bool.false_eq_true]; omega)) only [go_sem, e1, hst, hcl, hrd, hto, hto', e2, hqo, hm, hq', hm', hc, hok, hsz, h1, h5, h6, at_app, set_app, at_ne, hne, hne', at_end, at_end1, at_end2, at_endS, at_endS1, at_endS2, set_endS2, List.length_set, List.append_assoc, List.cons_append, List.nil_append, Bool.false_eq_true]; done) | fail) only [go_sem, ↓reduceIte, Nat.reduceEqDiff, e1, hst, hcl, hrd, hto, hto', e2, hqo, hm, hq', hm', hc, hok, hsz, h1, h5, h6, at_app, set_app, at_ne, hne, hne', at_end, at_end1, at_end2, at_endS, at_endS1, at_endS2, set_endS2, List.length_set, List.append_assoc, List.cons_append, List.nil_append, Bool.false_eq_true]
  try rfl
theorem mkA_q {rv : Option Nat} {l : List Fs} {n : Nat} : mkA (allT [rowsV rv l, V.mp n]) [rowsV rv l, V.mp n] = .agg [rowsV rv l, V.mp n] := by cases rv <;> rfl
theorem que_Push0 {H : Heap} {q : Nat} {rv : Option Nat} {l : List Fs} {s : Fs} {sv : V} (h : QAt H q rv l none []) (hL : l.length ≤ 100000) (ho : ∀ x ∈ l, OkF x) (hs : OkQ s) (hv : ValF H q none sv s) :
    ∃ H' r m, FunH Tryz.prog 11 [.ptr q 1 0 0, sv] H (.t (.bool true)) H' ∧ QAt H' q (some r) (pushS l s) (some m) ([codeB s]) ∧ Fram H H' q rv none (some r) (some m) := by
  have hok := hs.ok
  have hsz := hs.sz
  have hqo := h.qo
  have hq' := at_lt hqo
  have h1 : (piecesB 59 (codeB s)).length = 3 → OkF (parseB (codeB s)) := fun _ => by rw [parse_code hok]; exact hok
  have h5 := readB_code hok
  have h6 := okR_code hok
  have g := que_Has (h.more [⟨[sv], 3, false⟩]) hok (hv.more _)
  have e1 : ∀ {K : Kv}, @F _ Tryz.prog 8 [.ptr q 1 0 0, sv] (H ++ [⟨[sv], 3, false⟩]) K = K.k (.t (.bool false)) (H ++ [⟨[sv], 3, false⟩] ++ [⟨[sv], 3, false⟩]) (.ran (H ++ [⟨[sv], 3, false⟩]) (H ++ [⟨[sv], 3, false⟩] ++ [⟨[sv], 3, false⟩])) := fun {K} => (F_heap (by rfl)).trans (HeapGo_eq g)
  have q1 : QAt (H.set q ⟨[.agg [rowsV rv l, .mp (H.length + 2)]], 2, false⟩ ++ [⟨[sv], 3, false⟩, ⟨[sv], 3, false⟩, ⟨kvs [codeB s], 0, false⟩]) q rv l (some (H.length + 2)) [codeB s] := by
    refine ⟨by rw [at_app (by simpa using hq'), set_at hq']; rfl, fun r hr => ?_, h.rows0, ?_, fun e => (by cases e)⟩
    · obtain ⟨r1, r2⟩ := h.rows r hr
      exact ⟨by rw [at_app (by have := at_lt r1; simpa using this), at_ne r2]; exact r1, r2⟩
    · rintro m' e; cases e
      exact ⟨at_endS2, by omega, fun r hr => by have := at_lt (h.rows r hr).1; omega⟩
  have f1 : Fram H (H.set q ⟨[.agg [rowsV rv l, .mp (H.length + 2)]], 2, false⟩ ++ [⟨[sv], 3, false⟩, ⟨[sv], 3, false⟩, ⟨kvs [codeB s], 0, false⟩]) q rv none rv (some (H.length + 2)) :=
    ⟨by simp, fun id hi h1 _ _ => by rw [at_app (by simpa using hi), at_ne (Ne.symm h1)], .inl rfl, .inr ⟨_, by omega, rfl⟩⟩
  obtain ⟨H2, r, g2, q2, f2⟩ := heap_Push (s := s) (q1.more [⟨[.t (enc s)], 3, false⟩]) hL ho hok
  rw [List.append_assoc] at g2
  have e2 : ∀ {K : Kv}, @F _ Tryz.prog 22 [.ifc 60 (.ptr q 1 0 0), .t (.iface 41 (enc s))] (H.set q ⟨[.agg [rowsV rv l, .mp (H.length + 2)]], 2, false⟩ ++ [⟨[sv], 3, false⟩, ⟨[sv], 3, false⟩, ⟨[.t (.str (codeB s))], 0, false⟩, ⟨[.t (enc s)], 3, false⟩]) K = K.k (.tup []) H2 (.ran (H.set q ⟨[.agg [rowsV rv l, .mp (H.length + 2)]], 2, false⟩ ++ [⟨[sv], 3, false⟩, ⟨[sv], 3, false⟩, ⟨[.t (.str (codeB s))], 0, false⟩, ⟨[.t (enc s)], 3, false⟩]) H2) := fun {K} => (F_heap (by rfl)).trans (HeapGo_eq g2)
  refine ⟨H2, r, H.length + 2, ?_, q2, (f1.trans (Fram.more _ _ _ _ _)).trans f2⟩
  have hst := hv.st
  have hcl := hv.cl
  have hrd := hv.rd
  have hto : ∀ X, toT (H.set q ⟨[.agg [rowsV rv l, .mp (H.length + 2)]], 2, false⟩ ++ X) depth sv = some (enc s) := fun X => hv.to _ fun id h1 h2 _ => by rw [at_app (by simpa using h1), at_ne (Ne.symm h2)]
  simp only [seenV] at hqo
  refine FunH.go Tryz.func11 rfl rfl (by kernel_rfl) ?_
  simp -implicitDefEqProofs (disch := first | exact dsch | (simp only [go_sem, e1, hst, hcl, hrd, hto, e2, hqo, hq', mkA_q, hok, hsz, h1, h5, h6, at_app, set_app, set_at, at_end, at_end1, at_end2, at_endS, at_endS1, at_endS2, at_endS3, set_endS2, set_endS3, List.length_set, List.append_assoc, List.cons_append, List.nil_append, Bool.false_eq_true]; omega) | (refine of_eq_true ?_; simp (disch := first | omega | (refine of_eq_true ?_; simp only [go_sem, e1, hst, hcl, hrd, hto, e2, hqo, hq', mkA_q, hok, hsz, h1, h5, h6, at_app, set_app, set_at, at_end, at_end1, at_end2, at_endS, at_endS1, at_endS2, at_endS3, set_endS2, set_endS3, List.length_set, List.append_assoc, List.cons_append, List.nil_append, Bool.false_eq_true]; done) | (simp only [go_sem, e1, hst, hcl, hrd, hto, e2, hqo, hq', mkA_q, hok, hsz, h1, h5, h6, at_app, set_app, set_at, at_end, at_end1, at_end2, at_endS, at_endS1, at_endS2, at_endS3, set_endS2, set_endS3, List.length_set, List.append_assoc, List.cons_append, List.nil_append, Bool.false_eq_true]; omega)) only [go_sem, e1, hst, hcl, hrd, hto, e2, hqo, hq', mkA_q, hok, hsz, h1, h5, h6, at_app, set_app, set_at, at_end, at_end1, at_end2, at_endS, at_endS1, at_endS2, at_endS3, set_endS2, set_endS3, List.length_set, List.append_assoc, List.cons_append, List.nil_append, Bool.false_eq_true]; done) | fail) only [go_sem, ↓reduceIte, Nat.reduceEqDiff, e1, hst, hcl, hrd, hto, e2, hqo, hq', mkA_q, hok, hsz, h1, h5, h6, at_app, set_app, set_at, at_end, at_end1, at_end2, at_endS, at_endS1, at_endS2, at_endS3, set_endS2, set_endS3, List.length_set, List.append_assoc, List.cons_append, List.nil_append, Bool.false_eq_true]
  try rfl
end Go.Sim
