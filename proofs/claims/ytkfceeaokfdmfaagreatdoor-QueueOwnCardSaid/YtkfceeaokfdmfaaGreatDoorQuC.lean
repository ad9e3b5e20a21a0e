/- A part of the proof of a law of module cupola: Q5, Q6, Q7. It has no conditions of its own. -/
import Derived.Test.YtkfceeaokfdmfaaGreatDoorQuB
import Derived.Test.YtkfceeaokfdmfaaGreatDoorQuA
set_option linter.all false
set_option maxRecDepth 100000
namespace Go.Sim
open Enc (enc)
open Go.Proofs
theorem QAt.other {H : Heap} {q : Nat} {rv mv : Option Nat} {l : List Fs} {ks : List ByteArray} (h : QAt H q rv l mv ks) {id : Nat} (o : Obj) (h1 : id ≠ q) (h2 : rv ≠ some id) (h3 : mv ≠ some id) : QAt (H.set id o) q rv l mv ks where
  qo := by rw [at_ne h1]; exact h.qo
  rows := fun r hr => ⟨by rw [at_ne (fun e => h2 (by rw [e]; exact hr))]; exact (h.rows r hr).1, (h.rows r hr).2⟩
  rows0 := h.rows0
  seen := fun m hm => ⟨by rw [at_ne (fun e => h3 (by rw [e]; exact hm))]; exact (h.seen m hm).1, (h.seen m hm).2⟩
  seen0 := h.seen0
theorem que_Pop0 {H : Heap} {q : Nat} {rv mv : Option Nat} {ks : List ByteArray} (h : QAt H q rv [] mv ks) : FunH Tryz.prog 13 [.ptr q 1 0 0] H (.tup [.agg [.t (.int .u32 0), .ex [], .ex []], .t (.bool false)]) (H ++ [⟨[.agg [.t (.int .u32 0), .ex [], .ex []]], 3, false⟩]) := by
  have e1 : ∀ X, ∀ {K : Kv}, @F _ Tryz.prog 16 [.ptr q 1 0 0] (H ++ X) K = K.k (.t (.int .i64 0)) (H ++ X) (.ran (H ++ X) (H ++ X)) := fun X {K} => (F_heap (by rfl)).trans (HeapGo_eq (que_Len (h.more X)))
  refine FunH.go Tryz.func13 rfl rfl (by kernel_rfl) ?_
  simp -implicitDefEqProofs (disch := first | exact dsch | (simp only [go_sem, e1, at_end, set_end]; omega) | (refine of_eq_true ?_; simp (disch := first | omega | (refine of_eq_true ?_; simp only [go_sem, e1, at_end, set_end]; done) | (simp only [go_sem, e1, at_end, set_end]; omega)) only [go_sem, e1, at_end, set_end]; done) | fail) only [go_sem, ↓reduceIte, Nat.reduceEqDiff, e1, at_end, set_end]
  trace_state
theorem que_Pop1 {H : Heap} {q : Nat} {rv mv : Option Nat} {l : List Fs} {ks : List ByteArray} (h : QAt H q rv l mv ks) (hl : 0 < l.length) (hL : l.length ≤ 100000) (ho : ∀ x ∈ l, OkF x) :
    ∃ H' rv', FunH Tryz.prog 13 [.ptr q 1 0 0] H (.tup [.t (enc (gd l 0)), .t (.bool true)]) H' ∧ QAt H' q rv' (popS l) mv ks ∧ Fram H H' q rv mv rv' mv := by
  obtain ⟨r, rfl⟩ : ∃ r, rv = some r := by
    cases rv with
    | none => rw [h.rows0 rfl] at hl; simp at hl
    | some r => exact ⟨r, rfl⟩
  have hq' := at_lt h.qo
  have hr' := at_lt (h.rows r rfl).1
  have e1 : ∀ X, ∀ {K : Kv}, @F _ Tryz.prog 16 [.ptr q 1 0 0] (H ++ X) K = K.k (.t (.int .i64 l.length)) (H ++ X) (.ran (H ++ X) (H ++ X)) := fun X {K} => (F_heap (by rfl)).trans (HeapGo_eq (que_Len (h.more X)))
  have hl0 : ¬ (l.length : Int) = 0 := by omega
  have hqo := (h.more [⟨[.agg [.t (.int .u32 0), .ex [], .ex []]], 3, false⟩]).qo
  obtain ⟨H2, r', g, q2, f⟩ := heap_Pop (h.more [⟨[.agg [.t (.int .u32 0), .ex [], .ex []]], 3, false⟩]) hl hL ho
  have e2 : ∀ {K : Kv}, @F _ Tryz.prog 24 [.ifc 60 (.ptr q 1 0 0)] (H ++ [⟨[.agg [.t (.int .u32 0), .ex [], .ex []]], 3, false⟩]) K = K.k (.t (.iface 41 (enc (gd l 0)))) H2 (.ran (H ++ [⟨[.agg [.t (.int .u32 0), .ex [], .ex []]], 3, false⟩]) H2) := fun {K} => (F_heap (by rfl)).trans (HeapGo_eq g)
  have hml : ∀ m, mv = some m → m < H.length := fun m hm => at_lt (h.seen m hm).1
  have h2 : H2[H.length]? = some ⟨[.agg [.t (.int .u32 0), .ex [], .ex []]], 3, false⟩ := by
    rw [f.keep H.length (by simp) (by omega) (by intro e; cases e; omega) (fun e => by have := hml _ e; omega)]
    exact at_end
  have hlt := at_lt h2
  have hr2 : (some r' : Option Nat) ≠ some H.length := by
    rcases f.rown with e | ⟨x, hx, e⟩
    · cases e; intro e; cases e; omega
    · cases e; intro e; cases e; simp at hx; omega
  have hm2 : mv ≠ some H.length := fun e => by have := hml _ e; omega
  have q3 := (q2.other (id := H.length) ⟨[.t (enc (gd l 0))], 3, false⟩ (by omega) hr2 hm2).more [⟨[.t (enc (gd l 0))], 3, false⟩]
  refine ⟨_, some r', ?_, q3, ⟨by have := f.len; simp at this ⊢; omega, fun id hi h4 h5 h6 => ?_, ?_, .inl rfl⟩⟩
  · refine FunH.go Tryz.func13 rfl rfl (by kernel_rfl) ?_
    simp -implicitDefEqProofs (disch := first | exact dsch | (simp only [go_sem, e1, e2, hl0, at_app, at_end, set_end, set_app, h2, hlt, set_at, at_endS, List.append_assoc, List.cons_append, List.nil_append]; omega) | (refine of_eq_true ?_; simp (disch := first | omega | (refine of_eq_true ?_; simp only [go_sem, e1, e2, hl0, at_app, at_end, set_end, set_app, h2, hlt, set_at, at_endS, List.append_assoc, List.cons_append, List.nil_append]; done) | (simp only [go_sem, e1, e2, hl0, at_app, at_end, set_end, set_app, h2, hlt, set_at, at_endS, List.append_assoc, List.cons_append, List.nil_append]; omega)) only [go_sem, e1, e2, hl0, at_app, at_end, set_end, set_app, h2, hlt, set_at, at_endS, List.append_assoc, List.cons_append, List.nil_append]; done) | fail) only [go_sem, ↓reduceIte, Nat.reduceEqDiff, e1, e2, hl0, at_app, at_end, set_end, set_app, h2, hlt, set_at, at_endS, List.append_assoc, List.cons_append, List.nil_append]
    trace_state
  · rw [at_app (by simp; omega), at_ne (by omega), f.keep id (by simp; omega) h4 h5 h6, at_app hi]
  · rcases f.rown with e | ⟨x, hx, e⟩
    · exact .inl e
    · exact .inr ⟨x, by simp at hx; omega, e⟩
end Go.Sim

set_option maxRecDepth 100000
namespace Go.Sim
open Enc (enc)
open Go.Proofs
theorem nl_trans {a b c : Fs} (h : lessB a b = false) (k : lessB b c = false) : lessB a c = false := by
  cases hac : lessB a c
  · rfl
  · rcases less_tri a b with h1 | h1 | h1
    · rw [h] at h1; cases h1
    · subst h1; rw [hac] at k; cases k
    · have := less_trans h1 hac; rw [k] at this; cases this
theorem gd_swap {l : List Fs} {i j : Nat} (hi : i < l.length) (hj : j < l.length) (k : Nat) : gd (swapL l i j) k = if k = j then gd l i else if k = i then gd l j else gd l k := by
  unfold swapL
  by_cases h1 : k = j
  · subst h1
    rw [if_pos rfl]
    show List.getD _ _ _ = _
    rw [List.getD_eq_getElem?_getD, List.getElem?_set_self (by rw [List.length_set]; exact hj)]; rfl
  · rw [if_neg h1]
    show List.getD _ _ _ = _
    rw [List.getD_eq_getElem?_getD, List.getElem?_set_ne (Ne.symm h1)]
    by_cases h2 : k = i
    · subst h2; rw [if_pos rfl, List.getElem?_set_self hi]; rfl
    · rw [if_neg h2, List.getElem?_set_ne (Ne.symm h2)]
      show _ = List.getD _ _ _
      rw [List.getD_eq_getElem?_getD]
theorem gd_ltF {l : List Fs} {i : Nat} (h : i < l.length) : gd l i = l[i] := by
  show List.getD _ _ _ = _
  rw [List.getD_eq_getElem?_getD, List.getElem?_eq_getElem h]; rfl
theorem swapL_perm {l : List Fs} {i j : Nat} (hi : i < l.length) (hj : j < l.length) : (swapL l i j).Perm l := by
  have h := Array.swap_perm (xs := l.toArray) (i := i) (j := j) (by simpa using hi) (by simpa using hj)
  have e : (l.toArray.swap i j (by simpa using hi) (by simpa using hj)).toList = swapL l i j := by
    unfold swapL
    rw [Array.toList_swap]
    rw [gd_ltF hi, gd_ltF hj]
    simp
  rw [← e]
  exact Array.perm_iff_toList_perm.1 h
def isH (l : List Fs) (n : Nat) : Prop := ∀ k, 0 < k → k < n → lessB (gd l k) (gd l ((k - 1) / 2)) = false
def upE (l : List Fs) (j : Nat) : Prop := (∀ k, 0 < k → k < l.length → k ≠ j → lessB (gd l k) (gd l ((k - 1) / 2)) = false) ∧ ∀ k, 0 < k → k < l.length → (k - 1) / 2 = j → 0 < j → lessB (gd l k) (gd l ((j - 1) / 2)) = false
theorem up_isH : ∀ (f : Nat) (l : List Fs) (j : Nat), j ≤ f → j < l.length → upE l j → isH (upL f l j) l.length ∧ (upL f l j).Perm l
  | 0, l, j, hf, hj, h => by
    obtain rfl : j = 0 := by omega
    exact ⟨fun k h0 h1 => h.1 k h0 h1 (by omega), List.Perm.refl _⟩
  | f + 1, l, j, hf, hj, h => by
    rw [upL]
    split
    · subst_vars; exact ⟨fun k h0 h1 => h.1 k h0 h1 (by omega), List.Perm.refl _⟩
    · rename_i h0
      split
      · rename_i hl
        obtain ⟨p, hp⟩ : ∃ p, p = (j - 1) / 2 := ⟨_, rfl⟩
        rw [← hp] at hl ⊢
        have hpj : p < j := by omega
        have hg := gd_swap (l := l) (i := p) (j := j) (by omega) hj
        have hlen := swapL_len l p j
        have := up_isH f (swapL l p j) p (by omega) (by omega) (by
          refine ⟨fun k k0 k1 kp => ?_, fun k k0 k1 kp p0 => ?_⟩
          · rw [hg k, hg ((k - 1) / 2)]
            by_cases e1 : k = j
            · rw [if_pos e1, if_neg (by omega), if_pos (by omega)]
              exact less_asym hl
            · rw [if_neg e1, if_neg kp]
              by_cases e2 : (k - 1) / 2 = j
              · rw [if_pos e2]
                have := h.2 k k0 (by omega) e2 (by omega)
                rw [← hp] at this; exact this
              · rw [if_neg e2]
                by_cases e3 : (k - 1) / 2 = p
                · rw [if_pos e3]
                  have h3 := h.1 k k0 (by omega) e1
                  rw [e3] at h3
                  cases h4 : lessB (gd l k) (gd l j)
                  · rfl
                  · rw [less_trans h4 hl] at h3; cases h3
                · rw [if_neg e3]
                  exact h.1 k k0 (by omega) e1
          · rw [hg k, hg ((p - 1) / 2), if_neg (show (p - 1) / 2 ≠ j by omega), if_neg (show (p - 1) / 2 ≠ p by omega)]
            have hpp := h.1 p p0 (by omega) (by omega)
            by_cases e1 : k = j
            · rw [if_pos e1]; exact hpp
            · rw [if_neg e1, if_neg (by omega)]
              have h3 := h.1 k k0 (by omega) e1
              rw [kp] at h3
              exact nl_trans h3 hpp)
        rw [hlen] at this
        exact ⟨this.1, this.2.trans (swapL_perm (by omega) hj)⟩
      · rename_i hl
        refine ⟨fun k k0 k1 => ?_, List.Perm.refl _⟩
        by_cases e : k = j
        · subst e; simpa using hl
        · exact h.1 k k0 k1 e
def dnE (l : List Fs) (i n : Nat) : Prop := (∀ k, 0 < k → k < n → (k - 1) / 2 ≠ i → lessB (gd l k) (gd l ((k - 1) / 2)) = false) ∧ ∀ k, 0 < k → k < n → (k - 1) / 2 = i → 0 < i → lessB (gd l k) (gd l ((i - 1) / 2)) = false
theorem dnC_min {l : List Fs} {i n k : Nat} (k0 : 0 < k) (k1 : k < n) (hk : (k - 1) / 2 = i) : lessB (gd l k) (gd l (dnC l i n)) = false := by
  unfold dnC
  have hk' : k = 2 * i + 1 ∨ k = 2 * i + 2 := by omega
  split
  · rename_i h
    rcases hk' with rfl | rfl
    · exact less_asym h.2
    · exact less_irr _
  · rename_i h
    rcases hk' with rfl | rfl
    · exact less_irr _
    · cases hb : lessB (gd l (2 * i + 2)) (gd l (2 * i + 1))
      · rfl
      · exact absurd ⟨k1, hb⟩ h
theorem dnC_par (l : List Fs) (i n : Nat) : (dnC l i n - 1) / 2 = i := by unfold dnC; split <;> omega
theorem dn_isH : ∀ (f : Nat) (l : List Fs) (i n : Nat), n ≤ i + f → i < n → n ≤ l.length → dnE l i n → isH (dnL f l i n) n ∧ (dnL f l i n).Perm l
  | 0, l, i, n, hf, hi, hn, h => by omega
  | f + 1, l, i, n, hf, hi, hn, h => by
    rw [dnL]
    split
    · rename_i hh
      obtain ⟨h1, hl⟩ := hh
      have hpar := dnC_par l i n
      have hmin := fun k k0 k1 hk => dnC_min (l := l) (i := i) (n := n) (k := k) k0 k1 hk
      have hlt := dnC_lt (l := l) h1
      have hgt := dnC_gt l i n
      obtain ⟨c, hc⟩ : ∃ c, c = dnC l i n := ⟨_, rfl⟩
      rw [← hc] at hpar hmin hlt hgt hl ⊢
      have hg := gd_swap (l := l) (i := i) (j := c) (by omega) (by omega)
      have hlen := swapL_len l i c
      have := dn_isH f (swapL l i c) c n (by omega) hlt (by omega) (by
        refine ⟨fun k k0 k1 km => ?_, fun k k0 k1 km c0 => ?_⟩
        · rw [hg k, hg ((k - 1) / 2), if_neg km]
          by_cases e1 : k = c
          · rw [if_pos e1, if_pos (by rw [e1]; exact hpar)]
            exact less_asym hl
          · rw [if_neg e1]
            by_cases e2 : (k - 1) / 2 = i
            · rw [if_pos e2, if_neg (by omega)]
              exact hmin k k0 k1 e2
            · rw [if_neg e2]
              by_cases e3 : k = i
              · rw [if_pos e3]
                have := h.2 c (by omega) hlt hpar (by omega)
                rw [← e3] at this; exact this
              · rw [if_neg e3]
                exact h.1 k k0 k1 e2
        · rw [hg k, if_neg (by omega), if_neg (by omega), hpar, hg i, if_neg (by omega), if_pos rfl]
          have := h.1 k k0 k1 (by omega)
          rw [km] at this; exact this)
      exact ⟨this.1, this.2.trans (swapL_perm (by omega) (by omega))⟩
    · rename_i hh
      refine ⟨fun k k0 k1 => ?_, List.Perm.refl _⟩
      by_cases e : (k - 1) / 2 = i
      · have h1 : 2 * i + 1 < n := by omega
        have h2 : lessB (gd l (dnC l i n)) (gd l i) = false := by
          cases hb : lessB (gd l (dnC l i n)) (gd l i)
          · rfl
          · exact absurd ⟨h1, hb⟩ hh
        rw [e]
        exact nl_trans (dnC_min k0 k1 e) h2
      · exact h.1 k k0 k1 e
theorem isH_min {l : List Fs} {n : Nat} (h : isH l n) : ∀ k, k < n → lessB (gd l k) (gd l 0) = false := by
  intro k
  induction k using Nat.strongRecOn with
  | ind k ih =>
    intro hk
    by_cases h0 : k = 0
    · subst h0; exact less_irr _
    · exact nl_trans (h k (by omega) hk) (ih ((k - 1) / 2) (by omega) (by omega))
theorem gd_appL {l m : List Fs} {k : Nat} (h : k < l.length) : gd (l ++ m) k = gd l k := by
  show List.getD _ _ _ = List.getD _ _ _
  rw [List.getD_eq_getElem?_getD, List.getD_eq_getElem?_getD, List.getElem?_append_left h]
theorem gd_takeL {l : List Fs} {n k : Nat} (h : k < n) : gd (l.take n) k = gd l k := by
  show List.getD _ _ _ = List.getD _ _ _
  rw [List.getD_eq_getElem?_getD, List.getD_eq_getElem?_getD, List.getElem?_take, if_pos h]
theorem isH_push {l : List Fs} {s : Fs} (h : isH l l.length) : isH (upS (l ++ [s]) l.length) (l.length + 1) ∧ (upS (l ++ [s]) l.length).Perm (l ++ [s]) := by
  have := up_isH l.length (l ++ [s]) l.length (Nat.le_refl _) (by simp) (by
    refine ⟨fun k k0 k1 kn => ?_, fun k k0 k1 kp p0 => ?_⟩
    · have : k < l.length := by simp at k1; omega
      rw [gd_appL this, gd_appL (by omega)]
      exact h k k0 this
    · simp at k1; omega)
  simpa [upS] using this
theorem isH_pop {l : List Fs} (h : isH l l.length) (hl : 0 < l.length) : isH ((dnS (swapL l 0 (l.length - 1)) 0 (l.length - 1)).take (l.length - 1)) (l.length - 1) ∧ (gd l 0 :: (dnS (swapL l 0 (l.length - 1)) 0 (l.length - 1)).take (l.length - 1)).Perm l := by
  obtain ⟨n, hn⟩ : ∃ n, n = l.length - 1 := ⟨_, rfl⟩
  rw [← hn]
  have hg := gd_swap (l := l) (i := 0) (j := n) hl (by omega)
  have hlen := swapL_len l 0 n
  have hp := swapL_perm (l := l) (i := 0) (j := n) hl (by omega)
  have key : isH (dnS (swapL l 0 n) 0 n) n ∧ (dnS (swapL l 0 n) 0 n).Perm (swapL l 0 n) ∧ gd (dnS (swapL l 0 n) 0 n) n = gd l 0 := by
    by_cases h0 : n = 0
    · subst h0
      rw [dnS_no (by rintro ⟨h, _⟩; omega)]
      exact ⟨fun k k0 k1 => by omega, List.Perm.refl _, by rw [hg 0, if_pos rfl]⟩
    · have := dn_isH n (swapL l 0 n) 0 n (by omega) (by omega) (by omega) (by
        refine ⟨fun k k0 k1 kp => ?_, fun k k0 k1 kp p0 => by omega⟩
        rw [hg k, hg ((k - 1) / 2), if_neg (by omega), if_neg (by omega), if_neg (by omega), if_neg kp]
        exact h k k0 (by omega))
      refine ⟨by simpa [dnS] using this.1, by simpa [dnS] using this.2, ?_⟩
      have ho : ∀ (k : Nat) (l : List Fs) (i n m : Nat), n ≤ m → i < m → gd (dnL k l i n) m = gd l m := by
        intro k
        induction k with
        | zero => intros; rfl
        | succ k ih =>
          intro l i n m h hi
          rw [dnL]; split
          · rename_i hh
            have h1 := dnC_lt (l := l) hh.1
            have h2 := dnC_gt l i n
            rw [ih _ _ _ _ h (by omega)]
            unfold swapL
            show List.getD _ _ _ = List.getD _ _ _
            rw [List.getD_eq_getElem?_getD, List.getD_eq_getElem?_getD, List.getElem?_set_ne (by omega), List.getElem?_set_ne (by omega)]
          · rfl
      unfold dnS
      rw [ho _ _ _ _ _ (Nat.le_refl _) (by omega), hg n, if_pos rfl]
  obtain ⟨k1, k2, k3⟩ := key
  have hl2 : (dnS (swapL l 0 n) 0 n).length = n + 1 := by rw [k2.length_eq, hlen]; omega
  refine ⟨fun k q0 q1 => ?_, ?_⟩
  · rw [gd_takeL q1, gd_takeL (by omega)]
    exact k1 k q0 q1
  · have e : dnS (swapL l 0 n) 0 n = (dnS (swapL l 0 n) 0 n).take n ++ [gd l 0] := by
      conv => lhs; rw [← List.take_append_drop n (dnS (swapL l 0 n) 0 n)]
      congr 1
      rw [List.drop_eq_getElem_cons (by omega), ← gd_ltF (by omega), k3, List.drop_of_length_le (by omega)]
    refine List.Perm.trans ?_ (k2.trans hp)
    conv => rhs; rw [e]
    exact List.perm_append_comm (l₁ := [gd l 0])
end Go.Sim

set_option maxRecDepth 100000
namespace Go.Sim
open Enc (enc)
open Go.Proofs
theorem baL {a b : ByteArray} : (a == b) = true ↔ a = b := by
  cases a with
  | mk x => cases b with
    | mk y =>
      show (x == y) = true ↔ _
      rw [beq_iff_eq]
      exact ⟨fun h => by rw [h], fun h => by cases h; rfl⟩
instance : LawfulBEq ByteArray where
  eq_of_beq h := baL.1 h
  rfl := baL.2 rfl
structure Que (H : Heap) (q : Nat) (rv mv : Option Nat) (l : List Fs) (ks : List ByteArray) : Prop where
  a : QAt H q rv l mv ks
  hp : isH l l.length
  ok : ∀ x ∈ l, OkQ x
  mem : ∀ x ∈ l, codeB x ∈ ks
  nd : l.Nodup
theorem Que.okF {H : Heap} {q : Nat} {rv mv : Option Nat} {l : List Fs} {ks : List ByteArray} (h : Que H q rv mv l ks) : ∀ x ∈ l, OkF x := fun x hx => (h.ok x hx).ok
theorem Que.more {H : Heap} {q : Nat} {rv mv : Option Nat} {l : List Fs} {ks : List ByteArray} (h : Que H q rv mv l ks) (X : Heap) : Que (H ++ X) q rv mv l ks := ⟨h.a.more X, h.hp, h.ok, h.mem, h.nd⟩
theorem Que.other {H : Heap} {q : Nat} {rv mv : Option Nat} {l : List Fs} {ks : List ByteArray} (h : Que H q rv mv l ks) {id : Nat} (o : Obj) (h1 : id ≠ q) (h2 : rv ≠ some id) (h3 : mv ≠ some id) : Que (H.set id o) q rv mv l ks := ⟨h.a.other o h1 h2 h3, h.hp, h.ok, h.mem, h.nd⟩
theorem Que.new (H : Heap) : Que (H ++ [⟨[.agg [.ex [], .t .nilm]], 2, false⟩]) H.length none none [] [] := ⟨⟨at_end, fun r e => (by cases e), fun _ => rfl, fun m e => (by cases e), fun _ => rfl⟩, fun k _ h => by simp at h, fun x h => (by cases h), fun x h => (by cases h), List.nodup_nil⟩
theorem Que.push {H : Heap} {q : Nat} {rv mv : Option Nat} {l : List Fs} {ks : List ByteArray} {s : Fs} {sv : V} (h : Que H q rv mv l ks) (hL : l.length ≤ 1000) (hs : OkQ s) (hv : ValF H q mv sv s) :
    ∃ H' rv' mv' l' ks', FunH Tryz.prog 11 [.ptr q 1 0 0, sv] H (.t (.bool (!ks.contains (codeB s)))) H' ∧ Que H' q rv' mv' l' ks' ∧ Fram H H' q rv mv rv' mv' ∧
      (ks.contains (codeB s) = true → l' = l ∧ ks' = ks) ∧ (ks.contains (codeB s) = false → l'.Perm (l ++ [s]) ∧ ks' = ks ++ [codeB s]) := by
  cases hc : ks.contains (codeB s)
  · have hnew : codeB s ∉ ks := by
      intro hm
      rw [List.contains_iff_mem.2 hm] at hc; cases hc
    have hsl : s ∉ l := fun hm => hnew (h.mem s hm)
    have hp := isH_push (s := s) h.hp
    have hlen : (pushS l s).length = l.length + 1 := by unfold pushS; rw [hp.2.length_eq]; simp
    have hpm : (pushS l s).Perm (l ++ [s]) := hp.2
    have mk : ∀ {H' : Heap} {rv' mv' : Option Nat}, QAt H' q rv' (pushS l s) mv' (ks ++ [codeB s]) → Que H' q rv' mv' (pushS l s) (ks ++ [codeB s]) := by
      intro H' rv' mv' ha
      refine ⟨ha, by rw [hlen]; exact hp.1, fun x hx => ?_, fun x hx => ?_, ?_⟩
      · rcases List.mem_append.1 (hpm.mem_iff.1 hx) with hx | hx
        · exact h.ok x hx
        · rw [List.mem_singleton.1 hx]; exact hs
      · rcases List.mem_append.1 (hpm.mem_iff.1 hx) with hx | hx
        · exact List.mem_append.2 (.inl (h.mem x hx))
        · rw [List.mem_singleton.1 hx]; exact List.mem_append.2 (.inr (by simp))
      · rw [hpm.nodup_iff, List.nodup_append]
        exact ⟨h.nd, by simp, fun a ha b hb e => hsl (by rw [List.mem_singleton.1 hb] at e; rw [← e]; exact ha)⟩
    cases mv with
    | none =>
      have hk := h.a.seen0 rfl
      subst hk
      obtain ⟨H', r, m, g, qa, f⟩ := que_Push0 h.a (by omega) h.okF hs hv
      exact ⟨H', some r, some m, _, _, g, mk qa, f, fun e => (by cases e), fun _ => ⟨hpm, rfl⟩⟩
    | some m =>
      obtain ⟨H', r, g, qa, f⟩ := que_Push1 h.a (by omega) h.okF hs hv hc
      exact ⟨H', some r, some m, _, _, g, mk qa, f, fun e => (by cases e), fun _ => ⟨hpm, rfl⟩⟩
  · exact ⟨_, rv, mv, l, ks, que_PushNo h.a hs hv hc, h.more _, Fram.more _ _ _ _ _, fun _ => ⟨rfl, rfl⟩, fun e => (by cases e)⟩
theorem Que.pop {H : Heap} {q : Nat} {rv mv : Option Nat} {l : List Fs} {ks : List ByteArray} (h : Que H q rv mv l ks) (hL : l.length ≤ 1000) (hl : 0 < l.length) :
    ∃ H' rv' mv' l' x, FunH Tryz.prog 13 [.ptr q 1 0 0] H (.tup [.t (enc x), .t (.bool true)]) H' ∧ Que H' q rv' mv' l' ks ∧ Fram H H' q rv mv rv' mv' ∧ (x :: l').Perm l ∧ (∀ y ∈ l, lessB y x = false) := by
  obtain ⟨H', rv', g, qa, f⟩ := que_Pop1 h.a hl (by omega) h.okF
  have hp := isH_pop h.hp hl
  have hpm : (gd l 0 :: popS l).Perm l := hp.2
  have hlen : (popS l).length = l.length - 1 := by have := hpm.length_eq; simp at this; omega
  refine ⟨H', rv', mv, popS l, gd l 0, g, ⟨qa, by rw [hlen]; exact hp.1, fun x hx => h.ok x (hpm.mem_iff.1 (List.mem_cons_of_mem _ hx)), fun x hx => h.mem x (hpm.mem_iff.1 (List.mem_cons_of_mem _ hx)), ?_⟩, f, hpm, fun y hy => ?_⟩
  · have := hpm.nodup_iff.2 h.nd
    exact (List.nodup_cons.1 this).2
  · obtain ⟨k, hk, rfl⟩ := List.mem_iff_getElem.1 hy
    rw [← gd_ltF hk]
    exact isH_min h.hp k hk
theorem Que.pop0 {H : Heap} {q : Nat} {rv mv : Option Nat} {ks : List ByteArray} (h : Que H q rv mv [] ks) :
    FunH Tryz.prog 13 [.ptr q 1 0 0] H (.tup [.agg [.t (.int .u32 0), .ex [], .ex []], .t (.bool false)]) (H ++ [⟨[.agg [.t (.int .u32 0), .ex [], .ex []]], 3, false⟩]) := que_Pop0 h.a
theorem few_okQ {s : Fs} (w : WfF s) (h : fewF s = true) : OkQ s := ⟨few_ok w h, few_size w h⟩
theorem law21_made (s : Fs) : Fun Tryz.prog 9 [enc s] (.t (enc s)) := by
  refine Fun.go (b := false) Tryz.func9 rfl rfl (by kernel_rfl) (by kernel_rfl) ?_
  simp -implicitDefEqProofs (disch := first | exact dsch | fail) only [go_sem, ↓reduceIte, Nat.reduceEqDiff]
@[go_sem] theorem pu_made21 {s : Fs} {K : Kp} : @Pu _ Tryz.prog 9 [enc s] K = K.k (.t (enc s)) := (law21_made s).pu
def fewQ (l : List Fs) : Bool := decide (l.length ≤ 100) && l.all fewF
theorem law21_few (l : List Fs) : Fun Tryz.prog 7 [enc l] (.t (.bool (fewQ l))) := by
  refine Fun.go (b := false) Tryz.func7 rfl rfl (by kernel_rfl) (by kernel_rfl) ?_
  simp -implicitDefEqProofs (disch := first | exact dsch | fail) only [go_sem, ↓reduceIte, Nat.reduceEqDiff]
  refine loop_k (n := min l.length 101) [0] (by kernel_rfl) (fun i e H => e 3 = .t (.int .i64 i) ∧ (∀ k, k < i → fewF (gd l k) = true)) ?_ ?_
  · rintro i e H hi hk ⟨h3, hf⟩
    simp only [keepP, go_sem, ↓reduceIte, Nat.reduceEqDiff, and_true] at hk
    by_cases hlt : i < l.length
    · by_cases h101 : i < 101
      · have h101' : (i : Int) < 101 := by omega
        cases hw : fewF (gd l i)
        · have : fewQ l = false := by
            unfold fewQ
            have : l.all fewF = false := by
              rw [← Bool.not_eq_true, List.all_eq_true]
              intro h; rw [h _ (gd_mem hlt)] at hw; cases hw
            rw [this, Bool.and_false]
          simp -implicitDefEqProofs (disch := first | exact dsch | fail) only [go_sem, ↓reduceIte, Nat.reduceEqDiff, hk, h3, hlt, h101', hw, this]
        · simp -implicitDefEqProofs (disch := first | exact dsch | fail) only [go_sem, ↓reduceIte, Nat.reduceEqDiff, hk, h3, hlt, h101', hw]
          refine ⟨by omega, fun k hk => ?_⟩
          by_cases e : k = i
          · rw [e]; exact hw
          · exact hf k (by omega)
      · have h101' : ¬ (i : Int) < 101 := by omega
        have : fewQ l = decide ((l.length : Int) ≤ 100) := by
          unfold fewQ
          have : ¬ l.length ≤ 100 := by omega
          simp [this]; omega
        simp -implicitDefEqProofs (disch := first | exact dsch | fail) only [go_sem, ↓reduceIte, Nat.reduceEqDiff, hk, h3, hlt, h101', this]
    · have hlt' : ¬ (i : Int) < l.length := by omega
      have hle : l.length ≤ 101 := by omega
      have : fewQ l = decide ((l.length : Int) ≤ 100) := by
        unfold fewQ
        have : l.all fewF = true := by
          rw [List.all_eq_true]
          intro x hx
          obtain ⟨k, hk, rfl⟩ := List.mem_iff_getElem.1 hx
          rw [← gd_ltF hk]; exact hf k (by omega)
        rw [this, Bool.and_true]; simp; omega
      simp -implicitDefEqProofs (disch := first | exact dsch | fail) only [go_sem, ↓reduceIte, Nat.reduceEqDiff, hk, h3, hlt', this]
  · simp -implicitDefEqProofs (disch := first | exact dsch | fail) only [go_sem, ↓reduceIte, Nat.reduceEqDiff]
    intro k hk; omega
@[go_sem] theorem pu_few21 {l : List Fs} {K : Kp} : @Pu _ Tryz.prog 7 [enc l] K = K.k (.t (.bool (fewQ l))) := (law21_few l).pu
end Go.Sim
