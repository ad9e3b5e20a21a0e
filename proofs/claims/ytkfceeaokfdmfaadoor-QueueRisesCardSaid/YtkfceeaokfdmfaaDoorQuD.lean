/- A part of the proof of a law of module cupola: Q8, Q9. It has no conditions of its own. -/
import Derived.Test.YtkfceeaokfdmfaaDoorQuC
set_option linter.all false
set_option maxRecDepth 100000
namespace Go.Sim
open Enc (enc)
open Go.Proofs
def s1 : Fs := ⟨1#32, [], []⟩
theorem s1_few : fewF s1 = true := by decide
theorem s1_wf : WfF s1 := ⟨fun n h => (by cases h), fun r h => (by cases h)⟩
theorem s1_ok : OkQ s1 := few_okQ s1_wf s1_few
theorem Que.fn {H H' : Heap} {f : FuncId} {vs : List V} {u : V} (g : FunH Tryd.prog f vs H u H') (hn : toTs H vs = none) (hu : u.isDead = false) {K : Kv} : @F _ Tryd.prog f vs H K = K.k u H' .wild := (F_heap hn).trans (HeapGo_eq g hu)
@[go_sem] theorem box1_q {H : Heap} : box1 (.agg [.ex [], .t .nilm]) H = some ⟨.ptr H.length 1 0 0, H ++ [⟨[.agg [.ex [], .t .nilm]], 2, false⟩], .none⟩ := rfl
theorem law21_shown : Fun Tryd.prog 28 [] (.t (.bool true)) := by
  have q0 : Que [⟨[.agg [.ex [], .t .nilm]], 2, false⟩] 0 none none [] [] := Que.new []
  have hv : ∀ H mv, ValF H 0 mv (.agg [.t (.int .u32 ((1#32 : U32).toNat : Int)), .ex [], .ex []]) s1 := fun H mv => ValF.agg H 0 mv (d := 1#32)
  obtain ⟨H1, r1, m1, l1, k1, g1, q1, f1, _, p1⟩ := q0.push (s := s1) (by decide) s1_ok (hv _ _)
  have hc0 : ([] : List ByteArray).contains (codeB s1) = false := rfl
  rw [hc0] at g1
  obtain ⟨hp1, rfl⟩ := p1 hc0
  have hl1 : l1 = [s1] := List.perm_singleton.1 hp1
  subst hl1
  obtain ⟨H2, r2, m2, l2, k2, g2, q2, f2, p2, _⟩ := q1.push (s := s1) (by decide) s1_ok (hv _ _)
  have hc : ([] ++ [codeB s1] : List ByteArray).contains (codeB s1) = true := by simp
  obtain ⟨rfl, rfl⟩ := p2 hc
  rw [hc] at g2
  obtain ⟨H3, r3, m3, l3, x, g3, q3, f3, hp3, _⟩ := q2.pop (by decide) (by decide)
  have hx : x = s1 ∧ l3 = [] := by
    have := List.perm_singleton.1 hp3
    simpa using this
  obtain ⟨rfl, rfl⟩ := hx
  have e1 := fun {K : Kv} => Que.fn g1 (by rfl) rfl (K := K)
  have e2 := fun {K : Kv} => Que.fn g2 (by rfl) rfl (K := K)
  have e3 := fun {K : Kv} => Que.fn g3 (by rfl) rfl (K := K)
  have e4 := fun {K : Kv} => Que.fn (que_Seen (q3.more [⟨[.t (enc s1)], 3, false⟩]).a) (by rfl) rfl (K := K)
  have e5 := fun {K : Kv} => Que.fn (que_Len (q3.more [⟨[.t (enc s1)], 3, false⟩]).a) (by rfl) rfl (K := K)
  refine Fun.go (b := false) Tryd.func28 rfl rfl (by kernel_rfl) (by kernel_rfl) ?_
  have hd : s1.d = 1#32 := rfl
  simp -implicitDefEqProofs (disch := first | exact dsch | (simp only [go_sem, e1, e2, e3, e4, e5, hd]; omega) | (refine of_eq_true ?_; simp (disch := first | omega | (refine of_eq_true ?_; simp only [go_sem, e1, e2, e3, e4, e5, hd]; done) | (simp only [go_sem, e1, e2, e3, e4, e5, hd]; omega)) only [go_sem, e1, e2, e3, e4, e5, hd]; done) | fail) only [go_sem, ↓reduceIte, Nat.reduceEqDiff, e1, e2, e3, e4, e5, hd]
@[go_sem] theorem pu_shown21 {K : Kp} : @Pu _ Tryd.prog 28 [] K = K.k (.t (.bool true)) := law21_shown.pu
end Go.Sim

set_option maxRecDepth 100000
namespace Go.Sim
open Enc (enc)
open Go.Proofs
theorem fewQ_iff {l : List Fs} : fewQ l = true ↔ l.length ≤ 100 ∧ ∀ x ∈ l, fewF x = true := by
  unfold fewQ; rw [Bool.and_eq_true, decide_eq_true_eq, List.all_eq_true]
theorem codeB_mem {l : List Fs} {ks : List ByteArray} (h : ∀ x ∈ l, codeB x ∈ ks) {x : Fs} (hx : x ∈ l) : ks.contains (codeB x) = true := List.contains_iff_mem.2 (h x hx)
theorem take_gdF {l : List Fs} {i : Nat} (h : i < l.length) {x : Fs} (hx : x ∈ l.take (i + 1)) : x ∈ l.take i ∨ x = gd l i := by
  rw [← take_gd h] at hx
  rcases List.mem_append.1 hx with hx | hx
  · exact .inl hx
  · exact .inr (List.mem_singleton.1 hx)
theorem queueRises_run (l : List Fs) (wl : ∀ x ∈ l, WfF x) : Fun Tryd.prog 9 [enc l] (.t (.bool true)) := by
  refine Fun.go (b := false) Tryd.func9 rfl rfl (by kernel_rfl) (by kernel_rfl) ?_
  cases hf : fewQ l
  · simp -implicitDefEqProofs (disch := first | exact dsch | fail) only [go_sem, ↓reduceIte, Nat.reduceEqDiff, hf]
  obtain ⟨hlen, hfew⟩ := fewQ_iff.1 hf
  have okq : ∀ x ∈ l, OkQ x := fun x hx => few_okQ (wl x hx) (hfew x hx)
  have q0 : Que [⟨[.agg [.ex [], .t .nilm]], 2, false⟩] 0 none none [] [] := Que.new []
  simp -implicitDefEqProofs (disch := first | exact dsch | (simp only [go_sem, hf]; omega) | (refine of_eq_true ?_; simp (disch := first | omega | (refine of_eq_true ?_; simp only [go_sem, hf]; done) | (simp only [go_sem, hf]; omega)) only [go_sem, hf]; done) | fail) only [go_sem, ↓reduceIte, Nat.reduceEqDiff, hf]
  refine loop_k (n := l.length) [0, 2, 3, 4] (by kernel_rfl) (fun i e H => e 6 = .t (.int .i64 i) ∧ ∃ rv mv m ks, Que H 0 rv mv m ks ∧ e 5 = .t (.int .i64 ks.length) ∧ m.length = ks.length ∧ ks.length ≤ i ∧ (∀ x ∈ l.take i, codeB x ∈ ks)) ?_ ?_
  · rintro i e H hi hk ⟨h6, rv, mv, m, ks, q, h5, hm, hki, hmem⟩
    simp only [keepP, go_sem, ↓reduceIte, Nat.reduceEqDiff, and_true] at hk
    by_cases hlt : i < l.length
    · have hgm := gd_mem hlt
      obtain ⟨H', rv', mv', m', ks', g, q', f, p1, p2⟩ := q.push (s := gd l i) (by omega) (okq _ hgm) (ValF.tree _ _ _ _)
      have e1 := fun {K : Kv} => Que.fn g (by rfl) rfl (K := K)
      cases hc : ks.contains (codeB (gd l i))
      · obtain ⟨hp, rfl⟩ := p2 hc
        rw [hc] at e1
        have hml : m'.length = (ks ++ [codeB (gd l i)]).length := by rw [hp.length_eq]; simp [hm]
        have hks : (ks ++ [codeB (gd l i)]).length = ks.length + 1 := by simp
        simp -implicitDefEqProofs (disch := first | exact dsch | (simp only [go_sem, hk, h6, h5, hlt, e1]; omega) | (refine of_eq_true ?_; simp (disch := first | omega | (refine of_eq_true ?_; simp only [go_sem, hk, h6, h5, hlt, e1]; done) | (simp only [go_sem, hk, h6, h5, hlt, e1]; omega)) only [go_sem, hk, h6, h5, hlt, e1]; done) | fail) only [go_sem, ↓reduceIte, Nat.reduceEqDiff, hk, h6, h5, hlt, e1]
        refine ⟨rv', mv', m', _, q', by rw [hks]; rfl, hml, by omega, fun x hx => ?_⟩
        rcases take_gdF hlt hx with hx | rfl
        · exact List.mem_append.2 (.inl (hmem x hx))
        · exact List.mem_append.2 (.inr (by simp))
      · obtain ⟨rfl, rfl⟩ := p1 hc
        rw [hc] at e1
        simp -implicitDefEqProofs (disch := first | exact dsch | (simp only [go_sem, hk, h6, h5, hlt, e1]; omega) | (refine of_eq_true ?_; simp (disch := first | omega | (refine of_eq_true ?_; simp only [go_sem, hk, h6, h5, hlt, e1]; done) | (simp only [go_sem, hk, h6, h5, hlt, e1]; omega)) only [go_sem, hk, h6, h5, hlt, e1]; done) | fail) only [go_sem, ↓reduceIte, Nat.reduceEqDiff, hk, h6, h5, hlt, e1]
        refine ⟨rv', mv', _, _, q', rfl, hm, by omega, fun x hx => ?_⟩
        rcases take_gdF hlt hx with hx | rfl
        · exact hmem x hx
        · exact List.contains_iff_mem.1 hc
    · obtain rfl : i = l.length := by omega
      rw [List.take_length] at hmem
      have q2 := q.more [⟨[.agg [.t (.int .u32 0), .ex [], .ex []]], 3, false⟩]
      have hL0 : H.length ≠ 0 := by have := at_lt q.a.qo; omega
      have hLr : rv ≠ some H.length := fun e => by have := at_lt (q.a.rows _ e).1; omega
      have hLm : mv ≠ some H.length := fun e => by have := at_lt (q.a.seen _ e).1; omega
      have hLe : (H ++ [⟨[.agg [.t (.int .u32 0), .ex [], .ex []]], 3, false⟩])[H.length]? = some ⟨[.agg [.t (.int .u32 0), .ex [], .ex []]], 3, false⟩ := at_end
      obtain ⟨L, hLL⟩ : ∃ L, L = H.length := ⟨_, rfl⟩
      obtain ⟨n, hn⟩ : ∃ n, n = ks.length := ⟨_, rfl⟩
      rw [← hn] at h5 hm
      simp -implicitDefEqProofs (disch := first | exact dsch | (simp only [go_sem, hk, h6, h5, at_end, set_end]; omega) | (refine of_eq_true ?_; simp (disch := first | omega | (refine of_eq_true ?_; simp only [go_sem, hk, h6, h5, at_end, set_end]; done) | (simp only [go_sem, hk, h6, h5, at_end, set_end]; omega)) only [go_sem, hk, h6, h5, at_end, set_end]; done) | fail) only [go_sem, ↓reduceIte, Nat.reduceEqDiff, hk, h6, h5, at_end, set_end]
      refine loop_k (n := n) [0, 3, 4, 5, 7] (by kernel_rfl) (fun i e H => e 8 = .t (.int .i64 i) ∧ ∃ rv mv m xv, Que H 0 rv mv m ks ∧ H[L]? = some ⟨[xv], 3, false⟩ ∧ rv ≠ some L ∧ mv ≠ some L ∧ m.length + i = n ∧ (0 < i → ∃ x, xv = .t (enc x) ∧ OkF x ∧ ∀ y ∈ m, lessB x y = true)) ?_ ?_
      · rintro i e H hi hk2 ⟨h8, rv, mv, m, xv, q, hL, hLr, hLm, hm, hx⟩
        simp only [keepP, go_sem, ↓reduceIte, Nat.reduceEqDiff, and_true] at hk2
        have hL0 : L ≠ 0 := by omega
        by_cases hlt : i < n
        · obtain ⟨H', rv', mv', m', x, g, q', f, hp, hmin⟩ := q.pop (by omega) (by omega)
          have e1 := fun {K : Kv} => Que.fn g (by rfl) rfl (K := K)
          have hL' : H'[L]? = some ⟨[xv], 3, false⟩ := by rw [f.keep L (at_lt hL) hL0 hLr hLm]; exact hL
          have hlt' := at_lt hL'
          have hLr' : rv' ≠ some L := by
            rcases f.rown with e | ⟨r, hr, e⟩ <;> rw [e]
            · exact hLr
            · intro e'; cases e'; have := at_lt hL; omega
          have hLm' : mv' ≠ some L := by
            rcases f.mown with e | ⟨r, hr, e⟩ <;> rw [e]
            · exact hLm
            · intro e'; cases e'; have := at_lt hL; omega
          have hxm : x ∈ m := hp.mem_iff.1 (by simp)
          have okx := q.okF x hxm
          have hm' : m'.length + (i + 1) = n := by have := hp.length_eq; simp at this; omega
          have hless : ∀ y ∈ m', lessB x y = true := by
            intro y hy
            have hym : y ∈ m := hp.mem_iff.1 (List.mem_cons_of_mem _ hy)
            have hne : x ≠ y := by
              have := hp.nodup_iff.2 q.nd
              intro e; exact (List.nodup_cons.1 this).1 (by rw [e]; exact hy)
            rcases less_tri x y with h | h | h
            · exact h
            · exact absurd h hne
            · rw [hmin y hym] at h; cases h
          have q3 := (q'.other (id := L) ⟨[.t (enc x)], 3, false⟩ hL0 hLr' hLm').more [⟨[.t (enc x)], 3, false⟩]
          by_cases hi0 : i = 0
          · subst hi0
            simp -implicitDefEqProofs (disch := first | exact dsch | (simp only [go_sem, hk2, hk, h5, ← hLL, h8, hlt, e1, at_app, at_end, set_end, set_app, hL', hlt', set_at, at_endS, List.append_assoc, List.cons_append, List.nil_append]; omega) | (refine of_eq_true ?_; simp (disch := first | omega | (refine of_eq_true ?_; simp only [go_sem, hk2, hk, h5, ← hLL, h8, hlt, e1, at_app, at_end, set_end, set_app, hL', hlt', set_at, at_endS, List.append_assoc, List.cons_append, List.nil_append]; done) | (simp only [go_sem, hk2, hk, h5, ← hLL, h8, hlt, e1, at_app, at_end, set_end, set_app, hL', hlt', set_at, at_endS, List.append_assoc, List.cons_append, List.nil_append]; omega)) only [go_sem, hk2, hk, h5, ← hLL, h8, hlt, e1, at_app, at_end, set_end, set_app, hL', hlt', set_at, at_endS, List.append_assoc, List.cons_append, List.nil_append]; done) | fail) only [go_sem, ↓reduceIte, Nat.reduceEqDiff, hk2, hk, h5, ← hLL, h8, hlt, e1, at_app, at_end, set_end, set_app, hL', hlt', set_at, at_endS, List.append_assoc, List.cons_append, List.nil_append]
            exact ⟨_, _, _, _, q3, rfl, hLr', hLm', hm', fun _ => ⟨x, rfl, okx, hless⟩⟩
          · have hi0' : (i : Int) > 0 := by omega
            obtain ⟨y, rfl, oky, hly⟩ := hx (by omega)
            have hlx := hly x hxm
            simp -implicitDefEqProofs (disch := first | exact dsch | (simp only [go_sem, hk2, hk, h5, ← hLL, h8, hlt, hi0', e1, okx, oky, hlx, at_app, at_end, set_end, set_app, hL', hlt', set_at, at_endS, List.append_assoc, List.cons_append, List.nil_append]; omega) | (refine of_eq_true ?_; simp (disch := first | omega | (refine of_eq_true ?_; simp only [go_sem, hk2, hk, h5, ← hLL, h8, hlt, hi0', e1, okx, oky, hlx, at_app, at_end, set_end, set_app, hL', hlt', set_at, at_endS, List.append_assoc, List.cons_append, List.nil_append]; done) | (simp only [go_sem, hk2, hk, h5, ← hLL, h8, hlt, hi0', e1, okx, oky, hlx, at_app, at_end, set_end, set_app, hL', hlt', set_at, at_endS, List.append_assoc, List.cons_append, List.nil_append]; omega)) only [go_sem, hk2, hk, h5, ← hLL, h8, hlt, hi0', e1, okx, oky, hlx, at_app, at_end, set_end, set_app, hL', hlt', set_at, at_endS, List.append_assoc, List.cons_append, List.nil_append]; done) | fail) only [go_sem, ↓reduceIte, Nat.reduceEqDiff, hk2, hk, h5, ← hLL, h8, hlt, hi0', e1, okx, oky, hlx, at_app, at_end, set_end, set_app, hL', hlt', set_at, at_endS, List.append_assoc, List.cons_append, List.nil_append]
            exact ⟨_, _, _, _, q3, rfl, hLr', hLm', hm', fun _ => ⟨x, rfl, okx, hless⟩⟩
        · obtain rfl : i = n := by omega
          have hm0 : m = [] := List.length_eq_zero_iff.1 (by omega)
          subst hm0
          have g := q.pop0
          have e1 := fun {K : Kv} => Que.fn g (by rfl) rfl (K := K)
          have q2 := q.more [⟨[.agg [.t (.int .u32 0), .ex [], .ex []]], 3, false⟩, ⟨[.agg [.t (.int .u32 0), .ex [], .ex []]], 3, false⟩]
          simp -implicitDefEqProofs (disch := first | exact dsch | (simp only [go_sem, hk2, hk, h5, ← hLL, h8, e1, at_end, at_end1, set_end, set_end1, List.append_assoc, List.cons_append, List.nil_append]; omega) | (refine of_eq_true ?_; simp (disch := first | omega | (refine of_eq_true ?_; simp only [go_sem, hk2, hk, h5, ← hLL, h8, e1, at_end, at_end1, set_end, set_end1, List.append_assoc, List.cons_append, List.nil_append]; done) | (simp only [go_sem, hk2, hk, h5, ← hLL, h8, e1, at_end, at_end1, set_end, set_end1, List.append_assoc, List.cons_append, List.nil_append]; omega)) only [go_sem, hk2, hk, h5, ← hLL, h8, e1, at_end, at_end1, set_end, set_end1, List.append_assoc, List.cons_append, List.nil_append]; done) | fail) only [go_sem, ↓reduceIte, Nat.reduceEqDiff, hk2, hk, h5, ← hLL, h8, e1, at_end, at_end1, set_end, set_end1, List.append_assoc, List.cons_append, List.nil_append]
          refine loop_k (n := l.length) [0, 3, 4, 5, 12] (by kernel_rfl) (fun i e H => e 13 = .t (.int .i64 i) ∧ ∃ rv mv, Que H 0 rv mv [] ks) ?_ ?_
          · rintro j e H hj hk3 ⟨h13, rv, mv, q⟩
            simp only [keepP, go_sem, ↓reduceIte, Nat.reduceEqDiff, and_true] at hk3
            by_cases hlt : j < l.length
            · obtain ⟨H', rv', mv', m', ks', g, q', f, p1, p2⟩ := q.push (s := gd l j) (by simp) (okq _ (gd_mem hlt)) (ValF.tree _ _ _ _)
              have hc := codeB_mem hmem (gd_mem hlt)
              obtain ⟨rfl, rfl⟩ := p1 hc
              rw [hc] at g
              have e1 := fun {K : Kv} => Que.fn g (by rfl) rfl (K := K)
              simp -implicitDefEqProofs (disch := first | exact dsch | (simp only [go_sem, hk3, hk2, hk, h5, h13, hlt, e1]; omega) | (refine of_eq_true ?_; simp (disch := first | omega | (refine of_eq_true ?_; simp only [go_sem, hk3, hk2, hk, h5, h13, hlt, e1]; done) | (simp only [go_sem, hk3, hk2, hk, h5, h13, hlt, e1]; omega)) only [go_sem, hk3, hk2, hk, h5, h13, hlt, e1]; done) | fail) only [go_sem, ↓reduceIte, Nat.reduceEqDiff, hk3, hk2, hk, h5, h13, hlt, e1]
              exact ⟨_, _, q'⟩
            · obtain rfl : j = l.length := by omega
              have e1 := fun {K : Kv} => Que.fn (que_Seen q.a) (by rfl) rfl (K := K)
              have e2 := fun {K : Kv} => Que.fn (que_Len q.a) (by rfl) rfl (K := K)
              simp -implicitDefEqProofs (disch := first | exact dsch | (simp only [go_sem, hk3, hk2, hk, h5, h13, e1, e2, hn]; omega) | (refine of_eq_true ?_; simp (disch := first | omega | (refine of_eq_true ?_; simp only [go_sem, hk3, hk2, hk, h5, h13, e1, e2, hn]; done) | (simp only [go_sem, hk3, hk2, hk, h5, h13, e1, e2, hn]; omega)) only [go_sem, hk3, hk2, hk, h5, h13, e1, e2, hn]; done) | fail) only [go_sem, ↓reduceIte, Nat.reduceEqDiff, hk3, hk2, hk, h5, h13, e1, e2, hn]
          · exact ⟨rfl, _, _, q2⟩
      · exact ⟨rfl, rv, mv, m, _, q2, by rw [hLL]; exact hLe, by rw [hLL]; exact hLr, by rw [hLL]; exact hLm, hm, fun h => by omega⟩
  · exact ⟨rfl, none, none, [], [], q0, rfl, rfl, Nat.le_refl _, fun x hx => by simp at hx⟩
end Go.Sim
