/- A part of the proof of a law of module cupola: Q13. It has no conditions of its own. -/
import Derived.Test.YtkfceeaokfdmfaaGreatDoorQuE
set_option linter.all false
set_option maxRecDepth 100000
namespace Go.Sim
open Enc (enc)
open Go.Proofs
structure Dj (q : Nat) (rv mv : Option Nat) (q2 : Nat) (rv2 mv2 : Option Nat) : Prop where
  ne : q ≠ q2
  rq : rv ≠ some q2
  mq : mv ≠ some q2
  rr : ∀ r, rv2 = some r → r ≠ q ∧ rv ≠ some r ∧ mv ≠ some r
  mm : ∀ m, mv2 = some m → m ≠ q ∧ rv ≠ some m ∧ mv ≠ some m
theorem Dj.symm {q q2 : Nat} {rv mv rv2 mv2 : Option Nat} (d : Dj q rv mv q2 rv2 mv2) : Dj q2 rv2 mv2 q rv mv where
  ne := Ne.symm d.ne
  rq := fun e => (d.rr _ e).1 rfl
  mq := fun e => (d.mm _ e).1 rfl
  rr := fun r hr => ⟨fun e => d.rq (by rw [hr, e]), fun e => (d.rr _ e).2.1 hr, fun e => (d.mm _ e).2.1 hr⟩
  mm := fun m hm => ⟨fun e => d.mq (by rw [hm, e]), fun e => (d.rr _ e).2.2 hm, fun e => (d.mm _ e).2.2 hm⟩
theorem Que.keep {H H' : Heap} {q q2 : Nat} {rv mv rv' mv' rv2 mv2 : Option Nat} {l : List Fs} {ks : List ByteArray} (h : Que H q2 rv2 mv2 l ks) (f : Fram H H' q rv mv rv' mv') (d : Dj q rv mv q2 rv2 mv2) : Que H' q2 rv2 mv2 l ks ∧ Dj q rv' mv' q2 rv2 mv2 := by
  have hq := at_lt h.a.qo
  refine ⟨⟨⟨by rw [f.keep q2 hq (Ne.symm d.ne) d.rq d.mq]; exact h.a.qo, fun r hr => ?_, h.a.rows0, fun m hm => ?_, h.a.seen0⟩, h.hp, h.ok, h.mem, h.nd⟩, d.ne, ?_, ?_, fun r hr => ?_, fun m hm => ?_⟩
  · obtain ⟨h1, h2⟩ := h.a.rows r hr
    obtain ⟨d1, d2, d3⟩ := d.rr r hr
    exact ⟨by rw [f.keep r (at_lt h1) d1 d2 d3]; exact h1, h2⟩
  · obtain ⟨h1, h2, h3⟩ := h.a.seen m hm
    obtain ⟨d1, d2, d3⟩ := d.mm m hm
    exact ⟨by rw [f.keep m (at_lt h1) d1 d2 d3]; exact h1, h2, h3⟩
  · rcases f.rown with e | ⟨x, hx, e⟩ <;> rw [e]
    · exact d.rq
    · intro e'; cases e'; omega
  · rcases f.mown with e | ⟨x, hx, e⟩ <;> rw [e]
    · exact d.mq
    · intro e'; cases e'; omega
  · obtain ⟨d1, d2, d3⟩ := d.rr r hr
    have hl := at_lt (h.a.rows r hr).1
    refine ⟨d1, ?_, ?_⟩
    · rcases f.rown with e | ⟨x, hx, e⟩ <;> rw [e]
      · exact d2
      · intro e'; cases e'; omega
    · rcases f.mown with e | ⟨x, hx, e⟩ <;> rw [e]
      · exact d3
      · intro e'; cases e'; omega
  · obtain ⟨d1, d2, d3⟩ := d.mm m hm
    have hl := at_lt (h.a.seen m hm).1
    refine ⟨d1, ?_, ?_⟩
    · rcases f.rown with e | ⟨x, hx, e⟩ <;> rw [e]
      · exact d2
      · intro e'; cases e'; omega
    · rcases f.mown with e | ⟨x, hx, e⟩ <;> rw [e]
      · exact d3
      · intro e'; cases e'; omega
theorem push_mem {m m' : List Fs} {ks ks' : List ByteArray} {s : Fs} (hm : ∀ c ∈ ks, ∃ x ∈ m, codeB x = c)
    (p1 : ks.contains (codeB s) = true → m' = m ∧ ks' = ks) (p2 : ks.contains (codeB s) = false → m'.Perm (m ++ [s]) ∧ ks' = ks ++ [codeB s]) :
    (∀ c ∈ ks', ∃ x ∈ m', codeB x = c) ∧ (∀ x, x ∈ m' ↔ x ∈ m ∨ x = s) ∧ (m.length = ks.length → m'.length = ks'.length) ∧ m'.length ≤ m.length + 1 := by
  cases hc : ks.contains (codeB s)
  · obtain ⟨h1, h2⟩ := p2 hc
    have hmem : ∀ x, x ∈ m' ↔ x ∈ m ∨ x = s := fun x => by rw [h1.mem_iff]; simp
    have hl := h1.length_eq
    simp at hl
    refine ⟨fun c hcm => ?_, hmem, fun e => by rw [h2]; simp; omega, by omega⟩
    rw [h2] at hcm
    rcases List.mem_append.1 hcm with h | h
    · obtain ⟨x, hx, e⟩ := hm c h
      exact ⟨x, (hmem x).2 (.inl hx), e⟩
    · exact ⟨s, (hmem s).2 (.inr rfl), (List.mem_singleton.1 h).symm⟩
  · obtain ⟨h1, h2⟩ := p1 hc
    subst h1 h2
    refine ⟨hm, fun x => ⟨.inl, fun h => h.elim id fun e => ?_⟩, id, by omega⟩
    subst e; exact code_in hm hc
theorem queueTwice_run (l : List Fs) (wl : ∀ x ∈ l, WfF x) (by_ : Int) (hby : 0 ≤ by_ ∧ by_ ≤ 255) : Fun Tryz.prog 5 [enc l, .int .u8 by_] (.t (.bool true)) := by
  refine Fun.go (b := false) Tryz.func5 rfl rfl (by kernel_rfl) (by kernel_rfl) ?_
  cases hf : fewQ l
  · simp -implicitDefEqProofs (disch := first | exact dsch | fail) only [go_sem, ↓reduceIte, Nat.reduceEqDiff, hf]
  obtain ⟨hlen, hfew⟩ := fewQ_iff.1 hf
  by_cases hl0 : l.length = 0
  · have hl0' : (l.length : Int) = 0 := by omega
    simp -implicitDefEqProofs (disch := first | exact dsch | fail) only [go_sem, ↓reduceIte, Nat.reduceEqDiff, hf, hl0, hl0']
  obtain ⟨b, rfl⟩ := Int.eq_ofNat_of_zero_le hby.1
  obtain ⟨n, hn⟩ : ∃ n, n = l.length := ⟨_, rfl⟩
  have hn0 : 0 < n := by omega
  obtain ⟨k, hk0⟩ : ∃ k, k = b % n := ⟨_, rfl⟩
  have hkn : k < n := by rw [hk0]; exact Nat.mod_lt _ hn0
  have hl0' : ¬ (l.length : Int) = 0 := by omega
  have okq : ∀ x ∈ l, OkQ x := fun x hx => few_okQ (wl x hx) (hfew x hx)
  have hw8 : IntKind.i64.wrap (b : Int) = b := wrap_i64 (by omega) (by omega)
  have hrem0 : (b : Int).tmod (l.length : Int) = (k : Int) := by
    rw [← hn, hk0, Int.tmod_eq_emod_of_nonneg (by omega)]
    simp
  simp -implicitDefEqProofs (disch := first | exact dsch | (simp only [go_sem, hf, hl0, hl0', hw8, hrem0, binT_rem (show (l.length : Int) ≠ 0 from hl0')]; omega) | (refine of_eq_true ?_; simp (disch := first | omega | (refine of_eq_true ?_; simp only [go_sem, hf, hl0, hl0', hw8, hrem0, binT_rem (show (l.length : Int) ≠ 0 from hl0')]; done) | (simp only [go_sem, hf, hl0, hl0', hw8, hrem0, binT_rem (show (l.length : Int) ≠ 0 from hl0')]; omega)) only [go_sem, hf, hl0, hl0', hw8, hrem0, binT_rem (show (l.length : Int) ≠ 0 from hl0')]; done) | fail) only [go_sem, ↓reduceIte, Nat.reduceEqDiff, hf, hl0, hl0', hw8, hrem0, binT_rem (show (l.length : Int) ≠ 0 from hl0')]
  have q0 : Que [⟨[.agg [.ex [], .t .nilm]], 2, false⟩, ⟨[.agg [.ex [], .t .nilm]], 2, false⟩] 0 none none [] [] := (Que.new []).more [⟨[.agg [.ex [], .t .nilm]], 2, false⟩]
  have q0' : Que [⟨[.agg [.ex [], .t .nilm]], 2, false⟩, ⟨[.agg [.ex [], .t .nilm]], 2, false⟩] 1 none none [] [] := Que.new [⟨[.agg [.ex [], .t .nilm]], 2, false⟩]
  refine loop_k (n := l.length) [0, 4, 5, 6, 7, 8] (by kernel_rfl) (fun i e H => e 9 = .t (.int .i64 i) ∧ ∃ rv mv m ks rv2 mv2 m2 ks2, Que H 0 rv mv m ks ∧ Que H 1 rv2 mv2 m2 ks2 ∧ Dj 0 rv mv 1 rv2 mv2 ∧ m.length = ks.length ∧ m.length ≤ i ∧ m2.length ≤ i ∧ (∀ c ∈ ks, ∃ x ∈ m, codeB x = c) ∧ (∀ c ∈ ks2, ∃ x ∈ m2, codeB x = c) ∧ (∀ x, x ∈ m ↔ x ∈ l.take i) ∧ (∀ x, x ∈ m2 ↔ ∃ j, j < i ∧ x = gd l (n - 1 - (j + k) % n))) ?_ ?_
  · rintro i e H hi hk ⟨h9, rv, mv, m, ks, rv2, mv2, m2, ks2, q, q2, dj, hmk, hmi, hmi2, hcm, hcm2, hmem, hmem2⟩
    simp only [keepP, go_sem, ↓reduceIte, Nat.reduceEqDiff, and_true] at hk
    by_cases hlt : i < l.length
    · have hgm := gd_mem hlt
      obtain ⟨H1, rv1, mv1, m1, ks1, g1, qa, f1, p1, p2⟩ := q.push (s := gd l i) (by omega) (okq _ hgm) (ValF.tree _ _ _ _)
      obtain ⟨qb, dj1⟩ := q2.keep f1 dj
      have hjn : n - 1 - (i + k) % n < l.length := by omega
      have hgm2 := gd_mem hjn
      obtain ⟨H2, rv3, mv3, m3, ks3, g2, qc, f2, p3, p4⟩ := qb.push (s := gd l (n - 1 - (i + k) % n)) (by omega) (okq _ hgm2) (ValF.tree _ _ _ _)
      obtain ⟨qd, dj2⟩ := qa.keep f2 dj1.symm
      have e1 := fun {K : Kv} => Que.fn g1 (by rfl) rfl (K := K)
      have e2 := fun {K : Kv} => Que.fn g2 (by rfl) rfl (K := K)
      obtain ⟨a1, a2, a3, a4⟩ := push_mem hcm p1 p2
      obtain ⟨b1, b2, b3, b4⟩ := push_mem hcm2 p3 p4
      have hs1 : IntKind.i64.wrap ((i : Int) + (k : Int)) = ((i + k : Nat) : Int) := by rw [wrap_i64 (by omega) (by omega)]; omega
      have hs2' : ((i : Int) + (k : Int)).tmod (l.length : Int) = (((i + k) % n : Nat) : Int) := by
        rw [← hn, Int.tmod_eq_emod_of_nonneg (by omega)]
        simp
      have hs2 : ((i + k : Nat) : Int).tmod (l.length : Int) = (((i + k) % n : Nat) : Int) := by
        rw [← hn, Int.tmod_eq_emod_of_nonneg (by omega)]
        simp
      have hs3 : IntKind.i64.wrap ((l.length : Int) - 1) = ((n - 1 : Nat) : Int) := by rw [wrap_i64 (by omega) (by omega)]; omega
      have hs4 : IntKind.i64.wrap (((n - 1 : Nat) : Int) - (((i + k) % n : Nat) : Int)) = ((n - 1 - (i + k) % n : Nat) : Int) := by
        have hlt' := Nat.mod_lt (i + k) hn0
        rw [wrap_i64 (by omega) (by omega)]; omega
      simp -implicitDefEqProofs (disch := first | exact dsch | (simp only [go_sem, hk, h9, hlt, e1, e2, hrem0, hs1, hs2, hs2', hs3, hs4, hjn, binT_rem (show (l.length : Int) ≠ 0 from hl0')]; omega) | (refine of_eq_true ?_; simp (disch := first | omega | (refine of_eq_true ?_; simp only [go_sem, hk, h9, hlt, e1, e2, hrem0, hs1, hs2, hs2', hs3, hs4, hjn, binT_rem (show (l.length : Int) ≠ 0 from hl0')]; done) | (simp only [go_sem, hk, h9, hlt, e1, e2, hrem0, hs1, hs2, hs2', hs3, hs4, hjn, binT_rem (show (l.length : Int) ≠ 0 from hl0')]; omega)) only [go_sem, hk, h9, hlt, e1, e2, hrem0, hs1, hs2, hs2', hs3, hs4, hjn, binT_rem (show (l.length : Int) ≠ 0 from hl0')]; done) | fail) only [go_sem, ↓reduceIte, Nat.reduceEqDiff, hk, h9, hlt, e1, e2, hrem0, hs1, hs2, hs2', hs3, hs4, hjn, binT_rem (show (l.length : Int) ≠ 0 from hl0')]
      refine ⟨_, _, _, _, _, _, _, _, qd, qc, dj2.symm, a3 hmk, by omega, by omega, a1, b1, fun x => ?_, fun x => ?_⟩
      · rw [a2, hmem, ← take_gd hlt]; simp
      · rw [b2, hmem2]
        constructor
        · rintro (⟨j, hj, rfl⟩ | rfl)
          · exact ⟨j, by omega, rfl⟩
          · exact ⟨i, by omega, rfl⟩
        · rintro ⟨j, hj, rfl⟩
          by_cases e : j = i
          · subst e; exact .inr rfl
          · exact .inl ⟨j, by omega, rfl⟩
    · obtain rfl : i = l.length := by omega
      have hpm : m.Perm m2 := by
        rw [List.perm_ext_iff_of_nodup q.nd q2.nd]
        intro x
        rw [hmem, hmem2, List.take_length, ← hn]
        constructor
        · intro hx
          obtain ⟨t, ht, rfl⟩ := List.mem_iff_getElem.1 hx
          obtain ⟨j, hj, ej⟩ := turn_onto (n := n) (k := k) (j := t) (by omega)
          exact ⟨j, hj, by rw [ej, gd_get ht]⟩
        · rintro ⟨j, hj, rfl⟩
          exact gd_mem (by omega)
      have hlm : m2.length = m.length := hpm.length_eq.symm
      obtain ⟨c, hc⟩ : ∃ c, c = m.length := ⟨_, rfl⟩
      have e1 := fun {K : Kv} => Que.fn (que_Len q.a) (by rfl) rfl (K := K)
      have e2 := fun {K : Kv} => Que.fn (que_Len q2.a) (by rfl) rfl (K := K)
      rw [← hc] at e1
      rw [hlm, ← hc] at e2
      rw [← hc] at hmk
      simp -implicitDefEqProofs (disch := first | exact dsch | (simp only [go_sem, hk, h9, e1, e2]; omega) | (refine of_eq_true ?_; simp (disch := first | omega | (refine of_eq_true ?_; simp only [go_sem, hk, h9, e1, e2]; done) | (simp only [go_sem, hk, h9, e1, e2]; omega)) only [go_sem, hk, h9, e1, e2]; done) | fail) only [go_sem, ↓reduceIte, Nat.reduceEqDiff, hk, h9, e1, e2]
      refine loop_k (n := c) [5, 6, 7, 10] (by kernel_rfl) (fun i e H => e 11 = .t (.int .i64 i) ∧ ∃ rv mv m rv2 mv2 m2, Que H 0 rv mv m ks ∧ Que H 1 rv2 mv2 m2 ks2 ∧ Dj 0 rv mv 1 rv2 mv2 ∧ m.Perm m2 ∧ m.length + i = c) ?_ ?_
      · rintro i e H hi hk2 ⟨h11, rv, mv, m, rv2, mv2, m2, q, q2, dj, hpm, hmc⟩
        simp only [keepP, go_sem, ↓reduceIte, Nat.reduceEqDiff, and_true] at hk2
        by_cases hlt : i < c
        · obtain ⟨H1, rv1, mv1, m1, x, g1, qa, f1, hp1, hm1⟩ := q.pop (by omega) (by omega)
          obtain ⟨qb, dj1⟩ := q2.keep f1 dj
          have hqb := qb.more [⟨[.t (enc x)], 3, false⟩]
          have hl2 : m2.length = m.length := hpm.length_eq.symm
          obtain ⟨H2, rv3, mv3, m3, y, g2, qc, f2, hp2, hm2⟩ := hqb.pop (by omega) (by omega)
          obtain ⟨qd, dj2⟩ := (qa.more [⟨[.t (enc x)], 3, false⟩]).keep f2 dj1.symm
          obtain ⟨rfl, hpm'⟩ := min_same hpm hp1 hm1 hp2 hm2
          have hxm : x ∈ m := hp1.mem_iff.1 (by simp)
          have okx := q.ok x hxm
          have lex := okx.ok.le
          have hsame : sameF x x = true := sameF_iff.2 rfl
          have e1 := fun {K : Kv} => Que.fn g1 (by rfl) rfl (K := K)
          have e2 := fun {K : Kv} => Que.fn g2 (by rfl) rfl (K := K)
          have qe := qd.more [⟨[.t (enc x)], 3, false⟩]
          obtain ⟨H3, rv4, mv4, m4, ks4, g3, qf, f3, p1, p2⟩ := qe.push (s := x) (by have := hp1.length_eq; simp at this; omega) okx (ValF.tree _ _ _ _)
          have hcx : ks.contains (codeB x) = true := List.contains_iff_mem.2 (q.mem x hxm)
          obtain ⟨rfl, rfl⟩ := p1 hcx
          rw [hcx] at g3
          have e3 := fun {K : Kv} => Que.fn g3 (by rfl) rfl (K := K)
          obtain ⟨qg, dj3⟩ := (qc.more [⟨[.t (enc x)], 3, false⟩]).keep f3 dj2.symm
          have hl1 : H1.length < H2.length := by have := f2.len; simp at this; omega
          have hb : H2[H1.length]? = some ⟨[.t (enc x)], 3, false⟩ := by
            have h0 : (H1 ++ [⟨[.t (enc x)], 3, false⟩])[H1.length]? = some ⟨[.t (enc x)], 3, false⟩ := at_end
            rw [f2.keep H1.length (at_lt h0) ?_ ?_ ?_]
            · exact h0
            · have := at_lt qb.a.qo; omega
            · intro e; have := at_lt (qb.a.rows _ e).1; omega
            · intro e; have := at_lt (qb.a.seen _ e).1; omega
          simp -implicitDefEqProofs (disch := first | exact dsch | (simp only [go_sem, hk2, hk, h11, hlt, e1, e2, e3, at_app, at_end, set_end, set_app, hb, hl1, lex, hsame, List.length_set, set_at, List.append_assoc, List.cons_append, List.nil_append]; omega) | (refine of_eq_true ?_; simp (disch := first | omega | (refine of_eq_true ?_; simp only [go_sem, hk2, hk, h11, hlt, e1, e2, e3, at_app, at_end, set_end, set_app, hb, hl1, lex, hsame, List.length_set, set_at, List.append_assoc, List.cons_append, List.nil_append]; done) | (simp only [go_sem, hk2, hk, h11, hlt, e1, e2, e3, at_app, at_end, set_end, set_app, hb, hl1, lex, hsame, List.length_set, set_at, List.append_assoc, List.cons_append, List.nil_append]; omega)) only [go_sem, hk2, hk, h11, hlt, e1, e2, e3, at_app, at_end, set_end, set_app, hb, hl1, lex, hsame, List.length_set, set_at, List.append_assoc, List.cons_append, List.nil_append]; done) | fail) only [go_sem, ↓reduceIte, Nat.reduceEqDiff, hk2, hk, h11, hlt, e1, e2, e3, at_app, at_end, set_end, set_app, hb, hl1, lex, hsame, List.length_set, set_at, List.append_assoc, List.cons_append, List.nil_append]
          exact ⟨_, _, _, _, _, _, qf, qg, dj3, hpm', by have := hp1.length_eq; simp at this; omega⟩
        · obtain rfl : i = c := by omega
          have hm0 : m = [] := List.length_eq_zero_iff.1 (by omega)
          subst hm0
          have e1 := fun {K : Kv} => Que.fn (que_Len q.a) (by rfl) rfl (K := K)
          have e2 := fun {K : Kv} => Que.fn (que_Seen q.a) (by rfl) rfl (K := K)
          rw [← hmk] at e2
          simp -implicitDefEqProofs (disch := first | exact dsch | (simp only [go_sem, hk2, hk, h11, e1, e2]; omega) | (refine of_eq_true ?_; simp (disch := first | omega | (refine of_eq_true ?_; simp only [go_sem, hk2, hk, h11, e1, e2]; done) | (simp only [go_sem, hk2, hk, h11, e1, e2]; omega)) only [go_sem, hk2, hk, h11, e1, e2]; done) | fail) only [go_sem, ↓reduceIte, Nat.reduceEqDiff, hk2, hk, h11, e1, e2]
      · exact ⟨rfl, _, _, _, _, _, _, q, q2, dj, hpm, hc.symm⟩
  · exact ⟨rfl, none, none, [], [], none, none, [], [], q0, q0', ⟨by decide, by simp, by simp, fun r h => (by cases h), fun r h => (by cases h)⟩, rfl, Nat.le_refl _, Nat.le_refl _, fun c h => (by cases h), fun c h => (by cases h), fun x => by simp, fun x => by simp⟩
end Go.Sim
