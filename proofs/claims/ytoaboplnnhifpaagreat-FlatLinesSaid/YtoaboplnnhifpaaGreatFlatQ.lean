/- A part of the proof of a law of module cupola: FlatQ. It has no conditions of its own. -/
import Derived.Test.YtoaboplnnhifpaaGreatFlatO
set_option linter.all false
set_option maxRecDepth 100000
namespace Go.Sim
open Enc (enc)
open Go.Proofs

set_option maxHeartbeats 8000000 in
theorem flatLines_run (t : Te) {a : Int} (ha : 0 ≤ a ∧ a < 65536) (picks : List U8) : Fun Tryz.prog 4 [enc t, .int .u16 a, enc picks] (.t (.bool true)) := by
  refine Fun.go (b := false) Tryz.func4 rfl rfl (by kernel_rfl) (by kernel_rfl) ?_
  cases hf : fewB t
  · simp -implicitDefEqProofs (disch := first | exact dsch | fail) only [go_sem, ↓reduceIte, Nat.reduceEqDiff, hf]
  obtain ⟨f1, f2, f3⟩ := few_len hf
  obtain ⟨u, hw, hu⟩ := law19_one t hf ha
  have hwp := fun K => hw.pu (K := K)
  rcases hu with ⟨x, rfl⟩ | ⟨x, hx, he, rfl⟩
  · simp -implicitDefEqProofs (disch := first | exact dsch | fail) only [go_sem, ↓reduceIte, Nat.reduceEqDiff, hf, hwp]
  obtain ⟨W, _⟩ := all_wf hx
  have hok := W.ok
  have hn := W.n
  have hst := fun K => pu_Start (x := x) (init := t.init) (by omega) (by omega) (K := K)
  simp -implicitDefEqProofs (disch := first | exact dsch | fail) only [go_sem, ↓reduceIte, Nat.reduceEqDiff, hf, hwp, hst]
  refine loop_k (n := 30) [2, 3, 6, 7, 8, 10] (by kernel_rfl) (fun i e H => e 11 = .t (.int .i64 i) ∧ ∃ h s R, FRun x t.init h s ∧ H = ⟨[.t (enc t)], 2, false⟩ :: ⟨[.t (enc x)], 7, false⟩ :: ⟨[.t (enc s)], 3, false⟩ :: R) ?_ ?_
  · rintro i e H hi hk ⟨hct, h, s, R, r, rfl⟩
    simp only [keepP, go_sem, ↓reduceIte, Nat.reduceEqDiff, and_true] at hk
    have I := run_inv W rfl r
    have B := bd_inv W (by omega) I
    have hnx := fun K => (flat_Next W B).pu (K := K)
    by_cases hlt : i < picks.length
    · by_cases hlt2 : i < 30
      · by_cases hz : (movesR x t.init s).length = 0
        · skip
          have hll2 := B.l
          have hfl := B.f
          have hrb := B.r
          simp -implicitDefEqProofs (disch := first | exact dsch | fail) only [go_sem, ↓reduceIte, Nat.reduceEqDiff, hk, hct, gx0, gxk, sx0, sxk, List.append_assoc, hnx, hz]
          refine loop_k (n := t.init.length) [3, 7, 8, 10] (by kernel_rfl) (fun i e H => e 15 = .t (.int .i64 i) ∧ ∃ v, e 14 = v ∧ AccT [⟨[.t (enc t)], 2, false⟩, ⟨[.t (enc x)], 7, false⟩, ⟨[.t (enc s)], 3, false⟩] H v ((s.l.take i).flatten)) ?_ ?_
          · rintro loc e2 H2 hlc hk2 ⟨hct2, v2, h142, hA2⟩
            simp only [keepP, go_sem, ↓reduceIte, Nat.reduceEqDiff, and_true] at hk2
            by_cases hlt : loc < t.init.length
            · have hlt' : loc < s.l.length := by omega
              have hrow := hrb _ (gd_mem hlt')
              have hA20 := hA2
              obtain ⟨R2, rfl, _⟩ := hA20
              simp -implicitDefEqProofs (disch := first | exact dsch | fail) only [go_sem, ↓reduceIte, Nat.reduceEqDiff, hk, hk2, hct2, hll2]
              refine loop_k (n := (gd s.l loc).length) [3, 7, 8, 10, 15] (by kernel_rfl) (fun j e H => e 16 = .t (.int .i64 j) ∧ ∃ v, e 14 = v ∧ AccT [⟨[.t (enc t)], 2, false⟩, ⟨[.t (enc x)], 7, false⟩, ⟨[.t (enc s)], 3, false⟩] H v (seenR s loc j)) ?_ ?_
              · rintro q e3 H3 hq0 hk3 ⟨hct3, v3, h143, hA3⟩
                simp only [keepP, go_sem, ↓reduceIte, Nat.reduceEqDiff, and_true] at hk3
                obtain ⟨R3, rfl, hA3⟩ := hA3
                by_cases hq : q < (gd s.l loc).length
                · obtain ⟨w, hw, hk4, hkd, hk5, _⟩ := row_in I hlt (gd_mem hq)
                  have hnw := seen_new I hlt hq
                  rw [hw] at hnw
                  have hsl := seen_len s loc q
                  have hlb := lens_bd hrb loc (by omega)
                  have hst3 := seen_step hq
                  rw [hw] at hst3
                  generalize hL : seenR s loc q = L at *
                  have hnin : decide (((w : Nat) : Int) ∈ L) = false := decide_eq_false hnw
                  have hIn := fun K => pu_In01 (l := L) (n := (w : Int)) (by omega) (K := K)
                  rw [hnin] at hIn
                  rcases hA3 with ⟨h0, rfl⟩ | ⟨m, st, hv3, hg⟩
                  · subst h0
                    have hIn0 : ∀ K : Kp, @Pu _ Tryz.prog 22 [enc ([] : List (Int × Int)), .int .i64 (w : Int)] K = K.k (.t (.bool false)) := fun K => hIn K
                    simp -implicitDefEqProofs (disch := first | exact dsch | fail) only [go_sem, ↓reduceIte, Nat.reduceEqDiff, hk, hk2, hk3, hct2, hct3, hll2, h143, gx0, gxk, sx0, sxk, List.append_assoc, hIn0, hw, hk4, hk5]
                    exact ⟨hq, _, rfl, by rw [hst3]; exact ⟨R3 ++ [⟨vs [(w : Int)], 1, false⟩], rfl, .inr ⟨R3.length, false, by simp [Nat.add_comm]; try omega, by simp⟩⟩⟩
                  · have hv3' : v3 = .ref (m + 3) L.length := by rw [hv3]; simp [Nat.add_comm]
                    subst hv3'
                    have hml := at_lt hg
                    simp -implicitDefEqProofs (disch := first | exact dsch | (simp only [go_sem, hk, hk2, hk3, hct2, hct3, hll2, h143, gx0, gxk, sx0, sxk, List.append_assoc, hIn, hw, hk4, hk5, hg]; omega) | (refine of_eq_true ?_; simp (disch := first | omega | (refine of_eq_true ?_; simp only [go_sem, hk, hk2, hk3, hct2, hct3, hll2, h143, gx0, gxk, sx0, sxk, List.append_assoc, hIn, hw, hk4, hk5, hg]; done) | (simp only [go_sem, hk, hk2, hk3, hct2, hct3, hll2, h143, gx0, gxk, sx0, sxk, List.append_assoc, hIn, hw, hk4, hk5, hg]; omega)) only [go_sem, hk, hk2, hk3, hct2, hct3, hll2, h143, gx0, gxk, sx0, sxk, List.append_assoc, hIn, hw, hk4, hk5, hg]; done) | fail) only [go_sem, ↓reduceIte, Nat.reduceEqDiff, hk, hk2, hk3, hct2, hct3, hll2, h143, gx0, gxk, sx0, sxk, List.append_assoc, hIn, hw, hk4, hk5, hg]
                    exact ⟨hq, _, rfl, by rw [hst3]; exact ⟨R3.set m ⟨vs (L ++ [(w : Int)]), 1, st⟩, rfl, .inr ⟨m, st, by simp [Nat.add_comm], by rw [List.getElem?_set_self hml]⟩⟩⟩
                · obtain rfl : q = (gd s.l loc).length := by omega
                  rw [seen_row hlt'] at hA3
                  simp -implicitDefEqProofs (disch := first | exact dsch | fail) only [go_sem, ↓reduceIte, Nat.reduceEqDiff, hk, hk2, hk3, hct2, hct3, hll2, h143]
                  exact ⟨hlt, _, rfl, R3, rfl, hA3⟩
              · simp -implicitDefEqProofs (disch := first | exact dsch | fail) only [go_sem, ↓reduceIte, Nat.reduceEqDiff]
                exact ⟨_, h142, by rw [seen_zero]; exact hA2⟩
            · obtain rfl : loc = t.init.length := by omega
              rw [← hll2, List.take_length] at hA2
              have hsa : ∀ {i : Nat}, i < x.ev.length → (gd x.ev i).kind = 2 → s.d.getLsbD i = decide ((i : Int) ∈ s.l.flatten) := fun hi hk => seen_all W rfl I hi hk
              have hrm : ∀ {i : Nat}, i < x.ev.length → (gd x.ev i).kind = 1 → s.d.getLsbD i = true → gd s.f i ∈ maySt x t.init i := fun hi hk hd => read_may W rfl I hi hk hd
              have hlb := lens_bd hrb s.l.length (Nat.le_refl _)
              have hfl2 := lens_flat (l := s.l) (i := s.l.length)
              rw [List.take_length] at hfl2
              obtain ⟨R2, rfl, hA2⟩ := hA2
              generalize hL : s.l.flatten = L at *
              have hv2 : (L = [] ∧ v2 = .ex []) ∨ ∃ m st, v2 = .ref (m + 3) L.length ∧ R2[m]? = some ⟨vs L, 1, st⟩ := by
                rcases hA2 with h | ⟨m, st, h1, h2⟩
                · exact .inl h
                · exact .inr ⟨m, st, by rw [h1]; simp [Nat.add_comm], h2⟩
              clear hA2
              simp -implicitDefEqProofs (disch := first | exact dsch | fail) only [go_sem, ↓reduceIte, Nat.reduceEqDiff, hk, hk2, hct2, hll2, h142]
              refine loop_k (n := x.ev.length) [3, 7, 8, 10, 14] (by kernel_rfl) (fun i e H => e 18 = .t (.int .i64 i) ∧ ∃ R', H = ⟨[.t (enc t)], 2, false⟩ :: ⟨[.t (enc x)], 7, false⟩ :: ⟨[.t (enc s)], 3, false⟩ :: R' ∧ ((L = [] ∧ v2 = .ex []) ∨ ∃ m st, v2 = .ref (m + 3) L.length ∧ R'[m]? = some ⟨vs L, 1, st⟩)) ?_ ?_
              · rintro i6 e6 H6 hi6 hk6 ⟨hct6, R6, rfl, hv6⟩
                simp only [keepP, go_sem, ↓reduceIte, Nat.reduceEqDiff, and_true] at hk6
                by_cases hlt6 : i6 < x.ev.length
                · have hfin : ((L = [] ∧ v2 = .ex []) ∨ ∃ m st, v2 = .ref (m + 3) L.length ∧ (R6 ++ [⟨[.t (enc (gd x.ev i6))], 7, false⟩] : Heap)[m]? = some ⟨vs L, 1, st⟩) := by
                    rcases hv6 with h | ⟨m, st, h1, h2⟩
                    · exact .inl h
                    · exact .inr ⟨m, st, h1, at_all h2 _⟩
                  by_cases k2 : (gd x.ev i6).kind = 2
                  · have hsb := hsa hlt6 k2
                    have hIn := fun K => pu_In01 (l := L) (n := (i6 : Int)) (by omega) (K := K)
                    rw [← hsb] at hIn
                    rcases hv6 with ⟨h0, h1⟩ | ⟨m, st, h1, hg⟩
                    · have hIn0 : ∀ K : Kp, @Pu _ Tryz.prog 22 [enc ([] : List (Int × Int)), .int .i64 (i6 : Int)] K = K.k (.t (.bool (s.d.getLsbD i6))) := fun K => by rw [h0] at hIn; exact hIn K
                      cases hb : s.d.getLsbD i6 <;> rw [hb] at hIn0 <;> simp -implicitDefEqProofs (disch := first | exact dsch | fail) only [go_sem, ↓reduceIte, Nat.reduceEqDiff, hk, hk2, hk6, hct6, h1, gx0, gxk, sx0, sxk, List.append_assoc, hfl, h142, k2, hb, hIn0]
                      all_goals exact ⟨hlt6, _, rfl, .inl h0⟩
                    · have hg' := at_all hg [⟨[V.t (enc (gd x.ev i6))], 7, false⟩]
                      cases hb : s.d.getLsbD i6 <;> rw [hb] at hIn <;> simp -implicitDefEqProofs (disch := first | exact dsch | (simp only [go_sem, hk, hk2, hk6, hct6, h1, gx0, gxk, sx0, sxk, List.append_assoc, hfl, h142, k2, hb, hIn, hg']; omega) | (refine of_eq_true ?_; simp (disch := first | omega | (refine of_eq_true ?_; simp only [go_sem, hk, hk2, hk6, hct6, h1, gx0, gxk, sx0, sxk, List.append_assoc, hfl, h142, k2, hb, hIn, hg']; done) | (simp only [go_sem, hk, hk2, hk6, hct6, h1, gx0, gxk, sx0, sxk, List.append_assoc, hfl, h142, k2, hb, hIn, hg']; omega)) only [go_sem, hk, hk2, hk6, hct6, h1, gx0, gxk, sx0, sxk, List.append_assoc, hfl, h142, k2, hb, hIn, hg']; done) | fail) only [go_sem, ↓reduceIte, Nat.reduceEqDiff, hk, hk2, hk6, hct6, h1, gx0, gxk, sx0, sxk, List.append_assoc, hfl, h142, k2, hb, hIn, hg']
                      all_goals exact ⟨hlt6, _, rfl, .inr ⟨m, st, rfl, hg'⟩⟩
                  · by_cases k1 : (gd x.ev i6).kind = 1
                    · cases hb : s.d.getLsbD i6
                      · simp -implicitDefEqProofs (disch := first | exact dsch | fail) only [go_sem, ↓reduceIte, Nat.reduceEqDiff, hk, hk2, hk6, hct6, gx0, gxk, sx0, sxk, List.append_assoc, hfl, h142, k1, hb]
                        exact ⟨hlt6, _, rfl, hfin⟩
                      · have hmy := hrm hlt6 k1 hb
                        have hml := mayTo_len x t.init (gd x.ev i6) x.ev.length
                        have hSM := fun K => pu_SMay (x := x) (init := t.init) (by omega) (by omega) hlt6 k1 (K := K)
                        have hIM := fun K => pu_In01 (l := maySt x t.init i6) (n := gd s.f i6) (by unfold maySt; omega) (K := K)
                        rw [decide_eq_true hmy] at hIM
                        simp -implicitDefEqProofs (disch := first | exact dsch | fail) only [go_sem, ↓reduceIte, Nat.reduceEqDiff, hk, hk2, hk6, hct6, gx0, gxk, sx0, sxk, List.append_assoc, hfl, h142, k1, hb, hSM, hIM]
                        exact ⟨hlt6, _, rfl, hfin⟩
                    · simp -implicitDefEqProofs (disch := first | exact dsch | fail) only [go_sem, ↓reduceIte, Nat.reduceEqDiff, hk, hk2, hk6, hct6, gx0, gxk, sx0, sxk, List.append_assoc, hfl, h142, k2, k1]
                      exact ⟨hlt6, _, rfl, hfin⟩
                · obtain rfl : i6 = x.ev.length := by omega
                  simp -implicitDefEqProofs (disch := first | exact dsch | fail) only [go_sem, ↓reduceIte, Nat.reduceEqDiff, hk, hk2, hk6, hct6, hfl]
              · simp -implicitDefEqProofs (disch := first | exact dsch | fail) only [go_sem, ↓reduceIte, Nat.reduceEqDiff]
                exact ⟨_, rfl, hv2⟩
          · simp -implicitDefEqProofs (disch := first | exact dsch | fail) only [go_sem, ↓reduceIte, Nat.reduceEqDiff]
            exact ⟨_, rfl, _, rfl, .inl ⟨rfl, rfl⟩⟩
        · have hpl := (gd picks i).isLt
          obtain ⟨m1, hm1, hr1⟩ := rem_at (w := ((gd picks i).toNat : Int)) (n := (movesR x t.init s).length) (by omega) (by omega)
          have hin := gd_mem hm1
          obtain ⟨k, loc, o, hm, hkl, hloc, hll, hc⟩ := moves_ok W hin
          have r' := FRun.step k o r hkl hc
          have hgm : gd ((movesR x t.init s).map (doneR x s)) m1 = doneR x s ⟨k, o⟩ := by
            rw [← hm, ← gd_get (by simpa using hm1), List.getElem_map, gd_get hm1]
          simp -implicitDefEqProofs (disch := first | exact dsch | (simp only [go_sem, hk, hct, gx0, gxk, sx0, sxk, List.append_assoc, hnx, hz, hr1, hgm, List.length_map]; omega) | (refine of_eq_true ?_; simp (disch := first | omega | (refine of_eq_true ?_; simp only [go_sem, hk, hct, gx0, gxk, sx0, sxk, List.append_assoc, hnx, hz, hr1, hgm, List.length_map]; done) | (simp only [go_sem, hk, hct, gx0, gxk, sx0, sxk, List.append_assoc, hnx, hz, hr1, hgm, List.length_map]; omega)) only [go_sem, hk, hct, gx0, gxk, sx0, sxk, List.append_assoc, hnx, hz, hr1, hgm, List.length_map]; done) | fail) only [go_sem, ↓reduceIte, Nat.reduceEqDiff, hk, hct, gx0, gxk, sx0, sxk, List.append_assoc, hnx, hz, hr1, hgm, List.length_map]
          exact ⟨hlt2, _, _, _, r', rfl⟩
      · skip
        have hll2 := B.l
        have hfl := B.f
        have hrb := B.r
        simp -implicitDefEqProofs (disch := first | exact dsch | fail) only [go_sem, ↓reduceIte, Nat.reduceEqDiff, hk, hct, gx0, gxk, sx0, sxk, List.append_assoc, hnx, hlt2]
        refine loop_k (n := t.init.length) [3, 7, 8, 10] (by kernel_rfl) (fun i e H => e 15 = .t (.int .i64 i) ∧ ∃ v, e 14 = v ∧ AccT [⟨[.t (enc t)], 2, false⟩, ⟨[.t (enc x)], 7, false⟩, ⟨[.t (enc s)], 3, false⟩] H v ((s.l.take i).flatten)) ?_ ?_
        · rintro loc e2 H2 hlc hk2 ⟨hct2, v2, h142, hA2⟩
          simp only [keepP, go_sem, ↓reduceIte, Nat.reduceEqDiff, and_true] at hk2
          by_cases hlt : loc < t.init.length
          · have hlt' : loc < s.l.length := by omega
            have hrow := hrb _ (gd_mem hlt')
            have hA20 := hA2
            obtain ⟨R2, rfl, _⟩ := hA20
            simp -implicitDefEqProofs (disch := first | exact dsch | fail) only [go_sem, ↓reduceIte, Nat.reduceEqDiff, hk, hk2, hct2, hll2]
            refine loop_k (n := (gd s.l loc).length) [3, 7, 8, 10, 15] (by kernel_rfl) (fun j e H => e 16 = .t (.int .i64 j) ∧ ∃ v, e 14 = v ∧ AccT [⟨[.t (enc t)], 2, false⟩, ⟨[.t (enc x)], 7, false⟩, ⟨[.t (enc s)], 3, false⟩] H v (seenR s loc j)) ?_ ?_
            · rintro q e3 H3 hq0 hk3 ⟨hct3, v3, h143, hA3⟩
              simp only [keepP, go_sem, ↓reduceIte, Nat.reduceEqDiff, and_true] at hk3
              obtain ⟨R3, rfl, hA3⟩ := hA3
              by_cases hq : q < (gd s.l loc).length
              · obtain ⟨w, hw, hk4, hkd, hk5, _⟩ := row_in I hlt (gd_mem hq)
                have hnw := seen_new I hlt hq
                rw [hw] at hnw
                have hsl := seen_len s loc q
                have hlb := lens_bd hrb loc (by omega)
                have hst3 := seen_step hq
                rw [hw] at hst3
                generalize hL : seenR s loc q = L at *
                have hnin : decide (((w : Nat) : Int) ∈ L) = false := decide_eq_false hnw
                have hIn := fun K => pu_In01 (l := L) (n := (w : Int)) (by omega) (K := K)
                rw [hnin] at hIn
                rcases hA3 with ⟨h0, rfl⟩ | ⟨m, st, hv3, hg⟩
                · subst h0
                  have hIn0 : ∀ K : Kp, @Pu _ Tryz.prog 22 [enc ([] : List (Int × Int)), .int .i64 (w : Int)] K = K.k (.t (.bool false)) := fun K => hIn K
                  simp -implicitDefEqProofs (disch := first | exact dsch | fail) only [go_sem, ↓reduceIte, Nat.reduceEqDiff, hk, hk2, hk3, hct2, hct3, hll2, h143, gx0, gxk, sx0, sxk, List.append_assoc, hIn0, hw, hk4, hk5]
                  exact ⟨hq, _, rfl, by rw [hst3]; exact ⟨R3 ++ [⟨vs [(w : Int)], 1, false⟩], rfl, .inr ⟨R3.length, false, by simp [Nat.add_comm]; try omega, by simp⟩⟩⟩
                · have hv3' : v3 = .ref (m + 3) L.length := by rw [hv3]; simp [Nat.add_comm]
                  subst hv3'
                  have hml := at_lt hg
                  simp -implicitDefEqProofs (disch := first | exact dsch | (simp only [go_sem, hk, hk2, hk3, hct2, hct3, hll2, h143, gx0, gxk, sx0, sxk, List.append_assoc, hIn, hw, hk4, hk5, hg]; omega) | (refine of_eq_true ?_; simp (disch := first | omega | (refine of_eq_true ?_; simp only [go_sem, hk, hk2, hk3, hct2, hct3, hll2, h143, gx0, gxk, sx0, sxk, List.append_assoc, hIn, hw, hk4, hk5, hg]; done) | (simp only [go_sem, hk, hk2, hk3, hct2, hct3, hll2, h143, gx0, gxk, sx0, sxk, List.append_assoc, hIn, hw, hk4, hk5, hg]; omega)) only [go_sem, hk, hk2, hk3, hct2, hct3, hll2, h143, gx0, gxk, sx0, sxk, List.append_assoc, hIn, hw, hk4, hk5, hg]; done) | fail) only [go_sem, ↓reduceIte, Nat.reduceEqDiff, hk, hk2, hk3, hct2, hct3, hll2, h143, gx0, gxk, sx0, sxk, List.append_assoc, hIn, hw, hk4, hk5, hg]
                  exact ⟨hq, _, rfl, by rw [hst3]; exact ⟨R3.set m ⟨vs (L ++ [(w : Int)]), 1, st⟩, rfl, .inr ⟨m, st, by simp [Nat.add_comm], by rw [List.getElem?_set_self hml]⟩⟩⟩
              · obtain rfl : q = (gd s.l loc).length := by omega
                rw [seen_row hlt'] at hA3
                simp -implicitDefEqProofs (disch := first | exact dsch | fail) only [go_sem, ↓reduceIte, Nat.reduceEqDiff, hk, hk2, hk3, hct2, hct3, hll2, h143]
                exact ⟨hlt, _, rfl, R3, rfl, hA3⟩
            · simp -implicitDefEqProofs (disch := first | exact dsch | fail) only [go_sem, ↓reduceIte, Nat.reduceEqDiff]
              exact ⟨_, h142, by rw [seen_zero]; exact hA2⟩
          · obtain rfl : loc = t.init.length := by omega
            rw [← hll2, List.take_length] at hA2
            have hsa : ∀ {i : Nat}, i < x.ev.length → (gd x.ev i).kind = 2 → s.d.getLsbD i = decide ((i : Int) ∈ s.l.flatten) := fun hi hk => seen_all W rfl I hi hk
            have hrm : ∀ {i : Nat}, i < x.ev.length → (gd x.ev i).kind = 1 → s.d.getLsbD i = true → gd s.f i ∈ maySt x t.init i := fun hi hk hd => read_may W rfl I hi hk hd
            have hlb := lens_bd hrb s.l.length (Nat.le_refl _)
            have hfl2 := lens_flat (l := s.l) (i := s.l.length)
            rw [List.take_length] at hfl2
            obtain ⟨R2, rfl, hA2⟩ := hA2
            generalize hL : s.l.flatten = L at *
            have hv2 : (L = [] ∧ v2 = .ex []) ∨ ∃ m st, v2 = .ref (m + 3) L.length ∧ R2[m]? = some ⟨vs L, 1, st⟩ := by
              rcases hA2 with h | ⟨m, st, h1, h2⟩
              · exact .inl h
              · exact .inr ⟨m, st, by rw [h1]; simp [Nat.add_comm], h2⟩
            clear hA2
            simp -implicitDefEqProofs (disch := first | exact dsch | fail) only [go_sem, ↓reduceIte, Nat.reduceEqDiff, hk, hk2, hct2, hll2, h142]
            refine loop_k (n := x.ev.length) [3, 7, 8, 10, 14] (by kernel_rfl) (fun i e H => e 18 = .t (.int .i64 i) ∧ ∃ R', H = ⟨[.t (enc t)], 2, false⟩ :: ⟨[.t (enc x)], 7, false⟩ :: ⟨[.t (enc s)], 3, false⟩ :: R' ∧ ((L = [] ∧ v2 = .ex []) ∨ ∃ m st, v2 = .ref (m + 3) L.length ∧ R'[m]? = some ⟨vs L, 1, st⟩)) ?_ ?_
            · rintro i6 e6 H6 hi6 hk6 ⟨hct6, R6, rfl, hv6⟩
              simp only [keepP, go_sem, ↓reduceIte, Nat.reduceEqDiff, and_true] at hk6
              by_cases hlt6 : i6 < x.ev.length
              · have hfin : ((L = [] ∧ v2 = .ex []) ∨ ∃ m st, v2 = .ref (m + 3) L.length ∧ (R6 ++ [⟨[.t (enc (gd x.ev i6))], 7, false⟩] : Heap)[m]? = some ⟨vs L, 1, st⟩) := by
                  rcases hv6 with h | ⟨m, st, h1, h2⟩
                  · exact .inl h
                  · exact .inr ⟨m, st, h1, at_all h2 _⟩
                by_cases k2 : (gd x.ev i6).kind = 2
                · have hsb := hsa hlt6 k2
                  have hIn := fun K => pu_In01 (l := L) (n := (i6 : Int)) (by omega) (K := K)
                  rw [← hsb] at hIn
                  rcases hv6 with ⟨h0, h1⟩ | ⟨m, st, h1, hg⟩
                  · have hIn0 : ∀ K : Kp, @Pu _ Tryz.prog 22 [enc ([] : List (Int × Int)), .int .i64 (i6 : Int)] K = K.k (.t (.bool (s.d.getLsbD i6))) := fun K => by rw [h0] at hIn; exact hIn K
                    cases hb : s.d.getLsbD i6 <;> rw [hb] at hIn0 <;> simp -implicitDefEqProofs (disch := first | exact dsch | fail) only [go_sem, ↓reduceIte, Nat.reduceEqDiff, hk, hk2, hk6, hct6, h1, gx0, gxk, sx0, sxk, List.append_assoc, hfl, h142, k2, hb, hIn0]
                    all_goals exact ⟨hlt6, _, rfl, .inl h0⟩
                  · have hg' := at_all hg [⟨[V.t (enc (gd x.ev i6))], 7, false⟩]
                    cases hb : s.d.getLsbD i6 <;> rw [hb] at hIn <;> simp -implicitDefEqProofs (disch := first | exact dsch | (simp only [go_sem, hk, hk2, hk6, hct6, h1, gx0, gxk, sx0, sxk, List.append_assoc, hfl, h142, k2, hb, hIn, hg']; omega) | (refine of_eq_true ?_; simp (disch := first | omega | (refine of_eq_true ?_; simp only [go_sem, hk, hk2, hk6, hct6, h1, gx0, gxk, sx0, sxk, List.append_assoc, hfl, h142, k2, hb, hIn, hg']; done) | (simp only [go_sem, hk, hk2, hk6, hct6, h1, gx0, gxk, sx0, sxk, List.append_assoc, hfl, h142, k2, hb, hIn, hg']; omega)) only [go_sem, hk, hk2, hk6, hct6, h1, gx0, gxk, sx0, sxk, List.append_assoc, hfl, h142, k2, hb, hIn, hg']; done) | fail) only [go_sem, ↓reduceIte, Nat.reduceEqDiff, hk, hk2, hk6, hct6, h1, gx0, gxk, sx0, sxk, List.append_assoc, hfl, h142, k2, hb, hIn, hg']
                    all_goals exact ⟨hlt6, _, rfl, .inr ⟨m, st, rfl, hg'⟩⟩
                · by_cases k1 : (gd x.ev i6).kind = 1
                  · cases hb : s.d.getLsbD i6
                    · simp -implicitDefEqProofs (disch := first | exact dsch | fail) only [go_sem, ↓reduceIte, Nat.reduceEqDiff, hk, hk2, hk6, hct6, gx0, gxk, sx0, sxk, List.append_assoc, hfl, h142, k1, hb]
                      exact ⟨hlt6, _, rfl, hfin⟩
                    · have hmy := hrm hlt6 k1 hb
                      have hml := mayTo_len x t.init (gd x.ev i6) x.ev.length
                      have hSM := fun K => pu_SMay (x := x) (init := t.init) (by omega) (by omega) hlt6 k1 (K := K)
                      have hIM := fun K => pu_In01 (l := maySt x t.init i6) (n := gd s.f i6) (by unfold maySt; omega) (K := K)
                      rw [decide_eq_true hmy] at hIM
                      simp -implicitDefEqProofs (disch := first | exact dsch | fail) only [go_sem, ↓reduceIte, Nat.reduceEqDiff, hk, hk2, hk6, hct6, gx0, gxk, sx0, sxk, List.append_assoc, hfl, h142, k1, hb, hSM, hIM]
                      exact ⟨hlt6, _, rfl, hfin⟩
                  · simp -implicitDefEqProofs (disch := first | exact dsch | fail) only [go_sem, ↓reduceIte, Nat.reduceEqDiff, hk, hk2, hk6, hct6, gx0, gxk, sx0, sxk, List.append_assoc, hfl, h142, k2, k1]
                    exact ⟨hlt6, _, rfl, hfin⟩
              · obtain rfl : i6 = x.ev.length := by omega
                simp -implicitDefEqProofs (disch := first | exact dsch | fail) only [go_sem, ↓reduceIte, Nat.reduceEqDiff, hk, hk2, hk6, hct6, hfl]
            · simp -implicitDefEqProofs (disch := first | exact dsch | fail) only [go_sem, ↓reduceIte, Nat.reduceEqDiff]
              exact ⟨_, rfl, hv2⟩
        · simp -implicitDefEqProofs (disch := first | exact dsch | fail) only [go_sem, ↓reduceIte, Nat.reduceEqDiff]
          exact ⟨_, rfl, _, rfl, .inl ⟨rfl, rfl⟩⟩
    · skip
      have hll2 := B.l
      have hfl := B.f
      have hrb := B.r
      simp -implicitDefEqProofs (disch := first | exact dsch | fail) only [go_sem, ↓reduceIte, Nat.reduceEqDiff, hk, hct, gx0, gxk, sx0, sxk, List.append_assoc, hnx, hlt]
      refine loop_k (n := t.init.length) [3, 7, 8, 10] (by kernel_rfl) (fun i e H => e 15 = .t (.int .i64 i) ∧ ∃ v, e 14 = v ∧ AccT [⟨[.t (enc t)], 2, false⟩, ⟨[.t (enc x)], 7, false⟩, ⟨[.t (enc s)], 3, false⟩] H v ((s.l.take i).flatten)) ?_ ?_
      · rintro loc e2 H2 hlc hk2 ⟨hct2, v2, h142, hA2⟩
        simp only [keepP, go_sem, ↓reduceIte, Nat.reduceEqDiff, and_true] at hk2
        by_cases hlt : loc < t.init.length
        · have hlt' : loc < s.l.length := by omega
          have hrow := hrb _ (gd_mem hlt')
          have hA20 := hA2
          obtain ⟨R2, rfl, _⟩ := hA20
          simp -implicitDefEqProofs (disch := first | exact dsch | fail) only [go_sem, ↓reduceIte, Nat.reduceEqDiff, hk, hk2, hct2, hll2]
          refine loop_k (n := (gd s.l loc).length) [3, 7, 8, 10, 15] (by kernel_rfl) (fun j e H => e 16 = .t (.int .i64 j) ∧ ∃ v, e 14 = v ∧ AccT [⟨[.t (enc t)], 2, false⟩, ⟨[.t (enc x)], 7, false⟩, ⟨[.t (enc s)], 3, false⟩] H v (seenR s loc j)) ?_ ?_
          · rintro q e3 H3 hq0 hk3 ⟨hct3, v3, h143, hA3⟩
            simp only [keepP, go_sem, ↓reduceIte, Nat.reduceEqDiff, and_true] at hk3
            obtain ⟨R3, rfl, hA3⟩ := hA3
            by_cases hq : q < (gd s.l loc).length
            · obtain ⟨w, hw, hk4, hkd, hk5, _⟩ := row_in I hlt (gd_mem hq)
              have hnw := seen_new I hlt hq
              rw [hw] at hnw
              have hsl := seen_len s loc q
              have hlb := lens_bd hrb loc (by omega)
              have hst3 := seen_step hq
              rw [hw] at hst3
              generalize hL : seenR s loc q = L at *
              have hnin : decide (((w : Nat) : Int) ∈ L) = false := decide_eq_false hnw
              have hIn := fun K => pu_In01 (l := L) (n := (w : Int)) (by omega) (K := K)
              rw [hnin] at hIn
              rcases hA3 with ⟨h0, rfl⟩ | ⟨m, st, hv3, hg⟩
              · subst h0
                have hIn0 : ∀ K : Kp, @Pu _ Tryz.prog 22 [enc ([] : List (Int × Int)), .int .i64 (w : Int)] K = K.k (.t (.bool false)) := fun K => hIn K
                simp -implicitDefEqProofs (disch := first | exact dsch | fail) only [go_sem, ↓reduceIte, Nat.reduceEqDiff, hk, hk2, hk3, hct2, hct3, hll2, h143, gx0, gxk, sx0, sxk, List.append_assoc, hIn0, hw, hk4, hk5]
                exact ⟨hq, _, rfl, by rw [hst3]; exact ⟨R3 ++ [⟨vs [(w : Int)], 1, false⟩], rfl, .inr ⟨R3.length, false, by simp [Nat.add_comm]; try omega, by simp⟩⟩⟩
              · have hv3' : v3 = .ref (m + 3) L.length := by rw [hv3]; simp [Nat.add_comm]
                subst hv3'
                have hml := at_lt hg
                simp -implicitDefEqProofs (disch := first | exact dsch | (simp only [go_sem, hk, hk2, hk3, hct2, hct3, hll2, h143, gx0, gxk, sx0, sxk, List.append_assoc, hIn, hw, hk4, hk5, hg]; omega) | (refine of_eq_true ?_; simp (disch := first | omega | (refine of_eq_true ?_; simp only [go_sem, hk, hk2, hk3, hct2, hct3, hll2, h143, gx0, gxk, sx0, sxk, List.append_assoc, hIn, hw, hk4, hk5, hg]; done) | (simp only [go_sem, hk, hk2, hk3, hct2, hct3, hll2, h143, gx0, gxk, sx0, sxk, List.append_assoc, hIn, hw, hk4, hk5, hg]; omega)) only [go_sem, hk, hk2, hk3, hct2, hct3, hll2, h143, gx0, gxk, sx0, sxk, List.append_assoc, hIn, hw, hk4, hk5, hg]; done) | fail) only [go_sem, ↓reduceIte, Nat.reduceEqDiff, hk, hk2, hk3, hct2, hct3, hll2, h143, gx0, gxk, sx0, sxk, List.append_assoc, hIn, hw, hk4, hk5, hg]
                exact ⟨hq, _, rfl, by rw [hst3]; exact ⟨R3.set m ⟨vs (L ++ [(w : Int)]), 1, st⟩, rfl, .inr ⟨m, st, by simp [Nat.add_comm], by rw [List.getElem?_set_self hml]⟩⟩⟩
            · obtain rfl : q = (gd s.l loc).length := by omega
              rw [seen_row hlt'] at hA3
              simp -implicitDefEqProofs (disch := first | exact dsch | fail) only [go_sem, ↓reduceIte, Nat.reduceEqDiff, hk, hk2, hk3, hct2, hct3, hll2, h143]
              exact ⟨hlt, _, rfl, R3, rfl, hA3⟩
          · simp -implicitDefEqProofs (disch := first | exact dsch | fail) only [go_sem, ↓reduceIte, Nat.reduceEqDiff]
            exact ⟨_, h142, by rw [seen_zero]; exact hA2⟩
        · obtain rfl : loc = t.init.length := by omega
          rw [← hll2, List.take_length] at hA2
          have hsa : ∀ {i : Nat}, i < x.ev.length → (gd x.ev i).kind = 2 → s.d.getLsbD i = decide ((i : Int) ∈ s.l.flatten) := fun hi hk => seen_all W rfl I hi hk
          have hrm : ∀ {i : Nat}, i < x.ev.length → (gd x.ev i).kind = 1 → s.d.getLsbD i = true → gd s.f i ∈ maySt x t.init i := fun hi hk hd => read_may W rfl I hi hk hd
          have hlb := lens_bd hrb s.l.length (Nat.le_refl _)
          have hfl2 := lens_flat (l := s.l) (i := s.l.length)
          rw [List.take_length] at hfl2
          obtain ⟨R2, rfl, hA2⟩ := hA2
          generalize hL : s.l.flatten = L at *
          have hv2 : (L = [] ∧ v2 = .ex []) ∨ ∃ m st, v2 = .ref (m + 3) L.length ∧ R2[m]? = some ⟨vs L, 1, st⟩ := by
            rcases hA2 with h | ⟨m, st, h1, h2⟩
            · exact .inl h
            · exact .inr ⟨m, st, by rw [h1]; simp [Nat.add_comm], h2⟩
          clear hA2
          simp -implicitDefEqProofs (disch := first | exact dsch | fail) only [go_sem, ↓reduceIte, Nat.reduceEqDiff, hk, hk2, hct2, hll2, h142]
          refine loop_k (n := x.ev.length) [3, 7, 8, 10, 14] (by kernel_rfl) (fun i e H => e 18 = .t (.int .i64 i) ∧ ∃ R', H = ⟨[.t (enc t)], 2, false⟩ :: ⟨[.t (enc x)], 7, false⟩ :: ⟨[.t (enc s)], 3, false⟩ :: R' ∧ ((L = [] ∧ v2 = .ex []) ∨ ∃ m st, v2 = .ref (m + 3) L.length ∧ R'[m]? = some ⟨vs L, 1, st⟩)) ?_ ?_
          · rintro i6 e6 H6 hi6 hk6 ⟨hct6, R6, rfl, hv6⟩
            simp only [keepP, go_sem, ↓reduceIte, Nat.reduceEqDiff, and_true] at hk6
            by_cases hlt6 : i6 < x.ev.length
            · have hfin : ((L = [] ∧ v2 = .ex []) ∨ ∃ m st, v2 = .ref (m + 3) L.length ∧ (R6 ++ [⟨[.t (enc (gd x.ev i6))], 7, false⟩] : Heap)[m]? = some ⟨vs L, 1, st⟩) := by
                rcases hv6 with h | ⟨m, st, h1, h2⟩
                · exact .inl h
                · exact .inr ⟨m, st, h1, at_all h2 _⟩
              by_cases k2 : (gd x.ev i6).kind = 2
              · have hsb := hsa hlt6 k2
                have hIn := fun K => pu_In01 (l := L) (n := (i6 : Int)) (by omega) (K := K)
                rw [← hsb] at hIn
                rcases hv6 with ⟨h0, h1⟩ | ⟨m, st, h1, hg⟩
                · have hIn0 : ∀ K : Kp, @Pu _ Tryz.prog 22 [enc ([] : List (Int × Int)), .int .i64 (i6 : Int)] K = K.k (.t (.bool (s.d.getLsbD i6))) := fun K => by rw [h0] at hIn; exact hIn K
                  cases hb : s.d.getLsbD i6 <;> rw [hb] at hIn0 <;> simp -implicitDefEqProofs (disch := first | exact dsch | fail) only [go_sem, ↓reduceIte, Nat.reduceEqDiff, hk, hk2, hk6, hct6, h1, gx0, gxk, sx0, sxk, List.append_assoc, hfl, h142, k2, hb, hIn0]
                  all_goals exact ⟨hlt6, _, rfl, .inl h0⟩
                · have hg' := at_all hg [⟨[V.t (enc (gd x.ev i6))], 7, false⟩]
                  cases hb : s.d.getLsbD i6 <;> rw [hb] at hIn <;> simp -implicitDefEqProofs (disch := first | exact dsch | (simp only [go_sem, hk, hk2, hk6, hct6, h1, gx0, gxk, sx0, sxk, List.append_assoc, hfl, h142, k2, hb, hIn, hg']; omega) | (refine of_eq_true ?_; simp (disch := first | omega | (refine of_eq_true ?_; simp only [go_sem, hk, hk2, hk6, hct6, h1, gx0, gxk, sx0, sxk, List.append_assoc, hfl, h142, k2, hb, hIn, hg']; done) | (simp only [go_sem, hk, hk2, hk6, hct6, h1, gx0, gxk, sx0, sxk, List.append_assoc, hfl, h142, k2, hb, hIn, hg']; omega)) only [go_sem, hk, hk2, hk6, hct6, h1, gx0, gxk, sx0, sxk, List.append_assoc, hfl, h142, k2, hb, hIn, hg']; done) | fail) only [go_sem, ↓reduceIte, Nat.reduceEqDiff, hk, hk2, hk6, hct6, h1, gx0, gxk, sx0, sxk, List.append_assoc, hfl, h142, k2, hb, hIn, hg']
                  all_goals exact ⟨hlt6, _, rfl, .inr ⟨m, st, rfl, hg'⟩⟩
              · by_cases k1 : (gd x.ev i6).kind = 1
                · cases hb : s.d.getLsbD i6
                  · simp -implicitDefEqProofs (disch := first | exact dsch | fail) only [go_sem, ↓reduceIte, Nat.reduceEqDiff, hk, hk2, hk6, hct6, gx0, gxk, sx0, sxk, List.append_assoc, hfl, h142, k1, hb]
                    exact ⟨hlt6, _, rfl, hfin⟩
                  · have hmy := hrm hlt6 k1 hb
                    have hml := mayTo_len x t.init (gd x.ev i6) x.ev.length
                    have hSM := fun K => pu_SMay (x := x) (init := t.init) (by omega) (by omega) hlt6 k1 (K := K)
                    have hIM := fun K => pu_In01 (l := maySt x t.init i6) (n := gd s.f i6) (by unfold maySt; omega) (K := K)
                    rw [decide_eq_true hmy] at hIM
                    simp -implicitDefEqProofs (disch := first | exact dsch | fail) only [go_sem, ↓reduceIte, Nat.reduceEqDiff, hk, hk2, hk6, hct6, gx0, gxk, sx0, sxk, List.append_assoc, hfl, h142, k1, hb, hSM, hIM]
                    exact ⟨hlt6, _, rfl, hfin⟩
                · simp -implicitDefEqProofs (disch := first | exact dsch | fail) only [go_sem, ↓reduceIte, Nat.reduceEqDiff, hk, hk2, hk6, hct6, gx0, gxk, sx0, sxk, List.append_assoc, hfl, h142, k2, k1]
                  exact ⟨hlt6, _, rfl, hfin⟩
            · obtain rfl : i6 = x.ev.length := by omega
              simp -implicitDefEqProofs (disch := first | exact dsch | fail) only [go_sem, ↓reduceIte, Nat.reduceEqDiff, hk, hk2, hk6, hct6, hfl]
          · simp -implicitDefEqProofs (disch := first | exact dsch | fail) only [go_sem, ↓reduceIte, Nat.reduceEqDiff]
            exact ⟨_, rfl, hv2⟩
      · simp -implicitDefEqProofs (disch := first | exact dsch | fail) only [go_sem, ↓reduceIte, Nat.reduceEqDiff]
        exact ⟨_, rfl, _, rfl, .inl ⟨rfl, rfl⟩⟩
  · simp -implicitDefEqProofs (disch := first | exact dsch | fail) only [go_sem, ↓reduceIte, Nat.reduceEqDiff]
    exact ⟨[], _, _, .start, rfl⟩
end Go.Sim
