/- Part: FlatV -/
import Derived.Test.YtoaboplnnhifpaaGreatFlatU
import Derived.Test.YtoaboplnnhifpaaGreatFlatLz
set_option linter.all false
set_option maxRecDepth 100000
namespace Go.Sim
open Enc (enc)
open Go.Proofs
theorem ref01_Ints {l : List Int} (hl : l.length <= 1000) : Fun Tryz.prog 35 [enc l, enc l] (.t (.bool true)) := by
  refine Fun.go (b := false) Tryz.func35 rfl rfl (by kernel_rfl) (by kernel_rfl) ?_
  simp -implicitDefEqProofs (disch := first | exact dsch | fail) only [go_sem, ↓reduceIte, Nat.reduceEqDiff]
  refine loop_k (n := l.length) [0, 1] (by kernel_rfl) (fun i e H => e 5 = .t (.int .i64 i) /\ H = []) ?_ ?_
  . rintro i e H hi hk ⟨hct, rfl⟩
    simp only [keepP, go_sem, ↓reduceIte, Nat.reduceEqDiff, and_true] at hk
    by_cases hlt : i < l.length
    . simp -implicitDefEqProofs (disch := first | exact dsch | fail) only [go_sem, ↓reduceIte, Nat.reduceEqDiff, hk, hct]
      exact hlt
    . obtain rfl : i = l.length := by omega
      simp -implicitDefEqProofs (disch := first | exact dsch | fail) only [go_sem, ↓reduceIte, Nat.reduceEqDiff, hk, hct]
  . simp -implicitDefEqProofs (disch := first | exact dsch | fail) only [go_sem, ↓reduceIte, Nat.reduceEqDiff]
theorem fol_run {x : Ex} {init f : List Int} : ∀ {l : List Nat} {h : List Nat} {s : Fs} {ms ms' : List Mv} {s' : Fs} {ok : Bool}, FRun x init h s -> (∀ a ∈ l, a < x.ev.length) -> folGo x init f l s ms = (ms', s', ok) -> ∃ h', FRun x init h' s'
  | [], h, s, ms, ms', s', ok, r, _, e => by
    rw [folGo] at e
    simp only [Prod.mk.injEq] at e
    obtain ⟨_, rfl, _⟩ := e
    exact ⟨h, r⟩
  | i :: l, h, s, ms, ms', s', ok, r, hl, e => by
    rw [folGo] at e
    split at e
    . exact fol_run r (fun a ha => hl a (by simp [ha])) e
    . split at e
      . rename_i hm
        obtain ⟨_, k, o, em, hk, hc⟩ := moves_in.1 hm
        simp only [Mv.mk.injEq] at em
        obtain ⟨e1, e2⟩ := em
        obtain rfl : i = k := by omega
        rw [e2] at e
        exact fol_run (FRun.step i o r hk hc) (fun a ha => hl a (by simp [ha])) e
      . simp only [Prod.mk.injEq] at e
        obtain ⟨_, rfl, _⟩ := e
        exact ⟨h, r⟩
theorem whole_all {n : Nat} {x : Ex} {init f : List Int} {co : Rl} (W : WfE n x) (hn : (n : Int) = init.length) (hki : init.length <= 100) (hf : f ∈ sourceR x init) (hc : co ∈ cohR x) (hg : goodB x f co = true) :
    ∃ (ms : List Mv) (s : Fs), Fun Tryz.prog 34 [enc x, enc init, enc f, enc co] (.tup [.t (enc ms), .t (enc s), .t (.bool true)]) /\ finalB x s = true /\ holdsB x s = true /\ s.f = f /\ coS x s = co /\ ms.length <= x.ev.length /\ BdS x init s := by
  have h24 := W.n
  have K := wayOk (by omega) hf hc
  obtain ⟨l, ms, s, h1, h2, h3, h4, h5, h6⟩ := flat_whole W hn hf hc hg
  have hg' := hg
  unfold goodB at hg'
  simp only [Bool.and_eq_true] at hg'
  obtain ⟨hI, hE, hA⟩ := hg'
  obtain ⟨l', e1, e2, e3, _⟩ := first_ok (r := wideR x f co) (by rw [wideR_len]; omega) (wide_pure W K hI hE).1
  rw [h1] at e1
  simp only [Option.some.injEq] at e1
  subst e1
  rw [wideR_len] at e3
  have hll := nodup_lenF e2 (fun a ha => (e3 a).1 ha)
  obtain ⟨h', r⟩ := fol_run .start (fun a ha => (e3 a).1 ha) h2
  refine ⟨ms, s, flat_Follow W hn hki K.fl K.cl h1 (fun a ha => (e3 a).1 ha) (by omega) h2 (by omega), h3, ?_, h4, h5, h6, bd_inv W hki (run_inv W hn r)⟩
  unfold holdsB
  rw [h3, h4, h5, hI, hA]; rfl
theorem flatWhole_run (t : Te) {a b c : Int} (ha : 0 <= a /\ a < 65536) (hb : 0 <= b /\ b < 65536) (hc : 0 <= c /\ c < 65536) : Fun Tryz.prog 7 [enc t, arr3 a b c] (.t (.bool true)) := by
  refine Fun.go (b := false) Tryz.func7 rfl rfl (by kernel_rfl) (by kernel_rfl) ?_
  unfold arr3
  cases hf : fewB t
  . simp -implicitDefEqProofs (disch := first | exact dsch | fail) only [go_sem, ↓reduceIte, Nat.reduceEqDiff, hf]
  obtain ⟨f1, f2, f3⟩ := few_len hf
  obtain ⟨u, hw, hu⟩ := law19_one t hf ha
  have hwp := fun K => hw.pu (K := K)
  rcases hu with ⟨x, rfl⟩ | ⟨x, hx, he, rfl⟩
  . simp -implicitDefEqProofs (disch := first | exact dsch | fail) only [go_sem, ↓reduceIte, Nat.reduceEqDiff, hf, hwp]
  obtain ⟨W, _⟩ := all_wf hx
  have hok := W.ok
  have hn := W.n
  simp -implicitDefEqProofs (disch := first | exact dsch | fail) only [go_sem, ↓reduceIte, Nat.reduceEqDiff, hf, hwp]
  refine loop_k (n := 20) [2, 3, 5, 6, 8, 9] (by kernel_rfl) (fun i e H => e 10 = .t (.int .i64 i) /\ ∃ R, H = ⟨[.t (enc t)], 2, false⟩ :: ⟨[.t (.agg [.int .u16 a, .int .u16 b, .int .u16 c])], 3, false⟩ :: ⟨[.t (enc x)], 7, false⟩ :: R) ?_ ?_
  . rintro i e H hi hk ⟨hct, R, rfl⟩
    simp only [keepP, go_sem, ↓reduceIte, Nat.reduceEqDiff, and_true] at hk
    by_cases hlt : i < (sourceR x t.init).length
    . by_cases hlt2 : i < 20
      . simp -implicitDefEqProofs (disch := first | exact dsch | fail) only [go_sem, ↓reduceIte, Nat.reduceEqDiff, hk, hct]
        refine loop_k (n := 20) [2, 3, 5, 6, 8, 9, 10] (by kernel_rfl) (fun j e H => e 11 = .t (.int .i64 j) /\ ∃ R, H = ⟨[.t (enc t)], 2, false⟩ :: ⟨[.t (.agg [.int .u16 a, .int .u16 b, .int .u16 c])], 3, false⟩ :: ⟨[.t (enc x)], 7, false⟩ :: R) ?_ ?_
        . rintro j e1 H1 hj hk1 ⟨hct1, R1, rfl⟩
          simp only [keepP, go_sem, ↓reduceIte, Nat.reduceEqDiff, and_true] at hk1
          by_cases hlt3 : j < (cohR x).length
          . by_cases hlt4 : j < 20
            . obtain ⟨m2, hm2, hr2⟩ := rem_at (w := b + i) (n := (sourceR x t.init).length) (by omega) (by omega)
              obtain ⟨m3, hm3, hr3⟩ := rem_at (w := c + j) (n := (cohR x).length) (by omega) (by omega)
              have hsm := gd_mem hm2
              have hcm := gd_mem hm3
              have Kw := wayOk (by omega) hsm hcm
              have hfl := Kw.fl
              have hcl := Kw.cl
              obtain ⟨fr, hfr⟩ : ∃ fr, gd (sourceR x t.init) m2 = fr := ⟨_, rfl⟩
              obtain ⟨co, hce⟩ : ∃ co, gd (cohR x) m3 = co := ⟨_, rfl⟩
              rw [hfr] at hsm hfl
              rw [hce] at hcm hcl
              cases hg : goodB x fr co
              . simp -implicitDefEqProofs (disch := first | exact dsch | fail) only [go_sem, ↓reduceIte, Nat.reduceEqDiff, hk, hk1, hct, hct1, gx0, gxk, sx0, sxk, List.append_assoc, hr2, hr3, hfr, hce, hfl, hcl, hg]
                exact ⟨hlt4, _, rfl⟩
              . obtain ⟨ms, s, hF, q1, q2, q3, q4, q5, B⟩ := whole_all W rfl (by omega) hsm hcm hg
                have hFp := fun K => hF.pu (K := K)
                have hq5 : ¬ ((x.ev.length : Int) < (ms.length : Int)) := by omega
                have hho := fun K => pu_Holds hok B (K := K)
                have hco := fun K => pu_FCo B (K := K)
                have hin := fun K => (ref01_Ints (l := fr) (by omega)).pu (K := K)
                have hsa := fun K => pu_rSame (a := co) (b := co) (by rw [hcl]; omega) (by rw [hcl]; omega) (K := K)
                rw [show sameR co co = true by rw [sameR_cln (by rw [hcl]; omega) (by rw [hcl]; omega)]; simp] at hsa
                simp -implicitDefEqProofs (disch := first | exact dsch | fail) only [go_sem, ↓reduceIte, Nat.reduceEqDiff, hk, hk1, hct, hct1, gx0, gxk, sx0, sxk, List.append_assoc, hr2, hr3, hfr, hce, hfl, hcl, hg, hFp, q1, q2, q3, q4, hho, hco, hin, hsa, hq5]
                exact ⟨hlt4, _, rfl⟩
            . simp -implicitDefEqProofs (disch := first | exact dsch | fail) only [go_sem, ↓reduceIte, Nat.reduceEqDiff, hk, hk1, hct, hct1]
              exact ⟨hlt2, _, rfl⟩
          . simp -implicitDefEqProofs (disch := first | exact dsch | fail) only [go_sem, ↓reduceIte, Nat.reduceEqDiff, hk, hk1, hct, hct1]
            exact ⟨hlt2, _, rfl⟩
        . simp -implicitDefEqProofs (disch := first | exact dsch | fail) only [go_sem, ↓reduceIte, Nat.reduceEqDiff]
          exact ⟨_, rfl⟩
      . simp -implicitDefEqProofs (disch := first | exact dsch | fail) only [go_sem, ↓reduceIte, Nat.reduceEqDiff, hk, hct]
    . simp -implicitDefEqProofs (disch := first | exact dsch | fail) only [go_sem, ↓reduceIte, Nat.reduceEqDiff, hk, hct]
  . simp -implicitDefEqProofs (disch := first | exact dsch | fail) only [go_sem, ↓reduceIte, Nat.reduceEqDiff]
    exact ⟨_, rfl⟩
end Go.Sim
