/- Part: FlatT -/
import Derived.Test.YtoaboplnnhifpaaGreatFlatR
import Derived.Test.YtoaboplnnhifpaaGreatFlatHz
import Derived.Test.YtoaboplnnhifpaaGreatFlatG
set_option linter.all false
set_option maxRecDepth 100000
namespace Go.Sim
open Enc (enc)
open Go.Proofs
def retW : Obj := ⟨[.agg [.t (.int .u32 0), .ex [], .ex []]], 3, false⟩
theorem flat_Follow {n : Nat} {x : Ex} {init f : List Int} {co : Rl} (W : WfE n x) (hn : (n : Int) = init.length) (hki : init.length <= 100) (hfl : f.length = x.ev.length) (hcl : co.length = x.ev.length) {l : List Nat} {ms : List Mv} {s : Fs}
    (h1 : firstR (wideR x f co) = some l) (hlt0 : ∀ a ∈ l, a < x.ev.length) (hll : l.length <= 24) (h2 : folGo x init f l (startR x init) [] = (ms, s, true)) (hms : ms.length <= 24) :
    Fun Tryz.prog 34 [enc x, enc init, enc f, enc co] (.tup [.t (enc ms), .t (enc s), .t (.bool true)]) := by
  have hok := W.ok
  have hn24 := W.n
  have hwl : (wideR x f co).length <= 32 := by rw [wideR_len]; omega
  have hst := fun K => pu_Start (x := x) (init := init) (by omega) (by omega) (K := K)
  have hwi := fun K => pu_Wide hok (fr := f) (by omega) hcl (K := K)
  have hfi := fun K => pu_First hwl (K := K)
  rw [h1, show firstL (wideR x f co) = nats l by unfold firstL; rw [h1]] at hfi
  have hnl := nats_len l
  refine Fun.go (b := false) Tryz.func34 rfl rfl (by kernel_rfl) (by kernel_rfl) ?_
  simp -implicitDefEqProofs (disch := first | exact dsch | fail) only [go_sem, ↓reduceIte, Nat.reduceEqDiff, hst, hwi, hfi, hnl]
  refine loop_k (n := l.length) [1, 2, 4, 9, 11, 13, 32, 33] (by kernel_rfl) (fun i e H => e 34 = .t (.int .i64 i) /\ ∃ h s' ms' v R, e 14 = v /\ FRun x init h s' /\ folGo x init f (l.drop i) s' ms' = (ms, s, true) /\ ms'.length <= i /\ H = ⟨[.t (enc x)], 7, false⟩ :: retW :: ⟨[.t (enc s')], 3, false⟩ :: R /\ ((ms' = [] /\ v = .ex []) \/ ∃ m, v = .ref (m + 3) ms'.length /\ R[m]? = some ⟨vs ms', 2, false⟩)) ?_ ?_
  . rintro i e H hi hk ⟨hct, h, s1, ms1, v, R, h14, r, hfg, hml, rfl, hv⟩
    simp only [keepP, go_sem, ↓reduceIte, Nat.reduceEqDiff, and_true] at hk
    by_cases hlt : i < l.length
    . have hgk : gd (nats l) i = ((l[i] : Nat) : Int) := nats_gd hlt
      have hkl : l[i] < x.ev.length := hlt0 _ (List.getElem_mem hlt)
      rw [List.drop_eq_getElem_cons hlt] at hfg
      generalize l[i] = k at hgk hkl hfg
      have I := run_inv W hn r
      have B := bd_inv W hki I
      rw [folGo] at hfg
      cases hbit : s1.d.getLsbD k
      . rw [hbit] at hfg
        simp only [Bool.false_eq_true, if_false] at hfg
        split at hfg
        . rename_i hmem
          obtain ⟨o, ho⟩ : ∃ o, folO x f s1 k = o := ⟨_, rfl⟩
          rw [ho] at hmem hfg
          have hd0 := fun K => pu_Do W B (m := (⟨k, o⟩ : Mv)) (K := K)
          rw [if_pos hmem, show doS x init s1 (⟨k, o⟩ : Mv) = doneR x s1 (⟨k, o⟩ : Mv) by unfold doS; rw [if_pos hmem]] at hd0
          obtain ⟨_, k', o', em, _, hc⟩ := moves_in.1 hmem
          simp only [Mv.mk.injEq] at em
          obtain ⟨em1, rfl⟩ := em
          obtain rfl : k = k' := by omega
          have r' := FRun.step k o r hkl hc
          generalize doneR x s1 ⟨k, o⟩ = s' at *
          have hkf : k < f.length := by omega
          rcases own_nat W k with hown | ⟨w, hown, hwl2, _⟩
          . skip
            have eo : o = false := by rw [← ho]; unfold folO; simp [hkf, hown, hown]
            subst eo
            have hA : AccS 2 [⟨[.t (enc x)], 7, false⟩, ⟨[.agg [.t (.int .u32 0), .ex [], .ex []]], 3, false⟩, ⟨[.t (enc s')], 3, false⟩] (⟨[.t (enc x)], 7, false⟩ :: ⟨[.agg [.t (.int .u32 0), .ex [], .ex []]], 3, false⟩ :: ⟨[.t (enc s')], 3, false⟩ :: (R ++ [⟨[.t (enc (⟨k, false⟩ : Mv))], 2, false⟩, ⟨[.t (enc s')], 3, false⟩])) v ms1 := by
              refine ⟨_, rfl, ?_⟩
              rcases hv with hv | ⟨m, e1, e2⟩
              . exact .inl hv
              . exact .inr ⟨m, by rw [e1]; simp [Nat.add_comm], at_all e2 _⟩
            obtain ⟨v', H', f', hp, hA2⟩ := hA.push (⟨k, false⟩ : Mv) rfl (by_ := 16) (by omega)
            obtain ⟨R2, rfl, hA2⟩ := hA2
            have hp2 : appendV (some (2, 16)) (⟨[.t (enc x)], 7, false⟩ :: ⟨[.agg [.t (.int .u32 0), .ex [], .ex []]], 3, false⟩ :: ⟨[.t (enc s')], 3, false⟩ :: (R ++ [⟨[.t (enc (⟨k, false⟩ : Mv))], 2, false⟩, ⟨[.t (enc s')], 3, false⟩])) v [V.t (enc (⟨k, false⟩ : Mv))] = some ⟨v', ⟨[.t (enc x)], 7, false⟩ :: ⟨[.agg [.t (.int .u32 0), .ex [], .ex []]], 3, false⟩ :: ⟨[.t (enc s')], 3, false⟩ :: R2, f'⟩ := hp
            unfold retW
            simp -implicitDefEqProofs (disch := first | exact dsch | fail) only [go_sem, ↓reduceIte, Nat.reduceEqDiff, hk, hct, h14, gx0, gxk, sx0, sxk, List.append_assoc, hgk, hbit, hown, hfl, hd0, hp2, hown]
            refine ⟨hlt, _, _, _, _, _, rfl, r', hfg, by simp; omega, rfl, ?_⟩
            rcases hA2 with ⟨e1, _⟩ | ⟨m, e1, e2⟩
            . simp at e1
            . exact .inr ⟨m, by rw [e1]; simp [Nat.add_comm], e2⟩
          . by_cases c1 : gd f k = (w : Int)
            . cases c2 : s1.d.getLsbD w
              . skip
                have eo : o = true := by rw [← ho]; unfold folO; simp [hkf, hown, c1, c2]
                subst eo
                have hA : AccS 2 [⟨[.t (enc x)], 7, false⟩, ⟨[.agg [.t (.int .u32 0), .ex [], .ex []]], 3, false⟩, ⟨[.t (enc s')], 3, false⟩] (⟨[.t (enc x)], 7, false⟩ :: ⟨[.agg [.t (.int .u32 0), .ex [], .ex []]], 3, false⟩ :: ⟨[.t (enc s')], 3, false⟩ :: (R ++ [⟨[.t (enc (⟨k, true⟩ : Mv))], 2, false⟩, ⟨[.t (enc s')], 3, false⟩])) v ms1 := by
                  refine ⟨_, rfl, ?_⟩
                  rcases hv with hv | ⟨m, e1, e2⟩
                  . exact .inl hv
                  . exact .inr ⟨m, by rw [e1]; simp [Nat.add_comm], at_all e2 _⟩
                obtain ⟨v', H', f', hp, hA2⟩ := hA.push (⟨k, true⟩ : Mv) rfl (by_ := 16) (by omega)
                obtain ⟨R2, rfl, hA2⟩ := hA2
                have hp2 : appendV (some (2, 16)) (⟨[.t (enc x)], 7, false⟩ :: ⟨[.agg [.t (.int .u32 0), .ex [], .ex []]], 3, false⟩ :: ⟨[.t (enc s')], 3, false⟩ :: (R ++ [⟨[.t (enc (⟨k, true⟩ : Mv))], 2, false⟩, ⟨[.t (enc s')], 3, false⟩])) v [V.t (enc (⟨k, true⟩ : Mv))] = some ⟨v', ⟨[.t (enc x)], 7, false⟩ :: ⟨[.agg [.t (.int .u32 0), .ex [], .ex []]], 3, false⟩ :: ⟨[.t (enc s')], 3, false⟩ :: R2, f'⟩ := hp
                unfold retW
                simp -implicitDefEqProofs (disch := first | exact dsch | fail) only [go_sem, ↓reduceIte, Nat.reduceEqDiff, hk, hct, h14, gx0, gxk, sx0, sxk, List.append_assoc, hgk, hbit, hown, hfl, hd0, hp2, c1, c2]
                refine ⟨hlt, _, _, _, _, _, rfl, r', hfg, by simp; omega, rfl, ?_⟩
                rcases hA2 with ⟨e1, _⟩ | ⟨m, e1, e2⟩
                . simp at e1
                . exact .inr ⟨m, by rw [e1]; simp [Nat.add_comm], e2⟩
              . skip
                have eo : o = false := by rw [← ho]; unfold folO; simp [hkf, hown, c1, c2]
                subst eo
                have hA : AccS 2 [⟨[.t (enc x)], 7, false⟩, ⟨[.agg [.t (.int .u32 0), .ex [], .ex []]], 3, false⟩, ⟨[.t (enc s')], 3, false⟩] (⟨[.t (enc x)], 7, false⟩ :: ⟨[.agg [.t (.int .u32 0), .ex [], .ex []]], 3, false⟩ :: ⟨[.t (enc s')], 3, false⟩ :: (R ++ [⟨[.t (enc (⟨k, false⟩ : Mv))], 2, false⟩, ⟨[.t (enc s')], 3, false⟩])) v ms1 := by
                  refine ⟨_, rfl, ?_⟩
                  rcases hv with hv | ⟨m, e1, e2⟩
                  . exact .inl hv
                  . exact .inr ⟨m, by rw [e1]; simp [Nat.add_comm], at_all e2 _⟩
                obtain ⟨v', H', f', hp, hA2⟩ := hA.push (⟨k, false⟩ : Mv) rfl (by_ := 16) (by omega)
                obtain ⟨R2, rfl, hA2⟩ := hA2
                have hp2 : appendV (some (2, 16)) (⟨[.t (enc x)], 7, false⟩ :: ⟨[.agg [.t (.int .u32 0), .ex [], .ex []]], 3, false⟩ :: ⟨[.t (enc s')], 3, false⟩ :: (R ++ [⟨[.t (enc (⟨k, false⟩ : Mv))], 2, false⟩, ⟨[.t (enc s')], 3, false⟩])) v [V.t (enc (⟨k, false⟩ : Mv))] = some ⟨v', ⟨[.t (enc x)], 7, false⟩ :: ⟨[.agg [.t (.int .u32 0), .ex [], .ex []]], 3, false⟩ :: ⟨[.t (enc s')], 3, false⟩ :: R2, f'⟩ := hp
                unfold retW
                simp -implicitDefEqProofs (disch := first | exact dsch | fail) only [go_sem, ↓reduceIte, Nat.reduceEqDiff, hk, hct, h14, gx0, gxk, sx0, sxk, List.append_assoc, hgk, hbit, hown, hfl, hd0, hp2, c1, c2]
                refine ⟨hlt, _, _, _, _, _, rfl, r', hfg, by simp; omega, rfl, ?_⟩
                rcases hA2 with ⟨e1, _⟩ | ⟨m, e1, e2⟩
                . simp at e1
                . exact .inr ⟨m, by rw [e1]; simp [Nat.add_comm], e2⟩
            . skip
              have eo : o = false := by rw [← ho]; unfold folO; simp [hkf, hown, c1]
              subst eo
              have hA : AccS 2 [⟨[.t (enc x)], 7, false⟩, ⟨[.agg [.t (.int .u32 0), .ex [], .ex []]], 3, false⟩, ⟨[.t (enc s')], 3, false⟩] (⟨[.t (enc x)], 7, false⟩ :: ⟨[.agg [.t (.int .u32 0), .ex [], .ex []]], 3, false⟩ :: ⟨[.t (enc s')], 3, false⟩ :: (R ++ [⟨[.t (enc (⟨k, false⟩ : Mv))], 2, false⟩, ⟨[.t (enc s')], 3, false⟩])) v ms1 := by
                refine ⟨_, rfl, ?_⟩
                rcases hv with hv | ⟨m, e1, e2⟩
                . exact .inl hv
                . exact .inr ⟨m, by rw [e1]; simp [Nat.add_comm], at_all e2 _⟩
              obtain ⟨v', H', f', hp, hA2⟩ := hA.push (⟨k, false⟩ : Mv) rfl (by_ := 16) (by omega)
              obtain ⟨R2, rfl, hA2⟩ := hA2
              have hp2 : appendV (some (2, 16)) (⟨[.t (enc x)], 7, false⟩ :: ⟨[.agg [.t (.int .u32 0), .ex [], .ex []]], 3, false⟩ :: ⟨[.t (enc s')], 3, false⟩ :: (R ++ [⟨[.t (enc (⟨k, false⟩ : Mv))], 2, false⟩, ⟨[.t (enc s')], 3, false⟩])) v [V.t (enc (⟨k, false⟩ : Mv))] = some ⟨v', ⟨[.t (enc x)], 7, false⟩ :: ⟨[.agg [.t (.int .u32 0), .ex [], .ex []]], 3, false⟩ :: ⟨[.t (enc s')], 3, false⟩ :: R2, f'⟩ := hp
              unfold retW
              simp -implicitDefEqProofs (disch := first | exact dsch | fail) only [go_sem, ↓reduceIte, Nat.reduceEqDiff, hk, hct, h14, gx0, gxk, sx0, sxk, List.append_assoc, hgk, hbit, hown, hfl, hd0, hp2, c1]
              refine ⟨hlt, _, _, _, _, _, rfl, r', hfg, by simp; omega, rfl, ?_⟩
              rcases hA2 with ⟨e1, _⟩ | ⟨m, e1, e2⟩
              . simp at e1
              . exact .inr ⟨m, by rw [e1]; simp [Nat.add_comm], e2⟩
        . simp at hfg
      . rw [hbit] at hfg
        simp only [if_true] at hfg
        unfold retW
        simp -implicitDefEqProofs (disch := first | exact dsch | fail) only [go_sem, ↓reduceIte, Nat.reduceEqDiff, hk, hct, h14, gx0, gxk, sx0, sxk, List.append_assoc, hgk, hbit]
        exact ⟨hlt, h, s1, ms1, v, R, rfl, r, hfg, by omega, rfl, hv⟩
    . obtain rfl : i = l.length := by omega
      rw [List.drop_length, folGo] at hfg
      simp only [Prod.mk.injEq, and_true] at hfg
      obtain ⟨rfl, rfl⟩ := hfg
      unfold retW
      rcases hv with ⟨h0, rfl⟩ | ⟨m, rfl, hg⟩
      . rw [h0]
        simp -implicitDefEqProofs (disch := first | exact dsch | fail) only [go_sem, ↓reduceIte, Nat.reduceEqDiff, hk, hct, h14]
        rfl
      . simp -implicitDefEqProofs (disch := first | exact dsch | (simp only [go_sem, hk, hct, h14, hg]; omega) | (refine of_eq_true ?_; simp (disch := first | omega | (refine of_eq_true ?_; simp only [go_sem, hk, hct, h14, hg]; done) | (simp only [go_sem, hk, hct, h14, hg]; omega)) only [go_sem, hk, hct, h14, hg]; done) | fail) only [go_sem, ↓reduceIte, Nat.reduceEqDiff, hk, hct, h14, hg]
  . simp -implicitDefEqProofs (disch := first | exact dsch | fail) only [go_sem, ↓reduceIte, Nat.reduceEqDiff]
    exact ⟨[], _, [], _, [], rfl, .start, h2, by simp, rfl, .inl ⟨rfl, rfl⟩⟩
end Go.Sim
