/- A part of the proof of a law of module cupola: FlatH. It has no conditions of its own. -/
import Derived.Test.YtoaboplnnhifpaaGreatFlatL
import Derived.Test.YtoaboplnnhifpaaGreatFlatF
set_option linter.all false
set_option maxRecDepth 100000
namespace Go.Sim
open Enc (enc)
open Go.Proofs

abbrev U8 := BitVec 8
instance : Enc U8 := ⟨fun b => .int .u8 (b.toNat : Int), 0#8, 1, by decide, fun _ => rfl⟩
instance : One U8 := ⟨rfl, fun _ => rfl, fun _ => rfl⟩
@[go_sem] theorem enc_u8 (b : U8) : (enc b : T) = .int .u8 (b.toNat : Int) := rfl

theorem sub_lenF : ∀ {m l : List Nat}, m.Nodup → (∀ a ∈ m, a ∈ l) → m.length ≤ l.length
  | [], _, _, _ => by simp
  | a :: m, l, hd, hs => by
    have hd := List.nodup_cons.1 hd
    have ha := hs a (by simp)
    have := sub_lenF (m := m) (l := l.erase a) hd.2 (fun b hb => (List.mem_erase_of_ne (fun e : b = a => hd.1 (by rw [← e]; exact hb))).2 (hs b (by simp [hb])))
    rw [List.length_erase_of_mem ha] at this
    have := List.length_pos_of_mem ha
    simp only [List.length_cons]
    omega
theorem nodup_lenF {n : Nat} {l : List Nat} (hd : l.Nodup) (hl : ∀ a ∈ l, a < n) : l.length ≤ n := by
  have := sub_lenF (l := List.range n) hd (fun a ha => List.mem_range.2 (hl a ha))
  rwa [List.length_range] at this
theorem bd_inv {n : Int} {x : Ex} {init : List Int} {h : List Nat} {s : Fs} (W : WfE n x) (hk : init.length ≤ 100) (I : FInv x init h s) : BdS x init s := by
  have hn := W.n
  have hl := nodup_lenF I.nd (fun a ha => (I.mem a ha).1)
  refine ⟨hn, hk, I.ll, I.lf, fun l hm => ?_⟩
  obtain ⟨loc, hloc, rfl⟩ := List.mem_iff_getElem.1 hm
  rw [gd_get hloc, I.rows loc (by rw [← I.ll]; exact hloc), nats_len]
  have := List.length_filter_le (wrQ x loc) h
  omega

theorem flatSteps_run (t : Te) {a : Int} (ha : 0 ≤ a ∧ a < 65536) (picks : List U8) : Fun Tryz.prog 3 [enc t, .int .u16 a, enc picks] (.t (.bool true)) := by
  refine Fun.go (b := false) Tryz.func3 rfl rfl (by kernel_rfl) (by kernel_rfl) ?_
  cases hf : fewB t
  · simp -implicitDefEqProofs (disch := first | exact dsch | fail) only [go_sem, ↓reduceIte, Nat.reduceEqDiff, hf]
  obtain ⟨f1, f2, f3⟩ := few_len hf
  obtain ⟨u, hw, hu⟩ := law19_one t hf ha
  have hwp := fun K => hw.pu (K := K)
  rcases hu with ⟨x, rfl⟩ | ⟨x, hx, he, rfl⟩
  · simp -implicitDefEqProofs (disch := first | exact dsch | fail) only [go_sem, ↓reduceIte, Nat.reduceEqDiff, hf, hwp]
  obtain ⟨W, _⟩ := all_wf hx
  have hok := W.ok
  have hn := W.n
  have hst := fun K => pu_Start (x := x) (init := t.init) (by omega) (by omega) (K := K)
  simp -implicitDefEqProofs (disch := first | exact dsch | fail) only [go_sem, ↓reduceIte, Nat.reduceEqDiff, hf, hwp, hst]
  refine loop_k (n := 30) [2, 3, 7, 8, 10] (by kernel_rfl) (fun i e H => e 11 = .t (.int .i64 i) ∧ ∃ h s R, FRun x t.init h s ∧ H = ⟨[.t (enc t)], 2, false⟩ :: ⟨[.t (enc x)], 7, false⟩ :: ⟨[.t (enc s)], 3, false⟩ :: R) ?_ ?_
  · rintro i e H hi hk ⟨hct, h, s, R, r, rfl⟩
    simp only [keepP, go_sem, ↓reduceIte, Nat.reduceEqDiff, and_true] at hk
    have I := run_inv W rfl r
    have B := bd_inv W (by omega) I
    have hmv := fun K => pu_Moves W B (K := K)
    by_cases hlt : i < picks.length
    · by_cases hlt2 : i < 30
      · by_cases hz : (movesR x t.init s).length = 0
        · simp -implicitDefEqProofs (disch := first | exact dsch | fail) only [go_sem, ↓reduceIte, Nat.reduceEqDiff, hk, hct, gx0, gxk, sx0, sxk, List.append_assoc, hmv, hz]
        · have hpl := (gd picks i).isLt
          obtain ⟨m1, hm1, hr1⟩ := rem_at (w := ((gd picks i).toNat : Int)) (n := (movesR x t.init s).length) (by omega) (by omega)
          have hin := gd_mem hm1
          obtain ⟨k, loc, o, hm, hkl, hloc, hll, hc⟩ := moves_ok W hin
          have hd0 := fun K => pu_Do W B (m := gd (movesR x t.init s) m1) (K := K)
          rw [if_pos hin, show doS x t.init s (gd (movesR x t.init s) m1) = doneR x s (gd (movesR x t.init s) m1) by unfold doS; rw [if_pos hin]] at hd0
          obtain ⟨I', _⟩ := step_inv W rfl I hkl hc
          have B' := bd_inv W (by omega) I'
          obtain ⟨p1, p2, p3, p4, p5⟩ := steps_pure W rfl I hkl hc
          have hd1 := fun K => pu_Do W B' (m := ⟨k, o⟩) (K := K)
          rw [if_neg p1, show doS x t.init (doneR x s ⟨k, o⟩) ⟨k, o⟩ = ⟨0#32, [], []⟩ by unfold doS; rw [if_neg p1]] at hd1
          rw [hm] at hd0
          have r' := FRun.step k o r hkl hc
          have p0 : (doneR x s ⟨k, o⟩).d = s.d ||| 1#32 <<< k := by unfold doneR; simp
          generalize doneR x s ⟨k, o⟩ = s' at *
          by_cases hk1 : (gd x.ev k).kind = 1
          · have hne := p4.1 hk1
            cases o
            · simp -implicitDefEqProofs (disch := first | exact dsch | fail) only [go_sem, ↓reduceIte, Nat.reduceEqDiff, hk, hct, gx0, gxk, sx0, sxk, List.append_assoc, hmv, hz, hr1, hm, hd0, hd1, p0, p2, p3, hk1, hne, Bool.not_true, Bool.not_false, beq_self_eq_true]
              exact ⟨hlt2, _, s', _, r', rfl⟩
            · simp -implicitDefEqProofs (disch := first | exact dsch | fail) only [go_sem, ↓reduceIte, Nat.reduceEqDiff, hk, hct, gx0, gxk, sx0, sxk, List.append_assoc, hmv, hz, hr1, hm, hd0, hd1, p0, p2, p3, hk1, hne, Bool.not_true, Bool.not_false, beq_self_eq_true]
              exact ⟨hlt2, _, s', _, r', rfl⟩
          · have hee : gd s'.f k = -2 := Classical.byContradiction fun h => hk1 (p4.2 h)
            cases o
            · simp -implicitDefEqProofs (disch := first | exact dsch | fail) only [go_sem, ↓reduceIte, Nat.reduceEqDiff, hk, hct, gx0, gxk, sx0, sxk, List.append_assoc, hmv, hz, hr1, hm, hd0, hd1, p0, p2, p3, hk1, hee, Bool.not_true, Bool.not_false, beq_self_eq_true]
              exact ⟨hlt2, _, s', _, r', rfl⟩
            · exact absurd (p5 rfl) hk1
      · simp -implicitDefEqProofs (disch := first | exact dsch | fail) only [go_sem, ↓reduceIte, Nat.reduceEqDiff, hk, hct]
    · simp -implicitDefEqProofs (disch := first | exact dsch | fail) only [go_sem, ↓reduceIte, Nat.reduceEqDiff, hk, hct]
  · simp -implicitDefEqProofs (disch := first | exact dsch | fail) only [go_sem, ↓reduceIte, Nat.reduceEqDiff]
    exact ⟨[], _, _, .start, rfl⟩
end Go.Sim
