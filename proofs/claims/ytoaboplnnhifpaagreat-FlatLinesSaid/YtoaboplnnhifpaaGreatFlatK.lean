/- A part of the proof of a law of module cupola: FlatK. It has no conditions of its own. -/
import Derived.Test.YtoaboplnnhifpaaGreatFlatH
set_option linter.all false
set_option maxRecDepth 100000
namespace Go.Sim
open Enc (enc)
open Go.Proofs

@[go_sem] theorem lit_Fs {H : Heap} {len by_ : Nat} {l : List (Nat × V)} (h2 : 0 < by_) (h3 : len * 3 ≤ 16777216) (h4 : allC 3 l = true) :
    lit1 H len (.agg [.t (.int .u32 0), .ex [], .ex []]) (3, by_) l = (litV H (List.replicate len (enc (⟨0#32, [], []⟩ : Fs))) l).bind fun xs => some ⟨.ex xs, foldH H l, effC l⟩ := lit1_go (z' := enc (⟨0#32, [], []⟩ : Fs)) rfl rfl (by decide) h2 h3 h4
theorem flat_Next {x : Ex} {init : List Int} {s : Fs} {n : Nat} (W : WfE n x) (B : BdS x init s) :
    Fun Tryz.prog 21 [enc x, enc init, enc s] (.tup [.t (enc (movesR x init s)), .t (enc ((movesR x init s).map (doneR x s)))]) := by
  have hok := W.ok
  have hn := B.n
  have hmv := fun K => pu_Moves W B (K := K)
  have hml : (movesR x init s).length ≤ 100 := by
    unfold movesR
    split
    · have := movesTo_len x init s x.ev.length; omega
    · simp
  have hmo : ∀ m ∈ movesR x init s, ∀ K, @Pu _ Tryz.prog 62 [enc x, enc s, enc m] K = K.k (.t (enc (doneR x s m))) := by
    intro m hm K
    obtain ⟨i, loc, o, rfl, hi, hloc, hll, _⟩ := moves_ok W hm
    exact (flat_done W B hi hloc hll o).pu (K := K)
  refine Fun.go (b := false) Tryz.func21 rfl rfl (by kernel_rfl) (by kernel_rfl) ?_
  simp -implicitDefEqProofs (disch := first | exact dsch | (simp only [go_sem, hmv]; omega) | (refine of_eq_true ?_; simp (disch := first | omega | (refine of_eq_true ?_; simp only [go_sem, hmv]; done) | (simp only [go_sem, hmv]; omega)) only [go_sem, hmv]; done) | fail) only [go_sem, ↓reduceIte, Nat.reduceEqDiff, hmv]
  generalize movesR x init s = l at hml hmo ⊢
  refine loop_k (n := l.length) [3, 5, 6, 7, 8, 16, 17] (by kernel_rfl) (fun i e H => e 18 = .t (.int .i64 i) ∧ ∃ v, e 9 = v ∧ AccS 3 [⟨[.t (enc x)], 7, false⟩, ⟨[.t (enc s)], 3, false⟩] H v ((l.take i).map (doneR x s))) ?_ ?_
  · rintro i e H hi hk ⟨hct, v, h9, hA⟩
    simp only [keepP, go_sem, ↓reduceIte, Nat.reduceEqDiff, and_true] at hk
    by_cases hlt : i < l.length
    · have hst := map_step (f := doneR x s) hlt
      have hd := hmo _ (gd_mem hlt)
      have hA1' := hA.mono [⟨[.t (enc (gd l i))], 2, false⟩]
      obtain ⟨v', H', f, hp, hA2⟩ := hA1'.push (doneR x s (gd l i)) rfl (by_ := 56) (by rw [List.length_map, List.length_take]; omega)
      obtain ⟨R1, rfl, _⟩ := hA
      have hp2 : appendV (some (3, 56)) (⟨[.t (enc x)], 7, false⟩ :: ⟨[.t (enc s)], 3, false⟩ :: (R1 ++ [⟨[.t (enc (gd l i))], 2, false⟩])) v [V.t (enc (doneR x s (gd l i)))] = some ⟨v', H', f⟩ := hp
      simp -implicitDefEqProofs (disch := first | exact dsch | (simp only [go_sem, hk, hct, h9, gx0, gxk, sx0, sxk, List.append_assoc, hd, hp2]; omega) | (refine of_eq_true ?_; simp (disch := first | omega | (refine of_eq_true ?_; simp only [go_sem, hk, hct, h9, gx0, gxk, sx0, sxk, List.append_assoc, hd, hp2]; done) | (simp only [go_sem, hk, hct, h9, gx0, gxk, sx0, sxk, List.append_assoc, hd, hp2]; omega)) only [go_sem, hk, hct, h9, gx0, gxk, sx0, sxk, List.append_assoc, hd, hp2]; done) | fail) only [go_sem, ↓reduceIte, Nat.reduceEqDiff, hk, hct, h9, gx0, gxk, sx0, sxk, List.append_assoc, hd, hp2]
      exact ⟨hlt, _, rfl, by rw [hst]; exact hA2⟩
    · obtain rfl : i = l.length := by omega
      rw [List.take_length] at hA
      obtain ⟨R, rfl, hA⟩ := hA
      rcases hA with ⟨h0, rfl⟩ | ⟨m, rfl, hg⟩
      · rw [h0]
        simp -implicitDefEqProofs (disch := first | exact dsch | (simp only [go_sem, hk, hct, h9]; omega) | (refine of_eq_true ?_; simp (disch := first | omega | (refine of_eq_true ?_; simp only [go_sem, hk, hct, h9]; done) | (simp only [go_sem, hk, hct, h9]; omega)) only [go_sem, hk, hct, h9]; done) | fail) only [go_sem, ↓reduceIte, Nat.reduceEqDiff, hk, hct, h9]
        rfl
      · have hg2 : (⟨[V.t (enc x)], 7, false⟩ :: ⟨[V.t (enc s)], 3, false⟩ :: R : Heap)[2 + m]? = some ⟨vs (l.map (doneR x s)), 3, false⟩ := by rw [Nat.add_comm]; exact hg
        simp -implicitDefEqProofs (disch := first | exact dsch | (simp only [go_sem, hk, hct, h9, hg, hg2]; omega) | (refine of_eq_true ?_; simp (disch := first | omega | (refine of_eq_true ?_; simp only [go_sem, hk, hct, h9, hg, hg2]; done) | (simp only [go_sem, hk, hct, h9, hg, hg2]; omega)) only [go_sem, hk, hct, h9, hg, hg2]; done) | fail) only [go_sem, ↓reduceIte, Nat.reduceEqDiff, hk, hct, h9, hg, hg2]
  · simp -implicitDefEqProofs (disch := first | exact dsch | fail) only [go_sem, ↓reduceIte, Nat.reduceEqDiff]
    exact ⟨_, rfl, [], rfl, .inl ⟨rfl, rfl⟩⟩
end Go.Sim
