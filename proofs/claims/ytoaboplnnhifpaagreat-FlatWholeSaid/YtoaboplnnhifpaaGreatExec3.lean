/- A part of the proof of a law of module cupola: Exec3. It has no conditions of its own. -/
import Derived.Test.YtoaboplnnhifpaaGreatExec2
import Derived.Test.YtoaboplnnhifpaaGreatValsB
set_option linter.all false
namespace Go.Sim
open Enc (enc)
open Go.Proofs

theorem join1 (t : Tr) (h : FineT t) : Fun Tryz.prog 182 [enc t] (.t (.bool false)) := by
  refine Fun.go (b := false) Tryz.func182 rfl rfl (by kernel_rfl) (by kernel_rfl) ?_
  simp -implicitDefEqProofs (disch := first | exact dsch | fail) only [go_sem, ↓reduceIte, Nat.reduceEqDiff, pu_fine h]
theorem index_tr (l : List Tr) (h : ∀ t ∈ l, FineT t) (hl : l.length ≤ 1000000) : Fun Tryz.prog 236 [enc l, .fn 182] (.t (.int .i64 (-1))) := by
  refine Fun.go (b := false) Tryz.func236 rfl rfl (by kernel_rfl) (by kernel_rfl) ?_
  simp -implicitDefEqProofs (disch := first | exact dsch | fail) only [go_sem, ↓reduceIte, Nat.reduceEqDiff]
  refine loop_k (n := l.length) [0, 1, 7] (by kernel_rfl) (fun i e H => e 8 = .t (.int .i64 i) ∧ H = []) ?_ ?_
  · rintro i e H hi hk ⟨hc, rfl⟩
    simp only [keepP, go_sem, ↓reduceIte, Nat.reduceEqDiff, and_true] at hk
    by_cases hlt : i < l.length
    · have hj := fun K => (join1 (gd l i) (h _ (gd_mem hlt))).pu (K := K)
      simp -implicitDefEqProofs (disch := first | exact dsch | fail) only [go_sem, ↓reduceIte, Nat.reduceEqDiff, hk, hc, hj]
      exact hlt
    · obtain rfl : i = l.length := by omega
      simp -implicitDefEqProofs (disch := first | exact dsch | fail) only [go_sem, ↓reduceIte, Nat.reduceEqDiff, hk, hc]
  · simp -implicitDefEqProofs (disch := first | exact dsch | fail) only [go_sem, ↓reduceIte, Nat.reduceEqDiff]
theorem contains_tr (l : List Tr) (h : ∀ t ∈ l, FineT t) (hl : l.length ≤ 1000000) : Fun Tryz.prog 181 [enc l, .fn 182] (.t (.bool false)) := by
  refine Fun.go (b := false) Tryz.func181 rfl rfl (by kernel_rfl) (by kernel_rfl) ?_
  simp -implicitDefEqProofs (disch := first | exact dsch | fail) only [go_sem, ↓reduceIte, Nat.reduceEqDiff, (index_tr l h hl).pu]
  rfl

def nEv (l : List Tr) : Nat := (l.map fun t => t.ev.length).sum
def zeroP : ExP := ⟨[], fun _ _ => false, fun _ _ => false, fun _ _ => false, fun _ _ => false, fun _ _ => false, []⟩
def joinTo (l : List Tr) : Nat → ExP
  | 0 => zeroP
  | k + 1 => addP (joinTo l k) k (gd l k)
def joinP (l : List Tr) : ExP := joinTo l l.length
def joinR (l : List Tr) : Ex := (joinP l).ex (nEv l)
theorem nEv_take {l : List Tr} {i : Nat} (h : i < l.length) : nEv (l.take (i + 1)) = nEv (l.take i) + (gd l i).ev.length := by
  rw [← take_gd h]; simp [nEv]
theorem nEv_le {l : List Tr} (i : Nat) : nEv (l.take i) ≤ nEv l := by
  have : nEv l = nEv (l.take i) + nEv (l.drop i) := by
    unfold nEv; rw [← List.sum_append, ← List.map_append, List.take_append_drop]
  omega
theorem joinTo_ev {l : List Tr} : ∀ {k : Nat}, k ≤ l.length → (joinTo l k).ev.length = nEv (l.take k) ∧ (joinTo l k).regs.length = k
  | 0, _ => ⟨rfl, rfl⟩
  | k + 1, h => by
    obtain ⟨h1, h2⟩ := joinTo_ev (l := l) (k := k) (by omega)
    rw [joinTo, nEv_take (by omega)]
    refine ⟨?_, ?_⟩
    · simp [addP, addTo, h1]
    · simp [addP, h2]
theorem ExAt.ext {H A : Heap} {n : Nat} {x : ExP} (h : ExAt H A n x) (X : Heap) : ExAt (H ++ X) A n x := by
  obtain ⟨st, ce, cp, ca, cd, cc, cr, cg, R, rfl, hE, hP, hA, hD, hC, hM, hG⟩ := h
  exact ⟨st, ce, cp, ca, cd, cc, cr, cg, R ++ X, by simp, hE.ext _, hP, hA, hD, hC, hM, hG.ext _⟩

theorem RelV.toT3 {A A' : Heap} {n : Nat} {v : V} {r : Rl} (h : RelV A n v r) (hA : A'.length = A.length) (st : Bool) (o : Obj) (R : Heap) : Sim.toT (A' ++ ⟨vs (noneR n), 1, st⟩ :: o :: R) 3 v = some (enc r) := by
  rcases h with rfl | ⟨rfl, rfl⟩
  · rw [toT_t]
  · rw [toT3_ref, cur_some (o := ⟨vs (noneR n), 1, st⟩) (by rw [← hA, gx0]; rfl) (by rw [vs_len, noneR_len]), Option.bind_some, toTo2_vs]
theorem LAt.toT3 {α : Type} [Enc α] {A A' : Heap} {v : V} {l : List α} {sz : Nat} {R : Heap} (h : LAt A R v l sz) (hA : A'.length = A.length) (a b : Obj) : Sim.toT (A' ++ a :: b :: R) 3 v = some (enc l) := by
  rcases h with ⟨rfl, rfl⟩ | ⟨m, rfl, h⟩
  · rw [toT_ex]; rfl
  · rw [toT3_ref, cur_some (o := ⟨vs l, sz, false⟩) (by rw [← hA, gxk]; simpa using h) (by rw [vs_len]), Option.bind_some, toTo2_vs]
theorem RelV.cell {A : Heap} {n : Nat} {v : V} {r : Rl} (h : RelV A n v r) : V.cell1 v = true := by
  rcases h with rfl | ⟨rfl, _⟩ <;> rfl
theorem LAt.cell {α : Type} [Enc α] {A : Heap} {v : V} {l : List α} {sz : Nat} {R : Heap} (h : LAt A R v l sz) : V.cell1 v = true := by
  rcases h with ⟨rfl, _⟩ | ⟨_, rfl, _⟩ <;> rfl
def zeroExV : V := .agg [.ex [], .ex [], .ex [], .ex [], .ex [], .ex [], .ex []]
set_option maxRecDepth 100000 in
theorem exec_Join (l : List Tr) (hf : ∀ t ∈ l, FineT t) (hl : l.length ≤ 3) (hn : nEv l ≤ 24) : Fun Tryz.prog 101 [enc l] (.tup [.t (enc (joinR l)), .t (.int .i64 0)]) := by
  refine Fun.go (b := false) Tryz.func101 rfl rfl (by kernel_rfl) (by kernel_rfl) ?_
  simp -implicitDefEqProofs (disch := first | exact dsch | fail) only [go_sem, ↓reduceIte, Nat.reduceEqDiff]
  refine loop_k (n := l.length) [0, 2, 3, 11, 12] (by kernel_rfl) (fun i e H => e 13 = .t (.int .i64 i) ∧ e 4 = .t (.int .i64 (nEv (l.take i))) ∧ ∃ G, H = ⟨[zeroExV], 7, false⟩ :: G) ?_ ?_
  · rintro i e H hi hk ⟨hc, h4, G, rfl⟩
    simp only [keepP, go_sem, ↓reduceIte, Nat.reduceEqDiff, and_true] at hk
    by_cases hlt : i < l.length
    · have hs := nEv_take hlt
      have hle := nEv_le (l := l) (i + 1)
      simp -implicitDefEqProofs (disch := first | exact dsch | fail) only [go_sem, ↓reduceIte, Nat.reduceEqDiff, hk, hc, h4]
      exact ⟨hlt, vint (by rw [hs]; omega), _, rfl⟩
    · obtain rfl : i = l.length := by omega
      rw [List.take_length] at h4
      simp -implicitDefEqProofs (disch := first | exact dsch | fail) only [go_sem, ↓reduceIte, Nat.reduceEqDiff, hk, hc, h4, (contains_tr l hf (by omega)).pu, (rel_New (nEv l) (by omega)).pu, gx0, gxk, sx0, sxk, List.append_assoc]
      refine loop_k (n := l.length) [2, 3, 8, 39, 40] (by kernel_rfl) (fun j e H => e 41 = .t (.int .i64 j) ∧ ExAt H (⟨[zeroExV], 7, false⟩ :: G) (nEv l) (joinTo l j)) ?_ ?_
      · rintro j e2 H2 hj hk2 ⟨hc2, hX⟩
        simp only [keepP, go_sem, ↓reduceIte, Nat.reduceEqDiff, and_true] at hk2
        by_cases hlt2 : j < l.length
        · obtain ⟨q1, q2⟩ := joinTo_ev (l := l) (k := j) (by omega)
          have hs := nEv_take hlt2
          have hle := nEv_le (l := l) (j + 1)
          simp -implicitDefEqProofs (disch := first | exact dsch | fail) only [go_sem, ↓reduceIte, Nat.reduceEqDiff, hk, hk2, hc2]
          refine F_of (exec_add (A := ⟨[zeroExV], 7, false⟩ :: G) (n := nEv l) (th := j) (t := gd l j) (by omega) (hX.ext [⟨[.t (enc (gd l j))], 16, false⟩]) (hf _ (gd_mem hlt2)) (by omega) (by omega)) (toTs_none (v := .ptr (G.length + 1 + 1) 1 0 0) (by simp) (toT_ptr)) (by rintro _ _ ⟨rfl, _⟩; rfl) ?_
          rintro _ H' ⟨rfl, hX'⟩
          simp -implicitDefEqProofs (disch := first | exact dsch | fail) only [go_sem, ↓reduceIte, Nat.reduceEqDiff, hk, hk2, hc2]
          exact ⟨hlt2, hX'⟩
        · obtain rfl : j = l.length := by omega
          obtain ⟨st, ce, cp, ca, cd, cc, cr, cg, R, rfl, hE, hP, hA, hD, hC, hM, hG⟩ := hX
          have hce : ∀ l, allT (ce :: l) = none := by
            intro l
            rcases hE with ⟨rfl, _⟩ | ⟨_, rfl, _⟩ <;> rfl
          have tE := fun o' b => hE.toT3 (A' := o' :: G) rfl ⟨vs (noneR (nEv l)), 1, st⟩ b
          have tG := fun o' b => hG.toT3 (A' := o' :: G) rfl ⟨vs (noneR (nEv l)), 1, st⟩ b
          have tP := fun o' b => hP.toT3 (A' := o' :: G) rfl st b R
          have tA := fun o' b => hA.toT3 (A' := o' :: G) rfl st b R
          have tD := fun o' b => hD.toT3 (A' := o' :: G) rfl st b R
          have tC := fun o' b => hC.toT3 (A' := o' :: G) rfl st b R
          have tM := fun o' b => hM.toT3 (A' := o' :: G) rfl st b R
          simp only [List.cons_append] at tE tG tP tA tD tC tM
          simp -implicitDefEqProofs (disch := first | exact dsch | (simp only [go_sem, hk, hk2, hc2, gx0, gxk, sx0, sxk, List.append_assoc, hce, tE, tG, tP, tA, tD, tC, tM, hE.cell, hP.cell, hA.cell, hD.cell, hC.cell, hM.cell, hG.cell]; omega) | (refine of_eq_true ?_; simp (disch := first | omega | (refine of_eq_true ?_; simp only [go_sem, hk, hk2, hc2, gx0, gxk, sx0, sxk, List.append_assoc, hce, tE, tG, tP, tA, tD, tC, tM, hE.cell, hP.cell, hA.cell, hD.cell, hC.cell, hM.cell, hG.cell]; done) | (simp only [go_sem, hk, hk2, hc2, gx0, gxk, sx0, sxk, List.append_assoc, hce, tE, tG, tP, tA, tD, tC, tM, hE.cell, hP.cell, hA.cell, hD.cell, hC.cell, hM.cell, hG.cell]; omega)) only [go_sem, hk, hk2, hc2, gx0, gxk, sx0, sxk, List.append_assoc, hce, tE, tG, tP, tA, tD, tC, tM, hE.cell, hP.cell, hA.cell, hD.cell, hC.cell, hM.cell, hG.cell]; done) | fail) only [go_sem, ↓reduceIte, Nat.reduceEqDiff, hk, hk2, hc2, gx0, gxk, sx0, sxk, List.append_assoc, hce, tE, tG, tP, tA, tD, tC, tM, hE.cell, hP.cell, hA.cell, hD.cell, hC.cell, hM.cell, hG.cell]
          rfl
      · simp -implicitDefEqProofs (disch := first | exact dsch | fail) only [go_sem, ↓reduceIte, Nat.reduceEqDiff]
        refine ⟨false, .ex [], .ref (G.length + 1) (nEv l), .ref (G.length + 1) (nEv l), .ref (G.length + 1) (nEv l), .ref (G.length + 1) (nEv l), .ref (G.length + 1) (nEv l), .ex [], [], rfl, .inl ⟨rfl, rfl⟩, .inr ⟨rfl, rfl⟩, .inr ⟨rfl, rfl⟩, .inr ⟨rfl, rfl⟩, .inr ⟨rfl, rfl⟩, .inr ⟨rfl, rfl⟩, .inl ⟨rfl, rfl⟩⟩
  · simp -implicitDefEqProofs (disch := first | exact dsch | fail) only [go_sem, ↓reduceIte, Nat.reduceEqDiff]
    exact ⟨rfl, _, rfl⟩
theorem pu_Join {l : List Tr} (hf : ∀ t ∈ l, FineT t) (hl : l.length ≤ 3) (hn : nEv l ≤ 24) {K : Kp} : @Pu _ Tryz.prog 101 [enc l] K = K.k (.tup [.t (enc (joinR l)), .t (.int .i64 0)]) := (exec_Join l hf hl hn).pu

theorem fine_wf {locs : Int} {t : Tr} (h : WfT locs t) (h8 : t.ev.length ≤ 8) : FineT t := by
  refine ⟨h.addr, h.data, h.ctrl, h.pair, h8, fun i hi => ?_, fun i hi => ?_⟩
  · apply BitVec.eq_of_getLsbD_eq
    intro j hj
    rw [BitVec.getLsbD_ushiftRight, BitVec.getLsbD_or, BitVec.getLsbD_or]
    have key : ∀ x : U32, RdB t.ev i x → x.getLsbD (i + j) = false := by
      intro x hx
      cases hb : x.getLsbD (i + j)
      · rfl
      · have := (hx _ hb).1; omega
    rw [key _ (h.addrB i hi), key _ (h.dataB i hi), key _ (h.ctrlB i hi)]
    simp
  · by_cases hp : 0 ≤ gd t.pair i
    · exact (h.prYes i hi hp).1
    · omega
def waysTo (t : Te) (vals : List Int) : Nat → Option (List (List Tr))
  | 0 => some [[]]
  | k + 1 => (waysTo t vals k).bind fun ws => if 20000 < ws.length * (tracesR (gd t.th k) t.init.length vals).length then none else some (ws.flatMap fun w => (tracesR (gd t.th k) t.init.length vals).map fun x => w ++ [x])
def allE (t : Te) : Int := if ofE t ≠ 0 then ofE t else if (waysTo t (ofR t) t.th.length).isSome then 0 else 3
def allR (t : Te) : List Ex := if ofE t ≠ 0 then [] else ((waysTo t (ofR t) t.th.length).getD []).map joinR
theorem ways_mem {t : Te} {vals : List Int} : ∀ {k : Nat} {ws : List (List Tr)}, waysTo t vals k = some ws → ∀ w ∈ ws, w.length = k ∧ ∀ j, j < k → gd w j ∈ tracesR (gd t.th j) t.init.length vals
  | 0, ws, h, w, hw => by
    simp [waysTo] at h; subst h
    rw [List.mem_singleton] at hw; subst hw
    exact ⟨rfl, fun j hj => by omega⟩
  | k + 1, ws, h, w, hw => by
    rw [waysTo, Option.bind_eq_some_iff] at h
    obtain ⟨ws0, h0, h⟩ := h
    split at h
    · cases h
    · cases h
      obtain ⟨w0, hw0, hw⟩ := List.mem_flatMap.1 hw
      obtain ⟨x, hx, rfl⟩ := List.mem_map.1 hw
      obtain ⟨h1, h2⟩ := ways_mem h0 w0 hw0
      refine ⟨by simp [h1], fun j hj => ?_⟩
      by_cases e : j = k
      · subst e; rw [← h1, gd_new]; rw [h1]; exact hx
      · rw [gd_old (by omega)]; exact h2 j (by omega)
theorem ways_len {t : Te} {vals : List Int} : ∀ {k : Nat} {ws : List (List Tr)}, waysTo t vals k = some ws → ws.length ≤ 20000
  | 0, ws, h => by simp [waysTo] at h; subst h; simp
  | k + 1, ws, h => by
    rw [waysTo, Option.bind_eq_some_iff] at h
    obtain ⟨ws0, h0, h⟩ := h
    split at h
    · cases h
    · rename_i hle
      cases h
      have := flat_len (l := ws0) (f := fun w => (tracesR (gd t.th k) t.init.length vals).map fun x => w ++ [x]) (m := (tracesR (gd t.th k) t.init.length vals).length) fun w _ => by simp
      omega
end Go.Sim
