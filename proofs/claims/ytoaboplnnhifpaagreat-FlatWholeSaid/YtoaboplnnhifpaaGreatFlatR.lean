/- Part: FlatR -/
import Derived.Test.YtoaboplnnhifpaaGreatFlatN
import Derived.Test.YtoaboplnnhifpaaGreatFlatS2
set_option linter.all false
set_option maxRecDepth 100000
namespace Go.Sim
open Enc (enc)
open Go.Proofs
theorem order_size {r : Rl} (hr : r.length <= 32) : Fun Tryz.prog 151 [enc r] (.t (.int .i64 r.length)) := by
  refine Fun.go (b := false) Tryz.func151 rfl rfl (by kernel_rfl) (by kernel_rfl) ?_
  have hl := orR_len r r
  simp -implicitDefEqProofs (disch := first | exact dsch | fail) only [go_sem, ↓reduceIte, Nat.reduceEqDiff, hl]
@[go_sem] theorem pu_size {r : Rl} (hr : r.length <= 32) {K : Kp} : @Pu _ Tryz.prog 151 [enc r] K = K.k (.t (.int .i64 r.length)) := (order_size hr).pu
def freeTo (r : Rl) (d : U32) (n : Nat) : List Int := nats ((List.range n).filter (freeQ r d))
theorem freeTo_step (r : Rl) (d : U32) (n : Nat) : freeTo r d (n + 1) = if freeQ r d n then freeTo r d n ++ [(n : Int)] else freeTo r d n := by
  unfold freeTo nats
  rw [List.range_succ, List.filter_append, List.map_append]
  cases h : freeQ r d n <;> simp [h]
theorem freeTo_len (r : Rl) (d : U32) (n : Nat) : (freeTo r d n).length <= n := by
  unfold freeTo nats
  have := List.length_filter_le (freeQ r d) (List.range n)
  rw [List.length_range] at this
  rw [List.length_map]; exact this
theorem order_free {r : Rl} (hr : r.length <= 32) {d : U32} : Fun Tryz.prog 152 [enc r, .int .u32 (d.toNat : Int)] (.t (enc (nats (freeR r d)))) := by
  have hfin : nats (freeR r d) = freeTo r d r.length := rfl
  rw [hfin]
  refine Fun.go (b := false) Tryz.func152 rfl rfl (by kernel_rfl) (by kernel_rfl) ?_
  simp -implicitDefEqProofs (disch := first | exact dsch | fail) only [go_sem, ↓reduceIte, Nat.reduceEqDiff]
  refine loop_k (n := r.length) [0, 1, 4, 9] (by kernel_rfl) (fun i e H => e 10 = .t (.int .i64 i) /\ ∃ v, e 5 = v /\ AccB [] H v (freeTo r d i)) ?_ ?_
  . rintro i e H hi hk ⟨hct, v, h5, hA⟩
    simp only [keepP, go_sem, ↓reduceIte, Nat.reduceEqDiff, and_true] at hk
    by_cases hlt : i < r.length
    . have hst := freeTo_step r d i
      have hle := freeTo_len r d i
      have hq : freeQ r d i = (!d.getLsbD i && decide (((pairsR (onlyR r (~~~d) (1#32 <<< i))).length : Int) = 0)) := rfl
      obtain ⟨v', H', f, hp, hA2⟩ := hA.push ((i : Nat) : Int) (by_ := 8) (by omega)
      have hp2 : appendV (some (1, 8)) H v [V.t (T.int .i64 (i : Int))] = some ⟨v', H', f⟩ := hp
      cases c1 : d.getLsbD i
      . by_cases c2 : ((pairsR (onlyR r (~~~d) (1#32 <<< i))).length : Int) = 0
        . rw [hq, c1, decide_eq_true c2, if_pos (by decide)] at hst
          simp -implicitDefEqProofs (disch := first | exact dsch | fail) only [go_sem, ↓reduceIte, Nat.reduceEqDiff, hk, hct, h5, c1, c2, hp2]
          exact ⟨hlt, _, rfl, by rw [hst]; exact hA2⟩
        . rw [hq, c1, decide_eq_false c2, if_neg (by decide)] at hst
          simp -implicitDefEqProofs (disch := first | exact dsch | fail) only [go_sem, ↓reduceIte, Nat.reduceEqDiff, hk, hct, h5, c1, c2]
          exact ⟨hlt, _, rfl, by rw [hst]; exact hA⟩
      . rw [hq, c1, Bool.not_true, Bool.false_and, if_neg (by decide)] at hst
        simp -implicitDefEqProofs (disch := first | exact dsch | fail) only [go_sem, ↓reduceIte, Nat.reduceEqDiff, hk, hct, h5, c1]
        exact ⟨hlt, _, rfl, by rw [hst]; exact hA⟩
    . obtain rfl : i = r.length := by omega
      obtain ⟨R, rfl, hA⟩ := hA
      rcases hA with ⟨h0, rfl⟩ | ⟨m, rfl, hg⟩
      . rw [h0]
        simp -implicitDefEqProofs (disch := first | exact dsch | fail) only [go_sem, ↓reduceIte, Nat.reduceEqDiff, hk, hct, h5]
        rfl
      . simp only [List.nil_append, List.length_nil, Nat.zero_add] at hg h5 ⊢
        simp -implicitDefEqProofs (disch := first | exact dsch | fail) only [go_sem, ↓reduceIte, Nat.reduceEqDiff, hk, hct, h5, hg]
  . simp -implicitDefEqProofs (disch := first | exact dsch | fail) only [go_sem, ↓reduceIte, Nat.reduceEqDiff]
    exact ⟨_, rfl, [], rfl, .inl ⟨rfl, rfl⟩⟩
@[go_sem] theorem pu_free {r : Rl} (hr : r.length <= 32) {d : U32} {K : Kp} : @Pu _ Tryz.prog 152 [enc r, .int .u32 (d.toNat : Int)] K = K.k (.t (enc (nats (freeR r d)))) := (order_free hr).pu
def firstL (r : Rl) : List Int := match firstR r with | some l => nats l | none => []
theorem order_First {r : Rl} (hr : r.length <= 32) : Fun Tryz.prog 80 [enc r] (.tup [.t (enc (firstL r)), .t (.bool (firstR r).isSome)]) := by
  refine Fun.go (b := false) Tryz.func80 rfl rfl (by kernel_rfl) (by kernel_rfl) ?_
  simp -implicitDefEqProofs (disch := first | exact dsch | fail) only [go_sem, ↓reduceIte, Nat.reduceEqDiff]
  refine loop_k (n := r.length) [0, 8] (by kernel_rfl) (fun i e H => e 9 = .t (.int .i64 i) /\ ∃ d l v, e 4 = .t (.int .u32 ((d : U32).toNat : Int)) /\ e 5 = v /\ AccB [] H v (nats l) /\ l.length = i /\ firstGo r (r.length - i) d l = firstR r) ?_ ?_
  . rintro i e H hi hk ⟨hct, d, l, v, h4, h5, hA, hl, hfg⟩
    simp only [keepP, go_sem, ↓reduceIte, Nat.reduceEqDiff, and_true] at hk
    by_cases hlt : i < r.length
    . have hk1 : r.length - i = (r.length - (i + 1)) + 1 := by omega
      rw [hk1, firstGo] at hfg
      cases hfr : freeR r d with
      | nil =>
        rw [hfr] at hfg
        have hF : firstL r = [] := by unfold firstL; rw [← hfg]
        rw [hF, ← hfg]
        have hn0 : nats ([] : List Nat) = [] := rfl
        simp -implicitDefEqProofs (disch := first | exact dsch | fail) only [go_sem, ↓reduceIte, Nat.reduceEqDiff, hk, hct, h4, h5, hfr, hn0]
        rfl
      | cons a m =>
        rw [hfr] at hfg
        have ha : a < r.length := by
          have : a ∈ freeR r d := by rw [hfr]; simp
          exact List.mem_range.1 (List.mem_filter.1 this).1
        have hnl : (nats (a :: m)).length = m.length + 1 := by simp [nats_len]
        have hng : gd (nats (a :: m)) 0 = (a : Int) := rfl
        have hll := nats_len l
        obtain ⟨v', H', f, hp, hA2⟩ := hA.push ((a : Nat) : Int) (by_ := 8) (by omega)
        have hp2 : appendV (some (1, 8)) H v [V.t (T.int .i64 (a : Int))] = some ⟨v', H', f⟩ := hp
        have hml : (freeR r d).length <= r.length := by
          unfold freeR
          have := List.length_filter_le (freeQ r d) (List.range r.length)
          rwa [List.length_range] at this
        rw [hfr, List.length_cons] at hml
        simp -implicitDefEqProofs (disch := first | exact dsch | fail) only [go_sem, ↓reduceIte, Nat.reduceEqDiff, hk, hct, h4, h5, hfr, hnl, hng, hp2]
        exact ⟨hlt, d ||| 1#32 <<< a, l ++ [a], v', rfl, rfl, by rw [show nats (l ++ [a]) = nats l ++ [(a : Int)] by simp [nats]]; exact hA2, by simp [hl], hfg⟩
    . obtain rfl : i = r.length := by omega
      rw [Nat.sub_self, firstGo] at hfg
      have hF : firstL r = nats l := by unfold firstL; rw [← hfg]
      rw [hF, ← hfg]
      obtain ⟨R, rfl, hA⟩ := hA
      rcases hA with ⟨h0, rfl⟩ | ⟨m, rfl, hg⟩
      . rw [h0]
        simp -implicitDefEqProofs (disch := first | exact dsch | fail) only [go_sem, ↓reduceIte, Nat.reduceEqDiff, hk, hct, h4, h5]
        rfl
      . simp only [List.nil_append, List.length_nil, Nat.zero_add] at hg h5 ⊢
        simp -implicitDefEqProofs (disch := first | exact dsch | fail) only [go_sem, ↓reduceIte, Nat.reduceEqDiff, hk, hct, h4, h5, hg]
        first | done | rfl
  . simp -implicitDefEqProofs (disch := first | exact dsch | fail) only [go_sem, ↓reduceIte, Nat.reduceEqDiff]
    exact ⟨0#32, [], _, rfl, rfl, ⟨[], rfl, .inl ⟨rfl, rfl⟩⟩, rfl, rfl⟩
@[go_sem] theorem pu_First {r : Rl} (hr : r.length <= 32) {K : Kp} : @Pu _ Tryz.prog 80 [enc r] K = K.k (.tup [.t (enc (firstL r)), .t (.bool (firstR r).isSome)]) := (order_First hr).pu
end Go.Sim
