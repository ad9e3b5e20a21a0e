/- Part: Coh, Ord, Ord2, OrdC -/
import Derived.Test.YtoaboplnnhifpaaGreatPur2
set_option linter.all false
set_option maxRecDepth 20000
namespace Go.Sim
open Enc (enc)
open Go.Proofs
theorem cellV_ev (x : Ev) : ⟨[V.t (enc x)], 7, false⟩ = (⟨[V.t (enc x)], 7, false⟩ : Obj) := rfl
def wrQ (x : Ex) (loc : Int) (k : Nat) : Bool := decide ((gd x.ev k).kind = 2) && decide ((gd x.ev k).loc = loc)
def wrTo (x : Ex) (loc : Int) (n : Nat) : List Int := ((List.range n).filter (wrQ x loc)).map fun (k : Nat) => (k : Int)
def writesR (x : Ex) (loc : Int) : List Int := wrTo x loc x.ev.length
theorem wrTo_step (x : Ex) (loc : Int) (n : Nat) : wrTo x loc (n + 1) = if wrQ x loc n then wrTo x loc n ++ [(n : Int)] else wrTo x loc n := by
  unfold wrTo
  rw [List.range_succ, List.filter_append, List.map_append]
  cases h : wrQ x loc n <;> simp [h]
theorem wrTo_len (x : Ex) (loc : Int) (n : Nat) : (wrTo x loc n).length <= n := by
  unfold wrTo
  have := List.length_filter_le (wrQ x loc) (List.range n)
  rw [List.length_range] at this
  rw [List.length_map]; exact this
theorem AccG.toT {R : Heap} {v : V} {l : List Int} (h : AccG R v l) (o : Obj) : Sim.toT (o :: R) depth v = some (enc l) := by
  rcases h with ⟨rfl, rfl⟩ | ⟨m, rfl, h2⟩
  . exact toT_ex _ _ _
  . rw [toT_ref', cur_some (o := ⟨vs l, 1, false⟩) (by rw [List.getElem?_cons_succ]; exact h2) (vs_len l), Option.bind_some, toTo_vs]
theorem coher_Writes {x : Ex} (hx : x.ev.length <= 32) {loc : Int} : Fun Tryz.prog 79 [enc x, .int .i64 loc] (.t (enc (writesR x loc))) := by
  refine Fun.go (b := false) Tryz.func79 rfl rfl (by kernel_rfl) (by kernel_rfl) ?_
  simp -implicitDefEqProofs (disch := first | exact dsch | fail) only [go_sem, ↓reduceIte, Nat.reduceEqDiff]
  refine loop_k (n := x.ev.length) [1, 4, 9, 10] (by kernel_rfl) (fun i e H => e 11 = .t (.int .i64 i) /\ ∃ v R, e 5 = v /\ H = ⟨[.t (enc x)], 7, false⟩ :: R /\ AccG R v (wrTo x loc i)) ?_ ?_
  . rintro i e H hi hk ⟨hc, v, R, h5, rfl, hA⟩
    simp only [keepP, go_sem, ↓reduceIte, Nat.reduceEqDiff, and_true] at hk
    by_cases hlt : i < x.ev.length
    . have hst := wrTo_step x loc i
      have hle := wrTo_len x loc i
      cases hq : wrQ x loc i
      . rw [hq, if_neg (by decide)] at hst
        have fin : ∃ v_1 R_1, v = v_1 /\ (⟨[V.t (enc x)], 7, false⟩ :: (R ++ [⟨[V.t (enc (gd x.ev i))], 7, false⟩]) : Heap) = ⟨[.t (enc x)], 7, false⟩ :: R_1 /\ AccG R_1 v_1 (wrTo x loc (i + 1)) := ⟨v, _, rfl, rfl, by rw [hst]; exact hA.mono _⟩
        unfold wrQ at hq
        by_cases q1 : (gd x.ev i).kind = 2
        . have q2 : ¬ (gd x.ev i).loc = loc := by simpa [q1] using hq
          simp -implicitDefEqProofs (disch := first | exact dsch | fail) only [go_sem, ↓reduceIte, Nat.reduceEqDiff, hk, hc, h5, gx0, gxk, sx0, sxk, List.append_assoc, q1, q2]
          exact ⟨hlt, fin⟩
        . simp -implicitDefEqProofs (disch := first | exact dsch | fail) only [go_sem, ↓reduceIte, Nat.reduceEqDiff, hk, hc, h5, gx0, gxk, sx0, sxk, List.append_assoc, q1]
          exact ⟨hlt, fin⟩
      . rw [hq, if_pos rfl] at hst
        obtain ⟨v', R', f, hp, hA'⟩ := (hA.mono [⟨[V.t (enc (gd x.ev i))], 7, false⟩]).push ⟨[.t (enc x)], 7, false⟩ (i : Int) (by omega)
        unfold wrQ at hq
        simp only [Bool.and_eq_true, decide_eq_true_eq] at hq
        obtain ⟨q1, q2⟩ := hq
        simp -implicitDefEqProofs (disch := first | exact dsch | fail) only [go_sem, ↓reduceIte, Nat.reduceEqDiff, hk, hc, h5, gx0, gxk, sx0, sxk, List.append_assoc, q1, q2, hp]
        exact ⟨hlt, _, _, rfl, rfl, by rw [hst]; exact hA'⟩
    . obtain rfl : i = x.ev.length := by omega
      have hfin : wrTo x loc x.ev.length = writesR x loc := rfl
      rw [hfin] at hA
      rcases hA with ⟨h0, rfl⟩ | ⟨m, rfl, hg⟩
      . rw [h0]
        simp -implicitDefEqProofs (disch := first | exact dsch | fail) only [go_sem, ↓reduceIte, Nat.reduceEqDiff, hk, hc, h5]
        rfl
      . simp -implicitDefEqProofs (disch := first | exact dsch | (simp only [go_sem, hk, hc, h5, hg]; omega) | (refine of_eq_true ?_; simp (disch := first | omega | (refine of_eq_true ?_; simp only [go_sem, hk, hc, h5, hg]; done) | (simp only [go_sem, hk, hc, h5, hg]; omega)) only [go_sem, hk, hc, h5, hg]; done) | fail) only [go_sem, ↓reduceIte, Nat.reduceEqDiff, hk, hc, h5, hg]
  . simp -implicitDefEqProofs (disch := first | exact dsch | fail) only [go_sem, ↓reduceIte, Nat.reduceEqDiff]
    exact ⟨_, _, rfl, rfl, .nil _⟩
@[go_sem] theorem pu_Writes {x : Ex} (hx : x.ev.length <= 32) {loc : Int} {K : Kp} : @Pu _ Tryz.prog 79 [enc x, .int .i64 loc] K = K.k (.t (enc (writesR x loc))) := (coher_Writes hx).pu
theorem writesR_len (x : Ex) (loc : Int) : (writesR x loc).length <= x.ev.length := wrTo_len _ _ _
theorem allT_vs {α : Type} [Enc α] (l : List α) : allT (vs l) = some (l.map enc) := by
  have key : ∀ xs : List T, allT (xs.map V.t) = some xs := by
    intro xs
    induction xs with
    | nil => rfl
    | cons x r ih => rw [List.map_cons, allT, ih]; rfl
  rw [← map_t_enc]; exact key _
theorem ints_at {H : Heap} {id : Nat} {l : List Int} (hg : H[id]? = some ⟨vs l, 1, false⟩) : intsAt H id l.length = some l := by
  unfold intsAt
  rw [cur_some hg (vs_len l), Option.bind_some, if_pos ⟨rfl, rfl⟩, allT_vs, Option.bind_some]
  exact intsT_enc l
theorem sort_dead (x : T) : Dead Tryz.prog 148 [x] := ⟨1, .dead, [], rfl, rfl⟩
theorem sort_nil (H : Heap) : FunH Tryz.prog 148 [.ex []] H (.tup []) H := ⟨1, rfl⟩
theorem sort_ref {H : Heap} {id : Nat} {l : List Int} (hg : H[id]? = some ⟨vs l, 1, false⟩) (hl : l.length <= 1000000) : FunH Tryz.prog 148 [.ref id l.length] H (.tup []) (H.set id ⟨vs (sortR l), 1, false⟩) := by
  refine ⟨1, ?_⟩
  show sortRun [.ref id l.length] H = _
  unfold sortRun
  simp only
  rw [ints_at hg, Option.bind_some, if_pos (by omega)]
  rfl
theorem compact_dead (x : T) : Dead Tryz.prog 149 [x] := ⟨1, .dead, [], rfl, rfl⟩
theorem compact_nil (H : Heap) : FunH Tryz.prog 149 [.ex []] H (.ex []) H := ⟨1, rfl⟩
theorem compact_ref {H : Heap} {id : Nat} {l : List Int} (hg : H[id]? = some ⟨vs l, 1, false⟩) (hl : l.length <= 1000000) : ∃ o, FunH Tryz.prog 149 [.ref id l.length] H (.t (enc (compactR l))) (H.set id o) := by
  refine ⟨⟨(compactR l ++ List.replicate (l.length - (compactR l).length) 0).map fun n => .t (intT n), 1, true⟩, 1, ?_⟩
  show compactRun [.ref id l.length] H = _
  unfold compactRun
  simp only
  rw [ints_at hg, Option.bind_some, if_pos (by omega)]
  rfl
def wlTo (x : Ex) (n : Nat) : List Int := ((x.ev.take n).filter fun e => decide (e.kind = 2)).map fun e => e.loc
theorem wlTo_step (x : Ex) {n : Nat} (h : n < x.ev.length) : wlTo x (n + 1) = if (gd x.ev n).kind = 2 then wlTo x n ++ [(gd x.ev n).loc] else wlTo x n := by
  unfold wlTo
  rw [← take_gd h, List.filter_append, List.map_append]
  by_cases h2 : (gd x.ev n).kind = 2 <;> simp [h2]
theorem wlTo_len (x : Ex) (n : Nat) : (wlTo x n).length <= n := by
  unfold wlTo
  rw [List.length_map]
  refine Nat.le_trans (List.length_filter_le _ _) ?_
  rw [List.length_take]; omega
def placesR (x : Ex) : List Int := onceR (wlTo x x.ev.length)
theorem coher_places {x : Ex} (hx : x.ev.length <= 32) : Fun Tryz.prog 77 [enc x] (.t (enc (placesR x))) := by
  refine Fun.go (b := false) Tryz.func77 rfl rfl (by kernel_rfl) (by kernel_rfl) ?_
  simp -implicitDefEqProofs (disch := first | exact dsch | fail) only [go_sem, ↓reduceIte, Nat.reduceEqDiff]
  refine loop_k (n := x.ev.length) [2, 7, 8] (by kernel_rfl) (fun i e H => e 9 = .t (.int .i64 i) /\ ∃ v R, e 3 = v /\ H = ⟨[.t (enc x)], 7, false⟩ :: R /\ AccG R v (wlTo x i)) ?_ ?_
  . rintro i e H hi hk ⟨hc, v, R, h3, rfl, hA⟩
    simp only [keepP, go_sem, ↓reduceIte, Nat.reduceEqDiff, and_true] at hk
    by_cases hlt : i < x.ev.length
    . have hst := wlTo_step x hlt
      have hle := wlTo_len x i
      by_cases q1 : (gd x.ev i).kind = 2
      . rw [if_pos q1] at hst
        obtain ⟨v', R', f, hp, hA'⟩ := (hA.mono [⟨[V.t (enc (gd x.ev i))], 7, false⟩]).push ⟨[.t (enc x)], 7, false⟩ (gd x.ev i).loc (by omega)
        simp -implicitDefEqProofs (disch := first | exact dsch | fail) only [go_sem, ↓reduceIte, Nat.reduceEqDiff, hk, hc, h3, gx0, gxk, sx0, sxk, List.append_assoc, q1, hp]
        exact ⟨hlt, _, _, rfl, rfl, by rw [hst]; exact hA'⟩
      . rw [if_neg q1] at hst
        simp -implicitDefEqProofs (disch := first | exact dsch | fail) only [go_sem, ↓reduceIte, Nat.reduceEqDiff, hk, hc, h3, gx0, gxk, sx0, sxk, List.append_assoc, q1]
        exact ⟨hlt, _, _, rfl, rfl, by rw [hst]; exact hA.mono _⟩
    . obtain rfl : i = x.ev.length := by omega
      have hle := wlTo_len x x.ev.length
      have hfin : placesR x = compactR (sortR (wlTo x x.ev.length)) := rfl
      rw [hfin]
      generalize wlTo x x.ev.length = l at hA hle ⊢
      rcases hA with ⟨h0, rfl⟩ | ⟨m, rfl, hg⟩
      . subst h0
        simp -implicitDefEqProofs (disch := first | exact dsch | fail) only [go_sem, ↓reduceIte, Nat.reduceEqDiff, hk, hc, h3]
        refine Pu.dead (sort_dead _) (HeapGo.go (sort_nil _) ?_)
        simp -implicitDefEqProofs (disch := first | exact dsch | fail) only [go_sem, ↓reduceIte, Nat.reduceEqDiff, h3]
        refine Pu.dead (compact_dead _) (HeapGo.go (compact_nil _) ?_)
        simp -implicitDefEqProofs (disch := first | exact dsch | fail) only [go_sem, ↓reduceIte, Nat.reduceEqDiff]
        have h0 : sortR [] = [] := by simp [sortR]
        rw [h0]; rfl
      . simp -implicitDefEqProofs (disch := first | exact dsch | (simp only [go_sem, hk, hc, h3, hg]; omega) | (refine of_eq_true ?_; simp (disch := first | omega | (refine of_eq_true ?_; simp only [go_sem, hk, hc, h3, hg]; done) | (simp only [go_sem, hk, hc, h3, hg]; omega)) only [go_sem, hk, hc, h3, hg]; done) | fail) only [go_sem, ↓reduceIte, Nat.reduceEqDiff, hk, hc, h3, hg]
        refine Pu.dead (sort_dead _) (HeapGo.go (sort_ref (l := l) (by rw [List.getElem?_cons_succ]; exact hg) (by omega)) ?_)
        have hml := at_lt hg
        have hg2 : (R.set m ⟨vs (sortR l), 1, false⟩)[m]? = some ⟨vs (sortR l), 1, false⟩ := by rw [List.getElem?_set_self hml]
        have hsl := sortR_len l
        obtain ⟨o, hcmp⟩ := compact_ref (H := ⟨[.t (enc x)], 7, false⟩ :: R.set m ⟨vs (sortR l), 1, false⟩) (id := m + 1) (l := sortR l) (by rw [List.getElem?_cons_succ]; exact hg2) (by omega)
        rw [hsl] at hcmp
        have htt : toT (⟨[V.t (enc x)], 7, false⟩ :: R.set m ⟨vs (sortR l), 1, false⟩) depth (.ref (m + 1) l.length) = some (enc (sortR l)) := by
          rw [toT_ref', cur_some (o := ⟨vs (sortR l), 1, false⟩) (by rw [List.getElem?_cons_succ]; exact hg2) (by rw [vs_len, hsl]), Option.bind_some, toTo_vs]
        simp -implicitDefEqProofs (disch := first | exact dsch | (simp only [go_sem, h3, hg2, hsl, List.set_cons_succ, htt]; omega) | (refine of_eq_true ?_; simp (disch := first | omega | (refine of_eq_true ?_; simp only [go_sem, h3, hg2, hsl, List.set_cons_succ, htt]; done) | (simp only [go_sem, h3, hg2, hsl, List.set_cons_succ, htt]; omega)) only [go_sem, h3, hg2, hsl, List.set_cons_succ, htt]; done) | fail) only [go_sem, ↓reduceIte, Nat.reduceEqDiff, h3, hg2, hsl, List.set_cons_succ, htt]
        refine Pu.dead (compact_dead _) (HeapGo.go hcmp ?_)
        simp -implicitDefEqProofs (disch := first | exact dsch | fail) only [go_sem, ↓reduceIte, Nat.reduceEqDiff]
  . simp -implicitDefEqProofs (disch := first | exact dsch | fail) only [go_sem, ↓reduceIte, Nat.reduceEqDiff]
    exact ⟨_, _, rfl, rfl, .nil _⟩
@[go_sem] theorem pu_places {x : Ex} (hx : x.ev.length <= 32) {K : Kp} : @Pu _ Tryz.prog 77 [enc x] K = K.k (.t (enc (placesR x))) := (coher_places hx).pu
theorem placesR_len (x : Ex) : (placesR x).length <= x.ev.length := Nat.le_trans (onceR_len _) (wlTo_len _ _)
end Go.Sim
set_option maxRecDepth 20000
namespace Go.Sim
open Enc (enc)
open Go.Proofs
theorem partV_lo {α : Type} [Enc α] [One α] {H : Heap} {l : List α} {k : IntKind} {n : Int} {i : Nat} (hn : n = (i : Int)) (hi : i <= l.length) :
    partV H 1 (.t (enc l)) (some (.t (.int k n))) none none = some ⟨.t (enc (l.drop i)), H, .none⟩ := by
  subst hn
  have h1 : bound (some (.t (.int k (i : Int)))) 0 = some i := by simp [bound]
  unfold partV
  rw [slOf_enc, toT_t, enc_list]
  simp only
  rw [h1]
  simp only [bound]
  rw [if_pos]
  . simp [hold_t, effS, List.map_drop, enc_list, vs_len, List.take_of_length_le]
  . refine ⟨by rw [vs_len]; exact hi, Nat.le_refl _, Nat.le_refl _, by simp [vs_len], by omega, rfl, ?_⟩
    right
    by_cases h : i < l.length
    . have hc : ((enc l[i] : T)).cells.length = 1 := by
        have := One.cells1 l[i]
        revert this
        generalize (enc l[i] : T) = y
        cases y <;> simp [T.cells, V.cells]
        intro h; rw [h]; rfl
      simp [h, hc]
    . simp [h]
def putsF (a : Int) (r : Rl) (l : List Int) : Rl := l.foldl (fun r b => putR r a b) r
def ordTo (n : Nat) (l : List Int) : Nat -> Rl
  | 0 => noneR n
  | i + 1 => putsF (gd l i) (ordTo n l i) (l.drop (i + 1))
def ordR (n : Nat) (l : List Int) : Rl := ordTo n l l.length
theorem putsF_len (a : Int) : ∀ (l : List Int) (r : Rl), (putsF a r l).length = r.length
  | [], _ => rfl
  | b :: l, r => by unfold putsF; rw [List.foldl_cons]; exact (putsF_len a l _).trans (putR_len _ _ _)
theorem ordTo_len (n : Nat) (l : List Int) : ∀ i, (ordTo n l i).length = n
  | 0 => noneR_len n
  | i + 1 => by rw [ordTo, putsF_len, ordTo_len n l i]
theorem putsF_step {a : Int} {r : Rl} {l : List Int} {j : Nat} (h : j < l.length) : putsF a r (l.take (j + 1)) = putR (putsF a r (l.take j)) a (gd l j) := by
  unfold putsF
  rw [← take_gd h, List.foldl_append]; rfl
theorem order_Of {n : Nat} (hn : n <= 32) {l : List Int} (hl : l.length <= 1000000) : Fun Tryz.prog 70 [.int .i64 n, enc l] (.t (enc (ordR n l))) := by
  refine Fun.go (b := false) Tryz.func70 rfl rfl (by kernel_rfl) (by kernel_rfl) ?_
  simp -implicitDefEqProofs (disch := first | exact dsch | fail) only [go_sem, ↓reduceIte, Nat.reduceEqDiff]
  refine loop_k (n := l.length) [1, 4, 12, 13] (by kernel_rfl) (fun i e H => e 14 = .t (.int .i64 i) /\ (e 5 = .t (enc (ordTo n l i)) \/ (e 5 = .ref 0 n /\ ordTo n l i = noneR n)) /\ ∃ st, H = [⟨vs (noneR n), 1, st⟩]) ?_ ?_
  . rintro i e H hi hk ⟨hc, h5, st, rfl⟩
    simp only [keepP, go_sem, ↓reduceIte, Nat.reduceEqDiff, and_true] at hk
    by_cases hlt : i < l.length
    . have hdl : (l.drop (i + 1)).length <= 1000000 := by rw [List.length_drop]; omega
      simp -implicitDefEqProofs (disch := first | exact dsch | fail) only [go_sem, ↓reduceIte, Nat.reduceEqDiff, hk, hc, partV_lo (α := Int) (i := i + 1)]
      refine loop_k (n := (l.drop (i + 1)).length) [4, 7, 14, 22, 23] (by kernel_rfl) (fun j e H => e 24 = .t (.int .i64 j) /\ (e 5 = .t (enc (putsF (gd l i) (ordTo n l i) ((l.drop (i + 1)).take j))) \/ (e 5 = .ref 0 n /\ putsF (gd l i) (ordTo n l i) ((l.drop (i + 1)).take j) = noneR n)) /\ ∃ st, H = [⟨vs (noneR n), 1, st⟩]) ?_ ?_
      . rintro j e2 H2 hj hk2 ⟨hc2, h52, st2, rfl⟩
        simp only [keepP, go_sem, ↓reduceIte, Nat.reduceEqDiff, and_true] at hk2
        by_cases hlt2 : j < (l.drop (i + 1)).length
        . have hst := putsF_step (a := gd l i) (r := ordTo n l i) hlt2
          have hln := putsF_len (gd l i) ((l.drop (i + 1)).take j) (ordTo n l i)
          rw [ordTo_len] at hln
          rcases h52 with h52 | ⟨h52, h0⟩
          . simp -implicitDefEqProofs (disch := first | exact dsch | fail) only [go_sem, ↓reduceIte, Nat.reduceEqDiff, hk2, hc2, h52, hln]
            exact ⟨hlt2, .inl (by rw [hst]), _, rfl⟩
          . rw [h0] at hst
            simp -implicitDefEqProofs (disch := first | exact dsch | fail) only [go_sem, ↓reduceIte, Nat.reduceEqDiff, hk2, hc2, h52]
            exact ⟨hlt2, .inl (by rw [hst]), _, rfl⟩
        . obtain rfl : j = (l.drop (i + 1)).length := by omega
          rw [List.take_length] at h52
          simp -implicitDefEqProofs (disch := first | exact dsch | fail) only [go_sem, ↓reduceIte, Nat.reduceEqDiff, hk, hc, hk2, hc2]
          exact ⟨hlt, h52, _, rfl⟩
      . simp -implicitDefEqProofs (disch := first | exact dsch | fail) only [go_sem, ↓reduceIte, Nat.reduceEqDiff]
        exact ⟨h5, _, rfl⟩
    . obtain rfl : i = l.length := by omega
      rcases h5 with h5 | ⟨h5, h0⟩
      . simp -implicitDefEqProofs (disch := first | exact dsch | fail) only [go_sem, ↓reduceIte, Nat.reduceEqDiff, hk, hc, h5]
        first | done | rfl
      . simp -implicitDefEqProofs (disch := first | exact dsch | fail) only [go_sem, ↓reduceIte, Nat.reduceEqDiff, hk, hc, h5]
        first | done | (show _ = some (V.t (enc (ordTo n l l.length))); rw [h0])
  . simp -implicitDefEqProofs (disch := first | exact dsch | fail) only [go_sem, ↓reduceIte, Nat.reduceEqDiff]
    first | done | exact ⟨.inr ⟨trivial, rfl⟩, _, rfl⟩ | exact ⟨.inr rfl, _, rfl⟩ | exact ⟨rfl, _, rfl⟩ | trace_state
@[go_sem] theorem pu_OrdOf {n : Nat} (hn : n <= 32) {l : List Int} (hl : l.length <= 1000000) {K : Kp} : @Pu _ Tryz.prog 70 [.int .i64 n, enc l] K = K.k (.t (enc (ordR n l))) := (order_Of hn hl).pu
end Go.Sim
set_option maxRecDepth 20000
namespace Go.Sim
open Enc (enc)
open Go.Proofs
def permR : Nat -> List Int -> List (List Int)
  | 0, _ => [[]]
  | n + 1, l => (List.range l.length).flatMap fun i => (permR n (l.eraseIdx i)).map fun r => gd l i :: r
def permTo (n : Nat) (l : List Int) (i : Nat) : List (List Int) := (List.range i).flatMap fun i => (permR n (l.eraseIdx i)).map fun r => gd l i :: r
theorem permTo_step (n : Nat) (l : List Int) (i : Nat) : permTo n l (i + 1) = permTo n l i ++ (permR n (l.eraseIdx i)).map fun r => gd l i :: r := by
  unfold permTo; rw [List.range_succ, List.flatMap_append]; simp
def AccZ {α : Type} [Enc α] (H : Heap) (v : V) (l : List α) : Prop := (l = [] /\ v = .ex []) \/ ∃ m, v = .ref m l.length /\ H[m]? = some ⟨vs l, 1, false⟩
theorem AccZ.mono {α : Type} [Enc α] {H : Heap} {v : V} {l : List α} (h : AccZ H v l) (Y : Heap) : AccZ (H ++ Y) v l := by
  rcases h with h | ⟨m, h1, h2⟩
  . exact .inl h
  . exact .inr ⟨m, h1, at_all h2 Y⟩
theorem delete_dead (x y z : T) : Dead Tryz.prog 150 [x, y, z] := ⟨1, .dead, [], rfl, rfl⟩
theorem delete_ref {H : Heap} {id : Nat} {l : List Int} (hg : H[id]? = some ⟨vs l, 1, false⟩) {i : Nat} (hi : i < l.length) (hl : l.length <= 1000000) :
    ∃ o, FunH Tryz.prog 150 [.ref id l.length, .t (.int .i64 i), .t (.int .i64 ((i : Int) + 1))] H (.t (enc (l.eraseIdx i))) (H.set id o) := by
  refine ⟨⟨(l.eraseIdx i ++ [0]).map fun n => .t (intT n), 1, true⟩, 1, ?_⟩
  show deleteRun [.ref id l.length, .t (.int .i64 i), .t (.int .i64 ((i : Int) + 1))] H = _
  unfold deleteRun
  simp only
  rw [ints_at hg, Option.bind_some, if_pos (by refine ⟨by omega, trivial, by omega, by omega⟩)]
  rfl
theorem AccZ.last {α : Type} [Enc α] {H : Heap} {v : V} {l : List α} {o : Obj} (h : AccZ H v l) (o' : Obj) : AccZ ((H ++ [o]).set H.length o') v l := by
  rw [show (H ++ [o]).set H.length o' = H ++ [o'] by rw [sx0]; rfl]
  exact h.mono _
theorem AccZ.push {α : Type} [Enc α] [One α] {H : Heap} {v : V} {l : List α} (h : AccZ H v l) (x : α) {by_ : Nat} (hr : (l.length + 1) * by_ <= 70368744177664) :
    ∃ v' H' f, appendV (some (1, by_)) H v [V.t (enc x)] = some ⟨v', H', f⟩ /\ AccZ H' v' (l ++ [x]) := by
  have hf : (vs [x]).all (fits 1) = true := fits_vs [x]
  rcases h with ⟨rfl, rfl⟩ | ⟨m, rfl, h⟩
  . exact ⟨_, H ++ [⟨vs [x], 1, false⟩], _, app_ex hf rfl rfl (by rw [vs_len]; simpa using hr), .inr ⟨H.length, rfl, by simp⟩⟩
  . refine ⟨.ref m (l.length + 1), H.set m ⟨vs (l ++ [x]), 1, false⟩, .grow m, ?_, .inr ⟨m, by simp, by rw [List.getElem?_set_self (at_lt h)]⟩⟩
    show appendV (some (1, by_)) H (.ref m l.length) (vs [x]) = _
    rw [app_ref hf, cur_some h (vs_len l), Option.bind_some, app1_go rfl (by rw [vs_len]; simpa using hr), vs_app]
    rfl
theorem permR_len : ∀ (n : Nat) {l : List Int}, l.length = n -> ∀ r ∈ permR n l, r.length = n
  | 0, l, _, r, hr => by simp [permR] at hr; subst hr; rfl
  | n + 1, l, hl, r, hr => by
    obtain ⟨i, hi, hr⟩ := List.mem_flatMap.1 hr
    obtain ⟨r', hr', rfl⟩ := List.mem_map.1 hr
    have hi := List.mem_range.1 hi
    have := permR_len n (l := l.eraseIdx i) (by rw [List.length_eraseIdx, if_pos hi]; omega) r' hr'
    simp [this]
def fac : Nat -> Nat
  | 0 => 1
  | n + 1 => (n + 1) * fac n
theorem permR_card : ∀ (n : Nat) {l : List Int}, l.length = n -> (permR n l).length <= fac n
  | 0, l, _ => by simp [permR, fac]
  | n + 1, l, hl => by
    have := flat_len (l := List.range l.length) (f := fun i => (permR n (l.eraseIdx i)).map fun r => gd l i :: r) (m := fac n) fun i hi => by
      rw [List.length_map]
      have hi := List.mem_range.1 hi
      exact permR_card n (by rw [List.length_eraseIdx, if_pos hi]; omega)
    rw [List.length_range] at this
    rw [permR, fac, ← hl]; exact this
theorem permTo_card {n : Nat} {l : List Int} (hl : l.length = n + 1) {i : Nat} (hi : i <= n + 1) : (permTo n l i).length <= i * fac n := by
  have := flat_len (l := List.range i) (f := fun i => (permR n (l.eraseIdx i)).map fun r => gd l i :: r) (m := fac n) fun k hk => by
    rw [List.length_map]
    have hk := List.mem_range.1 hk
    exact permR_card n (by rw [List.length_eraseIdx, if_pos (by omega)]; omega)
  rw [List.length_range] at this
  exact this
theorem fac6 {n : Nat} (h : n <= 6) : fac n <= 720 := by
  match n, h with
  | 0, _ => decide
  | 1, _ => decide
  | 2, _ => decide
  | 3, _ => decide
  | 4, _ => decide
  | 5, _ => decide
  | 6, _ => decide
theorem app_lit {H : Heap} {a : Int} {r : List Int} (hr0 : (vs r).isEmpty = false) (hr : r.length <= 1000) :
    appendV (some (1, 8)) H (.ex [T.int .i64 a]) (vs r) = some ⟨.ref H.length (r.length + 1), H ++ [⟨vs (a :: r), 1, false⟩], .none⟩ := by
  rw [app_ex (fits_vs r) hr0 rfl (by rw [vs_len]; simp; omega)]
  simp [vs_len, Nat.add_comm]
  rfl
theorem order_All : ∀ (n : Nat), n <= 6 -> ∀ {l : List Int}, l.length = n -> Fun Tryz.prog 78 [enc l] (.t (enc (permR n l))) := by
  intro n
  induction n with
  | zero =>
    intro _ l hl
    obtain rfl := List.eq_nil_of_length_eq_zero hl
    refine Fun.go (b := false) Tryz.func78 rfl rfl (by kernel_rfl) (by kernel_rfl) ?_
    simp -implicitDefEqProofs (disch := first | exact dsch | fail) only [go_sem, ↓reduceIte, Nat.reduceEqDiff]
    rfl
  | succ n ih =>
    intro hn l hl
    have hlne : l ≠ [] := by intro h; subst h; simp at hl
    have hf0 := fresh_ne hlne
    refine Fun.go (b := false) Tryz.func78 rfl rfl (by kernel_rfl) (by kernel_rfl) ?_
    simp -implicitDefEqProofs (disch := first | exact dsch | fail) only [go_sem, ↓reduceIte, Nat.reduceEqDiff, hl]
    refine loop_k (n := n + 1) [0, 2, 16, 17] (by kernel_rfl) (fun i e H => e 18 = .t (.int .i64 i) /\ ∃ v, e 3 = v /\ AccZ H v (permTo n l i)) ?_ ?_
    . rintro i e H hi hk ⟨hc, v, h3, hA⟩
      simp only [keepP, go_sem, ↓reduceIte, Nat.reduceEqDiff, and_true] at hk
      by_cases hlt : i < n + 1
      . have hdl : (l.eraseIdx i).length = n := by rw [List.length_eraseIdx, hl, if_pos hlt]; omega
        have ihp := fun K => (ih (by omega) hdl).pu (K := K)
        obtain ⟨o, hdel⟩ := delete_ref (H := H ++ [⟨vs l, 1, false⟩]) (id := H.length) (l := l) (by rw [gx0]; rfl) (i := i) (by omega) (by omega)
        rw [hl] at hdel
        have hA2 := hA.last (o := ⟨vs l, 1, false⟩) o
        rw [show (H ++ [(⟨vs l, 1, false⟩ : Obj)]).set H.length o = H ++ [o] by rw [sx0]; rfl] at hA2 hdel
        simp -implicitDefEqProofs (disch := first | exact dsch | fail) only [go_sem, ↓reduceIte, Nat.reduceEqDiff, hk, hc, h3, hf0, hl]
        refine Pu.dead (delete_dead _ _ _) (HeapGo.go hdel ?_)
        simp -implicitDefEqProofs (disch := first | exact dsch | fail) only [go_sem, ↓reduceIte, Nat.reduceEqDiff, hk, hc, h3, ihp]
        refine loop_k (n := (permR n (l.eraseIdx i)).length) [2, 5, 18, 29, 30] (by kernel_rfl) (fun j e H => e 31 = .t (.int .i64 j) /\ ∃ v, e 3 = v /\ AccZ H v (permTo n l i ++ ((permR n (l.eraseIdx i)).take j).map fun r => gd l i :: r)) ?_ ?_
        . rintro j e2 H2 hj hk2 ⟨hc2, v2, h32, hA3⟩
          simp only [keepP, go_sem, ↓reduceIte, Nat.reduceEqDiff, and_true] at hk2
          by_cases hlt2 : j < (permR n (l.eraseIdx i)).length
          . have hpl := permR_len n hdl _ (gd_mem hlt2)
            have hpc := permR_card n hdl
            have hf6 := fac6 (n := n) (by omega)
            have hpt := permTo_card hl hi
            have hi7 : i * fac n <= 7 * 720 := Nat.mul_le_mul (by omega) hf6
            have hbig : ((permTo n l i ++ ((permR n (l.eraseIdx i)).take j).map fun r => gd l i :: r).length + 1) * 24 <= 70368744177664 := by
              rw [List.length_append, List.length_map, List.length_take]; omega
            have hst : ((permR n (l.eraseIdx i)).take (j + 1)).map (fun r => gd l i :: r) = ((permR n (l.eraseIdx i)).take j).map (fun r => gd l i :: r) ++ [gd l i :: gd (permR n (l.eraseIdx i)) j] := by rw [← take_gd hlt2, List.map_append]; rfl
            generalize hr : gd (permR n (l.eraseIdx i)) j = r at hst hpl
            by_cases hr0 : r = []
            . subst hr0
              have hvn : vs ([] : List Int) = [] := rfl
              obtain ⟨v', H', f, hp, hA'⟩ := hA3.push [gd l i] hbig
              simp -implicitDefEqProofs (disch := first | exact dsch | fail) only [go_sem, ↓reduceIte, Nat.reduceEqDiff, hk, hc, hk2, hc2, h32, hr, hvn, hp]
              exact ⟨hlt2, _, rfl, by rw [hst, ← List.append_assoc]; exact hA'⟩
            . have hvn : (vs r).isEmpty = false := by cases r with | nil => exact absurd rfl hr0 | cons => rfl
              have hap := app_lit (H := H2) (a := gd l i) hvn (by omega)
              obtain ⟨v', H', f, hp, hA'⟩ := (hA3.mono [⟨vs (gd l i :: r), 1, true⟩]).push (gd l i :: r) hbig
              simp -implicitDefEqProofs (disch := first | exact dsch | fail) only [go_sem, ↓reduceIte, Nat.reduceEqDiff, hk, hc, hk2, hc2, h32, hr, hap, hp, gx0, gxk, sx0, sxk]
              exact ⟨hlt2, _, rfl, by rw [hst, ← List.append_assoc]; exact hA'⟩
          . obtain rfl : j = (permR n (l.eraseIdx i)).length := by omega
            rw [List.take_length, ← permTo_step] at hA3
            simp -implicitDefEqProofs (disch := first | exact dsch | fail) only [go_sem, ↓reduceIte, Nat.reduceEqDiff, hk, hc, hk2, hc2]
            exact ⟨hlt, _, h32, hA3⟩
        . simp -implicitDefEqProofs (disch := first | exact dsch | fail) only [go_sem, ↓reduceIte, Nat.reduceEqDiff]
          exact ⟨_, rfl, by rw [h3]; exact hA2⟩
      . obtain rfl : i = n + 1 := by omega
        have hfin : permTo n l (n + 1) = permR (n + 1) l := by rw [permR, hl]; rfl
        rw [hfin] at hA
        rcases hA with ⟨h0, rfl⟩ | ⟨m, rfl, hg⟩
        . rw [h0]
          simp -implicitDefEqProofs (disch := first | exact dsch | fail) only [go_sem, ↓reduceIte, Nat.reduceEqDiff, hk, hc, h3]
          rfl
        . simp -implicitDefEqProofs (disch := first | exact dsch | fail) only [go_sem, ↓reduceIte, Nat.reduceEqDiff, hk, hc, h3, hg]
    . simp -implicitDefEqProofs (disch := first | exact dsch | fail) only [go_sem, ↓reduceIte, Nat.reduceEqDiff]
      exact ⟨_, rfl, .inl ⟨rfl, rfl⟩⟩
def allO (l : List Int) : List (List Int) := if 6 < l.length then [] else permR l.length l
theorem order_all {l : List Int} (hl : l.length <= 1000000) : Fun Tryz.prog 78 [enc l] (.t (enc (allO l))) := by
  unfold allO
  by_cases h : 6 < l.length
  . rw [if_pos h]
    refine Fun.go (b := false) Tryz.func78 rfl rfl (by kernel_rfl) (by kernel_rfl) ?_
    simp -implicitDefEqProofs (disch := first | exact dsch | fail) only [go_sem, ↓reduceIte, Nat.reduceEqDiff, h]
    rfl
  . rw [if_neg h]
    exact order_All l.length (by omega) rfl
@[go_sem] theorem pu_OrdAll {l : List Int} (hl : l.length <= 1000000) {K : Kp} : @Pu _ Tryz.prog 78 [enc l] K = K.k (.t (enc (allO l))) := (order_all hl).pu
theorem allO_card (l : List Int) : (allO l).length <= 720 := by
  unfold allO
  split
  . simp
  . exact Nat.le_trans (permR_card _ rfl) (fac6 (by omega))
def cohNext (n : Nat) (out : List Rl) (os : List (List Int)) : List Rl := out.flatMap fun co => os.map fun one => orR co (ordR n one)
def cohTo (x : Ex) : List Int -> List Rl -> Option (List Rl)
  | [], out => some out
  | loc :: r, out => if 20000 < out.length * (allO (writesR x loc)).length then none else cohTo x r (cohNext x.ev.length out (allO (writesR x loc)))
def cohR (x : Ex) : List Rl := (cohTo x (placesR x) [noneR x.ev.length]).getD []
end Go.Sim
set_option maxRecDepth 20000
namespace Go.Sim
open Enc (enc)
open Go.Proofs
def AccB {α : Type} [Enc α] (B H : Heap) (v : V) (l : List α) : Prop := ∃ R, H = B ++ R /\ ((l = [] /\ v = .ex []) \/ ∃ m, v = .ref (B.length + m) l.length /\ R[m]? = some ⟨vs l, 1, false⟩)
theorem AccB.push {α : Type} [Enc α] [One α] {B H : Heap} {v : V} {l : List α} (h : AccB B H v l) (x : α) {by_ : Nat} (hr : (l.length + 1) * by_ <= 70368744177664) :
    ∃ v' H' f, appendV (some (1, by_)) H v [V.t (enc x)] = some ⟨v', H', f⟩ /\ AccB B H' v' (l ++ [x]) := by
  have hf : (vs [x]).all (fits 1) = true := fits_vs [x]
  obtain ⟨R, rfl, h⟩ := h
  rcases h with ⟨rfl, rfl⟩ | ⟨m, rfl, h⟩
  . refine ⟨_, (B ++ R) ++ [⟨vs [x], 1, false⟩], _, app_ex hf rfl rfl (by rw [vs_len]; simpa using hr), R ++ [⟨vs [x], 1, false⟩], by rw [List.append_assoc], .inr ⟨R.length, by simp [vs_len], by simp⟩⟩
  . refine ⟨.ref (B.length + m) (l.length + 1), (B ++ R).set (B.length + m) ⟨vs (l ++ [x]), 1, false⟩, .grow (B.length + m), ?_, R.set m ⟨vs (l ++ [x]), 1, false⟩, by rw [sxk], .inr ⟨m, by simp, by rw [List.getElem?_set_self (at_lt h)]⟩⟩
    show appendV (some (1, by_)) (B ++ R) (.ref (B.length + m) l.length) (vs [x]) = _
    rw [app_ref hf, cur_some (o := ⟨vs l, 1, false⟩) (by rw [gxk]; exact h) (vs_len l), Option.bind_some, app1_go rfl (by rw [vs_len]; simpa using hr), vs_app]
    rfl
def AccE {α : Type} [Enc α] (H : Heap) (v : V) (l : List α) : Prop := v = .ex (l.map enc) \/ ∃ m, v = .ref m l.length /\ H[m]? = some ⟨vs l, 1, false⟩
theorem AccB.e {α : Type} [Enc α] {B H : Heap} {v : V} {l : List α} (h : AccB B H v l) : AccE H v l := by
  obtain ⟨R, rfl, h⟩ := h
  rcases h with ⟨rfl, rfl⟩ | ⟨m, rfl, h⟩
  . exact .inl rfl
  . exact .inr ⟨_, rfl, by rw [gxk]; exact h⟩
theorem cohNext_len {n : Nat} {out : List Rl} {os : List (List Int)} (h : ∀ r ∈ out, r.length = n) : ∀ r ∈ cohNext n out os, r.length = n := by
  intro r hr
  obtain ⟨co, hco, hr⟩ := List.mem_flatMap.1 hr
  obtain ⟨one, _, rfl⟩ := List.mem_map.1 hr
  rw [orR_len]; exact h co hco
theorem cohNext_card (n : Nat) (out : List Rl) (os : List (List Int)) : (cohNext n out os).length = out.length * os.length := by
  unfold cohNext
  induction out with
  | nil => simp
  | cons a l ih => rw [List.flatMap_cons, List.length_append, ih, List.length_map, List.length_cons, Nat.add_mul]; omega
theorem cohNext_step {n : Nat} {out : List Rl} {os : List (List Int)} {j : Nat} (h : j < out.length) : cohNext n (out.take (j + 1)) os = cohNext n (out.take j) os ++ os.map fun one => orR (gd out j) (ordR n one) := by
  unfold cohNext
  rw [← take_gd h, List.flatMap_append]; simp
theorem map_step {α β : Type} [Enc α] {f : α -> β} {l : List α} {k : Nat} (h : k < l.length) : (l.take (k + 1)).map f = (l.take k).map f ++ [f (gd l k)] := by
  rw [← take_gd h, List.map_append]; rfl
theorem ordR_len (n : Nat) (l : List Int) : (ordR n l).length = n := ordTo_len n l _
theorem allO_len {l : List Int} : ∀ o ∈ allO l, o.length <= 6 := by
  intro o ho
  unfold allO at ho
  split at ho
  . cases ho
  . have := permR_len _ rfl o ho; omega
def cohI (x : Ex) (i : Nat) (l : List Rl) : Prop := cohTo x ((placesR x).drop i) l = cohTo x (placesR x) [noneR x.ev.length]
theorem coher_All {x : Ex} (hx : x.ev.length <= 32) : Fun Tryz.prog 32 [enc x] (.t (enc (cohR x))) := by
  refine Fun.go (b := false) Tryz.func32 rfl rfl (by kernel_rfl) (by kernel_rfl) ?_
  have hpl := placesR_len x
  simp -implicitDefEqProofs (disch := first | exact dsch | fail) only [go_sem, ↓reduceIte, Nat.reduceEqDiff]
  refine loop_k (n := (placesR x).length) [1, 3, 20, 21] (by kernel_rfl) (fun i e H => e 22 = .t (.int .i64 i) /\ ∃ out v R, e 4 = v /\ H = ⟨[.t (enc x)], 7, false⟩ :: R /\ AccE H v out /\ (∀ r ∈ out, r.length = x.ev.length) /\ out.length <= 20000 /\ cohI x i out) ?_ ?_
  . rintro i e H hi hk ⟨hc, out, v, R, h4, rfl, hE, hrl, hol, hI⟩
    simp only [keepP, go_sem, ↓reduceIte, Nat.reduceEqDiff, and_true] at hk
    by_cases hlt : i < (placesR x).length
    . have hwl := writesR_len x (gd (placesR x) i)
      have hos := allO_len (l := writesR x (gd (placesR x) i))
      have hoc := allO_card (writesR x (gd (placesR x) i))
      have hnx : cohTo x ((placesR x).drop i) out = if 20000 < out.length * (allO (writesR x (gd (placesR x) i))).length then none else cohTo x ((placesR x).drop (i + 1)) (cohNext x.ev.length out (allO (writesR x (gd (placesR x) i)))) := by
        have hd : (placesR x).drop i = gd (placesR x) i :: (placesR x).drop (i + 1) := by rw [List.drop_eq_getElem_cons hlt, gd_get hlt]
        rw [hd, cohTo]
      unfold cohI at hI
      rw [hnx] at hI
      generalize hosd : allO (writesR x (gd (placesR x) i)) = os at hos hoc hI hnx
      obtain ⟨p, hp⟩ : ∃ p : Nat, out.length * os.length = p := ⟨_, rfl⟩
      have hpe : (out.length : Int) * os.length = (p : Int) := by exact_mod_cast hp
      have hpb : p <= 20000 * 720 := by rw [← hp]; exact Nat.mul_le_mul hol hoc
      rw [hp] at hI
      by_cases hbig : 20000 < p
      . rw [if_pos hbig] at hI
        have hfin : cohR x = [] := by unfold cohR; rw [← hI]; rfl
        rw [hfin]
        rcases hE with rfl | ⟨m, rfl, hg⟩
        . simp -implicitDefEqProofs (disch := first | exact dsch | fail) only [go_sem, ↓reduceIte, Nat.reduceEqDiff, hk, hc, h4, hosd, hpe]
          rfl
        . simp -implicitDefEqProofs (disch := first | exact dsch | fail) only [go_sem, ↓reduceIte, Nat.reduceEqDiff, hk, hc, h4, hosd, hg, hpe]
          rfl
      . rw [if_neg hbig] at hI
        rcases hE with rfl | ⟨m, rfl, hg⟩
        . simp -implicitDefEqProofs (disch := first | exact dsch | fail) only [go_sem, ↓reduceIte, Nat.reduceEqDiff, hk, hc, h4, hosd, hpe]
          refine loop_k (n := out.length) [2, 3, 4, 7, 22, 36, 37] (by kernel_rfl) (fun j e H => e 38 = .t (.int .i64 j) /\ ∃ v, e 8 = v /\ AccB (⟨[.t (enc x)], 7, false⟩ :: R) H v (cohNext x.ev.length (out.take j) os)) ?_ ?_
          . rintro j e2 H2 hj hk2 ⟨hc2, v2, h82, hA2⟩
            simp only [keepP, go_sem, ↓reduceIte, Nat.reduceEqDiff, and_true] at hk2
            by_cases hlt2 : j < out.length
            . have hgl := hrl _ (gd_mem hlt2)
              have hA2' := hA2
              obtain ⟨R2, hH2, _⟩ := hA2'
              have hld := (rfl : (⟨[V.t (enc x)], 7, false⟩ :: R : Heap) ++ R2 = (⟨[V.t (enc x)], 7, false⟩ :: R : Heap) ++ R2)
              rw [← hH2] at hld
              simp -implicitDefEqProofs (disch := first | exact dsch | fail) only [go_sem, ↓reduceIte, Nat.reduceEqDiff, hk, hc, hk2, hc2, h82, hld]
              refine loop_k (n := os.length) [2, 3, 4, 10, 22, 38, 42, 43] (by kernel_rfl) (fun i e H => e 44 = .t (.int .i64 i) /\ ∃ v, e 8 = v /\ AccB (⟨[.t (enc x)], 7, false⟩ :: R) H v (cohNext x.ev.length (out.take j) os ++ (os.take i).map fun one => orR (gd out j) (ordR x.ev.length one))) ?_ ?_
              . rintro k e3 H3 hk3l hk3 ⟨hc3, v3, h83, hA3⟩
                simp only [keepP, go_sem, ↓reduceIte, Nat.reduceEqDiff, and_true] at hk3
                by_cases hlt3 : k < os.length
                . have hst := map_step (f := fun one => orR (gd out j) (ordR x.ev.length one)) hlt3
                  have ho6 := hos _ (gd_mem hlt3)
                  obtain ⟨v', H', f, hpu, hA'⟩ := hA3.push (orR (gd out j) (ordR x.ev.length (gd os k))) (by_ := 24) (by
                    rw [List.length_append, List.length_map, List.length_take, cohNext_card, List.length_take]
                    have : min j out.length * os.length <= out.length * os.length := Nat.mul_le_mul_right _ (Nat.min_le_right _ _)
                    omega)
                  have hol := ordR_len x.ev.length (gd os k)
                  simp -implicitDefEqProofs (disch := first | exact dsch | fail) only [go_sem, ↓reduceIte, Nat.reduceEqDiff, hk, hc, hk2, hc2, hk3, hc3, h83, hpu, hgl, hol]
                  exact ⟨hlt3, _, rfl, by rw [hst, ← List.append_assoc]; exact hA'⟩
                . obtain rfl : k = os.length := by omega
                  rw [List.take_length, ← cohNext_step hlt2] at hA3
                  simp -implicitDefEqProofs (disch := first | exact dsch | fail) only [go_sem, ↓reduceIte, Nat.reduceEqDiff, hk, hc, hk2, hc2, hk3, hc3, h83]
                  exact ⟨hlt2, _, rfl, hA3⟩
              . simp -implicitDefEqProofs (disch := first | exact dsch | fail) only [go_sem, ↓reduceIte, Nat.reduceEqDiff]
                exact ⟨_, h82, hA2⟩
            . obtain rfl : j = out.length := by omega
              rw [List.take_length] at hA2
              simp -implicitDefEqProofs (disch := first | exact dsch | fail) only [go_sem, ↓reduceIte, Nat.reduceEqDiff, hk, hc, hk2, hc2, h82]
              have hA2' := hA2
              obtain ⟨R2, rfl, _⟩ := hA2'
              refine ⟨hlt, _, _, R ++ R2, rfl, rfl, hA2.e, cohNext_len hrl, by rw [cohNext_card]; omega, ?_⟩
              unfold cohI; exact hI
          . simp -implicitDefEqProofs (disch := first | exact dsch | fail) only [go_sem, ↓reduceIte, Nat.reduceEqDiff]
            exact ⟨_, rfl, [], by simp, .inl ⟨rfl, rfl⟩⟩
        . simp -implicitDefEqProofs (disch := first | exact dsch | fail) only [go_sem, ↓reduceIte, Nat.reduceEqDiff, hk, hc, h4, hosd, hg, hpe]
          refine loop_k (n := out.length) [2, 3, 4, 7, 22, 36, 37] (by kernel_rfl) (fun j e H => e 38 = .t (.int .i64 j) /\ ∃ v, e 8 = v /\ AccB (⟨[.t (enc x)], 7, false⟩ :: R) H v (cohNext x.ev.length (out.take j) os)) ?_ ?_
          . rintro j e2 H2 hj hk2 ⟨hc2, v2, h82, hA2⟩
            simp only [keepP, go_sem, ↓reduceIte, Nat.reduceEqDiff, and_true] at hk2
            by_cases hlt2 : j < out.length
            . have hgl := hrl _ (gd_mem hlt2)
              have hA2' := hA2
              obtain ⟨R2, hH2, _⟩ := hA2'
              have hld := at_all hg R2
              rw [← hH2] at hld
              simp -implicitDefEqProofs (disch := first | exact dsch | fail) only [go_sem, ↓reduceIte, Nat.reduceEqDiff, hk, hc, hk2, hc2, h82, hld]
              refine loop_k (n := os.length) [2, 3, 4, 10, 22, 38, 42, 43] (by kernel_rfl) (fun i e H => e 44 = .t (.int .i64 i) /\ ∃ v, e 8 = v /\ AccB (⟨[.t (enc x)], 7, false⟩ :: R) H v (cohNext x.ev.length (out.take j) os ++ (os.take i).map fun one => orR (gd out j) (ordR x.ev.length one))) ?_ ?_
              . rintro k e3 H3 hk3l hk3 ⟨hc3, v3, h83, hA3⟩
                simp only [keepP, go_sem, ↓reduceIte, Nat.reduceEqDiff, and_true] at hk3
                by_cases hlt3 : k < os.length
                . have hst := map_step (f := fun one => orR (gd out j) (ordR x.ev.length one)) hlt3
                  have ho6 := hos _ (gd_mem hlt3)
                  obtain ⟨v', H', f, hpu, hA'⟩ := hA3.push (orR (gd out j) (ordR x.ev.length (gd os k))) (by_ := 24) (by
                    rw [List.length_append, List.length_map, List.length_take, cohNext_card, List.length_take]
                    have : min j out.length * os.length <= out.length * os.length := Nat.mul_le_mul_right _ (Nat.min_le_right _ _)
                    omega)
                  have hol := ordR_len x.ev.length (gd os k)
                  simp -implicitDefEqProofs (disch := first | exact dsch | fail) only [go_sem, ↓reduceIte, Nat.reduceEqDiff, hk, hc, hk2, hc2, hk3, hc3, h83, hpu, hgl, hol]
                  exact ⟨hlt3, _, rfl, by rw [hst, ← List.append_assoc]; exact hA'⟩
                . obtain rfl : k = os.length := by omega
                  rw [List.take_length, ← cohNext_step hlt2] at hA3
                  simp -implicitDefEqProofs (disch := first | exact dsch | fail) only [go_sem, ↓reduceIte, Nat.reduceEqDiff, hk, hc, hk2, hc2, hk3, hc3, h83]
                  exact ⟨hlt2, _, rfl, hA3⟩
              . simp -implicitDefEqProofs (disch := first | exact dsch | fail) only [go_sem, ↓reduceIte, Nat.reduceEqDiff]
                exact ⟨_, h82, hA2⟩
            . obtain rfl : j = out.length := by omega
              rw [List.take_length] at hA2
              simp -implicitDefEqProofs (disch := first | exact dsch | fail) only [go_sem, ↓reduceIte, Nat.reduceEqDiff, hk, hc, hk2, hc2, h82]
              have hA2' := hA2
              obtain ⟨R2, rfl, _⟩ := hA2'
              refine ⟨hlt, _, _, R ++ R2, rfl, rfl, hA2.e, cohNext_len hrl, by rw [cohNext_card]; omega, ?_⟩
              unfold cohI; exact hI
          . simp -implicitDefEqProofs (disch := first | exact dsch | fail) only [go_sem, ↓reduceIte, Nat.reduceEqDiff]
            exact ⟨_, rfl, [], by simp, .inl ⟨rfl, rfl⟩⟩
    . obtain rfl : i = (placesR x).length := by omega
      unfold cohI at hI
      rw [List.drop_length, cohTo] at hI
      have hfin : cohR x = out := by unfold cohR; rw [← hI]; rfl
      rw [hfin]
      rcases hE with rfl | ⟨m, rfl, hg⟩
      . simp -implicitDefEqProofs (disch := first | exact dsch | fail) only [go_sem, ↓reduceIte, Nat.reduceEqDiff, hk, hc, h4]
      . simp -implicitDefEqProofs (disch := first | exact dsch | fail) only [go_sem, ↓reduceIte, Nat.reduceEqDiff, hk, hc, h4, hg]
  . simp -implicitDefEqProofs (disch := first | exact dsch | fail) only [go_sem, ↓reduceIte, Nat.reduceEqDiff]
    exact ⟨[noneR x.ev.length], _, _, rfl, rfl, .inl rfl, by simp [noneR_len], by simp, rfl⟩
@[go_sem] theorem pu_CohAll {x : Ex} (hx : x.ev.length <= 32) {K : Kp} : @Pu _ Tryz.prog 32 [enc x] K = K.k (.t (enc (cohR x))) := (coher_All hx).pu
end Go.Sim
