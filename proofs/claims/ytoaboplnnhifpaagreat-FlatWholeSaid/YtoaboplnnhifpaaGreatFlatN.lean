/- Part: FlatN -/
import Derived.Test.YtoaboplnnhifpaaGreatFlatC
set_option linter.all false
set_option maxRecDepth 100000
namespace Go.Sim
open Enc (enc)
open Go.Proofs
def AccS {α : Type} [Enc α] (c : Nat) (B H : Heap) (v : V) (l : List α) : Prop := ∃ R, H = B ++ R /\ ((l = [] /\ v = .ex []) \/ ∃ m, v = .ref (B.length + m) l.length /\ R[m]? = some ⟨vs l, c, false⟩)
theorem AccS.push {α : Type} [Enc α] {c : Nat} {B H : Heap} {v : V} {l : List α} (h : AccS c B H v l) (x : α) (hx : fits c (.t (enc x)) = true) {by_ : Nat} (hr : (l.length + 1) * by_ <= 70368744177664) :
    ∃ v' H' f, appendV (some (c, by_)) H v [V.t (enc x)] = some ⟨v', H', f⟩ /\ AccS c B H' v' (l ++ [x]) := by
  have hf : (vs [x]).all (fits c) = true := by simp [vs, hx]
  obtain ⟨R, rfl, h⟩ := h
  rcases h with ⟨rfl, rfl⟩ | ⟨m, rfl, h⟩
  . refine ⟨_, (B ++ R) ++ [⟨vs [x], c, false⟩], _, app_ex hf rfl rfl (by rw [vs_len]; simpa using hr), R ++ [⟨vs [x], c, false⟩], by rw [List.append_assoc], .inr ⟨R.length, by simp [vs_len], by simp⟩⟩
  . refine ⟨.ref (B.length + m) (l.length + 1), (B ++ R).set (B.length + m) ⟨vs (l ++ [x]), c, false⟩, .grow (B.length + m), ?_, R.set m ⟨vs (l ++ [x]), c, false⟩, by rw [sxk], .inr ⟨m, by simp, by rw [List.getElem?_set_self (at_lt h)]⟩⟩
    show appendV (some (c, by_)) (B ++ R) (.ref (B.length + m) l.length) (vs [x]) = _
    rw [app_ref hf, cur_some (o := ⟨vs l, c, false⟩) (by rw [gxk]; exact h) (vs_len l), Option.bind_some, app1_go rfl (by rw [vs_len]; simpa using hr), vs_app]
    rfl
theorem AccS.mono {α : Type} [Enc α] {c : Nat} {B H : Heap} {v : V} {l : List α} (h : AccS c B H v l) (Y : Heap) : AccS c B (H ++ Y) v l := by
  obtain ⟨R, rfl, h⟩ := h
  refine ⟨R ++ Y, by rw [List.append_assoc], ?_⟩
  rcases h with h | ⟨m, h1, h2⟩
  . exact .inl h
  . exact .inr ⟨m, h1, at_all h2 Y⟩
def mvF (x : Ex) (init : List Int) (s : Fs) (i : Nat) (o : Bool) : List Mv := if canB x init s i o then [⟨i, o⟩] else []
def mvK (x : Ex) (init : List Int) (s : Fs) (i : Nat) : Nat -> List Mv
  | 0 => []
  | 1 => mvF x init s i false
  | _ => moves1 x init s i
theorem moves1_eq (x : Ex) (init : List Int) (s : Fs) (i : Nat) : moves1 x init s i = mvF x init s i false ++ mvF x init s i true := rfl
theorem mvF_len (x : Ex) (init : List Int) (s : Fs) (i : Nat) (o : Bool) : (mvF x init s i o).length <= 1 := by unfold mvF; split <;> simp
theorem movesTo_len (x : Ex) (init : List Int) (s : Fs) : ∀ i, (movesTo x init s i).length <= 2 * i
  | 0 => by simp [movesTo]
  | i + 1 => by
    have h := movesTo_len x init s i
    unfold movesTo at h ⊢
    rw [List.range_succ, List.flatMap_append, List.length_append, List.flatMap_cons, List.flatMap_nil, List.append_nil, moves1_eq, List.length_append]
    have := mvF_len x init s i false
    have := mvF_len x init s i true
    omega
theorem movesTo_step (x : Ex) (init : List Int) (s : Fs) (i : Nat) : movesTo x init s (i + 1) = movesTo x init s i ++ moves1 x init s i := by
  unfold movesTo; rw [List.range_succ, List.flatMap_append, List.flatMap_cons, List.flatMap_nil, List.append_nil]
theorem flat_Moves {x : Ex} {init : List Int} {s : Fs} {n : Nat} (W : WfE n x) (B : BdS x init s) :
    Fun Tryz.prog 19 [enc x, enc init, enc s] (.t (enc (movesR x init s))) := by
  have hok := W.ok
  have hk := B.k
  have hn := B.n
  have hal : (aheadZ x).length <= 32 := by rw [aheadZ_len]; omega
  refine Fun.go (b := false) Tryz.func19 rfl rfl (by kernel_rfl) (by kernel_rfl) ?_
  cases hf : fitsB x init s
  . have : movesR x init s = [] := by unfold movesR; rw [hf]; rfl
    rw [this]
    simp -implicitDefEqProofs (disch := first | exact dsch | fail) only [go_sem, ↓reduceIte, Nat.reduceEqDiff, hf]
    rfl
  have hmr : movesR x init s = movesTo x init s x.ev.length := by unfold movesR; rw [hf]; rfl
  rw [hmr]
  simp -implicitDefEqProofs (disch := first | exact dsch | fail) only [go_sem, ↓reduceIte, Nat.reduceEqDiff, hf]
  refine loop_k (n := x.ev.length) [1, 3, 5, 6, 7, 22] (by kernel_rfl) (fun i e H => e 23 = .t (.int .i64 i) /\ ∃ v, e 8 = v /\ AccS 2 [⟨[.t (enc x)], 7, false⟩, ⟨[.t (enc s)], 3, false⟩] H v (movesTo x init s i)) ?_ ?_
  . rintro i e H hi hk0 ⟨hct, v, h8, hA⟩
    simp only [keepP, go_sem, ↓reduceIte, Nat.reduceEqDiff, and_true] at hk0
    by_cases hlt : i < x.ev.length
    . have hA0 := hA
      obtain ⟨R, rfl, _⟩ := hA0
      have hrd := fun K => flat_ready_pu (x := x) (init := init) (s := s) (i := i) (ah := aheadZ x) (by omega) hk hlt hal (K := K)
      simp -implicitDefEqProofs (disch := first | exact dsch | fail) only [go_sem, ↓reduceIte, Nat.reduceEqDiff, hk0, hct, h8]
      refine loop_k (n := 2) [1, 3, 5, 6, 7, 9, 23, 26, 27] (by kernel_rfl) (fun j e H => e 28 = .t (.int .i64 j) /\ ∃ v, e 8 = v /\ AccS 2 [⟨[.t (enc x)], 7, false⟩, ⟨[.t (enc s)], 3, false⟩] H v (movesTo x init s i ++ mvK x init s i j)) ?_ ?_
      . rintro q e1 H1 hq hk1 ⟨hct1, v1, h81, hA1⟩
        simp only [keepP, go_sem, ↓reduceIte, Nat.reduceEqDiff, and_true] at hk1
        rcases (by omega : q = 0 \/ q = 1 \/ q = 2) with rfl | rfl | rfl
        . skip
          have hst : movesTo x init s i ++ mvK x init s i (0 + 1) = movesTo x init s i ++ mvK x init s i 0 ++ mvF x init s i false := by rw [List.append_assoc]; rfl
          have hA1' := hA1.mono [⟨[.t (enc (⟨i, false⟩ : Mv))], 2, false⟩]
          have hml := movesTo_len x init s i
          have hkl : (mvK x init s i 0).length <= 2 := by have := mvF_len x init s i false; simp [mvK]; try omega
          obtain ⟨v', H', f, hp, hA2⟩ := hA1'.push (⟨i, false⟩ : Mv) rfl (by_ := 16) (by rw [List.length_append]; omega)
          obtain ⟨R1, rfl, _⟩ := hA1
          have hp2 : appendV (some (2, 16)) (⟨[.t (enc x)], 7, false⟩ :: ⟨[.t (enc s)], 3, false⟩ :: (R1 ++ [⟨[.t (enc (⟨i, false⟩ : Mv))], 2, false⟩])) v1 [V.t (enc (⟨i, false⟩ : Mv))] = some ⟨v', H', f⟩ := hp
          have hlit : ∀ H : Heap, indexV H (.sl 4) 1 (.ex [.bool false, .bool true]) 0 = some (.tp [.bool false, .bool true] 0 0) := fun _ => rfl
          have hld : ∀ H : Heap, loadV H (some (false, 1)) (.tp [.bool false, .bool true] 0 0) = some ⟨.t (.bool false), H, .none⟩ := fun _ => rfl
          cases hr : readyB x init s i (aheadZ x)
          . have hF : mvF x init s i false = [] := by unfold mvF canB; rw [hr]; rfl
            rw [hF, List.append_nil] at hst
            simp -implicitDefEqProofs (disch := first | exact dsch | fail) only [go_sem, ↓reduceIte, Nat.reduceEqDiff, hk0, hk1, hct, hct1, h81, gx0, gxk, sx0, sxk, List.append_assoc, hlit, hld, hrd, hr]
            refine ⟨_, rfl, ?_⟩
            show AccS 2 _ _ _ (movesTo x init s i ++ mvK x init s i (0 + 1))
            rw [hst]
            exact hA1'
          . obtain ⟨h0, h1⟩ : 0 <= (gd x.ev i).loc /\ (gd x.ev i).loc < init.length := by
              unfold readyB at hr
              simp only [Bool.and_eq_true, decide_eq_true_eq] at hr
              exact ⟨hr.2.1, hr.2.2.1⟩
            have hm := fun K => (flat_may W B hf hlt h0 h1 false).pu (K := K)
            cases hmm : mayB x init s i false
            . have hF : mvF x init s i false = [] := by unfold mvF canB; rw [hr, hmm]; rfl
              rw [hF, List.append_nil] at hst
              simp -implicitDefEqProofs (disch := first | exact dsch | fail) only [go_sem, ↓reduceIte, Nat.reduceEqDiff, hk0, hk1, hct, hct1, h81, gx0, gxk, sx0, sxk, List.append_assoc, hlit, hld, hrd, hr, hm, hmm]
              refine ⟨_, rfl, ?_⟩
              show AccS 2 _ _ _ (movesTo x init s i ++ mvK x init s i (0 + 1))
              rw [hst]
              exact hA1'
            . have hF : mvF x init s i false = [⟨i, false⟩] := by unfold mvF canB; rw [hr, hmm]; rfl
              rw [hF] at hst
              simp -implicitDefEqProofs (disch := first | exact dsch | fail) only [go_sem, ↓reduceIte, Nat.reduceEqDiff, hk0, hk1, hct, hct1, h81, gx0, gxk, sx0, sxk, List.append_assoc, hlit, hld, hrd, hr, hm, hmm, hp2]
              refine ⟨_, rfl, ?_⟩
              show AccS 2 _ _ _ (movesTo x init s i ++ mvK x init s i (0 + 1))
              rw [hst]
              exact hA2
        . skip
          have hst : movesTo x init s i ++ mvK x init s i (1 + 1) = movesTo x init s i ++ mvK x init s i 1 ++ mvF x init s i true := by rw [List.append_assoc]; rfl
          have hA1' := hA1.mono [⟨[.t (enc (⟨i, true⟩ : Mv))], 2, false⟩]
          have hml := movesTo_len x init s i
          have hkl : (mvK x init s i 1).length <= 2 := by have := mvF_len x init s i false; simp [mvK]; try omega
          obtain ⟨v', H', f, hp, hA2⟩ := hA1'.push (⟨i, true⟩ : Mv) rfl (by_ := 16) (by rw [List.length_append]; omega)
          obtain ⟨R1, rfl, _⟩ := hA1
          have hp2 : appendV (some (2, 16)) (⟨[.t (enc x)], 7, false⟩ :: ⟨[.t (enc s)], 3, false⟩ :: (R1 ++ [⟨[.t (enc (⟨i, true⟩ : Mv))], 2, false⟩])) v1 [V.t (enc (⟨i, true⟩ : Mv))] = some ⟨v', H', f⟩ := hp
          have hlit : ∀ H : Heap, indexV H (.sl 4) 1 (.ex [.bool false, .bool true]) 1 = some (.tp [.bool false, .bool true] 1 0) := fun _ => rfl
          have hld : ∀ H : Heap, loadV H (some (false, 1)) (.tp [.bool false, .bool true] 1 0) = some ⟨.t (.bool true), H, .none⟩ := fun _ => rfl
          cases hr : readyB x init s i (aheadZ x)
          . have hF : mvF x init s i true = [] := by unfold mvF canB; rw [hr]; rfl
            rw [hF, List.append_nil] at hst
            simp -implicitDefEqProofs (disch := first | exact dsch | fail) only [go_sem, ↓reduceIte, Nat.reduceEqDiff, hk0, hk1, hct, hct1, h81, gx0, gxk, sx0, sxk, List.append_assoc, hlit, hld, hrd, hr]
            refine ⟨_, rfl, ?_⟩
            show AccS 2 _ _ _ (movesTo x init s i ++ mvK x init s i (1 + 1))
            rw [hst]
            exact hA1'
          . obtain ⟨h0, h1⟩ : 0 <= (gd x.ev i).loc /\ (gd x.ev i).loc < init.length := by
              unfold readyB at hr
              simp only [Bool.and_eq_true, decide_eq_true_eq] at hr
              exact ⟨hr.2.1, hr.2.2.1⟩
            have hm := fun K => (flat_may W B hf hlt h0 h1 true).pu (K := K)
            cases hmm : mayB x init s i true
            . have hF : mvF x init s i true = [] := by unfold mvF canB; rw [hr, hmm]; rfl
              rw [hF, List.append_nil] at hst
              simp -implicitDefEqProofs (disch := first | exact dsch | fail) only [go_sem, ↓reduceIte, Nat.reduceEqDiff, hk0, hk1, hct, hct1, h81, gx0, gxk, sx0, sxk, List.append_assoc, hlit, hld, hrd, hr, hm, hmm]
              refine ⟨_, rfl, ?_⟩
              show AccS 2 _ _ _ (movesTo x init s i ++ mvK x init s i (1 + 1))
              rw [hst]
              exact hA1'
            . have hF : mvF x init s i true = [⟨i, true⟩] := by unfold mvF canB; rw [hr, hmm]; rfl
              rw [hF] at hst
              simp -implicitDefEqProofs (disch := first | exact dsch | fail) only [go_sem, ↓reduceIte, Nat.reduceEqDiff, hk0, hk1, hct, hct1, h81, gx0, gxk, sx0, sxk, List.append_assoc, hlit, hld, hrd, hr, hm, hmm, hp2]
              refine ⟨_, rfl, ?_⟩
              show AccS 2 _ _ _ (movesTo x init s i ++ mvK x init s i (1 + 1))
              rw [hst]
              exact hA2
        . have hst : movesTo x init s i ++ mvK x init s i 2 = movesTo x init s (i + 1) := (movesTo_step x init s i).symm
          rw [hst] at hA1
          simp -implicitDefEqProofs (disch := first | exact dsch | fail) only [go_sem, ↓reduceIte, Nat.reduceEqDiff, hk0, hk1, hct, hct1, h81]
          exact ⟨hlt, _, rfl, hA1⟩
      . simp -implicitDefEqProofs (disch := first | exact dsch | fail) only [go_sem, ↓reduceIte, Nat.reduceEqDiff]
        exact ⟨_, h8, by rw [show movesTo x init s i ++ mvK x init s i 0 = movesTo x init s i from List.append_nil _]; exact hA⟩
    . obtain rfl : i = x.ev.length := by omega
      obtain ⟨R, rfl, hA⟩ := hA
      rcases hA with ⟨h0, rfl⟩ | ⟨m, rfl, hg⟩
      . rw [h0]
        simp -implicitDefEqProofs (disch := first | exact dsch | fail) only [go_sem, ↓reduceIte, Nat.reduceEqDiff, hk0, hct, h8]
        rfl
      . have hg2 : (⟨[V.t (enc x)], 7, false⟩ :: ⟨[V.t (enc s)], 3, false⟩ :: R : Heap)[2 + m]? = some ⟨vs (movesTo x init s x.ev.length), 2, false⟩ := by rw [Nat.add_comm]; exact hg
        simp -implicitDefEqProofs (disch := first | exact dsch | fail) only [go_sem, ↓reduceIte, Nat.reduceEqDiff, hk0, hct, h8, hg, hg2]
  . simp -implicitDefEqProofs (disch := first | exact dsch | fail) only [go_sem, ↓reduceIte, Nat.reduceEqDiff]
    exact ⟨_, rfl, [], rfl, .inl ⟨rfl, rfl⟩⟩
@[go_sem] theorem pu_Moves {x : Ex} {init : List Int} {s : Fs} {n : Nat} (W : WfE n x) (B : BdS x init s) {K : Kp} : @Pu _ Tryz.prog 19 [enc x, enc init, enc s] K = K.k (.t (enc (movesR x init s))) := (flat_Moves W B).pu
end Go.Sim
