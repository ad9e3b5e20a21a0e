/- Part: FlatG -/
import Derived.Test.YtoaboplnnhifpaaGreatFlatN
set_option linter.all false
set_option maxRecDepth 100000
namespace Go.Sim
open Enc (enc)
open Go.Proofs
theorem flat_Final {x : Ex} {s : Fs} (hn : x.ev.length <= 32) : Fun Tryz.prog 25 [enc x, enc s] (.t (.bool (finalB x s))) := by
  unfold finalB
  refine Fun.go (b := false) Tryz.func25 rfl rfl (by kernel_rfl) (by kernel_rfl) ?_
  simp -implicitDefEqProofs (disch := first | exact dsch | fail) only [go_sem, ↓reduceIte, Nat.reduceEqDiff]
  refine loop_k (n := x.ev.length) [3, 8] (by kernel_rfl) (fun i e H => e 9 = .t (.int .i64 i) /\ H = ⟨[.t (enc x)], 7, false⟩ :: ⟨[.t (enc s)], 3, false⟩ :: [] /\ ∀ j, j < i -> s.d.getLsbD j = true) ?_ ?_
  . rintro i e H hi hk ⟨hct, rfl, hd⟩
    simp only [keepP, go_sem, ↓reduceIte, Nat.reduceEqDiff, and_true] at hk
    by_cases hlt : i < x.ev.length
    . cases hb : s.d.getLsbD i
      . have h0 := alln (p := fun i => s.d.getLsbD i) hlt hb
        simp -implicitDefEqProofs (disch := first | exact dsch | fail) only [go_sem, ↓reduceIte, Nat.reduceEqDiff, hk, hct, hb, h0]
      . simp -implicitDefEqProofs (disch := first | exact dsch | fail) only [go_sem, ↓reduceIte, Nat.reduceEqDiff, hk, hct, hb]
        refine ⟨hlt, fun j hj => ?_⟩
        by_cases e : j = i
        . subst e; exact hb
        . exact hd j (by omega)
    . obtain rfl : i = x.ev.length := by omega
      have h0 := allf hd
      simp -implicitDefEqProofs (disch := first | exact dsch | fail) only [go_sem, ↓reduceIte, Nat.reduceEqDiff, hk, hct, h0]
  . simp -implicitDefEqProofs (disch := first | exact dsch | fail) only [go_sem, ↓reduceIte, Nat.reduceEqDiff]
    intro j hj; omega
@[go_sem] theorem pu_Final {x : Ex} {s : Fs} (hn : x.ev.length <= 32) {K : Kp} : @Pu _ Tryz.prog 25 [enc x, enc s] K = K.k (.t (.bool (finalB x s))) := (flat_Final hn).pu
def coTo (x : Ex) (s : Fs) (i : Nat) : Rl := (s.l.take i).foldl (fun r l => orR r (ordR x.ev.length l)) (noneR x.ev.length)
theorem coTo_step {x : Ex} {s : Fs} {i : Nat} (h : i < s.l.length) : coTo x s (i + 1) = orR (coTo x s i) (ordR x.ev.length (gd s.l i)) := by
  unfold coTo
  rw [← take_gd h, List.foldl_append]; rfl
theorem coTo_len (x : Ex) (s : Fs) : ∀ i, i <= s.l.length -> (coTo x s i).length = x.ev.length
  | 0, _ => noneR_len _
  | i + 1, h => by rw [coTo_step (by omega), orR_len, coTo_len x s i (by omega)]
theorem flat_Co {x : Ex} {init : List Int} {s : Fs} (B : BdS x init s) : Fun Tryz.prog 28 [enc x, enc s] (.t (enc (coS x s))) := by
  have hn := B.n
  have hl := B.l
  have hk := B.k
  refine Fun.go (b := false) Tryz.func28 rfl rfl (by kernel_rfl) (by kernel_rfl) ?_
  simp -implicitDefEqProofs (disch := first | exact dsch | fail) only [go_sem, ↓reduceIte, Nat.reduceEqDiff]
  refine loop_k (n := s.l.length) [4, 5, 15, 16] (by kernel_rfl) (fun i e H => e 17 = .t (.int .i64 i) /\ ∃ R, H = ⟨[.t (enc x)], 7, false⟩ :: ⟨[.t (enc s)], 3, false⟩ :: R /\ ((i = 0 /\ e 6 = .ref 2 x.ev.length /\ R = [⟨vs (noneR x.ev.length), 1, false⟩]) \/ (0 < i /\ e 6 = .t (enc (coTo x s i))))) ?_ ?_
  . rintro i e H hi hk2 ⟨hct, R, rfl, h6⟩
    simp only [keepP, go_sem, ↓reduceIte, Nat.reduceEqDiff, and_true] at hk2
    by_cases hlt : i < s.l.length
    . have hrow := B.r _ (gd_mem hlt)
      have hle := coTo_len x s i (by omega)
      have hst := coTo_step (x := x) hlt
      have hol := ordR_len x.ev.length (gd s.l i)
      rcases h6 with ⟨rfl, h6, rfl⟩ | ⟨h0, h6⟩
      . have h00 : coTo x s 0 = noneR x.ev.length := rfl
        rw [h00] at hst
        simp -implicitDefEqProofs (disch := first | exact dsch | fail) only [go_sem, ↓reduceIte, Nat.reduceEqDiff, hk2, hct, h6, hol]
        exact ⟨hlt, _, rfl, .inr (by rw [show coTo x s 1 = _ from hst])⟩
      . simp -implicitDefEqProofs (disch := first | exact dsch | fail) only [go_sem, ↓reduceIte, Nat.reduceEqDiff, hk2, hct, h6, hol, hle]
        exact ⟨hlt, _, rfl, .inr ⟨by omega, by rw [hst]⟩⟩
    . obtain rfl : i = s.l.length := by omega
      have hfin : coTo x s s.l.length = coS x s := by unfold coTo coS; rw [List.take_length]
      rcases h6 with ⟨h0, h6, rfl⟩ | ⟨h0, h6⟩
      . have h00 : coTo x s 0 = noneR x.ev.length := rfl
        rw [h0, h00] at hfin
        simp -implicitDefEqProofs (disch := first | exact dsch | fail) only [go_sem, ↓reduceIte, Nat.reduceEqDiff, hk2, hct, h6]
        rw [hfin]
      . simp -implicitDefEqProofs (disch := first | exact dsch | fail) only [go_sem, ↓reduceIte, Nat.reduceEqDiff, hk2, hct, h6, hfin]
  . simp -implicitDefEqProofs (disch := first | exact dsch | fail) only [go_sem, ↓reduceIte, Nat.reduceEqDiff]
    exact ⟨_, rfl, .inl rfl⟩
@[go_sem] theorem pu_FCo {x : Ex} {init : List Int} {s : Fs} (B : BdS x init s) {K : Kp} : @Pu _ Tryz.prog 28 [enc x, enc s] K = K.k (.t (enc (coS x s))) := (flat_Co B).pu
theorem flat_Holds {x : Ex} {init : List Int} {s : Fs} (hok : Okx x) (B : BdS x init s) : Fun Tryz.prog 26 [enc x, enc s] (.t (.bool (holdsB x s))) := by
  have hn := B.n
  have hf := B.f
  have hcl := coS_len x s
  unfold holdsB
  refine Fun.go (b := false) Tryz.func26 rfl rfl (by kernel_rfl) (by kernel_rfl) ?_
  have hco := fun K => pu_FCo B (K := K)
  cases h1 : finalB x s
  . simp -implicitDefEqProofs (disch := first | exact dsch | fail) only [go_sem, ↓reduceIte, Nat.reduceEqDiff, h1, Bool.false_and]
  . cases h2 : internalB x s.f (coS x s)
    . simp -implicitDefEqProofs (disch := first | exact dsch | fail) only [go_sem, ↓reduceIte, Nat.reduceEqDiff, h1, h2, hco, hcl, hf, Bool.true_and, Bool.false_and]
    . simp -implicitDefEqProofs (disch := first | exact dsch | fail) only [go_sem, ↓reduceIte, Nat.reduceEqDiff, h1, h2, hco, hcl, hf, Bool.true_and, Bool.false_and]
@[go_sem] theorem pu_Holds {x : Ex} {init : List Int} {s : Fs} (hok : Okx x) (B : BdS x init s) {K : Kp} : @Pu _ Tryz.prog 26 [enc x, enc s] K = K.k (.t (.bool (holdsB x s))) := (flat_Holds hok B).pu
def startTo (x : Ex) : Nat -> U32
  | 0 => 0#32
  | i + 1 => startTo x i ||| (~~~(maskB x.ev fun y => decide (y.kind ∈ [(1 : Int), 2])) &&& 1#32 <<< i)
theorem startTo_get (x : Ex) {k : Nat} (hk : k < 32) : ∀ i, (startTo x i).getLsbD k = (decide (k < i) && !(maskB x.ev fun y => decide (y.kind ∈ [(1 : Int), 2])).getLsbD k)
  | 0 => by simp [startTo]
  | i + 1 => by
    have hb : (1#32 <<< i).getLsbD k = decide (k = i) := by
      rw [BitVec.getLsbD_shiftLeft]
      by_cases h : k = i
      . subst h; simp [hk]
      . rcases Nat.lt_or_ge k i with h2 | h2
        . simp [h, h2]
        . have : k - i ≠ 0 := by omega
          simp [h, this]
    rw [startTo, BitVec.getLsbD_or, startTo_get x hk i, BitVec.getLsbD_and, BitVec.getLsbD_not, hb]
    by_cases h1 : k < i
    . simp [h1, show k < i + 1 by omega, show k ≠ i by omega]
    . by_cases h2 : k = i
      . subst h2; simp [hk]
      . simp [h1, h2, show ¬ k < i + 1 by omega]
theorem startTo_end (x : Ex) (hn : x.ev.length <= 32) : startTo x x.ev.length = startD x := by
  apply BitVec.eq_of_getLsbD_eq
  intro k hk
  rw [startTo_get x hk]
  unfold startD
  rw [maskB_get hk, maskB_get hk]
  by_cases h : k < x.ev.length <;> simp [h]
theorem mk1_rows {H : Heap} {by_ : Nat} {l c : Int} (h4 : 0 < by_) (h0 : 0 <= l) (hc : l = c) (hn : l * by_ <= 70368744177664) :
    mk1 H (1, by_) (.ex []) l c = some ⟨.ref H.length l.toNat, H ++ [⟨List.replicate l.toNat (.ex []), 1, false⟩], .none⟩ := mk1_ok rfl rfl h4 h0 hc hn
attribute [go_sem] mk1_rows
def rowsO (n : Nat) : Obj := ⟨List.replicate n (.ex []), 1, false⟩
def retS : Obj := ⟨[.agg [.t (.int .u32 0), .ex [], .ex []]], 3, false⟩
def stS (d : U32) (f : V) (n : Nat) : Obj := ⟨[.agg [.t (.int .u32 (d.toNat : Int)), f, .ref 2 n]], 3, false⟩
theorem rows_t {H : Heap} {k : Nat} : (cur1 ⟨List.replicate k (.ex []), 1, false⟩ k).bind (toTo2 H) = some (enc (List.replicate k ([] : List Int))) := by
  have h1 : toT H 2 (.ex []) = some (.sl []) := rfl
  have h2 : ∀ k : Nat, (List.replicate k (V.ex [])).mapM (toT H 2) = some (List.replicate k (T.sl [])) := by
    intro k
    induction k with
    | zero => rfl
    | succ k ih => simp [List.replicate_succ, List.mapM_cons, h1, ih]
  unfold cur1 toTo2
  rw [if_pos (by simp), Option.bind_some, h2]
  have h3 : (enc (List.replicate k ([] : List Int)) : T) = .sl (List.replicate k (T.sl [])) := by
    show T.sl ((List.replicate k ([] : List Int)).map enc) = _
    rw [List.map_replicate]; rfl
  rw [h3]; rfl
theorem flat_Start {x : Ex} {init : List Int} (hn : x.ev.length <= 32) (hk : init.length <= 100) : Fun Tryz.prog 18 [enc x, enc init] (.t (enc (startR x init))) := by
  refine Fun.go (b := false) Tryz.func18 rfl rfl (by kernel_rfl) (by kernel_rfl) ?_
  simp -implicitDefEqProofs (disch := first | exact dsch | fail) only [go_sem, ↓reduceIte, Nat.reduceEqDiff]
  refine loop_k (n := x.ev.length) [4, 5, 6, 17] (by kernel_rfl) (fun i e H => e 18 = .t (.int .i64 i) /\ ((i = 0 /\ H = [⟨[.t (enc x)], 7, false⟩, retS, rowsO init.length, stS 0#32 (.ex []) init.length]) \/ (0 < i /\ H = [⟨[.t (enc x)], 7, false⟩, retS, rowsO init.length, stS (startTo x i) (.ref 4 i) init.length, ⟨vs (List.replicate i (-2 : Int)), 1, false⟩]))) ?_ ?_
  . rintro i e H hi hk2 ⟨hct, hH⟩
    simp only [keepP, go_sem, ↓reduceIte, Nat.reduceEqDiff, and_true] at hk2
    by_cases hlt : i < x.ev.length
    . rcases hH with ⟨rfl, rfl⟩ | ⟨h0, rfl⟩
      . unfold rowsO retS stS
        simp -implicitDefEqProofs (disch := first | exact dsch | fail) only [go_sem, ↓reduceIte, Nat.reduceEqDiff, hk2, hct]
        exact ⟨hlt, .inr rfl⟩
      . unfold rowsO retS stS
        simp -implicitDefEqProofs (disch := first | exact dsch | fail) only [go_sem, ↓reduceIte, Nat.reduceEqDiff, hk2, hct]
        refine ⟨hlt, .inr ⟨by omega, ?_⟩⟩
        rw [show List.replicate i (-2 : Int) ++ [-2] = -2 :: List.replicate i (-2) by rw [← List.replicate_succ, List.replicate_succ']]
        rfl
    . obtain rfl : i = x.ev.length := by omega
      rcases hH with ⟨h0, rfl⟩ | ⟨h0, rfl⟩
      . unfold rowsO retS stS
        simp -implicitDefEqProofs (disch := first | exact dsch | fail) only [go_sem, ↓reduceIte, Nat.reduceEqDiff, hk2, hct, h0, rows_t]
        have e0 : startD x = 0#32 := by rw [← startTo_end x hn, h0]; rfl
        unfold startR
        rw [e0, h0]; rfl
      . unfold rowsO retS stS
        simp -implicitDefEqProofs (disch := first | exact dsch | fail) only [go_sem, ↓reduceIte, Nat.reduceEqDiff, hk2, hct, rows_t, startTo_end x hn]
        rfl
  . simp -implicitDefEqProofs (disch := first | exact dsch | fail) only [go_sem, ↓reduceIte, Nat.reduceEqDiff]
    exact .inl rfl
@[go_sem] theorem pu_Start {x : Ex} {init : List Int} (hn : x.ev.length <= 32) (hk : init.length <= 100) {K : Kp} : @Pu _ Tryz.prog 18 [enc x, enc init] K = K.k (.t (enc (startR x init))) := (flat_Start hn hk).pu
end Go.Sim
