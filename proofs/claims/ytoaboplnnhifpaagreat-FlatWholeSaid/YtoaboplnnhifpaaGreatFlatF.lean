/- Part: FlatF -/
import Derived.Test.YtoaboplnnhifpaaGreatFlatE
set_option linter.all false
set_option maxRecDepth 100000
namespace Go.Sim
open Enc (enc)
open Go.Proofs
theorem imp_fresh {α : Type} [Enc α] {l : List α} (h : l ≠ []) (hs : Enc.sz α = 1) (H : Heap) : importV H (freshL l) = (.ref H.length l.length, H ++ [⟨vs l, 1, false⟩]) := by
  rw [fresh_ne h]; simp [importV, vs]
theorem flat_done {x : Ex} {init : List Int} {s : Fs} {n : Nat} (W : WfE n x) (B : BdS x init s) {i loc : Nat} (hi : i < x.ev.length) (hloc : (gd x.ev i).loc = (loc : Int)) (hll : loc < init.length) (o : Bool) :
    Fun Tryz.prog 62 [enc x, enc s, enc (⟨i, o⟩ : Mv)] (.t (enc (doneR x s ⟨i, o⟩))) := by
  have hok := W.ok
  have hn := B.n
  have hk := B.k
  have hl := B.l
  have hf := B.f
  have hr := B.r
  have hls : loc < s.l.length := by omega
  have hrow := hr _ (gd_mem hls)
  have hr1 : ∀ l ∈ s.l, l.length <= 1000 := fun l h => by have := hr l h; omega
  have nf : s.f ≠ [] := fun e => by rw [e] at hf; simp at hf; omega
  have nl : s.l ≠ [] := fun e => by rw [e] at hl; simp at hl; omega
  have i1 := imp_fresh nf rfl
  have i2 := imp_fresh nl rfl
  have hcl := fun K => (clone_int s.f (by omega)).pu (K := K)
  have hcr := fun K => (clone_rows s.l (by omega)).pu (K := K)
  have hcat := fun K => (slices_Concat (ls := [gd s.l loc, [(i : Int)]]) (by simp) (by simp [lens]; omega) (by simp [lens])).pu (K := K)
  have hla := fun K => (flat_last hls hr1).pu (K := K)
  unfold doneR
  simp only [Int.toNat_natCast, hloc]
  refine Fun.go (b := false) Tryz.func62 rfl rfl (by kernel_rfl) (by kernel_rfl) ?_
  by_cases c1 : (gd x.ev i).kind = 2
  . simp -implicitDefEqProofs (disch := first | exact dsch | fail) only [go_sem, ↓reduceIte, Nat.reduceEqDiff, c1, hloc, hcl, hcr, i1, i2, hcat]
    rw [show ([gd s.l loc, [(i : Int)]] : List (List Int)).flatten = gd s.l loc ++ [(i : Int)] by simp]
  . cases o
    . simp -implicitDefEqProofs (disch := first | exact dsch | fail) only [go_sem, ↓reduceIte, Nat.reduceEqDiff, c1, hloc, hcl, hcr, i1, i2, hla]
    . simp -implicitDefEqProofs (disch := first | exact dsch | fail) only [go_sem, ↓reduceIte, Nat.reduceEqDiff, c1, hloc, hcl, hcr, i1, i2]
theorem st47 : Tryz.prog.stoodInHeld 47 = false := by kernel_rfl
theorem eg47 : Tryz.prog.eqGuardType Tryz.prog.depth 47 = false := by kernel_rfl
theorem ft47 : (fieldsT Tryz.prog 47).map (fun f => (f.name == "_", f.offset, f.type)) = [(false, 0, 3), (false, 1, 4)] := by kernel_rfl
theorem eq_Mv (a b : Mv) : binS Tryz.prog .eql 47 (enc a) (enc b) = some (.bool (decide (a = b))) := by
  have h := ft47
  have hk3 : kdOf Tryz.prog 3 = .int .i64 := by kernel_rfl
  have hk4 : kdOf Tryz.prog 4 = .bool := by kernel_rfl
  show aggEq Tryz.prog .eql 47 [.int .i64 a.e, .bool a.o] [.int .i64 b.e, .bool b.o] = _
  unfold aggEq
  rw [kd47]
  simp only [st47, eg47, and_self, if_true]
  generalize fieldsT Tryz.prog 47 = fs at h
  have hlen := congrArg List.length h
  simp only [List.length_map, List.length_cons, List.length_nil] at hlen
  match fs, hlen, h with
  | [f, g], _, h =>
    simp only [List.map_cons, List.map_nil, List.cons.injEq, Prod.mk.injEq, and_true] at h
    obtain ⟨⟨h1, h2, h3⟩, h4, h5, h6⟩ := h
    have e1 : f.name ≠ "_" := by simpa using h1
    have e2 : g.name ≠ "_" := by simpa using h4
    have l1 : leafEq Tryz.prog 3 (.int .i64 a.e) (.int .i64 b.e) = some (a.e == b.e) := by unfold leafEq; rw [hk3]; rfl
    have l2 : leafEq Tryz.prog 4 (.bool a.o) (.bool b.o) = some (a.o == b.o) := by unfold leafEq; rw [hk4]
    simp only [eqFs, if_pos e1, if_pos e2, h2, h3, h5, h6, List.getElem?_cons_zero, List.getElem?_cons_succ, l1, l2, Option.bind_some]
    obtain ⟨ae, ao⟩ := a
    obtain ⟨be, bo⟩ := b
    by_cases h7 : ae = be
    . by_cases h8 : ao = bo
      . simp [h7, h8]
      . simp [h7, h8]
    . simp [h7]
def doS (x : Ex) (init : List Int) (s : Fs) (m : Mv) : Fs := if m ∈ movesR x init s then doneR x s m else ⟨0#32, [], []⟩
theorem moves_ok {n : Int} {x : Ex} {init : List Int} {s : Fs} (W : WfE n x) {m : Mv} (hm : m ∈ movesR x init s) : ∃ (i loc : Nat) (o : Bool), m = ⟨i, o⟩ /\ i < x.ev.length /\ (gd x.ev i).loc = (loc : Int) /\ loc < init.length /\ canB x init s i o = true := by
  obtain ⟨_, i, o, rfl, hi, hc⟩ := moves_in.1 hm
  have hr : readyB x init s i (aheadZ x) = true := by unfold canB at hc; rw [Bool.and_eq_true] at hc; exact hc.1
  obtain ⟨_, h0, h1, _⟩ := ready_ah W (aheadZ_len x) hi hr
  exact ⟨i, (gd x.ev i).loc.toNat, o, rfl, hi, by omega, by omega, hc⟩
theorem flat_Do {x : Ex} {init : List Int} {s : Fs} {n : Nat} (W : WfE n x) (B : BdS x init s) (m : Mv) :
    Fun Tryz.prog 20 [enc x, enc init, enc s, enc m] (.tup [.t (enc (doS x init s m)), .t (.int .i64 (if m ∈ movesR x init s then 0 else 1))]) := by
  have hok := W.ok
  have hn := B.n
  have hmv := fun K => pu_Moves W B (K := K)
  have hml : (movesR x init s).length <= 100 := by
    unfold movesR
    split
    . have := movesTo_len x init s x.ev.length; omega
    . simp
  have hmo : ∀ m ∈ movesR x init s, ∀ K, @Pu _ Tryz.prog 62 [enc x, enc s, enc m] K = K.k (.t (enc (doneR x s m))) := by
    intro m hm K
    obtain ⟨i, loc, o, rfl, hi, hloc, hll, _⟩ := moves_ok W hm
    exact (flat_done W B hi hloc hll o).pu (K := K)
  unfold doS
  refine Fun.go (b := false) Tryz.func20 rfl rfl (by kernel_rfl) (by kernel_rfl) ?_
  simp -implicitDefEqProofs (disch := first | exact dsch | fail) only [go_sem, ↓reduceIte, Nat.reduceEqDiff, hmv]
  generalize movesR x init s = l at hml hmo ⊢
  refine loop_k (n := l.length) [4, 6, 7, 8, 15, 16] (by kernel_rfl) (fun i e H => e 17 = .t (.int .i64 i) /\ (∀ j, j < i -> gd l j ≠ m) /\ ∃ R, H = ⟨[.t (enc x)], 7, false⟩ :: ⟨[.t (enc s)], 3, false⟩ :: ⟨[.t (enc m)], 2, false⟩ :: ⟨[.agg [.t (.int .u32 0), .ex [], .ex []]], 3, false⟩ :: R) ?_ ?_
  . rintro i e H hi hk ⟨hct, hno, R, rfl⟩
    simp only [keepP, go_sem, ↓reduceIte, Nat.reduceEqDiff, and_true] at hk
    by_cases hlt : i < l.length
    . have hin := gd_mem hlt
      by_cases he : gd l i = m
      . have heq := eq_Mv (gd l i) m
        rw [decide_eq_true he] at heq
        have hd := hmo m (he ▸ hin)
        rw [if_pos (he ▸ hin), if_pos (he ▸ hin)]
        simp -implicitDefEqProofs (disch := first | exact dsch | fail) only [go_sem, ↓reduceIte, Nat.reduceEqDiff, hk, hct, gx0, gxk, sx0, sxk, List.append_assoc, heq, hd]
      . have heq := eq_Mv (gd l i) m
        rw [decide_eq_false he] at heq
        simp -implicitDefEqProofs (disch := first | exact dsch | fail) only [go_sem, ↓reduceIte, Nat.reduceEqDiff, hk, hct, gx0, gxk, sx0, sxk, List.append_assoc, heq]
        refine ⟨hlt, fun j hj => ?_, _, rfl⟩
        by_cases e : j = i
        . subst e; exact he
        . exact hno j (by omega)
    . obtain rfl : i = l.length := by omega
      have hnm : ¬ m ∈ l := fun hm => by
        obtain ⟨j, hj, rfl⟩ := List.mem_iff_getElem.1 hm
        exact hno j hj (by rw [gd_get hj])
      rw [if_neg hnm, if_neg hnm]
      simp -implicitDefEqProofs (disch := first | exact dsch | fail) only [go_sem, ↓reduceIte, Nat.reduceEqDiff, hk, hct]
      rfl
  . simp -implicitDefEqProofs (disch := first | exact dsch | fail) only [go_sem, ↓reduceIte, Nat.reduceEqDiff]
    exact ⟨fun j hj => by omega, _, rfl⟩
@[go_sem] theorem pu_Do {x : Ex} {init : List Int} {s : Fs} {n : Nat} (W : WfE n x) (B : BdS x init s) {m : Mv} {K : Kp} : @Pu _ Tryz.prog 20 [enc x, enc init, enc s, enc m] K = K.k (.tup [.t (enc (doS x init s m)), .t (.int .i64 (if m ∈ movesR x init s then 0 else 1))]) := (flat_Do W B m).pu
end Go.Sim
