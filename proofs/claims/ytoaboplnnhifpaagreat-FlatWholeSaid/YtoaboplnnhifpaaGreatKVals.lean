/- A part of the proof of a law of module cupola: KVals1, KAppend, KOnce, KOnce2. It has no conditions of its own. -/
import Derived.RangeFuncBox
import Derived.RangeFuncLeaves
import Derived.RangeFuncBound
import Derived.Shelf.Abstract
import Derived.WalkKit
import Derived.OwnWalkIn
import Derived.TacticsInMore
import Derived.LoopNIn
import Derived.LoopIn
import Derived.Test.YtoaboplnnhifpaaGreatProg
import Derived.Test.YtoaboplnnhifpaaGreatKLay
import Derived.Lib.OwnBridge
set_option linter.all false
namespace Go.Proofs
open Go.RowKit Go.Shelf

@[go_sem] theorem valsAt (l : Nat) (ρ : Operand → Value) (o : Oper) (h : ∀ c, o.op ≠ .defer c) : Oper.semAt (some l) ρ o = execOp ρ o := Oper.semAt_some l ρ o h

def upto {α : Type} (f : Nat → α) (k : Nat) : List α := (List.range k).map f
theorem upto_succ {α : Type} (f : Nat → α) (k : Nat) : upto f (k + 1) = upto f k ++ [f k] := by simp [upto, List.range_succ]
theorem upto_length {α : Type} (f : Nat → α) (k : Nat) : (upto f k).length = k := by simp [upto]
theorem upto_all (zs : List Int) : upto (fun j => zs[j]?.getD 0) zs.length = zs := by
  apply List.ext_getElem
  · simp [upto]
  · intro i h1 h2
    simp [upto, h2]

set_option maxRecDepth 100000 in
set_option maxHeartbeats 2000000 in
theorem Tryz.values1 (n : Nat) (hn : 1 ≤ n) (l Bs b off cap : Nat) (f : Nat → Int) (len : Nat) (w0 : World) (hreach : len * 8 ≤ 140737488351232) (hb : b < w0.heap.size) (J : List Int → World → Prop)
    (hJB : ∀ pre W, J pre W → Below w0.heap.size w0 W)
    (hY : ∀ pre x W, J pre W → pre.length < len → YieldAt Fence.wide (n - 1) Tryz.prog l #[.int .i64 x] W fun e W' => e = .returned (.bool true) ∧ J (pre ++ [x]) W' ∧ KeepsWalks W W')
    (W : World) (hBs : W.cell? ⟨Bs, 0, none⟩ = some (.slice (some ⟨b, off, none⟩) len cap)) (hc : ∀ j, j < len → w0.cell? ⟨b, off + j, none⟩ = some (.int .i64 (f j))) (h0 : J [] W) :
    CallsIn Fence.wide n Tryz.prog 232 #[.func (.yield l) #[] #[], .pointer (some ⟨Bs, 0, none⟩)] W fun e W' => (∃ v, e = .returned v) ∧ J (upto f len) W' := by
  refine callsIn_of_wp Tryz.func232 rfl trivial ?_ rfl
  simp only [Tryz.ntmps232, List.size_toArray, List.length_cons, List.length_nil, Nat.reduceAdd, Nat.reduceSub, Array.replicate_succ, Array.replicate_zero, List.push_toArray, List.append_toArray, List.nil_append, List.cons_append]
  gi_wp2
  gi_loopw [7] (fun i wr => ∃ k : Nat, k ≤ len ∧ i = .int .i64 k ∧ J (upto f k) wr)
    (fun i _ => len - (intOf i).toNat)
  case atStart => exact ⟨0, Nat.zero_le _, rfl, h0⟩
  case round =>
    obtain ⟨k, hk, rfl, hJs⟩ := hrel
    have hnx := hJB _ _ hJs
    have hcx : k < len → wr.cell? ⟨b, off + k, none⟩ = some (.int .i64 (f k)) := fun h => (hnx.cell (p := ⟨b, off + k, none⟩) hb).trans (hc k h)
    by_cases hlt : k < len
    · obtain ⟨fn, tmps, assign, body, hy, hR⟩ := hY _ (f k) wr hJs (by rw [upto_length]; exact hlt)
      have hcx' := hcx hlt
      gi_wp2
      refine hR.mono ?_
      rintro e W3 ⟨rfl, hJ3, hk3⟩
      gi_wp2
      go_roundw
      case rel => exact ⟨k + 1, by omega, by simp, by rw [upto_succ]; exact hJ3⟩
      case measure => simp [intOf]; omega
    · obtain rfl : k = len := by omega
      gi_wp2
      go_end0
      exact ⟨⟨_, rfl⟩, hJs⟩

set_option maxRecDepth 100000 in
set_option maxHeartbeats 1000000 in
theorem Tryz.values1_nil (n : Nat) (l Bs : Nat) (A : Option Addr) (c : Nat) (J : List Int → World → Prop) (W : World) (hBs : W.cell? ⟨Bs, 0, none⟩ = some (.slice A 0 c)) (h0 : J [] W) :
    CallsIn Fence.wide n Tryz.prog 232 #[.func (.yield l) #[] #[], .pointer (some ⟨Bs, 0, none⟩)] W fun e W' => (∃ v, e = .returned v) ∧ J [] W' := by
  refine callsIn_of_wp Tryz.func232 rfl trivial ?_ rfl
  simp only [Tryz.ntmps232, List.size_toArray, List.length_cons, List.length_nil, Nat.reduceAdd, Nat.reduceSub, Array.replicate_succ, Array.replicate_zero, List.push_toArray, List.append_toArray, List.nil_append, List.cons_append]
  gi_wp2
  gi_loopw [7] (fun i wr => i = .int .i64 0 ∧ J [] wr) (fun _ _ => 0)
  case atStart => exact ⟨rfl, h0⟩
  case round =>
    obtain ⟨rfl, hJs⟩ := hrel
    gi_wp2
    go_end0
    exact ⟨⟨_, rfl⟩, hJs⟩

set_option maxHeartbeats 1000000 in
theorem Tryz.values_in (n : Nat) (a : Option Addr) (len cap : Nat) (w : World) :
    CallsIn Fence.wide n Tryz.prog 168 #[.slice a len cap] w fun e w' => e = .returned (.func (.func 232) #[] #[.pointer (some ⟨w.heap.size, 0, none⟩)]) ∧ w' = w.alloc (.cells #[.slice a len cap] 22) := by
  refine callsIn_of_wp Tryz.func168 rfl trivial ?_ rfl
  simp only [Tryz.ntmps168, List.size_toArray, List.length_cons, List.length_nil, Nat.reduceAdd, Nat.reduceSub, Array.replicate_succ, Array.replicate_zero, List.push_toArray, List.append_toArray, List.nil_append, List.cons_append]
  gi_wp2
  go_ret
  exact ⟨rfl, rfl⟩
end Go.Proofs

namespace Go.Proofs
open Go.RowKit Go.Maps Go.Sort Go.Shelf

def Tryz.Hands (m : Nat) (lb : Array Value) (zs : List Int) (w : World) : Prop :=
  ∀ (l : Nat) (J : List Int → World → Prop) (W : World), (∀ pre W, J pre W → Below w.heap.size w W) →
    (∀ pre x W1, J pre W1 → pre.length < zs.length → YieldAt Fence.wide (m - 1) Tryz.prog l #[encZ x] W1 fun e W' => e = .returned (.bool true) ∧ J (pre ++ [x]) W' ∧ KeepsWalks W1 W') →
    J [] W → CallsIn Fence.wide m Tryz.prog 232 (#[.func (.yield l) #[] #[]] ++ lb) W fun e W' => (∃ v, e = .returned v) ∧ J zs W'

set_option maxRecDepth 100000 in
set_option maxHeartbeats 2000000 in
theorem Tryz.appendSeq (n : Nat) (hn : 2 ≤ n) (lb : Array Value) (zs : List Int) (hz : zs.length * 8 ≤ 140737488351232) (w : World) (hseq : Tryz.Hands (n - 1) lb zs w) :
    CallsIn Fence.wide n Tryz.prog 266 #[.slice none 0 0, .func (.func 232) #[] lb] w fun e w' => ∃ v, e = .returned v ∧ w'.ownsRow w.heap.size 2 1 v zs.length (zs.map encZ) ∧ (v = .slice none 0 0 ↔ zs = []) ∧ Below w.heap.size w w' := by
  have h1 : 1 ≤ n := by omega
  have eg : ∀ args W, (callFunc 232 args).run Tryz.prog W = .ok (.enter 232 args) W := enters_of Tryz.func232 (by kernel_rfl) rfl
  refine callsIn_of_wp_marks Tryz.func266 rfl trivial ?_ rfl
  simp only [Tryz.ntmps266, List.size_toArray, List.length_cons, List.length_nil, Nat.reduceAdd, Nat.reduceSub, Array.replicate_succ, Array.replicate_zero, List.push_toArray, List.append_toArray, List.nil_append, List.cons_append]
  gi_wp2
  refine wpIn_rangeFunc ?_
  intro fn hfn
  obtain ⟨W0, hW0⟩ : ∃ W0, w.alloc (.cells #[.slice none 0 0] 22) = W0 := ⟨_, rfl⟩
  have size0 : W0.heap.size = w.heap.size + 1 := by rw [← hW0]; simp
  have box0 : W0.heap[w.heap.size]? = some (.cells #[.slice none 0 0] 22 (0, 0)) := by rw [← hW0]; exact World.alloc_heap_new w _
  have below0 : Below w.heap.size w W0 := by rw [← hW0]; exact (Below.refl _ w).alloc (Nat.le_refl _) _
  rw [hW0]
  obtain ⟨W1, hW1⟩ : ∃ W1, (W0.alloc (.deferred (some []))).alloc (.loop (AnyZI.apRec Tryz.sortedA_ren fn (.func (.func 232) #[] lb) w.heap.size W0.heap.size .ready none)) = W1 := ⟨_, rfl⟩
  have below1 : Below w.heap.size w W1 := by rw [← hW1]; exact (below0.alloc below0.size _).alloc (by have := below0.size; simp; omega) _
  have start : AnyZI.ApAt Tryz.sortedA_ren w fn (.func (.func 232) #[] lb) w.heap.size (W0.heap.size + 1) W0.heap.size [] W1 := by
    refine ⟨⟨_, ?_, ⟨rfl, .inl ⟨rfl, rfl⟩⟩, by simp⟩, ?_, ?_, below1⟩
    · rw [← hW1]; exact ((Below.heap_alloc _ _ _ (by simp; omega)).trans (Below.heap_alloc _ _ _ (by omega))).trans box0
    · rw [← hW1]
      have := World.alloc_heap_new (W0.alloc (.deferred (some []))) (.loop (AnyZI.apRec Tryz.sortedA_ren fn (.func (.func 232) #[] lb) w.heap.size W0.heap.size .ready none))
      rwa [World.size_alloc] at this
    · rw [← hW1]; exact (Below.heap_alloc _ _ _ (by simp)).trans (World.alloc_heap_new W0 _)
  refine ⟨W0.heap.size + 1, [{ target := .collected W0.heap.size, args := #[] }], W1, { target := .fn (.func 232) lb, args := #[.func (.yield (W0.heap.size + 1)) #[] #[]] }, W1, 232,
    #[.func (.yield (W0.heap.size + 1)) #[] #[]] ++ lb, W1, ?_, ?_, ?_, ?_, fun _ => h1, ?_⟩
  · rw [← hW1]; exact run_enterLoop_outer _ _ _ _ _
  · simp [resolve, go_sem]
  · intro f' hf'; simp [Target.leads] at hf'; subst hf'; trivial
  · simp [invoke, go_sem, eg]
  · refine (hseq (W0.heap.size + 1) (AnyZI.ApAt Tryz.sortedA_ren w fn (.func (.func 232) #[] lb) w.heap.size (W0.heap.size + 1) W0.heap.size) W1 (fun _ _ h => h.below)
      (fun pre x W hJ hl => AnyZI.apYield { Tryz.sortedA with } Fence.wide (n - 1 - 1) w fn hfn _ w.heap.size (W0.heap.size + 1) W0.heap.size (by omega) (by omega) (by omega) (Nat.le_refl _) (by omega) zs.length (by simp only [maxLen]; omega) (by omega) pre x W hJ hl) start).mono ?_
    rintro e W2 ⟨⟨v0, rfl⟩, h2⟩
    obtain ⟨v, hv, hrow, hnil⟩ := h2.box
    have hend := run_endLoop (P := Tryz.prog) h2.L (by simp [AnyZI.apRec])
    obtain ⟨W3, hW3⟩ : ∃ W3, W2.putObj (W0.heap.size + 1) (.loop { AnyZI.apRec Tryz.sortedA_ren fn (.func (.func 232) #[] lb) w.heap.size W0.heap.size .ready none with state := .exhausted }) = W3 := ⟨_, rfl⟩
    rw [hW3] at hend
    have hg3 : W2.grownBy W3 (some (W0.heap.size + 1)) := by rw [← hW3]; exact grownBy_putObj_a _ _ _
    have hv3 : W3.heap[w.heap.size]? = some (.cells #[v] 22 (0, 0)) := by rw [← hW3]; exact (World.putObj_heap_other (by omega)).trans hv
    have hK3 : W3.heap[W0.heap.size]? = some (.deferred (some [])) := by rw [← hW3]; exact (World.putObj_heap_other (by omega)).trans h2.K
    have hrow3 := hrow.kept hg3 (ownsRow_ne_a hrow h2.L (fun cur e => by cases e))
    have hb3 : Below w.heap.size w W3 := h2.below.grown hg3 h2.below.size (fun k e => by cases e; omega)
    obtain ⟨hc3, hf3⟩ := cell_of_box_a hv3
    clear hW3
    refine ⟨none, W3, hend, ?_⟩
    gi_wp2
    rw [← size0]
    refine ⟨by simp, .inl ⟨_, _, rfl, run_takeDeferred hK3, ?_⟩⟩
    exact ⟨_, results_tmp rfl _ _ _, v, rfl, hrow3.kept (grownBy_putObj_a _ _ _) (ownsRow_ne_a hrow3 hK3 (fun cur e => by cases e)), hnil, hb3.grown (grownBy_putObj_a _ _ _) hb3.size (fun k e => by cases e; omega)⟩
end Go.Proofs

namespace Go.Proofs
open Go.RowKit Go.Maps Go.Sort Go.Shelf

set_option maxHeartbeats 1000000 in
theorem Tryz.collect (n : Nat) (hn : 3 ≤ n) (lb : Array Value) (zs : List Int) (hz : zs.length * 8 ≤ 140737488351232) (w : World) (hseq : Tryz.Hands (n - 1 - 1) lb zs w) :
    CallsIn Fence.wide n Tryz.prog 230 #[.func (.func 232) #[] lb] w fun e w' => ∃ v, e = .returned v ∧ w'.ownsRow w.heap.size 2 1 v zs.length (zs.map encZ) ∧ (v = .slice none 0 0 ↔ zs = []) ∧ Below w.heap.size w w' := by
  have h1 : 1 ≤ n := by omega
  have hF : Fence.wide.fn 266 := trivial
  refine callsIn_of_wp Tryz.func230 rfl trivial ?_ rfl
  simp only [Tryz.ntmps230, List.size_toArray, List.length_cons, List.length_nil, Nat.reduceAdd, Nat.reduceSub, Array.replicate_succ, Array.replicate_zero, List.push_toArray, List.append_toArray, List.nil_append, List.cons_append]
  gi_wp2_with (gi_at_call 266; refine (Tryz.appendSeq (n - 1) (by omega) lb zs hz _ hseq).mono ?_; rintro e w' ⟨v, rfl, hrow, hnil, hb⟩)
  go_ret
  exact ⟨v, rfl, hrow, hnil, hb⟩

set_option maxHeartbeats 1000000 in
theorem Tryz.sorted (n : Nat) (hn : 4 ≤ n) (lb : Array Value) (zs : List Int) (hz : zs.length * 8 ≤ 140737488351232) (w : World) (hseq : Tryz.Hands (n - 1 - 1 - 1) lb zs w) :
    CallsIn Fence.wide n Tryz.prog 167 #[.func (.func 232) #[] lb] w fun e w' => ∃ v, e = .returned v ∧
      w'.ownsRow w.heap.size 2 1 v zs.length ((zs.mergeSort (fun x y => decide (x ≤ y))).map encZ) ∧ (v = .slice none 0 0 ↔ zs = []) ∧ Below w.heap.size w w' := by
  have h1 : 1 ≤ n := by omega
  have hF : Fence.wide.fn 230 := trivial
  have hF' : Fence.wide.fn 231 := trivial
  refine callsIn_of_wp Tryz.func167 rfl trivial ?_ rfl
  simp only [Tryz.ntmps167, List.size_toArray, List.length_cons, List.length_nil, Nat.reduceAdd, Nat.reduceSub, Array.replicate_succ, Array.replicate_zero, List.push_toArray, List.append_toArray, List.nil_append, List.cons_append]
  gi_wp2_with (gi_at_call 230; refine (Tryz.collect (n - 1) (by omega) lb zs hz _ hseq).mono ?_; rintro e W ⟨v, rfl, hrow, hnil, hb⟩)
  rcases hrow.2 with ⟨rfl, hz0⟩ | ⟨gb, cap, cur, rfl, hbase, hgb, r1, r2, r3, r4⟩
  · obtain rfl : zs = [] := List.eq_nil_of_length_eq_zero hz0
    have cN := (Tryz.sortsA (n - 1)).2 none 0 W
    change CallsIn _ _ Tryz.prog 231 _ _ _ at cN
    gi_wp2_with (gi_at_call 231; refine cN.mono ?_; rintro e w' ⟨rfl, rfl⟩)
    go_ret
    exact ⟨.slice none 0 0, rfl, by simpa using hrow, by simp, hb⟩
  · have hH : Holds encZ W gb 0 zs.toArray := holds_of_block_i hgb (by simpa using r4)
    have hgl : gb < W.heap.size := (Array.getElem?_eq_some_iff.1 hgb).1
    have cS := (Tryz.sortsA (n - 1)).1 gb 0 cap zs W hH hgl (by omega)
    change CallsIn _ _ Tryz.prog 231 _ _ _ at cS
    gi_wp2_with (gi_at_call 231; refine cS.mono ?_; rintro e w' ⟨rfl, nn, os, rfl⟩)
    go_ret
    exact ⟨_, rfl, ownsRow_sorted_i (by simp) hbase hgb r1 r2 r3, hnil, hb.grown (grownBy_sorted_i _) hb.size (fun j hj => by cases hj; exact hbase)⟩
end Go.Proofs

namespace Go.Proofs
open Go.RowKit Go.Maps Go.Sort Go.Shelf

def IntsAt (w : World) (sv : Value) (zs : List Int) : Prop :=
  (∃ A c, sv = .slice A 0 c ∧ zs = []) ∨ ∃ b off cap, sv = .slice (some ⟨b, off, none⟩) zs.length cap ∧ b < w.heap.size ∧ ∀ j, j < zs.length → w.cell? ⟨b, off + j, none⟩ = some (.int .i64 (zs[j]?.getD 0))
def NewInts (B : Nat) (w : World) (v : Value) (l : List Int) : Prop :=
  (v = .slice none 0 0 ∧ l = []) ∨ ∃ b cap, v = .slice (some ⟨b, 0, none⟩) l.length cap ∧ l.length ≤ cap ∧ B ≤ b ∧ b < w.heap.size ∧ ∀ j, j < l.length → w.cell? ⟨b, j, none⟩ = some (.int .i64 (l[j]?.getD 0))

theorem Tryz.hands (m : Nat) (hm : 1 ≤ m) (sv : Value) (zs : List Int) (hz : zs.length * 8 ≤ 140737488351232) (w : World) (h : IntsAt w sv zs) :
    Tryz.Hands m #[.pointer (some ⟨w.heap.size, 0, none⟩)] zs (w.alloc (.cells #[sv] 22)) := by
  intro l J W hJB hY h0
  have hbox : W.cell? ⟨w.heap.size, 0, none⟩ = some sv := ((hJB _ _ h0).cell (p := ⟨w.heap.size, 0, none⟩) (by simp)).trans (by simp)
  rcases h with ⟨A, c, rfl, rfl⟩ | ⟨b, off, cap, rfl, hb, hc⟩
  · exact Tryz.values1_nil m l _ A c J W hbox h0
  · refine (Tryz.values1 m hm l w.heap.size b off cap (fun j => zs[j]?.getD 0) zs.length (w.alloc (.cells #[.slice (some ⟨b, off, none⟩) zs.length cap] 22)) hz (by simp; omega) J hJB hY W hbox (fun j hj => ?_) h0).mono ?_
    · exact ((Below.refl w.heap.size w).alloc (Nat.le_refl _) _).cell (p := ⟨b, off + j, none⟩) hb |>.trans (hc j hj)
    · rintro e W' ⟨he, hj⟩
      exact ⟨he, by rw [upto_all] at hj; exact hj⟩

set_option maxHeartbeats 1000000 in
theorem Tryz.once_in (sv : Value) (zs : List Int) (hz : zs.length * 8 ≤ 140737488351232) (w : World) (h : IntsAt w sv zs) :
    Calls Tryz.prog 89 #[sv] w fun e w' => ∃ v, e = .returned v ∧ NewInts w.heap.size w' v (Lib.compact (zs.mergeSort (fun x y => decide (x ≤ y)))) ∧ Below w.heap.size w w' := by
  refine (callsIn_wide (n := 8)).1 ?_
  have h1 : Fence.wide.fn 168 := trivial
  have h2 : Fence.wide.fn 167 := trivial
  have h3 : Fence.wide.fn 166 := trivial
  have cV : ∀ W, CallsIn Fence.wide 7 Tryz.prog 168 #[sv] W fun e w' => e = .returned (.func (.func 232) #[] #[.pointer (some ⟨W.heap.size, 0, none⟩)]) ∧ w' = W.alloc (.cells #[sv] 22) := by
    intro W
    rcases h with ⟨A, c, rfl, rfl⟩ | ⟨b, off, cap, rfl, hb, hc⟩ <;> exact Tryz.values_in 7 _ _ _ W
  have cS := Tryz.sorted 7 (by omega) _ zs hz _ (Tryz.hands 4 (by omega) sv zs hz w h)
  have hlen : (zs.mergeSort fun x y => decide (x ≤ y)).length = zs.length := List.length_mergeSort _
  generalize zs.mergeSort (fun x y => decide (x ≤ y)) = ys at cS hlen ⊢
  refine callsIn_of_wp Tryz.func89 rfl trivial ?_ rfl
  simp only [Tryz.ntmps89, List.size_toArray, List.length_cons, List.length_nil, Nat.reduceAdd, Nat.reduceSub, Array.replicate_succ, Array.replicate_zero, List.push_toArray, List.append_toArray, List.nil_append, List.cons_append]
  gi_wp2_with (first
    | (gi_at_call 168; refine (cV _).mono ?_; rintro e w' ⟨rfl, rfl⟩)
    | (gi_at_call 167; refine cS.mono ?_; rintro e W ⟨v, rfl, hrow, hnil, hb⟩))
  have hbw : Below w.heap.size w (w.alloc (.cells #[sv] 22)) := (Below.refl _ w).alloc (Nat.le_refl _) _
  have hbW : Below w.heap.size w W := hbw.trans (hb.mono (by simp))
  rcases hrow.2 with ⟨rfl, hz0⟩ | ⟨gb, cap, cur, rfl, hbase, hgb, r1, r2, r3, r4⟩
  · obtain rfl : zs = [] := List.eq_nil_of_length_eq_zero hz0
    obtain rfl : ys = [] := List.eq_nil_of_length_eq_zero hlen
    have cN : CallsIn Fence.wide 7 Tryz.prog 166 #[.slice none 0 0] W fun e w' => e = .returned (.slice none 0 0) ∧ w' = W := callsIn_wide.2 (AnyG.slices_Compact_int_empty Tryz.compactA none 0 W)
    gi_wp2_with (gi_at_call 166; refine cN.mono ?_; rintro e w' ⟨rfl, rfl⟩)
    go_ret
    exact ⟨_, rfl, .inl ⟨rfl, by rfl⟩, hbW⟩
  · have hH : Holds (Value.int .i64) W gb 0 ys.toArray := by
      have := holds_of_block_i (ss := ys) hgb (by rw [← r4, hlen]; simp)
      simpa using this
    have hgl : gb < W.heap.size := (Array.getElem?_eq_some_iff.1 hgb).1
    have cC : CallsIn Fence.wide 7 Tryz.prog 166 #[.slice (some ⟨gb, 0, none⟩) zs.length cap] W fun e w' => e = .returned (.slice (some ⟨gb, 0, none⟩) (Lib.compact ys).length cap) ∧ ∃ q, w' = putRow (Value.int .i64) (Sort.ahead W q) gb 0 (Lib.compact ys ++ List.replicate (ys.length - (Lib.compact ys).length) 0).toArray := by
      rw [← hlen]
      exact callsIn_wide.2 (AnyG.slices_Compact_int Tryz.compactA gb 0 cap ys W hH (by omega) (by omega))
    gi_wp2_with (gi_at_call 166; refine cC.mono ?_; rintro e w' ⟨rfl, q, rfl⟩)
    go_ret
    have hle := Lib.compact_length_le ys
    have hH' : Holds (Value.int .i64) (Sort.ahead W q) gb 0 ys.toArray := hH
    have hP := holds_putRow (Value.int .i64) (Sort.ahead W q) gb 0 ys.toArray (Lib.compact ys ++ List.replicate (ys.length - (Lib.compact ys).length) 0).toArray hH' (by simp; omega)
    refine ⟨_, rfl, .inr ⟨gb, cap, rfl, by omega, by simp at hbase; omega, by simpa using hgl, fun j hj => ?_⟩, Lib.below_putRow hbW (by simp at hbase; omega)⟩
    have := (hP j (by simp; omega)).1
    rw [Nat.zero_add, hlen] at this
    rw [this]
    have e1 : ∀ n, (Lib.compact ys ++ List.replicate n 0).toArray[j]! = (Lib.compact ys)[j]?.getD 0 := by
      intro n
      rw [getElem!_pos _ _ (by simp; omega)]
      simp [List.getElem_append_left hj, hj]
    rw [e1]
end Go.Proofs
