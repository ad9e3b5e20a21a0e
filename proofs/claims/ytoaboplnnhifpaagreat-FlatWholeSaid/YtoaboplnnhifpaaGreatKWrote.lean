/- A part of the proof of a law of module cupola: KWrote. It has no conditions of its own. -/
import Derived.WalkKit
import Derived.OwnWalkIn
import Derived.TacticsInMore
import Derived.LoopNIn
import Derived.LoopIn
import Derived.Maps.OwnIn
import Derived.Maps.Keyed
import Derived.Maps.Own
import Derived.ProofKit
import Derived.Test.YtoaboplnnhifpaaGreatKVals
import Derived.Test.YtoaboplnnhifpaaGreatKMakes
set_option linter.all false
namespace Go.Proofs
open Go.RowKit Go.Maps Go.Sort Go.Shelf

theorem run_one {v : Value} (h : v.oneCell' = true) : ∀ (a : Addr) (m : Mode) (w : World), (store a v m).run Tryz.prog w = stored Tryz.prog w a v m := fun a m w => by
  rw [run_store _ _ _ _ _ h]; rfl

def EvsAt (w : World) (v : Value) (es : List (Int × Int)) : Prop :=
  (∃ A c, v = .slice A 0 c ∧ es = []) ∨ ∃ b off cap, ∃ d : Nat → Nat → Value, v = .slice (some ⟨b, off, none⟩) es.length cap ∧ b < w.heap.size ∧ ∀ j, j < es.length →
    (∀ m, m < 7 → w.cell? ⟨b, off + j * 7 + m, none⟩ = some (d j m) ∧ (d j m).oneCell' = true) ∧ d j 1 = .int .i64 (es[j]?.getD (0, 0)).1 ∧ d j 3 = .int .i64 (es[j]?.getD (0, 0)).2
def wrE (es : List (Int × Int)) : List Int := (es.filter fun e => decide (e.1 = 2)).map fun e => e.2
def TrsAt (w : World) (v : Value) (ls : List (List (Int × Int))) : Prop :=
  (∃ A c, v = .slice A 0 c ∧ ls = []) ∨ ∃ b off cap, ∃ c : Nat → Nat → Value, v = .slice (some ⟨b, off, none⟩) ls.length cap ∧ b < w.heap.size ∧ ∀ j, j < ls.length →
    (∀ m, m < 16 → w.cell? ⟨b, off + j * 16 + m, none⟩ = some (c j m) ∧ (c j m).oneCell' = true) ∧ EvsAt w (c j 0) (ls[j]?.getD [])

def keysD (l : List Int) : DataW Unit := setOf (.lit (.bool true)) (l.map (Lit.int .i64))
theorem keysD_snoc (l : List Int) (x : Int) : keysD (l ++ [x]) = (keysD l).put (.int .i64 x) (.lit (.bool true)) := by
  unfold keysD; rw [List.map_append]; exact setOf_snoc _ _ _
def SetAt (w wr : World) (l : List Int) : Prop := wr.ownsMap Tryz.prog 2 (plainElem (H := Unit) Tryz.prog 4) w.heap.size l.length (keysD l) ∧ Below w.heap.size w wr
theorem SetAt.alloc {w wr : World} {l : List Int} (h : SetAt w wr l) (o : Obj) : SetAt w (wr.alloc o) l := ⟨h.1.alloc o, h.2.alloc h.2.size o⟩
theorem SetAt.put {w wr w1 : World} {l : List Int} {x : Int} (h : SetAt w wr l) (h1 : w1.ownsMap Tryz.prog 2 (plainElem (H := Unit) Tryz.prog 4) w.heap.size (l.length + 1) ((keysD l).put (.int .i64 x) (.lit (.bool true)))) (hg : wr.grownBy w1 (some w.heap.size)) : SetAt w w1 (l ++ [x]) :=
  ⟨by rw [keysD_snoc, List.length_append]; exact h1, h.2.grown hg h.2.size (fun j hj => by cases hj; exact Nat.le_refl _)⟩
theorem wrE_step {es : List (Int × Int)} {j : Nat} (h : j < es.length) {kd vd : Int} (hk : (es[j]?.getD (0, 0)).1 = kd) (hv : (es[j]?.getD (0, 0)).2 = vd) : wrE (es.take (j + 1)) = wrE (es.take j) ++ if kd = 2 then [vd] else [] := by
  subst hk; subst hv
  unfold wrE
  rw [List.take_succ_eq_append_getElem h, List.filter_append, List.map_append]
  congr 1
  simp [h]
  by_cases h2 : es[j].1 = 2 <;> simp [h2]
theorem flat_next {ls : List (List (Int × Int))} {k : Nat} (h : k < ls.length) : (ls.take (k + 1)).flatMap wrE = (ls.take k).flatMap wrE ++ wrE (ls[k]?.getD []) := by
  rw [List.take_succ_eq_append_getElem h, List.flatMap_append]; simp [h]

theorem wrE_len {es : List (Int × Int)} (j : Nat) : (wrE (es.take j)).length ≤ (wrE es).length := by
  have : wrE es = wrE (es.take j) ++ wrE (es.drop j) := by
    conv => lhs; rw [← List.take_append_drop j es]
    unfold wrE; rw [List.filter_append, List.map_append]
  rw [this, List.length_append]; omega
theorem wrE_pre {ls : List (List (Int × Int))} {k : Nat} {es : List (Int × Int)} (he : ls[k]?.getD [] = es) (h : k < ls.length) (j : Nat) :
    (∀ x ∈ wrE (es.take j), x ∈ ls.flatMap wrE) ∧ ((ls.take k).flatMap wrE ++ wrE (es.take j)).length ≤ (ls.flatMap wrE).length := by
  have hsub : ∀ x ∈ wrE (es.take j), x ∈ wrE es := fun x hx => by
    unfold wrE at hx ⊢
    obtain ⟨p, hp, rfl⟩ := List.mem_map.1 hx
    obtain ⟨h1, h2⟩ := List.mem_filter.1 hp
    exact List.mem_map.2 ⟨p, List.mem_filter.2 ⟨List.mem_of_mem_take h1, h2⟩, rfl⟩
  have hm : es ∈ ls := by subst he; simp [h]
  refine ⟨fun x hx => List.mem_flatMap.2 ⟨es, hm, hsub x hx⟩, ?_⟩
  have e : ls.flatMap wrE = (ls.take (k + 1)).flatMap wrE ++ (ls.drop (k + 1)).flatMap wrE := by rw [← List.flatMap_append, List.take_append_drop]
  rw [e, flat_next h, he]
  have := wrE_len (es := es) j
  simp only [List.length_append]; omega

set_option maxRecDepth 100000 in
set_option maxHeartbeats 4000000 in
theorem Tryz.wrote_walk (n : Nat) (h1 : 1 ≤ n) (b off cap : Nat) (ls : List (List (Int × Int))) (c : Nat → Nat → Value) (w : World) (hb : b < w.heap.size) (hll : ls.length ≤ 1000000000) (hle : ∀ l ∈ ls, l.length ≤ 1000000000)
    (hc : ∀ j, j < ls.length → (∀ m, m < 16 → w.cell? ⟨b, off + j * 16 + m, none⟩ = some (c j m) ∧ (c j m).oneCell' = true) ∧ EvsAt w (c j 0) (ls[j]?.getD []))
    (hr : ∀ x ∈ ls.flatMap wrE, (Lit.int .i64 x).wf = true) (hz : (ls.flatMap wrE).length * 8 ≤ 140737488351232)
    (R : Ending → World → Prop)
    (hend : ∀ W, SetAt w W (ls.flatMap wrE) → CallsIn Fence.wide (n - 1) Tryz.prog 169 #[.map (some w.heap.size)] W fun e W1 => ∃ f, e = .returned f ∧ CallsIn Fence.wide (n - 1) Tryz.prog 167 #[f] W1 fun e W2 => ∃ v, e = .returned v ∧ R (.returned v) W2) :
    CallsIn Fence.wide n Tryz.prog 91 #[.slice (some ⟨b, off, none⟩) ls.length cap] w R := by
  have u : ∃ k e, Tryz.prog.underlying 216 = some (.map k e) := ⟨2, 4, by kernel_rfl⟩
  have u' : Tryz.prog.underlying 216 = some (.map 2 4) := by kernel_rfl
  have hmm := @run_makeMap Tryz.prog
  have K := int_keyed (P := Tryz.prog) Tryz.underlying2
  have h0 := World.ownsMap_made w Tryz.prog 2 (plainElem (H := Unit) Tryz.prog 4)
  have h169 : Fence.wide.fn 169 := trivial
  have h167 : Fence.wide.fn 167 := trivial
  refine callsIn_of_wp Tryz.func91 rfl trivial ?_ rfl
  simp only [Tryz.ntmps91, List.size_toArray, List.length_cons, List.length_nil, Nat.reduceAdd, Nat.reduceSub, Array.replicate_succ, Array.replicate_zero, List.push_toArray, List.append_toArray, List.nil_append, List.cons_append]
  gi_wp2
  gi_loopw [11] (fun i wr => ∃ k : Nat, k ≤ ls.length ∧ i = .int .i64 k ∧ SetAt w wr ((ls.take k).flatMap wrE))
    (fun i _ => ls.length - (Go.Proofs.intOf i).toNat)
  case atStart => exact ⟨0, Nat.zero_le _, rfl, h0, (Below.refl _ w).alloc (Nat.le_refl _) _⟩
  case round =>
    obtain ⟨k, hk, rfl, hS⟩ := hrel
    have hB := hS.2
    by_cases hlt : k < ls.length
    · obtain ⟨hck, hev⟩ := hc k hlt
      have hnx := flat_next hlt
      have hel : (ls[k]?.getD []).length ≤ 1000000000 := by simp [hlt]; exact hle _ (List.getElem_mem hlt)
      have f0 : wr.cell? ⟨b, off + k * 16, none⟩ = some (c k 0) := (hB.cell (p := ⟨b, off + k * 16 + 0, none⟩) hb).trans (hck 0 (by omega)).1
      have f1 : wr.cell? ⟨b, off + k * 16 + 1, none⟩ = some (c k 1) := (hB.cell (p := ⟨b, off + k * 16 + 1, none⟩) hb).trans (hck 1 (by omega)).1
      have f2 : wr.cell? ⟨b, off + k * 16 + 2, none⟩ = some (c k 2) := (hB.cell (p := ⟨b, off + k * 16 + 2, none⟩) hb).trans (hck 2 (by omega)).1
      have f3 : wr.cell? ⟨b, off + k * 16 + 3, none⟩ = some (c k 3) := (hB.cell (p := ⟨b, off + k * 16 + 3, none⟩) hb).trans (hck 3 (by omega)).1
      have f4 : wr.cell? ⟨b, off + k * 16 + 4, none⟩ = some (c k 4) := (hB.cell (p := ⟨b, off + k * 16 + 4, none⟩) hb).trans (hck 4 (by omega)).1
      have f5 : wr.cell? ⟨b, off + k * 16 + 5, none⟩ = some (c k 5) := (hB.cell (p := ⟨b, off + k * 16 + 5, none⟩) hb).trans (hck 5 (by omega)).1
      have f6 : wr.cell? ⟨b, off + k * 16 + 6, none⟩ = some (c k 6) := (hB.cell (p := ⟨b, off + k * 16 + 6, none⟩) hb).trans (hck 6 (by omega)).1
      have f7 : wr.cell? ⟨b, off + k * 16 + 7, none⟩ = some (c k 7) := (hB.cell (p := ⟨b, off + k * 16 + 7, none⟩) hb).trans (hck 7 (by omega)).1
      have f8 : wr.cell? ⟨b, off + k * 16 + 8, none⟩ = some (c k 8) := (hB.cell (p := ⟨b, off + k * 16 + 8, none⟩) hb).trans (hck 8 (by omega)).1
      have f9 : wr.cell? ⟨b, off + k * 16 + 9, none⟩ = some (c k 9) := (hB.cell (p := ⟨b, off + k * 16 + 9, none⟩) hb).trans (hck 9 (by omega)).1
      have f10 : wr.cell? ⟨b, off + k * 16 + 10, none⟩ = some (c k 10) := (hB.cell (p := ⟨b, off + k * 16 + 10, none⟩) hb).trans (hck 10 (by omega)).1
      have f11 : wr.cell? ⟨b, off + k * 16 + 11, none⟩ = some (c k 11) := (hB.cell (p := ⟨b, off + k * 16 + 11, none⟩) hb).trans (hck 11 (by omega)).1
      have f12 : wr.cell? ⟨b, off + k * 16 + 12, none⟩ = some (c k 12) := (hB.cell (p := ⟨b, off + k * 16 + 12, none⟩) hb).trans (hck 12 (by omega)).1
      have f13 : wr.cell? ⟨b, off + k * 16 + 13, none⟩ = some (c k 13) := (hB.cell (p := ⟨b, off + k * 16 + 13, none⟩) hb).trans (hck 13 (by omega)).1
      have f14 : wr.cell? ⟨b, off + k * 16 + 14, none⟩ = some (c k 14) := (hB.cell (p := ⟨b, off + k * 16 + 14, none⟩) hb).trans (hck 14 (by omega)).1
      have f15 : wr.cell? ⟨b, off + k * 16 + 15, none⟩ = some (c k 15) := (hB.cell (p := ⟨b, off + k * 16 + 15, none⟩) hb).trans (hck 15 (by omega)).1
      have s0 := run_one (hck 0 (by omega)).2
      have s1 := run_one (hck 1 (by omega)).2
      have s2 := run_one (hck 2 (by omega)).2
      have s3 := run_one (hck 3 (by omega)).2
      have s4 := run_one (hck 4 (by omega)).2
      have s5 := run_one (hck 5 (by omega)).2
      have s6 := run_one (hck 6 (by omega)).2
      have s7 := run_one (hck 7 (by omega)).2
      have s8 := run_one (hck 8 (by omega)).2
      have s9 := run_one (hck 9 (by omega)).2
      have s10 := run_one (hck 10 (by omega)).2
      have s11 := run_one (hck 11 (by omega)).2
      have s12 := run_one (hck 12 (by omega)).2
      have s13 := run_one (hck 13 (by omega)).2
      have s14 := run_one (hck 14 (by omega)).2
      have s15 := run_one (hck 15 (by omega)).2
      have hBs := hB.size
      rcases hev with ⟨A, cc, hv0, he0⟩ | ⟨b2, off2, cap2, d, hv0, hb2, hd⟩
      · rw [hv0] at f0 s0
        rw [he0] at hnx
        rw [show wrE [] = [] from rfl, List.append_nil] at hnx
        gi_wp2
        gi_loopw [18] (fun i wr => i = .int .i64 0 ∧ SetAt w wr ((ls.take k).flatMap wrE)) (fun _ _ => 0)
        case atStart => exact ⟨rfl, hS.alloc _⟩
        case round =>
          obtain ⟨rfl, hS2⟩ := hrel
          gi_wp2
          go_roundw
          case rel => exact ⟨k + 1, by omega, by simp, by rw [hnx]; exact hS2⟩
          case measure => simp [Go.Proofs.intOf]; omega
      · rw [hv0] at f0 s0
        generalize hes : ls[k]?.getD [] = es at hd hv0 f0 s0 hnx hel
        gi_wp2
        gi_loopw [18] (fun i wr => ∃ j : Nat, j ≤ es.length ∧ i = .int .i64 j ∧ SetAt w wr ((ls.take k).flatMap wrE ++ wrE (es.take j)))
          (fun i _ => es.length - (Go.Proofs.intOf i).toNat)
        case atStart => exact ⟨0, Nat.zero_le _, rfl, by rw [List.take_zero]; simpa [wrE] using hS.alloc _⟩
        case round =>
          obtain ⟨j, hj, rfl, hS2⟩ := hrel
          have hB2 := hS2.2
          by_cases hlt2 : j < es.length
          · obtain ⟨hdj, hd1, hd3⟩ := hd j hlt2
            have hst := wrE_step hlt2 rfl rfl
            have hpre := wrE_pre hes hlt
            have hmem : ∀ x ∈ wrE (es.take (j + 1)), (Lit.int .i64 x).wf = true := fun x hx => hr x ((hpre (j + 1)).1 x hx)
            have hln : ((ls.take k).flatMap wrE ++ wrE (es.take j)).length < maxLen := by have := (hpre j).2; simp only [maxLen]; omega
            have g0 : wr.cell? ⟨b2, off2 + j * 7, none⟩ = some (d j 0) := (hB2.cell (p := ⟨b2, off2 + j * 7 + 0, none⟩) hb2).trans (hdj 0 (by omega)).1
            have g1 : wr.cell? ⟨b2, off2 + j * 7 + 1, none⟩ = some (d j 1) := (hB2.cell (p := ⟨b2, off2 + j * 7 + 1, none⟩) hb2).trans (hdj 1 (by omega)).1
            have g2 : wr.cell? ⟨b2, off2 + j * 7 + 2, none⟩ = some (d j 2) := (hB2.cell (p := ⟨b2, off2 + j * 7 + 2, none⟩) hb2).trans (hdj 2 (by omega)).1
            have g3 : wr.cell? ⟨b2, off2 + j * 7 + 3, none⟩ = some (d j 3) := (hB2.cell (p := ⟨b2, off2 + j * 7 + 3, none⟩) hb2).trans (hdj 3 (by omega)).1
            have g4 : wr.cell? ⟨b2, off2 + j * 7 + 4, none⟩ = some (d j 4) := (hB2.cell (p := ⟨b2, off2 + j * 7 + 4, none⟩) hb2).trans (hdj 4 (by omega)).1
            have g5 : wr.cell? ⟨b2, off2 + j * 7 + 5, none⟩ = some (d j 5) := (hB2.cell (p := ⟨b2, off2 + j * 7 + 5, none⟩) hb2).trans (hdj 5 (by omega)).1
            have g6 : wr.cell? ⟨b2, off2 + j * 7 + 6, none⟩ = some (d j 6) := (hB2.cell (p := ⟨b2, off2 + j * 7 + 6, none⟩) hb2).trans (hdj 6 (by omega)).1
            have t0 := run_one (hdj 0 (by omega)).2
            have t1 := run_one (hdj 1 (by omega)).2
            have t2 := run_one (hdj 2 (by omega)).2
            have t3 := run_one (hdj 3 (by omega)).2
            have t4 := run_one (hdj 4 (by omega)).2
            have t5 := run_one (hdj 5 (by omega)).2
            have t6 := run_one (hdj 6 (by omega)).2
            generalize (es[j]?.getD (0, 0)).1 = kd at hd1 hst
            generalize (es[j]?.getD (0, 0)).2 = vd at hd3 hst
            rw [hd1] at g1 t1
            rw [hd3] at g3 t3
            have hBs2 := hB2.size
            by_cases hk2 : kd = 2
            · subst hk2
              rw [if_pos rfl] at hst
              have hwf : (Lit.int .i64 vd).wf = true := hmem vd (by rw [hst]; simp)
              gi_wp2_with (first | (gi_at_mapUpdate; refine wpListIn_mapUpdate_own _ rfl _ _ _ 216 rfl 2 4 K u' _ w.heap.size _ _ rfl (hS2.1.alloc _) hln _ _ (.int .i64 vd) rfl rfl (keyOf_int_mk Tryz.underlying2 hwf) (.lit (.bool true)) [] (plainElem_bool Tryz.underlying4 true) ?_; intro w1 hown1 hgrow1))
              go_roundw
              case rel => exact ⟨j + 1, by omega, by simp, by rw [hst, ← List.append_assoc]; exact (hS2.alloc _).put hown1 hgrow1⟩
              case measure => simp [Go.Proofs.intOf]; omega
            · rw [if_neg hk2, List.append_nil] at hst
              gi_wp2
              go_roundw
              case rel => exact ⟨j + 1, by omega, by simp, by rw [hst]; exact hS2.alloc _⟩
              case measure => simp [Go.Proofs.intOf]; omega
          · obtain rfl : j = es.length := by omega
            rw [List.take_length, ← hnx] at hS2
            gi_wp2
            go_roundw
            case rel => exact ⟨k + 1, by omega, by simp, hS2⟩
            case measure => simp [Go.Proofs.intOf]; omega
    · obtain rfl : k = ls.length := by omega
      rw [List.take_length] at hS
      have c1 := hend _ hS
      gi_wp2_with (gi_at_call 169; refine c1.mono ?_; rintro e W1 ⟨f, rfl, hnext⟩)
      gi_wp2_with (gi_at_call 167; refine hnext.mono ?_; rintro e W2 ⟨v, rfl, hR⟩)
      exact hR

set_option maxRecDepth 100000 in
set_option maxHeartbeats 4000000 in
theorem Tryz.wrote_walk0 (n : Nat) (h1 : 1 ≤ n) (A : Option Addr) (c : Nat) (w : World) (R : Ending → World → Prop)
    (hend : ∀ W, SetAt w W [] → CallsIn Fence.wide (n - 1) Tryz.prog 169 #[.map (some w.heap.size)] W fun e W1 => ∃ f, e = .returned f ∧ CallsIn Fence.wide (n - 1) Tryz.prog 167 #[f] W1 fun e W2 => ∃ v, e = .returned v ∧ R (.returned v) W2) :
    CallsIn Fence.wide n Tryz.prog 91 #[.slice A 0 c] w R := by
  have u : ∃ k e, Tryz.prog.underlying 216 = some (.map k e) := ⟨2, 4, by kernel_rfl⟩
  have hmm := @run_makeMap Tryz.prog
  have h0 := World.ownsMap_made w Tryz.prog 2 (plainElem (H := Unit) Tryz.prog 4)
  have h169 : Fence.wide.fn 169 := trivial
  have h167 : Fence.wide.fn 167 := trivial
  refine callsIn_of_wp Tryz.func91 rfl trivial ?_ rfl
  simp only [Tryz.ntmps91, List.size_toArray, List.length_cons, List.length_nil, Nat.reduceAdd, Nat.reduceSub, Array.replicate_succ, Array.replicate_zero, List.push_toArray, List.append_toArray, List.nil_append, List.cons_append]
  gi_wp2
  gi_loopw [11] (fun i wr => i = .int .i64 0 ∧ SetAt w wr []) (fun _ _ => 0)
  case atStart => exact ⟨rfl, h0, (Below.refl _ w).alloc (Nat.le_refl _) _⟩
  case round =>
    obtain ⟨rfl, hS⟩ := hrel
    gi_wp2
    have c1 := hend _ hS
    gi_wp2_with (gi_at_call 169; refine c1.mono ?_; rintro e W1 ⟨f, rfl, hnext⟩)
    gi_wp2_with (gi_at_call 167; refine hnext.mono ?_; rintro e W2 ⟨v, rfl, hR⟩)
    exact hR
theorem isKey (x : Int) : WideAt.IsKeyLit (Lit.int .i64 x) := trivial
theorem keysD_key (l : List Int) : ∀ y ∈ l.map (Lit.int .i64), WideAt.IsKeyLit y := fun y hy => by obtain ⟨z, hz, rfl⟩ := List.mem_map.1 hy; exact isKey z
theorem keysD_has (l : List Int) (x : Int) : has (keysD l) (.int .i64 x) = true ↔ x ∈ l := by
  unfold keysD
  rw [has_setOf _ _ _ (keysD_key l), List.any_eq_true]
  constructor
  · rintro ⟨y, hy, hs⟩
    obtain ⟨z, hz, rfl⟩ := List.mem_map.1 hy
    simp [Lit.sameKey] at hs
    subst hs; exact hz
  · intro h
    exact ⟨_, List.mem_map.2 ⟨x, h, rfl⟩, by simp [Lit.sameKey]⟩
theorem keysD_tidy (l : List Int) : Tidy (keysD l) := tidy_setOf _ _ (keysD_key l)
theorem keysD_size (l : List Int) : Maps.size (keysD l) ≤ l.length := by
  have key : ∀ n, Maps.size (keysD (l.take n)) ≤ n := by
    intro n
    induction n with
    | zero => simp [keysD, setOf, Maps.size]
    | succ n ih =>
      by_cases h : n < l.length
      · rw [List.take_succ_eq_append_getElem h, keysD_snoc, size_put (keysD_tidy _)]
        split <;> omega
      · rw [List.take_of_length_le (by omega)] at ih ⊢; omega
  have := key l.length
  rwa [List.take_length] at this
theorem keysD_perm {w : World} {b n : Nat} {l ss : List Int} (hown : w.ownsMap Tryz.prog 2 (plainElem (H := Unit) Tryz.prog 4) b n (keysD l)) (hp : ss.Perm (intKeys (keysD l))) : ss.mergeSort leI = cpt (l.mergeSort leI) := by
  have hnd : (cpt (l.mergeSort leI)).Nodup := by
    have tr : ∀ a b c : Int, leI a b = true → leI b c = true → leI a c = true := fun a b c h1 h2 => by simp only [leI, decide_eq_true_eq] at *; exact Int.le_trans h1 h2
    have to : ∀ a b : Int, (leI a b || leI b a) = true := fun a b => by simp only [leI, Bool.or_eq_true, decide_eq_true_eq]; exact Int.le_total a b
    exact (cpt_lt ((List.pairwise_mergeSort tr to l).imp fun h => by simpa using h)).imp fun h => by omega
  have hm : ∀ x, x ∈ cpt (l.mergeSort leI) ↔ x ∈ l := fun x => by rw [cpt_mem]; exact (List.mergeSort_perm l leI).mem_iff
  have hq : (cpt (l.mergeSort leI)).Perm (intKeys (keysD l)) := by
    obtain ⟨es, hD, hpw⟩ := keysD_tidy l
    obtain ⟨es', hD', hko⟩ := hown.keysOf
    obtain rfl : es = es' := by rw [hD] at hD'; simpa using hD'
    rw [hD]
    refine perm_intKeys hpw (fun p hp => by obtain ⟨v, hv⟩ := hko p hp; obtain ⟨x, _, hx, _⟩ := Maps.keyOf_i64 Tryz.underlying2 hv; exact ⟨x, hx⟩) hnd fun x => ?_
    rw [hm, ← hD, keysD_has]
  have h2 := hp.trans hq.symm
  exact sorted_once (h2.nodup_iff.2 hnd) fun x => by rw [h2.mem_iff, hm]

set_option maxRecDepth 100000 in
set_option maxHeartbeats 1000000 in
theorem Tryz.wrote_end (w W : World) (l : List Int) (hS : SetAt w W l) (hz : l.length * 8 ≤ 140737488351232) (hw : ∀ y ∈ l, (Lit.int .i64 y).wf = true) :
    CallsIn Fence.wide (8 - 1) Tryz.prog 169 #[.map (some w.heap.size)] W fun e W1 => ∃ f, e = .returned f ∧ CallsIn Fence.wide (8 - 1) Tryz.prog 167 #[f] W1 fun e W2 => ∃ v, e = .returned v ∧ ∃ v', Ending.returned v = .returned v' ∧ NewInts w.heap.size W2 v' (cpt (l.mergeSort (fun x y => decide (x ≤ y)))) ∧ Below w.heap.size w W2 := by
  obtain ⟨hown, hB⟩ := hS
  have hbl := hown.lt
  have K := int_keyed (P := Tryz.prog) Tryz.underlying2
  have cK : CallsIn Fence.wide 7 Tryz.prog 169 #[.map (some w.heap.size)] W fun e w' => e = .returned (.func (.func 233) #[] #[.pointer (some ⟨W.heap.size, 0, none⟩)]) ∧ w' = W.alloc (.cells #[.map (some w.heap.size)] 216) := AnyZI.keys_in Tryz.keysA Fence.wide 7 trivial rfl (some w.heap.size) W
  have hseq : SeqGives Fence.wide 4 Tryz.prog 233 #[.pointer (some ⟨W.heap.size, 0, none⟩)] encZ (fun ss => ss.Perm (intKeys (keysD l))) (Maps.size (keysD l)) (W.alloc (.cells #[.map (some w.heap.size)] 216)) :=
    AnyZI.keys_gives (ρ := Tryz.keysA_ren) { Tryz.keysA with } Fence.wide _ trivial rfl (by omega) W.heap.size w.heap.size l.length (keysD l) _ (by simp) (by simp) (hown.alloc _)
  have hsz := keysD_size l
  have cS := AnyZI.sorted_in Tryz.sortedA Fence.wide 7 trivial trivial trivial trivial rfl (by omega) (Tryz.sortsA _) (enters_of Tryz.func231 (by kernel_rfl) rfl) 233 #[.pointer (some ⟨W.heap.size, 0, none⟩)] trivial (enters_of Tryz.func233 (by kernel_rfl) rfl) _ _ (by simp only [maxLen]; omega) (by omega) _ hseq
  change CallsIn _ _ Tryz.prog 167 _ _ _ at cS
  refine cK.mono ?_
  rintro e W1 ⟨rfl, rfl⟩
  refine ⟨_, rfl, cS.mono ?_⟩
  rintro e W2 ⟨v, ss, rfl, hp, hrow, hnil, hb⟩
  have hb' : Below w.heap.size w W2 := (hB.alloc hB.size _).trans (hb.mono (by simp; exact Nat.le_succ_of_le (Nat.le_of_lt hbl)))
  have hks := keysD_perm hown hp
  refine ⟨v, rfl, v, rfl, ?_, hb'⟩
  have hlen : (ss.mergeSort leI).length = ss.length := List.length_mergeSort _
  rw [← hks]
  rcases hrow.2 with ⟨rfl, hz0⟩ | ⟨gb, cap, cur, rfl, hbase, hgb, r1, r2, r3, r4⟩
  · exact .inl ⟨rfl, List.eq_nil_of_length_eq_zero (by rw [hlen]; exact hz0)⟩
  · have hH : Holds encZ W2 gb 0 (ss.mergeSort leI).toArray := holds_of_block_i (ss := ss.mergeSort leI) hgb (by rw [hlen]; simpa using r4)
    have hgl : gb < W2.heap.size := (Array.getElem?_eq_some_iff.1 hgb).1
    refine .inr ⟨gb, cap, by rw [hlen], by rw [hlen]; exact r1, by simp at hbase; omega, hgl, fun j hj => ?_⟩
    have := (hH j (by simpa using hj)).1
    rw [Nat.zero_add] at this
    rw [this, getElem!_pos _ _ (by simpa using hj), List.getElem?_eq_getElem hj]
    rfl

theorem Tryz.wrote_in (sv : Value) (ls : List (List (Int × Int))) (w : World) (h : TrsAt w sv ls) (hll : ls.length ≤ 1000000000) (hle : ∀ l ∈ ls, l.length ≤ 1000000000)
    (hr : ∀ x ∈ ls.flatMap wrE, (Lit.int .i64 x).wf = true) (hz : (ls.flatMap wrE).length * 8 ≤ 140737488351232) :
    Calls Tryz.prog 91 #[sv] w fun e w' => ∃ v, e = .returned v ∧ NewInts w.heap.size w' v (cpt ((ls.flatMap wrE).mergeSort (fun x y => decide (x ≤ y)))) ∧ Below w.heap.size w w' := by
  refine (callsIn_wide (n := 8)).1 ?_
  rcases h with ⟨A, c, rfl, rfl⟩ | ⟨b, off, cap, c, rfl, hb, hc⟩
  · exact Tryz.wrote_walk0 8 (by omega) A c w _ fun W hS => Tryz.wrote_end w W [] hS (by simp) (by simp)
  · exact Tryz.wrote_walk 8 (by omega) b off cap ls c w hb hll hle hc hr hz _ fun W hS => Tryz.wrote_end w W _ hS hz hr
end Go.Proofs
