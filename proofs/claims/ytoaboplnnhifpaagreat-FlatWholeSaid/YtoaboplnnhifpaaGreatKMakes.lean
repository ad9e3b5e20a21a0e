/- A part of the proof of a law of module cupola: Makes, Clone, Cpt. It has no conditions of its own. -/
import Derived.WalkKit
import Derived.ProofKit
import Derived.Maps.Own
import Derived.Maps.Keyed
import Derived.Test.YtoaboplnnhifpaaGreatProg
import Derived.Deep.LoopGhost
import Derived.Lib.Walk
import Derived.Lib.SliceRun
import Derived.Shelf.Abstract
import Derived.Lib.SlKeysI
import Derived.Lib.SlicesCompact
set_option linter.all false
namespace Go.Proofs
open Go.RowKit Go.Maps

def funR (v : Value) : Option (DataW Unit × List MemPlace) :=
  match v with
  | .func (.func f) a b => if a = #[] ∧ b = #[] then some (.lit (.int .i64 f), []) else none
  | .nilFunc => some (.nil, [])
  | _ => none
theorem funR_mk (f : Nat) : funR (.func (.func f) #[] #[]) = some (.lit (.int .i64 f), []) := by simp [funR]
theorem funR_nil : funR .nilFunc = some (.nil, []) := rfl
theorem funR_lit {v : Value} {f : Nat} {ps : List MemPlace} (h : funR v = some (.lit (.int .i64 f), ps)) : v = .func (.func f) #[] #[] := by
  unfold funR at h
  split at h
  · rename_i g a b
    split at h
    · rename_i e
      obtain ⟨rfl, rfl⟩ := e
      have h1 := (Prod.mk.inj (Option.some.inj h)).1
      injection h1 with h1
      injection h1 with _ h1
      have : g = f := by exact Int.ofNat.inj h1
      rw [this]
    · cases h
  · simp at h
  · cases h
theorem funR_nilv {v : Value} {ps : List MemPlace} (h : funR v = some (.nil, ps)) : v = .nilFunc := by
  unfold funR at h
  split at h
  · split at h
    · simp at h
    · cases h
  · rfl
  · cases h
def makesV (op : Int) : Value := if op = 2 then .func (.func 346) #[] #[] else if op = 3 then .func (.func 347) #[] #[] else if op = 4 then .func (.func 348) #[] #[] else .nilFunc

theorem tryz223 : ∃ k e, Tryz.prog.underlying 341 = some (.map k e) ∧ Tryz.prog.underlying k = some (.int .i64) := ⟨3, 334, by kernel_rfl, Tryz.underlying3⟩

set_option maxRecDepth 100000 in
set_option maxHeartbeats 1000000 in
theorem Tryz.makes_in (op : Int) (hop : (Lit.int .i64 op).wf = true) (w : World) : Calls Tryz.prog 339 #[.int .i64 op] w fun e w' => e = .returned (makesV op) ∧ Below w.heap.size w w' := by
  have u : Tryz.prog.underlying 341 = some (.map 3 334) := by kernel_rfl
  have hmm := @run_makeMap Tryz.prog
  have K := int_keyed (P := Tryz.prog) Tryz.underlying3
  have h0 := World.ownsMap_made w Tryz.prog 3 funR
  obtain ⟨w1, r1, o1, g1⟩ := h0.update (key := .int .i64 2) (val := .func (.func 346) #[] #[]) K u (by unfold maxLen; omega) (keyOf_int_mk Tryz.underlying3 (by decide)) (funR_mk 346)
  obtain ⟨w2, r2, o2, g2⟩ := o1.update (key := .int .i64 3) (val := .func (.func 347) #[] #[]) K u (by unfold maxLen; omega) (keyOf_int_mk Tryz.underlying3 (by decide)) (funR_mk 347)
  obtain ⟨w3, r3, o3, g3⟩ := o2.update (key := .int .i64 4) (val := .func (.func 348) #[] #[]) K u (by unfold maxLen; omega) (keyOf_int_mk Tryz.underlying3 (by decide)) (funR_mk 348)
  obtain ⟨v, ps, r4, hv⟩ := o3.lookup (key := .int .i64 op) K u (z := .nilFunc) (by kernel_rfl) funR_nil (keyOf_int_mk Tryz.underlying3 hop)
  have hb : Below w.heap.size w w3 := by
    have a0 : Below w.heap.size w (w.alloc (.map #[] 0)) := (Below.refl _ w).alloc (Nat.le_refl _) _
    have a1 := a0.grown g1 a0.size (fun j hj => by cases hj; exact Nat.le_refl _)
    have a2 := a1.grown g2 a1.size (fun j hj => by cases hj; exact Nat.le_refl _)
    exact a2.grown g3 a2.size (fun j hj => by cases hj; exact Nat.le_refl _)
  have e : v = makesV op := by
    unfold makesV
    by_cases h2 : op = 2
    · subst h2; exact funR_lit (f := 346) hv
    by_cases h3 : op = 3
    · subst h3; exact funR_lit (f := 347) hv
    by_cases h4 : op = 4
    · subst h4; exact funR_lit (f := 348) hv
    rw [if_neg h2, if_neg h3, if_neg h4]
    refine funR_nilv (ps := ps) ?_
    rw [hv]
    have e2 : ((2 : Int) == op) = false := by simp; omega
    have e3 : ((3 : Int) == op) = false := by simp; omega
    have e4 : ((4 : Int) == op) = false := by simp; omega
    have hD : ((((DataW.map (H := Unit) []).put (.int .i64 2) (.lit (.int .i64 (346 : Nat)))).put (.int .i64 3) (.lit (.int .i64 (347 : Nat)))).put (.int .i64 4) (.lit (.int .i64 (348 : Nat)))) = .map [(.int .i64 2, .lit (.int .i64 346)), (.int .i64 3, .lit (.int .i64 347)), (.int .i64 4, .lit (.int .i64 348))] := by rfl
    rw [hD]
    have f2 : (2 : Int) ≠ op := fun h => h2 h.symm
    have f3 : (3 : Int) ≠ op := fun h => h3 h.symm
    have f4 : (4 : Int) ≠ op := fun h => h4 h.symm
    simp [DataW.atKey, List.find?, Lit.sameKey, f2, f3, f4]
  subst e
  clear hv o3 o2 o1 g1 g2 g3 h0
  go_enter Tryz.func339, Tryz.ntmps339
  go_wp2
  go_ret
  exact ⟨rfl, hb⟩
end Go.Proofs

namespace Go.Proofs
open Go.Shelf Go.RowKit Go.Lib
theorem info_of {P : Program} {e : TypeId} {z : Value} {s b : Nat} (h : ((P.info? e).bind fun i => i.zero.map fun z => (z, i.size, i.bytes)) = some (z, s, b)) : ∃ i, P.info? e = some i ∧ i.zero = some z ∧ i.size = s ∧ i.bytes = b := by
  cases hi : P.info? e with
  | none => simp [hi] at h
  | some i =>
    cases hz : i.zero with
    | none => simp [hi, hz] at h
    | some z' =>
      simp [hi, hz] at h
      exact ⟨i, rfl, by rw [hz, h.1], h.2.1, h.2.2⟩

set_option maxHeartbeats 2000000 in
set_option maxRecDepth 100000 in
theorem Tryz.clone134 (ad : Addr) (n c : Nat) (zs : List Value) (w : World) (hz : zs.length = n) (hone : ∀ u ∈ zs, u.oneCell' = true) (hbig : n * 24 ≤ 140737488355328) (hc : ∀ j u, zs[j]? = some u → w.cell? (ad.add j) = some u) :
    Calls Tryz.prog 90 #[.slice (some ad) n c] w fun e w' => ∃ v', e = .returned v' ∧ w'.ownsRow w.heap.size 2 1 v' n zs ∧ Below w.heap.size w w' := by
  have t22 : Tryz.prog.underlying 22 = some (.slice 2) := Tryz.underlying22
  obtain ⟨i0, hi, hz0, hz1, hz2⟩ : ∃ i, Tryz.prog.info? 2 = some i ∧ i.zero = some (.int .i64 0) ∧ i.size = 1 ∧ i.bytes = 8 := info_of (by kernel_rfl)
  have q22 : ∀ (w : World) (a : Option Addr) (n c n' c' : Nat), (binOp .eql 22 (.slice a n c) (.slice none n' c')).run Tryz.prog w = .ok (.bool a.isNone) w := fun w a n c n' c' => Lib.run_eql_slice_nil w _ _ a n c n' c' t22
  have A : Aside (∀ j u, zs[j]? = some u → w.cell? (ad.add j) = some u) := hc
  clear hc
  go_enter Tryz.func90, Tryz.ntmps90
  go_wp2_with (at_builtin; refine wpList_append_own _ rfl _ _ 22 rfl w.heap.size 2 i0 (.int .i64 0) 1 8 t22 hi hz0 hz1 hz2 rfl (by decide) _ _ _ rfl (World.ownsRow_made w #[] 0 (Nat.le_refl _) (Nat.zero_le _) rfl) ad n c zs rfl ?qc1 ?qc2 ?qc3 ?qc4 ?qc5 ?qc6 ?_)
  case qc1 => omega
  case qc2 =>
    intro j u hj
    refine Lib.cell?_alloc_some _ ?_
    exact A.out j u hj
  case qc3 => exact hone
  case qc4 => unfold maxLen; omega
  case qc5 => omega
  case qc6 => simp
  intro v' w1 hown hgrow hnil
  go_wp2
  go_ret
  refine ⟨v', rfl, by simpa using hown, ?_⟩
  exact ((Below.refl _ w).alloc (Nat.le_refl _) _).grown hgrow (by simp) (by intro k hk; simp [Value.ownBlock] at hk; omega)

set_option maxHeartbeats 2000000 in
set_option maxRecDepth 100000 in
theorem Tryz.clone_e134 (ad : Addr) (c : Nat) (w : World) :
    Calls Tryz.prog 90 #[.slice (some ad) 0 c] w fun e w' => e = .returned (.slice (some ⟨w.heap.size, 0, none⟩) 0 0) ∧ w' = w.alloc (.cells #[] 2) := by
  have t22 : Tryz.prog.underlying 22 = some (.slice 2) := Tryz.underlying22
  obtain ⟨i0, hi, hz0, hz1, hz2⟩ : ∃ i, Tryz.prog.info? 2 = some i ∧ i.zero = some (.int .i64 0) ∧ i.size = 1 ∧ i.bytes = 8 := info_of (by kernel_rfl)
  have q22 : ∀ (w : World) (a : Option Addr) (n c n' c' : Nat), (binOp .eql 22 (.slice a n c) (.slice none n' c')).run Tryz.prog w = .ok (.bool a.isNone) w := fun w a n c n' c' => Lib.run_eql_slice_nil w _ _ a n c n' c' t22
  go_enter Tryz.func90, Tryz.ntmps90
  go_wp2
  go_ret
  exact ⟨rfl, rfl⟩

set_option maxHeartbeats 1000000 in
theorem Tryz.clone_nil134 (n c : Nat) (w : World) : Calls Tryz.prog 90 #[.slice none n c] w fun e w' => e = .returned (.slice none 0 0) ∧ w' = w := by
  have t22 : Tryz.prog.underlying 22 = some (.slice 2) := Tryz.underlying22
  have q22 : ∀ (w : World) (a : Option Addr) (n c n' c' : Nat), (binOp .eql 22 (.slice a n c) (.slice none n' c')).run Tryz.prog w = .ok (.bool a.isNone) w := fun w a n c n' c' => Lib.run_eql_slice_nil w _ _ a n c n' c' t22
  go_enter Tryz.func90, Tryz.ntmps90
  go_wp2
  go_ret
  exact ⟨rfl, rfl⟩

set_option maxHeartbeats 2000000 in
set_option maxRecDepth 100000 in
theorem Tryz.clone139 (ad : Addr) (n c : Nat) (zs : List Value) (w : World) (hz : zs.length = n) (hone : ∀ u ∈ zs, u.oneCell' = true) (hbig : n * 24 ≤ 140737488355328) (hc : ∀ j u, zs[j]? = some u → w.cell? (ad.add j) = some u) :
    Calls Tryz.prog 173 #[.slice (some ad) n c] w fun e w' => ∃ v', e = .returned v' ∧ w'.ownsRow w.heap.size 4 1 v' n zs ∧ Below w.heap.size w w' := by
  have t22 : Tryz.prog.underlying 112 = some (.slice 4) := Tryz.underlying112
  obtain ⟨i0, hi, hz0, hz1, hz2⟩ : ∃ i, Tryz.prog.info? 4 = some i ∧ i.zero = some (.bool false) ∧ i.size = 1 ∧ i.bytes = 1 := info_of (by kernel_rfl)
  have q22 : ∀ (w : World) (a : Option Addr) (n c n' c' : Nat), (binOp .eql 112 (.slice a n c) (.slice none n' c')).run Tryz.prog w = .ok (.bool a.isNone) w := fun w a n c n' c' => Lib.run_eql_slice_nil w _ _ a n c n' c' t22
  have A : Aside (∀ j u, zs[j]? = some u → w.cell? (ad.add j) = some u) := hc
  clear hc
  go_enter Tryz.func173, Tryz.ntmps173
  go_wp2_with (at_builtin; refine wpList_append_own _ rfl _ _ 112 rfl w.heap.size 4 i0 (.bool false) 1 1 t22 hi hz0 hz1 hz2 rfl (by decide) _ _ _ rfl (World.ownsRow_made w #[] 0 (Nat.le_refl _) (Nat.zero_le _) rfl) ad n c zs rfl ?qc1 ?qc2 ?qc3 ?qc4 ?qc5 ?qc6 ?_)
  case qc1 => omega
  case qc2 =>
    intro j u hj
    refine Lib.cell?_alloc_some _ ?_
    exact A.out j u hj
  case qc3 => exact hone
  case qc4 => unfold maxLen; omega
  case qc5 => omega
  case qc6 => simp
  intro v' w1 hown hgrow hnil
  go_wp2
  go_ret
  refine ⟨v', rfl, by simpa using hown, ?_⟩
  exact ((Below.refl _ w).alloc (Nat.le_refl _) _).grown hgrow (by simp) (by intro k hk; simp [Value.ownBlock] at hk; omega)

set_option maxHeartbeats 2000000 in
set_option maxRecDepth 100000 in
theorem Tryz.clone_e139 (ad : Addr) (c : Nat) (w : World) :
    Calls Tryz.prog 173 #[.slice (some ad) 0 c] w fun e w' => e = .returned (.slice (some ⟨w.heap.size, 0, none⟩) 0 0) ∧ w' = w.alloc (.cells #[] 4) := by
  have t22 : Tryz.prog.underlying 112 = some (.slice 4) := Tryz.underlying112
  obtain ⟨i0, hi, hz0, hz1, hz2⟩ : ∃ i, Tryz.prog.info? 4 = some i ∧ i.zero = some (.bool false) ∧ i.size = 1 ∧ i.bytes = 1 := info_of (by kernel_rfl)
  have q22 : ∀ (w : World) (a : Option Addr) (n c n' c' : Nat), (binOp .eql 112 (.slice a n c) (.slice none n' c')).run Tryz.prog w = .ok (.bool a.isNone) w := fun w a n c n' c' => Lib.run_eql_slice_nil w _ _ a n c n' c' t22
  go_enter Tryz.func173, Tryz.ntmps173
  go_wp2
  go_ret
  exact ⟨rfl, rfl⟩

set_option maxHeartbeats 1000000 in
theorem Tryz.clone_nil139 (n c : Nat) (w : World) : Calls Tryz.prog 173 #[.slice none n c] w fun e w' => e = .returned (.slice none 0 0) ∧ w' = w := by
  have t22 : Tryz.prog.underlying 112 = some (.slice 4) := Tryz.underlying112
  have q22 : ∀ (w : World) (a : Option Addr) (n c n' c' : Nat), (binOp .eql 112 (.slice a n c) (.slice none n' c')).run Tryz.prog w = .ok (.bool a.isNone) w := fun w a n c n' c' => Lib.run_eql_slice_nil w _ _ a n c n' c' t22
  go_enter Tryz.func173, Tryz.ntmps173
  go_wp2
  go_ret
  exact ⟨rfl, rfl⟩

set_option maxHeartbeats 2000000 in
set_option maxRecDepth 100000 in
theorem Tryz.clone157 (ad : Addr) (n c : Nat) (zs : List Value) (w : World) (hz : zs.length = n) (hone : ∀ u ∈ zs, u.oneCell' = true) (hbig : n * 24 ≤ 140737488355328) (hc : ∀ j u, zs[j]? = some u → w.cell? (ad.add j) = some u) :
    Calls Tryz.prog 128 #[.slice (some ad) n c] w fun e w' => ∃ v', e = .returned v' ∧ w'.ownsRow w.heap.size 3 1 v' n zs ∧ Below w.heap.size w w' := by
  have t22 : Tryz.prog.underlying 39 = some (.slice 3) := Tryz.underlying39
  obtain ⟨i0, hi, hz0, hz1, hz2⟩ : ∃ i, Tryz.prog.info? 3 = some i ∧ i.zero = some (.int .i64 0) ∧ i.size = 1 ∧ i.bytes = 8 := info_of (by kernel_rfl)
  have q22 : ∀ (w : World) (a : Option Addr) (n c n' c' : Nat), (binOp .eql 39 (.slice a n c) (.slice none n' c')).run Tryz.prog w = .ok (.bool a.isNone) w := fun w a n c n' c' => Lib.run_eql_slice_nil w _ _ a n c n' c' t22
  have A : Aside (∀ j u, zs[j]? = some u → w.cell? (ad.add j) = some u) := hc
  clear hc
  go_enter Tryz.func128, Tryz.ntmps128
  go_wp2_with (at_builtin; refine wpList_append_own _ rfl _ _ 39 rfl w.heap.size 3 i0 (.int .i64 0) 1 8 t22 hi hz0 hz1 hz2 rfl (by decide) _ _ _ rfl (World.ownsRow_made w #[] 0 (Nat.le_refl _) (Nat.zero_le _) rfl) ad n c zs rfl ?qc1 ?qc2 ?qc3 ?qc4 ?qc5 ?qc6 ?_)
  case qc1 => omega
  case qc2 =>
    intro j u hj
    refine Lib.cell?_alloc_some _ ?_
    exact A.out j u hj
  case qc3 => exact hone
  case qc4 => unfold maxLen; omega
  case qc5 => omega
  case qc6 => simp
  intro v' w1 hown hgrow hnil
  go_wp2
  go_ret
  refine ⟨v', rfl, by simpa using hown, ?_⟩
  exact ((Below.refl _ w).alloc (Nat.le_refl _) _).grown hgrow (by simp) (by intro k hk; simp [Value.ownBlock] at hk; omega)

set_option maxHeartbeats 2000000 in
set_option maxRecDepth 100000 in
theorem Tryz.clone_e157 (ad : Addr) (c : Nat) (w : World) :
    Calls Tryz.prog 128 #[.slice (some ad) 0 c] w fun e w' => e = .returned (.slice (some ⟨w.heap.size, 0, none⟩) 0 0) ∧ w' = w.alloc (.cells #[] 3) := by
  have t22 : Tryz.prog.underlying 39 = some (.slice 3) := Tryz.underlying39
  obtain ⟨i0, hi, hz0, hz1, hz2⟩ : ∃ i, Tryz.prog.info? 3 = some i ∧ i.zero = some (.int .i64 0) ∧ i.size = 1 ∧ i.bytes = 8 := info_of (by kernel_rfl)
  have q22 : ∀ (w : World) (a : Option Addr) (n c n' c' : Nat), (binOp .eql 39 (.slice a n c) (.slice none n' c')).run Tryz.prog w = .ok (.bool a.isNone) w := fun w a n c n' c' => Lib.run_eql_slice_nil w _ _ a n c n' c' t22
  go_enter Tryz.func128, Tryz.ntmps128
  go_wp2
  go_ret
  exact ⟨rfl, rfl⟩

set_option maxHeartbeats 1000000 in
theorem Tryz.clone_nil157 (n c : Nat) (w : World) : Calls Tryz.prog 128 #[.slice none n c] w fun e w' => e = .returned (.slice none 0 0) ∧ w' = w := by
  have t22 : Tryz.prog.underlying 39 = some (.slice 3) := Tryz.underlying39
  have q22 : ∀ (w : World) (a : Option Addr) (n c n' c' : Nat), (binOp .eql 39 (.slice a n c) (.slice none n' c')).run Tryz.prog w = .ok (.bool a.isNone) w := fun w a n c n' c' => Lib.run_eql_slice_nil w _ _ a n c n' c' t22
  go_enter Tryz.func128, Tryz.ntmps128
  go_wp2
  go_ret
  exact ⟨rfl, rfl⟩

set_option maxHeartbeats 2000000 in
set_option maxRecDepth 100000 in
theorem Tryz.cloneSl (ad : Addr) (n c : Nat) (zs : List Value) (w : World) (hz : zs.length = n) (hone : ∀ u ∈ zs, u.oneCell' = true) (hbig : n * 24 ≤ 140737488355328) (hc : ∀ j u, zs[j]? = some u → w.cell? (ad.add j) = some u) :
    Calls Tryz.prog 129 #[.slice (some ad) n c] w fun e w' => ∃ v', e = .returned v' ∧ w'.ownsRow w.heap.size 39 1 v' n zs ∧ Below w.heap.size w w' := by
  have t22 : Tryz.prog.underlying 40 = some (.slice 39) := Tryz.underlying40
  obtain ⟨i0, hi, hz0, hz1, hz2⟩ : ∃ i, Tryz.prog.info? 39 = some i ∧ i.zero = some (.slice none 0 0) ∧ i.size = 1 ∧ i.bytes = 24 := info_of (by kernel_rfl)
  have q22 : ∀ (w : World) (a : Option Addr) (n c n' c' : Nat), (binOp .eql 40 (.slice a n c) (.slice none n' c')).run Tryz.prog w = .ok (.bool a.isNone) w := fun w a n c n' c' => Lib.run_eql_slice_nil w _ _ a n c n' c' t22
  have A : Aside (∀ j u, zs[j]? = some u → w.cell? (ad.add j) = some u) := hc
  clear hc
  go_enter Tryz.func129, Tryz.ntmps129
  go_wp2_with (at_builtin; refine wpList_append_own _ rfl _ _ 40 rfl w.heap.size 39 i0 (.slice none 0 0) 1 24 t22 hi hz0 hz1 hz2 rfl (by decide) _ _ _ rfl (World.ownsRow_made w #[] 0 (Nat.le_refl _) (Nat.zero_le _) rfl) ad n c zs rfl ?qc1 ?qc2 ?qc3 ?qc4 ?qc5 ?qc6 ?_)
  case qc1 => omega
  case qc2 =>
    intro j u hj
    refine Lib.cell?_alloc_some _ ?_
    exact A.out j u hj
  case qc3 => exact hone
  case qc4 => unfold maxLen; omega
  case qc5 => omega
  case qc6 => simp
  intro v' w1 hown hgrow hnil
  go_wp2
  go_ret
  refine ⟨v', rfl, by simpa using hown, ?_⟩
  exact ((Below.refl _ w).alloc (Nat.le_refl _) _).grown hgrow (by simp) (by intro k hk; simp [Value.ownBlock] at hk; omega)

set_option maxHeartbeats 2000000 in
set_option maxRecDepth 100000 in
theorem Tryz.clone_eSl (ad : Addr) (c : Nat) (w : World) :
    Calls Tryz.prog 129 #[.slice (some ad) 0 c] w fun e w' => e = .returned (.slice (some ⟨w.heap.size, 0, none⟩) 0 0) ∧ w' = w.alloc (.cells #[] 39) := by
  have t22 : Tryz.prog.underlying 40 = some (.slice 39) := Tryz.underlying40
  obtain ⟨i0, hi, hz0, hz1, hz2⟩ : ∃ i, Tryz.prog.info? 39 = some i ∧ i.zero = some (.slice none 0 0) ∧ i.size = 1 ∧ i.bytes = 24 := info_of (by kernel_rfl)
  have q22 : ∀ (w : World) (a : Option Addr) (n c n' c' : Nat), (binOp .eql 40 (.slice a n c) (.slice none n' c')).run Tryz.prog w = .ok (.bool a.isNone) w := fun w a n c n' c' => Lib.run_eql_slice_nil w _ _ a n c n' c' t22
  go_enter Tryz.func129, Tryz.ntmps129
  go_wp2
  go_ret
  exact ⟨rfl, rfl⟩

set_option maxHeartbeats 1000000 in
theorem Tryz.clone_nilSl (n c : Nat) (w : World) : Calls Tryz.prog 129 #[.slice none n c] w fun e w' => e = .returned (.slice none 0 0) ∧ w' = w := by
  have t22 : Tryz.prog.underlying 40 = some (.slice 39) := Tryz.underlying40
  have q22 : ∀ (w : World) (a : Option Addr) (n c n' c' : Nat), (binOp .eql 40 (.slice a n c) (.slice none n' c')).run Tryz.prog w = .ok (.bool a.isNone) w := fun w a n c n' c' => Lib.run_eql_slice_nil w _ _ a n c n' c' t22
  go_enter Tryz.func129, Tryz.ntmps129
  go_wp2
  go_ret
  exact ⟨rfl, rfl⟩
end Go.Proofs

namespace Go.Proofs
open Go

def cpt : List Int → List Int
  | [] => []
  | [x] => [x]
  | x :: y :: r => if x = y then cpt (y :: r) else x :: cpt (y :: r)
def cptG (p : Int) : List Int → List Int
  | [] => []
  | y :: r => if y = p then cptG y r else y :: cptG y r
theorem cpt_g : ∀ (r : List Int) (x : Int), cpt (x :: r) = x :: cptG x r
  | [], _ => rfl
  | y :: r, x => by
    rw [cpt, cptG, cpt_g r y]
    by_cases h : x = y
    · subst h; simp
    · rw [if_neg h, if_neg (fun e => h e.symm)]
theorem cpt_mem : ∀ {l : List Int} {x : Int}, x ∈ cpt l ↔ x ∈ l
  | [], _ => Iff.rfl
  | [_], _ => Iff.rfl
  | a :: b :: r, x => by
    rw [cpt]
    split
    · rename_i h
      subst h
      rw [cpt_mem]; simp
    · rw [List.mem_cons, cpt_mem, List.mem_cons (a := x) (b := a)]
theorem cpt_lt : ∀ {l : List Int}, l.Pairwise (fun a b => a ≤ b) → (cpt l).Pairwise fun a b => a < b
  | [], _ => List.Pairwise.nil
  | [_], _ => by simp [cpt]
  | a :: b :: r, h => by
    rw [cpt]
    have h2 := List.pairwise_cons.1 h
    have h3 := List.pairwise_cons.1 h2.2
    split
    · exact cpt_lt h2.2
    · rename_i hne
      refine List.pairwise_cons.2 ⟨fun x hx => ?_, cpt_lt h2.2⟩
      have hx := cpt_mem.1 hx
      have hab := h2.1 b (by simp)
      rcases List.mem_cons.1 hx with rfl | hx
      · omega
      · have := h3.1 x hx; omega
theorem sorted_once {ss zs : List Int} (hn : ss.Nodup) (hm : ∀ x, x ∈ ss ↔ x ∈ zs) : ss.mergeSort leI = cpt (zs.mergeSort leI) := by
  have tr : ∀ a b c : Int, leI a b = true → leI b c = true → leI a c = true := fun a b c h1 h2 => by simp only [leI, decide_eq_true_eq] at *; exact Int.le_trans h1 h2
  have to : ∀ a b : Int, (leI a b || leI b a) = true := fun a b => by simp only [leI, Bool.or_eq_true, decide_eq_true_eq]; exact Int.le_total a b
  have p1 := List.pairwise_mergeSort tr to zs
  have p2 : (zs.mergeSort leI).Pairwise fun a b => a ≤ b := p1.imp fun h => by simpa using h
  have p3 := cpt_lt p2
  refine List.Perm.eq_of_pairwise (le := fun a b => leI a b = true) (fun a b _ _ h1 h2 => ?_) (List.pairwise_mergeSort tr to ss) (p3.imp fun h => by simp only [leI, decide_eq_true_eq]; omega) ?_
  · simp only [leI, decide_eq_true_eq] at h1 h2; omega
  · refine (List.mergeSort_perm ss leI).trans ((List.perm_ext_iff_of_nodup hn (p3.imp fun h => by omega)).2 fun x => ?_)
    rw [hm, cpt_mem]
    exact ((List.mergeSort_perm zs leI).mem_iff).symm
theorem libG : ∀ (r : List Int) (x : Int), ((List.range r.length).filter fun j => decide (r[j]! ≠ (x :: r)[j]!)).map (fun j => r[j]!) = cptG x r
  | [], _ => rfl
  | y :: r, x => by
    rw [List.length_cons, List.range_succ_eq_map, List.filter_cons, cptG]
    have ih := libG r y
    have e : ((List.map Nat.succ (List.range r.length)).filter fun j => decide ((y :: r)[j]! ≠ (x :: y :: r)[j]!)).map (fun j => (y :: r)[j]!) = cptG y r := by
      rw [List.filter_map, List.map_map, ← ih]
      rfl
    by_cases h : y = x
    · subst h
      rw [if_neg (by simp), if_pos rfl]; exact e
    · rw [if_pos (by simpa using h), if_neg h, List.map_cons, e]
      rfl
theorem lib_cpt (l : List Int) : Lib.compact l = cpt l := by
  cases l with
  | nil => rfl
  | cons x r =>
    rw [cpt_g, ← libG]
    unfold Lib.compact Lib.compactUpTo
    rw [List.length_cons, List.range_succ_eq_map, List.filter_cons]
    have h0 : Lib.keeps (x :: r).toArray 0 = true := Lib.keeps_lt_one _ 0 (by omega)
    rw [if_pos h0, List.map_cons, List.filter_map, List.map_map]
    congr 1
    have : (Lib.keeps (x :: r).toArray ∘ Nat.succ) = fun j => decide (r[j]! ≠ (x :: r)[j]!) := by
      funext j
      simp [Lib.keeps]
    rw [this]
    apply List.map_congr_left
    intro j hj
    simp
end Go.Proofs
