/- A part of the proof of a law of module cupola: Dob. It has no conditions of its own. -/
import Derived.Test.YtoaboplnnhifpaaGreatDerive
set_option linter.all false
namespace Go.Sim
open Enc (enc)
open Go.Proofs

abbrev onesB : U32 := 4294967295#32
theorem ones_get {k : Nat} (h : k < 32) : onesB.getLsbD k = true := by
  have : onesB = BitVec.allOnes 32 := by decide
  rw [this, BitVec.getLsbD_allOnes]; simp [h]
def kindM (l : List Ev) (ks : List Int) : U32 := maskB l fun y => decide (y.kind ∈ ks)
def memM (l : List Ev) : U32 := kindM l [1, 2]
def memR (l : List Ev) (r : Rl) : Rl := onlyR r (memM l) (memM l)
@[go_sem] theorem memR_len (l r) : (memR l r).length = r.length := onlyR_len _ _ _
theorem dob_Memory {x : Ex} (hx : x.ev.length ≤ 32) {r : Rl} (hr : r.length ≤ 32) : Fun Tryz.prog 119 [enc x, enc r] (.t (enc (memR x.ev r))) := by
  refine Fun.go (b := false) Tryz.func119 rfl rfl (by kernel_rfl) (by kernel_rfl) ?_
  simp -implicitDefEqProofs (disch := first | exact dsch | fail) only [go_sem, ↓reduceIte, Nat.reduceEqDiff, memR, memM, kindM]
@[go_sem] theorem pu_Memory {x : Ex} (hx : x.ev.length ≤ 32) {r : Rl} (hr : r.length ≤ 32) {K : Kp} : @Pu _ Tryz.prog 119 [enc x, enc r] K = K.k (.t (enc (memR x.ev r))) := (dob_Memory hx hr).pu

theorem dob_all {x : Ex} (hx : x.ev.length ≤ 32) {ls : List Rl} (hl : ls.length ≤ 1000) (hls : ∀ j, j < ls.length → (gd ls j).length = x.ev.length) : Fun Tryz.prog 201 [enc x, enc ls] (.t (enc (memR x.ev (unionR x.ev.length ls)))) := by
  refine Fun.go (b := false) Tryz.func201 rfl rfl (by kernel_rfl) (by kernel_rfl) ?_
  simp -implicitDefEqProofs (disch := first | exact dsch | fail) only [go_sem, ↓reduceIte, Nat.reduceEqDiff]
  refine loop_up (n := ls.length) (fun j e H => e 2 = .ptr 0 1 0 0 ∧ (e 5 = .t (enc (unionTo x.ev.length ls j)) ∨ (e 5 = .ref 1 x.ev.length ∧ j = 0)) ∧ e 12 = .t (enc ls) ∧ e 13 = .t (.int .i64 ls.length) ∧ e 14 = .t (.int .i64 j) ∧ ∃ st, H = [⟨[.t (enc x)], 7, false⟩, ⟨vs (noneR x.ev.length), 1, st⟩]) ?_ _ _ ?_
  · rintro j e H hj ⟨h2, h5, h12, h13, h14, st, rfl⟩
    by_cases hlt : j < ls.length
    · have hs := unionTo_step (n := x.ev.length) hlt
      have hg := hls j hlt
      rcases h5 with h5 | ⟨h5, h0⟩
      · simp -implicitDefEqProofs (disch := first | exact dsch | fail) only [go_sem, ↓reduceIte, Nat.reduceEqDiff, h2, h5, h12, h13, h14, hs]
        exact ⟨hlt, .inl trivial, _, rfl⟩
      · rw [show unionTo x.ev.length ls j = noneR x.ev.length by subst h0; rfl] at hs
        simp -implicitDefEqProofs (disch := first | exact dsch | fail) only [go_sem, ↓reduceIte, Nat.reduceEqDiff, h2, h5, h12, h13, h14, hs]
        exact ⟨hlt, .inl trivial, _, rfl⟩
    · obtain rfl : j = ls.length := by omega
      rcases h5 with h5 | ⟨h5, h0⟩
      · simp -implicitDefEqProofs (disch := first | exact dsch | fail) only [go_sem, ↓reduceIte, Nat.reduceEqDiff, h2, h5, h12, h13, h14, unionTo_all]
      · simp -implicitDefEqProofs (disch := first | exact dsch | fail) only [go_sem, ↓reduceIte, Nat.reduceEqDiff, h2, h5, h12, h13, h14]
        rw [← unionTo_all, h0]; rfl
  · simp -implicitDefEqProofs (disch := first | exact dsch | fail) only [go_sem, ↓reduceIte, Nat.reduceEqDiff]
    exact ⟨.inr trivial, _, rfl⟩
@[go_sem] theorem pu_doball3 {x : Ex} (hx : x.ev.length ≤ 32) {a0 a1 a2 : Rl} (h0 : a0.length = x.ev.length) (h1 : a1.length = x.ev.length) (h2 : a2.length = x.ev.length) {K : Kp} : @Pu _ Tryz.prog 201 [enc x, enc [a0, a1, a2]] K = K.k (.t (enc (memR x.ev (unionR x.ev.length [a0, a1, a2])))) :=
  (dob_all hx (by simp) (by intro j hj; match j, hj with | 0, _ => exact h0 | 1, _ => exact h1 | 2, _ => exact h2)).pu
@[go_sem] theorem pu_doball5 {x : Ex} (hx : x.ev.length ≤ 32) {a0 a1 a2 a3 a4 : Rl} (h0 : a0.length = x.ev.length) (h1 : a1.length = x.ev.length) (h2 : a2.length = x.ev.length) (h3 : a3.length = x.ev.length) (h4 : a4.length = x.ev.length) {K : Kp} : @Pu _ Tryz.prog 201 [enc x, enc [a0, a1, a2, a3, a4]] K = K.k (.t (enc (memR x.ev (unionR x.ev.length [a0, a1, a2, a3, a4])))) :=
  (dob_all hx (by simp) (by intro j hj; match j, hj with | 0, _ => exact h0 | 1, _ => exact h1 | 2, _ => exact h2 | 3, _ => exact h3 | 4, _ => exact h4)).pu

theorem bob_all {x : Ex} (hx : x.ev.length ≤ 32) {ls : List Rl} (hl : ls.length ≤ 1000) (hls : ∀ j, j < ls.length → (gd ls j).length = x.ev.length) : Fun Tryz.prog 202 [enc x, enc ls] (.t (enc (memR x.ev (unionR x.ev.length ls)))) := by
  refine Fun.go (b := false) Tryz.func202 rfl rfl (by kernel_rfl) (by kernel_rfl) ?_
  simp -implicitDefEqProofs (disch := first | exact dsch | fail) only [go_sem, ↓reduceIte, Nat.reduceEqDiff]
  refine loop_up (n := ls.length) (fun j e H => e 2 = .ptr 0 1 0 0 ∧ (e 5 = .t (enc (unionTo x.ev.length ls j)) ∨ (e 5 = .ref 1 x.ev.length ∧ j = 0)) ∧ e 12 = .t (enc ls) ∧ e 13 = .t (.int .i64 ls.length) ∧ e 14 = .t (.int .i64 j) ∧ ∃ st, H = [⟨[.t (enc x)], 7, false⟩, ⟨vs (noneR x.ev.length), 1, st⟩]) ?_ _ _ ?_
  · rintro j e H hj ⟨h2, h5, h12, h13, h14, st, rfl⟩
    by_cases hlt : j < ls.length
    · have hs := unionTo_step (n := x.ev.length) hlt
      have hg := hls j hlt
      rcases h5 with h5 | ⟨h5, h0⟩
      · simp -implicitDefEqProofs (disch := first | exact dsch | fail) only [go_sem, ↓reduceIte, Nat.reduceEqDiff, h2, h5, h12, h13, h14, hs]
        exact ⟨hlt, .inl trivial, _, rfl⟩
      · rw [show unionTo x.ev.length ls j = noneR x.ev.length by subst h0; rfl] at hs
        simp -implicitDefEqProofs (disch := first | exact dsch | fail) only [go_sem, ↓reduceIte, Nat.reduceEqDiff, h2, h5, h12, h13, h14, hs]
        exact ⟨hlt, .inl trivial, _, rfl⟩
    · obtain rfl : j = ls.length := by omega
      rcases h5 with h5 | ⟨h5, h0⟩
      · simp -implicitDefEqProofs (disch := first | exact dsch | fail) only [go_sem, ↓reduceIte, Nat.reduceEqDiff, h2, h5, h12, h13, h14, unionTo_all]
      · simp -implicitDefEqProofs (disch := first | exact dsch | fail) only [go_sem, ↓reduceIte, Nat.reduceEqDiff, h2, h5, h12, h13, h14]
        rw [← unionTo_all, h0]; rfl
  · simp -implicitDefEqProofs (disch := first | exact dsch | fail) only [go_sem, ↓reduceIte, Nat.reduceEqDiff]
    exact ⟨.inr trivial, _, rfl⟩
@[go_sem] theorem pu_boball2 {x : Ex} (hx : x.ev.length ≤ 32) {a0 a1 : Rl} (h0 : a0.length = x.ev.length) (h1 : a1.length = x.ev.length) {K : Kp} : @Pu _ Tryz.prog 202 [enc x, enc [a0, a1]] K = K.k (.t (enc (memR x.ev (unionR x.ev.length [a0, a1])))) :=
  (bob_all hx (by simp) (by intro j hj; match j, hj with | 0, _ => exact h0 | 1, _ => exact h1)).pu
@[go_sem] theorem pu_boball3 {x : Ex} (hx : x.ev.length ≤ 32) {a0 a1 a2 : Rl} (h0 : a0.length = x.ev.length) (h1 : a1.length = x.ev.length) (h2 : a2.length = x.ev.length) {K : Kp} : @Pu _ Tryz.prog 202 [enc x, enc [a0, a1, a2]] K = K.k (.t (enc (memR x.ev (unionR x.ev.length [a0, a1, a2])))) :=
  (bob_all hx (by simp) (by intro j hj; match j, hj with | 0, _ => exact h0 | 1, _ => exact h1 | 2, _ => exact h2)).pu

def toR (l : List Ev) (r : Rl) (k : Int) : Rl := onlyR r onesB (kindM l [k])
@[go_sem] theorem toR_len (l r k) : (toR l r k).length = r.length := onlyR_len _ _ _
theorem dob_to {x : Ex} (hx : x.ev.length ≤ 32) {r : Rl} (hr : r.length ≤ 32) {k : Int} : Fun Tryz.prog 200 [enc x, enc r, .int .i64 k] (.t (enc (toR x.ev r k))) := by
  refine Fun.go (b := false) Tryz.func200 rfl rfl (by kernel_rfl) (by kernel_rfl) ?_
  simp -implicitDefEqProofs (disch := first | exact dsch | fail) only [go_sem, ↓reduceIte, Nat.reduceEqDiff, toR, kindM]
@[go_sem] theorem pu_to {x : Ex} (hx : x.ev.length ≤ 32) {r : Rl} (hr : r.length ≤ 32) {k : Int} {K : Kp} : @Pu _ Tryz.prog 200 [enc x, enc r, .int .i64 k] K = K.k (.t (enc (toR x.ev r k))) := (dob_to hx hr).pu

structure Okx (x : Ex) : Prop where
  n : x.ev.length ≤ 32
  po : x.po.length = x.ev.length
  addr : x.addr.length = x.ev.length
  data : x.data.length = x.ev.length
  ctrl : x.ctrl.length = x.ev.length
  rmw : x.rmw.length = x.ev.length

def aheadR (x : Ex) : Rl := seqR x.addr x.po
def isbR (x : Ex) : Rl := seqR (toR x.ev (orR x.ctrl (aheadR x)) 6) x.po
def staticR (x : Ex) : Rl := memR x.ev (unionR x.ev.length [x.addr, x.data, toR x.ev x.ctrl 2, toR x.ev (isbR x) 1, toR x.ev (aheadR x) 2])
@[go_sem] theorem staticR_len (x : Ex) : (staticR x).length = x.ev.length := by rw [staticR, memR_len, unionR_len]
theorem dob_Static {x : Ex} (hx : Okx x) : Fun Tryz.prog 118 [enc x] (.t (enc (staticR x))) := by
  obtain ⟨hn, h1, h2, h3, h4, h5⟩ := hx
  refine Fun.go (b := false) Tryz.func118 rfl rfl (by kernel_rfl) (by kernel_rfl) ?_
  simp -implicitDefEqProofs (disch := first | exact dsch | fail) only [go_sem, ↓reduceIte, Nat.reduceEqDiff, staticR, isbR, aheadR]
@[go_sem] theorem pu_Static {x : Ex} (hx : Okx x) {K : Kp} : @Pu _ Tryz.prog 118 [enc x] K = K.k (.t (enc (staticR x))) := (dob_Static hx).pu

theorem dob_Coi {x : Ex} (hx : x.ev.length ≤ 32) {r : Rl} (hr : r.length = x.ev.length) : Fun Tryz.prog 212 [enc x, enc r] (.t (enc (withinR x.ev r))) := by
  refine Fun.go (b := false) Tryz.func212 rfl rfl (by kernel_rfl) (by kernel_rfl) ?_
  simp -implicitDefEqProofs (disch := first | exact dsch | fail) only [go_sem, ↓reduceIte, Nat.reduceEqDiff]
@[go_sem] theorem pu_Coi {x : Ex} (hx : x.ev.length ≤ 32) {r : Rl} (hr : r.length = x.ev.length) {K : Kp} : @Pu _ Tryz.prog 212 [enc x, enc r] K = K.k (.t (enc (withinR x.ev r))) := (dob_Coi hx hr).pu
def rfiR (l : List Ev) (fr : List Int) : Rl := withinR l (rfR l.length fr)
@[go_sem] theorem rfiR_len (l fr) : (rfiR l fr).length = l.length := by rw [rfiR, withinR_len, rfR_len]
theorem dob_Rfi {x : Ex} (hx : x.ev.length ≤ 32) {fr : List Int} (hf : fr.length ≤ 1000) : Fun Tryz.prog 213 [enc x, enc fr] (.t (enc (rfiR x.ev fr))) := by
  refine Fun.go (b := false) Tryz.func213 rfl rfl (by kernel_rfl) (by kernel_rfl) ?_
  simp -implicitDefEqProofs (disch := first | exact dsch | fail) only [go_sem, ↓reduceIte, Nat.reduceEqDiff, rfiR]
@[go_sem] theorem pu_Rfi {x : Ex} (hx : x.ev.length ≤ 32) {fr : List Int} (hf : fr.length ≤ 1000) {K : Kp} : @Pu _ Tryz.prog 213 [enc x, enc fr] K = K.k (.t (enc (rfiR x.ev fr))) := (dob_Rfi hx hf).pu

def dobR (x : Ex) (fr : List Int) (co : Rl) : Rl := memR x.ev (unionR x.ev.length [staticR x, seqR (orR x.ctrl x.data) (withinR x.ev co), seqR (orR x.addr x.data) (rfiR x.ev fr)])
@[go_sem] theorem dobR_len (x fr co) : (dobR x fr co).length = x.ev.length := by rw [dobR, memR_len, unionR_len]
theorem dob_Dob {x : Ex} (hx : Okx x) {fr : List Int} (hf : fr.length ≤ 1000) {co : Rl} (hc : co.length = x.ev.length) : Fun Tryz.prog 142 [enc x, enc fr, enc co] (.t (enc (dobR x fr co))) := by
  have hx' := hx
  obtain ⟨hn, h1, h2, h3, h4, h5⟩ := hx
  refine Fun.go (b := false) Tryz.func142 rfl rfl (by kernel_rfl) (by kernel_rfl) ?_
  simp -implicitDefEqProofs (disch := first | exact dsch | fail) only [go_sem, ↓reduceIte, Nat.reduceEqDiff, dobR]
@[go_sem] theorem pu_Dob {x : Ex} (hx : Okx x) {fr : List Int} (hf : fr.length ≤ 1000) {co : Rl} (hc : co.length = x.ev.length) {K : Kp} : @Pu _ Tryz.prog 142 [enc x, enc fr, enc co] K = K.k (.t (enc (dobR x fr co))) := (dob_Dob hx hf hc).pu

def acqG (x : Ev) : Bool := decide (x.kind = 1) && x.acq
def relG (x : Ev) : Bool := decide (x.kind = 2) && x.rel
theorem acq1 : Pred1 248 acqG := by
  intro x
  refine Fun.go (b := false) Tryz.func248 rfl rfl (by kernel_rfl) (by kernel_rfl) ?_
  unfold acqG
  by_cases h : x.kind = 1
  · simp -implicitDefEqProofs (disch := first | exact dsch | fail) only [go_sem, ↓reduceIte, Nat.reduceEqDiff, h, Bool.true_and]
  · simp -implicitDefEqProofs (disch := first | exact dsch | fail) only [go_sem, ↓reduceIte, Nat.reduceEqDiff, h, Bool.false_and]
theorem rel1 : Pred1 205 relG := by
  intro x
  refine Fun.go (b := false) Tryz.func205 rfl rfl (by kernel_rfl) (by kernel_rfl) ?_
  unfold relG
  by_cases h : x.kind = 2
  · simp -implicitDefEqProofs (disch := first | exact dsch | fail) only [go_sem, ↓reduceIte, Nat.reduceEqDiff, h, Bool.true_and]
  · simp -implicitDefEqProofs (disch := first | exact dsch | fail) only [go_sem, ↓reduceIte, Nat.reduceEqDiff, h, Bool.false_and]
theorem bob_Acquires {x : Ex} (hx : x.ev.length ≤ 32) : Fun Tryz.prog 204 [enc x] (.t (.int .u32 ((maskB x.ev acqG).toNat : Int))) := by
  refine Fun.go (b := false) Tryz.func204 rfl rfl (by kernel_rfl) (by kernel_rfl) ?_
  simp -implicitDefEqProofs (disch := first | exact dsch | fail) only [go_sem, ↓reduceIte, Nat.reduceEqDiff, fun K => (exec_Mask acq1 hx).pu (K := K)]
theorem bob_Releases {x : Ex} (hx : x.ev.length ≤ 32) : Fun Tryz.prog 123 [enc x] (.t (.int .u32 ((maskB x.ev relG).toNat : Int))) := by
  refine Fun.go (b := false) Tryz.func123 rfl rfl (by kernel_rfl) (by kernel_rfl) ?_
  simp -implicitDefEqProofs (disch := first | exact dsch | fail) only [go_sem, ↓reduceIte, Nat.reduceEqDiff, fun K => (exec_Mask rel1 hx).pu (K := K)]
@[go_sem] theorem pu_Acquires {x : Ex} (hx : x.ev.length ≤ 32) {K : Kp} : @Pu _ Tryz.prog 204 [enc x] K = K.k (.t (.int .u32 ((maskB x.ev acqG).toNat : Int))) := (bob_Acquires hx).pu
@[go_sem] theorem pu_Releases {x : Ex} (hx : x.ev.length ≤ 32) {K : Kp} : @Pu _ Tryz.prog 123 [enc x] K = K.k (.t (.int .u32 ((maskB x.ev relG).toNat : Int))) := (bob_Releases hx).pu

def endsTo (ps : List (Int × Int)) : Nat → U32
  | 0 => 0#32
  | j + 1 => endsTo ps j ||| 1#32 <<< (gd ps j).2.toNat
def endsB (ps : List (Int × Int)) : U32 := endsTo ps ps.length
theorem endsTo_get {ps : List (Int × Int)} {k : Nat} (hk : k < 32) : ∀ j, (endsTo ps j).getLsbD k = (List.range j).any fun m => decide (k = (gd ps m).2.toNat)
  | 0 => by simp [endsTo]
  | j + 1 => by
    rw [List.range_succ, List.any_append, ← endsTo_get hk j]
    simp only [endsTo, BitVec.getLsbD_or, one_get hk, List.any_cons, List.any_nil, Bool.or_false]
theorem ends_pairs {r : Rl} {k : Nat} (hk : k < 32) : (endsB (pairsR r)).getLsbD k = (List.range r.length).any fun i => has r i k := by
  rw [endsB, endsTo_get hk, Bool.eq_iff_iff]
  simp only [List.any_eq_true, List.mem_range, decide_eq_true_eq]
  constructor
  · rintro ⟨m, hm, h⟩
    obtain ⟨i, b, h1, h2⟩ := pairsR_gd hm
    rw [h1] at h
    simp only [Int.toNat_natCast] at h
    subst h
    exact ⟨i, (has_lt h2).1, h2⟩
  · rintro ⟨i, hi, h⟩
    obtain ⟨m, hm, e⟩ := List.mem_iff_getElem.1 (mem_pairsR.2 ⟨i, k, rfl, h⟩)
    refine ⟨m, hm, ?_⟩
    rw [← gd_get hm, e]; simp
def aobR (x : Ex) (fr : List Int) : Rl := memR x.ev (unionR x.ev.length [x.rmw, onlyR (rfiR x.ev fr) (endsB (pairsR x.rmw)) (maskB x.ev acqG)])
@[go_sem] theorem aobR_len (x fr) : (aobR x fr).length = x.ev.length := by rw [aobR, memR_len, unionR_len]
theorem bob_Aob {x : Ex} (hx : Okx x) {fr : List Int} (hf : fr.length ≤ 1000) : Fun Tryz.prog 143 [enc x, enc fr] (.t (enc (aobR x fr))) := by
  obtain ⟨hn, h1, h2, h3, h4, h5⟩ := hx
  refine Fun.go (b := false) Tryz.func143 rfl rfl (by kernel_rfl) (by kernel_rfl) ?_
  have hpl := pairsR_len x.rmw (by omega)
  simp -implicitDefEqProofs (disch := first | exact dsch | fail) only [go_sem, ↓reduceIte, Nat.reduceEqDiff]
  refine loop_up (n := (pairsR x.rmw).length) (fun j e H => e 1 = .t (enc fr) ∧ e 2 = .ptr 0 1 0 0 ∧ e 5 = .t (.int .u32 ((endsTo (pairsR x.rmw) j).toNat : Int)) ∧ e 10 = .t (enc (pairsR x.rmw)) ∧ e 11 = .t (.int .i64 (pairsR x.rmw).length) ∧ e 12 = .t (.int .i64 j) ∧ ∃ R, H = ⟨[.t (enc x)], 7, false⟩ :: R) ?_ _ _ ?_
  · rintro j e H hj ⟨g1, g2, g5, g10, g11, g12, R, rfl⟩
    by_cases hlt : j < (pairsR x.rmw).length
    · obtain ⟨a, b, hab, hh⟩ := pairsR_gd hlt
      have hab2 := has_lt hh
      simp -implicitDefEqProofs (disch := first | exact dsch | fail) only [go_sem, ↓reduceIte, Nat.reduceEqDiff, g1, g2, g5, g10, g11, g12, hab, endsTo]
      exact ⟨hlt, _, rfl⟩
    · obtain rfl : j = (pairsR x.rmw).length := by omega
      simp -implicitDefEqProofs (disch := first | exact dsch | fail) only [go_sem, ↓reduceIte, Nat.reduceEqDiff, g1, g2, g5, g10, g11, g12]
      rfl
  · simp -implicitDefEqProofs (disch := first | exact dsch | fail) only [go_sem, ↓reduceIte, Nat.reduceEqDiff, endsTo]
    exact ⟨_, rfl⟩
@[go_sem] theorem pu_Aob {x : Ex} (hx : Okx x) {fr : List Int} (hf : fr.length ≤ 1000) {K : Kp} : @Pu _ Tryz.prog 143 [enc x, enc fr] K = K.k (.t (enc (aobR x fr))) := (bob_Aob hx hf).pu

def overR (x : Ex) (f : U32) (k : Int) (t : U32) : Rl := seqR (onlyR x.po f (kindM x.ev [k])) (onlyR x.po (kindM x.ev [k]) t)
@[go_sem] theorem overR_len (x f k t) : (overR x f k t).length = x.po.length := by rw [overR, seqR, mk_len, onlyR_len]
theorem bob_over {x : Ex} (hx : Okx x) {f t : U32} {k : Int} : Fun Tryz.prog 203 [enc x, .int .u32 (f.toNat : Int), .int .i64 k, .int .u32 (t.toNat : Int)] (.t (enc (overR x f k t))) := by
  obtain ⟨hn, h1, h2, h3, h4, h5⟩ := hx
  refine Fun.go (b := false) Tryz.func203 rfl rfl (by kernel_rfl) (by kernel_rfl) ?_
  simp -implicitDefEqProofs (disch := first | exact dsch | fail) only [go_sem, ↓reduceIte, Nat.reduceEqDiff, overR, kindM]
@[go_sem] theorem pu_over {x : Ex} (hx : Okx x) {f t : U32} {k : Int} {K : Kp} : @Pu _ Tryz.prog 203 [enc x, .int .u32 (f.toNat : Int), .int .i64 k, .int .u32 (t.toNat : Int)] K = K.k (.t (enc (overR x f k t))) := (bob_over hx).pu

def fencesR (x : Ex) : Rl := memR x.ev (unionR x.ev.length [overR x onesB 3 onesB, overR x (kindM x.ev [1]) 4 onesB, overR x (kindM x.ev [2]) 5 (kindM x.ev [2])])
@[go_sem] theorem fencesR_len (x : Ex) : (fencesR x).length = x.ev.length := by rw [fencesR, memR_len, unionR_len]
theorem bob_Fences {x : Ex} (hx : Okx x) : Fun Tryz.prog 120 [enc x] (.t (enc (fencesR x))) := by
  have hx' := hx
  obtain ⟨hn, h1, h2, h3, h4, h5⟩ := hx
  refine Fun.go (b := false) Tryz.func120 rfl rfl (by kernel_rfl) (by kernel_rfl) ?_
  simp -implicitDefEqProofs (disch := first | exact dsch | fail) only [go_sem, ↓reduceIte, Nat.reduceEqDiff, fencesR, kindM]
@[go_sem] theorem pu_Fences {x : Ex} (hx : Okx x) {K : Kp} : @Pu _ Tryz.prog 120 [enc x] K = K.k (.t (enc (fencesR x))) := (bob_Fences hx).pu
def ordersR (x : Ex) : Rl := memR x.ev (unionR x.ev.length [onlyR x.po (maskB x.ev acqG) onesB, onlyR x.po onesB (maskB x.ev relG), onlyR x.po (maskB x.ev relG) (maskB x.ev acqG)])
@[go_sem] theorem ordersR_len (x : Ex) : (ordersR x).length = x.ev.length := by rw [ordersR, memR_len, unionR_len]
theorem bob_Orders {x : Ex} (hx : Okx x) : Fun Tryz.prog 121 [enc x] (.t (enc (ordersR x))) := by
  obtain ⟨hn, h1, h2, h3, h4, h5⟩ := hx
  refine Fun.go (b := false) Tryz.func121 rfl rfl (by kernel_rfl) (by kernel_rfl) ?_
  simp -implicitDefEqProofs (disch := first | exact dsch | fail) only [go_sem, ↓reduceIte, Nat.reduceEqDiff, ordersR]
@[go_sem] theorem pu_Orders {x : Ex} (hx : Okx x) {K : Kp} : @Pu _ Tryz.prog 121 [enc x] K = K.k (.t (enc (ordersR x))) := (bob_Orders hx).pu
def bobR (x : Ex) (co : Rl) : Rl := memR x.ev (unionR x.ev.length [fencesR x, ordersR x, seqR (onlyR x.po onesB (maskB x.ev relG)) (withinR x.ev co)])
@[go_sem] theorem bobR_len (x co) : (bobR x co).length = x.ev.length := by rw [bobR, memR_len, unionR_len]
theorem bob_Bob {x : Ex} (hx : Okx x) {co : Rl} (hc : co.length = x.ev.length) : Fun Tryz.prog 144 [enc x, enc co] (.t (enc (bobR x co))) := by
  have hx' := hx
  obtain ⟨hn, h1, h2, h3, h4, h5⟩ := hx
  refine Fun.go (b := false) Tryz.func144 rfl rfl (by kernel_rfl) (by kernel_rfl) ?_
  simp -implicitDefEqProofs (disch := first | exact dsch | fail) only [go_sem, ↓reduceIte, Nat.reduceEqDiff, bobR]
@[go_sem] theorem pu_Bob {x : Ex} (hx : Okx x) {co : Rl} (hc : co.length = x.ev.length) {K : Kp} : @Pu _ Tryz.prog 144 [enc x, enc co] K = K.k (.t (enc (bobR x co))) := (bob_Bob hx hc).pu

def obsR (x : Ex) (fr : List Int) (co : Rl) : Rl := outerR x.ev (comR x.ev fr co)
def obR (x : Ex) (fr : List Int) (co : Rl) : Rl := orR (orR (orR (obsR x fr co) (dobR x fr co)) (aobR x fr)) (bobR x co)
@[go_sem] theorem obR_len (x fr co) : (obR x fr co).length = x.ev.length := by simp only [obR, orR_len, obsR, outerR_len]
theorem axiom_Ob {x : Ex} (hx : Okx x) {fr : List Int} (hf : fr.length ≤ 1000) {co : Rl} (hc : co.length = x.ev.length) : Fun Tryz.prog 72 [enc x, enc fr, enc co] (.t (enc (obR x fr co))) := by
  have hx' := hx
  obtain ⟨hn, h1, h2, h3, h4, h5⟩ := hx
  refine Fun.go (b := false) Tryz.func72 rfl rfl (by kernel_rfl) (by kernel_rfl) ?_
  simp -implicitDefEqProofs (disch := first | exact dsch | fail) only [go_sem, ↓reduceIte, Nat.reduceEqDiff]
  have hls : ∀ j, j < 3 → (gd [dobR x fr co, aobR x fr, bobR x co] j).length = x.ev.length := by
    intro j hj
    match j, hj with
    | 0, _ => exact dobR_len _ _ _
    | 1, _ => exact aobR_len _ _
    | 2, _ => exact bobR_len _ _
  refine loop_up (n := 3) (fun j e H => e 7 = .t (enc (([dobR x fr co, aobR x fr, bobR x co].take j).foldl orR (obsR x fr co))) ∧ e 24 = .ex ([dobR x fr co, aobR x fr, bobR x co].map enc) ∧ e 25 = .t (.int .i64 3) ∧ e 26 = .t (.int .i64 j)) ?_ _ _ ?_
  · rintro j e H hj ⟨g7, g24, g25, g26⟩
    have hl0 : (([dobR x fr co, aobR x fr, bobR x co].take j).foldl orR (obsR x fr co)).length = x.ev.length := by rw [foldl_or_len]; exact outerR_len _ _
    by_cases hlt : j < 3
    · have hlt' : j < [dobR x fr co, aobR x fr, bobR x co].length := hlt
      have hg := hls j hlt
      have hs : orR (([dobR x fr co, aobR x fr, bobR x co].take j).foldl orR (obsR x fr co)) (gd [dobR x fr co, aobR x fr, bobR x co] j) = ([dobR x fr co, aobR x fr, bobR x co].take (j + 1)).foldl orR (obsR x fr co) := by
        rw [← take_gd hlt', List.foldl_append]; rfl
      generalize hL : [dobR x fr co, aobR x fr, bobR x co] = L at *
      simp -implicitDefEqProofs (disch := first | exact dsch | fail) only [go_sem, ↓reduceIte, Nat.reduceEqDiff, g7, g24, g25, g26, hs]
      exact hlt
    · obtain rfl : j = 3 := by omega
      simp -implicitDefEqProofs (disch := first | exact dsch | fail) only [go_sem, ↓reduceIte, Nat.reduceEqDiff, g7, g24, g25, g26]
      rfl
  · simp -implicitDefEqProofs (disch := first | exact dsch | fail) only [go_sem, ↓reduceIte, Nat.reduceEqDiff]
    rfl

@[go_sem] theorem pu_Ob {x : Ex} (hx : Okx x) {fr : List Int} (hf : fr.length ≤ 1000) {co : Rl} (hc : co.length = x.ev.length) {K : Kp} : @Pu _ Tryz.prog 72 [enc x, enc fr, enc co] K = K.k (.t (enc (obR x fr co))) := (axiom_Ob hx hf hc).pu
noncomputable def internalB (x : Ex) (fr : List Int) (co : Rl) : Bool := acyR (orR (polocR x) (comR x.ev fr co))
noncomputable def externalB (x : Ex) (fr : List Int) (co : Rl) : Bool := acyR (obR x fr co)
def betweenR (x : Ex) (fr : List Int) (co : Rl) : Rl := andR x.rmw (seqR (outerR x.ev (frR x.ev fr co)) (outerR x.ev co))
@[go_sem] theorem betweenR_len (x fr co) : (betweenR x fr co).length = x.rmw.length := andR_len _ _
def atomicB (x : Ex) (fr : List Int) (co : Rl) : Bool := decide (((pairsR (betweenR x fr co)).length : Int) = 0)
noncomputable def goodB (x : Ex) (fr : List Int) (co : Rl) : Bool := internalB x fr co && (externalB x fr co && atomicB x fr co)
def wideR (x : Ex) (fr : List Int) (co : Rl) : Rl := orR (obR x fr co) (withinR x.ev (orR co (frR x.ev fr co)))
@[go_sem] theorem wideR_len (x fr co) : (wideR x fr co).length = x.ev.length := by rw [wideR, orR_len, obR_len]
theorem axiom_Internal {x : Ex} (hx : Okx x) {fr : List Int} (hf : fr.length ≤ 1000) {co : Rl} (hc : co.length = x.ev.length) : Fun Tryz.prog 30 [enc x, enc fr, enc co] (.t (.bool (internalB x fr co))) := by
  obtain ⟨hn, h1, h2, h3, h4, h5⟩ := hx
  refine Fun.go (b := false) Tryz.func30 rfl rfl (by kernel_rfl) (by kernel_rfl) ?_
  simp -implicitDefEqProofs (disch := first | exact dsch | fail) only [go_sem, ↓reduceIte, Nat.reduceEqDiff, internalB]
theorem axiom_External {x : Ex} (hx : Okx x) {fr : List Int} (hf : fr.length ≤ 1000) {co : Rl} (hc : co.length = x.ev.length) : Fun Tryz.prog 29 [enc x, enc fr, enc co] (.t (.bool (externalB x fr co))) := by
  have hx' := hx
  obtain ⟨hn, h1, h2, h3, h4, h5⟩ := hx
  refine Fun.go (b := false) Tryz.func29 rfl rfl (by kernel_rfl) (by kernel_rfl) ?_
  simp -implicitDefEqProofs (disch := first | exact dsch | fail) only [go_sem, ↓reduceIte, Nat.reduceEqDiff, externalB]
theorem axiom_Atomic {x : Ex} (hx : Okx x) {fr : List Int} (hf : fr.length ≤ 1000) {co : Rl} (hc : co.length = x.ev.length) : Fun Tryz.prog 67 [enc x, enc fr, enc co] (.t (.bool (atomicB x fr co))) := by
  obtain ⟨hn, h1, h2, h3, h4, h5⟩ := hx
  refine Fun.go (b := false) Tryz.func67 rfl rfl (by kernel_rfl) (by kernel_rfl) ?_
  simp -implicitDefEqProofs (disch := first | exact dsch | fail) only [go_sem, ↓reduceIte, Nat.reduceEqDiff]
  rw [atomicB, betweenR]
section
variable {K : Kp}
@[go_sem] theorem pu_Internal {x : Ex} (hx : Okx x) {fr : List Int} (hf : fr.length ≤ 1000) {co : Rl} (hc : co.length = x.ev.length) : @Pu _ Tryz.prog 30 [enc x, enc fr, enc co] K = K.k (.t (.bool (internalB x fr co))) := (axiom_Internal hx hf hc).pu
@[go_sem] theorem pu_External {x : Ex} (hx : Okx x) {fr : List Int} (hf : fr.length ≤ 1000) {co : Rl} (hc : co.length = x.ev.length) : @Pu _ Tryz.prog 29 [enc x, enc fr, enc co] K = K.k (.t (.bool (externalB x fr co))) := (axiom_External hx hf hc).pu
@[go_sem] theorem pu_Atomic {x : Ex} (hx : Okx x) {fr : List Int} (hf : fr.length ≤ 1000) {co : Rl} (hc : co.length = x.ev.length) : @Pu _ Tryz.prog 67 [enc x, enc fr, enc co] K = K.k (.t (.bool (atomicB x fr co))) := (axiom_Atomic hx hf hc).pu
end
theorem axiom_Wide {x : Ex} (hx : Okx x) {fr : List Int} (hf : fr.length ≤ 1000) {co : Rl} (hc : co.length = x.ev.length) : Fun Tryz.prog 81 [enc x, enc fr, enc co] (.t (enc (wideR x fr co))) := by
  have hx' := hx
  obtain ⟨hn, h1, h2, h3, h4, h5⟩ := hx
  refine Fun.go (b := false) Tryz.func81 rfl rfl (by kernel_rfl) (by kernel_rfl) ?_
  simp -implicitDefEqProofs (disch := first | exact dsch | fail) only [go_sem, ↓reduceIte, Nat.reduceEqDiff, wideR]
theorem axiom_Good {x : Ex} (hx : Okx x) {fr : List Int} (hf : fr.length ≤ 1000) {co : Rl} (hc : co.length = x.ev.length) : Fun Tryz.prog 33 [enc x, enc fr, enc co] (.t (.bool (goodB x fr co))) := by
  have hx' := hx
  obtain ⟨hn, h1, h2, h3, h4, h5⟩ := hx
  refine Fun.go (b := false) Tryz.func33 rfl rfl (by kernel_rfl) (by kernel_rfl) ?_
  simp -implicitDefEqProofs (disch := first | exact dsch | fail) only [go_sem, ↓reduceIte, Nat.reduceEqDiff]
  unfold goodB
  cases g1 : internalB x fr co
  · rw [e_loop]
    simp -implicitDefEqProofs (disch := first | exact dsch | fail) only [go_sem, ↓reduceIte, Nat.reduceEqDiff, g1, Bool.false_and]
  · cases g2 : externalB x fr co
    · rw [e_loop]
      simp -implicitDefEqProofs (disch := first | exact dsch | fail) only [go_sem, ↓reduceIte, Nat.reduceEqDiff, g1]
      rw [e_loop]
      simp -implicitDefEqProofs (disch := first | exact dsch | fail) only [go_sem, ↓reduceIte, Nat.reduceEqDiff, g2, Bool.true_and, Bool.false_and]
    · cases g3 : atomicB x fr co
      · rw [e_loop]
        simp -implicitDefEqProofs (disch := first | exact dsch | fail) only [go_sem, ↓reduceIte, Nat.reduceEqDiff, g1]
        rw [e_loop]
        simp -implicitDefEqProofs (disch := first | exact dsch | fail) only [go_sem, ↓reduceIte, Nat.reduceEqDiff, g2]
        rw [e_loop]
        simp -implicitDefEqProofs (disch := first | exact dsch | fail) only [go_sem, ↓reduceIte, Nat.reduceEqDiff, g3]
      · rw [e_loop]
        simp -implicitDefEqProofs (disch := first | exact dsch | fail) only [go_sem, ↓reduceIte, Nat.reduceEqDiff, g1]
        rw [e_loop]
        simp -implicitDefEqProofs (disch := first | exact dsch | fail) only [go_sem, ↓reduceIte, Nat.reduceEqDiff, g2]
        rw [e_loop]
        simp -implicitDefEqProofs (disch := first | exact dsch | fail) only [go_sem, ↓reduceIte, Nat.reduceEqDiff, g3]
        rw [e_loop]
        simp -implicitDefEqProofs (disch := first | exact dsch | fail) only [go_sem, ↓reduceIte, Nat.reduceEqDiff]
section
variable {K : Kp}
@[go_sem] theorem pu_Wide {x : Ex} (hx : Okx x) {fr : List Int} (hf : fr.length ≤ 1000) {co : Rl} (hc : co.length = x.ev.length) : @Pu _ Tryz.prog 81 [enc x, enc fr, enc co] K = K.k (.t (enc (wideR x fr co))) := (axiom_Wide hx hf hc).pu
@[go_sem] theorem pu_Good {x : Ex} (hx : Okx x) {fr : List Int} (hf : fr.length ≤ 1000) {co : Rl} (hc : co.length = x.ev.length) : @Pu _ Tryz.prog 33 [enc x, enc fr, enc co] K = K.k (.t (.bool (goodB x fr co))) := (axiom_Good hx hf hc).pu
end
end Go.Sim
