/- A part of the proof of a law of module cupola: Flow2. It has no conditions of its own. -/
import Derived.Test.YtoaboplnnhifpaaGreatFlow
set_option linter.all false
namespace Go.Sim
open Enc (enc)
open Go.Proofs

def Rn.fails (r : Rn) (x : In) : Bool := decide (r.last < 0) || !decide ((gd r.t.ev r.last.toNat).loc = placeL r.t.regs x r.locs)
def Rn.excl (r : Rn) (x : In) : Rn :=
  if r.fails x = true then ({ r with last := -1 } : Rn).setRegs (r.t.regs.put x.d 1 0#32)
  else if r.t.lucks = r.lucks.length then { r with t := { r.t with more := 2 } }
  else if gd r.lucks r.t.lucks.toNat = false then ({ r with last := -1, t := { r.t with lucks := r.t.lucks + 1 } } : Rn).setRegs (r.t.regs.put x.d 1 0#32)
  else (({ r with last := -1, t := { r.t with lucks := r.t.lucks + 1 } } : Rn).store x r.last).setRegs ((({ r with last := -1, t := { r.t with lucks := r.t.lucks + 1 } } : Rn).store x r.last).t.regs.put x.d 0 0#32)

set_option maxRecDepth 100000 in
theorem flow_exclusive {H : Heap} {r : Rn} {n : Nat} (hR : RunAt H r) (ho : r.ok n) (x : In) :
    ∃ u H', FunH Tryz.prog 269 [.ptr 1 1 0 0, .t (enc x)] H u H' ∧ u = .tup [] ∧ RunAt H' (r.excl x) := by
  have := ho.l1; have := ho.l3; have := ho.len; have := ho.n1; have := ho.k0; have := ho.k1; have := ho.kl; have hp0 := ho.p0; have hp1 := ho.p1
  refine FunH.goX Tryz.func269 rfl rfl (by kernel_rfl) ?_
  by_cases hl : r.last < 0
  · have hf : r.fails x = true := by simp [Rn.fails, hl]
    have e : r.excl x = ({ r with last := -1 } : Rn).setRegs (r.t.regs.put x.d 1 0#32) := by unfold Rn.excl; rw [if_pos hf]
    rw [e]
    rcases hR with ⟨h0, h1, h2, h3, h4, R, rfl⟩ | ⟨n, h0, h1, h2, h3, h4, A0, B0, rfl⟩
    · simp -implicitDefEqProofs (disch := first | exact dsch | fail) only [go_sem, ↓reduceIte, Nat.reduceEqDiff, rnO, gx0, gxk, sx0, sxk, List.append_assoc, hl]
      exact ⟨rfl, .inl ⟨h0, h1, h2, h3, h4, _, rfl⟩⟩
    · simp -implicitDefEqProofs (disch := first | exact dsch | fail) only [go_sem, ↓reduceIte, Nat.reduceEqDiff, rnO, gx0, gxk, sx0, sxk, List.append_assoc, hl]
      exact ⟨rfl, .inr ⟨n, h0, h1, h2, h3, h4, A0, _, rfl⟩⟩
  rcases hR with ⟨h0, _⟩ | ⟨n, h0, h1, h2, h3, h4, A0, B0, rfl⟩
  · rw [h0] at hp1; simp at hp1; omega
  by_cases hloc : (gd r.t.ev r.last.toNat).loc = placeL r.t.regs x r.locs
  · have hf : ¬ r.fails x = true := by simp [Rn.fails, hloc]; omega
    by_cases hk : r.t.lucks = r.lucks.length
    · have e : r.excl x = { r with t := { r.t with more := 2 } } := by unfold Rn.excl; rw [if_neg hf, if_pos hk]
      rw [e]
      simp -implicitDefEqProofs (disch := first | exact dsch | fail) only [go_sem, ↓reduceIte, Nat.reduceEqDiff, rnO, gx0, gxk, sx0, sxk, List.append_assoc, hl, hloc, hk]
      exact ⟨rfl, .inr ⟨n, h0, h1, h2, h3, h4, A0, _, by rw [← hk]; rfl⟩⟩
    · cases hb : gd r.lucks r.t.lucks.toNat
      · have e : r.excl x = ({ r with last := -1, t := { r.t with lucks := r.t.lucks + 1 } } : Rn).setRegs (r.t.regs.put x.d 1 0#32) := by unfold Rn.excl; rw [if_neg hf, if_neg hk, if_pos hb]
        rw [e]
        simp -implicitDefEqProofs (disch := first | exact dsch | fail) only [go_sem, ↓reduceIte, Nat.reduceEqDiff, rnO, gx0, gxk, sx0, sxk, List.append_assoc, hl, hloc, hk, hb]
        exact ⟨rfl, .inr ⟨n, h0, h1, h2, h3, h4, A0, _, rfl⟩⟩
      · have e : r.excl x = (({ r with last := -1, t := { r.t with lucks := r.t.lucks + 1 } } : Rn).store x r.last).setRegs ((({ r with last := -1, t := { r.t with lucks := r.t.lucks + 1 } } : Rn).store x r.last).t.regs.put x.d 0 0#32) := by unfold Rn.excl; rw [if_neg hf, if_neg hk, if_neg (by rw [hb]; decide)]
        rw [e]
        obtain ⟨r1, hr1⟩ : ∃ r1, r1 = ({ r with last := -1, t := { r.t with lucks := r.t.lucks + 1 } } : Rn).store x r.last := ⟨_, rfl⟩
        rw [← hr1]
        simp -implicitDefEqProofs (disch := first | exact dsch | fail) only [go_sem, ↓reduceIte, Nat.reduceEqDiff, rnO, gx0, gxk, sx0, sxk, List.append_assoc, hl, hloc, hk, hb]
        refine F_of (flow_store (r := ({ r with last := -1, t := { r.t with lucks := r.t.lucks + 1 } } : Rn)) (n := n + 1) (.inr ⟨n, h0, h1, h2, h3, h4, A0, _, rfl⟩) ⟨ho.l1, ho.l3, ho.v0, ho.v1, by simp; omega, by simp; omega, by simp, by simp; omega, by simp; omega, by omega, ho.vl, ho.kl, ho.s0, ho.s1⟩ x r.last) rfl (by rintro _ _ ⟨rfl, _⟩; rfl) ?_
        rintro _ H' ⟨rfl, hR2, hK⟩
        have hb := hK (A0.length + (B0.length + 1 + 1 + 1 + 1 + 1) + 1 + 1) x (by simp [boxI, gxk])
        rcases hR2 with ⟨g0, _⟩ | ⟨m, g0, g1, g2, g3, g4, A, B, hH⟩
        · simp [Rn.event, Rn.store] at g0
        rw [← hr1] at g0 g1 g2 g3 g4 hH
        subst hH
        simp only [List.getElem?_cons_succ] at hb
        simp -implicitDefEqProofs (disch := first | exact dsch | fail) only [go_sem, ↓reduceIte, Nat.reduceEqDiff, rnO, gx0, gxk, sx0, sxk, List.append_assoc, hb, boxI]
        exact ⟨rfl, .inr ⟨m, g0, g1, g2, g3, g4, A, B, rfl⟩⟩
  · have hf : r.fails x = true := by simp [Rn.fails, hl, hloc]
    have e : r.excl x = ({ r with last := -1 } : Rn).setRegs (r.t.regs.put x.d 1 0#32) := by unfold Rn.excl; rw [if_pos hf]
    rw [e]
    simp -implicitDefEqProofs (disch := first | exact dsch | fail) only [go_sem, ↓reduceIte, Nat.reduceEqDiff, rnO, gx0, gxk, sx0, sxk, List.append_assoc, hl, hloc]
    exact ⟨rfl, .inr ⟨n, h0, h1, h2, h3, h4, A0, _, rfl⟩⟩

theorem RunAt.ext {H : Heap} {r : Rn} (h : RunAt H r) (X : Heap) : RunAt (H ++ X) r := by
  rcases h with ⟨h0, h1, h2, h3, h4, R, rfl⟩ | ⟨n, h0, h1, h2, h3, h4, A, B, rfl⟩
  · exact .inl ⟨h0, h1, h2, h3, h4, R ++ X, rfl⟩
  · exact .inr ⟨n, h0, h1, h2, h3, h4, A, B ++ X, by simp⟩

def doesF (x : In) : FuncId :=
  if kindI x.op = 1 then 268 else if x.op = 10 then 269 else if kindI x.op = 2 then 270 else if x.op = 11 ∨ x.op = 12 then 271 else if x.op = 13 ∨ x.op = 14 then 272 else 273
theorem flow_does {H : Heap} (x : In) : ∃ u H', FunH Tryz.prog 235 [.ptr 1 1 0 0, .t (enc x)] H u H' ∧ u = .fn (doesF x) [.ptr 1 1 0 0] [] ∧ H' = H ++ [boxI x] := by
  refine FunH.goX Tryz.func235 rfl rfl (by kernel_rfl) ?_
  unfold doesF
  by_cases c1 : kindI x.op = 1
  · rw [if_pos c1]
    simp -implicitDefEqProofs (disch := first | exact dsch | fail) only [go_sem, ↓reduceIte, Nat.reduceEqDiff, c1]
    first | exact ⟨rfl, rfl⟩ | rfl
  rw [if_neg c1]
  by_cases c2 : x.op = 10
  · rw [if_pos c2]
    simp -implicitDefEqProofs (disch := first | exact dsch | fail) only [go_sem, ↓reduceIte, Nat.reduceEqDiff, show kindI 10 = 2 from rfl, c2]
    first | exact ⟨rfl, rfl⟩ | rfl
  rw [if_neg c2]
  by_cases c3 : kindI x.op = 2
  · rw [if_pos c3]
    simp -implicitDefEqProofs (disch := first | exact dsch | fail) only [go_sem, ↓reduceIte, Nat.reduceEqDiff, c1, c2, c3]
    first | exact ⟨rfl, rfl⟩ | rfl
  rw [if_neg c3]
  by_cases c4 : x.op = 11
  · rw [if_pos (.inl c4)]
    simp -implicitDefEqProofs (disch := first | exact dsch | fail) only [go_sem, ↓reduceIte, Nat.reduceEqDiff, show kindI 11 = 0 from rfl, c4]
    first | exact ⟨rfl, rfl⟩ | rfl
  by_cases c5 : x.op = 12
  · rw [if_pos (.inr c5)]
    simp -implicitDefEqProofs (disch := first | exact dsch | fail) only [go_sem, ↓reduceIte, Nat.reduceEqDiff, show kindI 12 = 0 from rfl, c5]
    first | exact ⟨rfl, rfl⟩ | rfl
  rw [if_neg (by omega)]
  by_cases c6 : x.op = 13
  · rw [if_pos (.inl c6)]
    simp -implicitDefEqProofs (disch := first | exact dsch | fail) only [go_sem, ↓reduceIte, Nat.reduceEqDiff, show kindI 13 = 0 from rfl, c6]
    first | exact ⟨rfl, rfl⟩ | rfl
  by_cases c7 : x.op = 14
  · rw [if_pos (.inr c7)]
    simp -implicitDefEqProofs (disch := first | exact dsch | fail) only [go_sem, ↓reduceIte, Nat.reduceEqDiff, show kindI 14 = 0 from rfl, c7]
    first | exact ⟨rfl, rfl⟩ | rfl
  rw [if_neg (by omega)]
  simp -implicitDefEqProofs (disch := first | exact dsch | fail) only [go_sem, ↓reduceIte, Nat.reduceEqDiff, c1, c2, c3, c4, c5, c6, c7]
  first | exact ⟨rfl, rfl⟩ | rfl

def Rn.does (r : Rn) (x : In) : Rn :=
  if kindI x.op = 1 then r.load x else if x.op = 10 then r.excl x else if kindI x.op = 2 then r.plain x else if x.op = 11 ∨ x.op = 12 then r.fence x else if x.op = 13 ∨ x.op = 14 then r.branch x else r.alone x
theorem run_does {H : Heap} {r : Rn} {n : Nat} (hR : RunAt H r) (ho : r.ok n) (x : In) (hx : x.op = 11 → 0 ≤ x.imm ∧ x.imm ≤ 2) (hx0 : -9223372036854775808 ≤ x.op) (hx1 : x.op ≤ 9223372036854775807) :
    ∃ u H', FunH Tryz.prog (doesF x) [.ptr 1 1 0 0, .t (enc x)] H u H' ∧ u = .tup [] ∧ RunAt H' (r.does x) := by
  unfold doesF Rn.does
  split
  · exact flow_load hR ho x
  split
  · exact flow_exclusive hR ho x
  split
  · exact flow_plain hR ho x
  split
  · exact flow_fence hR ho x hx
  split
  · exact flow_branch hR ho x
  · exact flow_alone hR ho x hx0 hx1

def Rn.step (r : Rn) (x : In) : Rn := if 0 < r.skip then { r with skip := r.skip - 1 } else r.does x
def runFrom (r : Rn) : List In → Rn
  | [] => r
  | x :: xs => if r.t.more = 0 then runFrom (r.step x) xs else r

theorem ok_event {r : Rn} {n : Nat} (ho : r.ok n) (hn : n + 1 ≤ 1000) (e : Ev) (a d : U32) (p : Int) : (r.event e a d p).ok (n + 1) :=
  ⟨ho.l1, ho.l3, ho.v0, ho.v1, ho.k0, ho.k1, ho.p0, by have := ho.p1; simp [Rn.event]; omega, by have := ho.len; simp [Rn.event]; omega, hn, ho.vl, ho.kl, ho.s0, ho.s1⟩
theorem ok_more {r : Rn} {n : Nat} (ho : r.ok n) (hn : n + 1 ≤ 1000) : r.ok (n + 1) := { ho with len := by have := ho.len; omega, n1 := hn }
theorem ok_does {r : Rn} {n : Nat} (ho : r.ok n) (hn : n + 1 ≤ 1000) (x : In) (hb : x.op = 13 ∨ x.op = 14 → 0 ≤ x.imm ∧ x.imm ≤ 1000) : (r.does x).ok (n + 1) := by
  have h2 := ok_more ho hn
  unfold Rn.does
  split
  · unfold Rn.load
    split
    · exact { h2 with }
    · rename_i hv
      have h3 : ({ r with t := { r.t with vals := r.t.vals + 1 } } : Rn).ok n := { ho with v0 := by have := ho.v0; simp; omega, v1 := by have := ho.v1; simp; omega }
      have h4 := ok_event h3 hn ⟨0, 1, placeL r.t.regs x r.locs, gd r.vals r.t.vals.toNat, decide (x.op = 7), false, decide (x.op = 9)⟩ (placeD r.t.regs x) 0#32 (-1)
      unfold Rn.loaded Rn.setRegs
      split
      · exact { h4 with p0 := by simp <;> omega, p1 := by simp [Rn.event] <;> omega }
      · exact { h4 with }
  split
  · unfold Rn.excl
    split
    · exact { h2 with p0 := by simp [Rn.setRegs], p1 := by simp [Rn.setRegs]; omega }
    split
    · exact { h2 with }
    rename_i hk
    have h3 : ({ r with last := -1, t := { r.t with lucks := r.t.lucks + 1 } } : Rn).ok n := { ho with p0 := by simp, p1 := by simp; omega, k0 := by have := ho.k0; simp; omega, k1 := by have := ho.k1; simp; omega }
    split
    · have h4 := ok_more h3 hn
      exact { h4 with }
    · have h4 := ok_event h3 hn ⟨0, 2, placeL r.t.regs x r.locs, r.t.regs.gv x.b, false, decide (x.op = 8), decide (0 ≤ r.last)⟩ (placeD r.t.regs x) (r.t.regs.gp x.b) r.last
      exact { h4 with }
  split
  · exact ok_event ho hn _ _ _ _
  split
  · exact ok_event ho hn _ _ _ _
  split
  · rename_i hop
    obtain ⟨i0, i1⟩ := hb hop
    have b0 := h2.s0; have b1 := h2.s1
    refine { h2 with s0 := ?_, s1 := ?_ }
    · show 0 ≤ (if _ then x.imm else r.skip)
      split <;> omega
    · show (if _ then x.imm else r.skip) ≤ 1000
      split <;> omega
  · exact { h2 with }
theorem ok_step {r : Rn} {n : Nat} (ho : r.ok n) (hn : n + 1 ≤ 1000) (x : In) (hb : x.op = 13 ∨ x.op = 14 → 0 ≤ x.imm ∧ x.imm ≤ 1000) : (r.step x).ok (n + 1) := by
  unfold Rn.step
  split
  · have := ok_more ho hn
    have b0 := this.s0; have b1 := this.s1
    exact { this with s0 := by simp; omega, s1 := by simp; omega }
  · exact ok_does ho hn x hb

def runTr (th : List In) (locs : Int) (vals : List Int) (lucks : List Bool) : Tr :=
  if mayTh th locs = true then (runFrom ⟨zeroTr, locs, vals, lucks, 0#32, -1, 0⟩ th).t else zeroTr
theorem may_at {th : List In} {locs : Int} (h : mayTh th locs = true) : th.length ≤ 8 ∧ 1 ≤ locs ∧ locs ≤ 3 ∧ ∀ k, k < th.length → mayI (gd th k) (th.length - 1 - k) locs = true := by
  unfold mayTh at h
  simp only [Bool.and_eq_true, Bool.not_eq_true', decide_eq_true_eq] at h
  refine ⟨by omega, by omega, by omega, fun k hk => ?_⟩
  cases hm : mayI (gd th k) (th.length - 1 - k) locs
  · rw [List.any_eq_true.2 ⟨k, List.mem_range.2 hk, by simp [hm]⟩] at h; exact absurd h.1 (by decide)
  · rfl
theorem rowI_out {op : Int} (h : ¬ (0 ≤ op ∧ op < 15)) : rowI op = (⟨#[]⟩, 0) := by unfold rowI; rw [if_neg h]
theorem may_op {x : In} {b locs : Int} (h : mayI x b locs = true) : 1 ≤ x.op ∧ x.op ≤ 14 := by
  by_cases h1 : 0 ≤ x.op ∧ x.op < 15
  · by_cases h0 : x.op = 0
    · unfold mayI at h
      rw [h0] at h
      rw [show (rowI 0) = (⟨#[]⟩, 0) from rfl] at h
      rw [show andI 0 16 = 0 from by decide] at h
      simp at h
    · omega
  · unfold mayI at h
    rw [rowI_out h1] at h
    rw [show andI 0 16 = 0 from by decide] at h
    simp at h
theorem may_dmb {x : In} {b locs : Int} (h : mayI x b locs = true) (hop : x.op = 11) : 0 ≤ x.imm ∧ x.imm ≤ 2 := by
  unfold mayI at h
  rw [hop, show (rowI 11).2 = 16 from rfl, show andI 16 16 = 16 from by decide] at h
  simp only [Bool.and_eq_true] at h
  have h2 := h.2
  rw [if_neg (by decide)] at h2
  unfold immI at h2
  rw [hop] at h2
  simpa using h2

theorem may_br {x : In} {b locs : Int} (h : mayI x b locs = true) (hop : x.op = 13 ∨ x.op = 14) : 0 ≤ x.imm ∧ x.imm ≤ b := by
  unfold mayI at h
  have e : andI (rowI x.op).2 16 = 16 := by rcases hop with e | e <;> (rw [e]; decide)
  rw [e] at h
  simp only [Bool.and_eq_true] at h
  have h2 := h.2
  rw [if_neg (by decide)] at h2
  unfold immI at h2
  rw [if_neg (by omega), if_neg (by omega)] at h2
  simpa using h2

theorem enc_Tr (t : Tr) : (enc t : T) = .agg [enc t.ev, enc t.addr, enc t.data, enc t.ctrl, enc t.pair, .int .i64 t.regs.v0, .int .i64 t.regs.v1, .int .i64 t.regs.v2, .int .i64 t.regs.v3, .int .u32 (t.regs.d0.toNat : Int), .int .u32 (t.regs.d1.toNat : Int), .int .u32 (t.regs.d2.toNat : Int), .int .u32 (t.regs.d3.toNat : Int), .int .i64 t.vals, .int .i64 t.lucks, .int .i64 t.more] := rfl
set_option maxRecDepth 100000 in
theorem flow_Run (th : List In) (locs : Int) (vals : List Int) (lucks : List Bool) (hl : th.length ≤ 1000000) (hl2 : locs ≤ 1000000) (hv : vals.length ≤ 1000000) (hk : lucks.length ≤ 1000000) :
    Fun Tryz.prog 172 [enc th, .int .i64 locs, enc vals, enc lucks] (.t (enc (runTr th locs vals lucks))) := by
  refine Fun.go (b := false) Tryz.func172 rfl rfl (by kernel_rfl) (by kernel_rfl) ?_
  unfold runTr
  cases hm : mayTh th locs with
  | false =>
    rw [if_neg (by decide)]
    simp -implicitDefEqProofs (disch := first | exact dsch | fail) only [go_sem, ↓reduceIte, Nat.reduceEqDiff, hm]
    rfl
  | true =>
    rw [if_pos rfl]
    obtain ⟨m1, m2, m3, m4⟩ := may_at hm
    simp -implicitDefEqProofs (disch := first | exact dsch | fail) only [go_sem, ↓reduceIte, Nat.reduceEqDiff, hm]
    refine loop_k (n := th.length) [0, 8, 9] (by kernel_rfl) (fun i e H => e 10 = .t (.int .i64 i) ∧ ∃ r : Rn, RunAt H r ∧ r.ok i ∧ runFrom r (th.drop i) = runFrom ⟨zeroTr, locs, vals, lucks, 0#32, -1, 0⟩ th) ?_ ?_
    · rintro i e H hi hk2 ⟨hc, r, hR, ho, hrun⟩
      simp only [keepP, go_sem, ↓reduceIte, Nat.reduceEqDiff, and_true] at hk2
      by_cases hlt : i < th.length
      · rw [List.drop_eq_getElem_cons hlt, gd_get hlt] at hrun
        by_cases hmore : r.t.more = 0
        · rw [runFrom, if_pos hmore] at hrun
          by_cases hs : 0 < r.skip
          · have hstep : r.step (gd th i) = { r with skip := r.skip - 1 } := by unfold Rn.step; rw [if_pos hs]
            have hok := ok_step ho (by omega) (gd th i) (fun hop => by have := may_br (m4 i hlt) hop; omega)
            rw [hstep] at hrun hok
            have b0 := ho.s0; have b1 := ho.s1
            have hm0 : decide (r.t.more = 0) = true := by simp [hmore]
            rcases hR with ⟨h0, h1, h2, h3, h4, R, rfl⟩ | ⟨n, h0, h1, h2, h3, h4, A, B, rfl⟩
            · simp -implicitDefEqProofs (disch := first | exact dsch | fail) only [go_sem, ↓reduceIte, Nat.reduceEqDiff, hk2, hc, rnO, gx0, gxk, sx0, sxk, List.append_assoc, hs, hm0]
              exact ⟨hlt, { r with skip := r.skip - 1 }, .inl ⟨h0, h1, h2, h3, h4, _, rfl⟩, hok, hrun⟩
            · simp -implicitDefEqProofs (disch := first | exact dsch | fail) only [go_sem, ↓reduceIte, Nat.reduceEqDiff, hk2, hc, rnO, gx0, gxk, sx0, sxk, List.append_assoc, hs, hm0]
              exact ⟨hlt, { r with skip := r.skip - 1 }, .inr ⟨n, h0, h1, h2, h3, h4, A, B, rfl⟩, hok, hrun⟩
          · have hstep : r.step (gd th i) = r.does (gd th i) := by unfold Rn.step; rw [if_neg hs]
            have hok := ok_step ho (by omega) (gd th i) (fun hop => by have := may_br (m4 i hlt) hop; omega)
            rw [hstep] at hrun hok
            have hm0 : decide (r.t.more = 0) = true := by simp [hmore]
            have o1 := may_op (m4 i hlt)
            rcases hR with ⟨h0, h1, h2, h3, h4, R, rfl⟩ | ⟨n, h0, h1, h2, h3, h4, A, B, rfl⟩
            · simp -implicitDefEqProofs (disch := first | exact dsch | fail) only [go_sem, ↓reduceIte, Nat.reduceEqDiff, hk2, hc, rnO, gx0, gxk, sx0, sxk, List.append_assoc, hs, hm0]
              refine F_of (flow_does (gd th i)) rfl (by rintro _ _ ⟨rfl, _⟩; rfl) ?_
              rintro _ H' ⟨rfl, rfl⟩
              simp -implicitDefEqProofs (disch := first | exact dsch | fail) only [go_sem, ↓reduceIte, Nat.reduceEqDiff, hk2, hc, rnO, gx0, gxk, sx0, sxk, List.append_assoc, hs, hm0]
              refine F_of (run_does (r := r) (n := i) (.inl ⟨h0, h1, h2, h3, h4, R ++ [boxI (gd th i)], rfl⟩) ho (gd th i) (may_dmb (m4 i hlt)) (by omega) (by omega)) rfl (by rintro _ _ ⟨rfl, _⟩; rfl) ?_
              rintro _ H' ⟨rfl, hR2⟩
              simp -implicitDefEqProofs (disch := first | exact dsch | fail) only [go_sem, ↓reduceIte, Nat.reduceEqDiff, hk2, hc]
              exact ⟨hlt, _, hR2, hok, hrun⟩
            · simp -implicitDefEqProofs (disch := first | exact dsch | fail) only [go_sem, ↓reduceIte, Nat.reduceEqDiff, hk2, hc, rnO, gx0, gxk, sx0, sxk, List.append_assoc, hs, hm0]
              refine F_of (flow_does (gd th i)) rfl (by rintro _ _ ⟨rfl, _⟩; rfl) ?_
              rintro _ H' ⟨rfl, rfl⟩
              simp -implicitDefEqProofs (disch := first | exact dsch | fail) only [go_sem, ↓reduceIte, Nat.reduceEqDiff, hk2, hc, rnO, gx0, gxk, sx0, sxk, List.append_assoc, hs, hm0]
              refine F_of (run_does (r := r) (n := i) (.inr ⟨n, h0, h1, h2, h3, h4, A, B ++ [boxI (gd th i)], rfl⟩) ho (gd th i) (may_dmb (m4 i hlt)) (by omega) (by omega)) rfl (by rintro _ _ ⟨rfl, _⟩; rfl) ?_
              rintro _ H' ⟨rfl, hR2⟩
              simp -implicitDefEqProofs (disch := first | exact dsch | fail) only [go_sem, ↓reduceIte, Nat.reduceEqDiff, hk2, hc]
              exact ⟨hlt, _, hR2, hok, hrun⟩
        · rw [runFrom, if_neg hmore] at hrun
          rw [← hrun]
          rcases hR with ⟨h0, h1, h2, h3, h4, R, rfl⟩ | ⟨n, h0, h1, h2, h3, h4, A, B, rfl⟩
          · simp -implicitDefEqProofs (disch := first | exact dsch | fail) only [go_sem, ↓reduceIte, Nat.reduceEqDiff, hk2, hc, rnO, gx0, gxk, sx0, sxk, List.append_assoc, hmore, retO]
            rw [enc_Tr, h0, h1, h2, h3, h4]; rfl
          · simp -implicitDefEqProofs (disch := first | exact dsch | fail) only [go_sem, ↓reduceIte, Nat.reduceEqDiff, hk2, hc, rnO, gx0, gxk, sx0, sxk, List.append_assoc, hmore, retO, h0, h1, h2, h3, h4]
            rfl
      · obtain rfl : i = th.length := by omega
        rw [List.drop_length, runFrom] at hrun
        rw [← hrun]
        rcases hR with ⟨h0, h1, h2, h3, h4, R, rfl⟩ | ⟨n, h0, h1, h2, h3, h4, A, B, rfl⟩
        · simp -implicitDefEqProofs (disch := first | exact dsch | fail) only [go_sem, ↓reduceIte, Nat.reduceEqDiff, hk2, hc, rnO, gx0, gxk, sx0, sxk, List.append_assoc, hlt, retO]
          rw [enc_Tr, h0, h1, h2, h3, h4]; rfl
        · simp -implicitDefEqProofs (disch := first | exact dsch | fail) only [go_sem, ↓reduceIte, Nat.reduceEqDiff, hk2, hc, rnO, gx0, gxk, sx0, sxk, List.append_assoc, hlt, retO, h0, h1, h2, h3, h4]
          rfl
    · simp -implicitDefEqProofs (disch := first | exact dsch | fail) only [go_sem, ↓reduceIte, Nat.reduceEqDiff]
      refine ⟨⟨zeroTr, locs, vals, lucks, 0#32, -1, 0⟩, .inl ⟨rfl, rfl, rfl, rfl, rfl, [], rfl⟩, ⟨m2, m3, by simp [zeroTr], by simp [zeroTr], by simp [zeroTr], by simp [zeroTr], by simp, by simp [zeroTr], by simp [zeroTr], by omega, hv, hk, by simp, by simp⟩, ?_⟩
      rfl
@[go_sem] theorem pu_Run {th : List In} {locs : Int} {vals : List Int} {lucks : List Bool} (hl : th.length ≤ 1000000) (hl2 : locs ≤ 1000000) (hv : vals.length ≤ 1000000) (hk : lucks.length ≤ 1000000) {K : Kp} :
    @Pu _ Tryz.prog 172 [enc th, .int .i64 locs, enc vals, enc lucks] K = K.k (.t (enc (runTr th locs vals lucks))) := (flow_Run th locs vals lucks hl hl2 hv hk).pu
end Go.Sim
