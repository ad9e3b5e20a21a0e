/- A part of the proof of a law of module cupola: Exec2. It has no conditions of its own. -/
import Derived.Test.YtoaboplnnhifpaaGreatValsB
import Derived.Test.YtoaboplnnhifpaaGreatExec
set_option linter.all false
namespace Go.Sim
open Enc (enc)
open Go.Proofs

structure FineT (t : Tr) : Prop where
  addr : t.addr.length = t.ev.length
  data : t.data.length = t.ev.length
  ctrl : t.ctrl.length = t.ev.length
  pair : t.pair.length = t.ev.length
  len : t.ev.length ≤ 8
  bits : ∀ i, i < t.ev.length → (gd t.addr i ||| gd t.data i ||| gd t.ctrl i) >>> i = 0#32
  prs : ∀ i, i < t.ev.length → gd t.pair i < i
theorem exec_fine (t : Tr) (h : FineT t) : Fun Tryz.prog 183 [enc t] (.t (.bool true)) := by
  obtain ⟨e1, e2, e3, e4, h0, hb, hp⟩ := h
  refine Fun.go (b := false) Tryz.func183 rfl rfl (by kernel_rfl) (by kernel_rfl) ?_
  simp -implicitDefEqProofs (disch := first | exact dsch | fail) only [go_sem, ↓reduceIte, Nat.reduceEqDiff, e1, e2, e3, e4]
  refine loop_k (n := t.ev.length) [1, 34] (by kernel_rfl) (fun i e H => e 35 = .t (.int .i64 i) ∧ H = [⟨[.t (enc t)], 16, false⟩]) ?_ ?_
  · rintro i e H hi hk ⟨hc, rfl⟩
    simp only [keepP, go_sem, ↓reduceIte, Nat.reduceEqDiff, and_true] at hk
    by_cases hlt : i < t.ev.length
    · have b1 := hb i hlt
      have p1 := hp i hlt
      simp -implicitDefEqProofs (disch := first | exact dsch | fail) only [go_sem, ↓reduceIte, Nat.reduceEqDiff, hk, hc, b1]
      exact hlt
    · obtain rfl : i = t.ev.length := by omega
      simp -implicitDefEqProofs (disch := first | exact dsch | fail) only [go_sem, ↓reduceIte, Nat.reduceEqDiff, hk, hc]
  · simp -implicitDefEqProofs (disch := first | exact dsch | fail) only [go_sem, ↓reduceIte, Nat.reduceEqDiff]
theorem pu_fine {t : Tr} (h : FineT t) {K : Kp} : @Pu _ Tryz.prog 183 [enc t] K = K.k (.t (.bool true)) := (exec_fine t h).pu

def leadP (p : Nat → Nat → Bool) (behind : Nat) (bits : U32) (to k : Nat) : Nat → Nat → Bool := fun i j => p i j || (decide (j = to) && (decide (behind ≤ i) && (decide (i < behind + k) && bits.getLsbD (i - behind))))
theorem leadP_0 (p behind bits to) : leadP p behind bits to 0 = p := by
  funext i j
  unfold leadP
  have : (decide (behind ≤ i) && (decide (i < behind + 0) && bits.getLsbD (i - behind))) = false := by
    by_cases h : behind ≤ i
    · have : ¬ i < behind := by omega
      simp [this]
    · simp [h]
  rw [this]; simp
theorem leadP_step {n : Nat} (hn : n ≤ 32) (p : Nat → Nat → Bool) (behind : Nat) (bits : U32) (to k : Nat) : mk n (leadP p behind bits to (k + 1)) = if bits.getLsbD k then putR (mk n (leadP p behind bits to k)) (behind + k : Nat) (to : Nat) else mk n (leadP p behind bits to k) := by
  split
  · rename_i hb
    rw [putR_mk hn]
    apply mk_ext
    intro i j _ _
    unfold leadP
    by_cases e : i = behind + k
    · subst e
      have : behind + k - behind = k := by omega
      simp [this, hb]
    · have : decide (i < behind + (k + 1)) = decide (i < behind + k) := by rw [decide_eq_decide]; omega
      simp [this, e]
  · rename_i hb
    apply mk_ext
    intro i j _ _
    unfold leadP
    by_cases e : i = behind + k
    · subst e
      have : behind + k - behind = k := by omega
      simp [this, hb]
    · have : decide (i < behind + (k + 1)) = decide (i < behind + k) := by rw [decide_eq_decide]; omega
      simp [this]
theorem exec_lead {n : Nat} (hn : n ≤ 32) (p : Nat → Nat → Bool) (behind : Nat) (bits : U32) (to : Nat) (hto : to < n) (hb : behind ≤ to) : Fun Tryz.prog 237 [enc (mk n p), .int .i64 behind, .int .u32 (bits.toNat : Int), .int .i64 to] (.t (enc (mk n (leadP p behind bits to (to - behind))))) := by
  refine Fun.go (b := false) Tryz.func237 rfl rfl (by kernel_rfl) (by kernel_rfl) ?_
  simp -implicitDefEqProofs (disch := first | exact dsch | fail) only [go_sem, ↓reduceIte, Nat.reduceEqDiff]
  refine loop_k (n := to - behind) [1, 2, 3, 8, 12] (by kernel_rfl) (fun i e H => e 13 = .t (.int .i64 i) ∧ e 0 = .t (enc (mk n (leadP p behind bits to i))) ∧ H = []) ?_ ?_
  · rintro i e H hi hk ⟨hc, h0, rfl⟩
    simp only [keepP, go_sem, ↓reduceIte, Nat.reduceEqDiff, and_true] at hk
    by_cases hlt : i < to - behind
    · have hst := leadP_step hn p behind bits to i
      cases hbit : bits.getLsbD i
      · rw [hbit, if_neg (by decide)] at hst
        simp -implicitDefEqProofs (disch := first | exact dsch | fail) only [go_sem, ↓reduceIte, Nat.reduceEqDiff, hk, hc, h0, hbit]
        exact ⟨hlt, by rw [hst]⟩
      · rw [hbit, if_pos rfl] at hst
        simp -implicitDefEqProofs (disch := first | exact dsch | fail) only [go_sem, ↓reduceIte, Nat.reduceEqDiff, hk, hc, h0, hbit]
        exact ⟨hlt, by rw [hst]; rfl⟩
    · obtain rfl : i = to - behind := by omega
      simp -implicitDefEqProofs (disch := first | exact dsch | fail) only [go_sem, ↓reduceIte, Nat.reduceEqDiff, hk, hc, h0]
  · simp -implicitDefEqProofs (disch := first | exact dsch | fail) only [go_sem, ↓reduceIte, Nat.reduceEqDiff, leadP_0]
theorem pu_lead {n : Nat} (hn : n ≤ 32) {p : Nat → Nat → Bool} {behind : Nat} {bits : U32} {to : Nat} (hto : to < n) (hb : behind ≤ to) {K : Kp} : @Pu _ Tryz.prog 237 [enc (mk n p), .int .i64 behind, .int .u32 (bits.toNat : Int), .int .i64 to] K = K.k (.t (enc (mk n (leadP p behind bits to (to - behind))))) := (exec_lead hn p behind bits to hto hb).pu

structure ExP where
  ev : List Ev
  pp : Nat → Nat → Bool
  pa : Nat → Nat → Bool
  pd : Nat → Nat → Bool
  pc : Nat → Nat → Bool
  pr : Nat → Nat → Bool
  regs : List (List Int)
def ExP.ex (n : Nat) (x : ExP) : Ex := ⟨x.ev, Go.Sim.mk n x.pp, Go.Sim.mk n x.pa, Go.Sim.mk n x.pd, Go.Sim.mk n x.pc, Go.Sim.mk n x.pr, x.regs⟩
def bitsP (b k : Nat) (l : List U32) (i j : Nat) : Bool := decide (b ≤ i) && (decide (i < j) && (decide (j < b + k) && (gd l (j - b)).getLsbD (i - b)))
def addTo (x : ExP) (th : Int) (t : Tr) (k : Nat) : ExP where
  ev := x.ev ++ (t.ev.take k).map fun e => { e with thread := th }
  pp := fun i j => x.pp i j || (decide (x.ev.length ≤ i) && (decide (i < j) && decide (j < x.ev.length + k)))
  pa := fun i j => x.pa i j || bitsP x.ev.length k t.addr i j
  pd := fun i j => x.pd i j || bitsP x.ev.length k t.data i j
  pc := fun i j => x.pc i j || bitsP x.ev.length k t.ctrl i j
  pr := fun i j => x.pr i j || (decide (x.ev.length ≤ i) && (decide (x.ev.length ≤ j) && (decide (j < x.ev.length + k) && decide (gd t.pair (j - x.ev.length) = ((i - x.ev.length : Nat) : Int)))))
  regs := x.regs
def flV (f : Fl) : List Int := [f.v0, f.v1, f.v2, f.v3]
def addP (x : ExP) (th : Int) (t : Tr) : ExP := { addTo x th t t.ev.length with regs := x.regs ++ [flV t.regs] }

theorem addTo_0 (x : ExP) (th : Int) (t : Tr) : addTo x th t 0 = x := by
  unfold addTo
  have h1 : (fun i j => x.pp i j || (decide (x.ev.length ≤ i) && (decide (i < j) && decide (j < x.ev.length + 0)))) = x.pp := by
    funext i j
    by_cases h : x.ev.length ≤ i <;> by_cases h2 : i < j <;> simp [h, h2]; omega
  have h2 : ∀ (p : Nat → Nat → Bool) l, (fun i j => p i j || bitsP x.ev.length 0 l i j) = p := by
    intro p l
    funext i j
    unfold bitsP
    by_cases h : x.ev.length ≤ i <;> by_cases h2 : i < j <;> simp [h, h2]; omega
  have h3 : (fun i j => x.pr i j || (decide (x.ev.length ≤ i) && (decide (x.ev.length ≤ j) && (decide (j < x.ev.length + 0) && decide (gd t.pair (j - x.ev.length) = ((i - x.ev.length : Nat) : Int)))))) = x.pr := by
    funext i j
    by_cases h : x.ev.length ≤ j <;> simp [h]; omega
  rw [h1, h2, h2, h2, h3]
  simp
theorem ones_eq {k : Nat} (hk : k < 32) : (1#32 <<< k) - 1#32 = allB k := by
  have h1 : (2 : Nat) ^ k < 2 ^ 32 := Nat.pow_lt_pow_right (by omega) hk
  have h0 : 0 < (2 : Nat) ^ k := Nat.pow_pos (by omega)
  apply BitVec.eq_of_toNat_eq
  unfold allB
  rw [BitVec.toNat_sub, BitVec.toNat_shiftLeft, BitVec.toNat_ofNat, Nat.shiftLeft_eq]
  simp only [BitVec.toNat_ofNat]
  rw [show 1 % 2 ^ 32 = 1 from rfl, Nat.one_mul, Nat.mod_eq_of_lt h1, Nat.mod_eq_of_lt (a := 2 ^ k - 1) (by omega)]
  omega
theorem add_pp {n : Nat} (x : ExP) (th : Int) (t : Tr) {k : Nat} (hk : k < 32) : mk n (addTo x th t (k + 1)).pp = mk n (leadP (addTo x th t k).pp x.ev.length ((1#32 <<< k) - 1#32) (x.ev.length + k) k) := by
  rw [ones_eq hk]
  apply mk_ext
  intro i j _ _
  unfold leadP addTo
  simp only
  rw [allB_get (by omega)]
  generalize x.ev.length = b
  by_cases h : b ≤ i
  · by_cases e : j = b + k
    · subst e
      have h3 : ¬ (b + k < b + k) := by omega
      by_cases h2 : i < b + k
      · have : i - b < k := by omega
        simp [h, h2, this]
      · simp [h2]
    · have h1 : decide (j < b + (k + 1)) = decide (j < b + k) := by rw [decide_eq_decide]; omega
      simp [h, e, h1]
  · simp [h]
theorem add_bits {n : Nat} (p : Nat → Nat → Bool) (b k : Nat) (l : List U32) : mk n (fun i j => p i j || bitsP b (k + 1) l i j) = mk n (leadP (fun i j => p i j || bitsP b k l i j) b (gd l k) (b + k) k) := by
  apply mk_ext
  intro i j _ _
  unfold leadP bitsP
  by_cases h : b ≤ i
  · by_cases e : j = b + k
    · subst e
      have h1 : b + k - b = k := by omega
      have h3 : ¬ (b + k < b + k) := by omega
      by_cases h2 : i < b + k <;> simp [h, h1, h2, h3]
    · have h1 : decide (j < b + (k + 1)) = decide (j < b + k) := by rw [decide_eq_decide]; omega
      simp [h, e, h1]
  · simp [h]
theorem add_pr_no {n : Nat} {x : ExP} {th : Int} {t : Tr} {k : Nat} (h : gd t.pair k < 0) : mk n (addTo x th t (k + 1)).pr = mk n (addTo x th t k).pr := by
  apply mk_ext
  intro i j _ _
  unfold addTo
  simp only
  generalize x.ev.length = b
  by_cases e : j = b + k
  · subst e
    have h1 : b + k - b = k := by omega
    have h2 : ¬ gd t.pair k = ((i - b : Nat) : Int) := by omega
    have h3 : ¬ (b + k < b + k) := by omega
    simp [h1, h2, h3]
  · have h1 : decide (j < b + (k + 1)) = decide (j < b + k) := by rw [decide_eq_decide]; omega
    rw [h1]
theorem add_pr_yes {n : Nat} (hn : n ≤ 32) {x : ExP} {th : Int} {t : Tr} {k : Nat} (h : 0 ≤ gd t.pair k) : mk n (addTo x th t (k + 1)).pr = putR (mk n (addTo x th t k).pr) (x.ev.length + gd t.pair k) ((x.ev.length + k : Nat) : Int) := by
  unfold putR
  rw [mk_len]
  apply mk_ext
  intro i j hi hj
  rw [has_mk' hn hi hj]
  unfold addTo
  simp only [Int.natCast_inj]
  generalize x.ev.length = b
  by_cases e : j = b + k
  · subst e
    have h1 : b + k - b = k := by omega
    have h3 : ¬ (b + k < b + k) := by omega
    have h4 : (decide (b ≤ i) && decide (gd t.pair k = ((i - b : Nat) : Int))) = decide ((i : Int) = b + gd t.pair k) := by
      by_cases h5 : b ≤ i
      · by_cases h6 : gd t.pair k = ((i - b : Nat) : Int)
        · have : (i : Int) = b + gd t.pair k := by omega
          simp [h5, h6]; omega
        · have : ¬ (i : Int) = b + gd t.pair k := by omega
          simp [h6, this]
      · have : ¬ (i : Int) = b + gd t.pair k := by omega
        simp [h5, this]
    have h7 : b ≤ b + k := by omega
    have h8 : b + k < b + (k + 1) := by omega
    rw [h1, decide_eq_true h7, decide_eq_true h8, decide_eq_false h3]
    simp only [Bool.true_and, Bool.false_and, Bool.and_false, Bool.or_false, decide_true, Bool.and_true]
    rw [h4]
  · have h1 : decide (j < b + (k + 1)) = decide (j < b + k) := by rw [decide_eq_decide]; omega
    simp [e, h1]

def hst : V → Bool → Bool
  | .t _, st => st
  | _, _ => true
def RelV (A : Heap) (n : Nat) (v : V) (r : Rl) : Prop := v = .t (enc r) ∨ (v = .ref A.length n ∧ r = noneR n)
theorem RelV.toT {A : Heap} {n : Nat} {v : V} {r : Rl} (h : RelV A n v r) (st : Bool) (o : Obj) (R : Heap) : Sim.toT (A ++ ⟨vs (noneR n), 1, st⟩ :: o :: R) depth v = some (enc r) := by
  rcases h with rfl | ⟨rfl, rfl⟩
  · rw [toT_t]
  · rw [toT_ref', cur_some (o := ⟨vs (noneR n), 1, st⟩) (by rw [gx0]; rfl) (by rw [vs_len, noneR_len]), Option.bind_some, toTo_vs]
theorem RelV.hold {A : Heap} {n : Nat} {v : V} {r : Rl} (h : RelV A n v r) (st : Bool) (o : Obj) (R : Heap) : Sim.hold depth (A ++ ⟨vs (noneR n), 1, st⟩ :: o :: R) v = A ++ ⟨vs (noneR n), 1, hst v st⟩ :: o :: R := by
  rcases h with rfl | ⟨rfl, rfl⟩
  · rw [hold_t]; rfl
  · rw [hold_ref', cur_some (o := ⟨vs (noneR n), 1, st⟩) (by rw [gx0]; rfl) (by rw [vs_len, noneR_len]), Option.map_some, Option.getD_some, holdo_vs, sx0]; rfl
def LAt {α : Type} [Enc α] (A R : Heap) (v : V) (l : List α) (sz : Nat) : Prop := (v = .ex [] ∧ l = []) ∨ ∃ m, v = .ref (A.length + (m + 1 + 1)) l.length ∧ R[m]? = some ⟨vs l, sz, false⟩
theorem LAt.keep {α : Type} [Enc α] {A R R' : Heap} {v : V} {l : List α} {sz : Nat} (h : LAt A R v l sz) (k : ∀ (q : Nat) (o : Obj), R[q]? = some o → o.esz = sz → R'[q]? = some o) : LAt A R' v l sz := by
  rcases h with h | ⟨m, h1, h2⟩
  · exact .inl h
  · exact .inr ⟨m, h1, k m _ h2 rfl⟩
def ExAt (H A : Heap) (n : Nat) (x : ExP) : Prop :=
  ∃ st ce cp ca cd cc cr cg R, H = A ++ ⟨vs (noneR n), 1, st⟩ :: ⟨[.agg [ce, cp, ca, cd, cc, cr, cg]], 7, false⟩ :: R ∧ LAt A R ce x.ev 7 ∧ RelV A n cp (mk n x.pp) ∧ RelV A n ca (mk n x.pa) ∧ RelV A n cd (mk n x.pd) ∧ RelV A n cc (mk n x.pc) ∧ RelV A n cr (mk n x.pr) ∧ LAt A R cg x.regs 1

theorem addTo_ev {x : ExP} {th : Int} {t : Tr} {k : Nat} (h : k < t.ev.length) : (addTo x th t (k + 1)).ev = (addTo x th t k).ev ++ [{ gd t.ev k with thread := th }] := by
  unfold addTo
  simp only
  rw [← take_gd h, List.map_append, ← List.append_assoc]; rfl

def AddInv (A : Heap) (n : Nat) (t : Tr) (q : Nat) (y : ExP) (H : Heap) : Prop :=
  ∃ st ce cp ca cd cc cr cg R, H = A ++ ⟨vs (noneR n), 1, st⟩ :: ⟨[.agg [ce, cp, ca, cd, cc, cr, cg]], 7, false⟩ :: R ∧ LAt A R ce y.ev 7 ∧ RelV A n cp (mk n y.pp) ∧ RelV A n ca (mk n y.pa) ∧ RelV A n cd (mk n y.pd) ∧ RelV A n cc (mk n y.pc) ∧ RelV A n cr (mk n y.pr) ∧ LAt A R cg y.regs 1 ∧ R[q]? = some ⟨[.t (enc t)], 16, false⟩
theorem LAt.ext {α : Type} [Enc α] {A R : Heap} {v : V} {l : List α} {sz : Nat} (h : LAt A R v l sz) (X : Heap) : LAt A (R ++ X) v l sz := h.keep fun _ _ h _ => at_all h X
theorem LAt.set {α : Type} [Enc α] {A R : Heap} {v : V} {l : List α} {sz : Nat} (h : LAt A R v l sz) {m : Nat} {o o' : Obj} (hm : R[m]? = some o) (ho : o.esz ≠ sz) : LAt A (R.set m o') v l sz := h.keep fun q o1 h1 h2 => by
  have : m ≠ q := fun e => by subst e; rw [hm] at h1; cases h1; exact ho h2
  rw [List.getElem?_set_ne this]; exact h1

theorem fresh4 (H : Heap) (a b c d : Int) : importV H (freshL [a, b, c, d]) = (.ref H.length 4, H ++ [⟨vs [a, b, c, d], 1, false⟩]) := import_fresh H [a, b, c, d] rfl
set_option maxRecDepth 100000 in
theorem exec_add {A H : Heap} {n : Nat} {x : ExP} {th : Int} {t : Tr} (hn : n ≤ 24) (hX : ExAt H A n x) (hf : FineT t) (hb : x.ev.length + t.ev.length ≤ n) (hr : x.regs.length ≤ 1000) :
    ∃ u H', FunH Tryz.prog 184 [.ptr (A.length + 1) 1 0 0, .t (.int .i64 th), .t (enc t)] H u H' ∧ u = .tup [] ∧ ExAt H' A n (addP x th t) := by
  refine FunH.goX Tryz.func184 rfl rfl (by kernel_rfl) ?_
  have hf8 := hf.len
  have l1 := hf.addr; have l2 := hf.data; have l3 := hf.ctrl; have l4 := hf.pair
  refine (?main : (∀ (e : Env) (H : Heap), (∃ q, e 0 = .ptr (A.length + 1) 1 0 0 ∧ e 1 = .t (.int .i64 th) ∧ e 5 = .ptr (A.length + (q + 1 + 1)) 1 0 0 ∧ e 6 = .t (.int .i64 x.ev.length) ∧ e 16 = .t (enc t.ev) ∧ e 17 = .t (.int .i64 t.ev.length) ∧ e 18 = .t (.int .i64 0) ∧ AddInv A n t q x H) → @C _ Tryz.prog ?c e H ?Q) → _) ?loop
  case main =>
    intro hmain
    obtain ⟨st, ce, cp, ca, cd, cc, cr, cg, R, rfl, hE, hP, hA, hD, hC, hM, hG⟩ := hX
    have hE' := hE
    rcases hE with ⟨rfl, hE⟩ | ⟨m, rfl, hE⟩
    · have e0 : x.ev.length = 0 := by rw [hE]; rfl
      simp -implicitDefEqProofs (disch := first | exact dsch | fail) only [go_sem, ↓reduceIte, Nat.reduceEqDiff, gx0, gxk, sx0, sxk, List.append_assoc]
      refine hmain _ _ ?_
      simp -implicitDefEqProofs (disch := first | exact dsch | fail) only [go_sem, ↓reduceIte, Nat.reduceEqDiff]
      exact ⟨R.length, rfl, by rw [e0]; rfl, st, _, cp, ca, cd, cc, cr, cg, _, rfl, hE'.ext _, hP, hA, hD, hC, hM, hG.ext _, by simp⟩
    · simp -implicitDefEqProofs (disch := first | exact dsch | fail) only [go_sem, ↓reduceIte, Nat.reduceEqDiff, gx0, gxk, sx0, sxk, List.append_assoc, hE, at_all hE]
      refine hmain _ _ ?_
      simp -implicitDefEqProofs (disch := first | exact dsch | fail) only [go_sem, ↓reduceIte, Nat.reduceEqDiff]
      exact ⟨R.length, rfl, st, _, cp, ca, cd, cc, cr, cg, _, rfl, hE'.ext _, hP, hA, hD, hC, hM, hG.ext _, by simp⟩
  case loop =>
    rintro e H ⟨q, v0, v1, v5, v6, v16, v17, v18, hI⟩
    refine loop_k (n := t.ev.length) [0, 1, 5, 6, 16, 17] (by kernel_rfl) (fun i e H => e 18 = .t (.int .i64 i) ∧ AddInv A n t q (addTo x th t i) H) ?_ ?_
    · rintro i e2 H2 hi hk2 ⟨hct, st, ce, cp, ca, cd, cc, cr, cg, R, rfl, hE, hP, hA, hD, hC, hM, hG, hq⟩
      simp only [keepP, go_sem, ↓reduceIte, Nat.reduceEqDiff, and_true] at hk2
      have hce : ∀ l, allT (ce :: l) = none := by
        intro l
        rcases hE with ⟨rfl, _⟩ | ⟨_, rfl, _⟩ <;> rfl
      by_cases hlt : i < t.ev.length
      · have hev := addTo_ev (x := x) (th := th) hlt
        have hle : (addTo x th t i).ev.length = x.ev.length + i := by simp [addTo]; omega
        have p1 := hf.prs i hlt
        have hlead : ∀ (p : Nat → Nat → Bool) (bits : U32) (K : Kp), @Pu _ Tryz.prog 237 [enc (mk n p), .int .i64 x.ev.length, .int .u32 (bits.toNat : Int), .int .i64 ((x.ev.length : Int) + i)] K = K.k (.t (enc (mk n (leadP p x.ev.length bits (x.ev.length + i) i)))) := by
          intro p bits K
          have := pu_lead (n := n) (by omega) (p := p) (behind := x.ev.length) (bits := bits) (to := x.ev.length + i) (by omega) (by omega) (K := K)
          rw [show x.ev.length + i - x.ev.length = i by omega] at this
          exact this
        have hput : ∀ (p : Nat → Nat → Bool) (a b : Int) (K : Kp), @Pu _ Tryz.prog 139 [enc (mk n p), .int .i64 a, .int .i64 b] K = K.k (.t (enc (putR (mk n p) a b))) := fun p a b K => (rel_Put (mk n p) (by rw [mk_len]; omega) a b).pu
        have tP := hP.toT; have tA := hA.toT; have tD := hD.toT; have tC := hC.toT; have tM := hM.toT
        have oP := hP.hold; have oA := hA.hold; have oD := hD.hold; have oC := hC.hold; have oM := hM.hold
        have fP := add_pp (n := n) x th t (k := i) (by omega)
        have fA := add_bits (n := n) x.pa x.ev.length i t.addr
        have fD := add_bits (n := n) x.pd x.ev.length i t.data
        have fC := add_bits (n := n) x.pc x.ev.length i t.ctrl
        by_cases hp0 : 0 ≤ gd t.pair i
        · have fM := add_pr_yes (n := n) (by omega) (x := x) (th := th) (t := t) (k := i) hp0
          have gM : mk n (addTo x th t (i + 1)).pr = putR (mk n (addTo x th t i).pr) (x.ev.length + gd t.pair i) ((x.ev.length : Int) + i) := fM
          rcases hE with ⟨rfl, hE⟩ | ⟨m, rfl, hE⟩
          · simp -implicitDefEqProofs (disch := first | exact dsch | (simp only [go_sem, hk2, hct, v0, v1, v5, v6, v16, v17, gx0, gxk, sx0, sxk, List.append_assoc, gxL0, gxLk, sxL0, sxLk, hq, at_all hq, hce, hlead, hput, tP, tA, tD, tC, tM, oP, oA, oD, oC, oM, hp0, l1, l2, l3, l4]; omega) | (refine of_eq_true ?_; simp (disch := first | omega | (refine of_eq_true ?_; simp only [go_sem, hk2, hct, v0, v1, v5, v6, v16, v17, gx0, gxk, sx0, sxk, List.append_assoc, gxL0, gxLk, sxL0, sxLk, hq, at_all hq, hce, hlead, hput, tP, tA, tD, tC, tM, oP, oA, oD, oC, oM, hp0, l1, l2, l3, l4]; done) | (simp only [go_sem, hk2, hct, v0, v1, v5, v6, v16, v17, gx0, gxk, sx0, sxk, List.append_assoc, gxL0, gxLk, sxL0, sxLk, hq, at_all hq, hce, hlead, hput, tP, tA, tD, tC, tM, oP, oA, oD, oC, oM, hp0, l1, l2, l3, l4]; omega)) only [go_sem, hk2, hct, v0, v1, v5, v6, v16, v17, gx0, gxk, sx0, sxk, List.append_assoc, gxL0, gxLk, sxL0, sxLk, hq, at_all hq, hce, hlead, hput, tP, tA, tD, tC, tM, oP, oA, oD, oC, oM, hp0, l1, l2, l3, l4]; done) | fail) only [go_sem, ↓reduceIte, Nat.reduceEqDiff, hk2, hct, v0, v1, v5, v6, v16, v17, gx0, gxk, sx0, sxk, List.append_assoc, gxL0, gxLk, sxL0, sxLk, hq, at_all hq, hce, hlead, hput, tP, tA, tD, tC, tM, oP, oA, oD, oC, oM, hp0, l1, l2, l3, l4]
            refine ⟨hlt, _, _, _, _, _, _, _, cg, _, rfl, .inr ⟨R.length + 1, ?_, ?_⟩, .inl (congrArg V.t (congrArg enc fP.symm)), .inl (congrArg V.t (congrArg enc fA.symm)), .inl (congrArg V.t (congrArg enc fD.symm)), .inl (congrArg V.t (congrArg enc fC.symm)), ?_, hG.ext _, at_all hq _⟩
            · rw [hev, hE]; rfl
            · rw [hev, hE, gxk]; rfl
            · first | exact .inl (congrArg V.t (congrArg enc gM.symm)) | (rw [gM]; exact hM)
          · have hmq : m ≠ q := fun e => by subst e; rw [hq] at hE; have := congrArg (fun o => o.map Obj.esz) hE; exact absurd this (by simp)
            have hq3 : ∀ o X, ((R ++ X).set m o)[q]? = some ⟨[.t (enc t)], 16, false⟩ := fun o X => by rw [List.getElem?_set_ne hmq]; exact at_all hq X
            simp -implicitDefEqProofs (disch := first | exact dsch | (simp only [go_sem, hk2, hct, v0, v1, v5, v6, v16, v17, gx0, gxk, sx0, sxk, List.append_assoc, gxL0, gxLk, sxL0, sxLk, hq, at_all hq, hq3, hE, at_all hE, hle, hce, hlead, hput, tP, tA, tD, tC, tM, oP, oA, oD, oC, oM, hp0, l1, l2, l3, l4]; omega) | (refine of_eq_true ?_; simp (disch := first | omega | (refine of_eq_true ?_; simp only [go_sem, hk2, hct, v0, v1, v5, v6, v16, v17, gx0, gxk, sx0, sxk, List.append_assoc, gxL0, gxLk, sxL0, sxLk, hq, at_all hq, hq3, hE, at_all hE, hle, hce, hlead, hput, tP, tA, tD, tC, tM, oP, oA, oD, oC, oM, hp0, l1, l2, l3, l4]; done) | (simp only [go_sem, hk2, hct, v0, v1, v5, v6, v16, v17, gx0, gxk, sx0, sxk, List.append_assoc, gxL0, gxLk, sxL0, sxLk, hq, at_all hq, hq3, hE, at_all hE, hle, hce, hlead, hput, tP, tA, tD, tC, tM, oP, oA, oD, oC, oM, hp0, l1, l2, l3, l4]; omega)) only [go_sem, hk2, hct, v0, v1, v5, v6, v16, v17, gx0, gxk, sx0, sxk, List.append_assoc, gxL0, gxLk, sxL0, sxLk, hq, at_all hq, hq3, hE, at_all hE, hle, hce, hlead, hput, tP, tA, tD, tC, tM, oP, oA, oD, oC, oM, hp0, l1, l2, l3, l4]; done) | fail) only [go_sem, ↓reduceIte, Nat.reduceEqDiff, hk2, hct, v0, v1, v5, v6, v16, v17, gx0, gxk, sx0, sxk, List.append_assoc, gxL0, gxLk, sxL0, sxLk, hq, at_all hq, hq3, hE, at_all hE, hle, hce, hlead, hput, tP, tA, tD, tC, tM, oP, oA, oD, oC, oM, hp0, l1, l2, l3, l4]
            refine ⟨hlt, _, _, _, _, _, _, _, cg, _, rfl, .inr ⟨m, ?_, ?_⟩, .inl (congrArg V.t (congrArg enc fP.symm)), .inl (congrArg V.t (congrArg enc fA.symm)), .inl (congrArg V.t (congrArg enc fD.symm)), .inl (congrArg V.t (congrArg enc fC.symm)), ?_, (hG.ext _).set (at_all hE _) (by simp), hq3 _ _⟩
            · rw [hev, List.length_append]; simp [hle]
            · rw [hev, List.getElem?_set_self (at_lt (at_all hE _))]
            · first | exact .inl (congrArg V.t (congrArg enc gM.symm)) | (rw [gM]; exact hM)
        · have gM := add_pr_no (n := n) (x := x) (th := th) (t := t) (k := i) (by omega)
          rcases hE with ⟨rfl, hE⟩ | ⟨m, rfl, hE⟩
          · simp -implicitDefEqProofs (disch := first | exact dsch | (simp only [go_sem, hk2, hct, v0, v1, v5, v6, v16, v17, gx0, gxk, sx0, sxk, List.append_assoc, gxL0, gxLk, sxL0, sxLk, hq, at_all hq, hce, hlead, hput, tP, tA, tD, tC, tM, oP, oA, oD, oC, oM, hp0, l1, l2, l3, l4]; omega) | (refine of_eq_true ?_; simp (disch := first | omega | (refine of_eq_true ?_; simp only [go_sem, hk2, hct, v0, v1, v5, v6, v16, v17, gx0, gxk, sx0, sxk, List.append_assoc, gxL0, gxLk, sxL0, sxLk, hq, at_all hq, hce, hlead, hput, tP, tA, tD, tC, tM, oP, oA, oD, oC, oM, hp0, l1, l2, l3, l4]; done) | (simp only [go_sem, hk2, hct, v0, v1, v5, v6, v16, v17, gx0, gxk, sx0, sxk, List.append_assoc, gxL0, gxLk, sxL0, sxLk, hq, at_all hq, hce, hlead, hput, tP, tA, tD, tC, tM, oP, oA, oD, oC, oM, hp0, l1, l2, l3, l4]; omega)) only [go_sem, hk2, hct, v0, v1, v5, v6, v16, v17, gx0, gxk, sx0, sxk, List.append_assoc, gxL0, gxLk, sxL0, sxLk, hq, at_all hq, hce, hlead, hput, tP, tA, tD, tC, tM, oP, oA, oD, oC, oM, hp0, l1, l2, l3, l4]; done) | fail) only [go_sem, ↓reduceIte, Nat.reduceEqDiff, hk2, hct, v0, v1, v5, v6, v16, v17, gx0, gxk, sx0, sxk, List.append_assoc, gxL0, gxLk, sxL0, sxLk, hq, at_all hq, hce, hlead, hput, tP, tA, tD, tC, tM, oP, oA, oD, oC, oM, hp0, l1, l2, l3, l4]
            refine ⟨hlt, _, _, _, _, _, _, _, cg, _, rfl, .inr ⟨R.length + 1, ?_, ?_⟩, .inl (congrArg V.t (congrArg enc fP.symm)), .inl (congrArg V.t (congrArg enc fA.symm)), .inl (congrArg V.t (congrArg enc fD.symm)), .inl (congrArg V.t (congrArg enc fC.symm)), ?_, hG.ext _, at_all hq _⟩
            · rw [hev, hE]; rfl
            · rw [hev, hE, gxk]; rfl
            · first | exact .inl (congrArg V.t (congrArg enc gM.symm)) | (rw [gM]; exact hM)
          · have hmq : m ≠ q := fun e => by subst e; rw [hq] at hE; have := congrArg (fun o => o.map Obj.esz) hE; exact absurd this (by simp)
            have hq3 : ∀ o X, ((R ++ X).set m o)[q]? = some ⟨[.t (enc t)], 16, false⟩ := fun o X => by rw [List.getElem?_set_ne hmq]; exact at_all hq X
            simp -implicitDefEqProofs (disch := first | exact dsch | (simp only [go_sem, hk2, hct, v0, v1, v5, v6, v16, v17, gx0, gxk, sx0, sxk, List.append_assoc, gxL0, gxLk, sxL0, sxLk, hq, at_all hq, hq3, hE, at_all hE, hle, hce, hlead, hput, tP, tA, tD, tC, tM, oP, oA, oD, oC, oM, hp0, l1, l2, l3, l4]; omega) | (refine of_eq_true ?_; simp (disch := first | omega | (refine of_eq_true ?_; simp only [go_sem, hk2, hct, v0, v1, v5, v6, v16, v17, gx0, gxk, sx0, sxk, List.append_assoc, gxL0, gxLk, sxL0, sxLk, hq, at_all hq, hq3, hE, at_all hE, hle, hce, hlead, hput, tP, tA, tD, tC, tM, oP, oA, oD, oC, oM, hp0, l1, l2, l3, l4]; done) | (simp only [go_sem, hk2, hct, v0, v1, v5, v6, v16, v17, gx0, gxk, sx0, sxk, List.append_assoc, gxL0, gxLk, sxL0, sxLk, hq, at_all hq, hq3, hE, at_all hE, hle, hce, hlead, hput, tP, tA, tD, tC, tM, oP, oA, oD, oC, oM, hp0, l1, l2, l3, l4]; omega)) only [go_sem, hk2, hct, v0, v1, v5, v6, v16, v17, gx0, gxk, sx0, sxk, List.append_assoc, gxL0, gxLk, sxL0, sxLk, hq, at_all hq, hq3, hE, at_all hE, hle, hce, hlead, hput, tP, tA, tD, tC, tM, oP, oA, oD, oC, oM, hp0, l1, l2, l3, l4]; done) | fail) only [go_sem, ↓reduceIte, Nat.reduceEqDiff, hk2, hct, v0, v1, v5, v6, v16, v17, gx0, gxk, sx0, sxk, List.append_assoc, gxL0, gxLk, sxL0, sxLk, hq, at_all hq, hq3, hE, at_all hE, hle, hce, hlead, hput, tP, tA, tD, tC, tM, oP, oA, oD, oC, oM, hp0, l1, l2, l3, l4]
            refine ⟨hlt, _, _, _, _, _, _, _, cg, _, rfl, .inr ⟨m, ?_, ?_⟩, .inl (congrArg V.t (congrArg enc fP.symm)), .inl (congrArg V.t (congrArg enc fA.symm)), .inl (congrArg V.t (congrArg enc fD.symm)), .inl (congrArg V.t (congrArg enc fC.symm)), ?_, (hG.ext _).set (at_all hE _) (by simp), hq3 _ _⟩
            · rw [hev, List.length_append]; simp [hle]
            · rw [hev, List.getElem?_set_self (at_lt (at_all hE _))]
            · first | exact .inl (congrArg V.t (congrArg enc gM.symm)) | (rw [gM]; exact hM)
      · obtain rfl : i = t.ev.length := by omega
        rcases hG with ⟨rfl, hG⟩ | ⟨m, rfl, hG⟩
        · simp -implicitDefEqProofs (disch := first | exact dsch | fail) only [go_sem, ↓reduceIte, Nat.reduceEqDiff, hk2, hct, v0, v1, v5, v6, v16, v17, gx0, gxk, sx0, sxk, List.append_assoc, gxL0, gxLk, sxL0, sxLk, hq, at_all hq, fresh4, hce]
          have hG' : x.regs = [] := hG
          refine ⟨rfl, st, ce, cp, ca, cd, cc, cr, _, _, rfl, (hE.set hq (by simp)).ext _, hP, hA, hD, hC, hM, .inr ⟨R.length + 1, ?_, ?_⟩⟩
          · simp [addP, hG']
          · rw [gxLk (by simp)]; simp [addP, hG', vs, flV]
        · have hmq : m ≠ q := fun e => by subst e; rw [hq] at hG; have := congrArg (fun o => o.map Obj.esz) hG; exact absurd this (by simp)
          have hrl : (addTo x th t t.ev.length).regs = x.regs := rfl
          rw [hrl] at hG
          have hm2 : ∀ o X, (R.set q o ++ X)[m]? = some ⟨vs x.regs, 1, false⟩ := fun o X => at_all (by rw [List.getElem?_set_ne (Ne.symm hmq)]; exact hG) X
          simp -implicitDefEqProofs (disch := first | exact dsch | fail) only [go_sem, ↓reduceIte, Nat.reduceEqDiff, hk2, hct, v0, v1, v5, v6, v16, v17, gx0, gxk, sx0, sxk, List.append_assoc, gxL0, gxLk, sxL0, sxLk, hq, at_all hq, fresh4, hce, hrl, hm2]
          have hlm := at_lt (hm2 ⟨[.t (enc t)], 16, true⟩ [⟨vs [t.regs.v0, t.regs.v1, t.regs.v2, t.regs.v3], 1, true⟩])
          refine ⟨rfl, st, ce, cp, ca, cd, cc, cr, _, _, rfl, ((hE.set hq (by simp)).ext _).set (hm2 _ _) (by simp), hP, hA, hD, hC, hM, .inr ⟨m, ?_, ?_⟩⟩
          · simp [addP]
          · rw [List.getElem?_set_self hlm]; simp [addP, vs, flV]
    · rw [addTo_0]
      exact ⟨v18, hI⟩
end Go.Sim
