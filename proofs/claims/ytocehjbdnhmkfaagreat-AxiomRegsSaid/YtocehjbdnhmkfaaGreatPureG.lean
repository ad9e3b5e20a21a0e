/- A part of the proof of a law of module cupola: PureG. It has no conditions of its own. -/
import Derived.Test.YtocehjbdnhmkfaaGreatWayA
set_option linter.all false
/-! What the law AxiomRegs wants: neither values nor registers matter. -/
namespace Go.Sim
open Enc (enc)
open Go.Proofs

def setV (v : Int) (e : Ev) : Ev := { e with val := v }
def valL (v : Int) (l : List Ev) : List Ev := l.map (setV v)
@[go_sem] theorem valL_len (v l) : (valL v l).length = l.length := by simp [valL]
theorem valL_gd {v : Int} {l : List Ev} {i : Nat} (h : i < l.length) : gd (valL v l) i = setV v (gd l i) := by
  rw [← gd_get (by rw [valL_len]; exact h), ← gd_get h]; simp [valL]
theorem mask_val {v : Int} {l : List Ev} {g : Ev → Bool} (hg : ∀ e, g (setV v e) = g e) : maskB (valL v l) g = maskB l g := by
  have key : ∀ m, m ≤ l.length → maskTo (valL v l) g m = maskTo l g m := by
    intro m
    induction m with
    | zero => intro _; rfl
    | succ m ih => intro h; rw [maskTo, maskTo, ih (by omega), valL_gd (by omega), hg]
  unfold maskB
  rw [valL_len]
  exact key _ (Nat.le_refl _)
theorem pairs_val {v : Int} {l : List Ev} {g : Ev → Ev → Bool} (hg : ∀ e d, g (setV v e) (setV v d) = g e d) : pairsG (valL v l) g = pairsG l g := by
  unfold pairsG
  rw [valL_len]
  exact mk_ext fun i k hi hk => by rw [valL_gd hi, valL_gd hk, hg]
theorem alike_val (v l) : alikeR (valL v l) = alikeR l := pairs_val fun _ _ => rfl
theorem inner_val (v l) : innerR (valL v l) = innerR l := pairs_val fun _ _ => rfl
theorem kind_val (v l ks) : kindM (valL v l) ks = kindM l ks := mask_val fun _ => rfl
theorem acq_val (v l) : maskB (valL v l) acqG = maskB l acqG := mask_val fun _ => rfl
theorem rel_val (v l) : maskB (valL v l) relG = maskB l relG := mask_val fun _ => rfl
theorem memR_val (v l r) : memR (valL v l) r = memR l r := by unfold memR memM; rw [kind_val]
theorem toR_val (v l r k) : toR (valL v l) r k = toR l r k := by unfold toR; rw [kind_val]
theorem within_val (v l r) : withinR (valL v l) r = withinR l r := by unfold withinR; rw [inner_val]
theorem outer_val (v l r) : outerR (valL v l) r = outerR l r := by
  unfold outerR
  rw [valL_len]
  exact mk_ext fun i k hi hk => by rw [valL_gd hi, valL_gd hk]; rfl
theorem behind_val {v : Int} {l : List Ev} {r : Nat} (hr : r < l.length) (w co) : behindB (valL v l) r w co = behindB l r w co := by
  unfold behindB
  rw [valL_gd hr, valL_len, mask_val (fun _ => rfl)]
  split
  · rfl
  · by_cases h : 0 ≤ w ∧ w < (l.length : Int)
    · rw [valL_gd (by omega)]; rfl
    · have h1 : ¬ (0 ≤ w ∧ w < (l.length : Int) ∧ (gd (valL v l) w.toNat).kind = 2) := fun hh => h ⟨hh.1, hh.2.1⟩
      have h2 : ¬ (0 ≤ w ∧ w < (l.length : Int) ∧ (gd l w.toNat).kind = 2) := fun hh => h ⟨hh.1, hh.2.1⟩
      rw [if_neg h1, if_neg h2]
theorem fr_val (v l f co) : frR (valL v l) f co = frR l f co := by
  unfold frR
  rw [valL_len]
  exact mk_ext fun i k hi hk => by unfold frP; rw [behind_val hi]
theorem com_val (v l f co) : comR (valL v l) f co = comR l f co := by unfold comR; rw [valL_len, fr_val]
/-- With other values, and no registers. -/
def regsX (x : Ex) (v : Int) : Ex := { x with ev := valL v x.ev, regs := [] }
section
variable {x : Ex} {v : Int} {f : List Int} {co : Rl}
theorem poloc_val : polocR (regsX x v) = polocR x := by unfold polocR regsX; simp only [alike_val]
theorem static_val : staticR (regsX x v) = staticR x := by unfold staticR isbR aheadR regsX; simp only [memR_val, toR_val, valL_len]
theorem rfi_val : rfiR (valL v x.ev) f = rfiR x.ev f := by unfold rfiR; rw [within_val, valL_len]
theorem dob_val : dobR (regsX x v) f co = dobR x f co := by unfold dobR; rw [static_val]; unfold regsX; simp only [memR_val, within_val, rfi_val, valL_len]
theorem aob_val : aobR (regsX x v) f = aobR x f := by unfold aobR regsX; simp only [memR_val, rfi_val, valL_len, acq_val]
theorem fences_val : fencesR (regsX x v) = fencesR x := by unfold fencesR overR regsX; simp only [memR_val, kind_val, valL_len]
theorem orders_val : ordersR (regsX x v) = ordersR x := by unfold ordersR regsX; simp only [memR_val, acq_val, rel_val, valL_len]
theorem bob_val : bobR (regsX x v) co = bobR x co := by unfold bobR; rw [fences_val, orders_val]; unfold regsX; simp only [memR_val, within_val, rel_val, valL_len]
theorem ob_val : obR (regsX x v) f co = obR x f co := by unfold obR; rw [dob_val, aob_val, bob_val]; unfold obsR regsX; simp only [com_val, outer_val]
theorem internal_val : internalB (regsX x v) f co = internalB x f co := by unfold internalB; rw [poloc_val]; unfold regsX; simp only [com_val]
theorem external_val : externalB (regsX x v) f co = externalB x f co := by unfold externalB; rw [ob_val]
theorem atomic_val : atomicB (regsX x v) f co = atomicB x f co := by unfold atomicB betweenR regsX; simp only [outer_val, fr_val]
theorem good_val : goodB (regsX x v) f co = goodB x f co := by unfold goodB; rw [internal_val, external_val, atomic_val]
theorem wide_val : wideR (regsX x v) f co = wideR x f co := by unfold wideR; rw [ob_val]; unfold regsX; simp only [within_val, fr_val]
end
theorem same_self (a : Rl) : sameR a a = true := sameR_iff.2 ⟨rfl, fun _ _ => rfl⟩
theorem regsX_ok {x : Ex} (h : Okx x) (v : Int) : Okx (regsX x v) := by
  have e : (regsX x v).ev.length = x.ev.length := valL_len _ _
  exact ⟨by rw [e]; exact h.n, by rw [e]; exact h.po, by rw [e]; exact h.addr, by rw [e]; exact h.data, by rw [e]; exact h.ctrl, by rw [e]; exact h.rmw⟩
end Go.Sim
