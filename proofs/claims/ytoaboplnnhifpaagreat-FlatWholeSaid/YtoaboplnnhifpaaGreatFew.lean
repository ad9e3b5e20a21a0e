/- A part of the proof of a law of module cupola: Few. It has no conditions of its own. -/
import Derived.Test.YtoaboplnnhifpaaGreatLocal
set_option linter.all false
namespace Go.Sim
open Enc (enc)
open Go.Proofs

theorem few_len {t : Te} (h : fewB t = true) : t.init.length ≤ 10 ∧ t.th.length ≤ 10 ∧ ∀ x ∈ t.th, x.length ≤ 40 := by
  unfold fewB at h
  simp only [Bool.and_eq_true, decide_eq_true_eq, List.all_eq_true] at h
  exact ⟨h.1, h.2.1, h.2.2⟩
def arr3 (a b c : Int) : T := .agg [.int .u16 a, .int .u16 b, .int .u16 c]
theorem rem_at {w : Int} {n : Nat} (hw : 0 ≤ w) (hn : 0 < n) : ∃ m : Nat, m < n ∧ ∀ xb, binT .rem xb (.int .i64 w) (.int .i64 (n : Int)) = some (.int .i64 (m : Int)) := by
  obtain ⟨m, hm⟩ := Int.eq_ofNat_of_zero_le (Int.tmod_nonneg (n : Int) hw)
  refine ⟨m, ?_, fun xb => by rw [binT_rem (by omega), hm]⟩
  have := Int.tmod_lt_of_pos w (show 0 < (n : Int) by omega)
  rw [hm] at this; omega
end Go.Sim
