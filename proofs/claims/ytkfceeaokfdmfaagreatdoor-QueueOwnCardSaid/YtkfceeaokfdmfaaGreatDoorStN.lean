/- A part of the proof of a law of module cupola: StN. It has no conditions of its own. -/
import Derived.Test.YtkfceeaokfdmfaaGreatDoorStM
set_option linter.all false
set_option maxRecDepth 100000
namespace Go.Sim
open Enc (enc)
open Go.Proofs
def cntTo (d : U32) : Nat → Nat
  | 0 => 0
  | i + 1 => cntTo d i + (d.getLsbD i).toNat
def bits8 (n : Nat) : Nat := (n.testBit 0).toNat + (n.testBit 1).toNat + (n.testBit 2).toNat + (n.testBit 3).toNat + (n.testBit 4).toNat + (n.testBit 5).toNat + (n.testBit 6).toNat + (n.testBit 7).toNat
theorem popN_bits : ∀ n, n < 256 → popN n = bits8 n := by decide +kernel
theorem popC_cnt (d : U32) : popC d = cntTo d 32 := by
  have h1 : (d >>> 24).toNat < 256 := by rw [BitVec.toNat_ushiftRight]; have := d.isLt; rw [Nat.shiftRight_eq_div_pow]; omega
  unfold popC
  rw [popN_bits _ h1, popN_bits _ (and_lt _), popN_bits _ (and_lt _), popN_bits _ (and_lt _)]
  unfold bits8
  have hb : ∀ (x : U32) (i : Nat), x.toNat.testBit i = x.getLsbD i := fun _ _ => rfl
  simp only [hb, BitVec.getLsbD_and, BitVec.getLsbD_ushiftRight, cntTo]
  simp only [show (255#32).getLsbD 0 = true from rfl, show (255#32).getLsbD 1 = true from rfl, show (255#32).getLsbD 2 = true from rfl, show (255#32).getLsbD 3 = true from rfl, show (255#32).getLsbD 4 = true from rfl, show (255#32).getLsbD 5 = true from rfl, show (255#32).getLsbD 6 = true from rfl, show (255#32).getLsbD 7 = true from rfl, Bool.and_true, Nat.reduceAdd]
  omega
theorem cnt_same {d e : U32} : ∀ n, (∀ i, i < n → d.getLsbD i = e.getLsbD i) → cntTo d n = cntTo e n
  | 0, _ => rfl
  | n + 1, h => by
    show cntTo d n + _ = cntTo e n + _
    rw [cnt_same n (fun i hi => h i (by omega)), h n (by omega)]
theorem cnt_or {d : U32} {j : Nat} (hj : d.getLsbD j = false) (h32 : j < 32) : ∀ n, cntTo (d ||| 1#32 <<< j) n = cntTo d n + if j < n then 1 else 0
  | 0 => rfl
  | n + 1 => by
    show cntTo _ n + _ = cntTo d n + _ + _
    rw [cnt_or hj h32 n]
    have hg : (d ||| 1#32 <<< j).getLsbD n = (d.getLsbD n || decide (n = j)) := by
      rw [BitVec.getLsbD_or, BitVec.getLsbD_shiftLeft, BitVec.getLsbD_one]
      by_cases hn : n = j
      · subst hn; simp [h32]
      · by_cases h2 : n < j
        · simp [h2, hn]
        · have : ¬ n - j = 0 := by omega
          simp [hn, this]
    rw [hg]
    by_cases hn : n = j
    · subst hn; rw [hj, if_neg (by omega), if_pos (by omega)]; simp
    · have e : decide (n = j) = false := by simpa using hn
      rw [e, Bool.or_false]
      by_cases h2 : j < n
      · rw [if_pos h2, if_pos (by omega)]; omega
      · rw [if_neg h2, if_neg (by omega)]; omega
theorem cnt_le (d : U32) : ∀ n, cntTo d n ≤ n
  | 0 => Nat.le_refl _
  | n + 1 => by
    show cntTo d n + _ ≤ n + 1
    have := cnt_le d n
    have : (d.getLsbD n).toNat ≤ 1 := Bool.toNat_le _
    omega
theorem popC_le (d : U32) : popC d ≤ 32 := by rw [popC_cnt]; exact cnt_le d 32
theorem and_bit (d : U32) (j : Nat) (hj : j < 32) : (d &&& 1#32 <<< j = 0#32) ↔ d.getLsbD j = false := by
  constructor
  · intro h
    have := congrArg (fun x : U32 => x.getLsbD j) h
    simp only [BitVec.getLsbD_and, BitVec.getLsbD_shiftLeft, BitVec.getLsbD_one] at this
    simpa [hj] using this
  · intro h
    apply BitVec.eq_of_getLsbD_eq
    intro i hi
    rw [BitVec.getLsbD_and, BitVec.getLsbD_shiftLeft, BitVec.getLsbD_one]
    by_cases e : i = j
    · subst e; simp [h]
    · by_cases h2 : i < j
      · simp [h2]
      · have : ¬ i - j = 0 := by omega
        simp [this]
theorem or_bit (d : U32) (j : Nat) (hj : j < 32) (h : d.getLsbD j = true) : d ||| 1#32 <<< j = d := by
  apply BitVec.eq_of_getLsbD_eq
  intro i hi
  rw [BitVec.getLsbD_or, BitVec.getLsbD_shiftLeft, BitVec.getLsbD_one]
  by_cases e : i = j
  · subst e; simp [h]
  · by_cases h2 : i < j
    · simp [h2]
    · have : ¬ i - j = 0 := by omega
      simp [this]
end Go.Sim
