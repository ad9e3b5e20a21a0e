/- A part of the proof of a law of module cupola: StM. It has no conditions of its own. -/
import Derived.Test.YtkfceeaokfdmfaaGreatDoorStL
set_option linter.all false
set_option maxRecDepth 100000
namespace Go.Sim
open Enc (enc)
open Go.Proofs
theorem less_count {a b : Fs} (h : lessB a b = true) : popC a.d ≤ popC b.d := by
  rcases less_iff.1 h with h | ⟨h, _⟩ <;> omega
@[go_sem] theorem eq_bb {a b : Bool} : binT .eql .bool (.bool a) (.bool b) = some (.bool (a == b)) := rfl
end Go.Sim
