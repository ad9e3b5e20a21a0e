/- A part of the proof of a law of module cupola: Shw. It has no conditions of its own. -/
import Derived.Test.YtocehjbdnhmkfaaGreatIns
set_option linter.all false
/-! What the law's own example shows. -/
namespace Go.Sim
open Enc (enc)
open Go.Proofs
theorem shown16 : Fun Tryz.prog 14 [] (.t (.bool true)) := Fun.eval (k := 40) (by kernel_rfl)
@[go_sem] theorem pu_shown16 {K : Kp} : @Pu _ Tryz.prog 14 [] K = K.k (.t (.bool true)) := shown16.pu
end Go.Sim
