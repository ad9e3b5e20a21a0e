/- A part of the proof of a law of module cupola: Orcs. It has no conditions of its own. -/
import Derived.Test.YtkfceeaokfdmfaaDoorSimDef
import Derived.Lib.ItoaNum
import Derived.Lib.Join
set_option linter.all false
namespace Go.Sim

def intT (n : Int) : T := .int .i64 n
def inRB (n : Int) : Bool := decide (-9223372036854775808 ≤ n) && decide (n ≤ 9223372036854775807)
def figB (n : Int) : ByteArray := ⟨(Go.Lib.itoa n).toArray⟩
def strsT : List T → Option (List ByteArray)
  | [] => some []
  | .str s :: r => (strsT r).map (s :: ·)
  | _ => none
def joinB (l : List ByteArray) (sep : ByteArray) : ByteArray := ⟨(Go.Lib.join (l.map (·.data.toList)) sep.data.toList).toArray⟩
def itoaT : List T → Option T
  | [.int .i64 n] => if inRB n = true then some (.str (figB n)) else none
  | _ => none
def fuintT : List T → Option T
  | [.int .u64 n, .int .i64 b] => if b = 10 ∧ 0 ≤ n ∧ n ≤ 18446744073709551615 then some (.str (figB n)) else none
  | _ => none
def joinT : List T → Option T
  | [.sl xs, .str sep] => (strsT xs).bind fun l => if l.length ≤ 140737488355328 ∧ (joinB l sep).size ≤ 140737488355328 then some (.str (joinB l sep)) else none
  | _ => none

instance : Orc where
  has f := [35, 67, 73].contains f
  run f args H := match f with
    | 35 => dataRun fuintT args H
    | 67 => dataRun itoaT args H
    | 73 => dataRun joinT args H
    | _ => none
end Go.Sim
