/- A part of the proof of a law of module cupola: Orcs. It has no conditions of its own. -/
import Derived.Test.YtoaboplnnhifpaaGreatSimDef
set_option linter.all false
namespace Go.Sim

def intsT : List T → Option (List Int)
  | [] => some []
  | .int .i64 n :: r => (intsT r).map (n :: ·)
  | _ => none
def boolsT : List T → Option (List Bool)
  | [] => some []
  | .bool n :: r => (boolsT r).map (n :: ·)
  | _ => none
def intT (n : Int) : T := .int .i64 n

def compactR : List Int → List Int
  | [] => []
  | [x] => [x]
  | x :: y :: r => if x = y then compactR (y :: r) else x :: compactR (y :: r)
def sortR (l : List Int) : List Int := l.mergeSort fun x y => decide (x ≤ y)
def onceR (l : List Int) : List Int := compactR (sortR l)

def onceT : List T → Option T
  | [.sl xs] => (intsT xs).bind fun l => if l.length * 8 ≤ 140737488351232 then some (.sl ((onceR l).map intT)) else none
  | _ => none

def makesT : List T → Option T
  | [.int .i64 op] => if -9223372036854775808 ≤ op ∧ op ≤ 9223372036854775807 then some (if op = 2 then .fn 346 else if op = 3 then .fn 347 else if op = 4 then .fn 348 else .nilf) else none
  | _ => none

def evVal : T → Option (List Int)
  | .agg [.int .i64 _, .int .i64 k, .int .i64 _, .int .i64 v, .bool _, .bool _, .bool _] => some (if k = 2 then [v] else [])
  | _ => none
def evVals : List T → Option (List Int)
  | [] => some []
  | x :: r => match evVal x, evVals r with | some a, some b => some (a ++ b) | _, _ => none
def oneT : T → Bool
  | .agg _ => false
  | .tup _ => false
  | _ => true
def trVals : List T → Option (List Int)
  | [] => some []
  | .agg (.sl xs :: cs) :: r => if cs.length = 15 ∧ xs.length ≤ 1000000000 ∧ cs.all oneT = true then (match evVals xs, trVals r with | some a, some b => some (a ++ b) | _, _ => none) else none
  | _ => none
def inRB (n : Int) : Bool := decide (-9223372036854775808 ≤ n) && decide (n ≤ 9223372036854775807)
def wroteT : List T → Option T
  | [.sl xs] => (trVals xs).bind fun l => if xs.length ≤ 1000000000 ∧ l.length * 8 ≤ 140737488351232 ∧ l.all inRB = true then some (.sl ((onceR l).map intT)) else none
  | _ => none

def cloneRun (ok : List T → Bool) : List V → Heap → Option (V × Heap)
  | [.t (.sl xs)], [] => if ok xs = true ∧ xs.length ≤ 1000000 then (if xs.isEmpty = true then some (.ex [], []) else some (.ref 0 xs.length, [⟨xs.map .t, 1, false⟩])) else none
  | _, _ => none

def intsAt (H : Heap) (id n : Nat) : Option (List Int) :=
  (cur H id n).bind fun o => if o.st = false ∧ o.esz = 1 then (allT o.el).bind intsT else none
def put1 (H : Heap) (id : Nat) (l : List Int) (st : Bool) : Heap := H.set id ⟨l.map fun n => .t (intT n), 1, st⟩

def sortRun : List V → Heap → Option (V × Heap)
  | [.t _], [] => some (.dead, [])
  | [.ex []], H => some (.tup [], H)
  | [.ref id n], H => (intsAt H id n).bind fun l => if l.length * 8 ≤ 70368744177664 then some (.tup [], put1 H id (sortR l) false) else none
  | _, _ => none
def compactRun : List V → Heap → Option (V × Heap)
  | [.t _], [] => some (.dead, [])
  | [.ex []], H => some (.ex [], H)
  | [.ref id n], H => (intsAt H id n).bind fun l => if l.length * 8 ≤ 70368744177664 then some (.t (.sl ((compactR l).map intT)), put1 H id (compactR l ++ List.replicate (l.length - (compactR l).length) 0) true) else none
  | _, _ => none
def deleteRun : List V → Heap → Option (V × Heap)
  | [.t _, _, _], [] => some (.dead, [])
  | [.ref id n, .t (.int .i64 i), .t (.int .i64 k)], H => (intsAt H id n).bind fun l => if 0 ≤ i ∧ k = i + 1 ∧ k ≤ l.length ∧ l.length * 8 ≤ 70368744177664 then some (.t (.sl ((l.eraseIdx i.toNat).map intT)), put1 H id (l.eraseIdx i.toNat ++ [0]) true) else none
  | _, _ => none

def isSl : T → Bool
  | .sl _ => true
  | _ => false
def growRun : List V → Heap → Option (V × Heap)
  | [.t _, .t _], [] => some (.dead, [])
  | [.ex [], .t (.int .i64 n)], H => if 0 < n ∧ n ≤ 1000000 then some (.ref H.length 0, H ++ [⟨[], 1, false⟩]) else none
  | _, _ => none

instance : Orc where
  has f := [89, 91, 339, 90, 173, 128, 148, 149, 150, 129, 207].contains f
  run f args H := match f with
    | 89 => dataRun onceT args H
    | 91 => dataRun wroteT args H
    | 339 => dataRun makesT args H
    | 90 => cloneRun (fun xs => (intsT xs).isSome) args H
    | 128 => cloneRun (fun xs => (intsT xs).isSome) args H
    | 173 => cloneRun (fun xs => (boolsT xs).isSome) args H
    | 148 => sortRun args H
    | 149 => compactRun args H
    | 150 => deleteRun args H
    | 129 => cloneRun (fun xs => xs.all isSl) args H
    | 207 => growRun args H
    | _ => none
end Go.Sim
