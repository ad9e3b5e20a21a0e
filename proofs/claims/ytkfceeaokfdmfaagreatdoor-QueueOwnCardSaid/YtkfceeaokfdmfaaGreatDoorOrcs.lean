/- A part of the proof of a law of module cupola: Orcs. It has no conditions of its own. -/
import Derived.Test.YtkfceeaokfdmfaaGreatDoorSimDef
import Derived.Lib.ItoaNum
import Derived.Lib.Join
import Derived.Lib.Bytealg
import Derived.Lib.AtoiAll
import Derived.Lib.ParseIntB
import Derived.Lib.Strings
set_option linter.all false
namespace Go.Sim

def intT (n : Int) : T := .int .i64 n
def inRB (n : Int) : Bool := decide (-9223372036854775808 ≤ n) && decide (n ≤ 9223372036854775807)
def figB (n : Int) : ByteArray := ⟨(Go.Lib.itoa n).toArray⟩
def strsT : List T → Option (List ByteArray)
  | [] => some []
  | .str s :: r => (strsT r).map (s :: ·)
  | _ => none
def joinB (l : List ByteArray) (sep : ByteArray) : ByteArray := ⟨(Go.Lib.join (l.map (·.data.toList)) sep.data.toList).toArray⟩
def itoaT : List T → Option T
  | [.int .i64 n] => if inRB n = true then some (.str (figB n)) else none
  | _ => none
def fuintT : List T → Option T
  | [.int .u64 n, .int .i64 b] => if b = 10 ∧ 0 ≤ n ∧ n ≤ 18446744073709551615 then some (.str (figB n)) else none
  | _ => none
def joinT : List T → Option T
  | [.sl xs, .str sep] => (strsT xs).bind fun l => if l.length ≤ 140737488355328 ∧ (joinB l sep).size ≤ 140737488355328 then some (.str (joinB l sep)) else none
  | _ => none

def pairT (x : T) (ok : Bool) : T := .tup [x, if ok then .nili else .opq]
def atoiN (s : ByteArray) : Int := match Go.Lib.atoiAll s.data.toList with
  | .ok v => v
  | .syntax => 0
  | .range => Go.Lib.atoiSat s.data.toList
def atoiB (s : ByteArray) : Bool := match Go.Lib.atoiAll s.data.toList with
  | .ok _ => true
  | _ => false
def puN (s : ByteArray) : Nat := match Go.Lib.parseUintB 32 s.data.toList with
  | .ok v => v
  | .syntax => 0
  | .range => 4294967295
def puB (s : ByteArray) : Bool := match Go.Lib.parseUintB 32 s.data.toList with
  | .ok _ => true
  | _ => false
def piN (s : ByteArray) : Int := match Go.Lib.parseIntB 64 s.data.toList with
  | .ok v => v
  | .syntax => 0
  | .range => Go.Lib.intSat 64 s.data.toList
def piB (s : ByteArray) : Bool := match Go.Lib.parseIntB 64 s.data.toList with
  | .ok _ => true
  | _ => false
def piT : List T → Option T
  | [.str s, .int .i64 b, .int .i64 z] => if b = 10 ∧ z = 64 ∧ s.size ≤ 1000000000 then some (pairT (.int .i64 (piN s)) (piB s)) else none
  | _ => none
def finT : List T → Option T
  | [.int .i64 n, .int .i64 b] => if b = 10 ∧ inRB n = true then some (.str (figB n)) else none
  | _ => none
def atoiT : List T → Option T
  | [.str s] => if s.size ≤ 1000000000 then some (pairT (.int .i64 (atoiN s)) (atoiB s)) else none
  | _ => none
def puT : List T → Option T
  | [.str s, .int .i64 b, .int .i64 z] => if b = 10 ∧ z = 32 ∧ s.size ≤ 1000000000 then some (pairT (.int .u64 (puN s)) (puB s)) else none
  | _ => none
def indexT : List T → Option T
  | [.str s, .str sep] => if sep = ⟨#[sep.get! 0]⟩ then some (.int .i64 (Go.Lib.indexByte s.data.toList (sep.get! 0))) else none
  | _ => none
def countT : List T → Option T
  | [.str s, .str sep] => if sep = ⟨#[sep.get! 0]⟩ then some (.int .i64 (Go.Lib.countByte s.data.toList (sep.get! 0))) else none
  | _ => none
def trimB (s p : ByteArray) : ByteArray := ⟨(Go.Lib.trimSuffix s.data.toList p.data.toList).toArray⟩
def trimT : List T → Option T
  | [.str s, .str p] => if s.size ≤ 1000000000 then some (.str (trimB s p)) else none
  | _ => none
def rdS (H : Heap) (id : Nat) : Option ByteArray := match H[id]? with
  | some ⟨[.t (.str s)], 1, false⟩ => some s
  | _ => none
def rdI (H : Heap) (id : Nat) : Option Int := match H[id]? with
  | some ⟨[.t (.int .i64 n)], 1, false⟩ => some n
  | _ => none
def boxS (s : ByteArray) : Obj := ⟨[.t (.str s)], 1, false⟩
def segsF (c : UInt8) (sv : Nat) : Nat → ByteArray → List (ByteArray × ByteArray)
  | 0, s => [(s, s)]
  | n + 1, s => if Go.Lib.indexByte s.data.toList c < 0 then [(s, s)] else
      (s.extract 0 ((Go.Lib.indexByte s.data.toList c).toNat + sv), s) :: segsF c sv n (s.extract ((Go.Lib.indexByte s.data.toList c).toNat + 1) s.size)
def itemsF (a b k : Nat) (c : UInt8) (sv : Nat) : ByteArray → List (ByteArray × ByteArray) → List (T × (Heap → Option Heap))
  | _, [] => []
  | prev, (x, s) :: r => (.str x, fun H => if rdS H a = some ⟨#[c]⟩ ∧ rdS H b = some prev ∧ rdI H k = some (sv : Int) then some (H.set b (boxS s)) else none) :: itemsF a b k c sv s r
def seqSplit (caps : List V) (H : Heap) : Option (List (T × (Heap → Option Heap)) × (Heap → Option Heap)) := match caps with
  | [.ptr a 1 0 0, .ptr b 1 0 0, .ptr k 1 0 0] => match rdS H a, rdS H b, rdI H k with
    | some sep, some s, some sv => if sep = ⟨#[sep.get! 0]⟩ ∧ a ≠ b ∧ 0 ≤ sv ∧ sv ≤ 1 ∧ s.size ≤ 1000000000 then some (itemsF a b k (sep.get! 0) sv.toNat s (segsF (sep.get! 0) sv.toNat (s.size + 1) s), some) else none
    | _, _, _ => none
  | _ => none

instance : Orc where
  has f := [26, 40, 41, 46, 31, 60, 59, 34, 82].contains f
  run f args H := match f with
    | 26 => dataRun fuintT args H
    | 40 => dataRun itoaT args H
    | 41 => dataRun joinT args H
    | 46 => dataRun atoiT args H
    | 31 => dataRun puT args H
    | 60 => dataRun indexT args H
    | 59 => dataRun countT args H
    | 34 => dataRun trimT args H
    | 82 => dataRun indexT args H
    | _ => none
  seq f caps H := match f with
    | 68 => seqSplit caps H
    | _ => none
end Go.Sim
