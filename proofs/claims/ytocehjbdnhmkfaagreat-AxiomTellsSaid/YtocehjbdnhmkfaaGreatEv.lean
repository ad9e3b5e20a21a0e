/- A part of the proof of a law of module cupola: Ev. It has no conditions of its own. -/
import Derived.Test.YtocehjbdnhmkfaaGreatRelSpec
import Derived.Test.YtocehjbdnhmkfaaGreatSimU3
set_option linter.all false
/-! Events, and what threads do, as trees. -/
namespace Go.Sim
open Enc (enc)
structure Ev where
  thread : Int
  kind : Int
  loc : Int
  val : Int
  acq : Bool
  rel : Bool
  excl : Bool
  deriving DecidableEq
instance : Enc Ev := ⟨fun e => .agg [.int .i64 e.thread, .int .i64 e.kind, .int .i64 e.loc, .int .i64 e.val, .bool e.acq, .bool e.rel, .bool e.excl], ⟨0, 0, 0, 0, false, false, false⟩, 7, by decide, fun _ => rfl⟩
@[go_sem] theorem cells_ev (e : Ev) : (V.t (enc e)).cells = [.t (.int .i64 e.thread), .t (.int .i64 e.kind), .t (.int .i64 e.loc), .t (.int .i64 e.val), .t (.bool e.acq), .t (.bool e.rel), .t (.bool e.excl)] := rfl
@[go_sem] theorem stor_ev (e : Ev) : (V.t (enc e)).storable = true := rfl
@[go_sem] theorem isAgg_ev (e : Ev) : (V.t (enc e)).isAgg = true := rfl
@[go_sem] theorem rd_ev (e : Ev) : rdV (.t (enc e)) 7 0 true 7 = some (.t (enc e)) := rfl
@[go_sem] theorem ix_ev {H : Heap} {e : Nat} {l : List Ev} {i : Int} (h0 : 0 ≤ i) (h1 : i < l.length) : indexV H (.sl e) 7 (.t (enc l)) i = some (.tp (l.map enc) i.toNat 0) := ix_enc rfl h0 h1
@[go_sem] theorem load_ev {H : Heap} {l : List Ev} {i off sz : Nat} {a : Bool} (h1 : i < l.length) : loadV H (some (a, sz)) (.tp (l.map enc) i off) = (rdV (.t (enc (gd l i))) 7 off a sz).bind fun u => some ⟨u, H, .none⟩ := load_tpc h1

structure Ex where
  ev : List Ev
  po : Rl
  addr : Rl
  data : Rl
  ctrl : Rl
  rmw : Rl
  regs : List (List Int)
instance : Enc Ex := ⟨fun e => .agg [enc e.ev, enc e.po, enc e.addr, enc e.data, enc e.ctrl, enc e.rmw, enc e.regs], ⟨[], [], [], [], [], [], []⟩, 7, by decide, fun _ => rfl⟩
@[go_sem] theorem cells_ex' (e : Ex) : (V.t (enc e)).cells = [.t (enc e.ev), .t (enc e.po), .t (enc e.addr), .t (enc e.data), .t (enc e.ctrl), .t (enc e.rmw), .t (enc e.regs)] := rfl
@[go_sem] theorem stor_ex' (e : Ex) : (V.t (enc e)).storable = true := rfl
@[go_sem] theorem isAgg_ex (e : Ex) : (V.t (enc e)).isAgg = true := rfl
@[go_sem] theorem rd_ex (e : Ex) : rdV (.t (enc e)) 7 0 true 7 = some (.t (enc e)) := rfl
@[go_sem] theorem wrV_w {v u : V} {esz : Nat} (h : u.cells.length = esz) : wrV v esz 0 u = some u := wr_whole h
@[go_sem] theorem wrV_part {v u : V} {esz off : Nat} (h0 : 0 < off) (h : off + u.cells.length ≤ v.cells.length) : wrV v esz off u = some (mkAgg (v.cells.take off ++ u.cells ++ v.cells.drop (off + u.cells.length))) := by
  have : ¬ (off = 0 ∧ u.cells.length = esz) := by omega
  simp [wrV, this, h]
end Go.Sim
