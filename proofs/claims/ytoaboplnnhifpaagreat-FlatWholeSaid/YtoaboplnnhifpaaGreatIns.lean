/- A part of the proof of a law of module cupola: Ins. It has no conditions of its own. -/
import Derived.Test.YtoaboplnnhifpaaGreatRel
import Derived.Test.YtoaboplnnhifpaaGreatEv
import Derived.Test.YtoaboplnnhifpaaGreatSimUu
set_option linter.all false
namespace Go.Sim
open Enc (enc)
open Go.Proofs

def evalF (P : Program) (k : Nat) (f : FuncId) (ts : List T) : Option V := match funRun P k f (ts.map .t) [] with
  | some (v, H) => exportB (isFresh P f) H v
  | none => none
theorem Fun.eval {P : Program} {k : Nat} {f : FuncId} {ts : List T} {u : V} (h : evalF P k f ts = some u) : Fun P f ts u := by
  unfold evalF at h
  split at h
  · rename_i v H h1; exact ⟨k, v, H, h1, h⟩
  · cases h

structure In where
  op : Int
  d : Int
  a : Int
  b : Int
  loc : Int
  imm : Int
instance : Enc In := ⟨fun e => .agg [.int .i64 e.op, .int .i64 e.d, .int .i64 e.a, .int .i64 e.b, .int .i64 e.loc, .int .i64 e.imm], ⟨0, 0, 0, 0, 0, 0⟩, 6, by decide, fun _ => rfl⟩
@[go_sem] theorem cells_In (e : In) : (V.t (enc e)).cells = [.t (.int .i64 e.op), .t (.int .i64 e.d), .t (.int .i64 e.a), .t (.int .i64 e.b), .t (.int .i64 e.loc), .t (.int .i64 e.imm)] := rfl
@[go_sem] theorem stor_In (e : In) : (V.t (enc e)).storable = true := rfl
@[go_sem] theorem isAgg_In (e : In) : (V.t (enc e)).isAgg = true := rfl
@[go_sem] theorem rd_In (e : In) : rdV (.t (enc e)) 6 0 true 6 = some (.t (enc e)) := rfl
@[go_sem] theorem fits_In (e : In) : fits 6 (.t (enc e)) = true := rfl
@[go_sem] theorem cellsT_In (e : In) : (enc e : T).cells.length = 6 := rfl
@[go_sem] theorem noSl_In (e : In) : noSl (.t (enc e)) = false := rfl
@[go_sem] theorem noSl1_In (e : In) : noSl1 (.t (enc e)) = false := rfl
@[go_sem] theorem sz_In : Enc.sz In = 6 := rfl
@[go_sem] theorem fitsl_In (l : List In) : (vs l).all (fits 6) = true := by
  rw [List.all_eq_true]; intro v hv; obtain ⟨p, _, rfl⟩ := List.mem_map.1 hv; rfl
@[go_sem] theorem ix_In {H : Heap} {e : Nat} {l : List In} {i : Int} (h0 : 0 ≤ i) (h1 : i < l.length) : indexV H (.sl e) 6 (.t (enc l)) i = some (.tp (l.map enc) i.toNat 0) := ix_enc rfl h0 h1
@[go_sem] theorem ixex_In {H : Heap} {e : Nat} {l : List In} {i : Int} (h0 : 0 ≤ i) (h1 : i < l.length) : indexV H (.sl e) 6 (.ex (l.map enc)) i = some (.tp (l.map enc) i.toNat 0) := ix_In (H := H) (e := e) (l := l) h0 h1
@[go_sem] theorem load_In {H : Heap} {l : List In} {i off sz : Nat} {a : Bool} (h1 : i < l.length) : loadV H (some (a, sz)) (.tp (l.map enc) i off) = (rdV (.t (enc (gd l i))) 6 off a sz).bind fun u => some ⟨u, H, .none⟩ := load_tpc h1
@[go_sem] theorem load1_In {H : Heap} {id i off sz : Nat} {a : Bool} {l : List In} {st : Bool} (hi : i < l.length) : load1 H id ⟨vs l, 6, st⟩ i off a sz = (rdV (.t (enc (gd l i))) 6 off a sz).bind fun u => some ⟨u, H, .load id⟩ := load1_vsc hi
@[go_sem] theorem agg_In {x0 : Int} {x1 : Int} {x2 : Int} {x3 : Int} {x4 : Int} {x5 : Int} : T.agg [.int .i64 x0, .int .i64 x1, .int .i64 x2, .int .i64 x3, .int .i64 x4, .int .i64 x5] = enc (⟨x0, x1, x2, x3, x4, x5⟩ : In) := rfl
@[go_sem] theorem eta_In (e : In) : (⟨e.op, e.d, e.a, e.b, e.loc, e.imm⟩ : In) = e := rfl
structure Fl where
  v0 : Int
  v1 : Int
  v2 : Int
  v3 : Int
  d0 : U32
  d1 : U32
  d2 : U32
  d3 : U32
instance : Enc Fl := ⟨fun e => .agg [.int .i64 e.v0, .int .i64 e.v1, .int .i64 e.v2, .int .i64 e.v3, .int .u32 (e.d0.toNat : Int), .int .u32 (e.d1.toNat : Int), .int .u32 (e.d2.toNat : Int), .int .u32 (e.d3.toNat : Int)], ⟨0, 0, 0, 0, 0#32, 0#32, 0#32, 0#32⟩, 8, by decide, fun _ => rfl⟩
@[go_sem] theorem cells_Fl (e : Fl) : (V.t (enc e)).cells = [.t (.int .i64 e.v0), .t (.int .i64 e.v1), .t (.int .i64 e.v2), .t (.int .i64 e.v3), .t (.int .u32 (e.d0.toNat : Int)), .t (.int .u32 (e.d1.toNat : Int)), .t (.int .u32 (e.d2.toNat : Int)), .t (.int .u32 (e.d3.toNat : Int))] := rfl
@[go_sem] theorem stor_Fl (e : Fl) : (V.t (enc e)).storable = true := rfl
@[go_sem] theorem isAgg_Fl (e : Fl) : (V.t (enc e)).isAgg = true := rfl
@[go_sem] theorem rd_Fl (e : Fl) : rdV (.t (enc e)) 8 0 true 8 = some (.t (enc e)) := rfl
@[go_sem] theorem fits_Fl (e : Fl) : fits 8 (.t (enc e)) = true := rfl
@[go_sem] theorem cellsT_Fl (e : Fl) : (enc e : T).cells.length = 8 := rfl
@[go_sem] theorem noSl_Fl (e : Fl) : noSl (.t (enc e)) = false := rfl
@[go_sem] theorem noSl1_Fl (e : Fl) : noSl1 (.t (enc e)) = false := rfl
@[go_sem] theorem sz_Fl : Enc.sz Fl = 8 := rfl
@[go_sem] theorem fitsl_Fl (l : List Fl) : (vs l).all (fits 8) = true := by
  rw [List.all_eq_true]; intro v hv; obtain ⟨p, _, rfl⟩ := List.mem_map.1 hv; rfl
@[go_sem] theorem ix_Fl {H : Heap} {e : Nat} {l : List Fl} {i : Int} (h0 : 0 ≤ i) (h1 : i < l.length) : indexV H (.sl e) 8 (.t (enc l)) i = some (.tp (l.map enc) i.toNat 0) := ix_enc rfl h0 h1
@[go_sem] theorem ixex_Fl {H : Heap} {e : Nat} {l : List Fl} {i : Int} (h0 : 0 ≤ i) (h1 : i < l.length) : indexV H (.sl e) 8 (.ex (l.map enc)) i = some (.tp (l.map enc) i.toNat 0) := ix_Fl (H := H) (e := e) (l := l) h0 h1
@[go_sem] theorem load_Fl {H : Heap} {l : List Fl} {i off sz : Nat} {a : Bool} (h1 : i < l.length) : loadV H (some (a, sz)) (.tp (l.map enc) i off) = (rdV (.t (enc (gd l i))) 8 off a sz).bind fun u => some ⟨u, H, .none⟩ := load_tpc h1
@[go_sem] theorem load1_Fl {H : Heap} {id i off sz : Nat} {a : Bool} {l : List Fl} {st : Bool} (hi : i < l.length) : load1 H id ⟨vs l, 8, st⟩ i off a sz = (rdV (.t (enc (gd l i))) 8 off a sz).bind fun u => some ⟨u, H, .load id⟩ := load1_vsc hi
@[go_sem] theorem agg_Fl {x0 : Int} {x1 : Int} {x2 : Int} {x3 : Int} {x4 : U32} {x5 : U32} {x6 : U32} {x7 : U32} : T.agg [.int .i64 x0, .int .i64 x1, .int .i64 x2, .int .i64 x3, .int .u32 (x4.toNat : Int), .int .u32 (x5.toNat : Int), .int .u32 (x6.toNat : Int), .int .u32 (x7.toNat : Int)] = enc (⟨x0, x1, x2, x3, x4, x5, x6, x7⟩ : Fl) := rfl
@[go_sem] theorem eta_Fl (e : Fl) : (⟨e.v0, e.v1, e.v2, e.v3, e.d0, e.d1, e.d2, e.d3⟩ : Fl) = e := rfl

def kindI (op : Int) : Int := if op = 5 ∨ op = 7 ∨ op = 9 then 1 else if op = 6 ∨ op = 8 ∨ op = 10 then 2 else 0
theorem ins_Kind (x : In) : Fun Tryz.prog 98 [enc x] (.t (.int .i64 (kindI x.op))) := by
  refine Fun.go (b := false) Tryz.func98 rfl rfl (by kernel_rfl) (by kernel_rfl) ?_
  unfold kindI
  by_cases h5 : x.op = 5
  · simp -implicitDefEqProofs (disch := first | exact dsch | fail) only [go_sem, ↓reduceIte, Nat.reduceEqDiff, h5]; rfl
  by_cases h7 : x.op = 7
  · simp -implicitDefEqProofs (disch := first | exact dsch | fail) only [go_sem, ↓reduceIte, Nat.reduceEqDiff, h7, h5]; rfl
  by_cases h9 : x.op = 9
  · simp -implicitDefEqProofs (disch := first | exact dsch | fail) only [go_sem, ↓reduceIte, Nat.reduceEqDiff, h9, h7, h5]; rfl
  by_cases h6 : x.op = 6
  · simp -implicitDefEqProofs (disch := first | exact dsch | fail) only [go_sem, ↓reduceIte, Nat.reduceEqDiff, h9, h7, h5, h6]; rfl
  by_cases h8 : x.op = 8
  · simp -implicitDefEqProofs (disch := first | exact dsch | fail) only [go_sem, ↓reduceIte, Nat.reduceEqDiff, h9, h7, h5, h6, h8]; rfl
  by_cases h10 : x.op = 10
  · simp -implicitDefEqProofs (disch := first | exact dsch | fail) only [go_sem, ↓reduceIte, Nat.reduceEqDiff, h9, h7, h5, h6, h8, h10]; rfl
  · simp -implicitDefEqProofs (disch := first | exact dsch | fail) only [go_sem, ↓reduceIte, Nat.reduceEqDiff, h9, h7, h5, h6, h8, h10]; rfl
@[go_sem] theorem pu_Kind {x : In} {K : Kp} : @Pu _ Tryz.prog 98 [enc x] K = K.k (.t (.int .i64 (kindI x.op))) := (ins_Kind x).pu

theorem ins_between (n a b : Int) : Fun Tryz.prog 228 [.int .i64 n, .int .i64 a, .int .i64 b] (.t (.bool (decide (a ≤ n) && decide (n ≤ b)))) := by
  refine Fun.go (b := false) Tryz.func228 rfl rfl (by kernel_rfl) (by kernel_rfl) ?_
  by_cases h1 : a ≤ n <;> simp -implicitDefEqProofs (disch := first | exact dsch | fail) only [go_sem, ↓reduceIte, Nat.reduceEqDiff, h1, Bool.true_and, Bool.false_and]
@[go_sem] theorem pu_between {n a b : Int} {K : Kp} : @Pu _ Tryz.prog 228 [.int .i64 n, .int .i64 a, .int .i64 b] K = K.k (.t (.bool (decide (a ≤ n) && decide (n ≤ b)))) := (ins_between n a b).pu

def immI (x : In) (behind : Int) : Bool :=
  if x.op = 1 then decide (-1000 ≤ x.imm) && decide (x.imm ≤ 1000) else if x.op = 11 then decide (0 ≤ x.imm) && decide (x.imm ≤ 2) else decide (0 ≤ x.imm) && decide (x.imm ≤ behind)
theorem ins_imm (x : In) (n : Int) : Fun Tryz.prog 229 [enc x, .int .i64 n] (.t (.bool (immI x n))) := by
  refine Fun.go (b := false) Tryz.func229 rfl rfl (by kernel_rfl) (by kernel_rfl) ?_
  unfold immI
  by_cases h1 : x.op = 1
  · simp -implicitDefEqProofs (disch := first | exact dsch | fail) only [go_sem, ↓reduceIte, Nat.reduceEqDiff, h1]
  by_cases h2 : x.op = 11
  · rw [if_neg h1, if_pos h2]; simp -implicitDefEqProofs (disch := first | exact dsch | fail) only [go_sem, ↓reduceIte, Nat.reduceEqDiff, h1, h2]
  · rw [if_neg h1, if_neg h2]; simp -implicitDefEqProofs (disch := first | exact dsch | fail) only [go_sem, ↓reduceIte, Nat.reduceEqDiff, h1, h2]
@[go_sem] theorem pu_imm {x : In} {n : Int} {K : Kp} : @Pu _ Tryz.prog 229 [enc x, .int .i64 n] K = K.k (.t (.bool (immI x n))) := (ins_imm x n).pu

def rowsI : List (ByteArray × Int) := [(⟨#[]⟩, 0), (⟨#[109, 111, 118]⟩, 17), (⟨#[97, 100, 100]⟩, 7), (⟨#[101, 111, 114]⟩, 7), (⟨#[97, 110, 100]⟩, 7), (⟨#[108, 100, 114]⟩, 11), (⟨#[115, 116, 114]⟩, 14), (⟨#[108, 100, 97, 114]⟩, 11), (⟨#[115, 116, 108, 114]⟩, 14), (⟨#[108, 100, 120, 114]⟩, 11), (⟨#[115, 116, 120, 114]⟩, 15), (⟨#[100, 109, 98]⟩, 16), (⟨#[105, 115, 98]⟩, 0), (⟨#[99, 98, 122]⟩, 18), (⟨#[99, 98, 110, 122]⟩, 18)]
def rowI (op : Int) : ByteArray × Int := if 0 ≤ op ∧ op < 15 then rowsI.getD op.toNat (⟨#[]⟩, 0) else (⟨#[]⟩, 0)
def rowsT : List T := rowsI.map fun r => .agg [.str r.1, .int .i64 r.2]
theorem ins_rows : Fun Tryz.prog 265 [] (.t (.sl rowsT)) := Fun.eval (k := 40) (by kernel_rfl)
theorem ins_of (op : Int) : Fun Tryz.prog 227 [.int .i64 op] (.t (.agg [.str (rowI op).1, .int .i64 (rowI op).2])) := by
  by_cases h : 0 ≤ op ∧ op < 15
  · obtain ⟨h0, h1⟩ := h
    obtain ⟨n, rfl⟩ := Int.eq_ofNat_of_zero_le h0
    match n, h1 with
    | 0, _ | 1, _ | 2, _ | 3, _ | 4, _ | 5, _ | 6, _ | 7, _ | 8, _ | 9, _ | 10, _ | 11, _ | 12, _ | 13, _ | 14, _ => exact Fun.eval (k := 40) (by kernel_rfl)
    | n + 15, h => omega
  · have hl : rowsT.length = 15 := rfl
    refine Fun.go (b := false) Tryz.func227 rfl rfl (by kernel_rfl) (by kernel_rfl) ?_
    have hr : rowI op = (⟨#[]⟩, 0) := by unfold rowI; rw [if_neg h]
    by_cases h0 : 0 ≤ op
    · have h1 : ¬ op < 15 := fun h1 => h ⟨h0, h1⟩
      simp -implicitDefEqProofs (disch := first | exact dsch | fail) only [go_sem, ↓reduceIte, Nat.reduceEqDiff, ins_rows.pu, h0, h1, hl]
      rw [hr]; rfl
    · simp -implicitDefEqProofs (disch := first | exact dsch | fail) only [go_sem, ↓reduceIte, Nat.reduceEqDiff, ins_rows.pu, h0]
      rw [hr]; rfl
@[go_sem] theorem pu_of {op : Int} {K : Kp} : @Pu _ Tryz.prog 227 [.int .i64 op] K = K.k (.t (.agg [.str (rowI op).1, .int .i64 (rowI op).2])) := (ins_of op).pu

structure Fi where
  bit : Int
  n : Int
  least : Int
  top : Int
instance : Enc Fi := ⟨fun e => .agg [.int .i64 e.bit, .int .i64 e.n, .int .i64 e.least, .int .i64 e.top], ⟨0, 0, 0, 0⟩, 4, by decide, fun _ => rfl⟩
@[go_sem] theorem cells_Fi (e : Fi) : (V.t (enc e)).cells = [.t (.int .i64 e.bit), .t (.int .i64 e.n), .t (.int .i64 e.least), .t (.int .i64 e.top)] := rfl
@[go_sem] theorem stor_Fi (e : Fi) : (V.t (enc e)).storable = true := rfl
@[go_sem] theorem isAgg_Fi (e : Fi) : (V.t (enc e)).isAgg = true := rfl
@[go_sem] theorem rd_Fi (e : Fi) : rdV (.t (enc e)) 4 0 true 4 = some (.t (enc e)) := rfl
@[go_sem] theorem fits_Fi (e : Fi) : fits 4 (.t (enc e)) = true := rfl
@[go_sem] theorem cellsT_Fi (e : Fi) : (enc e : T).cells.length = 4 := rfl
@[go_sem] theorem noSl_Fi (e : Fi) : noSl (.t (enc e)) = false := rfl
@[go_sem] theorem noSl1_Fi (e : Fi) : noSl1 (.t (enc e)) = false := rfl
@[go_sem] theorem sz_Fi : Enc.sz Fi = 4 := rfl
@[go_sem] theorem fitsl_Fi (l : List Fi) : (vs l).all (fits 4) = true := by
  rw [List.all_eq_true]; intro v hv; obtain ⟨p, _, rfl⟩ := List.mem_map.1 hv; rfl
@[go_sem] theorem ix_Fi {H : Heap} {e : Nat} {l : List Fi} {i : Int} (h0 : 0 ≤ i) (h1 : i < l.length) : indexV H (.sl e) 4 (.t (enc l)) i = some (.tp (l.map enc) i.toNat 0) := ix_enc rfl h0 h1
@[go_sem] theorem ixex_Fi {H : Heap} {e : Nat} {l : List Fi} {i : Int} (h0 : 0 ≤ i) (h1 : i < l.length) : indexV H (.sl e) 4 (.ex (l.map enc)) i = some (.tp (l.map enc) i.toNat 0) := ix_Fi (H := H) (e := e) (l := l) h0 h1
@[go_sem] theorem load_Fi {H : Heap} {l : List Fi} {i off sz : Nat} {a : Bool} (h1 : i < l.length) : loadV H (some (a, sz)) (.tp (l.map enc) i off) = (rdV (.t (enc (gd l i))) 4 off a sz).bind fun u => some ⟨u, H, .none⟩ := load_tpc h1
@[go_sem] theorem load1_Fi {H : Heap} {id i off sz : Nat} {a : Bool} {l : List Fi} {st : Bool} (hi : i < l.length) : load1 H id ⟨vs l, 4, st⟩ i off a sz = (rdV (.t (enc (gd l i))) 4 off a sz).bind fun u => some ⟨u, H, .load id⟩ := load1_vsc hi
@[go_sem] theorem agg_Fi {x0 : Int} {x1 : Int} {x2 : Int} {x3 : Int} : T.agg [.int .i64 x0, .int .i64 x1, .int .i64 x2, .int .i64 x3] = enc (⟨x0, x1, x2, x3⟩ : Fi) := rfl
@[go_sem] theorem eta_Fi (e : Fi) : (⟨e.bit, e.n, e.least, e.top⟩ : Fi) = e := rfl
def andI (a b : Int) : Int := IntKind.i64.wrap (BitVec.ofInt IntKind.i64.bits a &&& BitVec.ofInt IntKind.i64.bits b).toNat
@[go_sem] theorem andI_fold (a b : Int) : IntKind.i64.wrap (BitVec.ofInt IntKind.i64.bits a &&& BitVec.ofInt IntKind.i64.bits b).toNat = andI a b := rfl
def badF (f : Int) (x : Fi) : Bool := if andI f x.bit = 0 then !decide (x.n = 0) else !(decide (x.least ≤ x.n) && decide (x.n ≤ x.top))
def fieldsI (x : In) (locs : Int) : List Fi := [⟨1, x.d, 0, 3⟩, ⟨2, x.a, if kindI x.op = 0 then 0 else -1, 3⟩, ⟨4, x.b, 0, 3⟩, ⟨8, x.loc, 0, max locs 0 - 1⟩]
def mayI (x : In) (behind locs : Int) : Bool :=
  !((fieldsI x locs).any (badF (rowI x.op).2)) && (if andI (rowI x.op).2 16 = 0 then !((rowI x.op).1.toList == (ByteArray.mk #[]).toList) && decide (x.imm = 0) else immI x behind)
@[go_sem] theorem fieldsI_len (x : In) (locs : Int) : (fieldsI x locs).length = 4 := rfl
theorem any_take {α : Type} [Enc α] {l : List α} {f : α → Bool} {i : Nat} (h : i < l.length) : (l.take (i + 1)).any f = ((l.take i).any f || f (gd l i)) := by
  rw [← take_gd h, List.any_append]; simp
theorem any_end {α : Type} {l : List α} {f : α → Bool} {n : Nat} (h : l.length = n) : (l.take n).any f = l.any f := by rw [← h, List.take_length]
theorem ins_May (x : In) (n locs : Int) (hl : locs ≤ 1000000) : Fun Tryz.prog 165 [enc x, .int .i64 n, .int .i64 locs] (.t (.bool (mayI x n locs))) := by
  refine Fun.go (b := false) Tryz.func165 rfl rfl (by kernel_rfl) (by kernel_rfl) ?_
  by_cases hk : kindI x.op = 0
  all_goals
    have hf := congrArg (enc : List Fi → T) (show fieldsI x locs = [⟨1, x.d, 0, 3⟩, ⟨2, x.a, if kindI x.op = 0 then 0 else -1, 3⟩, ⟨4, x.b, 0, 3⟩, ⟨8, x.loc, 0, max locs 0 - 1⟩] from rfl)
    simp only [hk, if_true, if_false] at hf
    simp -implicitDefEqProofs (disch := first | exact dsch | fail) only [go_sem, ↓reduceIte, Nat.reduceEqDiff, hk, ← hf, fieldsI_len]
    refine loop_k (n := 4) [1, 3, 7, 37, 38] (by kernel_rfl) (fun i e H => e 39 = .t (.int .i64 i) ∧ ((fieldsI x locs).take i).any (badF (rowI x.op).2) = false ∧ ∃ R, H = ⟨[.t (enc x)], 6, false⟩ :: ⟨[.t (.agg [.str (rowI x.op).1, .int .i64 (rowI x.op).2])], 2, false⟩ :: R) ?_ ?_
    · rintro i e H hi hk2 ⟨hc, hb, R, rfl⟩
      have hfe := congrArg (fun l => V.ex (l.map enc)) (show fieldsI x locs = [⟨1, x.d, 0, 3⟩, ⟨2, x.a, if kindI x.op = 0 then 0 else -1, 3⟩, ⟨4, x.b, 0, 3⟩, ⟨8, x.loc, 0, max locs 0 - 1⟩] from rfl)
      simp only [hk, if_true, if_false, List.map_cons, List.map_nil] at hfe
      simp only [keepP, go_sem, Bool.false_eq_true, ↓reduceIte, Nat.reduceEqDiff, and_true] at hk2
      simp only [← hfe] at hk2
      by_cases hlt : i < 4
      · have hst := any_take (f := badF (rowI x.op).2) (l := fieldsI x locs) (i := i) (by rw [fieldsI_len]; exact hlt)
        rw [hb, Bool.false_or] at hst
        have hbad : badF (rowI x.op).2 (gd (fieldsI x locs) i) = true → mayI x n locs = false := by
          intro h
          unfold mayI
          rw [List.any_eq_true.2 ⟨_, gd_mem (by rw [fieldsI_len]; exact hlt), h⟩]; rfl
        have hv : badF (rowI x.op).2 (gd (fieldsI x locs) i) = if andI (rowI x.op).2 (gd (fieldsI x locs) i).bit = 0 then !decide ((gd (fieldsI x locs) i).n = 0) else !(decide ((gd (fieldsI x locs) i).least ≤ (gd (fieldsI x locs) i).n) && decide ((gd (fieldsI x locs) i).n ≤ (gd (fieldsI x locs) i).top)) := rfl
        rw [hv] at hst hbad
        by_cases hz : andI (rowI x.op).2 (gd (fieldsI x locs) i).bit = 0
        · rw [if_pos hz] at hst hbad
          by_cases hn : (gd (fieldsI x locs) i).n = 0
          · simp -implicitDefEqProofs (disch := first | exact dsch | fail) only [go_sem, ↓reduceIte, Nat.reduceEqDiff, hk2, hc, fieldsI_len, hz, hn]
            exact ⟨hlt, by rw [hst, hn]; rfl, _, rfl⟩
          · simp -implicitDefEqProofs (disch := first | exact dsch | fail) only [go_sem, ↓reduceIte, Nat.reduceEqDiff, hk2, hc, fieldsI_len, hz, hn]
            rw [hbad (by simp [hn])]
        · rw [if_neg hz] at hst hbad
          by_cases hn : (decide ((gd (fieldsI x locs) i).least ≤ (gd (fieldsI x locs) i).n) && decide ((gd (fieldsI x locs) i).n ≤ (gd (fieldsI x locs) i).top)) = true
          · simp -implicitDefEqProofs (disch := first | exact dsch | fail) only [go_sem, ↓reduceIte, Nat.reduceEqDiff, hk2, hc, fieldsI_len, hz, hn]
            exact ⟨hlt, by rw [hst, hn]; rfl, _, rfl⟩
          · rw [Bool.not_eq_true] at hn
            simp -implicitDefEqProofs (disch := first | exact dsch | fail) only [go_sem, ↓reduceIte, Nat.reduceEqDiff, hk2, hc, fieldsI_len, hz, hn]
            rw [hbad (by rw [hn]; rfl)]
      · obtain rfl : i = 4 := by omega
        rw [any_end (fieldsI_len x locs)] at hb
        have hm : mayI x n locs = if andI (rowI x.op).2 16 = 0 then !((rowI x.op).1.toList == (ByteArray.mk #[]).toList) && decide (x.imm = 0) else immI x n := by
          unfold mayI; rw [hb]; rfl
        rw [hm]
        by_cases hz : andI (rowI x.op).2 16 = 0
        · rw [if_pos hz]
          cases hs : ((rowI x.op).1.toList == (ByteArray.mk #[]).toList)
          · simp -implicitDefEqProofs (disch := first | exact dsch | fail) only [go_sem, ↓reduceIte, Nat.reduceEqDiff, hk2, hc, hz, hs, Bool.not_false, Bool.true_and]
          · simp -implicitDefEqProofs (disch := first | exact dsch | fail) only [go_sem, ↓reduceIte, Nat.reduceEqDiff, hk2, hc, hz, hs, Bool.not_true, Bool.false_and]
        · rw [if_neg hz]
          simp -implicitDefEqProofs (disch := first | exact dsch | fail) only [go_sem, ↓reduceIte, Nat.reduceEqDiff, hk2, hc, hz]
    · simp -implicitDefEqProofs (disch := first | exact dsch | fail) only [go_sem, ↓reduceIte, Nat.reduceEqDiff]
      exact ⟨rfl, _, rfl⟩
@[go_sem] theorem pu_May {x : In} {n locs : Int} (hl : locs ≤ 1000000) {K : Kp} : @Pu _ Tryz.prog 165 [enc x, .int .i64 n, .int .i64 locs] K = K.k (.t (.bool (mayI x n locs))) := (ins_May x n locs hl).pu

def Fl.gv (f : Fl) (n : Int) : Int := if n = 0 then f.v0 else if n = 1 then f.v1 else if n = 2 then f.v2 else if n = 3 then f.v3 else 0
def Fl.gp (f : Fl) (n : Int) : U32 := if n = 0 then f.d0 else if n = 1 then f.d1 else if n = 2 then f.d2 else if n = 3 then f.d3 else 0#32
def Fl.put (f : Fl) (n v : Int) (d : U32) : Fl :=
  if n = 0 then { f with v0 := v, d0 := d } else if n = 1 then { f with v1 := v, d1 := d } else if n = 2 then { f with v2 := v, d2 := d } else if n = 3 then { f with v3 := v, d3 := d } else f
theorem regs_in (n : Int) : Fun Tryz.prog 338 [.int .i64 n] (.t (.bool (decide (0 ≤ n ∧ n < 4)))) := by
  refine Fun.go (b := false) Tryz.func338 rfl rfl (by kernel_rfl) (by kernel_rfl) ?_
  by_cases h1 : 0 ≤ n <;> by_cases h2 : n < 4 <;> simp -implicitDefEqProofs (disch := first | exact dsch | fail) only [go_sem, ↓reduceIte, Nat.reduceEqDiff, h1, h2, and_self, true_and, false_and, and_true, and_false]
@[go_sem] theorem pu_rin {n : Int} {K : Kp} : @Pu _ Tryz.prog 338 [.int .i64 n] K = K.k (.t (.bool (decide (0 ≤ n ∧ n < 4)))) := (regs_in n).pu
theorem four {n : Int} (h : 0 ≤ n ∧ n < 4) : n = 0 ∨ n = 1 ∨ n = 2 ∨ n = 3 := by omega
theorem four_ne {n : Int} (h : ¬ (0 ≤ n ∧ n < 4)) : n ≠ 0 ∧ n ≠ 1 ∧ n ≠ 2 ∧ n ≠ 3 := by omega
theorem regs_Get (f : Fl) (n : Int) : Fun Tryz.prog 318 [enc f, .int .i64 n] (.tup [.t (.int .i64 (f.gv n)), .t (.int .u32 ((f.gp n).toNat : Int))]) := by
  refine Fun.go (b := false) Tryz.func318 rfl rfl (by kernel_rfl) (by kernel_rfl) ?_
  by_cases h : 0 ≤ n ∧ n < 4
  · rcases four h with rfl | rfl | rfl | rfl
    · simp -implicitDefEqProofs (disch := first | exact dsch | fail) only [go_sem, ↓reduceIte, Nat.reduceEqDiff]
      rfl
    · simp -implicitDefEqProofs (disch := first | exact dsch | fail) only [go_sem, ↓reduceIte, Nat.reduceEqDiff]
      rfl
    · simp -implicitDefEqProofs (disch := first | exact dsch | fail) only [go_sem, ↓reduceIte, Nat.reduceEqDiff]
      rfl
    · simp -implicitDefEqProofs (disch := first | exact dsch | fail) only [go_sem, ↓reduceIte, Nat.reduceEqDiff]
      rfl
  · obtain ⟨h0, h1, h2, h3⟩ := four_ne h
    simp -implicitDefEqProofs (disch := first | exact dsch | fail) only [go_sem, ↓reduceIte, Nat.reduceEqDiff, h]
    simp [Fl.gv, Fl.gp, h0, h1, h2, h3]
@[go_sem] theorem pu_rGet {f : Fl} {n : Int} {K : Kp} : @Pu _ Tryz.prog 318 [enc f, .int .i64 n] K = K.k (.tup [.t (.int .i64 (f.gv n)), .t (.int .u32 ((f.gp n).toNat : Int))]) := (regs_Get f n).pu
theorem regs_Set (f : Fl) (n v : Int) (d : U32) : Fun Tryz.prog 316 [enc f, .int .i64 n, .int .i64 v, .int .u32 (d.toNat : Int)] (.t (enc (f.put n v d))) := by
  refine Fun.go (b := false) Tryz.func316 rfl rfl (by kernel_rfl) (by kernel_rfl) ?_
  by_cases h : 0 ≤ n ∧ n < 4
  · rcases four h with rfl | rfl | rfl | rfl
    · simp -implicitDefEqProofs (disch := first | exact dsch | fail) only [go_sem, ↓reduceIte, Nat.reduceEqDiff]
      rfl
    · simp -implicitDefEqProofs (disch := first | exact dsch | fail) only [go_sem, ↓reduceIte, Nat.reduceEqDiff]
      rfl
    · simp -implicitDefEqProofs (disch := first | exact dsch | fail) only [go_sem, ↓reduceIte, Nat.reduceEqDiff]
      rfl
    · simp -implicitDefEqProofs (disch := first | exact dsch | fail) only [go_sem, ↓reduceIte, Nat.reduceEqDiff]
      rfl
  · obtain ⟨h0, h1, h2, h3⟩ := four_ne h
    simp -implicitDefEqProofs (disch := first | exact dsch | fail) only [go_sem, ↓reduceIte, Nat.reduceEqDiff, h]
    simp [Fl.put, h0, h1, h2, h3]
@[go_sem] theorem pu_rSet {f : Fl} {n v : Int} {d : U32} {K : Kp} : @Pu _ Tryz.prog 316 [enc f, .int .i64 n, .int .i64 v, .int .u32 (d.toNat : Int)] K = K.k (.t (enc (f.put n v d))) := (regs_Set f n v d).pu

theorem rest_eq {n b : Int} (h1 : 1 ≤ b) (h2 : b ≤ 1000) : (IntKind.i64.wrap (n.tmod b + b)).tmod b = n % b := by
  have a1 := Int.tmod_lt_of_pos n (show 0 < b by omega)
  have a2 := Int.lt_tmod_of_pos n (show 0 < b by omega)
  rw [wrap_i64 (by omega) (by omega), Int.tmod_eq_emod_of_nonneg (by omega), Int.add_emod_right, Int.tmod_def]
  have : n - b * n.tdiv b = n + b * (-(n.tdiv b)) := by rw [Int.mul_neg]; omega
  rw [this, Int.add_mul_emod_self_left]
theorem regs_rest (n b : Int) (h1 : 1 ≤ b) (h2 : b ≤ 1000) : Fun Tryz.prog 337 [.int .i64 n, .int .i64 b] (.t (.int .i64 (n % b))) := by
  have hb : b ≠ 0 := by omega
  refine Fun.go (b := false) Tryz.func337 rfl rfl (by kernel_rfl) (by kernel_rfl) ?_
  simp -implicitDefEqProofs (disch := first | exact dsch | fail) only [go_sem, ↓reduceIte, Nat.reduceEqDiff, hb, binT_rem hb, rest_eq h1 h2]
@[go_sem] theorem pu_rest {n b : Int} (h1 : 1 ≤ b) (h2 : b ≤ 1000) {K : Kp} : @Pu _ Tryz.prog 337 [.int .i64 n, .int .i64 b] K = K.k (.t (.int .i64 (n % b))) := (regs_rest n b h1 h2).pu

def placeL (f : Fl) (x : In) (locs : Int) : Int := if kindI x.op = 0 then 0 else (x.loc + f.gv x.a) % locs
def placeD (f : Fl) (x : In) : U32 := if kindI x.op = 0 then 0#32 else f.gp x.a
theorem regs_Place (f : Fl) (x : In) (locs : Int) (h1 : 1 ≤ locs) (h2 : locs ≤ 1000) : Fun Tryz.prog 314 [enc f, enc x, .int .i64 locs] (.tup [.t (.int .i64 (placeL f x locs)), .t (.int .u32 ((placeD f x).toNat : Int))]) := by
  refine Fun.go (b := false) Tryz.func314 rfl rfl (by kernel_rfl) (by kernel_rfl) ?_
  unfold placeL placeD
  by_cases hk : kindI x.op = 0
  · simp -implicitDefEqProofs (disch := first | exact dsch | fail) only [go_sem, ↓reduceIte, Nat.reduceEqDiff, hk]
  · have e1 := Int.emod_nonneg x.loc (show locs ≠ 0 by omega)
    have e2 := Int.emod_lt_of_pos x.loc (show 0 < locs by omega)
    have e3 := Int.emod_nonneg (f.gv x.a) (show locs ≠ 0 by omega)
    have e4 := Int.emod_lt_of_pos (f.gv x.a) (show 0 < locs by omega)
    rw [Int.add_emod]
    by_cases hc : locs - f.gv x.a % locs ≤ x.loc % locs
    · have e5 : (x.loc % locs + f.gv x.a % locs) % locs = x.loc % locs - (locs - f.gv x.a % locs) := by
        rw [show x.loc % locs + f.gv x.a % locs = (x.loc % locs - (locs - f.gv x.a % locs)) + locs by omega, Int.add_emod_right, Int.emod_eq_of_lt (by omega) (by omega)]
      simp -implicitDefEqProofs (disch := first | exact dsch | fail) only [go_sem, ↓reduceIte, Nat.reduceEqDiff, hk, hc, e5]
    · have e5 : (x.loc % locs + f.gv x.a % locs) % locs = x.loc % locs + f.gv x.a % locs := by
        rw [Int.emod_eq_of_lt (by omega) (by omega)]
      simp -implicitDefEqProofs (disch := first | exact dsch | fail) only [go_sem, ↓reduceIte, Nat.reduceEqDiff, hk, hc, e5]
@[go_sem] theorem pu_Place {f : Fl} {x : In} {locs : Int} (h1 : 1 ≤ locs) (h2 : locs ≤ 1000) {K : Kp} : @Pu _ Tryz.prog 314 [enc f, enc x, .int .i64 locs] K = K.k (.tup [.t (.int .i64 (placeL f x locs)), .t (.int .u32 ((placeD f x).toNat : Int))]) := (regs_Place f x locs h1 h2).pu

def opI (op a b : Int) : Int := if op = 2 then IntKind.i64.wrap (a + b) else if op = 3 then IntKind.i64.wrap (BitVec.ofInt IntKind.i64.bits a ^^^ BitVec.ofInt IntKind.i64.bits b).toNat else andI a b
def Fl.does (f : Fl) (x : In) : Fl := if x.op = 1 then f.put x.d x.imm 0#32 else if x.op = 2 ∨ x.op = 3 ∨ x.op = 4 then f.put x.d (opI x.op (f.gv x.a) (f.gv x.b)) (f.gp x.a ||| f.gp x.b) else f
theorem made2 (a b : Int) : Fun Tryz.prog 346 [.int .i64 a, .int .i64 b] (.t (.int .i64 (opI 2 a b))) := by
  refine Fun.go (b := false) Tryz.func346 rfl rfl (by kernel_rfl) (by kernel_rfl) ?_
  simp -implicitDefEqProofs (disch := first | exact dsch | fail) only [go_sem, ↓reduceIte, Nat.reduceEqDiff]
  rfl
theorem made3 (a b : Int) : Fun Tryz.prog 347 [.int .i64 a, .int .i64 b] (.t (.int .i64 (opI 3 a b))) := by
  refine Fun.go (b := false) Tryz.func347 rfl rfl (by kernel_rfl) (by kernel_rfl) ?_
  simp -implicitDefEqProofs (disch := first | exact dsch | fail) only [go_sem, ↓reduceIte, Nat.reduceEqDiff]
  rfl
theorem made4 (a b : Int) : Fun Tryz.prog 348 [.int .i64 a, .int .i64 b] (.t (.int .i64 (opI 4 a b))) := by
  refine Fun.go (b := false) Tryz.func348 rfl rfl (by kernel_rfl) (by kernel_rfl) ?_
  simp -implicitDefEqProofs (disch := first | exact dsch | fail) only [go_sem, ↓reduceIte, Nat.reduceEqDiff]
  rfl
theorem data_run {run : List T → Option T} {f : FuncId} {ts : List T} {x : T} (h : Orc.run f (ts.map .t) [] = dataRun run (ts.map .t) []) (e : run ts = some x) : Orc.run f (ts.map .t) [] = some (.t x, []) := by
  rw [h]
  have : ∀ ts : List T, (ts.map V.t).mapM pureV = some ts := by
    intro ts
    induction ts with
    | nil => rfl
    | cons a r ih => rw [List.map_cons, List.mapM_cons, ih]; rfl
  simp only [dataRun, this ts, Option.bind_some, e, Option.map_some]
theorem regs_makes (op : Int) (h0 : -9223372036854775808 ≤ op) (h1 : op ≤ 9223372036854775807) : Fun Tryz.prog 339 [.int .i64 op] (.t (if op = 2 then .fn 346 else if op = 3 then .fn 347 else if op = 4 then .fn 348 else .nilf)) := by
  have e : makesT [.int .i64 op] = some (if op = 2 then .fn 346 else if op = 3 then .fn 347 else if op = 4 then .fn 348 else .nilf) := by
    show (if -9223372036854775808 ≤ op ∧ op ≤ 9223372036854775807 then some _ else none) = _
    exact if_pos ⟨h0, h1⟩
  refine orc_fun (v := .t (if op = 2 then .fn 346 else if op = 3 then .fn 347 else if op = 4 then .fn 348 else .nilf)) (H := []) rfl (data_run rfl e) ?_
  rw [show isFresh Tryz.prog 339 = false by kernel_rfl, exportB_false, exportD_t]
theorem regs_Do (f : Fl) (x : In) (h0 : -9223372036854775808 ≤ x.op) (h1 : x.op ≤ 9223372036854775807) : Fun Tryz.prog 319 [enc f, enc x] (.t (enc (f.does x))) := by
  refine Fun.go (b := false) Tryz.func319 rfl rfl (by kernel_rfl) (by kernel_rfl) ?_
  unfold Fl.does
  have hm := regs_makes x.op h0 h1
  by_cases c1 : x.op = 1
  · rw [if_pos c1]
    simp -implicitDefEqProofs (disch := first | exact dsch | fail) only [go_sem, ↓reduceIte, Nat.reduceEqDiff, c1]
  rw [if_neg c1]
  by_cases c2 : x.op = 2
  · rw [if_pos c2] at hm
    rw [if_pos (.inl c2), c2]
    simp -implicitDefEqProofs (disch := first | exact dsch | fail) only [go_sem, ↓reduceIte, Nat.reduceEqDiff, c2, (c2 ▸ hm).pu, (made2 _ _).pu]
  by_cases c3 : x.op = 3
  · rw [if_neg c2, if_pos c3] at hm
    rw [if_pos (.inr (.inl c3)), c3]
    simp -implicitDefEqProofs (disch := first | exact dsch | fail) only [go_sem, ↓reduceIte, Nat.reduceEqDiff, c3, (c3 ▸ hm).pu, (made3 _ _).pu]
  by_cases c4 : x.op = 4
  · rw [if_neg c2, if_neg c3, if_pos c4] at hm
    rw [if_pos (.inr (.inr c4)), c4]
    simp -implicitDefEqProofs (disch := first | exact dsch | fail) only [go_sem, ↓reduceIte, Nat.reduceEqDiff, c4, (c4 ▸ hm).pu, (made4 _ _).pu]
  · rw [if_neg c2, if_neg c3, if_neg c4] at hm
    rw [if_neg (by omega)]
    simp -implicitDefEqProofs (disch := first | exact dsch | fail) only [go_sem, ↓reduceIte, Nat.reduceEqDiff, c1, c2, c3, c4, hm.pu]
@[go_sem] theorem pu_rDo {f : Fl} {x : In} (h0 : -9223372036854775808 ≤ x.op) (h1 : x.op ≤ 9223372036854775807) {K : Kp} : @Pu _ Tryz.prog 319 [enc f, enc x] K = K.k (.t (enc (f.does x))) := (regs_Do f x h0 h1).pu
end Go.Sim
