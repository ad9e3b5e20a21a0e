/- A part of the proof of a law of module cupola: TxI. It has no conditions of its own. -/
import Derived.Test.YtkfceeaokfdmfaaDoorStU
set_option linter.all false
namespace Go.Sim
open Enc (enc)
open Go.Proofs

def evalF (P : Program) (k : Nat) (f : FuncId) (ts : List T) : Option V := match funRun P k f (ts.map .t) [] with
  | some (v, H) => exportB (isFresh P f) H v
  | none => none
theorem Fun.eval {P : Program} {k : Nat} {f : FuncId} {ts : List T} {u : V} (h : evalF P k f ts = some u) : Fun P f ts u := by
  unfold evalF at h
  split at h
  · rename_i v H h1; exact ⟨k, v, H, h1, h⟩
  · cases h

structure In where
  op : Int
  d : Int
  a : Int
  b : Int
  loc : Int
  imm : Int
instance : Enc In := ⟨fun e => .agg [.int .i64 e.op, .int .i64 e.d, .int .i64 e.a, .int .i64 e.b, .int .i64 e.loc, .int .i64 e.imm], ⟨0, 0, 0, 0, 0, 0⟩, 6, by decide, fun _ => rfl⟩
@[go_sem] theorem cells_In (e : In) : (V.t (enc e)).cells = [.t (.int .i64 e.op), .t (.int .i64 e.d), .t (.int .i64 e.a), .t (.int .i64 e.b), .t (.int .i64 e.loc), .t (.int .i64 e.imm)] := rfl
@[go_sem] theorem stor_In (e : In) : (V.t (enc e)).storable = true := rfl
@[go_sem] theorem isAgg_In (e : In) : (V.t (enc e)).isAgg = true := rfl
@[go_sem] theorem rd_In (e : In) : rdV (.t (enc e)) 6 0 true 6 = some (.t (enc e)) := rfl
@[go_sem] theorem fits_In (e : In) : fits 6 (.t (enc e)) = true := rfl
@[go_sem] theorem cellsT_In (e : In) : (enc e : T).cells.length = 6 := rfl
@[go_sem] theorem noSl_In (e : In) : noSl (.t (enc e)) = false := rfl
@[go_sem] theorem noSl1_In (e : In) : noSl1 (.t (enc e)) = false := rfl
@[go_sem] theorem sz_In : Enc.sz In = 6 := rfl
@[go_sem] theorem fitsl_In (l : List In) : (vs l).all (fits 6) = true := by
  rw [List.all_eq_true]; intro v hv; obtain ⟨p, _, rfl⟩ := List.mem_map.1 hv; rfl
@[go_sem] theorem ix_In {H : Heap} {e : Nat} {l : List In} {i : Int} (h0 : 0 ≤ i) (h1 : i < l.length) : indexV H (.sl e) 6 (.t (enc l)) i = some (.tp (l.map enc) i.toNat 0) := ix_enc rfl h0 h1
@[go_sem] theorem ixex_In {H : Heap} {e : Nat} {l : List In} {i : Int} (h0 : 0 ≤ i) (h1 : i < l.length) : indexV H (.sl e) 6 (.ex (l.map enc)) i = some (.tp (l.map enc) i.toNat 0) := ix_In (H := H) (e := e) (l := l) h0 h1
@[go_sem] theorem load_In {H : Heap} {l : List In} {i off sz : Nat} {a : Bool} (h1 : i < l.length) : loadV H (some (a, sz)) (.tp (l.map enc) i off) = (rdV (.t (enc (gd l i))) 6 off a sz).bind fun u => some ⟨u, H, .none⟩ := load_tpc h1
@[go_sem] theorem load1_In {H : Heap} {id i off sz : Nat} {a : Bool} {l : List In} {st : Bool} (hi : i < l.length) : load1 H id ⟨vs l, 6, st⟩ i off a sz = (rdV (.t (enc (gd l i))) 6 off a sz).bind fun u => some ⟨u, H, .load id⟩ := load1_vsc hi
@[go_sem] theorem agg_In {x0 : Int} {x1 : Int} {x2 : Int} {x3 : Int} {x4 : Int} {x5 : Int} : T.agg [.int .i64 x0, .int .i64 x1, .int .i64 x2, .int .i64 x3, .int .i64 x4, .int .i64 x5] = enc (⟨x0, x1, x2, x3, x4, x5⟩ : In) := rfl
@[go_sem] theorem eta_In (e : In) : (⟨e.op, e.d, e.a, e.b, e.loc, e.imm⟩ : In) = e := rfl

def kindI (op : Int) : Int := if op = 5 ∨ op = 7 ∨ op = 9 then 1 else if op = 6 ∨ op = 8 ∨ op = 10 then 2 else 0
theorem ins_Kind (x : In) : Fun Tryd.prog 89 [enc x] (.t (.int .i64 (kindI x.op))) := by
  refine Fun.go (b := false) Tryd.func89 rfl rfl (by kernel_rfl) (by kernel_rfl) ?_
  unfold kindI
  by_cases h5 : x.op = 5
  · simp -implicitDefEqProofs (disch := first | exact dsch | fail) only [go_sem, ↓reduceIte, Nat.reduceEqDiff, h5]; rfl
  by_cases h7 : x.op = 7
  · simp -implicitDefEqProofs (disch := first | exact dsch | fail) only [go_sem, ↓reduceIte, Nat.reduceEqDiff, h7, h5]; rfl
  by_cases h9 : x.op = 9
  · simp -implicitDefEqProofs (disch := first | exact dsch | fail) only [go_sem, ↓reduceIte, Nat.reduceEqDiff, h9, h7, h5]; rfl
  by_cases h6 : x.op = 6
  · simp -implicitDefEqProofs (disch := first | exact dsch | fail) only [go_sem, ↓reduceIte, Nat.reduceEqDiff, h9, h7, h5, h6]; rfl
  by_cases h8 : x.op = 8
  · simp -implicitDefEqProofs (disch := first | exact dsch | fail) only [go_sem, ↓reduceIte, Nat.reduceEqDiff, h9, h7, h5, h6, h8]; rfl
  by_cases h10 : x.op = 10
  · simp -implicitDefEqProofs (disch := first | exact dsch | fail) only [go_sem, ↓reduceIte, Nat.reduceEqDiff, h9, h7, h5, h6, h8, h10]; rfl
  · simp -implicitDefEqProofs (disch := first | exact dsch | fail) only [go_sem, ↓reduceIte, Nat.reduceEqDiff, h9, h7, h5, h6, h8, h10]; rfl
@[go_sem] theorem pu_Kind {x : In} {K : Kp} : @Pu _ Tryd.prog 89 [enc x] K = K.k (.t (.int .i64 (kindI x.op))) := (ins_Kind x).pu

theorem ins_between (n a b : Int) : Fun Tryd.prog 136 [.int .i64 n, .int .i64 a, .int .i64 b] (.t (.bool (decide (a ≤ n) && decide (n ≤ b)))) := by
  refine Fun.go (b := false) Tryd.func136 rfl rfl (by kernel_rfl) (by kernel_rfl) ?_
  by_cases h1 : a ≤ n <;> simp -implicitDefEqProofs (disch := first | exact dsch | fail) only [go_sem, ↓reduceIte, Nat.reduceEqDiff, h1, Bool.true_and, Bool.false_and]
@[go_sem] theorem pu_between {n a b : Int} {K : Kp} : @Pu _ Tryd.prog 136 [.int .i64 n, .int .i64 a, .int .i64 b] K = K.k (.t (.bool (decide (a ≤ n) && decide (n ≤ b)))) := (ins_between n a b).pu

def immI (x : In) (behind : Int) : Bool :=
  if x.op = 1 then decide (-1000 ≤ x.imm) && decide (x.imm ≤ 1000) else if x.op = 11 then decide (0 ≤ x.imm) && decide (x.imm ≤ 2) else decide (0 ≤ x.imm) && decide (x.imm ≤ behind)
theorem ins_imm (x : In) (n : Int) : Fun Tryd.prog 137 [enc x, .int .i64 n] (.t (.bool (immI x n))) := by
  refine Fun.go (b := false) Tryd.func137 rfl rfl (by kernel_rfl) (by kernel_rfl) ?_
  unfold immI
  by_cases h1 : x.op = 1
  · simp -implicitDefEqProofs (disch := first | exact dsch | fail) only [go_sem, ↓reduceIte, Nat.reduceEqDiff, h1]
  by_cases h2 : x.op = 11
  · rw [if_neg h1, if_pos h2]; simp -implicitDefEqProofs (disch := first | exact dsch | fail) only [go_sem, ↓reduceIte, Nat.reduceEqDiff, h1, h2]
  · rw [if_neg h1, if_neg h2]; simp -implicitDefEqProofs (disch := first | exact dsch | fail) only [go_sem, ↓reduceIte, Nat.reduceEqDiff, h1, h2]
@[go_sem] theorem pu_imm {x : In} {n : Int} {K : Kp} : @Pu _ Tryd.prog 137 [enc x, .int .i64 n] K = K.k (.t (.bool (immI x n))) := (ins_imm x n).pu

def rowsI : List (ByteArray × Int) := [(⟨#[]⟩, 0), (⟨#[109, 111, 118]⟩, 17), (⟨#[97, 100, 100]⟩, 7), (⟨#[101, 111, 114]⟩, 7), (⟨#[97, 110, 100]⟩, 7), (⟨#[108, 100, 114]⟩, 11), (⟨#[115, 116, 114]⟩, 14), (⟨#[108, 100, 97, 114]⟩, 11), (⟨#[115, 116, 108, 114]⟩, 14), (⟨#[108, 100, 120, 114]⟩, 11), (⟨#[115, 116, 120, 114]⟩, 15), (⟨#[100, 109, 98]⟩, 16), (⟨#[105, 115, 98]⟩, 0), (⟨#[99, 98, 122]⟩, 18), (⟨#[99, 98, 110, 122]⟩, 18)]
def rowI (op : Int) : ByteArray × Int := if 0 ≤ op ∧ op < 15 then rowsI.getD op.toNat (⟨#[]⟩, 0) else (⟨#[]⟩, 0)
def rowsT : List T := rowsI.map fun r => .agg [.str r.1, .int .i64 r.2]
theorem ins_rows : Fun Tryd.prog 121 [] (.t (.sl rowsT)) := Fun.eval (k := 40) (by kernel_rfl)
theorem ins_of (op : Int) : Fun Tryd.prog 92 [.int .i64 op] (.t (.agg [.str (rowI op).1, .int .i64 (rowI op).2])) := by
  by_cases h : 0 ≤ op ∧ op < 15
  · obtain ⟨h0, h1⟩ := h
    obtain ⟨n, rfl⟩ := Int.eq_ofNat_of_zero_le h0
    match n, h1 with
    | 0, _ | 1, _ | 2, _ | 3, _ | 4, _ | 5, _ | 6, _ | 7, _ | 8, _ | 9, _ | 10, _ | 11, _ | 12, _ | 13, _ | 14, _ => exact Fun.eval (k := 40) (by kernel_rfl)
    | n + 15, h => omega
  · have hl : rowsT.length = 15 := rfl
    refine Fun.go (b := false) Tryd.func92 rfl rfl (by kernel_rfl) (by kernel_rfl) ?_
    have hr : rowI op = (⟨#[]⟩, 0) := by unfold rowI; rw [if_neg h]
    by_cases h0 : 0 ≤ op
    · have h1 : ¬ op < 15 := fun h1 => h ⟨h0, h1⟩
      simp -implicitDefEqProofs (disch := first | exact dsch | fail) only [go_sem, ↓reduceIte, Nat.reduceEqDiff, ins_rows.pu, h0, h1, hl]
      rw [hr]; rfl
    · simp -implicitDefEqProofs (disch := first | exact dsch | fail) only [go_sem, ↓reduceIte, Nat.reduceEqDiff, ins_rows.pu, h0]
      rw [hr]; rfl
@[go_sem] theorem pu_of {op : Int} {K : Kp} : @Pu _ Tryd.prog 92 [.int .i64 op] K = K.k (.t (.agg [.str (rowI op).1, .int .i64 (rowI op).2])) := (ins_of op).pu

structure Fi where
  bit : Int
  n : Int
  least : Int
  top : Int
instance : Enc Fi := ⟨fun e => .agg [.int .i64 e.bit, .int .i64 e.n, .int .i64 e.least, .int .i64 e.top], ⟨0, 0, 0, 0⟩, 4, by decide, fun _ => rfl⟩
@[go_sem] theorem cells_Fi (e : Fi) : (V.t (enc e)).cells = [.t (.int .i64 e.bit), .t (.int .i64 e.n), .t (.int .i64 e.least), .t (.int .i64 e.top)] := rfl
@[go_sem] theorem stor_Fi (e : Fi) : (V.t (enc e)).storable = true := rfl
@[go_sem] theorem isAgg_Fi (e : Fi) : (V.t (enc e)).isAgg = true := rfl
@[go_sem] theorem rd_Fi (e : Fi) : rdV (.t (enc e)) 4 0 true 4 = some (.t (enc e)) := rfl
@[go_sem] theorem fits_Fi (e : Fi) : fits 4 (.t (enc e)) = true := rfl
@[go_sem] theorem cellsT_Fi (e : Fi) : (enc e : T).cells.length = 4 := rfl
@[go_sem] theorem noSl_Fi (e : Fi) : noSl (.t (enc e)) = false := rfl
@[go_sem] theorem noSl1_Fi (e : Fi) : noSl1 (.t (enc e)) = false := rfl
@[go_sem] theorem sz_Fi : Enc.sz Fi = 4 := rfl
@[go_sem] theorem fitsl_Fi (l : List Fi) : (vs l).all (fits 4) = true := by
  rw [List.all_eq_true]; intro v hv; obtain ⟨p, _, rfl⟩ := List.mem_map.1 hv; rfl
@[go_sem] theorem ix_Fi {H : Heap} {e : Nat} {l : List Fi} {i : Int} (h0 : 0 ≤ i) (h1 : i < l.length) : indexV H (.sl e) 4 (.t (enc l)) i = some (.tp (l.map enc) i.toNat 0) := ix_enc rfl h0 h1
@[go_sem] theorem ixex_Fi {H : Heap} {e : Nat} {l : List Fi} {i : Int} (h0 : 0 ≤ i) (h1 : i < l.length) : indexV H (.sl e) 4 (.ex (l.map enc)) i = some (.tp (l.map enc) i.toNat 0) := ix_Fi (H := H) (e := e) (l := l) h0 h1
@[go_sem] theorem load_Fi {H : Heap} {l : List Fi} {i off sz : Nat} {a : Bool} (h1 : i < l.length) : loadV H (some (a, sz)) (.tp (l.map enc) i off) = (rdV (.t (enc (gd l i))) 4 off a sz).bind fun u => some ⟨u, H, .none⟩ := load_tpc h1
@[go_sem] theorem load1_Fi {H : Heap} {id i off sz : Nat} {a : Bool} {l : List Fi} {st : Bool} (hi : i < l.length) : load1 H id ⟨vs l, 4, st⟩ i off a sz = (rdV (.t (enc (gd l i))) 4 off a sz).bind fun u => some ⟨u, H, .load id⟩ := load1_vsc hi
@[go_sem] theorem agg_Fi {x0 : Int} {x1 : Int} {x2 : Int} {x3 : Int} : T.agg [.int .i64 x0, .int .i64 x1, .int .i64 x2, .int .i64 x3] = enc (⟨x0, x1, x2, x3⟩ : Fi) := rfl
@[go_sem] theorem eta_Fi (e : Fi) : (⟨e.bit, e.n, e.least, e.top⟩ : Fi) = e := rfl
def andI (a b : Int) : Int := IntKind.i64.wrap (BitVec.ofInt IntKind.i64.bits a &&& BitVec.ofInt IntKind.i64.bits b).toNat
@[go_sem] theorem andI_fold (a b : Int) : IntKind.i64.wrap (BitVec.ofInt IntKind.i64.bits a &&& BitVec.ofInt IntKind.i64.bits b).toNat = andI a b := rfl
@[go_sem high] theorem and_i64F {xb : Kd} {a b : Int} : binT .and xb (.int .i64 a) (.int .i64 b) = some (.int .i64 (andI a b)) := and_i64
def badF (f : Int) (x : Fi) : Bool := if andI f x.bit = 0 then !decide (x.n = 0) else !(decide (x.least ≤ x.n) && decide (x.n ≤ x.top))
def fieldsI (x : In) (locs : Int) : List Fi := [⟨1, x.d, 0, 3⟩, ⟨2, x.a, if kindI x.op = 0 then 0 else -1, 3⟩, ⟨4, x.b, 0, 3⟩, ⟨8, x.loc, 0, max locs 0 - 1⟩]
def mayI (x : In) (behind locs : Int) : Bool :=
  !((fieldsI x locs).any (badF (rowI x.op).2)) && (if andI (rowI x.op).2 16 = 0 then !((rowI x.op).1.toList == (ByteArray.mk #[]).toList) && decide (x.imm = 0) else immI x behind)
@[go_sem] theorem fieldsI_len (x : In) (locs : Int) : (fieldsI x locs).length = 4 := rfl
theorem any_take {α : Type} [Enc α] {l : List α} {f : α → Bool} {i : Nat} (h : i < l.length) : (l.take (i + 1)).any f = ((l.take i).any f || f (gd l i)) := by
  rw [← take_gd h, List.any_append]; simp
theorem any_end {α : Type} {l : List α} {f : α → Bool} {n : Nat} (h : l.length = n) : (l.take n).any f = l.any f := by rw [← h, List.take_length]
theorem ins_May (x : In) (n locs : Int) (hl : locs ≤ 1000000) : Fun Tryd.prog 119 [enc x, .int .i64 n, .int .i64 locs] (.t (.bool (mayI x n locs))) := by
  refine Fun.go (b := false) Tryd.func119 rfl rfl (by kernel_rfl) (by kernel_rfl) ?_
  by_cases hk : kindI x.op = 0
  all_goals
    have hf := congrArg (enc : List Fi → T) (show fieldsI x locs = [⟨1, x.d, 0, 3⟩, ⟨2, x.a, if kindI x.op = 0 then 0 else -1, 3⟩, ⟨4, x.b, 0, 3⟩, ⟨8, x.loc, 0, max locs 0 - 1⟩] from rfl)
    simp only [hk, if_true, if_false] at hf
    simp -implicitDefEqProofs (disch := first | exact dsch | fail) only [go_sem, ↓reduceIte, Nat.reduceEqDiff, hk, ← hf, fieldsI_len]
    refine loop_k (n := 4) [1, 3, 7, 37, 38] (by kernel_rfl) (fun i e H => e 39 = .t (.int .i64 i) ∧ ((fieldsI x locs).take i).any (badF (rowI x.op).2) = false ∧ ∃ R, H = ⟨[.t (enc x)], 6, false⟩ :: ⟨[.t (.agg [.str (rowI x.op).1, .int .i64 (rowI x.op).2])], 2, false⟩ :: R) ?_ ?_
    · rintro i e H hi hk2 ⟨hc, hb, R, rfl⟩
      have hfe := congrArg (fun l => V.ex (l.map enc)) (show fieldsI x locs = [⟨1, x.d, 0, 3⟩, ⟨2, x.a, if kindI x.op = 0 then 0 else -1, 3⟩, ⟨4, x.b, 0, 3⟩, ⟨8, x.loc, 0, max locs 0 - 1⟩] from rfl)
      simp only [hk, if_true, if_false, List.map_cons, List.map_nil] at hfe
      simp only [keepP, go_sem, Bool.false_eq_true, ↓reduceIte, Nat.reduceEqDiff, and_true] at hk2
      simp only [← hfe] at hk2
      by_cases hlt : i < 4
      · have hst := any_take (f := badF (rowI x.op).2) (l := fieldsI x locs) (i := i) (by rw [fieldsI_len]; exact hlt)
        rw [hb, Bool.false_or] at hst
        have hbad : badF (rowI x.op).2 (gd (fieldsI x locs) i) = true → mayI x n locs = false := by
          intro h
          unfold mayI
          rw [List.any_eq_true.2 ⟨_, gd_mem (by rw [fieldsI_len]; exact hlt), h⟩]; rfl
        have hv : badF (rowI x.op).2 (gd (fieldsI x locs) i) = if andI (rowI x.op).2 (gd (fieldsI x locs) i).bit = 0 then !decide ((gd (fieldsI x locs) i).n = 0) else !(decide ((gd (fieldsI x locs) i).least ≤ (gd (fieldsI x locs) i).n) && decide ((gd (fieldsI x locs) i).n ≤ (gd (fieldsI x locs) i).top)) := rfl
        rw [hv] at hst hbad
        by_cases hz : andI (rowI x.op).2 (gd (fieldsI x locs) i).bit = 0
        · rw [if_pos hz] at hst hbad
          by_cases hn : (gd (fieldsI x locs) i).n = 0
          · simp -implicitDefEqProofs (disch := first | exact dsch | fail) only [go_sem, ↓reduceIte, Nat.reduceEqDiff, hk2, hc, fieldsI_len, hz, hn]
            exact ⟨hlt, by rw [hst, hn]; rfl, _, rfl⟩
          · simp -implicitDefEqProofs (disch := first | exact dsch | fail) only [go_sem, ↓reduceIte, Nat.reduceEqDiff, hk2, hc, fieldsI_len, hz, hn]
            rw [hbad (by simp [hn])]
        · rw [if_neg hz] at hst hbad
          by_cases hn : (decide ((gd (fieldsI x locs) i).least ≤ (gd (fieldsI x locs) i).n) && decide ((gd (fieldsI x locs) i).n ≤ (gd (fieldsI x locs) i).top)) = true
          · simp -implicitDefEqProofs (disch := first | exact dsch | fail) only [go_sem, ↓reduceIte, Nat.reduceEqDiff, hk2, hc, fieldsI_len, hz, hn]
            exact ⟨hlt, by rw [hst, hn]; rfl, _, rfl⟩
          · rw [Bool.not_eq_true] at hn
            simp -implicitDefEqProofs (disch := first | exact dsch | fail) only [go_sem, ↓reduceIte, Nat.reduceEqDiff, hk2, hc, fieldsI_len, hz, hn]
            rw [hbad (by rw [hn]; rfl)]
      · obtain rfl : i = 4 := by omega
        rw [any_end (fieldsI_len x locs)] at hb
        have hm : mayI x n locs = if andI (rowI x.op).2 16 = 0 then !((rowI x.op).1.toList == (ByteArray.mk #[]).toList) && decide (x.imm = 0) else immI x n := by
          unfold mayI; rw [hb]; rfl
        rw [hm]
        by_cases hz : andI (rowI x.op).2 16 = 0
        · rw [if_pos hz]
          cases hs : ((rowI x.op).1.toList == (ByteArray.mk #[]).toList)
          · have hs' : eqB (rowI x.op).1 ⟨#[]⟩ = false := hs
            simp -implicitDefEqProofs (disch := first | exact dsch | fail) only [go_sem, ↓reduceIte, Nat.reduceEqDiff, hk2, hc, hz, hs', hs, Bool.not_false, Bool.true_and]
          · have hs' : eqB (rowI x.op).1 ⟨#[]⟩ = true := hs
            simp -implicitDefEqProofs (disch := first | exact dsch | fail) only [go_sem, ↓reduceIte, Nat.reduceEqDiff, hk2, hc, hz, hs', hs, Bool.not_true, Bool.false_and]
        · rw [if_neg hz]
          simp -implicitDefEqProofs (disch := first | exact dsch | fail) only [go_sem, ↓reduceIte, Nat.reduceEqDiff, hk2, hc, hz]
    · simp -implicitDefEqProofs (disch := first | exact dsch | fail) only [go_sem, ↓reduceIte, Nat.reduceEqDiff]
      exact ⟨rfl, _, rfl⟩
@[go_sem] theorem pu_May {x : In} {n locs : Int} (hl : locs ≤ 1000000) {K : Kp} : @Pu _ Tryd.prog 119 [enc x, .int .i64 n, .int .i64 locs] K = K.k (.t (.bool (mayI x n locs))) := (ins_May x n locs hl).pu

theorem ins_Name (op : Int) : Fun Tryd.prog 66 [.int .i64 op] (.t (.str (rowI op).1)) := by
  refine Fun.go (b := false) Tryd.func66 rfl rfl (by kernel_rfl) (by kernel_rfl) ?_
  simp -implicitDefEqProofs (disch := first | exact dsch | fail) only [go_sem, ↓reduceIte, Nat.reduceEqDiff]
@[go_sem] theorem pu_Name {op : Int} {K : Kp} : @Pu _ Tryd.prog 66 [.int .i64 op] K = K.k (.t (.str (rowI op).1)) := (ins_Name op).pu
def dI (op : Int) : Bool := decide (1 ≤ op ∧ op ≤ 4) || (decide (kindI op = 1) || decide (op = 10))
def aI (op : Int) : Bool := decide (2 ≤ op ∧ op ≤ 10) || (decide (op = 13) || decide (op = 14))
def bI (op : Int) : Bool := decide (2 ≤ op ∧ op ≤ 4) || decide (kindI op = 2)
def lI (op : Int) : Bool := !decide (kindI op = 0)
def mI (op : Int) : Bool := decide (op = 1) || (decide (op = 11) || (decide (op = 13) || decide (op = 14)))
theorem fld_all (op : Int) : (andI (rowI op).2 1 = 0 ↔ dI op = false) ∧ (andI (rowI op).2 2 = 0 ↔ aI op = false) ∧ (andI (rowI op).2 4 = 0 ↔ bI op = false) := by
  by_cases h : 0 ≤ op ∧ op < 15
  · obtain ⟨h0, h1⟩ := h
    obtain ⟨n, rfl⟩ := Int.eq_ofNat_of_zero_le h0
    match n, h1 with
    | 0, _ | 1, _ | 2, _ | 3, _ | 4, _ | 5, _ | 6, _ | 7, _ | 8, _ | 9, _ | 10, _ | 11, _ | 12, _ | 13, _ | 14, _ => decide +kernel
    | n + 15, h => omega
  · have hr : rowI op = (⟨#[]⟩, 0) := by unfold rowI; rw [if_neg h]
    have hk : kindI op = 0 := by unfold kindI; rw [if_neg (by omega), if_neg (by omega)]
    rw [hr]
    unfold dI aI bI
    rw [hk]
    refine ⟨⟨fun _ => ?_, fun _ => by decide +kernel⟩, ⟨fun _ => ?_, fun _ => by decide +kernel⟩, ⟨fun _ => ?_, fun _ => by decide +kernel⟩⟩ <;> simp <;> omega
theorem ins_Gives (x : In) : Fun Tryd.prog 87 [enc x] (.t (.int .i64 (if dI x.op then x.d else -1))) := by
  obtain ⟨h1, h2, h3⟩ := fld_all x.op
  refine Fun.go (b := false) Tryd.func87 rfl rfl (by kernel_rfl) (by kernel_rfl) ?_
  cases hd : dI x.op
  · have := h1.2 hd
    simp -implicitDefEqProofs (disch := first | exact dsch | fail) only [go_sem, ↓reduceIte, Nat.reduceEqDiff, this]
  · have : ¬ andI (rowI x.op).2 1 = 0 := fun e => by rw [h1.1 e] at hd; cases hd
    simp -implicitDefEqProofs (disch := first | exact dsch | fail) only [go_sem, ↓reduceIte, Nat.reduceEqDiff, this]
@[go_sem] theorem pu_Gives {x : In} {K : Kp} : @Pu _ Tryd.prog 87 [enc x] K = K.k (.t (.int .i64 (if dI x.op then x.d else -1))) := (ins_Gives x).pu
def usesL (op : Int) : List Int := (if aI op then [1] else []) ++ (if bI op then [2] else [])
theorem ins_Uses (op : Int) : Fun Tryd.prog 88 [enc (⟨op, 0, 1, 2, 0, 0⟩ : In)] (.t (enc (usesL op))) := by
  obtain ⟨h1, h2, h3⟩ := fld_all op
  unfold usesL
  have key : ∀ a b : Bool, aI op = a → bI op = b → Fun Tryd.prog 88 [enc (⟨op, 0, 1, 2, 0, 0⟩ : In)] (.t (enc ((if a then [(1 : Int)] else []) ++ (if b then [2] else [])))) := by
    intro a b ha hb
    refine Fun.go (b := false) Tryd.func88 rfl rfl (by kernel_rfl) (by kernel_rfl) ?_
    cases a
    · have e1 := h2.2 ha
      cases b
      · have e2 := h3.2 hb
        simp -implicitDefEqProofs (disch := first | exact dsch | fail) only [go_sem, ↓reduceIte, Nat.reduceEqDiff, e1, e2]
        all_goals rfl
      · have e2 : ¬ andI (rowI op).2 4 = 0 := fun e => by rw [h3.1 e] at hb; cases hb
        simp -implicitDefEqProofs (disch := first | exact dsch | fail) only [go_sem, ↓reduceIte, Nat.reduceEqDiff, e1, e2, app_one]
        all_goals exact acc_exp (R := [_]) (l := [(2 : Int)])
    · have e1 : ¬ andI (rowI op).2 2 = 0 := fun e => by rw [h2.1 e] at ha; cases ha
      cases b
      · have e2 := h3.2 hb
        simp -implicitDefEqProofs (disch := first | exact dsch | fail) only [go_sem, ↓reduceIte, Nat.reduceEqDiff, e1, e2, app_one]
        all_goals exact acc_exp (R := [_]) (l := [(1 : Int)])
      · have e2 : ¬ andI (rowI op).2 4 = 0 := fun e => by rw [h3.1 e] at hb; cases hb
        simp -implicitDefEqProofs (disch := first | exact dsch | fail) only [go_sem, ↓reduceIte, Nat.reduceEqDiff, e1, e2, app_one, List.length_cons, List.length_nil, List.cons_append, List.nil_append]
        all_goals exact acc_exp (R := [_]) (l := [(1 : Int), 2])
  exact key _ _ rfl rfl
@[go_sem] theorem pu_Uses {op : Int} {K : Kp} : @Pu _ Tryd.prog 88 [enc (⟨op, 0, 1, 2, 0, 0⟩ : In)] K = K.k (.t (enc (usesL op))) := (ins_Uses op).pu
end Go.Sim
