/- A part of the proof of a law of module cupola: RelSpec, Ev. It has no conditions of its own. -/
import Derived.Test.YtkfceeaokfdmfaaGreatDoorSimUu
set_option linter.all false
namespace Go.Sim
open Enc (enc)

def rowB (n : Nat) (q : Nat → Bool) : U32 := (BitVec.ofBoolListLE ((List.range 32).map fun k => decide (k < n) && q k)).cast (by simp)
theorem rowB_get {n : Nat} {q : Nat → Bool} {k : Nat} : (rowB n q).getLsbD k = (decide (k < 32) && (decide (k < n) && q k)) := by
  unfold rowB
  rw [BitVec.getLsbD_cast, BitVec.getLsbD_ofBoolListLE]
  by_cases h : k < 32
  · simp [h]
  · simp [h]
theorem rowB_eq {n : Nat} {q : Nat → Bool} {x : U32} (h : ∀ k, k < 32 → x.getLsbD k = (decide (k < n) && q k)) : x = rowB n q := by
  apply BitVec.eq_of_getLsbD_eq
  intro k hk
  rw [h k hk, rowB_get]; simp [hk]

abbrev Rl := List U32
def has (l : Rl) (i k : Nat) : Bool := decide (i < l.length) && (decide (k < l.length) && (gd l i).getLsbD k)
def mk (n : Nat) (p : Nat → Nat → Bool) : Rl := (List.range n).map fun i => rowB n (p i)
@[go_sem] theorem mk_len (n p) : (mk n p).length = n := by simp [mk]
theorem mk_gd {n : Nat} {p : Nat → Nat → Bool} {i : Nat} (h : i < n) : gd (mk n p) i = rowB n (p i) := by simp only [mk]; rw [gd_range _ h]
theorem has_mk {n : Nat} (hn : n ≤ 32) {p : Nat → Nat → Bool} {i k : Nat} : has (mk n p) i k = (decide (i < n) && (decide (k < n) && p i k)) := by
  unfold has
  rw [mk_len]
  by_cases h : i < n
  · by_cases h2 : k < n
    · rw [mk_gd h, rowB_get]; simp [h, h2]; omega
    · simp [h2]
  · simp [h]
theorem has_mk' {n : Nat} (hn : n ≤ 32) {p : Nat → Nat → Bool} {i k : Nat} (hi : i < n) (hk : k < n) : has (mk n p) i k = p i k := by rw [has_mk hn]; simp [hi, hk]
theorem mk_ext {n : Nat} {p q : Nat → Nat → Bool} (h : ∀ i k, i < n → k < n → p i k = q i k) : mk n p = mk n q := by
  unfold mk
  apply List.map_congr_left
  intro i hi
  have hi := List.mem_range.1 hi
  apply rowB_eq
  intro k hk
  rw [rowB_get]
  by_cases h2 : k < n
  · simp [hk, h2, h i k hi h2]
  · simp [h2]
theorem mk_has {n : Nat} {p : Nat → Nat → Bool} {l : Rl} (hl : l.length = n) (h : ∀ i k, i < n → (gd l i).getLsbD k = (decide (k < n) && p i k)) : l = mk n p := by
  apply gd_ext
  · rw [mk_len, hl]
  · intro i hi
    rw [mk_gd (by omega)]
    exact rowB_eq fun k _ => h i k (by omega)
theorem has_lt {l : Rl} {i k : Nat} (h : has l i k = true) : i < l.length ∧ k < l.length := by
  simp only [has, Bool.and_eq_true, decide_eq_true_eq] at h; exact ⟨h.1, h.2.1⟩
theorem has_out {l : Rl} {i k : Nat} (h : l.length ≤ i ∨ l.length ≤ k) : has l i k = false := by
  unfold has
  rcases h with h | h
  · have : ¬ i < l.length := by omega
    simp [this]
  · have : ¬ k < l.length := by omega
    simp [this]
theorem mk_inj {n : Nat} (hn : n ≤ 32) {p q : Nat → Nat → Bool} (h : mk n p = mk n q) {i k : Nat} (hi : i < n) (hk : k < n) : p i k = q i k := by
  rw [← has_mk' (p := p) hn hi hk, h, has_mk' hn hi hk]

def cln (l : Rl) : Rl := mk l.length (has l)
@[go_sem] theorem cln_len (l : Rl) : (cln l).length = l.length := by simp [cln, mk_len]
theorem has_cln {l : Rl} (h : l.length ≤ 32) {i k : Nat} : has (cln l) i k = has l i k := by
  rw [cln, has_mk h]; unfold has
  by_cases h1 : i < l.length <;> by_cases h2 : k < l.length <;> simp [h1, h2]
theorem cln_mk {n : Nat} (hn : n ≤ 32) (p) : cln (mk n p) = mk n p := by
  unfold cln
  rw [mk_len]
  exact mk_ext fun i k hi hk => has_mk' hn hi hk
theorem cln_gd {l : Rl} {i : Nat} (h : i < l.length) : gd (cln l) i = rowB l.length (has l i) := mk_gd h

def orR (a b : Rl) : Rl := mk a.length fun i k => has a i k || has b i k
def andR (a b : Rl) : Rl := mk a.length fun i k => has a i k && has b i k
def seqP (a b : Rl) (i k : Nat) : Bool := (List.range a.length).any fun j => has a i j && has b j k
def seqR (a b : Rl) : Rl := mk a.length (seqP a b)
def onlyR (a : Rl) (f t : U32) : Rl := mk a.length fun i k => has a i k && (f.getLsbD i && t.getLsbD k)
def crossR (n : Nat) (f t : U32) : Rl := mk n fun i k => f.getLsbD i && t.getLsbD k
def putR (a : Rl) (x y : Int) : Rl := mk a.length fun i k => has a i k || (decide ((i : Int) = x) && decide ((k : Int) = y))
def noneR (n : Nat) : Rl := mk n fun _ _ => false
def hasZ (l : Rl) (i k : Int) : Bool := decide (0 ≤ i) && (decide (0 ≤ k) && has l i.toNat k.toNat)
abbrev Way (l : Rl) (i k : Nat) : Prop := Relation.TransGen (fun a b => has l a b = true) i k
noncomputable def wayB (l : Rl) (i k : Nat) : Bool := @decide (Way l i k) (Classical.propDecidable _)
theorem wayB_iff {l : Rl} {i k : Nat} : wayB l i k = true ↔ Way l i k := by unfold wayB; exact @decide_eq_true_iff _ (Classical.propDecidable _)
noncomputable def plusR (a : Rl) : Rl := mk a.length (wayB a)
noncomputable def acyR (a : Rl) : Bool := (List.range a.length).all fun i => !wayB a i i
def sameR (a b : Rl) : Bool := decide (a.length = b.length) && (List.range a.length).all fun i => (List.range a.length).all fun k => has a i k == has b i k
def pairsR (a : Rl) : List (Int × Int) := (List.range a.length).flatMap fun i => ((List.range a.length).filter fun k => has a i k).map fun (k : Nat) => ((i : Int), (k : Int))

@[go_sem] theorem orR_len (a b) : (orR a b).length = a.length := by simp [orR, mk_len]
@[go_sem] theorem andR_len (a b) : (andR a b).length = a.length := by simp [andR, mk_len]
@[go_sem] theorem seqR_len (a b) : (seqR a b).length = a.length := by simp [seqR, mk_len]
@[go_sem] theorem onlyR_len (a b c) : (onlyR a b c).length = a.length := by simp [onlyR, mk_len]
@[go_sem] theorem crossR_len (a b c) : (crossR a b c).length = a := by simp [crossR, mk_len]
@[go_sem] theorem putR_len (a b c) : (putR a b c).length = a.length := by simp [putR, mk_len]
@[go_sem] theorem noneR_len (a) : (noneR a).length = a := by simp [noneR, mk_len]
@[go_sem] theorem plusR_len (a) : (plusR a).length = a.length := by simp [plusR, mk_len]

theorem way_lt {l : Rl} {i k : Nat} (h : Way l i k) : i < l.length ∧ k < l.length := by
  induction h with
  | single h => exact has_lt h
  | tail _ h ih => exact ⟨ih.1, (has_lt h).2⟩

theorem sameR_iff {a b : Rl} : sameR a b = true ↔ a.length = b.length ∧ ∀ i k, has a i k = has b i k := by
  simp only [sameR, Bool.and_eq_true, decide_eq_true_eq, List.all_eq_true, List.mem_range, beq_iff_eq]
  constructor
  · rintro ⟨h1, h2⟩
    refine ⟨h1, fun i k => ?_⟩
    by_cases hi : i < a.length
    · by_cases hk : k < a.length
      · exact h2 i hi k hk
      · rw [has_out (.inr (by omega)), has_out (.inr (by omega))]
    · rw [has_out (.inl (by omega)), has_out (.inl (by omega))]
  · rintro ⟨h1, h2⟩; exact ⟨h1, fun i _ k _ => h2 i k⟩
theorem sameR_cln {a b : Rl} (ha : a.length ≤ 32) (hb : b.length ≤ 32) : sameR a b = decide (cln a = cln b) := by
  rw [Bool.eq_iff_iff, sameR_iff, decide_eq_true_eq]
  constructor
  · rintro ⟨h1, h2⟩
    unfold cln; rw [h1]; exact mk_ext fun i k _ _ => h2 i k
  · intro h
    have h1 : a.length = b.length := by rw [← cln_len a, h, cln_len]
    exact ⟨h1, fun i k => by rw [← has_cln ha, h, has_cln hb]⟩

inductive Mid (l : Rl) (j : Nat) : Nat → Nat → Prop
  | one {i k} (h : has l i k = true) : Mid l j i k
  | more {i m k} (h : Mid l j i m) (hm : m < j) (h2 : Mid l j m k) : Mid l j i k
theorem Mid.mono {l : Rl} {j j' : Nat} (h : j ≤ j') {i k : Nat} (w : Mid l j i k) : Mid l j' i k := by
  induction w with
  | one h => exact .one h
  | more _ hm _ ih1 ih2 => exact .more ih1 (by omega) ih2
theorem Mid.step {l : Rl} {j i k : Nat} : Mid l (j + 1) i k ↔ Mid l j i k ∨ (Mid l j i j ∧ Mid l j j k) := by
  constructor
  · intro w
    induction w with
    | one h => exact .inl (.one h)
    | @more i m k h hm h2 ih1 ih2 =>
      by_cases hmj : m = j
      · subst hmj
        right
        refine ⟨?_, ?_⟩
        · rcases ih1 with h | h
          · exact h
          · exact h.1
        · rcases ih2 with h | h
          · exact h
          · exact h.2
      · have hm : m < j := by omega
        rcases ih1 with a | a <;> rcases ih2 with b | b
        · exact .inl (.more a hm b)
        · exact .inr ⟨.more a hm b.1, b.2⟩
        · exact .inr ⟨a.1, .more a.2 hm b⟩
        · exact .inr ⟨a.1, b.2⟩
  · rintro (h | ⟨h1, h2⟩)
    · exact h.mono (by omega)
    · exact .more (h1.mono (by omega)) (by omega) (h2.mono (by omega))
theorem mid_way {l : Rl} {i k : Nat} : Mid l l.length i k ↔ Way l i k := by
  constructor
  · intro w
    induction w with
    | one h => exact .single h
    | more _ _ _ ih1 ih2 => exact ih1.trans ih2
  · intro w
    induction w with
    | single h => exact .one h
    | tail _ h ih => exact .more ih (has_lt h).1 (.one h)
theorem mid_zero {l : Rl} {i k : Nat} : Mid l 0 i k ↔ has l i k = true := by
  constructor
  · intro w; cases w with
    | one h => exact h
    | more _ hm _ => omega
  · exact .one
noncomputable def midB (l : Rl) (j i k : Nat) : Bool := @decide (Mid l j i k) (Classical.propDecidable _)
theorem midB_iff {l : Rl} {j i k : Nat} : midB l j i k = true ↔ Mid l j i k := by unfold midB; exact @decide_eq_true_iff _ (Classical.propDecidable _)
theorem midB_zero {l : Rl} : midB l 0 = has l := by
  funext i k; rw [Bool.eq_iff_iff, midB_iff, mid_zero]
theorem midB_all {l : Rl} : midB l l.length = wayB l := by
  funext i k; rw [Bool.eq_iff_iff, midB_iff, wayB_iff, mid_way]
theorem midB_step {l : Rl} {j i k : Nat} : midB l (j + 1) i k = (midB l j i k || (midB l j i j && midB l j j k)) := by
  rw [Bool.eq_iff_iff]; simp only [Bool.or_eq_true, Bool.and_eq_true, midB_iff]; exact Mid.step

def seqAcc (x : U32) (y : Rl) : Nat → U32
  | 0 => 0#32
  | j + 1 => if x.getLsbD j then seqAcc x y j ||| gd y j else seqAcc x y j
theorem seqAcc_get {x : U32} {y : Rl} {k : Nat} : ∀ j, (seqAcc x y j).getLsbD k = (List.range j).any fun m => x.getLsbD m && (gd y m).getLsbD k
  | 0 => by simp [seqAcc]
  | j + 1 => by
    rw [List.range_succ, List.any_append, ← seqAcc_get j]
    cases h : x.getLsbD j <;> simp [seqAcc, h]
theorem seqAcc_eq {a b : Rl} (hb : b.length = a.length) (ha : a.length ≤ 32) {i : Nat} (hi : i < a.length) : seqAcc (gd (cln a) i) (cln b) a.length = rowB a.length (seqP a b i) := by
  apply rowB_eq
  intro k hk
  rw [seqAcc_get, seqP]
  rw [Bool.eq_iff_iff]
  simp only [List.any_eq_true, Bool.and_eq_true, List.mem_range, decide_eq_true_eq]
  constructor
  · rintro ⟨m, hm, h1, h2⟩
    rw [cln_gd hi, rowB_get] at h1
    rw [cln_gd (by omega), rowB_get] at h2
    simp only [Bool.and_eq_true, decide_eq_true_eq] at h1 h2
    exact ⟨by omega, m, hm, h1.2.2, h2.2.2⟩
  · rintro ⟨h0, m, hm, h1, h2⟩
    refine ⟨m, hm, ?_, ?_⟩
    · rw [cln_gd hi, rowB_get]; simp [h1, hm]; omega
    · rw [cln_gd (by omega), rowB_get]; simp [h2, hk]; omega

def rowPairs (a : Rl) (i j : Nat) : List (Int × Int) := ((List.range j).filter fun k => has a i k).map fun (k : Nat) => ((i : Int), (k : Int))
def pairsTo (a : Rl) (i : Nat) : List (Int × Int) := (List.range i).flatMap fun i => rowPairs a i a.length
theorem pairsTo_all (a : Rl) : pairsTo a a.length = pairsR a := rfl
theorem pairsTo_succ (a : Rl) (i : Nat) : pairsTo a (i + 1) = pairsTo a i ++ rowPairs a i a.length := by simp [pairsTo, List.range_succ, List.flatMap_append]
theorem rowPairs_succ (a : Rl) (i j : Nat) : rowPairs a i (j + 1) = if has a i j then rowPairs a i j ++ [((i : Int), (j : Int))] else rowPairs a i j := by
  unfold rowPairs
  rw [List.range_succ, List.filter_append, List.map_append]
  cases h : has a i j <;> simp [h]
theorem rowPairs_len (a : Rl) (i j : Nat) : (rowPairs a i j).length ≤ j := by
  unfold rowPairs
  rw [List.length_map]
  exact Nat.le_trans (List.length_filter_le _ _) (by simp)
theorem pairsTo_len (a : Rl) (i : Nat) : (pairsTo a i).length ≤ i * a.length := by
  induction i with
  | zero => simp [pairsTo]
  | succ i ih => rw [pairsTo_succ, List.length_append, Nat.succ_mul]; have := rowPairs_len a i a.length; omega
theorem mem_pairsR {a : Rl} {p : Int × Int} : p ∈ pairsR a ↔ ∃ i k : Nat, p = ((i : Int), (k : Int)) ∧ has a i k = true := by
  simp only [pairsR, List.mem_flatMap, List.mem_range, List.mem_map, List.mem_filter]
  constructor
  · rintro ⟨i, _, k, ⟨_, h⟩, rfl⟩; exact ⟨i, k, rfl, h⟩
  · rintro ⟨i, k, rfl, h⟩; exact ⟨i, (has_lt h).1, k, ⟨(has_lt h).2, h⟩, rfl⟩
end Go.Sim

namespace Go.Sim
open Enc (enc)
variable [Orc]
structure Ev where
  thread : Int
  kind : Int
  loc : Int
  val : Int
  acq : Bool
  rel : Bool
  excl : Bool
  deriving DecidableEq
instance : Enc Ev := ⟨fun e => .agg [.int .i64 e.thread, .int .i64 e.kind, .int .i64 e.loc, .int .i64 e.val, .bool e.acq, .bool e.rel, .bool e.excl], ⟨0, 0, 0, 0, false, false, false⟩, 7, by decide, fun _ => rfl⟩
omit [Orc] in
@[go_sem] theorem cells_ev (e : Ev) : (V.t (enc e)).cells = [.t (.int .i64 e.thread), .t (.int .i64 e.kind), .t (.int .i64 e.loc), .t (.int .i64 e.val), .t (.bool e.acq), .t (.bool e.rel), .t (.bool e.excl)] := rfl
omit [Orc] in
@[go_sem] theorem stor_ev (e : Ev) : (V.t (enc e)).storable = true := rfl
omit [Orc] in
@[go_sem] theorem isAgg_ev (e : Ev) : (V.t (enc e)).isAgg = true := rfl
omit [Orc] in
@[go_sem] theorem rd_ev (e : Ev) : rdV (.t (enc e)) 7 0 true 7 = some (.t (enc e)) := rfl
omit [Orc] in
@[go_sem] theorem ix_ev {H : Heap} {e : Nat} {l : List Ev} {i : Int} (h0 : 0 ≤ i) (h1 : i < l.length) : indexV H (.sl e) 7 (.t (enc l)) i = some (.tp (l.map enc) i.toNat 0) := ix_enc rfl h0 h1
omit [Orc] in
@[go_sem] theorem load_ev {H : Heap} {l : List Ev} {i off sz : Nat} {a : Bool} (h1 : i < l.length) : loadV H (some (a, sz)) (.tp (l.map enc) i off) = (rdV (.t (enc (gd l i))) 7 off a sz).bind fun u => some ⟨u, H, .none⟩ := load_tpc h1

structure Ex where
  ev : List Ev
  po : Rl
  addr : Rl
  data : Rl
  ctrl : Rl
  rmw : Rl
  regs : List (List Int)
instance : Enc Ex := ⟨fun e => .agg [enc e.ev, enc e.po, enc e.addr, enc e.data, enc e.ctrl, enc e.rmw, enc e.regs], ⟨[], [], [], [], [], [], []⟩, 7, by decide, fun _ => rfl⟩
omit [Orc] in
@[go_sem] theorem cells_ex' (e : Ex) : (V.t (enc e)).cells = [.t (enc e.ev), .t (enc e.po), .t (enc e.addr), .t (enc e.data), .t (enc e.ctrl), .t (enc e.rmw), .t (enc e.regs)] := rfl
omit [Orc] in
@[go_sem] theorem stor_ex' (e : Ex) : (V.t (enc e)).storable = true := rfl
omit [Orc] in
@[go_sem] theorem isAgg_ex (e : Ex) : (V.t (enc e)).isAgg = true := rfl
omit [Orc] in
@[go_sem] theorem rd_ex (e : Ex) : rdV (.t (enc e)) 7 0 true 7 = some (.t (enc e)) := rfl
omit [Orc] in
@[go_sem] theorem wrV_w {v u : V} {esz : Nat} (h : u.cells.length = esz) : wrV v esz 0 u = some u := wr_whole h
omit [Orc] in
@[go_sem] theorem wrV_part {v u : V} {esz off : Nat} (h0 : 0 < off) (h : off + u.cells.length ≤ v.cells.length) : wrV v esz off u = some (mkAgg (v.cells.take off ++ u.cells ++ v.cells.drop (off + u.cells.length))) := by
  have : ¬ (off = 0 ∧ u.cells.length = esz) := by omega
  simp [wrV, this, h]
end Go.Sim
