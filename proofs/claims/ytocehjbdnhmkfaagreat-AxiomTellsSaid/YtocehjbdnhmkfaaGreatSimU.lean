/- A part of the proof of a law of module cupola: SimU. It has no conditions of its own. -/
import Derived.Test.YtocehjbdnhmkfaaGreatSimL
set_option linter.all false
/-! Values of Lean as trees; numbers of 32 bits; rules whose conditions are of numbers alone. -/
namespace Go.Sim

/-- What is written as a tree. -/
class Enc (α : Type) where
  enc : α → T
  dflt : α
  sz : Nat
  pos : 0 < sz
  cells : ∀ a, (enc a).cells.length = sz
open Enc (enc)

abbrev U32 := BitVec 32

instance : Enc Int := ⟨fun n => .int .i64 n, 0, 1, by decide, fun _ => rfl⟩
instance : Enc U32 := ⟨fun n => .int .u32 n.toNat, 0#32, 1, by decide, fun _ => rfl⟩
instance : Enc Bool := ⟨fun b => .bool b, false, 1, by decide, fun _ => rfl⟩
instance : Enc ByteArray := ⟨fun b => .str b, ByteArray.empty, 1, by decide, fun _ => rfl⟩
instance {α : Type} [Enc α] : Enc (List α) := ⟨fun l => .sl (l.map enc), [], 1, by decide, fun _ => rfl⟩

/-- An element. -/
def gd {α : Type} [Enc α] (l : List α) (i : Nat) : α := l.getD i Enc.dflt
theorem gd_get {α : Type} [Enc α] {l : List α} {i : Nat} (h : i < l.length) : l[i] = gd l i := by simp [gd, h]
theorem gd_opt {α : Type} [Enc α] {l : List α} {i : Nat} (h : i < l.length) : l[i]? = some (gd l i) := by simp [gd, h]
theorem gd_range {α : Type} [Enc α] (f : Nat → α) {n i : Nat} (h : i < n) : gd ((List.range n).map f) i = f i := by simp [gd, h]
theorem gd_map {α β : Type} [Enc α] [Enc β] (f : α → β) {l : List α} {i : Nat} (h : i < l.length) : gd (l.map f) i = f (gd l i) := by simp [gd, h]
theorem gd_app_l {α : Type} [Enc α] {l m : List α} {i : Nat} (h : i < l.length) : gd (l ++ m) i = gd l i := by simp [gd, List.getElem?_append_left h]
theorem gd_app_r {α : Type} [Enc α] {l m : List α} {i : Nat} (h : l.length ≤ i) : gd (l ++ m) i = gd m (i - l.length) := by simp [gd, List.getElem?_append_right h]
theorem gd_rep {α : Type} [Enc α] {a : α} {n i : Nat} (h : i < n) : gd (List.replicate n a) i = a := by simp [gd, h]
theorem gd_set_eq {α : Type} [Enc α] {l : List α} {i : Nat} {a : α} (h : i < l.length) : gd (l.set i a) i = a := by simp [gd, h]
theorem gd_set_ne {α : Type} [Enc α] {l : List α} {i j : Nat} {a : α} (h : i ≠ j) : gd (l.set i a) j = gd l j := by simp [gd, List.getElem?_set_ne h]
theorem gd_mem {α : Type} [Enc α] {l : List α} {i : Nat} (h : i < l.length) : gd l i ∈ l := by rw [← gd_get h]; exact List.getElem_mem h
theorem gd_ext {α : Type} [Enc α] {l m : List α} (h : l.length = m.length) (k : ∀ i, i < l.length → gd l i = gd m i) : l = m := by
  refine List.ext_getElem h fun i h1 h2 => ?_
  rw [gd_get h1, gd_get h2]; exact k i h1
theorem take_gd {α : Type} [Enc α] {l : List α} {i : Nat} (h : i < l.length) : l.take i ++ [gd l i] = l.take (i + 1) := by
  rw [← gd_get h, List.take_succ_eq_append_getElem h]

/-- A list of which the first ones are told anew. -/
def fillTo {α : Type} (f : Nat → α) (m : List α) (i : Nat) : List α := (List.range i).map f ++ m.drop i
theorem fill_zero {α : Type} (f : Nat → α) (m : List α) : fillTo f m 0 = m := by simp [fillTo]
theorem fill_all {α : Type} (f : Nat → α) (m : List α) : fillTo f m m.length = (List.range m.length).map f := by simp [fillTo]
theorem fill_len {α : Type} {f : Nat → α} {m : List α} {i : Nat} (h : i ≤ m.length) : (fillTo f m i).length = m.length := by simp [fillTo]; omega
theorem fill_set {α : Type} {f : Nat → α} {m : List α} {i : Nat} (h : i < m.length) : (fillTo f m i).set i (f i) = fillTo f m (i + 1) := by
  unfold fillTo
  rw [List.set_append_right _ _ (by simp), List.range_succ, List.map_append, List.append_assoc]
  congr 1
  simp only [List.length_map, List.length_range, Nat.sub_self, List.map_cons, List.map_nil, List.singleton_append]
  rw [List.drop_eq_getElem_cons h, List.set_cons_zero]
theorem fill_lt {α : Type} [Enc α] {f : Nat → α} {m : List α} {i j : Nat} (h : j < i) : gd (fillTo f m i) j = f j := by
  unfold fillTo; rw [gd_app_l (by simpa using h), gd_range _ h]
theorem fill_ge {α : Type} [Enc α] {f : Nat → α} {m : List α} {i j : Nat} (h : i ≤ j) : gd (fillTo f m i) j = gd m j := by
  unfold fillTo; rw [gd_app_r (by simpa using h)]; simp [gd]; congr 1; congr 1; omega

/-- The elements, as they lie in the heap. -/
def vs {α : Type} [Enc α] (l : List α) : List V := l.map fun a => .t (enc a)

theorem tolen {α : Type} {l : List α} {i : Int} (h0 : 0 ≤ i) (h1 : i < l.length) : i.toNat < l.length := by omega

section
variable {α : Type} [Enc α]
@[go_sem] theorem enc_int (n : Int) : enc n = .int .i64 n := rfl
@[go_sem] theorem enc_u32 (n : U32) : enc n = .int .u32 n.toNat := rfl
@[go_sem] theorem enc_bool (b : Bool) : enc b = .bool b := rfl
@[go_sem] theorem enc_str (b : ByteArray) : enc b = .str b := rfl
theorem enc_list (l : List α) : enc l = .sl (l.map enc) := rfl
@[go_sem] theorem sl_enc (l : List α) : T.sl (l.map enc) = enc l := rfl
@[go_sem] theorem vs_len (l : List α) : (vs l).length = l.length := by simp [vs]
@[go_sem] theorem vs_nil : vs ([] : List α) = [] := rfl
@[go_sem] theorem map_t_enc (l : List α) : (l.map enc).map V.t = vs l := by simp [vs]
@[go_sem] theorem vs_app (l m : List α) : vs l ++ vs m = vs (l ++ m) := by simp [vs]
theorem vs_get (l : List α) (i : Nat) (h : i < l.length) : (vs l)[i]? = some (.t (enc (gd l i))) := by simp [vs, gd, h]
theorem vs_set (l : List α) (i : Nat) (a : α) : (vs l).set i (.t (enc a)) = vs (l.set i a) := by simp [vs, List.map_set]
theorem vs_rep (n : Nat) (a : α) : List.replicate n (V.t (enc a)) = vs (List.replicate n a) := by simp [vs]
theorem vs_mapM (H : Heap) (n : Nat) (l : List α) : (vs l).mapM (toT H n) = some (l.map enc) := by
  rw [← map_t_enc, mapM_t]

@[go_sem] theorem lenT_enc (H e) (l : List α) : lenT H (.sl e) (.t (enc l)) = some ⟨.t (.int .i64 l.length), H, .none⟩ := by
  show some _ = _
  simp [enc_list, effL]
@[go_sem] theorem noSl_enc (l : List α) : noSl (.t (enc l)) = false := rfl

theorem ix_enc {H : Heap} {e sz : Nat} {l : List α} {i : Int} (hs : Enc.sz α = sz) (h0 : 0 ≤ i) (h1 : i < l.length) : indexV H (.sl e) sz (.t (enc l)) i = some (.tp (l.map enc) i.toNat 0) := by
  subst hs
  have := Enc.pos (α := α)
  have := tolen h0 h1
  simp [enc_list, indexV, Enc.cells, *]
theorem ix_own {H : Heap} {e sz id n : Nat} {o : Obj} {i : Int} (h : H[id]? = some o) (hn : o.el.length = n) (hs : o.esz = sz) (hp : 0 < sz) (h0 : 0 ≤ i) (h1 : i < n) : indexV H (.sl e) sz (.ref id n) i = some (.ptr id n i.toNat 0) := by
  simp [indexV, cur, h, hn, h0, h1, hs, hp]
end

/-! Numbers of 32 bits -/
@[go_sem] theorem add_i64 {xb a b} : binT .add xb (.int .i64 a) (.int .i64 b) = some (.int .i64 (IntKind.i64.wrap (a + b))) := binT_add
@[go_sem] theorem mul_i64 {xb a b} : binT .mul xb (.int .i64 a) (.int .i64 b) = some (.int .i64 (IntKind.i64.wrap (a * b))) := binT_mul
@[go_sem] theorem add_u64 {xb a b} : binT .add xb (.int .u64 a) (.int .u64 b) = some (.int .u64 (IntKind.u64.wrap (a + b))) := binT_add
@[go_sem] theorem mul_u64 {xb a b} : binT .mul xb (.int .u64 a) (.int .u64 b) = some (.int .u64 (IntKind.u64.wrap (a * b))) := binT_mul
@[go_sem] theorem add_u8 {xb a b} : binT .add xb (.int .u8 a) (.int .u8 b) = some (.int .u8 (IntKind.u8.wrap (a + b))) := binT_add
@[go_sem] theorem mul_u8 {xb a b} : binT .mul xb (.int .u8 a) (.int .u8 b) = some (.int .u8 (IntKind.u8.wrap (a * b))) := binT_mul
@[go_sem] theorem add_i32 {xb a b} : binT .add xb (.int .i32 a) (.int .i32 b) = some (.int .i32 (IntKind.i32.wrap (a + b))) := binT_add
@[go_sem] theorem mul_i32 {xb a b} : binT .mul xb (.int .i32 a) (.int .i32 b) = some (.int .i32 (IntKind.i32.wrap (a * b))) := binT_mul
@[go_sem] theorem eql_i64 {xb a b} : binT .eql xb (.int .i64 a) (.int .i64 b) = some (.bool (decide (a = b))) := binT_eql
@[go_sem] theorem neq_i64 {xb a b} : binT .neq xb (.int .i64 a) (.int .i64 b) = some (.bool (!decide (a = b))) := binT_neq
@[go_sem] theorem and_i64 {xb a b} : binT .and xb (.int .i64 a) (.int .i64 b) = some (.int .i64 (IntKind.i64.wrap (BitVec.ofInt IntKind.i64.bits a &&& BitVec.ofInt IntKind.i64.bits b).toNat)) := binT_and
@[go_sem] theorem or_i64 {xb a b} : binT .or xb (.int .i64 a) (.int .i64 b) = some (.int .i64 (IntKind.i64.wrap (BitVec.ofInt IntKind.i64.bits a ||| BitVec.ofInt IntKind.i64.bits b).toNat)) := binT_or
@[go_sem] theorem xor_i64 {xb a b} : binT .xor xb (.int .i64 a) (.int .i64 b) = some (.int .i64 (IntKind.i64.wrap (BitVec.ofInt IntKind.i64.bits a ^^^ BitVec.ofInt IntKind.i64.bits b).toNat)) := binT_xor
@[go_sem] theorem andNot_i64 {xb a b} : binT .andNot xb (.int .i64 a) (.int .i64 b) = some (.int .i64 (IntKind.i64.wrap (BitVec.ofInt IntKind.i64.bits a &&& ~~~ BitVec.ofInt IntKind.i64.bits b).toNat)) := binT_andNot
@[go_sem] theorem shl_i64 {xb k' a b} (h : 0 ≤ b) : binT .shl xb (.int .i64 a) (.int k' b) = some (.int .i64 (IntKind.i64.wrap (a * 2 ^ min b.toNat IntKind.i64.bits))) := binT_shl h
@[go_sem] theorem shr_i64 {xb k' a b} (h : 0 ≤ b) : binT .shr xb (.int .i64 a) (.int k' b) = some (.int .i64 (a.fdiv (2 ^ min b.toNat IntKind.i64.bits))) := binT_shr h
@[go_sem] theorem eql_u64 {xb a b} : binT .eql xb (.int .u64 a) (.int .u64 b) = some (.bool (decide (a = b))) := binT_eql
@[go_sem] theorem neq_u64 {xb a b} : binT .neq xb (.int .u64 a) (.int .u64 b) = some (.bool (!decide (a = b))) := binT_neq
@[go_sem] theorem and_u64 {xb a b} : binT .and xb (.int .u64 a) (.int .u64 b) = some (.int .u64 (IntKind.u64.wrap (BitVec.ofInt IntKind.u64.bits a &&& BitVec.ofInt IntKind.u64.bits b).toNat)) := binT_and
@[go_sem] theorem or_u64 {xb a b} : binT .or xb (.int .u64 a) (.int .u64 b) = some (.int .u64 (IntKind.u64.wrap (BitVec.ofInt IntKind.u64.bits a ||| BitVec.ofInt IntKind.u64.bits b).toNat)) := binT_or
@[go_sem] theorem xor_u64 {xb a b} : binT .xor xb (.int .u64 a) (.int .u64 b) = some (.int .u64 (IntKind.u64.wrap (BitVec.ofInt IntKind.u64.bits a ^^^ BitVec.ofInt IntKind.u64.bits b).toNat)) := binT_xor
@[go_sem] theorem andNot_u64 {xb a b} : binT .andNot xb (.int .u64 a) (.int .u64 b) = some (.int .u64 (IntKind.u64.wrap (BitVec.ofInt IntKind.u64.bits a &&& ~~~ BitVec.ofInt IntKind.u64.bits b).toNat)) := binT_andNot
@[go_sem] theorem shl_u64 {xb k' a b} (h : 0 ≤ b) : binT .shl xb (.int .u64 a) (.int k' b) = some (.int .u64 (IntKind.u64.wrap (a * 2 ^ min b.toNat IntKind.u64.bits))) := binT_shl h
@[go_sem] theorem shr_u64 {xb k' a b} (h : 0 ≤ b) : binT .shr xb (.int .u64 a) (.int k' b) = some (.int .u64 (a.fdiv (2 ^ min b.toNat IntKind.u64.bits))) := binT_shr h
@[go_sem] theorem eql_u8 {xb a b} : binT .eql xb (.int .u8 a) (.int .u8 b) = some (.bool (decide (a = b))) := binT_eql
@[go_sem] theorem neq_u8 {xb a b} : binT .neq xb (.int .u8 a) (.int .u8 b) = some (.bool (!decide (a = b))) := binT_neq
@[go_sem] theorem and_u8 {xb a b} : binT .and xb (.int .u8 a) (.int .u8 b) = some (.int .u8 (IntKind.u8.wrap (BitVec.ofInt IntKind.u8.bits a &&& BitVec.ofInt IntKind.u8.bits b).toNat)) := binT_and
@[go_sem] theorem or_u8 {xb a b} : binT .or xb (.int .u8 a) (.int .u8 b) = some (.int .u8 (IntKind.u8.wrap (BitVec.ofInt IntKind.u8.bits a ||| BitVec.ofInt IntKind.u8.bits b).toNat)) := binT_or
@[go_sem] theorem xor_u8 {xb a b} : binT .xor xb (.int .u8 a) (.int .u8 b) = some (.int .u8 (IntKind.u8.wrap (BitVec.ofInt IntKind.u8.bits a ^^^ BitVec.ofInt IntKind.u8.bits b).toNat)) := binT_xor
@[go_sem] theorem andNot_u8 {xb a b} : binT .andNot xb (.int .u8 a) (.int .u8 b) = some (.int .u8 (IntKind.u8.wrap (BitVec.ofInt IntKind.u8.bits a &&& ~~~ BitVec.ofInt IntKind.u8.bits b).toNat)) := binT_andNot
@[go_sem] theorem shl_u8 {xb k' a b} (h : 0 ≤ b) : binT .shl xb (.int .u8 a) (.int k' b) = some (.int .u8 (IntKind.u8.wrap (a * 2 ^ min b.toNat IntKind.u8.bits))) := binT_shl h
@[go_sem] theorem shr_u8 {xb k' a b} (h : 0 ≤ b) : binT .shr xb (.int .u8 a) (.int k' b) = some (.int .u8 (a.fdiv (2 ^ min b.toNat IntKind.u8.bits))) := binT_shr h
@[go_sem] theorem eql_i32 {xb a b} : binT .eql xb (.int .i32 a) (.int .i32 b) = some (.bool (decide (a = b))) := binT_eql
@[go_sem] theorem neq_i32 {xb a b} : binT .neq xb (.int .i32 a) (.int .i32 b) = some (.bool (!decide (a = b))) := binT_neq
@[go_sem] theorem and_i32 {xb a b} : binT .and xb (.int .i32 a) (.int .i32 b) = some (.int .i32 (IntKind.i32.wrap (BitVec.ofInt IntKind.i32.bits a &&& BitVec.ofInt IntKind.i32.bits b).toNat)) := binT_and
@[go_sem] theorem or_i32 {xb a b} : binT .or xb (.int .i32 a) (.int .i32 b) = some (.int .i32 (IntKind.i32.wrap (BitVec.ofInt IntKind.i32.bits a ||| BitVec.ofInt IntKind.i32.bits b).toNat)) := binT_or
@[go_sem] theorem xor_i32 {xb a b} : binT .xor xb (.int .i32 a) (.int .i32 b) = some (.int .i32 (IntKind.i32.wrap (BitVec.ofInt IntKind.i32.bits a ^^^ BitVec.ofInt IntKind.i32.bits b).toNat)) := binT_xor
@[go_sem] theorem andNot_i32 {xb a b} : binT .andNot xb (.int .i32 a) (.int .i32 b) = some (.int .i32 (IntKind.i32.wrap (BitVec.ofInt IntKind.i32.bits a &&& ~~~ BitVec.ofInt IntKind.i32.bits b).toNat)) := binT_andNot
@[go_sem] theorem shl_i32 {xb k' a b} (h : 0 ≤ b) : binT .shl xb (.int .i32 a) (.int k' b) = some (.int .i32 (IntKind.i32.wrap (a * 2 ^ min b.toNat IntKind.i32.bits))) := binT_shl h
@[go_sem] theorem shr_i32 {xb k' a b} (h : 0 ≤ b) : binT .shr xb (.int .i32 a) (.int k' b) = some (.int .i32 (a.fdiv (2 ^ min b.toNat IntKind.i32.bits))) := binT_shr h
@[go_sem] theorem u64_bits : IntKind.u64.bits = 64 := rfl
attribute [go_sem] Int.reduceToNat Int.reduceAdd Int.reduceSub Int.reduceMul Int.reduceNeg
@[go_sem] theorem wrapB (x : U32) : IntKind.u32.wrap (x.toNat : Int) = x.toNat := wrap_u32 (by omega) (by have := x.isLt; omega)
theorem ofInt_B (x : U32) : BitVec.ofInt 32 (x.toNat : Int) = x := by simp only [BitVec.ofInt_natCast, BitVec.ofNat_toNat, BitVec.setWidth_eq]
@[go_sem] theorem and_B {xb} (x y : U32) : binT .and xb (.int .u32 (x.toNat : Int)) (.int .u32 (y.toNat : Int)) = some (.int .u32 ((x &&& y).toNat : Int)) := by
  rw [binT_and]
  show some (T.int .u32 (IntKind.u32.wrap ((BitVec.ofInt 32 (x.toNat : Int) &&& BitVec.ofInt 32 (y.toNat : Int)).toNat : Int))) = _
  rw [ofInt_B, ofInt_B, wrapB]
@[go_sem] theorem or_B {xb} (x y : U32) : binT .or xb (.int .u32 (x.toNat : Int)) (.int .u32 (y.toNat : Int)) = some (.int .u32 ((x ||| y).toNat : Int)) := by
  rw [binT_or]
  show some (T.int .u32 (IntKind.u32.wrap ((BitVec.ofInt 32 (x.toNat : Int) ||| BitVec.ofInt 32 (y.toNat : Int)).toNat : Int))) = _
  rw [ofInt_B, ofInt_B, wrapB]
@[go_sem] theorem xor_B {xb} (x y : U32) : binT .xor xb (.int .u32 (x.toNat : Int)) (.int .u32 (y.toNat : Int)) = some (.int .u32 ((x ^^^ y).toNat : Int)) := by
  rw [binT_xor]
  show some (T.int .u32 (IntKind.u32.wrap ((BitVec.ofInt 32 (x.toNat : Int) ^^^ BitVec.ofInt 32 (y.toNat : Int)).toNat : Int))) = _
  rw [ofInt_B, ofInt_B, wrapB]
@[go_sem] theorem andNot_B {xb} (x y : U32) : binT .andNot xb (.int .u32 (x.toNat : Int)) (.int .u32 (y.toNat : Int)) = some (.int .u32 ((x &&& ~~~y).toNat : Int)) := by
  rw [binT_andNot]
  show some (T.int .u32 (IntKind.u32.wrap ((BitVec.ofInt 32 (x.toNat : Int) &&& ~~~BitVec.ofInt 32 (y.toNat : Int)).toNat : Int))) = _
  rw [ofInt_B, ofInt_B, wrapB]
@[go_sem] theorem eql_B {xb} (x y : U32) : binT .eql xb (.int .u32 (x.toNat : Int)) (.int .u32 (y.toNat : Int)) = some (.bool (decide (x = y))) := by
  rw [binT_eql]; congr 2; rw [decide_eq_decide]; constructor
  · intro h; exact BitVec.eq_of_toNat_eq (by omega)
  · rintro rfl; rfl
@[go_sem] theorem neq_B {xb} (x y : U32) : binT .neq xb (.int .u32 (x.toNat : Int)) (.int .u32 (y.toNat : Int)) = some (.bool (!decide (x = y))) := by
  rw [binT_neq]; congr 3; rw [decide_eq_decide]; constructor
  · intro h; exact BitVec.eq_of_toNat_eq (by omega)
  · rintro rfl; rfl
@[go_sem] theorem not_B (x : U32) : unT .xor (.int .u32 (x.toNat : Int)) = some (.int .u32 ((~~~x).toNat : Int)) := by
  show some (T.int .u32 (IntKind.u32.wrap ((BitVec.ofInt 32 4294967295 ^^^ BitVec.ofInt 32 (x.toNat : Int)).toNat : Int))) = _
  rw [ofInt_B, wrapB]
  rw [show BitVec.ofInt 32 4294967295 = BitVec.allOnes 32 from by decide, BitVec.allOnes_xor]
theorem shr_B0 (x : U32) (k : Nat) : (x.toNat : Int).fdiv (2 ^ min k 32) = ((x >>> k).toNat : Int) := by
  rw [BitVec.toNat_ushiftRight, Nat.shiftRight_eq_div_pow]
  have e : (2 ^ min k 32 : Int) = ((2 ^ min k 32 : Nat) : Int) := by simp
  rw [e, Int.fdiv_eq_ediv_of_nonneg _ (Int.natCast_nonneg _), ← Int.natCast_ediv]
  rcases Nat.le_total k 32 with h | h
  · rw [Nat.min_eq_left h]
  · rw [Nat.min_eq_right h]
    have hx := x.isLt
    have : 2 ^ 32 ≤ 2 ^ k := Nat.pow_le_pow_right (by omega) h
    rw [Nat.div_eq_of_lt hx, Nat.div_eq_of_lt (by omega)]
theorem shl1_B0 (k : Nat) : IntKind.u32.wrap (1 * 2 ^ min k 32) = (((1#32) <<< k).toNat : Int) := by
  rw [BitVec.toNat_shiftLeft, BitVec.toNat_ofNat, Nat.shiftLeft_eq]
  rcases Nat.lt_or_ge k 32 with h | h
  · rw [Nat.min_eq_left (by omega)]
    have : (2 : Nat) ^ k < 2 ^ 32 := Nat.pow_lt_pow_right (by omega) h
    have e : (1 * 2 ^ k : Int) = ((2 ^ k : Nat) : Int) := by simp
    have h0 : 0 < (2 : Nat) ^ k := Nat.pow_pos (by omega)
    rw [e, wrap_u32 (by omega) (by omega)]
    simp only [show 1 % 2 ^ 32 = 1 from rfl, Nat.one_mul]
    rw [Nat.mod_eq_of_lt (by omega)]
  · rw [Nat.min_eq_right h]
    have : 2 ^ 32 ∣ 2 ^ k := Nat.pow_dvd_pow 2 h
    have e : 1 % 2 ^ 32 * 2 ^ k % 2 ^ 32 = 0 := by
      simp only [show 1 % 2 ^ 32 = 1 from rfl, Nat.one_mul]
      exact Nat.mod_eq_zero_of_dvd this
    rw [e]; rfl
@[go_sem] theorem shr_B {xb k'} {x : U32} {b : Int} (h : 0 ≤ b) : binT .shr xb (.int .u32 (x.toNat : Int)) (.int k' b) = some (.int .u32 ((x >>> b.toNat).toNat : Int)) := by
  rw [binT_shr h]; congr 2; exact shr_B0 x b.toNat
@[go_sem] theorem shl1_B {xb k'} {b : Int} (h : 0 ≤ b) : binT .shl xb (.int .u32 (((1#32 : U32)).toNat : Int)) (.int k' b) = some (.int .u32 (((1#32) <<< b.toNat).toNat : Int)) := by
  rw [binT_shl h]; congr 2; exact shl1_B0 b.toNat
theorem bit_nat (x : U32) (k : Nat) : (x >>> k &&& 1#32).toNat = if x.getLsbD k then 1 else 0 := by
  rw [BitVec.toNat_and, BitVec.toNat_ushiftRight, BitVec.toNat_ofNat, show 1 % 2 ^ 32 = 1 from rfl, Nat.and_one_is_mod]
  have : x.getLsbD k = (x.toNat >>> k).testBit 0 := by rw [Nat.testBit_shiftRight]; rfl
  rw [this, Nat.testBit_zero]
  have := Nat.mod_two_eq_zero_or_one (x.toNat >>> k)
  rcases this with h | h <;> simp [h]
@[go_sem] theorem bit_B (x : U32) (k : Nat) : decide (x >>> k &&& 1#32 = 1#32) = x.getLsbD k := by
  rw [Bool.eq_iff_iff, decide_eq_true_eq]
  constructor
  · intro h
    have := bit_nat x k
    rw [h] at this
    cases hx : x.getLsbD k
    · rw [hx] at this; simp at this
    · rfl
  · intro h
    apply BitVec.eq_of_toNat_eq
    rw [bit_nat, h]; rfl
@[go_sem] theorem bit_B0 (x : U32) (k : Nat) : decide (x >>> k &&& 1#32 = 0#32) = !x.getLsbD k := by
  cases hx : x.getLsbD k
  · simp only [Bool.not_false, decide_eq_true_eq]
    apply BitVec.eq_of_toNat_eq
    rw [bit_nat, hx]; rfl
  · simp only [Bool.not_true, decide_eq_false_iff_not]
    intro h
    have := bit_nat x k
    rw [h, hx] at this; simp at this
@[go_sem] theorem div2_B {xb} (x : U32) : binT .quo xb (.int .u32 (x.toNat : Int)) (.int .u32 (((2#32 : U32)).toNat : Int)) = some (.int .u32 ((x >>> 1).toNat : Int)) := by
  rw [binT_quo (by decide)]
  have e : ((x.toNat : Int).tdiv ((2#32 : U32).toNat : Int)) = ((x >>> 1).toNat : Int) := by
    rw [BitVec.toNat_ushiftRight, Nat.shiftRight_eq_div_pow]
    show (x.toNat : Int).tdiv 2 = _
    rw [Int.tdiv_eq_ediv_of_nonneg (by omega)]; omega
  rw [e, wrapB]
@[go_sem] theorem mod2_B {xb} (x : U32) : binT .rem xb (.int .u32 (x.toNat : Int)) (.int .u32 (((2#32 : U32)).toNat : Int)) = some (.int .u32 ((x &&& 1#32).toNat : Int)) := by
  rw [binT_rem (by decide)]
  have e : ((x.toNat : Int).tmod ((2#32 : U32).toNat : Int)) = ((x &&& 1#32).toNat : Int) := by
    have h2 : (x &&& 1#32).toNat = x.toNat % 2 := by rw [BitVec.toNat_and]; exact Nat.and_one_is_mod _
    rw [h2]
    show (x.toNat : Int).tmod 2 = _
    rw [Int.tmod_eq_emod_of_nonneg (by omega)]; omega
  rw [e]
@[go_sem] theorem mul2_B {xb} (x : U32) : binT .mul xb (.int .u32 (((2#32 : U32)).toNat : Int)) (.int .u32 (x.toNat : Int)) = some (.int .u32 ((x <<< 1).toNat : Int)) := by
  rw [binT_mul]
  congr 2
@[go_sem] theorem add_B {xb} (x y : U32) : binT .add xb (.int .u32 (x.toNat : Int)) (.int .u32 (y.toNat : Int)) = some (.int .u32 ((x + y).toNat : Int)) := by
  rw [binT_add]
  congr 2
theorem add_bit {x : U32} {k : Nat} (h : x.getLsbD k = false) : x + 1#32 <<< k = x ||| 1#32 <<< k := by
  rw [BitVec.add_eq_or_of_and_eq_zero]
  apply BitVec.eq_of_getLsbD_eq
  intro j hj
  rw [BitVec.getLsbD_and, BitVec.getLsbD_shiftLeft]
  by_cases e : j = k
  · subst e; simp [h]
  · by_cases h2 : j < k
    · simp [h2]
    · have : j - k ≠ 0 := by omega
      simp [this]
theorem sel_y {p : Prop} [Decidable p] {K : Pq} (h : p) : @sel (decide p) K = K.p := sel_pos (by simpa using h)
theorem sel_n {p : Prop} [Decidable p] {K : Pq} (h : ¬p) : @sel (decide p) K = K.q := sel_neg (by simpa using h)
theorem sel_ny {p : Prop} [Decidable p] {K : Pq} (h : p) : @sel (!decide p) K = K.q := sel_neg (by simpa using h)
theorem sel_nn {p : Prop} [Decidable p] {K : Pq} (h : ¬p) : @sel (!decide p) K = K.p := sel_pos (by simpa using h)
theorem sel_dec {p : Prop} [Decidable p] {K : Pq} (h1 : p → K.p) (h2 : ¬p → K.q) : @sel (decide p) K := by
  by_cases h : p
  · rw [sel_y h]; exact h1 h
  · rw [sel_n h]; exact h2 h
theorem sel_bool {b : Bool} {K : Pq} (h1 : b = true → K.p) (h2 : b = false → K.q) : @sel b K := by
  cases b
  · exact h2 rfl
  · exact h1 rfl
theorem ite_y {p : Prop} [Decidable p] {α : Type} {a b : α} (h : p) : (if p then a else b) = a := if_pos h
theorem ite_n {p : Prop} [Decidable p] {α : Type} {a b : α} (h : ¬p) : (if p then a else b) = b := if_neg h
theorem min_l {a b : Nat} (h : a ≤ b) : min a b = a := Nat.min_eq_left h


/-- What is made anew. -/
def mk1 (H : Heap) (i : Nat × Nat) (z : V) (l c : Int) : Option Res :=
  if 0 ≤ l ∧ l ≤ c ∧ roomOk c.toNat i.2 = true ∧ z.cells.length = i.1 ∧ z.storable = true ∧ 0 < i.1 ∧ 0 < i.2 then
        some ⟨.ref H.length l.toNat, H ++ [⟨List.replicate l.toNat z, i.1, false⟩], .none⟩ else none
@[go_sem] theorem makeV_mk1 {P : Program} {H : Heap} {e : Nat} {l c : Int} : makeV P H (.sl e) l c = (infoOf P e).bind fun i => (zeroV P e).bind fun z => mk1 H i z l c := rfl
theorem mk1_ok {H : Heap} {by_ : Nat} {l c : Int} {z : V} (h1 : z.cells = [z]) (h2 : z.storable = true) (h4 : 0 < by_) (h0 : 0 ≤ l) (hc : l = c) (hn : l * by_ ≤ 70368744177664) :
    mk1 H (1, by_) z l c = some ⟨.ref H.length l.toNat, H ++ [⟨List.replicate l.toNat z, 1, false⟩], .none⟩ := by
  subst hc
  obtain ⟨n, rfl⟩ := Int.eq_ofNat_of_zero_le h0
  have h5 : roomOk n by_ = true := by simp only [roomOk, decide_eq_true_eq]; omega
  unfold mk1
  rw [if_pos ⟨h0, by omega, by simpa using h5, by simp [h1], h2, by omega, h4⟩]
@[go_sem] theorem mk1_u32 {H : Heap} {by_ : Nat} {l c : Int} (h4 : 0 < by_) (h0 : 0 ≤ l) (hc : l = c) (hn : l * by_ ≤ 70368744177664) :
    mk1 H (1, by_) (.t (.int .u32 0)) l c = some ⟨.ref H.length l.toNat, H ++ [⟨vs (List.replicate l.toNat 0#32), 1, false⟩], .none⟩ := by rw [mk1_ok rfl rfl h4 h0 hc hn, ← vs_rep]; rfl
@[go_sem] theorem mk1_int {H : Heap} {by_ : Nat} {l c : Int} (h4 : 0 < by_) (h0 : 0 ≤ l) (hc : l = c) (hn : l * by_ ≤ 70368744177664) :
    mk1 H (1, by_) (.t (.int .i64 0)) l c = some ⟨.ref H.length l.toNat, H ++ [⟨vs (List.replicate l.toNat (0 : Int)), 1, false⟩], .none⟩ := by rw [mk1_ok rfl rfl h4 h0 hc hn, ← vs_rep]; rfl
@[go_sem] theorem mk1_bool {H : Heap} {by_ : Nat} {l c : Int} (h4 : 0 < by_) (h0 : 0 ≤ l) (hc : l = c) (hn : l * by_ ≤ 70368744177664) :
    mk1 H (1, by_) (.t (.bool false)) l c = some ⟨.ref H.length l.toNat, H ++ [⟨vs (List.replicate l.toNat false), 1, false⟩], .none⟩ := by rw [mk1_ok rfl rfl h4 h0 hc hn, ← vs_rep]; rfl

/-- A literal's elements. -/
def lit1 (H : Heap) (len : Nat) (z : V) (i : Nat × Nat) (l : List (Nat × V)) : Option Res :=
  (toT H depth z).bind fun z' =>
        if len * i.1 ≤ 2 ^ 24 ∧ z'.cells.length = i.1 ∧ 0 < i.1 ∧ 0 < i.2 ∧ (l.all fun p => p.2.cells.length == i.1) = true then
          (litV H (List.replicate len z') l).bind fun xs => some ⟨.ex xs, (l.map (·.2)).foldl (hold depth) H, effB (l.map (·.2))⟩ else none
theorem b_slice {P t len parts e H} : opRun P (.buildSlice t len (List.toArray parts)) e H = (match kdOf P t with
    | .sl el => (evParts e parts).bind fun l => (zeroV P el).bind fun z => (infoOf P el).bind fun i => lit1 H len z i l
    | _ => none) := rfl
attribute [go_sem] b_slice
def allC (n : Nat) : List (Nat × V) → Bool
  | [] => true
  | (_, v) :: r => (v.cells.length == n) && allC n r
theorem allC_eq {n : Nat} {l : List (Nat × V)} : allC n l = l.all fun p => p.2.cells.length == n := by
  induction l with
  | nil => rfl
  | cons p r ih => obtain ⟨i, v⟩ := p; simp only [allC, ih, List.all_cons]
@[go_sem] theorem allC_nil (n) : allC n [] = true := rfl
@[go_sem] theorem allC_cons (n i v r) : allC n ((i, v) :: r) = ((v.cells.length == n) && allC n r) := rfl
def foldH (H : Heap) : List (Nat × V) → Heap
  | [] => H
  | (_, v) :: r => foldH (hold depth H v) r
theorem foldH_eq {l : List (Nat × V)} : ∀ {H : Heap}, foldH H l = (l.map (·.2)).foldl (hold depth) H := by
  induction l with
  | nil => intro H; rfl
  | cons p r ih => obtain ⟨i, v⟩ := p; intro H; simp only [foldH, ih, List.map_cons, List.foldl_cons]
@[go_sem] theorem foldH_nil (H) : foldH H [] = H := rfl
@[go_sem] theorem foldH_cons (H i v r) : foldH H ((i, v) :: r) = foldH (hold depth H v) r := rfl
def effC : List (Nat × V) → Eff
  | [] => .none
  | (_, .t _) :: r | (_, .ex _) :: r => effC r
  | _ => .bad
theorem effC_eq {l : List (Nat × V)} : effC l = effB (l.map (·.2)) := by
  induction l with
  | nil => rfl
  | cons p r ih => obtain ⟨i, v⟩ := p; cases v <;> simp [effC, effB, ih]
@[go_sem] theorem effC_nil : effC [] = .none := rfl
@[go_sem] theorem effC_t (i x r) : effC ((i, .t x) :: r) = effC r := rfl
@[go_sem] theorem effC_ex (i x r) : effC ((i, .ex x) :: r) = effC r := rfl
@[go_sem] theorem effC_ref (i x n r) : effC ((i, .ref x n) :: r) = .bad := rfl
theorem lit1_go {H : Heap} {len : Nat} {z : V} {z' : T} {sz by_ : Nat} {l : List (Nat × V)} (hz : toT H depth z = some z') (hc : z'.cells.length = sz) (h1 : 0 < sz) (h2 : 0 < by_) (h3 : len * sz ≤ 16777216) (h4 : allC sz l = true) :
    lit1 H len z (sz, by_) l = (litV H (List.replicate len z') l).bind fun xs => some ⟨.ex xs, foldH H l, effC l⟩ := by
  unfold lit1
  rw [hz]
  simp only [Option.bind_some]
  rw [if_pos ⟨h3, hc, h1, h2, by rw [← allC_eq]; exact h4⟩, foldH_eq, effC_eq]
@[go_sem] theorem lit_t {H : Heap} {len : Nat} {z : T} {sz by_ : Nat} {l : List (Nat × V)} (hc : z.cells.length = sz) (h1 : 0 < sz) (h2 : 0 < by_) (h3 : len * sz ≤ 16777216) (h4 : allC sz l = true) :
    lit1 H len (.t z) (sz, by_) l = (litV H (List.replicate len z) l).bind fun xs => some ⟨.ex xs, foldH H l, effC l⟩ := lit1_go (toT_t _ _ _) hc h1 h2 h3 h4
@[go_sem] theorem lit_ex {H : Heap} {len : Nat} {z : List T} {by_ : Nat} {l : List (Nat × V)} (h2 : 0 < by_) (h3 : len * 1 ≤ 16777216) (h4 : allC 1 l = true) :
    lit1 H len (.ex z) (1, by_) l = (litV H (List.replicate len (.sl z)) l).bind fun xs => some ⟨.ex xs, foldH H l, effC l⟩ := lit1_go (toT_ex _ _ _) rfl (by omega) h2 h3 h4
@[go_sem] theorem litV_nil (H l) : litV H l [] = some l := rfl
@[go_sem] theorem litV_cons {H : Heap} {l : List T} {i : Nat} {v : V} {r : List (Nat × V)} (h : i < l.length) : litV H l ((i, v) :: r) = (toT H depth v).bind fun x => litV H (l.set i x) r := by simp [litV, h]
attribute [go_sem] Int.natCast_add Int.natCast_one Int.cast_ofNat_Int
attribute [go_sem] List.length_cons List.length_nil List.replicate_succ List.replicate_zero List.set_cons_zero List.set_cons_succ Nat.reduceAdd Nat.reduceSub Nat.reduceMul Nat.reduceLT Nat.reduceLeDiff List.length_set
  BEq.rfl Bool.true_and Bool.and_true Bool.and_self List.length_append List.length_replicate Int.toNat_natCast List.nil_append List.cons_append
end Go.Sim
