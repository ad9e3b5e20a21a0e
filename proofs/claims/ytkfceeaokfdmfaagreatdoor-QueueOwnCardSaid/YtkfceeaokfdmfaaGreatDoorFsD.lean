/- A part of the proof of a law of module cupola: FsD. It has no conditions of its own. -/
import Derived.Test.YtkfceeaokfdmfaaGreatDoorTypes
import Derived.Test.YtkfceeaokfdmfaaGreatDoorSimUu
import Derived.Test.YtkfceeaokfdmfaaGreatDoorEv
import Derived.Lib.ItoaLen
set_option linter.all false
set_option maxRecDepth 100000
namespace Go.Sim
open Enc (enc)
open Go.Proofs
abbrev I64 := BitVec 64
structure Fs where
  d : U32
  f : List Int
  l : List (List Int)
instance : Enc Fs := ⟨fun e => .agg [.int .u32 (e.d.toNat : Int), enc e.f, enc e.l], ⟨0#32, [], []⟩, 3, by decide, fun _ => rfl⟩
@[go_sem] theorem cells_Fs (e : Fs) : (V.t (enc e)).cells = [.t (.int .u32 (e.d.toNat : Int)), .t (enc e.f), .t (enc e.l)] := rfl
@[go_sem] theorem stor_Fs (e : Fs) : (V.t (enc e)).storable = true := rfl
@[go_sem] theorem isAgg_Fs (e : Fs) : (V.t (enc e)).isAgg = true := rfl
@[go_sem] theorem rd_Fs (e : Fs) : rdV (.t (enc e)) 3 0 true 3 = some (.t (enc e)) := rfl
@[go_sem] theorem fits_Fs (e : Fs) : fits 3 (.t (enc e)) = true := rfl
@[go_sem] theorem cellsT_Fs (e : Fs) : (enc e : T).cells.length = 3 := rfl
@[go_sem] theorem noSl_Fs (e : Fs) : noSl (.t (enc e)) = false := rfl
@[go_sem] theorem noSl1_Fs (e : Fs) : noSl1 (.t (enc e)) = false := rfl
@[go_sem] theorem sz_Fs : Enc.sz Fs = 3 := rfl
@[go_sem] theorem fitsl_Fs (l : List Fs) : (vs l).all (fits 3) = true := by
  rw [List.all_eq_true]; intro v hv; obtain ⟨p, _, rfl⟩ := List.mem_map.1 hv; rfl
@[go_sem] theorem ix_Fs {H : Heap} {e : Nat} {l : List Fs} {i : Int} (h0 : 0 ≤ i) (h1 : i < l.length) : indexV H (.sl e) 3 (.t (enc l)) i = some (.tp (l.map enc) i.toNat 0) := ix_enc rfl h0 h1
@[go_sem] theorem ixex_Fs {H : Heap} {e : Nat} {l : List Fs} {i : Int} (h0 : 0 ≤ i) (h1 : i < l.length) : indexV H (.sl e) 3 (.ex (l.map enc)) i = some (.tp (l.map enc) i.toNat 0) := ix_Fs (H := H) (e := e) (l := l) h0 h1
@[go_sem] theorem load_Fs {H : Heap} {l : List Fs} {i off sz : Nat} {a : Bool} (h1 : i < l.length) : loadV H (some (a, sz)) (.tp (l.map enc) i off) = (rdV (.t (enc (gd l i))) 3 off a sz).bind fun u => some ⟨u, H, .none⟩ := load_tpc h1
@[go_sem] theorem load1_Fs {H : Heap} {id i off sz : Nat} {a : Bool} {l : List Fs} {st : Bool} (hi : i < l.length) : load1 H id ⟨vs l, 3, st⟩ i off a sz = (rdV (.t (enc (gd l i))) 3 off a sz).bind fun u => some ⟨u, H, .load id⟩ := load1_vsc hi
@[go_sem] theorem agg_Fs {x0 : U32} {x1 : List Int} {x2 : List (List Int)} : T.agg [.int .u32 (x0.toNat : Int), enc x1, enc x2] = enc (⟨x0, x1, x2⟩ : Fs) := rfl
@[go_sem] theorem eta_Fs (e : Fs) : (⟨e.d, e.f, e.l⟩ : Fs) = e := rfl
@[go_sem] theorem acc_str0 {l : List ByteArray} {x : ByteArray} {by_ : Nat} (hr : (l.length + 1) * by_ ≤ 70368744177664) :
    appendV (some (1, by_)) (accO l) (accV 0 l) [.t (.str x)] = some ⟨accV 0 (l ++ [x]), (accO (l ++ [x])), accE 0 l⟩ := acc_app (R := []) rfl hr
@[go_sem high] theorem add_str {xb : Kd} {x y : ByteArray} (h : x.size + y.size ≤ 9223372036854775807) : binT .add xb (.str x) (.str y) = some (.str (x ++ y)) := by
  show strBin .add x y = _
  simp only [strBin]
  rw [if_neg (by have : IntKind.i64.max = 9223372036854775807 := by decide
                 omega)]
@[go_sem] theorem size_app (x y : ByteArray) : (x ++ y).size = x.size + y.size := ByteArray.size_append
@[go_sem] theorem size_one (a : UInt8) : (⟨#[a]⟩ : ByteArray).size = 1 := rfl
def eqB (x y : ByteArray) : Bool := x.toList == y.toList
def ltB (x y : ByteArray) : Bool := Op.bytesLess x.toList y.toList
@[go_sem high] theorem eq_str {xb : Kd} {x y : ByteArray} : binT .eql xb (.str x) (.str y) = some (.bool (eqB x y)) := rfl
@[go_sem high] theorem ne_str {xb : Kd} {x y : ByteArray} : binT .neq xb (.str x) (.str y) = some (.bool (!eqB x y)) := rfl
@[go_sem high] theorem lt_str {xb : Kd} {x y : ByteArray} : binT .lss xb (.str x) (.str y) = some (.bool (ltB x y)) := rfl
@[go_sem high] theorem gt_str {xb : Kd} {x y : ByteArray} : binT .gtr xb (.str x) (.str y) = some (.bool (!(ltB x y || eqB x y))) := rfl
theorem eqB_iff {x y : ByteArray} : eqB x y = true ↔ x = y := by
  unfold eqB
  rw [beq_iff_eq, ByteArray.toList_eq, ByteArray.toList_eq]
  refine ⟨fun h => ?_, fun h => by rw [h]⟩
  have h2 : x.data = y.data := Array.toList_inj.1 h
  cases x; cases y; simp only at h2; rw [h2]
theorem eqB_self (x : ByteArray) : eqB x x = true := eqB_iff.2 rfl
def InR (n : Int) : Prop := -9223372036854775808 ≤ n ∧ n ≤ 9223372036854775807
theorem inRB_of {n : Int} (h : InR n) : inRB n = true := by
  unfold inRB InR at *
  simp only [Bool.and_eq_true, decide_eq_true_eq]; exact h
theorem figB_size {n : Int} (h : InR n) : (figB n).size ≤ 21 := by
  show (Go.Lib.itoa n).toArray.size ≤ 21
  rw [List.size_toArray]
  exact Go.Lib.itoa_length_le n h.1 h.2
theorem lens_le {k : Nat} : ∀ {l : List (List UInt8)}, (∀ x ∈ l, x.length ≤ k) → Go.Lib.lens l ≤ k * l.length
  | [], _ => by simp [Go.Lib.lens]
  | x :: r, h => by
    have h1 := h x (by simp)
    have h2 := lens_le (l := r) (fun y hy => h y (by simp [hy]))
    simp only [Go.Lib.lens, List.map_cons, List.sum_cons, List.length_cons] at h2 ⊢
    rw [Nat.mul_succ]; omega
theorem join_size {k : Nat} {l : List ByteArray} {s : ByteArray} (h : ∀ x ∈ l, x.size ≤ k) : (joinB l s).size ≤ (k + s.size) * l.length := by
  show (Go.Lib.join _ _).toArray.size ≤ _
  rw [List.size_toArray]
  cases l with
  | nil => simp [Go.Lib.join_nil]
  | cons x r =>
    rw [List.map_cons, Go.Lib.join_length]
    have h1 := lens_le (k := k) (l := (x :: r).map (·.data.toList)) (fun y hy => by
      obtain ⟨z, hz, rfl⟩ := List.mem_map.1 hy
      exact h z hz)
    rw [List.map_cons] at h1
    simp only [List.length_map, List.length_cons] at h1 ⊢
    have e : s.data.toList.length = s.size := rfl
    rw [e, Nat.add_mul]
    have : s.size * r.length ≤ s.size * (r.length + 1) := Nat.mul_le_mul_left _ (by omega)
    omega
theorem strsT_enc (l : List ByteArray) : strsT (l.map enc) = some l := by
  induction l with
  | nil => rfl
  | cons a l ih => show (strsT (l.map enc)).map (a :: ·) = _; rw [ih]; rfl
theorem itoa_fun {n : Int} (h : InR n) : Fun Tryz.prog 40 [enc n] (.t (.str (figB n))) := by
  refine orc_fun (v := .t (.str (figB n))) (H := []) rfl ?_ ?_
  · show (itoaT [.int .i64 n]).map _ = _
    simp only [itoaT, inRB_of h, if_true, Option.map_some]
  · rfl
@[go_sem] theorem pu_Itoa {n : Int} (h : InR n) {K : Kp} : @Pu _ Tryz.prog 40 [.int .i64 n] K = K.k (.t (.str (figB n))) := (itoa_fun h).pu
theorem fmtu_fun {n : Int} (h : 0 ≤ n ∧ n ≤ 18446744073709551615) : Fun Tryz.prog 26 [.int .u64 n, .int .i64 10] (.t (.str (figB n))) := by
  refine orc_fun (v := .t (.str (figB n))) (H := []) rfl ?_ ?_
  · show (fuintT [.int .u64 n, .int .i64 10]).map _ = _
    simp only [fuintT, h, and_self, if_true, Option.map_some]
  · rfl
@[go_sem] theorem pu_FormatUint {n : Int} (h : 0 ≤ n ∧ n ≤ 18446744073709551615) {K : Kp} : @Pu _ Tryz.prog 26 [.int .u64 n, .int .i64 10] K = K.k (.t (.str (figB n))) := (fmtu_fun h).pu
theorem join_fun {l : List ByteArray} {s : ByteArray} (h : l.length ≤ 140737488355328 ∧ (joinB l s).size ≤ 140737488355328) : Fun Tryz.prog 41 [enc l, .str s] (.t (.str (joinB l s))) := by
  refine orc_fun (v := .t (.str (joinB l s))) (H := []) rfl ?_ ?_
  · show (joinT [enc l, .str s]).map _ = _
    show ((strsT (l.map enc)).bind _).map _ = _
    rw [strsT_enc]
    simp only [Option.bind_some]
    rw [if_pos h]; rfl
  · rfl
@[go_sem] theorem pu_Join {l : List ByteArray} {s : ByteArray} (h : l.length ≤ 140737488355328 ∧ (joinB l s).size ≤ 140737488355328) {K : Kp} : @Pu _ Tryz.prog 41 [enc l, .str s] K = K.k (.t (.str (joinB l s))) := (join_fun h).pu
end Go.Sim
