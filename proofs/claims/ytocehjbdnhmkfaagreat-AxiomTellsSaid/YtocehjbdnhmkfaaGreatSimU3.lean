/- A part of the proof of a law of module cupola: SimU3. It has no conditions of its own. -/
import Derived.Test.YtocehjbdnhmkfaaGreatSimU2
set_option linter.all false
/-! Pairs; lists that grow by appending. -/
namespace Go.Sim
open Enc (enc)
instance : Enc (Int × Int) := ⟨fun p => .agg [.int .i64 p.1, .int .i64 p.2], (0, 0), 2, by decide, fun _ => rfl⟩
@[go_sem] theorem cells_pair (p : Int × Int) : (V.t (enc p)).cells = [.t (.int .i64 p.1), .t (.int .i64 p.2)] := rfl
@[go_sem] theorem stor_pair (p : Int × Int) : (V.t (enc p)).storable = true := rfl
@[go_sem] theorem isAgg_pair (p : Int × Int) : (V.t (enc p)).isAgg = true := rfl
@[go_sem] theorem sz_pair : Enc.sz (Int × Int) = 2 := rfl
@[go_sem] theorem fits_pair (p : Int × Int) : fits 2 (.t (enc p)) = true := rfl
@[go_sem] theorem rd_pair (p : Int × Int) : rdV (.t (enc p)) 2 0 true 2 = some (.t (enc p)) := rfl
@[go_sem] theorem ix_pair {H : Heap} {e : Nat} {l : List (Int × Int)} {i : Int} (h0 : 0 ≤ i) (h1 : i < l.length) : indexV H (.sl e) 2 (.t (enc l)) i = some (.tp (l.map enc) i.toNat 0) := ix_enc rfl h0 h1
@[go_sem] theorem load_pair {H : Heap} {l : List (Int × Int)} {i off sz : Nat} {a : Bool} (h1 : i < l.length) : loadV H (some (a, sz)) (.tp (l.map enc) i off) = (rdV (.t (enc (gd l i))) 2 off a sz).bind fun u => some ⟨u, H, .none⟩ := load_tpc h1
@[go_sem] theorem load1_pair {H : Heap} {id i off sz : Nat} {a : Bool} {l : List (Int × Int)} {st : Bool} (hi : i < l.length) : load1 H id ⟨vs l, 2, st⟩ i off a sz = (rdV (.t (enc (gd l i))) 2 off a sz).bind fun u => some ⟨u, H, .load id⟩ := load1_vsc hi
@[go_sem] theorem fold_pair (l : List (Int × Int)) (a b : Int) : vs l ++ [V.t (.agg [.int .i64 a, .int .i64 b])] = vs (l ++ [(a, b)]) := by simp [vs]; rfl
theorem agg_pair (a b : Int) : T.agg [.int .i64 a, .int .i64 b] = enc (a, b) := rfl

@[go_sem] theorem fits_pairs (l : List (Int × Int)) : (vs l).all (fits 2) = true := by
  rw [List.all_eq_true]; intro v hv; obtain ⟨p, _, rfl⟩ := List.mem_map.1 hv; rfl
section
variable {α : Type} [Enc α]
/-- A list that grew from nil, at a place of the heap. -/
def accV (id : Nat) (l : List α) : V := if l.isEmpty then .ex [] else .ref id l.length
def accO (l : List α) : Heap := if l.isEmpty then [] else [⟨vs l, Enc.sz α, false⟩]
def accE (id : Nat) (l : List α) : Eff := if l.isEmpty then .none else .grow id
theorem accV_nil (id : Nat) : accV id ([] : List α) = .ex [] := rfl
theorem accO_nil : accO ([] : List α) = [] := rfl
theorem accV_ne {id : Nat} {l : List α} (h : l.isEmpty = false) : accV id l = .ref id l.length := by simp [accV, h]
theorem accO_ne {l : List α} (h : l.isEmpty = false) : accO l = [⟨vs l, Enc.sz α, false⟩] := by simp [accO, h]
theorem acc_get {R : Heap} {l : List α} (h : l.isEmpty = false) : (R ++ accO l)[R.length]? = some ⟨vs l, Enc.sz α, false⟩ := by
  rw [accO_ne h]; simp
theorem acc_cur {R : Heap} {l : List α} (h : l.isEmpty = false) : cur (R ++ accO l) R.length l.length = some ⟨vs l, Enc.sz α, false⟩ := cur_some (acc_get h) (vs_len l)
theorem acc_app {R : Heap} {l : List α} {x : α} {by_ : Nat} (hf : fits (Enc.sz α) (.t (enc x)) = true) (hr : (l.length + 1) * by_ ≤ 70368744177664) :
    appendV (some (Enc.sz α, by_)) (R ++ accO l) (accV R.length l) [.t (enc x)] = some ⟨accV R.length (l ++ [x]), R ++ accO (l ++ [x]), accE R.length l⟩ := by
  have ha : [V.t (enc x)].all (fits (Enc.sz α)) = true := by simp [hf]
  cases hl : l.isEmpty with
  | true =>
    have : l = [] := by simpa using hl
    subst this
    rw [accV_nil, accO_nil, List.append_nil, app_ex ha rfl rfl (by simpa using hr)]
    rfl
  | false =>
    have h2 : (l ++ [x]).isEmpty = false := by cases l <;> rfl
    rw [accV_ne hl, accV_ne h2, app_ref ha, acc_cur hl, Option.bind_some, app1_go rfl (by simpa using hr), accO_ne hl, accO_ne h2]
    simp only [set_concat, fold_enc, accE, hl, List.length_append, List.length_cons, List.length_nil, Bool.false_eq_true, if_false]
theorem acc_apps {R : Heap} {l m : List α} {by_ : Nat} (hf : (vs m).all (fits (Enc.sz α)) = true) (hl : (vs l).all (fits (Enc.sz α)) = true) (hr : (l.length + m.length) * by_ ≤ 70368744177664) :
    appendV (some (Enc.sz α, by_)) (R ++ accO l) (accV R.length l) (vs m) = some ⟨accV R.length (l ++ m), R ++ accO (l ++ m), if m.isEmpty then .none else accE R.length l⟩ := by
  cases hm : m.isEmpty with
  | true =>
    have : m = [] := by simpa using hm
    subst this
    cases hl0 : l.isEmpty with
    | true =>
      have : l = [] := by simpa using hl0
      subst this
      rfl
    | false =>
      rw [accV_ne hl0, app_ref hf, acc_cur hl0]
      simp [app1, vs, ret, accV_ne hl0]
  | false =>
    have h0 : (vs m).isEmpty = false := by cases m <;> simp_all [vs]
    cases hl0 : l.isEmpty with
    | true =>
      have : l = [] := by simpa using hl0
      subst this
      rw [accV_nil, accO_nil, List.append_nil, app_ex hf h0 rfl (by simpa [vs_len] using hr)]
      simp [accV_ne hm, accO_ne hm, vs_len, accE]
    | false =>
      have h2 : (l ++ m).isEmpty = false := by cases l <;> simp_all
      rw [accV_ne hl0, accV_ne h2, app_ref hf, acc_cur hl0, Option.bind_some, app1_go h0 (by simpa [vs_len] using hr), accO_ne hl0, accO_ne h2]
      simp only [set_concat, vs_app, accE, hl0, List.length_append, vs_len, Bool.false_eq_true, if_false]
theorem acc_toT {R : Heap} {l : List α} : toT (R ++ accO l) depth (accV R.length l) = some (enc l) := by
  cases hl : l.isEmpty with
  | true =>
    have : l = [] := by simpa using hl
    subst this
    rw [accV_nil, toT_ex]; rfl
  | false => rw [accV_ne hl, toT_ref', acc_cur hl, Option.bind_some, toTo_vs]
theorem acc_exp {R : Heap} {l : List α} : exportD (R ++ accO l) (accV R.length l) = some (.t (enc l)) := by
  cases hl : l.isEmpty with
  | true =>
    have : l = [] := by simpa using hl
    subst this
    rw [accV_nil, exportD_ex]; rfl
  | false => rw [accV_ne hl, exportD_ref, ← accV_ne hl, acc_toT, Option.bind_some]
theorem acc_expV_e {H : Heap} {id : Nat} {l : List α} (h : l.isEmpty = true) : exportV H (accV id l) = some (.ex []) := by simp [accV, h, exportV]
theorem acc_expV_n {R : Heap} {l : List α} (h : l.isEmpty = false) : exportV (R ++ accO l) (accV R.length l) = some (.fr (Enc.sz α) false (l.map enc)) := by
  rw [accV_ne h]; exact exportV_ref' (acc_get h) rfl
theorem acc_len {R : Heap} {l : List α} {e : Nat} : lenT (R ++ accO l) (.sl e) (accV R.length l) = some ⟨.t (.int .i64 l.length), R ++ accO l, effL (accV R.length l)⟩ := by
  cases hl : l.isEmpty with
  | true =>
    have : l = [] := by simpa using hl
    subst this
    rfl
  | false => rw [accV_ne hl, lenT_ref, acc_cur hl]; rfl
end
section
variable {α : Type} [Enc α]
@[go_sem] theorem acc_app0 {l : List α} {x : α} {sz by_ : Nat} (hf : fits (Enc.sz α) (.t (enc x)) = true) (hs : sz = Enc.sz α) (hr : (l.length + 1) * by_ ≤ 70368744177664) :
    appendV (some (sz, by_)) (accO l) (accV 0 l) [.t (enc x)] = some ⟨accV 0 (l ++ [x]), (accO (l ++ [x])), accE 0 l⟩ := by subst hs; exact acc_app (R := []) hf hr
@[go_sem] theorem acc_toT0 {l : List α} : toT (accO l) depth (accV 0 l) = some (enc l) := acc_toT (R := [])
@[go_sem] theorem acc_exp0 {l : List α} : exportD (accO l) (accV 0 l) = some (.t (enc l)) := acc_exp (R := [])
@[go_sem] theorem acc_len0 {l : List α} {e : Nat} : lenT (accO l) (.sl e) (accV 0 l) = some ⟨.t (.int .i64 l.length), (accO l), effL (accV 0 l)⟩ := acc_len (R := [])
end
@[go_sem] theorem acc_int0 {l : List Int} {x : Int} {by_ : Nat} (hr : (l.length + 1) * by_ ≤ 70368744177664) :
    appendV (some (1, by_)) (accO l) (accV 0 l) [.t (.int .i64 x)] = some ⟨accV 0 (l ++ [x]), (accO (l ++ [x])), accE 0 l⟩ := acc_app (R := []) rfl hr
@[go_sem] theorem acc_u320 {l : List U32} {x : U32} {by_ : Nat} (hr : (l.length + 1) * by_ ≤ 70368744177664) :
    appendV (some (1, by_)) (accO l) (accV 0 l) [.t (.int .u32 (x.toNat : Int))] = some ⟨accV 0 (l ++ [x]), (accO (l ++ [x])), accE 0 l⟩ := acc_app (R := []) rfl hr
@[go_sem] theorem acc_pair0 {l : List (Int × Int)} {a c : Int} {by_ : Nat} (hr : (l.length + 1) * by_ ≤ 70368744177664) :
    appendV (some (2, by_)) (accO l) (accV 0 l) [.t (.agg [.int .i64 a, .int .i64 c])] = some ⟨accV 0 (l ++ [(a, c)]), (accO (l ++ [(a, c)])), accE 0 l⟩ := acc_app (x := (a, c)) (R := []) rfl hr
section
variable {α : Type} [Enc α] {o0 : Obj}
@[go_sem] theorem acc_app1 {l : List α} {x : α} {sz by_ : Nat} (hf : fits (Enc.sz α) (.t (enc x)) = true) (hs : sz = Enc.sz α) (hr : (l.length + 1) * by_ ≤ 70368744177664) :
    appendV (some (sz, by_)) (o0 :: accO l) (accV 1 l) [.t (enc x)] = some ⟨accV 1 (l ++ [x]), (o0 :: accO (l ++ [x])), accE 1 l⟩ := by subst hs; exact acc_app (R := [o0]) hf hr
@[go_sem] theorem acc_toT1 {l : List α} : toT (o0 :: accO l) depth (accV 1 l) = some (enc l) := acc_toT (R := [o0])
@[go_sem] theorem acc_exp1 {l : List α} : exportD (o0 :: accO l) (accV 1 l) = some (.t (enc l)) := acc_exp (R := [o0])
@[go_sem] theorem acc_len1 {l : List α} {e : Nat} : lenT (o0 :: accO l) (.sl e) (accV 1 l) = some ⟨.t (.int .i64 l.length), (o0 :: accO l), effL (accV 1 l)⟩ := acc_len (R := [o0])
end
@[go_sem] theorem acc_int1 {o0 : Obj} {l : List Int} {x : Int} {by_ : Nat} (hr : (l.length + 1) * by_ ≤ 70368744177664) :
    appendV (some (1, by_)) (o0 :: accO l) (accV 1 l) [.t (.int .i64 x)] = some ⟨accV 1 (l ++ [x]), (o0 :: accO (l ++ [x])), accE 1 l⟩ := acc_app (R := [o0]) rfl hr
@[go_sem] theorem acc_u321 {o0 : Obj} {l : List U32} {x : U32} {by_ : Nat} (hr : (l.length + 1) * by_ ≤ 70368744177664) :
    appendV (some (1, by_)) (o0 :: accO l) (accV 1 l) [.t (.int .u32 (x.toNat : Int))] = some ⟨accV 1 (l ++ [x]), (o0 :: accO (l ++ [x])), accE 1 l⟩ := acc_app (R := [o0]) rfl hr
@[go_sem] theorem acc_pair1 {o0 : Obj} {l : List (Int × Int)} {a c : Int} {by_ : Nat} (hr : (l.length + 1) * by_ ≤ 70368744177664) :
    appendV (some (2, by_)) (o0 :: accO l) (accV 1 l) [.t (.agg [.int .i64 a, .int .i64 c])] = some ⟨accV 1 (l ++ [(a, c)]), (o0 :: accO (l ++ [(a, c)])), accE 1 l⟩ := acc_app (x := (a, c)) (R := [o0]) rfl hr
section
variable {α : Type} [Enc α] {o0 : Obj} {o1 : Obj}
@[go_sem] theorem acc_app2 {l : List α} {x : α} {sz by_ : Nat} (hf : fits (Enc.sz α) (.t (enc x)) = true) (hs : sz = Enc.sz α) (hr : (l.length + 1) * by_ ≤ 70368744177664) :
    appendV (some (sz, by_)) (o0 :: o1 :: accO l) (accV 2 l) [.t (enc x)] = some ⟨accV 2 (l ++ [x]), (o0 :: o1 :: accO (l ++ [x])), accE 2 l⟩ := by subst hs; exact acc_app (R := [o0, o1]) hf hr
@[go_sem] theorem acc_toT2 {l : List α} : toT (o0 :: o1 :: accO l) depth (accV 2 l) = some (enc l) := acc_toT (R := [o0, o1])
@[go_sem] theorem acc_exp2 {l : List α} : exportD (o0 :: o1 :: accO l) (accV 2 l) = some (.t (enc l)) := acc_exp (R := [o0, o1])
@[go_sem] theorem acc_len2 {l : List α} {e : Nat} : lenT (o0 :: o1 :: accO l) (.sl e) (accV 2 l) = some ⟨.t (.int .i64 l.length), (o0 :: o1 :: accO l), effL (accV 2 l)⟩ := acc_len (R := [o0, o1])
end
@[go_sem] theorem acc_int2 {o0 : Obj} {o1 : Obj} {l : List Int} {x : Int} {by_ : Nat} (hr : (l.length + 1) * by_ ≤ 70368744177664) :
    appendV (some (1, by_)) (o0 :: o1 :: accO l) (accV 2 l) [.t (.int .i64 x)] = some ⟨accV 2 (l ++ [x]), (o0 :: o1 :: accO (l ++ [x])), accE 2 l⟩ := acc_app (R := [o0, o1]) rfl hr
@[go_sem] theorem acc_u322 {o0 : Obj} {o1 : Obj} {l : List U32} {x : U32} {by_ : Nat} (hr : (l.length + 1) * by_ ≤ 70368744177664) :
    appendV (some (1, by_)) (o0 :: o1 :: accO l) (accV 2 l) [.t (.int .u32 (x.toNat : Int))] = some ⟨accV 2 (l ++ [x]), (o0 :: o1 :: accO (l ++ [x])), accE 2 l⟩ := acc_app (R := [o0, o1]) rfl hr
@[go_sem] theorem acc_pair2 {o0 : Obj} {o1 : Obj} {l : List (Int × Int)} {a c : Int} {by_ : Nat} (hr : (l.length + 1) * by_ ≤ 70368744177664) :
    appendV (some (2, by_)) (o0 :: o1 :: accO l) (accV 2 l) [.t (.agg [.int .i64 a, .int .i64 c])] = some ⟨accV 2 (l ++ [(a, c)]), (o0 :: o1 :: accO (l ++ [(a, c)])), accE 2 l⟩ := acc_app (x := (a, c)) (R := [o0, o1]) rfl hr
section
variable {α : Type} [Enc α] {o0 : Obj} {o1 : Obj} {o2 : Obj}
@[go_sem] theorem acc_app3 {l : List α} {x : α} {sz by_ : Nat} (hf : fits (Enc.sz α) (.t (enc x)) = true) (hs : sz = Enc.sz α) (hr : (l.length + 1) * by_ ≤ 70368744177664) :
    appendV (some (sz, by_)) (o0 :: o1 :: o2 :: accO l) (accV 3 l) [.t (enc x)] = some ⟨accV 3 (l ++ [x]), (o0 :: o1 :: o2 :: accO (l ++ [x])), accE 3 l⟩ := by subst hs; exact acc_app (R := [o0, o1, o2]) hf hr
@[go_sem] theorem acc_toT3 {l : List α} : toT (o0 :: o1 :: o2 :: accO l) depth (accV 3 l) = some (enc l) := acc_toT (R := [o0, o1, o2])
@[go_sem] theorem acc_exp3 {l : List α} : exportD (o0 :: o1 :: o2 :: accO l) (accV 3 l) = some (.t (enc l)) := acc_exp (R := [o0, o1, o2])
@[go_sem] theorem acc_len3 {l : List α} {e : Nat} : lenT (o0 :: o1 :: o2 :: accO l) (.sl e) (accV 3 l) = some ⟨.t (.int .i64 l.length), (o0 :: o1 :: o2 :: accO l), effL (accV 3 l)⟩ := acc_len (R := [o0, o1, o2])
end
@[go_sem] theorem acc_int3 {o0 : Obj} {o1 : Obj} {o2 : Obj} {l : List Int} {x : Int} {by_ : Nat} (hr : (l.length + 1) * by_ ≤ 70368744177664) :
    appendV (some (1, by_)) (o0 :: o1 :: o2 :: accO l) (accV 3 l) [.t (.int .i64 x)] = some ⟨accV 3 (l ++ [x]), (o0 :: o1 :: o2 :: accO (l ++ [x])), accE 3 l⟩ := acc_app (R := [o0, o1, o2]) rfl hr
@[go_sem] theorem acc_u323 {o0 : Obj} {o1 : Obj} {o2 : Obj} {l : List U32} {x : U32} {by_ : Nat} (hr : (l.length + 1) * by_ ≤ 70368744177664) :
    appendV (some (1, by_)) (o0 :: o1 :: o2 :: accO l) (accV 3 l) [.t (.int .u32 (x.toNat : Int))] = some ⟨accV 3 (l ++ [x]), (o0 :: o1 :: o2 :: accO (l ++ [x])), accE 3 l⟩ := acc_app (R := [o0, o1, o2]) rfl hr
@[go_sem] theorem acc_pair3 {o0 : Obj} {o1 : Obj} {o2 : Obj} {l : List (Int × Int)} {a c : Int} {by_ : Nat} (hr : (l.length + 1) * by_ ≤ 70368744177664) :
    appendV (some (2, by_)) (o0 :: o1 :: o2 :: accO l) (accV 3 l) [.t (.agg [.int .i64 a, .int .i64 c])] = some ⟨accV 3 (l ++ [(a, c)]), (o0 :: o1 :: o2 :: accO (l ++ [(a, c)])), accE 3 l⟩ := acc_app (x := (a, c)) (R := [o0, o1, o2]) rfl hr
@[go_sem] theorem sl_e0 : T.sl [] = enc ([] : List (Int × Int)) := rfl
@[go_sem] theorem sl_e1 {α : Type} [Enc α] (a0 : α) : T.sl [enc a0] = enc [a0] := rfl
@[go_sem] theorem sl_e2 {α : Type} [Enc α] (a0 a1 : α) : T.sl [enc a0, enc a1] = enc [a0, a1] := rfl
@[go_sem] theorem sl_e3 {α : Type} [Enc α] (a0 a1 a2 : α) : T.sl [enc a0, enc a1, enc a2] = enc [a0, a1, a2] := rfl
@[go_sem] theorem sl_e4 {α : Type} [Enc α] (a0 a1 a2 a3 : α) : T.sl [enc a0, enc a1, enc a2, enc a3] = enc [a0, a1, a2, a3] := rfl
@[go_sem] theorem sl_e5 {α : Type} [Enc α] (a0 a1 a2 a3 a4 : α) : T.sl [enc a0, enc a1, enc a2, enc a3, enc a4] = enc [a0, a1, a2, a3, a4] := rfl
@[go_sem] theorem sl_e6 {α : Type} [Enc α] (a0 a1 a2 a3 a4 a5 : α) : T.sl [enc a0, enc a1, enc a2, enc a3, enc a4, enc a5] = enc [a0, a1, a2, a3, a4, a5] := rfl
@[go_sem] theorem sl_i1 (a0 : Int) : T.sl [.int .i64 a0] = enc [a0] := rfl
@[go_sem] theorem sl_u1 (a0 : U32) : T.sl [.int .u32 (a0.toNat : Int)] = enc [a0] := rfl
@[go_sem] theorem sl_i2 (a0 a1 : Int) : T.sl [.int .i64 a0, .int .i64 a1] = enc [a0, a1] := rfl
@[go_sem] theorem sl_u2 (a0 a1 : U32) : T.sl [.int .u32 (a0.toNat : Int), .int .u32 (a1.toNat : Int)] = enc [a0, a1] := rfl
@[go_sem] theorem sl_i3 (a0 a1 a2 : Int) : T.sl [.int .i64 a0, .int .i64 a1, .int .i64 a2] = enc [a0, a1, a2] := rfl
@[go_sem] theorem sl_u3 (a0 a1 a2 : U32) : T.sl [.int .u32 (a0.toNat : Int), .int .u32 (a1.toNat : Int), .int .u32 (a2.toNat : Int)] = enc [a0, a1, a2] := rfl
@[go_sem] theorem sl_i4 (a0 a1 a2 a3 : Int) : T.sl [.int .i64 a0, .int .i64 a1, .int .i64 a2, .int .i64 a3] = enc [a0, a1, a2, a3] := rfl
@[go_sem] theorem sl_u4 (a0 a1 a2 a3 : U32) : T.sl [.int .u32 (a0.toNat : Int), .int .u32 (a1.toNat : Int), .int .u32 (a2.toNat : Int), .int .u32 (a3.toNat : Int)] = enc [a0, a1, a2, a3] := rfl
@[go_sem] theorem app_nil_pairs {H : Heap} {m : List (Int × Int)} {by_ : Nat} (hr : m.length * by_ ≤ 70368744177664) : appendV (some (2, by_)) H (.ex []) (vs m) = some ⟨accV H.length m, H ++ accO m, if m.isEmpty then .none else accE H.length ([] : List (Int × Int))⟩ := by
  have := acc_apps (R := H) (l := ([] : List (Int × Int))) (m := m) (by_ := by_) (fits_pairs m) rfl (by simpa using hr)
  rw [accV_nil, accO_nil, List.append_nil] at this
  exact this
@[go_sem] theorem app_acc_pairs0 {l m : List (Int × Int)} {by_ : Nat} (hr : (l.length + m.length) * by_ ≤ 70368744177664) : appendV (some (2, by_)) (accO l) (accV 0 l) (vs m) = some ⟨accV 0 (l ++ m), accO (l ++ m), if m.isEmpty then .none else accE 0 l⟩ :=
  acc_apps (R := []) (fits_pairs m) (fits_pairs l) hr
@[go_sem] theorem cc_21 {R : Heap} {a b : Obj} : (R ++ [a] ++ [b])[R.length + 1]? = some b := by simp
@[go_sem] theorem cc_20 {R : Heap} {a b : Obj} : (R ++ [a] ++ [b])[R.length]? = some a := by simp
@[go_sem] theorem cs_21 {R : Heap} {a b o : Obj} : (R ++ [a] ++ [b]).set (R.length + 1) o = R ++ [a] ++ [o] := by simp [List.set_append]
@[go_sem] theorem cs_20 {R : Heap} {a b o : Obj} : (R ++ [a] ++ [b]).set R.length o = R ++ [o] ++ [b] := by simp [List.set_append]
end Go.Sim
