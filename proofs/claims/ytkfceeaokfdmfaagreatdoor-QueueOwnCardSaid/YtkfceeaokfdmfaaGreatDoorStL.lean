/- A part of the proof of a law of module cupola: StL. It has no conditions of its own. -/
import Derived.Test.YtkfceeaokfdmfaaGreatDoorStP
set_option linter.all false
set_option maxRecDepth 100000
namespace Go.Sim
open Enc (enc)
open Go.Proofs
structure WfF (s : Fs) : Prop where
  f : ∀ n ∈ s.f, InR n
  l : ∀ r ∈ s.l, ∀ n ∈ r, InR n
theorem fewF_iff {s : Fs} : fewF s = true ↔ s.f.length ≤ 40 ∧ s.l.length ≤ 10 ∧ ∀ r ∈ s.l, r.length ≤ 40 := by
  unfold fewF
  simp only [Bool.and_eq_true, decide_eq_true_eq, List.all_eq_true]
theorem few_ok {s : Fs} (w : WfF s) (h : fewF s = true) : OkF s := by
  obtain ⟨h1, h2, h3⟩ := fewF_iff.1 h
  exact ⟨w.f, w.l, by omega, by omega, fun r hr => by have := h3 r hr; omega⟩
section
variable {α : Type} [Enc α]
theorem app_nil1 [One α] {H : Heap} {m : List α} {by_ : Nat} (hr : m.length * by_ ≤ 70368744177664) : appendV (some (1, by_)) H (.ex []) (vs m) = some ⟨accV H.length m, H ++ accO m, if m.isEmpty then .none else accE H.length ([] : List α)⟩ := by
  have := acc_apps (R := H) (l := ([] : List α)) (m := m) (by_ := by_) (by rw [One.sz1]; exact fits_vs m) rfl (by simpa using hr)
  rw [accV_nil, accO_nil, List.append_nil, One.sz1] at this
  exact this
theorem accV_snoc {id : Nat} {l : List α} {x : α} : accV id (l ++ [x]) = .ref id (l.length + 1) := by
  rw [accV_ne (by simp)]; simp
theorem accO_snoc {l : List α} {x : α} : accO (l ++ [x]) = [⟨vs (l ++ [x]), Enc.sz α, false⟩] := accO_ne (by simp)
theorem acc_app4 {o0 : Obj} {o1 : Obj} {o2 : Obj} {o3 : Obj} {l : List α} {x : α} {sz by_ : Nat} (hf : fits (Enc.sz α) (.t (enc x)) = true) (hs : sz = Enc.sz α) (hr : (l.length + 1) * by_ ≤ 70368744177664) :
    appendV (some (sz, by_)) (o0 :: o1 :: o2 :: o3 :: accO l) (accV 4 l) [.t (enc x)] = some ⟨accV 4 (l ++ [x]), (o0 :: o1 :: o2 :: o3 :: accO (l ++ [x])), accE 4 l⟩ := by subst hs; exact acc_app (R := [o0, o1, o2, o3]) hf hr
theorem acc_app5 {o0 : Obj} {o1 : Obj} {o2 : Obj} {o3 : Obj} {o4 : Obj} {l : List α} {x : α} {sz by_ : Nat} (hf : fits (Enc.sz α) (.t (enc x)) = true) (hs : sz = Enc.sz α) (hr : (l.length + 1) * by_ ≤ 70368744177664) :
    appendV (some (sz, by_)) (o0 :: o1 :: o2 :: o3 :: o4 :: accO l) (accV 5 l) [.t (enc x)] = some ⟨accV 5 (l ++ [x]), (o0 :: o1 :: o2 :: o3 :: o4 :: accO (l ++ [x])), accE 5 l⟩ := by subst hs; exact acc_app (R := [o0, o1, o2, o3, o4]) hf hr
theorem acc_app6 {o0 : Obj} {o1 : Obj} {o2 : Obj} {o3 : Obj} {o4 : Obj} {o5 : Obj} {l : List α} {x : α} {sz by_ : Nat} (hf : fits (Enc.sz α) (.t (enc x)) = true) (hs : sz = Enc.sz α) (hr : (l.length + 1) * by_ ≤ 70368744177664) :
    appendV (some (sz, by_)) (o0 :: o1 :: o2 :: o3 :: o4 :: o5 :: accO l) (accV 6 l) [.t (enc x)] = some ⟨accV 6 (l ++ [x]), (o0 :: o1 :: o2 :: o3 :: o4 :: o5 :: accO (l ++ [x])), accE 6 l⟩ := by subst hs; exact acc_app (R := [o0, o1, o2, o3, o4, o5]) hf hr
theorem acc_app7 {o0 : Obj} {o1 : Obj} {o2 : Obj} {o3 : Obj} {o4 : Obj} {o5 : Obj} {o6 : Obj} {l : List α} {x : α} {sz by_ : Nat} (hf : fits (Enc.sz α) (.t (enc x)) = true) (hs : sz = Enc.sz α) (hr : (l.length + 1) * by_ ≤ 70368744177664) :
    appendV (some (sz, by_)) (o0 :: o1 :: o2 :: o3 :: o4 :: o5 :: o6 :: accO l) (accV 7 l) [.t (enc x)] = some ⟨accV 7 (l ++ [x]), (o0 :: o1 :: o2 :: o3 :: o4 :: o5 :: o6 :: accO (l ++ [x])), accE 7 l⟩ := by subst hs; exact acc_app (R := [o0, o1, o2, o3, o4, o5, o6]) hf hr
theorem acc_app8 {o0 : Obj} {o1 : Obj} {o2 : Obj} {o3 : Obj} {o4 : Obj} {o5 : Obj} {o6 : Obj} {o7 : Obj} {l : List α} {x : α} {sz by_ : Nat} (hf : fits (Enc.sz α) (.t (enc x)) = true) (hs : sz = Enc.sz α) (hr : (l.length + 1) * by_ ≤ 70368744177664) :
    appendV (some (sz, by_)) (o0 :: o1 :: o2 :: o3 :: o4 :: o5 :: o6 :: o7 :: accO l) (accV 8 l) [.t (enc x)] = some ⟨accV 8 (l ++ [x]), (o0 :: o1 :: o2 :: o3 :: o4 :: o5 :: o6 :: o7 :: accO (l ++ [x])), accE 8 l⟩ := by subst hs; exact acc_app (R := [o0, o1, o2, o3, o4, o5, o6, o7]) hf hr
theorem acc_app9 {o0 : Obj} {o1 : Obj} {o2 : Obj} {o3 : Obj} {o4 : Obj} {o5 : Obj} {o6 : Obj} {o7 : Obj} {o8 : Obj} {l : List α} {x : α} {sz by_ : Nat} (hf : fits (Enc.sz α) (.t (enc x)) = true) (hs : sz = Enc.sz α) (hr : (l.length + 1) * by_ ≤ 70368744177664) :
    appendV (some (sz, by_)) (o0 :: o1 :: o2 :: o3 :: o4 :: o5 :: o6 :: o7 :: o8 :: accO l) (accV 9 l) [.t (enc x)] = some ⟨accV 9 (l ++ [x]), (o0 :: o1 :: o2 :: o3 :: o4 :: o5 :: o6 :: o7 :: o8 :: accO (l ++ [x])), accE 9 l⟩ := by subst hs; exact acc_app (R := [o0, o1, o2, o3, o4, o5, o6, o7, o8]) hf hr
end
theorem acc_int4 {o0 : Obj} {o1 : Obj} {o2 : Obj} {o3 : Obj} {l : List Int} {x : Int} {by_ : Nat} (hr : (l.length + 1) * by_ ≤ 70368744177664) :
    appendV (some (1, by_)) (o0 :: o1 :: o2 :: o3 :: accO l) (accV 4 l) [.t (.int .i64 x)] = some ⟨accV 4 (l ++ [x]), (o0 :: o1 :: o2 :: o3 :: accO (l ++ [x])), accE 4 l⟩ := acc_app (R := [o0, o1, o2, o3]) rfl hr
theorem acc_int5 {o0 : Obj} {o1 : Obj} {o2 : Obj} {o3 : Obj} {o4 : Obj} {l : List Int} {x : Int} {by_ : Nat} (hr : (l.length + 1) * by_ ≤ 70368744177664) :
    appendV (some (1, by_)) (o0 :: o1 :: o2 :: o3 :: o4 :: accO l) (accV 5 l) [.t (.int .i64 x)] = some ⟨accV 5 (l ++ [x]), (o0 :: o1 :: o2 :: o3 :: o4 :: accO (l ++ [x])), accE 5 l⟩ := acc_app (R := [o0, o1, o2, o3, o4]) rfl hr
theorem acc_int6 {o0 : Obj} {o1 : Obj} {o2 : Obj} {o3 : Obj} {o4 : Obj} {o5 : Obj} {l : List Int} {x : Int} {by_ : Nat} (hr : (l.length + 1) * by_ ≤ 70368744177664) :
    appendV (some (1, by_)) (o0 :: o1 :: o2 :: o3 :: o4 :: o5 :: accO l) (accV 6 l) [.t (.int .i64 x)] = some ⟨accV 6 (l ++ [x]), (o0 :: o1 :: o2 :: o3 :: o4 :: o5 :: accO (l ++ [x])), accE 6 l⟩ := acc_app (R := [o0, o1, o2, o3, o4, o5]) rfl hr
theorem acc_int7 {o0 : Obj} {o1 : Obj} {o2 : Obj} {o3 : Obj} {o4 : Obj} {o5 : Obj} {o6 : Obj} {l : List Int} {x : Int} {by_ : Nat} (hr : (l.length + 1) * by_ ≤ 70368744177664) :
    appendV (some (1, by_)) (o0 :: o1 :: o2 :: o3 :: o4 :: o5 :: o6 :: accO l) (accV 7 l) [.t (.int .i64 x)] = some ⟨accV 7 (l ++ [x]), (o0 :: o1 :: o2 :: o3 :: o4 :: o5 :: o6 :: accO (l ++ [x])), accE 7 l⟩ := acc_app (R := [o0, o1, o2, o3, o4, o5, o6]) rfl hr
theorem acc_int8 {o0 : Obj} {o1 : Obj} {o2 : Obj} {o3 : Obj} {o4 : Obj} {o5 : Obj} {o6 : Obj} {o7 : Obj} {l : List Int} {x : Int} {by_ : Nat} (hr : (l.length + 1) * by_ ≤ 70368744177664) :
    appendV (some (1, by_)) (o0 :: o1 :: o2 :: o3 :: o4 :: o5 :: o6 :: o7 :: accO l) (accV 8 l) [.t (.int .i64 x)] = some ⟨accV 8 (l ++ [x]), (o0 :: o1 :: o2 :: o3 :: o4 :: o5 :: o6 :: o7 :: accO (l ++ [x])), accE 8 l⟩ := acc_app (R := [o0, o1, o2, o3, o4, o5, o6, o7]) rfl hr
theorem acc_int9 {o0 : Obj} {o1 : Obj} {o2 : Obj} {o3 : Obj} {o4 : Obj} {o5 : Obj} {o6 : Obj} {o7 : Obj} {o8 : Obj} {l : List Int} {x : Int} {by_ : Nat} (hr : (l.length + 1) * by_ ≤ 70368744177664) :
    appendV (some (1, by_)) (o0 :: o1 :: o2 :: o3 :: o4 :: o5 :: o6 :: o7 :: o8 :: accO l) (accV 9 l) [.t (.int .i64 x)] = some ⟨accV 9 (l ++ [x]), (o0 :: o1 :: o2 :: o3 :: o4 :: o5 :: o6 :: o7 :: o8 :: accO (l ++ [x])), accE 9 l⟩ := acc_app (R := [o0, o1, o2, o3, o4, o5, o6, o7, o8]) rfl hr
theorem mapM_set {α β : Type} {f : α → Option β} : ∀ {l : List α} {r : List β} {k : Nat} {v : α} {y : β}, l.mapM f = some r → f v = some y → (l.set k v).mapM f = some (r.set k y)
  | [], r, k, v, y, h, _ => by simp at h; subst h; simp
  | a :: l, r, k, v, y, h, hv => by
    rw [List.mapM_cons] at h
    cases ha : f a with
    | none => simp [ha] at h
    | some b =>
      cases hl : l.mapM f with
      | none => simp [ha, hl] at h
      | some q =>
        simp [ha, hl] at h
        subst h
        cases k with
        | zero => simp [List.mapM_cons, hv, hl]
        | succ k => simp [List.mapM_cons, ha, mapM_set (k := k) hl hv]
theorem toTo2_set {α : Type} [Enc α] {H : Heap} {l : List (List α)} {k id m : Nat} {y : List α} {esz : Nat} {st st' : Bool} {esz' : Nat} (h : cur H id m = some ⟨vs y, esz', st'⟩) : toTo2 H ⟨(vs l).set k (.ref id m), esz, st⟩ = some (enc (l.set k y)) := by
  have h2 : toT H 2 (.ref id m) = some (enc y) := by
    show (match cur H id m with | some o => (o.el.mapM (toT H 1)).map T.sl | none => none) = _
    rw [h]
    show ((vs y).mapM (toT H 1)).map T.sl = _
    rw [vs_mapM]; rfl
  show (((vs l).set k (.ref id m)).mapM (toT H 2)).map T.sl = _
  rw [mapM_set (vs_mapM H 2 l) h2, Option.map_some]
  show some (T.sl _) = some (T.sl _)
  rw [List.map_set]
@[go_sem] theorem cur1_set {α : Type} [Enc α] {l : List α} {k : Nat} {v : V} {n esz : Nat} {st : Bool} (h : l.length = n) : cur1 ⟨(vs l).set k v, esz, st⟩ n = some ⟨(vs l).set k v, esz, st⟩ := by simp [cur1, vs_len, h]
theorem enc_e0 : (enc ([] : List (Int × Int)) : T) = enc ([] : List Int) := rfl
end Go.Sim
