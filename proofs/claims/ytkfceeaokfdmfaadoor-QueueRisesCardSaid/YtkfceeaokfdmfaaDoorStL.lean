/- A part of the proof of a law of module cupola: StL. It has no conditions of its own. -/
import Derived.Test.YtkfceeaokfdmfaaDoorStP
set_option linter.all false
set_option maxRecDepth 100000
namespace Go.Sim
open Enc (enc)
open Go.Proofs
structure WfF (s : Fs) : Prop where
  f : ∀ n ∈ s.f, InR n
  l : ∀ r ∈ s.l, ∀ n ∈ r, InR n
theorem fewF_iff {s : Fs} : fewF s = true ↔ s.f.length ≤ 40 ∧ s.l.length ≤ 10 ∧ ∀ r ∈ s.l, r.length ≤ 40 := by
  unfold fewF
  simp only [Bool.and_eq_true, decide_eq_true_eq, List.all_eq_true]
theorem few_ok {s : Fs} (w : WfF s) (h : fewF s = true) : OkF s := by
  obtain ⟨h1, h2, h3⟩ := fewF_iff.1 h
  exact ⟨w.f, w.l, by omega, by omega, fun r hr => by have := h3 r hr; omega⟩
section
variable {α : Type} [Enc α]
theorem app_nil1 [One α] {H : Heap} {m : List α} {by_ : Nat} (hr : m.length * by_ ≤ 70368744177664) : appendV (some (1, by_)) H (.ex []) (vs m) = some ⟨accV H.length m, H ++ accO m, if m.isEmpty then .none else accE H.length ([] : List α)⟩ := by
  have := acc_apps (R := H) (l := ([] : List α)) (m := m) (by_ := by_) (by rw [One.sz1]; exact fits_vs m) rfl (by simpa using hr)
  rw [accV_nil, accO_nil, List.append_nil, One.sz1] at this
  exact this
theorem accV_snoc {id : Nat} {l : List α} {x : α} : accV id (l ++ [x]) = .ref id (l.length + 1) := by
  rw [accV_ne (by simp)]; simp
theorem accO_snoc {l : List α} {x : α} : accO (l ++ [x]) = [⟨vs (l ++ [x]), Enc.sz α, false⟩] := accO_ne (by simp)
theorem acc_app4 {o0 : Obj} {o1 : Obj} {o2 : Obj} {o3 : Obj} {l : List α} {x : α} {sz by_ : Nat} (hf : fits (Enc.sz α) (.t (enc x)) = true) (hs : sz = Enc.sz α) (hr : (l.length + 1) * by_ ≤ 70368744177664) :
    appendV (some (sz, by_)) (o0 :: o1 :: o2 :: o3 :: accO l) (accV 4 l) [.t (enc x)] = some ⟨accV 4 (l ++ [x]), (o0 :: o1 :: o2 :: o3 :: accO (l ++ [x])), accE 4 l⟩ := by subst hs; exact acc_app (R := [o0, o1, o2, o3]) hf hr
theorem acc_app5 {o0 : Obj} {o1 : Obj} {o2 : Obj} {o3 : Obj} {o4 : Obj} {l : List α} {x : α} {sz by_ : Nat} (hf : fits (Enc.sz α) (.t (enc x)) = true) (hs : sz = Enc.sz α) (hr : (l.length + 1) * by_ ≤ 70368744177664) :
    appendV (some (sz, by_)) (o0 :: o1 :: o2 :: o3 :: o4 :: accO l) (accV 5 l) [.t (enc x)] = some ⟨accV 5 (l ++ [x]), (o0 :: o1 :: o2 :: o3 :: o4 :: accO (l ++ [x])), accE 5 l⟩ := by subst hs; exact acc_app (R := [o0, o1, o2, o3, o4]) hf hr
theorem acc_app6 {o0 : Obj} {o1 : Obj} {o2 : Obj} {o3 : Obj} {o4 : Obj} {o5 : Obj} {l : List α} {x : α} {sz by_ : Nat} (hf : fits (Enc.sz α) (.t (enc x)) = true) (hs : sz = Enc.sz α) (hr : (l.length + 1) * by_ ≤ 70368744177664) :
    appendV (some (sz, by_)) (o0 :: o1 :: o2 :: o3 :: o4 :: o5 :: accO l) (accV 6 l) [.t (enc x)] = some ⟨accV 6 (l ++ [x]), (o0 :: o1 :: o2 :: o3 :: o4 :: o5 :: accO (l ++ [x])), accE 6 l⟩ := by subst hs; exact acc_app (R := [o0, o1, o2, o3, o4, o5]) hf hr
theorem acc_app7 {o0 : Obj} {o1 : Obj} {o2 : Obj} {o3 : Obj} {o4 : Obj} {o5 : Obj} {o6 : Obj} {l : List α} {x : α} {sz by_ : Nat} (hf : fits (Enc.sz α) (.t (enc x)) = true) (hs : sz = Enc.sz α) (hr : (l.length + 1) * by_ ≤ 70368744177664) :
    appendV (some (sz, by_)) (o0 :: o1 :: o2 :: o3 :: o4 :: o5 :: o6 :: accO l) (accV 7 l) [.t (enc x)] = some ⟨accV 7 (l ++ [x]), (o0 :: o1 :: o2 :: o3 :: o4 :: o5 :: o6 :: accO (l ++ [x])), accE 7 l⟩ := by subst hs; exact acc_app (R := [o0, o1, o2, o3, o4, o5, o6]) hf hr
theorem acc_app8 {o0 : Obj} {o1 : Obj} {o2 : Obj} {o3 : Obj} {o4 : Obj} {o5 : Obj} {o6 : Obj} {o7 : Obj} {l : List α} {x : α} {sz by_ : Nat} (hf : fits (Enc.sz α) (.t (enc x)) = true) (hs : sz = Enc.sz α) (hr : (l.length + 1) * by_ ≤ 70368744177664) :
    appendV (some (sz, by_)) (o0 :: o1 :: o2 :: o3 :: o4 :: o5 :: o6 :: o7 :: accO l) (accV 8 l) [.t (enc x)] = some ⟨accV 8 (l ++ [x]), (o0 :: o1 :: o2 :: o3 :: o4 :: o5 :: o6 :: o7 :: accO (l ++ [x])), accE 8 l⟩ := by subst hs; exact acc_app (R := [o0, o1, o2, o3, o4, o5, o6, o7]) hf hr
theorem acc_app9 {o0 : Obj} {o1 : Obj} {o2 : Obj} {o3 : Obj} {o4 : Obj} {o5 : Obj} {o6 : Obj} {o7 : Obj} {o8 : Obj} {l : List α} {x : α} {sz by_ : Nat} (hf : fits (Enc.sz α) (.t (enc x)) = true) (hs : sz = Enc.sz α) (hr : (l.length + 1) * by_ ≤ 70368744177664) :
    appendV (some (sz, by_)) (o0 :: o1 :: o2 :: o3 :: o4 :: o5 :: o6 :: o7 :: o8 :: accO l) (accV 9 l) [.t (enc x)] = some ⟨accV 9 (l ++ [x]), (o0 :: o1 :: o2 :: o3 :: o4 :: o5 :: o6 :: o7 :: o8 :: accO (l ++ [x])), accE 9 l⟩ := by subst hs; exact acc_app (R := [o0, o1, o2, o3, o4, o5, o6, o7, o8]) hf hr
end
theorem acc_int4 {o0 : Obj} {o1 : Obj} {o2 : Obj} {o3 : Obj} {l : List Int} {x : Int} {by_ : Nat} (hr : (l.length + 1) * by_ ≤ 70368744177664) :
    appendV (some (1, by_)) (o0 :: o1 :: o2 :: o3 :: accO l) (accV 4 l) [.t (.int .i64 x)] = some ⟨accV 4 (l ++ [x]), (o0 :: o1 :: o2 :: o3 :: accO (l ++ [x])), accE 4 l⟩ := acc_app (R := [o0, o1, o2, o3]) rfl hr
theorem acc_int5 {o0 : Obj} {o1 : Obj} {o2 : Obj} {o3 : Obj} {o4 : Obj} {l : List Int} {x : Int} {by_ : Nat} (hr : (l.length + 1) * by_ ≤ 70368744177664) :
    appendV (some (1, by_)) (o0 :: o1 :: o2 :: o3 :: o4 :: accO l) (accV 5 l) [.t (.int .i64 x)] = some ⟨accV 5 (l ++ [x]), (o0 :: o1 :: o2 :: o3 :: o4 :: accO (l ++ [x])), accE 5 l⟩ := acc_app (R := [o0, o1, o2, o3, o4]) rfl hr
theorem acc_int6 {o0 : Obj} {o1 : Obj} {o2 : Obj} {o3 : Obj} {o4 : Obj} {o5 : Obj} {l : List Int} {x : Int} {by_ : Nat} (hr : (l.length + 1) * by_ ≤ 70368744177664) :
    appendV (some (1, by_)) (o0 :: o1 :: o2 :: o3 :: o4 :: o5 :: accO l) (accV 6 l) [.t (.int .i64 x)] = some ⟨accV 6 (l ++ [x]), (o0 :: o1 :: o2 :: o3 :: o4 :: o5 :: accO (l ++ [x])), accE 6 l⟩ := acc_app (R := [o0, o1, o2, o3, o4, o5]) rfl hr
theorem acc_int7 {o0 : Obj} {o1 : Obj} {o2 : Obj} {o3 : Obj} {o4 : Obj} {o5 : Obj} {o6 : Obj} {l : List Int} {x : Int} {by_ : Nat} (hr : (l.length + 1) * by_ ≤ 70368744177664) :
    appendV (some (1, by_)) (o0 :: o1 :: o2 :: o3 :: o4 :: o5 :: o6 :: accO l) (accV 7 l) [.t (.int .i64 x)] = some ⟨accV 7 (l ++ [x]), (o0 :: o1 :: o2 :: o3 :: o4 :: o5 :: o6 :: accO (l ++ [x])), accE 7 l⟩ := acc_app (R := [o0, o1, o2, o3, o4, o5, o6]) rfl hr
theorem acc_int8 {o0 : Obj} {o1 : Obj} {o2 : Obj} {o3 : Obj} {o4 : Obj} {o5 : Obj} {o6 : Obj} {o7 : Obj} {l : List Int} {x : Int} {by_ : Nat} (hr : (l.length + 1) * by_ ≤ 70368744177664) :
    appendV (some (1, by_)) (o0 :: o1 :: o2 :: o3 :: o4 :: o5 :: o6 :: o7 :: accO l) (accV 8 l) [.t (.int .i64 x)] = some ⟨accV 8 (l ++ [x]), (o0 :: o1 :: o2 :: o3 :: o4 :: o5 :: o6 :: o7 :: accO (l ++ [x])), accE 8 l⟩ := acc_app (R := [o0, o1, o2, o3, o4, o5, o6, o7]) rfl hr
theorem acc_int9 {o0 : Obj} {o1 : Obj} {o2 : Obj} {o3 : Obj} {o4 : Obj} {o5 : Obj} {o6 : Obj} {o7 : Obj} {o8 : Obj} {l : List Int} {x : Int} {by_ : Nat} (hr : (l.length + 1) * by_ ≤ 70368744177664) :
    appendV (some (1, by_)) (o0 :: o1 :: o2 :: o3 :: o4 :: o5 :: o6 :: o7 :: o8 :: accO l) (accV 9 l) [.t (.int .i64 x)] = some ⟨accV 9 (l ++ [x]), (o0 :: o1 :: o2 :: o3 :: o4 :: o5 :: o6 :: o7 :: o8 :: accO (l ++ [x])), accE 9 l⟩ := acc_app (R := [o0, o1, o2, o3, o4, o5, o6, o7, o8]) rfl hr
theorem mapM_set {α β : Type} {f : α → Option β} : ∀ {l : List α} {r : List β} {k : Nat} {v : α} {y : β}, l.mapM f = some r → f v = some y → (l.set k v).mapM f = some (r.set k y)
  | [], r, k, v, y, h, _ => by simp at h; subst h; simp
  | a :: l, r, k, v, y, h, hv => by
    rw [List.mapM_cons] at h
    cases ha : f a with
    | none => simp [ha] at h
    | some b =>
      cases hl : l.mapM f with
      | none => simp [ha, hl] at h
      | some q =>
        simp [ha, hl] at h
        subst h
        cases k with
        | zero => simp [List.mapM_cons, hv, hl]
        | succ k => simp [List.mapM_cons, ha, mapM_set (k := k) hl hv]
theorem toTo2_set {α : Type} [Enc α] {H : Heap} {l : List (List α)} {k id m : Nat} {y : List α} {esz : Nat} {st st' : Bool} {esz' : Nat} (h : cur H id m = some ⟨vs y, esz', st'⟩) : toTo2 H ⟨(vs l).set k (.ref id m), esz, st⟩ = some (enc (l.set k y)) := by
  have h2 : toT H 2 (.ref id m) = some (enc y) := by
    show (match cur H id m with | some o => (o.el.mapM (toT H 1)).map T.sl | none => none) = _
    rw [h]
    show ((vs y).mapM (toT H 1)).map T.sl = _
    rw [vs_mapM]; rfl
  show (((vs l).set k (.ref id m)).mapM (toT H 2)).map T.sl = _
  rw [mapM_set (vs_mapM H 2 l) h2, Option.map_some]
  show some (T.sl _) = some (T.sl _)
  rw [List.map_set]
@[go_sem] theorem cur1_set {α : Type} [Enc α] {l : List α} {k : Nat} {v : V} {n esz : Nat} {st : Bool} (h : l.length = n) : cur1 ⟨(vs l).set k v, esz, st⟩ n = some ⟨(vs l).set k v, esz, st⟩ := by simp [cur1, vs_len, h]
theorem enc_e0 : (enc ([] : List (Int × Int)) : T) = enc ([] : List Int) := rfl
theorem stateParts_run (s : Fs) (ws : WfF s) (n : Int) (hn : InR n) (loc : Int) (h0 : 0 ≤ loc) (h1 : loc ≤ 255) : Fun Tryd.prog 3 [enc s, .int .i64 n, .int .u8 loc] (.t (.bool true)) := by
  refine Fun.go (b := false) Tryd.func3 rfl rfl (by kernel_rfl) (by kernel_rfl) ?_
  cases hf : fewF s
  · simp -implicitDefEqProofs (disch := first | exact dsch | fail) only [go_sem, ↓reduceIte, Nat.reduceEqDiff, hf]
  · have hok := few_ok ws hf
    obtain ⟨f1, f2, f3⟩ := fewF_iff.1 hf
    have x1 : OkF ⟨s.d ^^^ 1#32, s.f, s.l⟩ := ⟨hok.f, hok.l, hok.fl, hok.ll, hok.rl⟩
    have x2 : OkF ⟨s.d, s.f ++ [n], s.l⟩ := by
      refine ⟨fun m hm => ?_, hok.l, by simp; omega, hok.ll, hok.rl⟩
      rcases List.mem_append.1 hm with h | h
      · exact hok.f m h
      · rw [List.mem_singleton] at h; subst h; exact hn
    have x3 : OkF ⟨s.d, s.f, s.l ++ [[]]⟩ := by
      refine ⟨hok.f, fun r hr m hm => ?_, hok.fl, by simp; omega, fun r hr => ?_⟩
      · rcases List.mem_append.1 hr with h | h
        · exact hok.l r h m hm
        · rw [List.mem_singleton] at h; subst h; cases hm
      · rcases List.mem_append.1 hr with h | h
        · exact hok.rl r h
        · rw [List.mem_singleton] at h; subst h; simp
    have y1 : eqB (codeB ⟨s.d ^^^ 1#32, s.f, s.l⟩) (codeB s) = false := by
      rw [eqB_code, ← Bool.not_eq_true, sameF_iff]
      intro e
      have : s.d ^^^ 1#32 = s.d := congrArg Fs.d e
      have h2 : (s.d ^^^ 1#32) ^^^ s.d = 0#32 := by rw [this, BitVec.xor_self]
      rw [BitVec.xor_comm s.d, BitVec.xor_assoc, BitVec.xor_self] at h2
      exact absurd h2 (by decide)
    have y2 : eqB (codeB ⟨s.d, s.f ++ [n], s.l⟩) (codeB s) = false := by
      rw [eqB_code, ← Bool.not_eq_true, sameF_iff]
      intro e
      have := congrArg List.length (congrArg Fs.f e)
      simp at this
    have y3 : eqB (codeB ⟨s.d, s.f, s.l ++ [[]]⟩) (codeB s) = false := by
      rw [eqB_code, ← Bool.not_eq_true, sameF_iff]
      intro e
      have := congrArg List.length (congrArg Fs.l e)
      simp at this
    by_cases hp : 0 < s.l.length
    · obtain ⟨k, hk⟩ : ∃ k : Nat, loc.tmod s.l.length = (k : Int) := ⟨(loc.tmod s.l.length).toNat, by have := Int.tmod_nonneg (s.l.length : Int) h0; omega⟩
      have hkl : k < s.l.length := by have := Int.tmod_lt_of_pos loc (b := (s.l.length : Int)) (by omega); omega
      have hne : s.l.isEmpty = false := by cases h : s.l with
        | nil => rw [h] at hp; simp at hp
        | cons a b => rfl
      have hv : ∀ id, accV id s.l = .ref id s.l.length := fun id => accV_ne hne
      have ho : accO s.l = [⟨vs s.l, 1, false⟩] := accO_ne hne
      have hgk := f3 _ (gd_mem hkl)
      have x4 : OkF ⟨s.d, s.f, s.l.set k (gd s.l k ++ [n])⟩ := by
        refine ⟨hok.f, fun r hr m hm => ?_, hok.fl, by simp; omega, fun r hr => ?_⟩
        · rcases List.mem_or_eq_of_mem_set hr with h | rfl
          · exact hok.l r h m hm
          · rcases List.mem_append.1 hm with h | h
            · exact hok.l _ (gd_mem hkl) m h
            · rw [List.mem_singleton] at h; subst h; exact hn
        · rcases List.mem_or_eq_of_mem_set hr with h | rfl
          · exact hok.rl r h
          · simp; omega
      have y4 : eqB (codeB ⟨s.d, s.f, s.l.set k (gd s.l k ++ [n])⟩) (codeB s) = false := by
        rw [eqB_code, ← Bool.not_eq_true, sameF_iff]
        intro e
        have h1 := congrArg (fun t : Fs => (gd t.l k).length) e
        simp only [gd_set_eq hkl, List.length_append, List.length_cons, List.length_nil] at h1
        omega
      cases hq : (gd s.l k).isEmpty
      · have hv2 : ∀ id, accV id (gd s.l k) = .ref id (gd s.l k).length := fun id => accV_ne hq
        have ho2 : accO (gd s.l k) = [⟨vs (gd s.l k), 1, false⟩] := accO_ne hq
        have hz : ∀ H : Heap, cur H 8 ((gd s.l k).length + 1) = some ⟨vs (gd s.l k ++ [n]), 1, false⟩ → toTo2 H ⟨(vs s.l).set k (V.ref 8 ((gd s.l k).length + 1)), 1, false⟩ = some (enc (s.l.set k (gd s.l k ++ [n]))) := fun H h => toTo2_set h
        simp -implicitDefEqProofs (disch := first | exact dsch | fail) only [go_sem, ↓reduceIte, Nat.reduceEqDiff, hq, hv2, ho2, List.length_set, List.length_append, hf, hok, hp, hk, x1, x2, x3, x4, y1, y2, y3, y4, hv, ho, app_nil1, enc_e0, acc_app5, acc_app8, acc_int7, acc_int8, accV_snoc, accO_snoc, List.cons_append, List.nil_append, List.length_cons, List.length_nil]
        simp -implicitDefEqProofs (disch := first | exact dsch | (simp only [go_sem, hz, x1, x2, x3, x4, y1, y2, y3, y4]; omega) | (refine of_eq_true ?_; simp (disch := first | omega | (refine of_eq_true ?_; simp only [go_sem, hz, x1, x2, x3, x4, y1, y2, y3, y4]; done) | (simp only [go_sem, hz, x1, x2, x3, x4, y1, y2, y3, y4]; omega)) only [go_sem, hz, x1, x2, x3, x4, y1, y2, y3, y4]; done) | fail) only [go_sem, ↓reduceIte, Nat.reduceEqDiff, hz, x1, x2, x3, x4, y1, y2, y3, y4]
      · have hq0 : gd s.l k = [] := by simpa using hq
        rw [hq0, List.nil_append] at x4 y4
        have hz : ∀ H : Heap, cur H 8 1 = some ⟨[.t (.int .i64 n)], 1, false⟩ → toTo2 H ⟨(vs s.l).set k (V.ref 8 1), 1, false⟩ = some (enc (s.l.set k [n])) := fun H h => toTo2_set (y := [n]) h
        simp -implicitDefEqProofs (disch := first | exact dsch | fail) only [go_sem, ↓reduceIte, Nat.reduceEqDiff, hq, hq0, List.length_set, accV_nil, accO_nil, hf, hok, hp, hk, x1, x2, x3, x4, y1, y2, y3, y4, hv, ho, app_nil1, enc_e0, acc_app5, acc_app8, acc_int7, acc_int8, accV_snoc, accO_snoc, List.cons_append, List.nil_append, List.length_cons, List.length_nil]
        simp -implicitDefEqProofs (disch := first | exact dsch | (simp only [go_sem, hz, x1, x2, x3, x4, y1, y2, y3, y4]; omega) | (refine of_eq_true ?_; simp (disch := first | omega | (refine of_eq_true ?_; simp only [go_sem, hz, x1, x2, x3, x4, y1, y2, y3, y4]; done) | (simp only [go_sem, hz, x1, x2, x3, x4, y1, y2, y3, y4]; omega)) only [go_sem, hz, x1, x2, x3, x4, y1, y2, y3, y4]; done) | fail) only [go_sem, ↓reduceIte, Nat.reduceEqDiff, hz, x1, x2, x3, x4, y1, y2, y3, y4]
    · have hp0 : s.l.length = 0 := by omega
      simp -implicitDefEqProofs (disch := first | exact dsch | fail) only [go_sem, ↓reduceIte, Nat.reduceEqDiff, hf, hok, hp, hp0, x1, x2, x3, y1, y2, y3, app_nil1, enc_e0, acc_app5, acc_app8, acc_int7, acc_int8, accV_snoc, accO_snoc, List.cons_append, List.nil_append, List.length_cons, List.length_nil]
end Go.Sim
