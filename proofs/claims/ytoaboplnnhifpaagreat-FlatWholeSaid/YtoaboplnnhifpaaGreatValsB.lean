/- A part of the proof of a law of module cupola: Rg, Vals2, Wf. It has no conditions of its own. -/
import Derived.Test.YtoaboplnnhifpaaGreatVals
set_option linter.all false
namespace Go.Sim
open Enc (enc)

def InR (n : Int) : Prop := -9223372036854775808 ≤ n ∧ n ≤ 9223372036854775807
theorem inR_wrap (n : Int) : InR (IntKind.i64.wrap n) := by
  unfold InR IntKind.wrap
  simp [IntKind.bits, IntKind.signed]
  omega
structure RgR (r : Rn) : Prop where
  regs : ∀ n, InR (r.t.regs.gv n)
  evs : ∀ e ∈ r.t.ev, InR e.val
  vals : ∀ v ∈ r.vals, InR v
theorem gv_put {f : Fl} (h : ∀ n, InR (f.gv n)) {n v : Int} {d : U32} (hv : InR v) : ∀ m, InR ((f.put n v d).gv m) := by
  have h0 := h 0; have h1 := h 1; have h2 := h 2; have h3 := h 3
  simp only [Fl.gv, if_true] at h0 h1 h2 h3
  simp at h1 h2 h3
  have hz : InR 0 := by unfold InR; omega
  intro m
  unfold Fl.put
  split
  · unfold Fl.gv; repeat' split
    all_goals assumption
  split
  · unfold Fl.gv; repeat' split
    all_goals assumption
  split
  · unfold Fl.gv; repeat' split
    all_goals assumption
  split
  · unfold Fl.gv; repeat' split
    all_goals assumption
  · exact h m
theorem rg_put {r : Rn} (h : RgR r) {n v : Int} {d : U32} (hv : InR v) : RgR (r.setRegs (r.t.regs.put n v d)) := ⟨gv_put h.regs hv, h.evs, h.vals⟩
theorem rg_event {r : Rn} (h : RgR r) {e : Ev} {a d : U32} {p : Int} (he : InR e.val) : RgR (r.event e a d p) :=
  ⟨h.regs, fun x hx => by
    rcases List.mem_append.1 hx with hx | hx
    · exact h.evs x hx
    · rw [List.mem_singleton] at hx; subst hx; exact he, h.vals⟩
theorem inR0 : InR 0 := by unfold InR; omega
theorem inR1 : InR 1 := by unfold InR; omega
theorem rg_load {r : Rn} (h : RgR r) (x : In) : RgR (r.load x) := by
  unfold Rn.load
  split
  · exact ⟨h.regs, h.evs, h.vals⟩
  · have hv : InR (gd r.vals r.t.vals.toNat) := by
      by_cases hh : r.t.vals.toNat < r.vals.length
      · exact h.vals _ (gd_mem hh)
      · have : gd r.vals r.t.vals.toNat = 0 := by unfold gd; rw [List.getD_eq_getElem?_getD, List.getElem?_eq_none (by omega)]; rfl
        rw [this]; exact inR0
    have h1 : RgR (({ r with t := { r.t with vals := r.t.vals + 1 } } : Rn).event ⟨0, 1, placeL r.t.regs x r.locs, gd r.vals r.t.vals.toNat, decide (x.op = 7), false, decide (x.op = 9)⟩ (placeD r.t.regs x) 0#32 (-1)) := by
      have h2 : RgR ({ r with t := { r.t with vals := r.t.vals + 1 } } : Rn) := ⟨h.regs, h.evs, h.vals⟩
      refine rg_event h2 ?_
      exact hv
    generalize (({ r with t := { r.t with vals := r.t.vals + 1 } } : Rn).event ⟨0, 1, placeL r.t.regs x r.locs, gd r.vals r.t.vals.toNat, decide (x.op = 7), false, decide (x.op = 9)⟩ (placeD r.t.regs x) 0#32 (-1)) = r1 at h1 ⊢
    unfold Rn.loaded
    split
    · exact ⟨gv_put h1.regs hv, h1.evs, h1.vals⟩
    · exact ⟨gv_put h1.regs hv, h1.evs, h1.vals⟩
theorem rg_step {r : Rn} (h : RgR r) {x : In} (hx : x.op = 1 → InR x.imm) : RgR (r.step x) := by
  unfold Rn.step
  split
  · exact ⟨h.regs, h.evs, h.vals⟩
  unfold Rn.does
  split
  · exact rg_load h x
  split
  · unfold Rn.excl
    split
    · exact rg_put (r := { r with last := -1 }) ⟨h.regs, h.evs, h.vals⟩ inR1
    split
    · exact ⟨h.regs, h.evs, h.vals⟩
    split
    · exact rg_put (r := { r with last := -1, t := { r.t with lucks := r.t.lucks + 1 } }) ⟨h.regs, h.evs, h.vals⟩ inR1
    · exact rg_put (rg_event (r := { r with last := -1, t := { r.t with lucks := r.t.lucks + 1 } }) ⟨h.regs, h.evs, h.vals⟩ (by exact h.regs _)) inR0
  split
  · exact rg_event h (by exact h.regs _)
  split
  · exact rg_event h inR0
  split
  · exact ⟨h.regs, h.evs, h.vals⟩
  · unfold Rn.alone Fl.does
    split
    · rename_i h1; exact rg_put h (hx h1)
    split
    · refine rg_put h ?_
      unfold opI andI
      split
      · exact inR_wrap _
      split
      · exact inR_wrap _
      · exact inR_wrap _
    · exact ⟨h.regs, h.evs, h.vals⟩
theorem rg_run : ∀ (xs : List In) (r : Rn), RgR r → (∀ x ∈ xs, x.op = 1 → InR x.imm) → RgR (runFrom r xs)
  | [], r, h, _ => h
  | x :: xs, r, h, hx => by
    rw [runFrom]
    split
    · exact rg_run xs _ (rg_step h (hx x (by simp))) fun y hy => hx y (by simp [hy])
    · exact h
theorem may_mov {x : In} {n locs : Int} (h : mayI x n locs = true) (ho : x.op = 1) : InR x.imm := by
  unfold mayI at h
  simp only [Bool.and_eq_true] at h
  have h2 := h.2
  have hr : andI (rowI x.op).2 16 ≠ 0 := by rw [ho]; decide
  rw [if_neg hr] at h2
  unfold immI at h2
  rw [if_pos ho] at h2
  simp only [Bool.and_eq_true, decide_eq_true_eq] at h2
  unfold InR; omega
theorem rg_tr {th : List In} {locs : Int} (hm : mayTh th locs = true) (v : List Int) (b : List Bool) (hv : ∀ x ∈ v, InR x) : ∀ e ∈ (runTr th locs v b).ev, InR e.val := by
  unfold runTr
  rw [if_pos hm]
  refine (rg_run th ⟨zeroTr, locs, v, b, 0#32, -1, 0⟩ ⟨fun n => ?_, fun e he => by simp [zeroTr] at he, hv⟩ fun x hx => ?_).evs
  · show InR (zeroTr.regs.gv n)
    have : zeroTr.regs.gv n = 0 := by unfold Fl.gv zeroTr; simp
    rw [this]; exact inR0
  · obtain ⟨k, hk, rfl⟩ := List.mem_iff_getElem.1 hx
    rw [gd_get hk]
    exact may_mov ((may_at hm).2.2.2 k hk)
theorem rg_tell {th : List In} {locs : Int} {vals : List Int} (hm : mayTh th locs = true) (hv : ∀ x ∈ vals, InR x) : ∀ (k : Nat) (v : List Int) (b : List Bool), (∀ x ∈ v, InR x) → ∀ t ∈ tellR th locs vals k v b, ∀ e ∈ t.ev, InR e.val
  | 0, v, b, _, t, h => by cases h
  | k + 1, v, b, hk, t, h => by
    rw [tellR] at h
    split at h
    · rw [List.mem_singleton] at h; subst h; exact rg_tr hm _ _ hk
    split at h
    · obtain ⟨n, hn, h⟩ := List.mem_flatMap.1 h
      exact rg_tell hm hv k _ _ (fun x hx => by
        rcases List.mem_append.1 hx with hx | hx
        · exact hk x hx
        · rw [List.mem_singleton] at hx; subst hx; exact hv _ hn) t h
    · obtain ⟨n, _, h⟩ := List.mem_flatMap.1 h
      exact rg_tell hm hv k _ _ hk t h
theorem rg_traces {th : List In} {locs : Int} {vals : List Int} (hm : mayTh th locs = true) (hv : ∀ x ∈ vals, InR x) : ∀ t ∈ tracesR th locs vals, ∀ e ∈ t.ev, InR e.val := by
  intro t h
  unfold tracesR at h
  split at h
  · cases h
  · exact rg_tell hm hv 13 [] [] (by simp) t h
end Go.Sim

namespace Go.Sim
open Enc (enc)
open Go.Proofs

theorem compactR_len : ∀ l : List Int, (compactR l).length ≤ l.length
  | [] => Nat.le_refl _
  | [_] => Nat.le_refl _
  | x :: y :: r => by
    rw [compactR]
    split
    · have := compactR_len (y :: r); simp at *; omega
    · have := compactR_len (y :: r); simp at *; omega
theorem sortR_len (l : List Int) : (sortR l).length = l.length := List.length_mergeSort l
theorem onceR_len (l : List Int) : (onceR l).length ≤ l.length := by
  unfold onceR; have := compactR_len (sortR l); rw [sortR_len] at this; exact this
theorem map_intT (l : List Int) : T.sl (l.map intT) = enc l := rfl
theorem vals_once (l : List Int) (hl : l.length * 8 ≤ 140737488351232) : Fun Tryz.prog 89 [enc l] (.t (enc (onceR l))) := by
  have e : onceT [enc l] = some (enc (onceR l)) := by
    show (intsT (l.map enc)).bind _ = _
    rw [intsT_enc, Option.bind_some, if_pos hl]; rfl
  refine orc_fun (v := .t (enc (onceR l))) (H := []) rfl (data_run rfl e) ?_
  rw [show isFresh Tryz.prog 89 = false by kernel_rfl, exportB_false, exportD_t]
@[go_sem] theorem pu_once {l : List Int} (hl : l.length * 8 ≤ 140737488351232) {K : Kp} : @Pu _ Tryz.prog 89 [enc l] K = K.k (.t (enc (onceR l))) := (vals_once l hl).pu

def wrV1 (t : Tr) : List Int := (t.ev.filter fun e => decide (e.kind = 2)).map fun e => e.val
def wroteR (l : List Tr) : List Int := onceR (l.flatMap wrV1)
theorem evVals_enc (l : List Ev) : evVals (l.map enc) = some ((l.filter fun e => decide (e.kind = 2)).map fun e => e.val) := by
  induction l with
  | nil => rfl
  | cons e l ih =>
    rw [List.map_cons, evVals, ih]
    have h1 : evVal (enc e) = some (if e.kind = 2 then [e.val] else []) := rfl
    rw [h1]
    by_cases h : e.kind = 2 <;> simp [h]
theorem trVals_enc (l : List Tr) (he : ∀ t ∈ l, t.ev.length ≤ 8) : trVals (l.map enc) = some (l.flatMap wrV1) := by
  induction l with
  | nil => rfl
  | cons t l ih =>
    rw [List.map_cons, enc_Tr, enc_list, trVals, evVals_enc, ih fun x hx => he x (by simp [hx])]
    rw [if_pos ⟨rfl, by rw [List.length_map]; have := he t (by simp); omega, rfl⟩]
    rfl
theorem wr_all {l : List Tr} (hr : ∀ t ∈ l, ∀ e ∈ t.ev, InR e.val) : (l.flatMap wrV1).all inRB = true := by
  rw [List.all_eq_true]
  intro v hv
  obtain ⟨t, ht, hv⟩ := List.mem_flatMap.1 hv
  obtain ⟨e, he, rfl⟩ := List.mem_map.1 hv
  have := hr t ht e (List.mem_filter.1 he).1
  unfold InR at this
  unfold inRB
  simp [this]
theorem compactR_mem : ∀ {l : List Int} {x : Int}, x ∈ compactR l → x ∈ l
  | [], _, h => h
  | [_], _, h => h
  | a :: b :: r, x, h => by
    rw [compactR] at h
    split at h
    · exact List.mem_cons_of_mem _ (compactR_mem h)
    · rcases List.mem_cons.1 h with rfl | h
      · simp
      · exact List.mem_cons_of_mem _ (compactR_mem h)
theorem onceR_mem {l : List Int} {x : Int} (h : x ∈ onceR l) : x ∈ l := (List.mergeSort_perm l _).mem_iff.1 (compactR_mem h)
theorem wrote_rg {l : List Tr} (hr : ∀ t ∈ l, ∀ e ∈ t.ev, InR e.val) : ∀ v ∈ wroteR l, InR v := by
  intro v hv
  obtain ⟨t, ht, hv⟩ := List.mem_flatMap.1 (onceR_mem hv)
  obtain ⟨e, he, rfl⟩ := List.mem_map.1 hv
  exact hr t ht e (List.mem_filter.1 he).1
theorem vals_Wrote (l : List Tr) (hl : (l.flatMap wrV1).length * 8 ≤ 140737488351232) (hr : ∀ t ∈ l, ∀ e ∈ t.ev, InR e.val) (hn : l.length ≤ 1000000000) (he : ∀ t ∈ l, t.ev.length ≤ 8) : Fun Tryz.prog 91 [enc l] (.t (enc (wroteR l))) := by
  have e : wroteT [enc l] = some (enc (wroteR l)) := by
    show (trVals (l.map enc)).bind _ = _
    rw [trVals_enc l he, Option.bind_some, if_pos ⟨by rw [List.length_map]; exact hn, hl, wr_all hr⟩]; rfl
  refine orc_fun (v := .t (enc (wroteR l))) (H := []) rfl (data_run rfl e) ?_
  rw [show isFresh Tryz.prog 91 = false by kernel_rfl, exportB_false, exportD_t]
theorem pu_Wrote {l : List Tr} (hl : (l.flatMap wrV1).length * 8 ≤ 140737488351232) (hr : ∀ t ∈ l, ∀ e ∈ t.ev, InR e.val) (hn : l.length ≤ 1000000000) (he : ∀ t ∈ l, t.ev.length ≤ 8) {K : Kp} : @Pu _ Tryz.prog 91 [enc l] K = K.k (.t (enc (wroteR l))) := (vals_Wrote l hl hr hn he).pu

theorem ok_run : ∀ (xs : List In) (r : Rn) (n : Nat), r.ok n → n + xs.length ≤ 1000 → (∀ x ∈ xs, x.op = 13 ∨ x.op = 14 → 0 ≤ x.imm ∧ x.imm ≤ 1000) → (runFrom r xs).ok (n + xs.length)
  | [], r, n, h, _, _ => h
  | x :: xs, r, n, h, hn, hb => by
    rw [runFrom]
    simp only [List.length_cons] at hn ⊢
    split
    · have := ok_run xs (r.step x) (n + 1) (ok_step h (by omega) x (hb x (by simp))) (by omega) fun y hy => hb y (by simp [hy])
      rw [show n + (xs.length + 1) = n + 1 + xs.length by omega]; exact this
    · exact { h with len := by have := h.len; omega, n1 := hn }
theorem may_all {th : List In} {locs : Int} (h : mayTh th locs = true) : ∀ x ∈ th, x.op = 13 ∨ x.op = 14 → 0 ≤ x.imm ∧ x.imm ≤ 1000 := by
  obtain ⟨m1, _, _, m4⟩ := may_at h
  intro x hx hop
  obtain ⟨k, hk, rfl⟩ := List.mem_iff_getElem.1 hx
  have h4 := m4 k hk
  rw [gd_get hk] at hop ⊢
  have := may_br h4 hop
  omega
theorem run_ev (th : List In) (locs : Int) (v : List Int) (b : List Bool) (hv : v.length ≤ 1000000) (hb : b.length ≤ 1000000) : (runTr th locs v b).ev.length ≤ 8 := by
  unfold runTr
  split
  · rename_i h
    obtain ⟨m1, m2, m3, _⟩ := may_at h
    have h0 : (⟨zeroTr, locs, v, b, 0#32, -1, 0⟩ : Rn).ok 0 := ⟨m2, m3, by simp [zeroTr], by simp [zeroTr], by simp [zeroTr], by simp [zeroTr], by simp, by simp [zeroTr], by simp [zeroTr], by omega, hv, hb, by simp, by simp⟩
    have := (ok_run th _ 0 h0 (by omega) (may_all h)).len
    omega
  · simp [zeroTr]
theorem tell_ev {th : List In} {locs : Int} {vals : List Int} : ∀ (k : Nat) (v : List Int) (b : List Bool), v.length + b.length + k ≤ 1000 → ∀ t ∈ tellR th locs vals k v b, t.ev.length ≤ 8
  | 0, v, b, _, t, h => by cases h
  | k + 1, v, b, hk, t, h => by
    rw [tellR] at h
    split at h
    · rw [List.mem_singleton] at h; subst h; exact run_ev _ _ _ _ (by omega) (by omega)
    split at h
    · obtain ⟨n, _, h⟩ := List.mem_flatMap.1 h
      exact tell_ev k _ _ (by simp; omega) t h
    · obtain ⟨n, _, h⟩ := List.mem_flatMap.1 h
      exact tell_ev k _ _ (by simp; omega) t h
theorem traces_ev {th : List In} {locs : Int} {vals : List Int} : ∀ t ∈ tracesR th locs vals, t.ev.length ≤ 8 := by
  intro t h
  unfold tracesR at h
  split at h
  · cases h
  · exact tell_ev 13 [] [] (by simp) t h
theorem traces_len {th : List In} {locs : Int} {vals : List Int} (hv : vals.length ≤ 8) : (tracesR th locs vals).length ≤ 1048576 := by
  unfold tracesR
  split
  · simp
  · have := tell_len (th := th) (locs := locs) (vals := vals) (by omega) hv 13 [] []
    exact Nat.le_trans this (sz_top _ _)
theorem wrote_len {th : List In} {locs : Int} {vals : List Int} (hv : vals.length ≤ 8) : ((tracesR th locs vals).flatMap wrV1).length ≤ 8388608 := by
  have := flat_len (l := tracesR th locs vals) (f := wrV1) (m := 8) fun t ht => by
    unfold wrV1
    rw [List.length_map]
    exact Nat.le_trans (List.length_filter_le _ _) (traces_ev t ht)
  have h2 := traces_len (th := th) (locs := locs) hv
  omega

def nextV (t : Te) (l : List Int) : List Int := onceR (l ++ t.th.flatMap fun th => wroteR (tracesR th t.init.length l))
def valsR (t : Te) : Nat → List Int → Option (List Int)
  | 0, l => some l
  | k + 1, l => if 8 < (nextV t l).length then none else valsR t k (nextV t l)
def ofE (t : Te) : Int := if checkE t ≠ 0 then checkE t else if (valsR t (min (cntT 2 t) 6) (onceR t.init)).isSome then 0 else 3
def ofR (t : Te) : List Int := if checkE t ≠ 0 then [] else (valsR t (min (cntT 2 t) 6) (onceR t.init)).getD []

def Acc1 {α : Type} [Enc α] (R : Heap) (v : V) (l : List α) : Prop := (v = .ex [] ∧ l = []) ∨ ∃ m, v = .ref (m + 1) l.length ∧ R[m]? = some ⟨vs l, 1, false⟩
theorem Acc1.app {α : Type} [Enc α] [One α] {o : Obj} {R : Heap} {v : V} {l ys : List α} {by_ : Nat} (h : Acc1 R v l) (hr : (l.length + ys.length) * by_ ≤ 70368744177664) :
    ∃ v' R' f, appendV (some (1, by_)) (o :: R) v (vs ys) = some ⟨v', o :: R', f⟩ ∧ Acc1 R' v' (l ++ ys) := by
  have hf : (vs ys).all (fits 1) = true := fits_vs ys
  rcases h with ⟨rfl, rfl⟩ | ⟨m, rfl, h⟩
  · by_cases hy : ys = []
    · subst hy; exact ⟨_, R, _, rfl, .inl ⟨rfl, rfl⟩⟩
    · have h0 : (vs ys).isEmpty = false := by cases ys with | nil => exact absurd rfl hy | cons => rfl
      refine ⟨_, R ++ [⟨vs ys, 1, false⟩], _, app_ex hf h0 rfl (by simpa [vs_len] using hr), .inr ⟨R.length, ?_, ?_⟩⟩
      · simp [vs_len]
      · simp
  · have hg : (o :: R)[m + 1]? = some ⟨vs l, 1, false⟩ := by simpa using h
    by_cases hy : ys = []
    · subst hy
      refine ⟨.ref (m + 1) l.length, R, .none, ?_, .inr ⟨m, by simp, by simpa using h⟩⟩
      rw [app_ref hf, cur_some hg (vs_len l)]; rfl
    · have h0 : (vs ys).isEmpty = false := by cases ys with | nil => exact absurd rfl hy | cons => rfl
      refine ⟨.ref (m + 1) (l.length + ys.length), R.set m ⟨vs (l ++ ys), 1, false⟩, .grow (m + 1), ?_, .inr ⟨m, ?_, ?_⟩⟩
      · rw [app_ref hf, cur_some hg (vs_len l), Option.bind_some, app1_go h0 (by simpa [vs_len] using hr)]
        simp only [List.set_cons_succ, vs_app, vs_len]
      · simp [vs_len]
      · have : m < R.length := by
          rcases Nat.lt_or_ge m R.length with h' | h'
          · exact h'
          · rw [List.getElem?_eq_none h'] at h; cases h
        simp [this]
theorem Acc1.toT {α : Type} [Enc α] {o : Obj} {R : Heap} {v : V} {l : List α} (h : Acc1 R v l) : Sim.toT (o :: R) depth v = some (enc l) := by
  rcases h with ⟨rfl, rfl⟩ | ⟨m, rfl, h⟩
  · rw [toT_ex]; rfl
  · rw [toT_ref', cur_some (by simpa using h) (vs_len l), Option.bind_some, toTo_vs]
theorem Acc1.hold {α : Type} [Enc α] {o : Obj} {R : Heap} {v : V} {l : List α} (h : Acc1 R v l) : ∃ R', Sim.hold depth (o :: R) v = o :: R' := by
  rcases h with ⟨rfl, rfl⟩ | ⟨m, rfl, h⟩
  · rw [hold_ex]; exact ⟨R, rfl⟩
  · exact ⟨R.set m ⟨vs l, 1, true⟩, by rw [hold_ref', cur_some (by simpa using h) (vs_len l), Option.map_some, Option.getD_some, holdo_vs]; rfl⟩
theorem acc1_fresh {o : Obj} {R : Heap} (l : List Int) : ∃ v R', importV (o :: R) (freshL l) = (v, o :: R') ∧ Acc1 R' v l := by
  by_cases h : l = []
  · subst h; exact ⟨_, R, rfl, .inl ⟨rfl, rfl⟩⟩
  · refine ⟨.ref (R.length + 1) l.length, R ++ [⟨vs l, 1, false⟩], ?_, .inr ⟨R.length, rfl, by simp⟩⟩
    rw [fresh_ne h]; simp [importV, vs]

theorem firstE_0 : ∀ {l : List Int}, firstE l = 0 → ∀ x ∈ l, x = 0
  | [], _, x, h => by cases h
  | a :: l, h, x, hx => by
    unfold firstE at h
    split at h
    · rename_i ha
      rcases List.mem_cons.1 hx with rfl | hx
      · exact ha
      · exact firstE_0 h x hx
    · rename_i ha; exact absurd h ha
theorem check_0 {t : Te} (h : checkE t = 0) : sizedT t = true ∧ (∀ k, k < t.th.length → thE t.init.length (gd t.th k) = 0) ∧ cntT 1 t ≤ 4 ∧ cntT 1 t + cntT 2 t ≤ 6 := by
  unfold checkE at h
  split at h
  · exact absurd h (by decide)
  rename_i hs
  split at h
  · rename_i hf; exact absurd h hf
  rename_i hf
  split at h
  · exact absurd h (by decide)
  rename_i hc
  refine ⟨by simpa using hs, fun k hk => ?_, by omega, by omega⟩
  exact firstE_0 (by simpa using hf) _ (List.mem_map.2 ⟨_, gd_mem hk, rfl⟩)
theorem check_may {t : Te} (h : checkE t = 0) : ∀ th ∈ t.th, mayTh th t.init.length = true := by
  obtain ⟨hs, hz, _, _⟩ := check_0 h
  obtain ⟨s1, s2, s3, s4⟩ := sized_len hs
  intro th hth
  obtain ⟨k, hk, rfl⟩ := List.mem_iff_getElem.1 hth
  rw [gd_get hk]
  obtain ⟨z1, z2, z3⟩ := thE_0 (hz k hk)
  unfold mayTh
  have : (List.range (gd t.th k).length).any (fun j => !mayI (gd (gd t.th k) j) ((gd t.th k).length - 1 - j) t.init.length) = false := by
    rw [Bool.eq_false_iff]; intro hh
    obtain ⟨j, hj, h2⟩ := List.any_eq_true.1 hh
    rw [z3 j (List.mem_range.1 hj)] at h2; simp at h2
  rw [this]
  have h1 : ((gd t.th k).length : Int) ≤ 8 := by omega
  have h2 : (1 : Int) ≤ t.init.length := by omega
  have h3 : (t.init.length : Int) ≤ 3 := by omega
  simp [h1, h2, h3]
theorem init_rg {t : Te} (h : sizedT t = true) : ∀ v ∈ onceR t.init, InR v := by
  intro v hv
  have hm := onceR_mem hv
  unfold sizedT at h
  simp only [Bool.and_eq_true, Bool.not_eq_true'] at h
  have := List.any_eq_false.1 h.1 v hm
  simp at this
  unfold InR; omega
theorem next_rg {t : Te} {l : List Int} (hm : ∀ th ∈ t.th, mayTh th t.init.length = true) (hl : ∀ v ∈ l, InR v) : ∀ v ∈ nextV t l, InR v := by
  intro v hv
  have hv := onceR_mem hv
  rcases List.mem_append.1 hv with hv | hv
  · exact hl v hv
  · obtain ⟨th, hth, hv⟩ := List.mem_flatMap.1 hv
    exact wrote_rg (rg_traces (hm th hth) hl) v hv
theorem vals_Of (t : Te) (hl : t.init.length ≤ 1000000) (hl2 : t.th.length ≤ 1000000) (hl3 : ∀ x ∈ t.th, x.length ≤ 1000000) : Fun Tryz.prog 41 [enc t] (.tup [.t (enc (ofR t)), .t (.int .i64 (ofE t))]) := by
  obtain ⟨u, hch, a, b, rfl⟩ := test_Check t hl hl2 hl3
  refine Fun.go (b := false) Tryz.func41 rfl rfl (by kernel_rfl) (by kernel_rfl) ?_
  unfold ofR ofE
  by_cases he : checkE t = 0
  · rw [if_neg (by omega), if_neg (by omega)]
    obtain ⟨hs, hz, n1, n2⟩ := check_0 he
    obtain ⟨s1, s2, s3, s4⟩ := sized_len hs
    have hb : ∀ x ∈ t.th, x.length ≤ 1000 := fun x hx => by
      obtain ⟨k, hk, rfl⟩ := List.mem_iff_getElem.1 hx
      rw [gd_get hk]; have := (thE_0 (hz k hk)).2.1; omega
    have o1 := onceR_len t.init
    have hmay := check_may he
    have hi0 := init_rg hs
    simp -implicitDefEqProofs (disch := first | exact dsch | (simp only [go_sem, hch.pu, he, pu_Count (by omega) hb]; omega) | (refine of_eq_true ?_; simp (disch := first | omega | (refine of_eq_true ?_; simp only [go_sem, hch.pu, he, pu_Count (by omega) hb]; done) | (simp only [go_sem, hch.pu, he, pu_Count (by omega) hb]; omega)) only [go_sem, hch.pu, he, pu_Count (by omega) hb]; done) | fail) only [go_sem, ↓reduceIte, Nat.reduceEqDiff, hch.pu, he, pu_Count (by omega) hb]
    refine loop_k (n := min (cntT 2 t) 6) [1, 31] (by kernel_rfl) (fun i e H => e 32 = .t (.int .i64 i) ∧ ∃ l R, e 9 = .t (enc l) ∧ H = ⟨[.t (enc t)], 2, false⟩ :: R ∧ l.length ≤ 8 ∧ (∀ v ∈ l, InR v) ∧ valsR t (min (cntT 2 t) 6 - i) l = valsR t (min (cntT 2 t) 6) (onceR t.init)) ?_ ?_
    · rintro i e H hi hk ⟨hc, l, R, h9, rfl, hl8, hrg, hv⟩
      simp only [keepP, go_sem, ↓reduceIte, Nat.reduceEqDiff, and_true] at hk
      by_cases hlt : i < min (cntT 2 t) 6
      · rw [show min (cntT 2 t) 6 - i = (min (cntT 2 t) 6 - (i + 1)) + 1 by omega, valsR] at hv
        obtain ⟨v0, R0, hv0, hA0⟩ := acc1_fresh (o := ⟨[.t (enc t)], 2, false⟩) (R := R) l
        simp -implicitDefEqProofs (disch := first | exact dsch | fail) only [go_sem, ↓reduceIte, Nat.reduceEqDiff, hk, hc, h9, hv0]
        refine loop_k (n := t.th.length) [1, 2, 3, 9, 32, 37, 38] (by kernel_rfl) (fun j e H => e 39 = .t (.int .i64 j) ∧ ∃ v R, e 10 = v ∧ H = ⟨[.t (enc t)], 2, false⟩ :: R ∧ Acc1 R v (l ++ (t.th.take j).flatMap fun th => wroteR (tracesR th t.init.length l))) ?_ ?_
        · rintro j e2 H2 hj hk2 ⟨hc2, v, R2, h10, rfl, hA⟩
          simp only [keepP, go_sem, ↓reduceIte, Nat.reduceEqDiff, and_true] at hk2
          by_cases hlt2 : j < t.th.length
          · have hbt := hb _ (gd_mem hlt2)
            have w1 := wrote_len (th := gd t.th j) (locs := t.init.length) hl8
            have w2 := onceR_len ((tracesR (gd t.th j) t.init.length l).flatMap wrV1)
            have w3 := flat_len (l := t.th.take j) (f := fun th => wroteR (tracesR th t.init.length l)) (m := 8388608) fun th _ => Nat.le_trans (onceR_len _) (wrote_len hl8)
            have w4 : (t.th.take j).length ≤ 3 := by rw [List.length_take]; omega
            obtain ⟨v', R', f, happ, hA'⟩ := hA.app (o := ⟨[.t (enc t)], 2, false⟩) (ys := wroteR (tracesR (gd t.th j) t.init.length l)) (by_ := 8) (by
              have : (wroteR (tracesR (gd t.th j) t.init.length l)).length ≤ 8388608 := Nat.le_trans w2 w1
              rw [List.length_append]; omega)
            have hwr := fun K => pu_Wrote (K := K) (l := tracesR (gd t.th j) t.init.length l) (by omega) (rg_traces (hmay _ (gd_mem hlt2)) hrg) (by have := traces_len (th := gd t.th j) (locs := t.init.length) hl8; omega) traces_ev
            have hst := flat_take (f := fun th => wroteR (tracesR th t.init.length l)) hlt2
            simp -implicitDefEqProofs (disch := first | exact dsch | (simp only [go_sem, hk, hc, hk2, hc2, h9, h10, happ, hwr]; omega) | (refine of_eq_true ?_; simp (disch := first | omega | (refine of_eq_true ?_; simp only [go_sem, hk, hc, hk2, hc2, h9, h10, happ, hwr]; done) | (simp only [go_sem, hk, hc, hk2, hc2, h9, h10, happ, hwr]; omega)) only [go_sem, hk, hc, hk2, hc2, h9, h10, happ, hwr]; done) | fail) only [go_sem, ↓reduceIte, Nat.reduceEqDiff, hk, hc, hk2, hc2, h9, h10, happ, hwr]
            refine ⟨hlt2, _, _, rfl, rfl, ?_⟩
            rw [hst, ← List.append_assoc]
            exact hA'
          · obtain rfl : j = t.th.length := by omega
            rw [List.take_length] at hA
            have w3 := flat_len (l := t.th) (f := fun th => wroteR (tracesR th t.init.length l)) (m := 8388608) fun th _ => Nat.le_trans (onceR_len _) (wrote_len hl8)
            have hlen : (l ++ t.th.flatMap fun th => wroteR (tracesR th t.init.length l)).length * 8 ≤ 140737488351232 := by
              rw [List.length_append]; omega
            have htv := hA.toT (o := ⟨[.t (enc t)], 2, false⟩)
            obtain ⟨R3, hhv⟩ := hA.hold (o := ⟨[.t (enc t)], 2, false⟩)
            by_cases h8 : 8 < (nextV t l).length
            · rw [if_pos h8] at hv
              rw [← hv]
              unfold nextV at h8
              simp -implicitDefEqProofs (disch := first | exact dsch | (simp only [go_sem, hk, hc, hk2, hc2, h9, h10, htv, hhv, pu_once hlen]; omega) | (refine of_eq_true ?_; simp (disch := first | omega | (refine of_eq_true ?_; simp only [go_sem, hk, hc, hk2, hc2, h9, h10, htv, hhv, pu_once hlen]; done) | (simp only [go_sem, hk, hc, hk2, hc2, h9, h10, htv, hhv, pu_once hlen]; omega)) only [go_sem, hk, hc, hk2, hc2, h9, h10, htv, hhv, pu_once hlen]; done) | fail) only [go_sem, ↓reduceIte, Nat.reduceEqDiff, hk, hc, hk2, hc2, h9, h10, htv, hhv, pu_once hlen]
              rfl
            · rw [if_neg h8] at hv
              have hn : nextV t l = onceR (l ++ t.th.flatMap fun th => wroteR (tracesR th t.init.length l)) := rfl
              rw [hn] at h8 hv
              simp -implicitDefEqProofs (disch := first | exact dsch | (simp only [go_sem, hk, hc, hk2, hc2, h9, h10, htv, hhv, pu_once hlen]; omega) | (refine of_eq_true ?_; simp (disch := first | omega | (refine of_eq_true ?_; simp only [go_sem, hk, hc, hk2, hc2, h9, h10, htv, hhv, pu_once hlen]; done) | (simp only [go_sem, hk, hc, hk2, hc2, h9, h10, htv, hhv, pu_once hlen]; omega)) only [go_sem, hk, hc, hk2, hc2, h9, h10, htv, hhv, pu_once hlen]; done) | fail) only [go_sem, ↓reduceIte, Nat.reduceEqDiff, hk, hc, hk2, hc2, h9, h10, htv, hhv, pu_once hlen]
              exact ⟨by omega, _, _, rfl, rfl, by omega, by rw [← hn]; exact next_rg hmay hrg, by rw [show min (cntT 2 t) 6 = cntT 2 t by omega] at hv; exact hv⟩
        · simp -implicitDefEqProofs (disch := first | exact dsch | fail) only [go_sem, ↓reduceIte, Nat.reduceEqDiff]
          refine ⟨_, _, rfl, rfl, ?_⟩
          rw [List.flatMap_nil, List.append_nil]; exact hA0
      · obtain rfl : i = min (cntT 2 t) 6 := by omega
        rw [Nat.sub_self, valsR] at hv
        rw [← hv]
        simp -implicitDefEqProofs (disch := first | exact dsch | fail) only [go_sem, ↓reduceIte, Nat.reduceEqDiff, hk, hc, h9]
    · simp -implicitDefEqProofs (disch := first | exact dsch | fail) only [go_sem, ↓reduceIte, Nat.reduceEqDiff]
      exact ⟨_, _, rfl, rfl, by omega, hi0, rfl⟩
  · rw [if_pos he, if_pos he]
    simp -implicitDefEqProofs (disch := first | exact dsch | fail) only [go_sem, ↓reduceIte, Nat.reduceEqDiff, hch.pu, he]
    rfl
@[go_sem] theorem pu_Of {t : Te} (hl : t.init.length ≤ 1000000) (hl2 : t.th.length ≤ 1000000) (hl3 : ∀ x ∈ t.th, x.length ≤ 1000000) {K : Kp} : @Pu _ Tryz.prog 41 [enc t] K = K.k (.tup [.t (enc (ofR t)), .t (.int .i64 (ofE t))]) := (vals_Of t hl hl2 hl3).pu
end Go.Sim

namespace Go.Sim
open Enc (enc)

structure EvOk (locs : Int) (e : Ev) : Prop where
  kind : 1 ≤ e.kind ∧ e.kind ≤ 6
  loc : 0 ≤ e.loc ∧ e.loc < locs
  bar : 3 ≤ e.kind → e.loc = 0 ∧ e.excl = false
  acq : e.acq = true → e.kind = 1
  rel : e.rel = true → e.kind = 2
def RdB (ev : List Ev) (n : Nat) (x : U32) : Prop := ∀ j, x.getLsbD j = true → j < n ∧ (gd ev j).kind = 1
theorem RdB.zero (ev : List Ev) (n : Nat) : RdB ev n 0#32 := fun j h => by simp at h
theorem RdB.app {ev : List Ev} {n : Nat} {x : U32} (h : RdB ev n x) (hn : n ≤ ev.length) (e : Ev) : RdB (ev ++ [e]) n x := fun j hj => by
  obtain ⟨h1, h2⟩ := h j hj
  exact ⟨h1, by rw [gd_app_l (by omega)]; exact h2⟩
theorem RdB.more {ev : List Ev} {n m : Nat} {x : U32} (h : RdB ev n x) (hm : n ≤ m) : RdB ev m x := fun j hj => ⟨Nat.lt_of_lt_of_le (h j hj).1 hm, (h j hj).2⟩
theorem RdB.or {ev : List Ev} {n : Nat} {x y : U32} (h : RdB ev n x) (k : RdB ev n y) : RdB ev n (x ||| y) := fun j hj => by
  rw [BitVec.getLsbD_or, Bool.or_eq_true] at hj
  rcases hj with hj | hj
  · exact h j hj
  · exact k j hj

structure WfT (locs : Int) (t : Tr) : Prop where
  addr : t.addr.length = t.ev.length
  data : t.data.length = t.ev.length
  ctrl : t.ctrl.length = t.ev.length
  pair : t.pair.length = t.ev.length
  evs : ∀ i, i < t.ev.length → EvOk locs (gd t.ev i) ∧ (gd t.ev i).thread = 0
  addrB : ∀ i, i < t.ev.length → RdB t.ev i (gd t.addr i)
  addrK : ∀ i, i < t.ev.length → 3 ≤ (gd t.ev i).kind → gd t.addr i = 0#32
  dataB : ∀ i, i < t.ev.length → RdB t.ev i (gd t.data i)
  dataK : ∀ i, i < t.ev.length → (gd t.ev i).kind ≠ 2 → gd t.data i = 0#32
  ctrlB : ∀ i, i < t.ev.length → RdB t.ev i (gd t.ctrl i)
  ctrlM : ∀ i k, i ≤ k → k < t.ev.length → ∀ j, (gd t.ctrl i).getLsbD j = true → (gd t.ctrl k).getLsbD j = true
  prNo : ∀ i, i < t.ev.length → gd t.pair i < 0 → (gd t.ev i).kind = 2 → (gd t.ev i).excl = false
  prYes : ∀ i, i < t.ev.length → 0 ≤ gd t.pair i → gd t.pair i < i ∧ (gd t.ev i).kind = 2 ∧ (gd t.ev i).excl = true ∧ (gd t.ev (gd t.pair i).toNat).kind = 1 ∧ (gd t.ev (gd t.pair i).toNat).excl = true ∧ (gd t.ev (gd t.pair i).toNat).loc = (gd t.ev i).loc
  prInj : ∀ i k, i < k → k < t.ev.length → 0 ≤ gd t.pair i → gd t.pair k ≠ gd t.pair i

structure WfR (r : Rn) : Prop where
  t : WfT r.locs r.t
  ctrl : RdB r.t.ev r.t.ev.length r.ctrl
  ctrlM : ∀ i, i < r.t.ev.length → ∀ j, (gd r.t.ctrl i).getLsbD j = true → r.ctrl.getLsbD j = true
  regs : ∀ n, RdB r.t.ev r.t.ev.length (r.t.regs.gp n)
  last : r.last < 0 ∨ (0 ≤ r.last ∧ r.last < r.t.ev.length ∧ (gd r.t.ev r.last.toNat).kind = 1 ∧ (gd r.t.ev r.last.toNat).excl = true ∧ ∀ i, i < r.t.ev.length → gd r.t.pair i ≠ r.last)
  l1 : 1 ≤ r.locs

theorem gd_new {α : Type} [Enc α] {l : List α} {a : α} : gd (l ++ [a]) l.length = a := by rw [gd_app_r (Nat.le_refl _)]; simp [gd]
theorem gd_old {α : Type} [Enc α] {l : List α} {a : α} {i : Nat} (h : i < l.length) : gd (l ++ [a]) i = gd l i := gd_app_l h

theorem wf_event {r : Rn} (h : WfR r) {e : Ev} {a d : U32} {p : Int} (he : EvOk r.locs e) (ht : e.thread = 0) (ha : RdB r.t.ev r.t.ev.length a) (hak : 3 ≤ e.kind → a = 0#32) (hd : RdB r.t.ev r.t.ev.length d) (hdk : e.kind ≠ 2 → d = 0#32)
    (hp : (p < 0 ∧ (e.kind = 2 → e.excl = false)) ∨ (0 ≤ p ∧ p < r.t.ev.length ∧ e.kind = 2 ∧ e.excl = true ∧ (gd r.t.ev p.toNat).kind = 1 ∧ (gd r.t.ev p.toNat).excl = true ∧ (gd r.t.ev p.toNat).loc = e.loc ∧ ∀ i, i < r.t.ev.length → gd r.t.pair i ≠ p))
    (hl : r.last < 0 ∨ r.last ≠ p) : WfR (r.event e a d p) := by
  have T := h.t
  have n1 := T.addr; have n2 := T.data; have n3 := T.ctrl; have n4 := T.pair
  have len : (r.event e a d p).t.ev.length = r.t.ev.length + 1 := by simp [Rn.event]
  have evO : ∀ i, i < r.t.ev.length → gd (r.event e a d p).t.ev i = gd r.t.ev i := fun i hi => gd_old hi
  have evN : gd (r.event e a d p).t.ev r.t.ev.length = e := gd_new
  have aO : ∀ i, i < r.t.ev.length → gd (r.event e a d p).t.addr i = gd r.t.addr i := fun i hi => gd_old (by omega)
  have aN : gd (r.event e a d p).t.addr r.t.ev.length = a := by rw [← n1]; exact gd_new
  have dO : ∀ i, i < r.t.ev.length → gd (r.event e a d p).t.data i = gd r.t.data i := fun i hi => gd_old (by omega)
  have dN : gd (r.event e a d p).t.data r.t.ev.length = d := by rw [← n2]; exact gd_new
  have cO : ∀ i, i < r.t.ev.length → gd (r.event e a d p).t.ctrl i = gd r.t.ctrl i := fun i hi => gd_old (by omega)
  have cN : gd (r.event e a d p).t.ctrl r.t.ev.length = r.ctrl := by rw [← n3]; exact gd_new
  have pO : ∀ i, i < r.t.ev.length → gd (r.event e a d p).t.pair i = gd r.t.pair i := fun i hi => gd_old (by omega)
  have pN : gd (r.event e a d p).t.pair r.t.ev.length = p := by rw [← n4]; exact gd_new
  have two : ∀ i, i < (r.event e a d p).t.ev.length → i < r.t.ev.length ∨ i = r.t.ev.length := fun i hi => by omega
  refine ⟨⟨by simp [Rn.event, n1], by simp [Rn.event, n2], by simp [Rn.event, n3], by simp [Rn.event, n4], ?_, ?_, ?_, ?_, ?_, ?_, ?_, ?_, ?_, ?_⟩, ?_, ?_, ?_, ?_, h.l1⟩
  · intro i hi
    rcases two i hi with h1 | rfl
    · rw [evO i h1]; exact T.evs i h1
    · rw [evN]; exact ⟨he, ht⟩
  · intro i hi
    rcases two i hi with h1 | rfl
    · rw [aO i h1]; exact (T.addrB i h1).app (by omega) e
    · rw [aN]; exact ha.app (Nat.le_refl _) e
  · intro i hi
    rcases two i hi with h1 | rfl
    · rw [evO i h1, aO i h1]; exact T.addrK i h1
    · rw [evN, aN]; exact hak
  · intro i hi
    rcases two i hi with h1 | rfl
    · rw [dO i h1]; exact (T.dataB i h1).app (by omega) e
    · rw [dN]; exact hd.app (Nat.le_refl _) e
  · intro i hi
    rcases two i hi with h1 | rfl
    · rw [evO i h1, dO i h1]; exact T.dataK i h1
    · rw [evN, dN]; exact hdk
  · intro i hi
    rcases two i hi with h1 | rfl
    · rw [cO i h1]; exact (T.ctrlB i h1).app (by omega) e
    · rw [cN]; exact h.ctrl.app (Nat.le_refl _) e
  · intro i k hik hk
    rcases two k hk with h1 | rfl
    · rw [cO i (by omega), cO k h1]; exact T.ctrlM i k hik h1
    · rw [cN]
      rcases two i (by omega) with h2 | rfl
      · rw [cO i h2]; exact h.ctrlM i h2
      · rw [cN]; exact fun _ h => h
  · intro i hi
    rcases two i hi with h1 | rfl
    · rw [evO i h1, pO i h1]; exact T.prNo i h1
    · rw [evN, pN]
      intro hn hk
      rcases hp with hp | hp
      · exact hp.2 hk
      · omega
  · intro i hi
    rcases two i hi with h1 | rfl
    · rw [pO i h1, evO i h1]
      intro h2
      obtain ⟨g1, g2⟩ := T.prYes i h1 h2
      rw [evO _ (by omega)]
      exact ⟨g1, g2⟩
    · rw [pN, evN]
      intro h2
      rcases hp with hp | ⟨g0, g1, g2, g3, g4, g5, g6, g7⟩
      · omega
      · rw [evO _ (by omega)]
        exact ⟨g1, g2, g3, g4, g5, g6⟩
  · intro i k hik hk
    rcases two k hk with h1 | rfl
    · rw [pO i (by omega), pO k h1]; exact T.prInj i k hik h1
    · rw [pO i (by omega), pN]
      intro h2 h3
      rcases hp with hp | ⟨g0, g1, g2, g3, g4, g5, g6, g7⟩
      · omega
      · exact g7 i (by omega) h3.symm
  · rw [len]; exact (h.ctrl.app (Nat.le_refl _) e).more (by omega)
  · intro i hi
    rcases two i hi with h1 | rfl
    · rw [cO i h1]; exact h.ctrlM i h1
    · rw [cN]; exact fun _ h => h
  · intro n; rw [len]; exact ((h.regs n).app (Nat.le_refl _) e).more (by omega)
  · rcases h.last with h1 | ⟨g0, g1, g2, g3, g4⟩
    · exact .inl h1
    · refine .inr ⟨g0, by rw [len]; show r.last < _; omega, ?_, ?_, ?_⟩
      · show (gd (r.event e a d p).t.ev r.last.toNat).kind = 1
        rw [evO _ (by omega)]; exact g2
      · show (gd (r.event e a d p).t.ev r.last.toNat).excl = true
        rw [evO _ (by omega)]; exact g3
      · intro i hi
        rcases two i hi with h1 | rfl
        · rw [pO i h1]; exact g4 i h1
        · rw [pN]; intro h5; rcases hl with hl | hl
          · exact absurd hl (by show ¬ r.last < 0; omega)
          · exact hl h5.symm

theorem gp_put {f : Fl} {n v : Int} {d : U32} {m : Int} : (f.put n v d).gp m = f.gp m ∨ (f.put n v d).gp m = d := by
  unfold Fl.put Fl.gp
  by_cases h0 : n = 0
  · subst h0; simp only [if_true]; repeat' split
    all_goals simp
  by_cases h1 : n = 1
  · subst h1; simp only [if_true, if_neg (show ¬ (1 : Int) = 0 by decide)]; repeat' split
    all_goals simp
  by_cases h2 : n = 2
  · subst h2; simp only [if_true, if_neg (show ¬ (2 : Int) = 0 by decide), if_neg (show ¬ (2 : Int) = 1 by decide)]; repeat' split
    all_goals simp
  by_cases h3 : n = 3
  · subst h3; simp only [if_true, if_neg (show ¬ (3 : Int) = 0 by decide), if_neg (show ¬ (3 : Int) = 1 by decide), if_neg (show ¬ (3 : Int) = 2 by decide)]; repeat' split
    all_goals simp
  · simp [h0, h1, h2, h3]
theorem wf_regs {r : Rn} (h : WfR r) {f : Fl} (hf : ∀ n, RdB r.t.ev r.t.ev.length (f.gp n)) : WfR (r.setRegs f) :=
  ⟨⟨h.t.addr, h.t.data, h.t.ctrl, h.t.pair, h.t.evs, h.t.addrB, h.t.addrK, h.t.dataB, h.t.dataK, h.t.ctrlB, h.t.ctrlM, h.t.prNo, h.t.prYes, h.t.prInj⟩, h.ctrl, h.ctrlM, hf, h.last, h.l1⟩
theorem wf_put {r : Rn} (h : WfR r) {n v : Int} {d : U32} (hd : RdB r.t.ev r.t.ev.length d) : WfR (r.setRegs (r.t.regs.put n v d)) := by
  refine wf_regs h fun m => ?_
  rcases gp_put (f := r.t.regs) (n := n) (v := v) (d := d) (m := m) with e | e
  · rw [e]; exact h.regs m
  · rw [e]; exact hd
theorem wf_t {r : Rn} (h : WfR r) (t : Tr) (e1 : t.ev = r.t.ev) (e2 : t.addr = r.t.addr) (e3 : t.data = r.t.data) (e4 : t.ctrl = r.t.ctrl) (e5 : t.pair = r.t.pair) (e6 : t.regs = r.t.regs) : WfR { r with t := t } := by
  obtain ⟨ev, addr, data, ctrl, pair, regs, vals, lucks, more⟩ := t
  simp only at e1 e2 e3 e4 e5 e6
  subst e1 e2 e3 e4 e5 e6
  exact ⟨⟨h.t.addr, h.t.data, h.t.ctrl, h.t.pair, h.t.evs, h.t.addrB, h.t.addrK, h.t.dataB, h.t.dataK, h.t.ctrlB, h.t.ctrlM, h.t.prNo, h.t.prYes, h.t.prInj⟩, h.ctrl, h.ctrlM, h.regs, h.last, h.l1⟩
theorem place_in {f : Fl} {x : In} {locs : Int} (h : 1 ≤ locs) : 0 ≤ placeL f x locs ∧ placeL f x locs < locs := by
  unfold placeL
  split
  · omega
  · exact ⟨Int.emod_nonneg _ (by omega), Int.emod_lt_of_pos _ (by omega)⟩
theorem place_dep {r : Rn} (h : WfR r) (x : In) : RdB r.t.ev r.t.ev.length (placeD r.t.regs x) := by
  unfold placeD
  split
  · exact .zero _ _
  · exact h.regs _
theorem one_bit {ev : List Ev} {e : Ev} {a : Nat} (ha : a = ev.length) (he : e.kind = 1) (hl : ev.length < 32) : RdB (ev ++ [e]) (ev ++ [e]).length (1#32 <<< a) := by
  intro j hj
  rw [BitVec.getLsbD_shiftLeft] at hj
  simp at hj
  have : j = ev.length := by
    have h1 := hj.1.2
    have h2 := hj.2
    omega
  subst this
  exact ⟨by simp, by rw [gd_new]; exact he⟩

theorem wf_load {r : Rn} (h : WfR r) (hn : r.t.ev.length < 32) {x : In} (hx : kindI x.op = 1) : WfR (r.load x) := by
  unfold Rn.load
  split
  · exact wf_t h _ rfl rfl rfl rfl rfl rfl
  · have h1 := wf_t h { r.t with vals := r.t.vals + 1 } rfl rfl rfl rfl rfl rfl
    have pl := place_in (f := r.t.regs) (x := x) h.l1
    have h2 := wf_event (e := ⟨0, 1, placeL r.t.regs x r.locs, gd r.vals r.t.vals.toNat, decide (x.op = 7), false, decide (x.op = 9)⟩) (a := placeD r.t.regs x) (d := 0#32) (p := -1) h1 ⟨by simp, pl, by simp, by simp, by simp⟩ rfl (place_dep h x) (by simp) (.zero _ _) (by simp) (.inl ⟨by omega, by simp⟩) (by
      rcases h.last with g | g
      · exact .inl g
      · exact .inr (by show r.last ≠ -1; omega))
    unfold Rn.loaded
    have hb : ∀ r1 : Rn, r1.t.ev = r.t.ev ++ [⟨0, 1, placeL r.t.regs x r.locs, gd r.vals r.t.vals.toNat, decide (x.op = 7), false, decide (x.op = 9)⟩] → RdB r1.t.ev r1.t.ev.length (1#32 <<< r.t.ev.length) := by
      intro r1 e1
      rw [e1]; exact one_bit rfl rfl hn
    split
    · rename_i h9
      have h3 : WfR { (({ r with t := { r.t with vals := r.t.vals + 1 } } : Rn).event ⟨0, 1, placeL r.t.regs x r.locs, gd r.vals r.t.vals.toNat, decide (x.op = 7), false, decide (x.op = 9)⟩ (placeD r.t.regs x) 0#32 (-1)) with last := (r.t.ev.length : Nat) } := by
        refine ⟨h2.t, h2.ctrl, h2.ctrlM, h2.regs, .inr ⟨by simp, by simp [Rn.event]; omega, ?_, ?_, ?_⟩, h2.l1⟩
        · show (gd (r.t.ev ++ [_]) ((r.t.ev.length : Int)).toNat).kind = 1
          rw [Int.toNat_natCast, gd_new]
        · show (gd (r.t.ev ++ [_]) ((r.t.ev.length : Int)).toNat).excl = true
          rw [Int.toNat_natCast, gd_new]; simp [h9]
        · intro i hi hc
          have h5 := h2.t.prYes i hi (by rw [hc]; simp)
          have h6 : i < r.t.ev.length + 1 := by simpa [Rn.event] using hi
          have h7 := h5.1
          rw [hc] at h7
          simp at h7; omega
      exact wf_put h3 (hb _ rfl)
    · exact wf_put h2 (hb _ rfl)

theorem wf_store {r : Rn} (h : WfR r) {x : In} (p : Int) (hp : p < 0 ∨ (0 ≤ p ∧ p < r.t.ev.length ∧ (gd r.t.ev p.toNat).kind = 1 ∧ (gd r.t.ev p.toNat).excl = true ∧ (gd r.t.ev p.toNat).loc = placeL r.t.regs x r.locs ∧ ∀ i, i < r.t.ev.length → gd r.t.pair i ≠ p)) (hl : r.last < 0 ∨ r.last ≠ p) : WfR (r.store x p) := by
  have pl := place_in (f := r.t.regs) (x := x) h.l1
  refine wf_event h ⟨by simp, pl, by simp, by simp, by simp⟩ rfl (place_dep h x) (by simp) (h.regs _) (by simp) ?_ hl
  rcases hp with hp | ⟨g0, g1, g2, g3, g4, g5⟩
  · exact .inl ⟨hp, fun _ => by simp; omega⟩
  · exact .inr ⟨g0, g1, rfl, by simp [g0], g2, g3, g4, g5⟩

theorem wf_step {r : Rn} (h : WfR r) (hn : r.t.ev.length < 32) {x : In} (hx : x.op = 11 → 0 ≤ x.imm ∧ x.imm ≤ 2) : WfR (r.step x) := by
  unfold Rn.step
  split
  · exact ⟨h.t, h.ctrl, h.ctrlM, h.regs, h.last, h.l1⟩
  unfold Rn.does
  split
  · rename_i hk; exact wf_load h hn hk
  split
  · unfold Rn.excl
    split
    · have h1 : WfR { r with last := -1 } := ⟨h.t, h.ctrl, h.ctrlM, h.regs, .inl (by simp), h.l1⟩
      exact wf_put h1 (.zero _ _)
    rename_i hf
    split
    · exact wf_t h _ rfl rfl rfl rfl rfl rfl
    have h1 := wf_t h { r.t with lucks := r.t.lucks + 1 } rfl rfl rfl rfl rfl rfl
    have h2 : WfR { r with last := -1, t := { r.t with lucks := r.t.lucks + 1 } } := ⟨h1.t, h1.ctrl, h1.ctrlM, h1.regs, .inl (by simp), h1.l1⟩
    split
    · exact wf_put h2 (.zero _ _)
    · have hf' : ¬ r.last < 0 ∧ (gd r.t.ev r.last.toNat).loc = placeL r.t.regs x r.locs := by
        unfold Rn.fails at hf
        simp at hf
        exact ⟨by omega, hf.2⟩
      have hlast := h.last.resolve_left hf'.1
      obtain ⟨g0, g1, g2, g3, g4⟩ := hlast
      exact wf_put (wf_store h2 r.last (.inr ⟨g0, g1, g2, g3, hf'.2, g4⟩) (.inl (by simp))) (.zero _ _)
  split
  · refine wf_store h (-1) (.inl (by omega)) ?_
    rcases h.last with g | g
    · exact .inl g
    · exact .inr (by omega)
  split
  · refine wf_event h ⟨?_, ⟨by simp, by have := h.l1; simp; omega⟩, by simp, by simp, by simp⟩ rfl (.zero _ _) (fun _ => rfl) (.zero _ _) (fun _ => rfl) (.inl ⟨by omega, by simp⟩) ?_
    · show 1 ≤ fenceK x ∧ fenceK x ≤ 6
      unfold fenceK
      split
      · rename_i h11; have := hx h11; omega
      · omega
    · rcases h.last with g | g
      · exact .inl g
      · exact .inr (by omega)
  split
  · unfold Rn.branch
    refine ⟨h.t, h.ctrl.or (h.regs _), fun i hi j hj => ?_, h.regs, h.last, h.l1⟩
    show (r.ctrl ||| r.t.regs.gp x.a).getLsbD j = true
    rw [BitVec.getLsbD_or, h.ctrlM i hi j hj]; rfl
  · refine wf_regs h fun n => ?_
    unfold Fl.does
    split
    · rcases gp_put (f := r.t.regs) (n := x.d) (v := x.imm) (d := 0#32) (m := n) with e | e
      · rw [e]; exact h.regs n
      · rw [e]; exact .zero _ _
    split
    · rcases gp_put (f := r.t.regs) (n := x.d) (v := opI x.op (r.t.regs.gv x.a) (r.t.regs.gv x.b)) (d := r.t.regs.gp x.a ||| r.t.regs.gp x.b) (m := n) with e | e
      · rw [e]; exact h.regs n
      · rw [e]; exact (h.regs _).or (h.regs _)
    · exact h.regs n
theorem wf_run : ∀ (xs : List In) (r : Rn) (n : Nat), WfR r → r.ok n → n + xs.length ≤ 20 → (∀ x ∈ xs, (x.op = 11 → 0 ≤ x.imm ∧ x.imm ≤ 2) ∧ (x.op = 13 ∨ x.op = 14 → 0 ≤ x.imm ∧ x.imm ≤ 1000)) → WfR (runFrom r xs)
  | [], r, n, h, _, _, _ => h
  | x :: xs, r, n, h, ho, hn, hx => by
    rw [runFrom]
    simp only [List.length_cons] at hn
    split
    · have := ho.len
      exact wf_run xs _ (n + 1) (wf_step h (by omega) (hx x (by simp)).1) (ok_step ho (by omega) x (hx x (by simp)).2) (by omega) fun y hy => hx y (by simp [hy])
    · exact h
theorem wf_tr {th : List In} {locs : Int} (hm : mayTh th locs = true) (v : List Int) (b : List Bool) (hv : v.length ≤ 1000000) (hb : b.length ≤ 1000000) : WfT locs (runTr th locs v b) := by
  obtain ⟨m1, m2, m3, m4⟩ := may_at hm
  unfold runTr
  rw [if_pos hm]
  have e : (runFrom ⟨zeroTr, locs, v, b, 0#32, -1, 0⟩ th).locs = locs := by
    have : ∀ (xs : List In) (r : Rn), (runFrom r xs).locs = r.locs := by
      intro xs
      induction xs with
      | nil => intro r; rfl
      | cons x xs ih =>
        intro r
        rw [runFrom]
        split
        · rw [ih]
          unfold Rn.step
          split
          · rfl
          unfold Rn.does
          split
          · unfold Rn.load; split
            · rfl
            · unfold Rn.loaded; split <;> rfl
          split
          · unfold Rn.excl
            split
            · rfl
            split
            · rfl
            split <;> rfl
          split
          · rfl
          split
          · rfl
          split <;> rfl
        · rfl
    exact this th _
  have := (wf_run th ⟨zeroTr, locs, v, b, 0#32, -1, 0⟩ 0 ⟨⟨rfl, rfl, rfl, rfl, fun i hi => by simp [zeroTr] at hi, fun i hi => by simp [zeroTr] at hi, fun i hi => by simp [zeroTr] at hi, fun i hi => by simp [zeroTr] at hi, fun i hi => by simp [zeroTr] at hi, fun i hi => by simp [zeroTr] at hi, fun i k _ hi => by simp [zeroTr] at hi, fun i hi => by simp [zeroTr] at hi, fun i hi => by simp [zeroTr] at hi, fun i k _ hi => by simp [zeroTr] at hi⟩, .zero _ _, fun i hi => by simp [zeroTr] at hi, fun n => by
      have : (zeroTr.regs).gp n = 0#32 := by unfold Fl.gp zeroTr; simp
      show RdB _ _ (zeroTr.regs.gp n)
      rw [this]; exact .zero _ _, .inl (by simp), m2⟩ ⟨m2, m3, by simp [zeroTr], by simp [zeroTr], by simp [zeroTr], by simp [zeroTr], by simp, by simp [zeroTr], by simp [zeroTr], by omega, hv, hb, by simp, by simp⟩ (by omega) (fun x hx => by
      obtain ⟨k, hk, rfl⟩ := List.mem_iff_getElem.1 hx
      have h4 := m4 k hk
      rw [gd_get hk]
      exact ⟨may_dmb h4, fun hop => by have := may_br h4 hop; omega⟩)).t
  rw [e] at this
  exact this

theorem tell_wf {th : List In} {locs : Int} {vals : List Int} (hm : mayTh th locs = true) : ∀ (k : Nat) (v : List Int) (b : List Bool), v.length + b.length + k ≤ 1000 → ∀ t ∈ tellR th locs vals k v b, WfT locs t
  | 0, v, b, _, t, h => by cases h
  | k + 1, v, b, hk, t, h => by
    rw [tellR] at h
    split at h
    · rw [List.mem_singleton] at h; subst h; exact wf_tr hm _ _ (by omega) (by omega)
    split at h
    · obtain ⟨n, _, h⟩ := List.mem_flatMap.1 h
      exact tell_wf hm k _ _ (by simp; omega) t h
    · obtain ⟨n, _, h⟩ := List.mem_flatMap.1 h
      exact tell_wf hm k _ _ (by simp; omega) t h
theorem traces_wf {th : List In} {locs : Int} {vals : List Int} (hm : mayTh th locs = true) : ∀ t ∈ tracesR th locs vals, WfT locs t := by
  intro t h
  unfold tracesR at h
  split at h
  · cases h
  · exact tell_wf hm 13 [] [] (by simp) t h
end Go.Sim
