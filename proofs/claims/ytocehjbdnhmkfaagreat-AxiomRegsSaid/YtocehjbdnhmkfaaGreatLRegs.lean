/- A part of the proof of a law of module cupola: LRegs. It has no conditions of its own. -/
import Derived.Test.YtocehjbdnhmkfaaGreatPureG
import Derived.Test.YtocehjbdnhmkfaaGreatShw
set_option linter.all false
set_option maxRecDepth 100000
/-! The law AxiomRegs, as a run tells it. -/
namespace Go.Sim
open Enc (enc)
open Go.Proofs

/-- The first ones with another value. -/
def valTo (x : Ex) (v : Int) (i : Nat) : List Ev := (x.ev.take i).map (setV v) ++ x.ev.drop i
@[go_sem] theorem valTo_len (x v i) : (valTo x v i).length = x.ev.length := by unfold valTo; simp; omega
theorem valTo_gd {x : Ex} {v : Int} {i : Nat} (h : i < x.ev.length) : gd (valTo x v i) i = gd x.ev i := by
  have e : (valTo x v i)[i]? = x.ev[i]? := by
    unfold valTo
    rw [List.getElem?_append_right (by simp; omega), List.getElem?_drop]
    have : i + (i - ((x.ev.take i).map (setV v)).length) = i := by simp; omega
    rw [this]
  unfold gd
  rw [List.getD_eq_getElem?_getD, List.getD_eq_getElem?_getD, e]
theorem valTo_step {x : Ex} {v : Int} {i : Nat} (h : i < x.ev.length) : (vs (valTo x v i)).set i (V.t (enc (setV v (gd x.ev i)))) = vs (valTo x v (i + 1)) := by
  have e : (valTo x v i).set i (setV v (gd x.ev i)) = valTo x v (i + 1) := by
    unfold valTo
    rw [List.set_append_right _ _ (by simp; omega), ← take_gd h, List.map_append, List.append_assoc]
    congr 1
    have : i - ((x.ev.take i).map (setV v)).length = 0 := by simp; omega
    rw [this, List.drop_eq_getElem_cons h, List.set_cons_zero]
    rfl
  rw [← e]
  simp [vs]
theorem store_val {x : Ex} {v : Int} {i : Nat} (h : i < x.ev.length) {H : Heap} : store1 H 4 ⟨vs (valTo x v i), 7, false⟩ i 3 1 (V.t (T.int .i64 v)) = some ⟨.dead, H.set 4 ⟨vs (valTo x v (i + 1)), 7, false⟩, .grow 4⟩ := by
  have hg : (vs (valTo x v i))[i]? = some (V.t (enc (gd x.ev i))) := by
    rw [← valTo_gd (v := v) h]
    exact vs_get (valTo x v i) i (by rw [valTo_len]; exact h)
  have hw : wrV (V.t (enc (gd x.ev i))) 7 3 (V.t (T.int .i64 v)) = some (V.t (enc (setV v (gd x.ev i)))) := rfl
  have h1 : (V.t (T.int .i64 v)).storable = true := rfl
  have h2 : (V.t (T.int .i64 v)).cells.length = 1 := rfl
  simp [store1, hg, hw, valTo_step h, h1, h2]
theorem hold_e {H : Heap} (ts : List T) : hold depth H (.agg (.ex [] :: (ts.map V.t ++ [.ex []]))) = H := by
  show (V.ex [] :: (ts.map V.t ++ [.ex []])).foldl (hold 3) H = H
  rw [List.foldl_cons, hold_ex, List.foldl_append, foldl_hold_t, List.foldl_cons, hold_ex, List.foldl_nil]
theorem hold_r {o0 o1 o2 o3 : Obj} {l : List Ev} {st : Bool} {n : Nat} (hn : n = l.length) (ts : List T) : hold depth [o0, o1, o2, o3, ⟨vs l, 7, st⟩] (.agg (.ref 4 n :: (ts.map V.t ++ [.ex []]))) = [o0, o1, o2, o3, ⟨vs l, 7, true⟩] := by
  subst hn
  show (V.ref 4 l.length :: (ts.map V.t ++ [.ex []])).foldl (hold 3) [o0, o1, o2, o3, ⟨vs l, 7, st⟩] = _
  have h1 : hold 3 [o0, o1, o2, o3, ⟨vs l, 7, st⟩] (.ref 4 l.length) = [o0, o1, o2, o3, ⟨vs l, 7, true⟩] := by
    show (match cur [o0, o1, o2, o3, ⟨vs l, 7, st⟩] 4 l.length with | some o => o.el.foldl (hold 2) ([o0, o1, o2, o3, ⟨vs l, 7, st⟩].set 4 { o with st := true }) | none => _) = _
    rw [cur_some (o := ⟨vs l, 7, st⟩) rfl (vs_len l)]
    show (vs l).foldl (hold 2) _ = _
    rw [← map_t_enc, foldl_hold_t]; rfl
  rw [List.foldl_cons, h1, List.foldl_append, foldl_hold_t, List.foldl_cons, hold_ex, List.foldl_nil]
theorem axiomRegs_run (t : Te) {a b c v : Int} (ha : 0 ≤ a ∧ a < 65536) (hb : 0 ≤ b ∧ b < 65536) (hc : 0 ≤ c ∧ c < 65536) : Fun Tryz.prog 12 [enc t, arr3 a b c, .int .i64 v] (.t (.bool true)) := by
  refine Fun.go (b := false) Tryz.func12 rfl rfl (by kernel_rfl) (by kernel_rfl) ?_
  cases hf : fewB t
  · unfold arr3
    simp -implicitDefEqProofs (disch := first | exact dsch | fail) only [go_sem, ↓reduceIte, Nat.reduceEqDiff, hf]
  obtain ⟨u, hw, hu⟩ := law16_way t hf ha hb hc
  unfold arr3 at hw ⊢
  have hwp := fun K => hw.pu (K := K)
  have rd3 : rdV (.t (.agg [.int .u16 a, .int .u16 b, .int .u16 c])) 3 0 true 3 = some (.t (.agg [.int .u16 a, .int .u16 b, .int .u16 c])) := rfl
  rcases hu with ⟨x, f, co, rfl⟩ | ⟨x, f, co, hx, he, hfs, hco, rfl⟩
  · simp -implicitDefEqProofs (disch := first | exact dsch | (simp only [go_sem, hf, hwp, rd3]; omega) | (refine of_eq_true ?_; simp (disch := first | omega | (refine of_eq_true ?_; simp only [go_sem, hf, hwp, rd3]; done) | (simp only [go_sem, hf, hwp, rd3]; omega)) only [go_sem, hf, hwp, rd3]; done) | fail) only [go_sem, ↓reduceIte, Nat.reduceEqDiff, hf, hwp, rd3]
  obtain ⟨W, _⟩ := all_wf hx
  have hok := W.ok
  have hn := W.n
  have K := wayOk (by omega) hfs hco
  have hfl := K.fl
  have hcl := K.cl
  have hpl := W.lpo
  have hxf := regsX_ok hok v
  have hcx : co.length = (regsX x v).ev.length := hcl.trans (valL_len _ _).symm
  have hgv : goodB (regsX x v) f co = goodB x f co := good_val
  have hwv : wideR (regsX x v) f co = wideR x f co := wide_val
  have hss := same_self (wideR x f co)
  by_cases hev : x.ev = []
  · have hap : ∀ H, appendV (some (7, 40)) H (.ex []) (vs x.ev) = some ⟨.ex [], H, .none⟩ := fun H => by rw [hev]; rfl
    simp -implicitDefEqProofs (disch := first | exact dsch | (simp only [go_sem, hf, hwp, rd3, hap]; omega) | (refine of_eq_true ?_; simp (disch := first | omega | (refine of_eq_true ?_; simp only [go_sem, hf, hwp, rd3, hap]; done) | (simp only [go_sem, hf, hwp, rd3, hap]; omega)) only [go_sem, hf, hwp, rd3, hap]; done) | fail) only [go_sem, ↓reduceIte, Nat.reduceEqDiff, hf, hwp, rd3, hap]
    rw [e_loop]
    have hfx : T.agg [enc ([] : List (Int × Int)), enc x.po, enc x.addr, enc x.data, enc x.ctrl, enc x.rmw, enc ([] : List (Int × Int))] = enc (regsX x v) := by
      unfold regsX valL; rw [hev]; rfl
    have hh := fun (H : Heap) => hold_e (H := H) [enc x.po, enc x.addr, enc x.data, enc x.ctrl, enc x.rmw]
    simp only [List.map_cons, List.map_nil, List.cons_append, List.nil_append] at hh
    simp -implicitDefEqProofs (disch := first | exact dsch | (simp only [go_sem, hfx, hgv, hwv, hss, hh]; omega) | (refine of_eq_true ?_; simp (disch := first | omega | (refine of_eq_true ?_; simp only [go_sem, hfx, hgv, hwv, hss, hh]; done) | (simp only [go_sem, hfx, hgv, hwv, hss, hh]; omega)) only [go_sem, hfx, hgv, hwv, hss, hh]; done) | fail) only [go_sem, ↓reduceIte, Nat.reduceEqDiff, hfx, hgv, hwv, hss, hh]
  · have hpos : 0 < x.ev.length := List.length_pos_iff.2 hev
    have hap : ∀ H, appendV (some (7, 40)) H (.ex []) (vs x.ev) = some ⟨.ref H.length x.ev.length, H ++ [⟨vs x.ev, 7, false⟩], .none⟩ := fun H => by
      rw [app_ex (fitsl_Ev _) (by rw [List.isEmpty_eq_false_iff]; intro h; exact hev (by simpa [vs] using h)) rfl (by rw [vs_len]; simp; omega)]
      simp [vs_len]
    simp -implicitDefEqProofs (disch := first | exact dsch | (simp only [go_sem, hf, hwp, rd3, hap]; omega) | (refine of_eq_true ?_; simp (disch := first | omega | (refine of_eq_true ?_; simp only [go_sem, hf, hwp, rd3, hap]; done) | (simp only [go_sem, hf, hwp, rd3, hap]; omega)) only [go_sem, hf, hwp, rd3, hap]; done) | fail) only [go_sem, ↓reduceIte, Nat.reduceEqDiff, hf, hwp, rd3, hap]
    refine loop_k (n := x.ev.length) [2, 6, 7, 8, 9, 10, 12] (by kernel_rfl) (fun i e H => e 13 = .t (.int .i64 i) ∧ H = [⟨[.t (enc t)], 2, false⟩, ⟨[.t (.agg [.int .u16 a, .int .u16 b, .int .u16 c])], 3, false⟩, ⟨[.t (enc x)], 7, false⟩, ⟨[.agg [.ref 4 x.ev.length, .t (enc x.po), .t (enc x.addr), .t (enc x.data), .t (enc x.ctrl), .t (enc x.rmw), .ex []]], 7, false⟩, ⟨vs (valTo x v i), 7, false⟩]) ?_ ?_
    · rintro i e H hi hk ⟨hct, rfl⟩
      simp only [keepP, go_sem, ↓reduceIte, Nat.reduceEqDiff, and_true] at hk
      by_cases hlt : i < x.ev.length
      · have hst : ∀ H : Heap, store1 H 4 ⟨vs (valTo x v i), 7, false⟩ i 3 1 (V.t (T.int .i64 v)) = some ⟨.dead, H.set 4 ⟨vs (valTo x v (i + 1)), 7, false⟩, .grow 4⟩ := fun H => store_val hlt
        simp -implicitDefEqProofs (disch := first | exact dsch | (simp only [go_sem, hk, hct, hst]; omega) | (refine of_eq_true ?_; simp (disch := first | omega | (refine of_eq_true ?_; simp only [go_sem, hk, hct, hst]; done) | (simp only [go_sem, hk, hct, hst]; omega)) only [go_sem, hk, hct, hst]; done) | fail) only [go_sem, ↓reduceIte, Nat.reduceEqDiff, hk, hct, hst]
        exact hlt
      · obtain rfl : i = x.ev.length := by omega
        have hfx : T.agg [enc (valTo x v x.ev.length), enc x.po, enc x.addr, enc x.data, enc x.ctrl, enc x.rmw, enc ([] : List (Int × Int))] = enc (regsX x v) := by
          have : valTo x v x.ev.length = valL v x.ev := by unfold valTo valL; simp
          rw [this]; rfl
        have hh := fun (o0 o1 o2 o3 : Obj) (st : Bool) => hold_r (o0 := o0) (o1 := o1) (o2 := o2) (o3 := o3) (st := st) (l := valTo x v x.ev.length) (n := x.ev.length) (valTo_len _ _ _).symm [enc x.po, enc x.addr, enc x.data, enc x.ctrl, enc x.rmw]
        simp only [List.map_cons, List.map_nil, List.cons_append, List.nil_append] at hh
        simp -implicitDefEqProofs (disch := first | exact dsch | (simp only [go_sem, hk, hct, hfx, hgv, hwv, hss, hh]; omega) | (refine of_eq_true ?_; simp (disch := first | omega | (refine of_eq_true ?_; simp only [go_sem, hk, hct, hfx, hgv, hwv, hss, hh]; done) | (simp only [go_sem, hk, hct, hfx, hgv, hwv, hss, hh]; omega)) only [go_sem, hk, hct, hfx, hgv, hwv, hss, hh]; done) | fail) only [go_sem, ↓reduceIte, Nat.reduceEqDiff, hk, hct, hfx, hgv, hwv, hss, hh]
    · simp -implicitDefEqProofs (disch := first | exact dsch | fail) only [go_sem, ↓reduceIte, Nat.reduceEqDiff]
      rfl
end Go.Sim
