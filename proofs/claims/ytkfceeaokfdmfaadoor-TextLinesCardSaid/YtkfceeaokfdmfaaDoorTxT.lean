/- A part of the proof of a law of module cupola: TxT. It has no conditions of its own. -/
import Derived.Test.YtkfceeaokfdmfaaDoorTxS
set_option linter.all false
set_option maxRecDepth 100000
namespace Go.Sim
open Enc (enc)
open Go.Proofs
open Go.Lib (itoa decDigits)
theorem indexl_fun {s : ByteArray} {c : UInt8} : Fun Tryd.prog 131 [.str s, .str ⟨#[c]⟩] (.t (.int .i64 (Go.Lib.indexByte s.data.toList c))) := by
  refine orc_fun (v := .t (.int .i64 (Go.Lib.indexByte s.data.toList c))) (H := []) rfl ?_ ?_
  · show (indexT [.str s, .str ⟨#[c]⟩]).map _ = _
    have e : (⟨#[c]⟩ : ByteArray).get! 0 = c := rfl
    simp only [indexT, e, if_true, Option.map_some]
  · rfl
@[go_sem] theorem pu_Indexl {s : ByteArray} {c : UInt8} {K : Kp} : @Pu _ Tryd.prog 131 [.str s, .str ⟨#[c]⟩] K = K.k (.t (.int .i64 (Go.Lib.indexByte s.data.toList c))) := indexl_fun.pu
theorem cutS_at {s : ByteArray} {c : UInt8} {j : Nat} (hj : Go.Lib.indexByte s.data.toList c = j) (hl : j + 1 ≤ s.size) (hs : s.size ≤ 1000000) : Fun Tryd.prog 84 [.str s, .str ⟨#[c]⟩] (.tup [.t (.str (s.extract 0 j)), .t (.str (s.extract (j + 1) s.size)), .t (.bool true)]) := by
  have h1 : Fun Tryd.prog 116 [.str s, .str ⟨#[c]⟩] (.tup [.t (.str (s.extract 0 j)), .t (.str (s.extract (j + 1) s.size)), .t (.bool true)]) := by
    have hx : ((j : Int) + 1).toNat = j + 1 := by omega
    refine Fun.go (b := false) Tryd.func116 rfl rfl (by kernel_rfl) (by kernel_rfl) ?_
    simp -implicitDefEqProofs (disch := first | exact dsch | fail) only [go_sem, ↓reduceIte, Nat.reduceEqDiff, hj, hx, Int.toNat_natCast]
  have pu : ∀ {K : Kp}, @Pu _ Tryd.prog 116 [.str s, .str ⟨#[c]⟩] K = K.k (.tup [.t (.str (s.extract 0 j)), .t (.str (s.extract (j + 1) s.size)), .t (.bool true)]) := h1.pu
  refine Fun.go (b := false) Tryd.func84 rfl rfl (by kernel_rfl) (by kernel_rfl) ?_
  simp -implicitDefEqProofs (disch := first | exact dsch | fail) only [go_sem, ↓reduceIte, Nat.reduceEqDiff, pu]
def firstTo (l : List Int) : Nat → ByteArray
  | 0 => ⟨#[105, 110, 105, 116]⟩
  | i + 1 => firstTo l i ++ (blank ++ figB (gd l i))
def firstB (l : List Int) : ByteArray := firstTo l l.length
theorem first_size {l : List Int} (h : ∀ n ∈ l, InR n) : ∀ i, i ≤ l.length → (firstTo l i).size ≤ 4 + 22 * i
  | 0, _ => by show (4 : Nat) ≤ 4 + 22 * 0; decide
  | i + 1, hi => by
    have h1 := first_size h i (by omega)
    have h2 := figB_size (h _ (gd_mem (l := l) (i := i) (by omega)))
    show (firstTo l i ++ (blank ++ figB (gd l i))).size ≤ _
    rw [size_app, size_app, show blank.size = 1 from rfl]; omega
theorem text_first {l : List Int} (h : ∀ n ∈ l, InR n) (hl : l.length ≤ 1000000) : Fun Tryd.prog 135 [enc l] (.t (.str (firstB l))) := by
  refine Fun.go (b := false) Tryd.func135 rfl rfl (by kernel_rfl) (by kernel_rfl) ?_
  simp -implicitDefEqProofs (disch := first | exact dsch | fail) only [go_sem, ↓reduceIte, Nat.reduceEqDiff]
  refine loop_k (n := l.length) [2, 6, 7] (by kernel_rfl) (fun i e H => e 8 = .t (.int .i64 i) ∧ e 3 = .t (.str (firstTo l i))) ?_ ?_
  · rintro i e H hi hk ⟨hc, h3⟩
    simp only [keepP, go_sem, ↓reduceIte, Nat.reduceEqDiff, and_true] at hk
    by_cases hlt : i < l.length
    · have hn := h _ (gd_mem hlt)
      have hz := first_size h i hi
      have hf := figB_size hn
      simp -implicitDefEqProofs (disch := first | exact dsch | fail) only [go_sem, ↓reduceIte, Nat.reduceEqDiff, hk, hc, h3, hn]
      exact ⟨hlt, rfl⟩
    · obtain rfl : i = l.length := by omega
      simp -implicitDefEqProofs (disch := first | exact dsch | fail) only [go_sem, ↓reduceIte, Nat.reduceEqDiff, hk, hc, h3]
      rfl
  · simp -implicitDefEqProofs (disch := first | exact dsch | fail) only [go_sem, ↓reduceIte, Nat.reduceEqDiff]
    exact rfl
@[go_sem] theorem pu_first {l : List Int} (h : ∀ n ∈ l, InR n) (hl : l.length ≤ 1000000) {K : Kp} : @Pu _ Tryd.prog 135 [enc l] K = K.k (.t (.str (firstB l))) := (text_first h hl).pu
def initB (s : ByteArray) : List Int := ((piecesB 32 s).drop 1).map piN
theorem text_begin {s : ByteArray} (hs : s.size ≤ 900000) : Fun Tryd.prog 117 [.str s] (.tup [.t (enc (initB s)), .t (.bool (eqB (firstB (initB s)) s))]) := by
  have hs' : s.size ≤ 1000000 := by omega
  have hp := pieces_pos 32 s
  have hpl : (piecesB 32 s).length ≤ 900001 := by
    rw [pieces_len]
    have : Go.Lib.countByte s.data.toList 32 ≤ s.data.toList.length := List.count_le_length
    have e : s.data.toList.length = s.size := rfl
    omega
  have hps : ∀ p ∈ (piecesB 32 s).drop 1, p.size ≤ 1000000000 := fun p h => by have := piece_mem (List.mem_of_mem_drop h); omega
  unfold initB
  generalize hw : piecesB 32 s = w at *
  have hd : (w.drop 1).length = w.length - 1 := List.length_drop
  generalize hr : w.drop 1 = r at *
  have hin : ∀ n ∈ r.map piN, InR n := by
    intro n hn
    obtain ⟨p, _, rfl⟩ := List.mem_map.1 hn
    exact piN_in p
  have hlm : (r.map piN).length ≤ 1000000 := by rw [List.length_map]; omega
  refine Fun.go (b := false) Tryd.func117 rfl rfl (by kernel_rfl) (by kernel_rfl) ?_
  simp -implicitDefEqProofs (disch := first | exact dsch | fail) only [go_sem, ↓reduceIte, Nat.reduceEqDiff, hp, hw, hr, partV_drop1]
  refine loop_k (n := r.length) [0, 2, 3, 13, 14] (by kernel_rfl) (fun i e H => e 15 = .t (.int .i64 i) ∧ e 5 = accV 0 ((r.take i).map piN) ∧ H = accO ((r.take i).map piN)) ?_ ?_
  · rintro i e H hi hk ⟨hc, h5, rfl⟩
    simp only [keepP, go_sem, ↓reduceIte, Nat.reduceEqDiff, and_true] at hk
    by_cases hlt : i < r.length
    · have hq := hps _ (gd_mem hlt)
      have s1 : (r.take (i + 1)).map piN = (r.take i).map piN ++ [piN (gd r i)] := by rw [← take_gd hlt]; simp
      have e1 : ((r.take i).map piN).length = i := by simp; omega
      simp -implicitDefEqProofs (disch := first | exact dsch | fail) only [go_sem, ↓reduceIte, Nat.reduceEqDiff, hk, hc, h5, hq, e1, pairT]
      exact ⟨hlt, by rw [s1], by rw [s1]⟩
    · obtain rfl : i = r.length := by omega
      rw [List.take_length] at h5
      rw [List.take_length]
      simp -implicitDefEqProofs (disch := first | exact dsch | fail) only [go_sem, ↓reduceIte, Nat.reduceEqDiff, hk, hc, h5, hin, hlm]
  · simp -implicitDefEqProofs (disch := first | exact dsch | fail) only [go_sem, ↓reduceIte, Nat.reduceEqDiff]
    exact ⟨rfl, rfl⟩
@[go_sem] theorem pu_begin {s : ByteArray} (hs : s.size ≤ 900000) {K : Kp} : @Pu _ Tryd.prog 117 [.str s] K = K.k (.tup [.t (enc (initB s)), .t (.bool (eqB (firstB (initB s)) s))]) := (text_begin hs).pu
def sText : ByteArray := ⟨#[105, 110, 105, 116, 32, 48, 10, 116, 104, 114, 101, 97, 100, 10, 108, 100, 114, 32, 49, 32, 45, 49, 32, 48, 10]⟩
def sText1 : ByteArray := ⟨#[116, 104, 114, 101, 97, 100, 10, 108, 100, 114, 32, 49, 32, 45, 49, 32, 48, 10]⟩
def sText2 : ByteArray := ⟨#[108, 100, 114, 32, 49, 32, 45, 49, 32, 48, 10]⟩
def l0 : ByteArray := ⟨#[105, 110, 105, 116, 32, 48]⟩
def l1 : ByteArray := ⟨#[116, 104, 114, 101, 97, 100]⟩
def l2 : ByteArray := ⟨#[108, 100, 114, 32, 49, 32, 45, 49, 32, 48]⟩
def x5 : In := ⟨5, 1, -1, 0, 0, 0⟩
theorem fig0 : figB 0 = ⟨#[48]⟩ := figB_pos (by decide) (by decide)
theorem fig1 : figB 1 = ⟨#[49]⟩ := figB_pos (by decide) (by decide)
theorem figm1 : figB (-1) = ⟨#[45, 49]⟩ := by rw [figB_neg (by decide) (by decide)]; rfl
theorem wf5 : WfI x5 := by
  refine ⟨by show InR 5; unfold InR; omega, fun k => ?_, by show InR 0; unfold InR; omega⟩
  match k with
  | 0 | 1 | 2 | 3 => unfold InR; simp [In.g, x5]
  | k + 4 => unfold InR; simp [In.g]
theorem nrm5 : Nrm x5 := ⟨fun h => absurd h (by decide +kernel), fun h => absurd h (by decide +kernel), fun _ => rfl, fun h => absurd h (by decide +kernel), fun _ => rfl⟩
theorem line5 : lineB x5 = l2 := by
  have e : lineB x5 = (rowI 5).1 ++ (blank ++ figB 1) ++ (blank ++ figB (-1)) ++ (blank ++ figB 0) := rfl
  rw [e, fig0, fig1, figm1]; rfl
theorem read5 : okP l2 = true ∧ resP l2 = x5 := by
  have h := prog_line wf5 nrm5 (by decide +kernel)
  rw [line5] at h
  have ho : opB (gd (piecesB 32 l2) 0) = 5 := by
    rw [← line5, line_pieces (by decide +kernel)]
    exact opB_name (by decide +kernel)
  have hk : okP l2 = true := by
    unfold okP
    rw [h, ho, line5, eqB_self]; rfl
  refine ⟨hk, ?_⟩
  unfold resP; rw [if_pos hk, h]
theorem init0 : initB l0 = [0] ∧ eqB (firstB (initB l0)) l0 = true := by
  have hp : piecesB 32 l0 = [mkB [105, 110, 105, 116], mkB [48]] := pieces_join (a := [105, 110, 105, 116]) (ws := [[48]]) (by decide)
  have h0 : initB l0 = [0] := by
    unfold initB
    rw [hp]
    show [piN (mkB [48])] = [0]
    have : piN (figB 0) = 0 := piN_fig (by unfold InR; omega)
    rw [fig0] at this
    exact congrArg (fun x => [x]) this
  refine ⟨h0, ?_⟩
  rw [h0]
  have : firstB [0] = ⟨#[105, 110, 105, 116]⟩ ++ (blank ++ figB 0) := rfl
  rw [this, fig0]
  exact eqB_iff.2 rfl
def te (init th : V) : Obj := ⟨[.agg [init, th]], 2, false⟩
def z94 : Obj := ⟨[.agg [.ex [], .ex []]], 2, false⟩
theorem app_e1 {H : Heap} : appendV (some (1, 24)) H (.ex []) [V.ex []] = some ⟨.ref H.length 1, H ++ [⟨[.ex []], 1, false⟩], .none⟩ := rfl
theorem app_e6 {H : Heap} {x : In} : appendV (some (6, 48)) H (.ex []) [.t (enc x)] = some ⟨.ref H.length 1, H ++ [⟨[.t (enc x)], 6, false⟩], .none⟩ := rfl
theorem take0 : FunH Tryd.prog 85 [.ptr 1 1 0 0, .t (.int .i64 0), .t (.str l0)] [z94, te (.ex []) (.ex [])] (.t (.bool true)) [z94, te (.t (enc [(0 : Int)])) (.ex [])] := by
  obtain ⟨h1, h2⟩ := init0
  rw [h1] at h2
  have h3 : l0.size ≤ 900000 := by decide
  unfold te z94
  refine FunH.go Tryd.func85 rfl rfl (by kernel_rfl) ?_
  simp -implicitDefEqProofs (disch := first | exact dsch | fail) only [go_sem, ↓reduceIte, Nat.reduceEqDiff, h1, h2, h3]
  try rfl
theorem take1 : FunH Tryd.prog 85 [.ptr 1 1 0 0, .t (.int .i64 1), .t (.str l1)] [z94, te (.t (enc [(0 : Int)])) (.ex [])] (.t (.bool true)) [z94, te (.t (enc [(0 : Int)])) (.ref 3 1), ⟨[.ex []], 1, false⟩, ⟨[.ex []], 1, false⟩] := by
  have he : eqB l1 ⟨#[116, 104, 114, 101, 97, 100]⟩ = true := eqB_iff.2 rfl
  unfold te z94
  refine FunH.go Tryd.func85 rfl rfl (by kernel_rfl) ?_
  simp -implicitDefEqProofs (disch := first | exact dsch | fail) only [go_sem, ↓reduceIte, Nat.reduceEqDiff, he, app_e1, List.length_cons, List.length_nil, List.cons_append, List.nil_append]
  try rfl
theorem take2 : FunH Tryd.prog 85 [.ptr 1 1 0 0, .t (.int .i64 2), .t (.str l2)] [z94, te (.t (enc [(0 : Int)])) (.ref 3 1), ⟨[.ex []], 1, false⟩, ⟨[.ex []], 1, false⟩] (.t (.bool true)) [z94, te (.t (enc [(0 : Int)])) (.ref 3 1), ⟨[.ex []], 1, false⟩, ⟨[.ref 5 1], 1, false⟩, ⟨[.t (enc x5)], 6, false⟩, ⟨[.t (enc x5)], 6, false⟩] := by
  obtain ⟨h1, h2⟩ := read5
  have h3 : l2.size ≤ 900 := by decide
  have he : eqB l2 ⟨#[116, 104, 114, 101, 97, 100]⟩ = false := by
    rw [← Bool.not_eq_true, eqB_iff]
    intro e
    have := congrArg ByteArray.size e
    exact absurd this (by decide)
  unfold te z94
  refine FunH.go Tryd.func85 rfl rfl (by kernel_rfl) ?_
  simp -implicitDefEqProofs (disch := first | exact dsch | fail) only [go_sem, ↓reduceIte, Nat.reduceEqDiff, he, h1, h2, h3, app_e6, List.length_cons, List.length_nil, List.cons_append, List.nil_append]
  try rfl
theorem check5 : Fun Tryd.prog 86 [.agg [.sl [.int .i64 0], .sl [.sl [enc x5]]]] (.tup [.t (.int .i64 0), .t (.int .i64 0), .t (.int .i64 0)]) := Fun.eval (k := 60) (by kernel_rfl)
theorem idx_of {s : ByteArray} {a b : List UInt8} {c : UInt8} (h : s.data.toList = a ++ c :: b) (ha : ∀ x ∈ a, x ≠ c) : Go.Lib.indexByte s.data.toList c = a.length := by rw [h]; exact idx_cut ha
theorem cut0 : Fun Tryd.prog 84 [.str sText, .str ⟨#[10]⟩] (.tup [.t (.str l0), .t (.str sText1), .t (.bool true)]) := cutS_at (s := sText) (c := 10) (j := 6) (idx_of (a := [105, 110, 105, 116, 32, 48]) (b := sText1.data.toList) rfl (by decide)) (by decide) (by decide)
theorem cut1 : Fun Tryd.prog 84 [.str sText1, .str ⟨#[10]⟩] (.tup [.t (.str l1), .t (.str sText2), .t (.bool true)]) := cutS_at (s := sText1) (c := 10) (j := 6) (idx_of (a := [116, 104, 114, 101, 97, 100]) (b := sText2.data.toList) rfl (by decide)) (by decide) (by decide)
theorem cut2 : Fun Tryd.prog 84 [.str sText2, .str ⟨#[10]⟩] (.tup [.t (.str l2), .t (.str ⟨#[]⟩), .t (.bool true)]) := cutS_at (s := sText2) (c := 10) (j := 10) (idx_of (a := [108, 100, 114, 32, 49, 32, 45, 49, 32, 48]) (b := []) rfl (by decide)) (by decide) (by decide)
theorem f_take0 {K : Kv} : @F _ Tryd.prog 85 [.ptr 1 1 0 0, .t (.int .i64 0), .t (.str l0)] [⟨[.agg [.ex [], .ex []]], 2, false⟩, ⟨[.agg [.ex [], .ex []]], 2, false⟩] K = K.k (.t (.bool true)) [⟨[.agg [.ex [], .ex []]], 2, false⟩, ⟨[.agg [.t (enc [(0 : Int)]), .ex []]], 2, false⟩] .wild := (F_heap (by simp only [go_sem])).trans (HeapGo_eq take0)
theorem f_take1 {K : Kv} : @F _ Tryd.prog 85 [.ptr 1 1 0 0, .t (.int .i64 1), .t (.str l1)] [⟨[.agg [.ex [], .ex []]], 2, false⟩, ⟨[.agg [.t (enc [(0 : Int)]), .ex []]], 2, false⟩] K = K.k (.t (.bool true)) [⟨[.agg [.ex [], .ex []]], 2, false⟩, ⟨[.agg [.t (enc [(0 : Int)]), .ref 3 1]], 2, false⟩, ⟨[.ex []], 1, false⟩, ⟨[.ex []], 1, false⟩] .wild := (F_heap (by simp only [go_sem])).trans (HeapGo_eq take1)
theorem f_take2 {K : Kv} : @F _ Tryd.prog 85 [.ptr 1 1 0 0, .t (.int .i64 2), .t (.str l2)] [⟨[.agg [.ex [], .ex []]], 2, false⟩, ⟨[.agg [.t (enc [(0 : Int)]), .ref 3 1]], 2, false⟩, ⟨[.ex []], 1, false⟩, ⟨[.ex []], 1, false⟩] K = K.k (.t (.bool true)) [⟨[.agg [.ex [], .ex []]], 2, false⟩, ⟨[.agg [.t (enc [(0 : Int)]), .ref 3 1]], 2, false⟩, ⟨[.ex []], 1, false⟩, ⟨[.ref 5 1], 1, false⟩, ⟨[.t (enc x5)], 6, false⟩, ⟨[.t (enc x5)], 6, false⟩] .wild := (F_heap (by simp only [go_sem])).trans (HeapGo_eq take2)
theorem nonempty {s : ByteArray} (h : s.size ≠ 0) : eqB s ⟨#[]⟩ = false := by
  rw [show (⟨#[]⟩ : ByteArray) = emptyB from rfl, eqB_empty]; simpa using h
theorem parse_sh : Fun Tryd.prog 52 [.str sText] (.tup [.t (.agg [.sl [.int .i64 0], .sl [.sl [enc x5]]]), .t (.int .i64 0), .t (.int .i64 0)]) := by
  have e0 := nonempty (s := sText) (by decide)
  have e1 := nonempty (s := sText1) (by decide)
  have e2 := nonempty (s := sText2) (by decide)
  have e3 := eqB_self ⟨#[]⟩
  have c0 : ∀ {K : Kp}, @Pu _ Tryd.prog 84 [.str sText, .str ⟨#[10]⟩] K = K.k _ := cut0.pu
  have c1 : ∀ {K : Kp}, @Pu _ Tryd.prog 84 [.str sText1, .str ⟨#[10]⟩] K = K.k _ := cut1.pu
  have c2 : ∀ {K : Kp}, @Pu _ Tryd.prog 84 [.str sText2, .str ⟨#[10]⟩] K = K.k _ := cut2.pu
  refine Fun.go (b := false) Tryd.func52 rfl rfl (by kernel_rfl) (by kernel_rfl) ?_
  simp -implicitDefEqProofs (disch := first | exact dsch | fail) only [go_sem, ↓reduceIte, Nat.reduceEqDiff, e0]
  rw [e_loop]
  simp -implicitDefEqProofs (disch := first | exact dsch | fail) only [go_sem, ↓reduceIte, Nat.reduceEqDiff, e0, c0, f_take0]
  rw [e_loop]
  simp -implicitDefEqProofs (disch := first | exact dsch | fail) only [go_sem, ↓reduceIte, Nat.reduceEqDiff, e1, c1, f_take1]
  rw [e_loop]
  simp -implicitDefEqProofs (disch := first | exact dsch | fail) only [go_sem, ↓reduceIte, Nat.reduceEqDiff, e2, c2, f_take2]
  rw [e_loop]
  simp -implicitDefEqProofs (disch := first | exact dsch | fail) only [go_sem, ↓reduceIte, Nat.reduceEqDiff, e3]
  have ht : toTs [⟨[.agg [.ex [], .ex []]], 2, false⟩, ⟨[.agg [.t (enc [(0 : Int)]), .ref 3 1]], 2, false⟩, ⟨[.ex []], 1, false⟩, ⟨[.ref 5 1], 1, false⟩, ⟨[.t (enc x5)], 6, false⟩, ⟨[.t (enc x5)], 6, false⟩] [.agg [.t (enc [(0 : Int)]), .ref 3 1]] = some [.agg [.sl [.int .i64 0], .sl [.sl [enc x5]]]] := by rfl
  rw [e_fun (by rw [ht]; rfl), ht]
  have k5 : ∀ {K : Kp}, @Pu _ Tryd.prog 86 [.agg [enc [(0 : Int)], enc [[x5]]]] K = K.k _ := check5.pu
  simp -implicitDefEqProofs (disch := first | exact dsch | fail) only [go_sem, ↓reduceIte, Nat.reduceEqDiff, k5]
  rfl
@[go_sem] theorem pu_Parse {K : Kp} : @Pu _ Tryd.prog 52 [.str sText] K = K.k (.tup [.t (.agg [.sl [.int .i64 0], .sl [.sl [enc x5]]]), .t (.int .i64 0), .t (.int .i64 0)]) := parse_sh.pu
theorem ld_x5 {H : Heap} : loadV H (some (false, 1)) (.tp [enc [x5]] 0 0) = some ⟨.t (enc [x5]), H, .none⟩ := rfl
theorem st49 : Tryd.prog.stoodInHeld 49 = false := by kernel_rfl
theorem eg49 : Tryd.prog.eqGuardType Tryd.prog.depth 49 = false := by kernel_rfl
theorem ft49 : (fieldsT Tryd.prog 49).map (fun f => (f.name == "_", f.offset, f.type)) = [(false, 0, 3), (false, 1, 3), (false, 2, 3), (false, 3, 3), (false, 4, 3), (false, 5, 2)] := by kernel_rfl
theorem eq_In (a : In) : binS Tryd.prog .eql 49 (enc a) (enc a) = some (.bool true) := by
  have h := ft49
  have hk3 : kdOf Tryd.prog 3 = .int .i64 := by kernel_rfl
  have hk2 : kdOf Tryd.prog 2 = .int .i64 := by kernel_rfl
  have l3 : ∀ n : Int, leafEq Tryd.prog 3 (.int .i64 n) (.int .i64 n) = some true := fun n => by unfold leafEq; rw [hk3]; simp
  have l2 : ∀ n : Int, leafEq Tryd.prog 2 (.int .i64 n) (.int .i64 n) = some true := fun n => by unfold leafEq; rw [hk2]; simp
  show aggEq Tryd.prog .eql 49 [.int .i64 a.op, .int .i64 a.d, .int .i64 a.a, .int .i64 a.b, .int .i64 a.loc, .int .i64 a.imm] [.int .i64 a.op, .int .i64 a.d, .int .i64 a.a, .int .i64 a.b, .int .i64 a.loc, .int .i64 a.imm] = _
  unfold aggEq
  rw [kd49]
  simp only [st49, eg49, and_self, if_true]
  generalize fieldsT Tryd.prog 49 = fs at h
  have hlen := congrArg List.length h
  simp only [List.length_map, List.length_cons, List.length_nil] at hlen
  match fs, hlen, h with
  | [f0, f1, f2, f3, f4, f5], _, h =>
    simp only [List.map_cons, List.map_nil, List.cons.injEq, Prod.mk.injEq, and_true] at h
    obtain ⟨⟨a1, a2, a3⟩, ⟨b1, b2, b3⟩, ⟨c1, c2, c3⟩, ⟨d1, d2, d3⟩, ⟨g1, g2, g3⟩, h1, h2, h3⟩ := h
    have n0 : f0.name ≠ "_" := by simpa using a1
    have n1 : f1.name ≠ "_" := by simpa using b1
    have n2 : f2.name ≠ "_" := by simpa using c1
    have n3 : f3.name ≠ "_" := by simpa using d1
    have n4 : f4.name ≠ "_" := by simpa using g1
    have n5 : f5.name ≠ "_" := by simpa using h1
    simp only [eqFs, if_pos n0, if_pos n1, if_pos n2, if_pos n3, if_pos n4, if_pos n5, a2, a3, b2, b3, c2, c3, d2, d3, g2, g3, h2, h3, List.getElem?_cons_zero, List.getElem?_cons_succ, l3, l2, Option.bind_some, if_true]
theorem law03_shown : Fun Tryd.prog 23 [] (.t (.bool true)) := by
  have w5 : WfI ⟨5, 1, -1, 0, 0, 0⟩ := wf5
  have l5 : eqB (lineB ⟨5, 1, -1, 0, 0, 0⟩) ⟨#[108, 100, 114, 32, 49, 32, 45, 49, 32, 48]⟩ = true := eqB_iff.2 line5
  have hp : ∀ {K : Kp}, @Pu _ Tryd.prog 52 [.str ⟨#[105, 110, 105, 116, 32, 48, 10, 116, 104, 114, 101, 97, 100, 10, 108, 100, 114, 32, 49, 32, 45, 49, 32, 48, 10]⟩] K = K.k _ := parse_sh.pu
  refine Fun.go (b := false) Tryd.func23 rfl rfl (by kernel_rfl) (by kernel_rfl) ?_
  simp -implicitDefEqProofs (disch := first | exact dsch | fail) only [go_sem, ↓reduceIte, Nat.reduceEqDiff, hp, w5, l5, ld_x5]
  try rfl
@[go_sem] theorem pu_shown03 {K : Kp} : @Pu _ Tryd.prog 23 [] K = K.k (.t (.bool true)) := law03_shown.pu
theorem textLines_run (x : In) (wx : WfI x) (s : ByteArray) : Fun Tryd.prog 8 [enc x, .str s] (.t (.bool true)) := by
  by_cases hc : (s.size : Int) > 300
  · refine Fun.go (b := false) Tryd.func8 rfl rfl (by kernel_rfl) (by kernel_rfl) ?_
    simp -implicitDefEqProofs (disch := first | exact dsch | fail) only [go_sem, ↓reduceIte, Nat.reduceEqDiff, hc]
  · have hs : s.size ≤ 900 := by omega
    obtain ⟨e1, e2⟩ := read_eq s
    have h1 := eqB_self (lineB x)
    refine Fun.go (b := false) Tryd.func8 rfl rfl (by kernel_rfl) (by kernel_rfl) ?_
    cases hk : okRf s
    · rw [hk] at e1
      simp -implicitDefEqProofs (disch := first | exact dsch | fail) only [go_sem, ↓reduceIte, Nat.reduceEqDiff, hc, hs, e1, e2, hk, wx, h1, eq_In]
      try rfl
    · rw [hk] at e1
      simp -implicitDefEqProofs (disch := first | exact dsch | fail) only [go_sem, ↓reduceIte, Nat.reduceEqDiff, hc, hs, e1, e2, hk, wx, h1, eq_In]
      try rfl
end Go.Sim
