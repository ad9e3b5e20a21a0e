/- A part of the proof of a law of module cupola: Q10, Q11, Q12. It has no conditions of its own. -/
import Derived.Test.YtkfceeaokfdmfaaGreatDoorQuC
import Derived.Test.YtkfceeaokfdmfaaGreatDoorStC
import Derived.Test.YtkfceeaokfdmfaaGreatDoorQuD
set_option linter.all false
set_option maxRecDepth 100000
namespace Go.Sim
open Enc (enc)
open Go.Proofs
def Srt (l : List Fs) : Prop := l.Pairwise fun a b => lessB a b = true
def atS : List Fs → Fs → Nat
  | [], _ => 0
  | y :: l, s => if lessB y s = true then atS l s + 1 else 0
def insS (l : List Fs) (s : Fs) : List Fs := l.take (atS l s) ++ s :: l.drop (atS l s)
theorem atS_le : ∀ (l : List Fs) (s : Fs), atS l s ≤ l.length
  | [], _ => Nat.le_refl _
  | y :: l, s => by
    rw [atS]; have := atS_le l s
    split <;> simp <;> omega
theorem atS_of {s : Fs} : ∀ {l : List Fs} {k : Nat}, k ≤ l.length → (∀ j, j < k → lessB (gd l j) s = true) → (k = l.length ∨ lessB (gd l k) s = false) → atS l s = k
  | [], k, h, _, _ => by simp at h; subst h; rfl
  | y :: l, 0, _, _, h => by
    rw [atS]
    rcases h with h | h
    · simp at h
    · have : lessB y s = false := h
      rw [if_neg (by rw [this]; decide)]
  | y :: l, k + 1, h, h1, h2 => by
    have h0 : lessB y s = true := h1 0 (by omega)
    rw [atS, if_pos h0, atS_of (k := k) (by simpa using h) (fun j hj => h1 (j + 1) (by omega)) (by
      rcases h2 with h2 | h2
      · left; simpa using h2
      · right; exact h2)]
theorem insS_cons (y : Fs) (l : List Fs) (s : Fs) : insS (y :: l) s = if lessB y s = true then y :: insS l s else s :: y :: l := by
  unfold insS
  rw [atS]
  split <;> simp
theorem insS_perm : ∀ (l : List Fs) (s : Fs), (insS l s).Perm (l ++ [s])
  | [], s => List.Perm.refl _
  | y :: l, s => by
    rw [insS_cons]
    split
    · exact (insS_perm l s).cons y
    · exact (List.perm_append_comm (l₁ := [s]) (l₂ := y :: l))
theorem insS_srt {s : Fs} : ∀ {l : List Fs}, Srt l → s ∉ l → Srt (insS l s)
  | [], _, _ => List.pairwise_singleton _ _
  | y :: l, h, hs => by
    obtain ⟨h1, h2⟩ := List.pairwise_cons.1 h
    rw [insS_cons]
    split
    · rename_i hy
      refine List.pairwise_cons.2 ⟨fun z hz => ?_, insS_srt h2 fun hm => hs (List.mem_cons_of_mem _ hm)⟩
      rcases List.mem_append.1 ((insS_perm l s).mem_iff.1 hz) with hz | hz
      · exact h1 z hz
      · rw [List.mem_singleton.1 hz]; exact hy
    · rename_i hy
      have hsy : lessB s y = true := by
        rcases less_tri s y with h | h | h
        · exact h
        · exact absurd (by rw [h]; simp) hs
        · exact absurd h hy
      refine List.pairwise_cons.2 ⟨fun z hz => ?_, h⟩
      rcases List.mem_cons.1 hz with rfl | hz
      · exact hsy
      · exact less_trans hsy (h1 z hz)
theorem srt_head {h : Fs} {t m l' : List Fs} {x : Fs} (hs : Srt (h :: t)) (hp : m.Perm (h :: t)) (hx : (x :: l').Perm m) (hm : ∀ y ∈ m, lessB y x = false) : x = h ∧ l'.Perm t := by
  have hxm : x ∈ h :: t := hp.mem_iff.1 (hx.mem_iff.1 (by simp))
  have e : x = h := by
    rcases List.mem_cons.1 hxm with e | e
    · exact e
    · have := (List.pairwise_cons.1 hs).1 x e
      rw [hm h (hp.mem_iff.2 (by simp))] at this; cases this
  subst e
  exact ⟨rfl, (List.perm_cons x).1 (hx.trans hp)⟩
theorem min_same {m m' l l' : List Fs} {x y : Fs} (hp : m.Perm m') (hx : (x :: l).Perm m) (hm : ∀ z ∈ m, lessB z x = false) (hy : (y :: l').Perm m') (hm' : ∀ z ∈ m', lessB z y = false) : x = y ∧ l.Perm l' := by
  have hym : y ∈ m := hp.mem_iff.2 (hy.mem_iff.1 (by simp))
  have hxm : x ∈ m' := hp.mem_iff.1 (hx.mem_iff.1 (by simp))
  have e : x = y := by
    rcases less_tri x y with h | h | h
    · rw [hm' x hxm] at h; cases h
    · exact h
    · rw [hm y hym] at h; cases h
  subst e
  exact ⟨rfl, (List.perm_cons x).1 ((hx.trans hp).trans hy.symm)⟩
theorem code_in {m : List Fs} {ks : List ByteArray} (h : ∀ c ∈ ks, ∃ x ∈ m, codeB x = c) {s : Fs} (hs : ks.contains (codeB s) = true) : s ∈ m := by
  obtain ⟨x, hx, e⟩ := h _ (List.contains_iff_mem.1 hs)
  rw [← codeB_inj e]; exact hx
theorem turn_onto {n k j : Nat} (hj : j < n) : ∃ i, i < n ∧ n - 1 - (i + k) % n = j := by
  have hn : 0 < n := by omega
  -- i = (n - 1 - j + (n - k % n)) % n
  refine ⟨(n - 1 - j + (n - k % n)) % n, Nat.mod_lt _ hn, ?_⟩
  have hk := Nat.mod_lt k hn
  have e : ((n - 1 - j + (n - k % n)) % n + k) % n = n - 1 - j := by
    rw [Nat.mod_add_mod]
    have : n - 1 - j + (n - k % n) + k = (n - 1 - j) + n * (k / n + 1) := by
      have := Nat.mod_add_div k n
      rw [Nat.mul_add, Nat.mul_one]; omega
    rw [this, Nat.add_mul_mod_self_left]
    exact Nat.mod_eq_of_lt (by omega)
  rw [e]; omega
end Go.Sim

set_option maxRecDepth 100000
namespace Go.Sim
open Enc (enc)
open Go.Proofs
structure Qr where
  n : List Fs
  k : List ByteArray
instance : Enc Qr := ⟨fun e => .agg [enc e.n, enc e.k], ⟨[], []⟩, 2, by decide, fun _ => rfl⟩
@[go_sem] theorem cells_Qr (e : Qr) : (V.t (enc e)).cells = [.t (enc e.n), .t (enc e.k)] := rfl
@[go_sem] theorem stor_Qr (e : Qr) : (V.t (enc e)).storable = true := rfl
@[go_sem] theorem isAgg_Qr (e : Qr) : (V.t (enc e)).isAgg = true := rfl
@[go_sem] theorem rd_Qr (e : Qr) : rdV (.t (enc e)) 2 0 true 2 = some (.t (enc e)) := rfl
@[go_sem] theorem fits_Qr (e : Qr) : fits 2 (.t (enc e)) = true := rfl
@[go_sem] theorem cellsT_Qr (e : Qr) : (enc e : T).cells.length = 2 := rfl
@[go_sem] theorem noSl_Qr (e : Qr) : noSl (.t (enc e)) = false := rfl
@[go_sem] theorem noSl1_Qr (e : Qr) : noSl1 (.t (enc e)) = false := rfl
@[go_sem] theorem sz_Qr : Enc.sz Qr = 2 := rfl
@[go_sem] theorem fitsl_Qr (l : List Qr) : (vs l).all (fits 2) = true := by
  rw [List.all_eq_true]; intro v hv; obtain ⟨p, _, rfl⟩ := List.mem_map.1 hv; rfl
@[go_sem] theorem ix_Qr {H : Heap} {e : Nat} {l : List Qr} {i : Int} (h0 : 0 ≤ i) (h1 : i < l.length) : indexV H (.sl e) 2 (.t (enc l)) i = some (.tp (l.map enc) i.toNat 0) := ix_enc rfl h0 h1
@[go_sem] theorem ixex_Qr {H : Heap} {e : Nat} {l : List Qr} {i : Int} (h0 : 0 ≤ i) (h1 : i < l.length) : indexV H (.sl e) 2 (.ex (l.map enc)) i = some (.tp (l.map enc) i.toNat 0) := ix_Qr (H := H) (e := e) (l := l) h0 h1
@[go_sem] theorem load_Qr {H : Heap} {l : List Qr} {i off sz : Nat} {a : Bool} (h1 : i < l.length) : loadV H (some (a, sz)) (.tp (l.map enc) i off) = (rdV (.t (enc (gd l i))) 2 off a sz).bind fun u => some ⟨u, H, .none⟩ := load_tpc h1
@[go_sem] theorem load1_Qr {H : Heap} {id i off sz : Nat} {a : Bool} {l : List Qr} {st : Bool} (hi : i < l.length) : load1 H id ⟨vs l, 2, st⟩ i off a sz = (rdV (.t (enc (gd l i))) 2 off a sz).bind fun u => some ⟨u, H, .load id⟩ := load1_vsc hi
@[go_sem] theorem agg_Qr {x0 : List Fs} {x1 : List ByteArray} : T.agg [enc x0, enc x1] = enc (⟨x0, x1⟩ : Qr) := rfl
@[go_sem] theorem eta_Qr (e : Qr) : (⟨e.n, e.k⟩ : Qr) = e := rfl
theorem partF_lo {H : Heap} {l : List Fs} {k : IntKind} {n : Int} {i : Nat} (hn : n = (i : Int)) (hi : i ≤ l.length) :
    partV H 3 (.t (enc l)) (some (.t (.int k n))) none none = some ⟨.t (enc (l.drop i)), H, .none⟩ := by
  subst hn
  have h1 : bound (some (.t (.int k (i : Int)))) 0 = some i := by simp [bound]
  unfold partV
  rw [slOf_enc, toT_t, enc_list]
  simp only
  rw [h1]
  simp only [bound]
  rw [if_pos]
  · simp [hold_t, effS, List.map_drop, enc_list, vs_len, List.take_of_length_le]
  · refine ⟨by rw [vs_len]; exact hi, Nat.le_refl _, Nat.le_refl _, by simp [vs_len], by omega, rfl, ?_⟩
    right
    by_cases h : i < l.length
    · have hc : ((enc l[i] : T)).cells.length = 3 := rfl
      simp [h, hc]
    · simp [h]
theorem partF_hi {H : Heap} {l : List Fs} {k : IntKind} {n : Int} {i : Nat} (hn : n = (i : Int)) (hi : i ≤ l.length) :
    partV H 3 (.t (enc l)) none (some (.t (.int k n))) none = some ⟨.t (enc (l.take i)), H, .none⟩ := by
  subst hn
  unfold partV
  rw [slOf_enc, toT_t, enc_list]
  simp only [bound]
  rw [if_pos (by omega)]
  simp only [Int.toNat_natCast]
  rw [if_pos]
  · simp [hold_t, effS, List.map_take, enc_list]
  · exact ⟨Nat.zero_le _, by rw [vs_len]; exact hi, Nat.le_refl _, by simp [vs_len], by omega, rfl, by simp⟩
section
variable {α : Type} [Enc α] {o0 o1 o2 o3 : Obj}
theorem acc_apps3 {l m : List α} {sz by_ : Nat} (hs : sz = Enc.sz α) (hf : (vs m).all (fits (Enc.sz α)) = true) (hl : (vs l).all (fits (Enc.sz α)) = true) (hr : (l.length + m.length) * by_ ≤ 70368744177664) :
    appendV (some (sz, by_)) (o0 :: o1 :: o2 :: accO l) (accV 3 l) (vs m) = some ⟨accV 3 (l ++ m), o0 :: o1 :: o2 :: accO (l ++ m), if m.isEmpty then .none else accE 3 l⟩ := by
  subst hs; exact acc_apps (R := [o0, o1, o2]) hf hl hr
theorem acc_new3 {m : List α} {sz by_ : Nat} (hs : sz = Enc.sz α) (hf : (vs m).all (fits (Enc.sz α)) = true) (hr : m.length * by_ ≤ 70368744177664) :
    appendV (some (sz, by_)) [o0, o1, o2] (.ex []) (vs m) = some ⟨accV 3 m, o0 :: o1 :: o2 :: accO m, .none⟩ := by
  subst hs
  have := acc_apps (R := [o0, o1, o2]) (l := ([] : List α)) hf rfl (by simpa using hr)
  rw [accV_nil, accO_nil, List.append_nil] at this
  rw [this]
  cases m <;> rfl
theorem acc_new4 {m : List α} {sz by_ : Nat} (hs : sz = Enc.sz α) (hf : (vs m).all (fits (Enc.sz α)) = true) (hr : m.length * by_ ≤ 70368744177664) :
    appendV (some (sz, by_)) [o0, o1, o2, o3] (.ex []) (vs m) = some ⟨accV 4 m, o0 :: o1 :: o2 :: o3 :: accO m, .none⟩ := by
  subst hs
  have := acc_apps (R := [o0, o1, o2, o3]) (l := ([] : List α)) hf rfl (by simpa using hr)
  rw [accV_nil, accO_nil, List.append_nil] at this
  rw [this]
  cases m <;> rfl
theorem acc_str4n {l : List ByteArray} (he : l.isEmpty = false) {x : ByteArray} {by_ : Nat} (hr : (l.length + 1) * by_ ≤ 70368744177664) :
    appendV (some (1, by_)) (o0 :: o1 :: o2 :: o3 :: accO l) (accV 4 l) [.t (.str x)] = some ⟨accV 4 (l ++ [x]), o0 :: o1 :: o2 :: o3 :: accO (l ++ [x]), .grow 4⟩ := by
  have := acc_app (R := [o0, o1, o2, o3]) (l := l) (x := x) (by_ := by_) rfl hr
  rw [show accE [o0, o1, o2, o3].length l = .grow 4 by simp [accE, he]] at this
  exact this
theorem acc_str4e {l : List ByteArray} (he : l.isEmpty = true) {x : ByteArray} {by_ : Nat} (hr : (l.length + 1) * by_ ≤ 70368744177664) :
    appendV (some (1, by_)) (o0 :: o1 :: o2 :: o3 :: accO l) (accV 4 l) [.t (.str x)] = some ⟨accV 4 (l ++ [x]), o0 :: o1 :: o2 :: o3 :: accO (l ++ [x]), .none⟩ := by
  have := acc_app (R := [o0, o1, o2, o3]) (l := l) (x := x) (by_ := by_) rfl hr
  rw [show accE [o0, o1, o2, o3].length l = .none by simp [accE, he]] at this
  exact this
theorem snoc_O (l : List ByteArray) (x : ByteArray) : accO (l ++ [x]) = [⟨vs (l ++ [x]), 1, false⟩] := accO_ne (by cases l <;> rfl)
theorem snoc_V (l : List ByteArray) (x : ByteArray) (n : Nat) : accV n (l ++ [x]) = .ref n (l ++ [x]).length := accV_ne (by cases l <;> rfl)
end
theorem insS_at {l : List Fs} {s : Fs} {i : Nat} (h : atS l s = i) : l.take i ++ [s] ++ l.drop i = insS l s := by
  unfold insS; rw [h]; simp
theorem insS_ne (l : List Fs) (s : Fs) : (insS l s).isEmpty = false := by
  unfold insS; simp
theorem insS_O (l : List Fs) (s : Fs) : accO (insS l s) = [⟨vs (insS l s), 3, false⟩] := accO_ne (insS_ne l s)
theorem insS_V (l : List Fs) (s : Fs) (n : Nat) : accV n (insS l s) = .ref n (insS l s).length := accV_ne (insS_ne l s)
theorem ref21_Has {x : Qr} {s : Fs} (hs : OkF s) (hk : x.k.length ≤ 1000) : Fun Tryz.prog 10 [enc x, enc s] (.t (.bool (x.k.contains (codeB s)))) := by
  refine Fun.go (b := false) Tryz.func10 rfl rfl (by kernel_rfl) (by kernel_rfl) ?_
  simp -implicitDefEqProofs (disch := first | exact dsch | fail) only [go_sem, ↓reduceIte, Nat.reduceEqDiff, hs]
  refine loop_k (n := x.k.length) [2, 5] (by kernel_rfl) (fun i e H => e 6 = .t (.int .i64 i) ∧ H = [⟨[.t (enc x)], 2, false⟩, ⟨[.t (enc s)], 3, false⟩] ∧ ∀ j, j < i → gd x.k j ≠ codeB s) ?_ ?_
  · rintro i e H hi hk ⟨h6, rfl, hq⟩
    simp only [keepP, go_sem, ↓reduceIte, Nat.reduceEqDiff, and_true] at hk
    by_cases hlt : i < x.k.length
    · cases he : eqB (gd x.k i) (codeB s)
      · simp -implicitDefEqProofs (disch := first | exact dsch | fail) only [go_sem, ↓reduceIte, Nat.reduceEqDiff, hk, h6, hlt, he]
        refine fun j hj => ?_
        by_cases e : j = i
        · subst e; intro e'; rw [eqB_iff.2 e'] at he; cases he
        · exact hq j (by omega)
      · have : x.k.contains (codeB s) = true := List.contains_iff_mem.2 (by rw [← eqB_iff.1 he]; exact gd_mem hlt)
        simp -implicitDefEqProofs (disch := first | exact dsch | fail) only [go_sem, ↓reduceIte, Nat.reduceEqDiff, hk, h6, hlt, he, this]
    · obtain rfl : i = x.k.length := by omega
      have : x.k.contains (codeB s) = false := by
        rw [← Bool.not_eq_true, List.contains_iff_mem]
        intro hm
        obtain ⟨j, hj, e⟩ := List.mem_iff_getElem.1 hm
        exact hq j hj (by rw [← gd_get hj]; exact e)
      simp -implicitDefEqProofs (disch := first | exact dsch | fail) only [go_sem, ↓reduceIte, Nat.reduceEqDiff, hk, h6, this]
  · simp -implicitDefEqProofs (disch := first | exact dsch | fail) only [go_sem, ↓reduceIte, Nat.reduceEqDiff]
    exact fun j hj => by omega
@[go_sem] theorem pu_HasQ {x : Qr} {s : Fs} (hs : OkF s) (hk : x.k.length ≤ 1000) {K : Kp} : @Pu _ Tryz.prog 10 [enc x, enc s] K = K.k (.t (.bool (x.k.contains (codeB s)))) := (ref21_Has hs hk).pu
def pushQ (x : Qr) (s : Fs) : Qr := if x.k.contains (codeB s) = true then x else ⟨insS x.n s, x.k ++ [codeB s]⟩
theorem ref21_Push {x : Qr} {s : Fs} (hs : OkF s) (hx : ∀ y ∈ x.n, OkF y) (hn : x.n.length ≤ 1000) (hk : x.k.length ≤ 1000) :
    Fun Tryz.prog 12 [enc x, enc s] (.tup [.t (enc (pushQ x s)), .t (.bool (!x.k.contains (codeB s)))]) := by
  refine Fun.go (b := false) Tryz.func12 rfl rfl (by kernel_rfl) (by kernel_rfl) ?_
  unfold pushQ
  have hfk : (vs x.k).all (fits 1) = true := by
    rw [List.all_eq_true]; intro v hv; obtain ⟨p, _, rfl⟩ := List.mem_map.1 hv; rfl
  cases hc : x.k.contains (codeB s)
  · simp -implicitDefEqProofs (disch := first | exact dsch | fail) only [go_sem, ↓reduceIte, Nat.reduceEqDiff, hs, hk, hc, Bool.false_eq_true]
    refine loop_k (n := x.n.length) [2, 3, 4, 5] (by kernel_rfl) (fun i e H => e 6 = .t (.int .i64 i) ∧ H = [⟨[.t (enc x)], 2, false⟩, ⟨[.t (enc s)], 3, false⟩, ⟨[.agg [.ex [], .ex []]], 2, false⟩] ∧ ∀ j, j < i → lessB (gd x.n j) s = true) ?_ ?_
    · rintro i e H hi hk2 ⟨h6, rfl, hq⟩
      simp only [keepP, go_sem, ↓reduceIte, Nat.reduceEqDiff, and_true] at hk2
      by_cases hb : i < x.n.length ∧ lessB (gd x.n i) s = true
      · obtain ⟨hlt, hl⟩ := hb
        have hlt' : (i : Int) < x.n.length := by omega
        have ho := hx _ (gd_mem hlt)
        simp -implicitDefEqProofs (disch := first | exact dsch | (simp only [go_sem, hk2, h6, hlt, hlt', ho, hs, hl]; omega) | (refine of_eq_true ?_; simp (disch := first | omega | (refine of_eq_true ?_; simp only [go_sem, hk2, h6, hlt, hlt', ho, hs, hl]; done) | (simp only [go_sem, hk2, h6, hlt, hlt', ho, hs, hl]; omega)) only [go_sem, hk2, h6, hlt, hlt', ho, hs, hl]; done) | fail) only [go_sem, ↓reduceIte, Nat.reduceEqDiff, hk2, h6, hlt, hlt', ho, hs, hl]
        refine fun j hj => ?_
        by_cases e : j = i
        · subst e; exact hl
        · exact hq j (by omega)
      · have hat : atS x.n s = i := atS_of (by omega) hq (by
          by_cases hlt : i < x.n.length
          · right; cases h : lessB (gd x.n i) s
            · rfl
            · exact absurd ⟨hlt, h⟩ hb
          · left; omega)
        by_cases hlt : i < x.n.length
        · have hlt' : (i : Int) < x.n.length := by omega
          have ho := hx _ (gd_mem hlt)
          have hl : lessB (gd x.n i) s = false := by
            cases h : lessB (gd x.n i) s
            · rfl
            · exact absurd ⟨hlt, h⟩ hb
          have hin := insS_at hat
          have htl : (x.n.take i).length = i := by rw [List.length_take]; omega
          have hdl : (x.n.drop i).length = x.n.length - i := List.length_drop
          cases hE : x.k.isEmpty
          · simp -implicitDefEqProofs (disch := first | exact dsch | (simp only [go_sem, hk2, h6, hlt, hlt', ho, hs, hl, partF_lo (i := i), partF_hi (i := i), acc_new3, acc_apps3, acc_new4, acc_str4n hE, snoc_O, snoc_V, hin, insS_O, insS_V, htl, hdl, hfk]; omega) | (refine of_eq_true ?_; simp (disch := first | omega | (refine of_eq_true ?_; simp only [go_sem, hk2, h6, hlt, hlt', ho, hs, hl, partF_lo (i := i), partF_hi (i := i), acc_new3, acc_apps3, acc_new4, acc_str4n hE, snoc_O, snoc_V, hin, insS_O, insS_V, htl, hdl, hfk]; done) | (simp only [go_sem, hk2, h6, hlt, hlt', ho, hs, hl, partF_lo (i := i), partF_hi (i := i), acc_new3, acc_apps3, acc_new4, acc_str4n hE, snoc_O, snoc_V, hin, insS_O, insS_V, htl, hdl, hfk]; omega)) only [go_sem, hk2, h6, hlt, hlt', ho, hs, hl, partF_lo (i := i), partF_hi (i := i), acc_new3, acc_apps3, acc_new4, acc_str4n hE, snoc_O, snoc_V, hin, insS_O, insS_V, htl, hdl, hfk]; done) | fail) only [go_sem, ↓reduceIte, Nat.reduceEqDiff, hk2, h6, hlt, hlt', ho, hs, hl, partF_lo (i := i), partF_hi (i := i), acc_new3, acc_apps3, acc_new4, acc_str4n hE, snoc_O, snoc_V, hin, insS_O, insS_V, htl, hdl, hfk]
          · simp -implicitDefEqProofs (disch := first | exact dsch | (simp only [go_sem, hk2, h6, hlt, hlt', ho, hs, hl, partF_lo (i := i), partF_hi (i := i), acc_new3, acc_apps3, acc_new4, acc_str4e hE, snoc_O, snoc_V, hin, insS_O, insS_V, htl, hdl, hfk]; omega) | (refine of_eq_true ?_; simp (disch := first | omega | (refine of_eq_true ?_; simp only [go_sem, hk2, h6, hlt, hlt', ho, hs, hl, partF_lo (i := i), partF_hi (i := i), acc_new3, acc_apps3, acc_new4, acc_str4e hE, snoc_O, snoc_V, hin, insS_O, insS_V, htl, hdl, hfk]; done) | (simp only [go_sem, hk2, h6, hlt, hlt', ho, hs, hl, partF_lo (i := i), partF_hi (i := i), acc_new3, acc_apps3, acc_new4, acc_str4e hE, snoc_O, snoc_V, hin, insS_O, insS_V, htl, hdl, hfk]; omega)) only [go_sem, hk2, h6, hlt, hlt', ho, hs, hl, partF_lo (i := i), partF_hi (i := i), acc_new3, acc_apps3, acc_new4, acc_str4e hE, snoc_O, snoc_V, hin, insS_O, insS_V, htl, hdl, hfk]; done) | fail) only [go_sem, ↓reduceIte, Nat.reduceEqDiff, hk2, h6, hlt, hlt', ho, hs, hl, partF_lo (i := i), partF_hi (i := i), acc_new3, acc_apps3, acc_new4, acc_str4e hE, snoc_O, snoc_V, hin, insS_O, insS_V, htl, hdl, hfk]
        · obtain rfl : i = x.n.length := by omega
          have hin := insS_at hat
          have htl : (x.n.take x.n.length).length = x.n.length := by rw [List.length_take]; omega
          have hdl : (x.n.drop x.n.length).length = 0 := by rw [List.length_drop]; omega
          cases hE : x.k.isEmpty
          · simp -implicitDefEqProofs (disch := first | exact dsch | (simp only [go_sem, hk2, h6, hs, partF_lo (i := x.n.length), partF_hi (i := x.n.length), acc_new3, acc_apps3, acc_new4, acc_str4n hE, snoc_O, snoc_V, hin, insS_O, insS_V, htl, hdl, hfk]; omega) | (refine of_eq_true ?_; simp (disch := first | omega | (refine of_eq_true ?_; simp only [go_sem, hk2, h6, hs, partF_lo (i := x.n.length), partF_hi (i := x.n.length), acc_new3, acc_apps3, acc_new4, acc_str4n hE, snoc_O, snoc_V, hin, insS_O, insS_V, htl, hdl, hfk]; done) | (simp only [go_sem, hk2, h6, hs, partF_lo (i := x.n.length), partF_hi (i := x.n.length), acc_new3, acc_apps3, acc_new4, acc_str4n hE, snoc_O, snoc_V, hin, insS_O, insS_V, htl, hdl, hfk]; omega)) only [go_sem, hk2, h6, hs, partF_lo (i := x.n.length), partF_hi (i := x.n.length), acc_new3, acc_apps3, acc_new4, acc_str4n hE, snoc_O, snoc_V, hin, insS_O, insS_V, htl, hdl, hfk]; done) | fail) only [go_sem, ↓reduceIte, Nat.reduceEqDiff, hk2, h6, hs, partF_lo (i := x.n.length), partF_hi (i := x.n.length), acc_new3, acc_apps3, acc_new4, acc_str4n hE, snoc_O, snoc_V, hin, insS_O, insS_V, htl, hdl, hfk]
          · simp -implicitDefEqProofs (disch := first | exact dsch | (simp only [go_sem, hk2, h6, hs, partF_lo (i := x.n.length), partF_hi (i := x.n.length), acc_new3, acc_apps3, acc_new4, acc_str4e hE, snoc_O, snoc_V, hin, insS_O, insS_V, htl, hdl, hfk]; omega) | (refine of_eq_true ?_; simp (disch := first | omega | (refine of_eq_true ?_; simp only [go_sem, hk2, h6, hs, partF_lo (i := x.n.length), partF_hi (i := x.n.length), acc_new3, acc_apps3, acc_new4, acc_str4e hE, snoc_O, snoc_V, hin, insS_O, insS_V, htl, hdl, hfk]; done) | (simp only [go_sem, hk2, h6, hs, partF_lo (i := x.n.length), partF_hi (i := x.n.length), acc_new3, acc_apps3, acc_new4, acc_str4e hE, snoc_O, snoc_V, hin, insS_O, insS_V, htl, hdl, hfk]; omega)) only [go_sem, hk2, h6, hs, partF_lo (i := x.n.length), partF_hi (i := x.n.length), acc_new3, acc_apps3, acc_new4, acc_str4e hE, snoc_O, snoc_V, hin, insS_O, insS_V, htl, hdl, hfk]; done) | fail) only [go_sem, ↓reduceIte, Nat.reduceEqDiff, hk2, h6, hs, partF_lo (i := x.n.length), partF_hi (i := x.n.length), acc_new3, acc_apps3, acc_new4, acc_str4e hE, snoc_O, snoc_V, hin, insS_O, insS_V, htl, hdl, hfk]
    · simp -implicitDefEqProofs (disch := first | exact dsch | fail) only [go_sem, ↓reduceIte, Nat.reduceEqDiff]
      exact fun j hj => by omega
  · simp -implicitDefEqProofs (disch := first | exact dsch | fail) only [go_sem, ↓reduceIte, Nat.reduceEqDiff, hs, hk, hc]
@[go_sem] theorem pu_PushQ {x : Qr} {s : Fs} (hs : OkF s) (hx : ∀ y ∈ x.n, OkF y) (hn : x.n.length ≤ 1000) (hk : x.k.length ≤ 1000) {K : Kp} :
    @Pu _ Tryz.prog 12 [enc x, enc s] K = K.k (.tup [.t (enc (pushQ x s)), .t (.bool (!x.k.contains (codeB s)))]) := (ref21_Push hs hx hn hk).pu
theorem law21_told (s : Fs) : Fun Tryz.prog 15 [enc s] (.t (enc s)) := by
  refine Fun.go (b := false) Tryz.func15 rfl rfl (by kernel_rfl) (by kernel_rfl) ?_
  simp -implicitDefEqProofs (disch := first | exact dsch | fail) only [go_sem, ↓reduceIte, Nat.reduceEqDiff]
@[go_sem] theorem pu_told21 {s : Fs} {K : Kp} : @Pu _ Tryz.prog 15 [enc s] K = K.k (.t (enc s)) := (law21_told s).pu
end Go.Sim

set_option maxRecDepth 100000
namespace Go.Sim
open Enc (enc)
open Go.Proofs
theorem dschS {p : Prop} (h : p := by refine fineP_ran (by kernel_rfl) ?_ ?_ <;> simp only [Log.add, effP, loadsL, growsL, ransL, ne1, apart2, sp1, spared, and_self, and_true, true_and] <;> (first | done | omega | assumption | (repeat' apply And.intro) <;> first | rfl | assumption | exact List.getElem?_append_left (by omega))) : p := h
theorem pushQ_of {m m' nx : List Fs} {ks ks' : List ByteArray} {s : Fs} {i : Nat} (hsr : Srt nx) (hpm : m.Perm nx) (hmem : ∀ x ∈ m, codeB x ∈ ks) (hki : ks.length ≤ i) (hni : nx.length ≤ i)
    (p1 : ks.contains (codeB s) = true → m' = m ∧ ks' = ks) (p2 : ks.contains (codeB s) = false → m'.Perm (m ++ [s]) ∧ ks' = ks ++ [codeB s]) :
    ∃ nx', pushQ ⟨nx, ks⟩ s = ⟨nx', ks'⟩ ∧ Srt nx' ∧ m'.Perm nx' ∧ ks'.length ≤ i + 1 ∧ nx'.length ≤ i + 1 ∧ ks'.contains (codeB s) = true := by
  unfold pushQ
  cases hc : ks.contains (codeB s)
  · obtain ⟨h1, rfl⟩ := p2 hc
    have hs : s ∉ nx := by
      intro h
      rw [List.contains_iff_mem.2 (hmem s (hpm.mem_iff.2 h))] at hc; cases hc
    refine ⟨insS nx s, by simp, insS_srt hsr hs, (h1.trans (hpm.append_right _)).trans (insS_perm nx s).symm, by simp; omega, ?_, by simp⟩
    rw [(insS_perm nx s).length_eq]; simp; omega
  · obtain ⟨rfl, rfl⟩ := p1 hc
    exact ⟨nx, by simp, hsr, hpm, by omega, by omega, hc⟩
structure XV (xv : V) (x : Qr) : Prop where
  st : xv.storable = true
  cl : xv.cells.length = 2
  rd : rdV xv 2 0 true 2 = some xv
  to : ∀ H : Heap, toT H depth xv = some (enc x)
  hd : ∀ H : Heap, hold depth H xv = H
theorem XV.tree (x : Qr) : XV (.t (enc x)) x := ⟨rfl, rfl, rfl, fun H => toT_t _ _ _, fun H => hold_t _ _ _⟩
theorem XV.new : XV (.agg [.ex [], .ex []]) ⟨[], []⟩ := ⟨rfl, rfl, rfl, fun H => rfl, fun H => rfl⟩
theorem queuePlays_run (l : List Fs) (wl : ∀ x ∈ l, WfF x) (pops : List Bool) : Fun Tryz.prog 3 [enc l, enc pops] (.t (.bool true)) := by
  refine Fun.go (b := false) Tryz.func3 rfl rfl (by kernel_rfl) (by kernel_rfl) ?_
  cases hf : fewQ l
  · simp -implicitDefEqProofs (disch := first | exact dsch | fail) only [go_sem, ↓reduceIte, Nat.reduceEqDiff, hf]
  obtain ⟨hlen, hfew⟩ := fewQ_iff.1 hf
  have okq : ∀ x ∈ l, OkQ x := fun x hx => few_okQ (wl x hx) (hfew x hx)
  have q0 : Que [⟨[.agg [.ex [], .t .nilm]], 2, false⟩] 0 none none [] [] := Que.new []
  simp -implicitDefEqProofs (disch := first | exact dsch | (simp only [go_sem, hf]; omega) | (refine of_eq_true ?_; simp (disch := first | omega | (refine of_eq_true ?_; simp only [go_sem, hf]; done) | (simp only [go_sem, hf]; omega)) only [go_sem, hf]; done) | fail) only [go_sem, ↓reduceIte, Nat.reduceEqDiff, hf]
  refine loop_k (n := l.length) [0, 1, 5, 6, 7] (by kernel_rfl) (fun i e H => e 8 = .t (.int .i64 i) ∧ ∃ rv mv m ks xv nx, Que H 0 rv mv m ks ∧ H[1]? = some ⟨[xv], 2, false⟩ ∧ rv ≠ some 1 ∧ mv ≠ some 1 ∧ XV xv ⟨nx, ks⟩ ∧ Srt nx ∧ m.Perm nx ∧ ks.length ≤ i ∧ nx.length ≤ i) ?_ ?_
  · rintro i e H hi hk ⟨h8, rv, mv, m, ks, xv, nx, q, hx1, hr1, hm1, xq, hsr, hpm, hki, hni⟩
    simp only [keepP, go_sem, ↓reduceIte, Nat.reduceEqDiff, and_true] at hk
    by_cases hlt : i < l.length
    · have hgm := gd_mem hlt
      have okg := (okq _ hgm).ok
      have e1 := fun {K : Kv} => Que.fn (que_Has q.a okg (ValF.tree H 0 mv (gd l i))) (by rfl) rfl (K := K)
      have q1 := q.more [⟨[.t (enc (gd l i))], 3, false⟩]
      obtain ⟨H', rv', mv', m', ks', g, q', f, p1, p2⟩ := q1.push (s := gd l i) (by rw [hpm.length_eq]; omega) (okq _ hgm) (ValF.tree _ _ _ _)
      have e2 := fun {K : Kv} => Que.fn g (by rfl) rfl (K := K)
      have hxl := at_lt hx1
      have hx1' : (H ++ [⟨[.t (enc (gd l i))], 3, false⟩])[1]? = some ⟨[xv], 2, false⟩ := by rw [at_app hxl]; exact hx1
      obtain ⟨x1, x2, x3, x4, x5⟩ := xq
      have okn : ∀ y ∈ nx, OkF y := fun y hy => q.okF y (hpm.mem_iff.2 hy)
      have hnx : nx.length ≤ 1000 := by omega
      have hkx : ks.length ≤ 1000 := by omega
      obtain ⟨nx', hpq, hsr', hpm', hki', hni', hct⟩ := pushQ_of (m' := m') (ks' := ks') hsr hpm q.mem hki hni p1 p2
      have h1ne : (1 : Nat) ≠ 0 := by decide
      have hx2 : H'[1]? = some ⟨[xv], 2, false⟩ := by rw [f.keep 1 (at_lt hx1') h1ne hr1 hm1]; exact hx1'
      have hl2 := at_lt hx2
      have hr2 : rv' ≠ some 1 := by
        rcases f.rown with e | ⟨r, hr, e⟩ <;> rw [e]
        · exact hr1
        · intro e'; cases e'; rw [List.length_append] at hr; have := at_lt hx1; omega
      have hm2 : mv' ≠ some 1 := by
        rcases f.mown with e | ⟨r, hr, e⟩ <;> rw [e]
        · exact hm1
        · intro e'; cases e'; rw [List.length_append] at hr; have := at_lt hx1; omega
      have q3 := (q'.other (id := 1) ⟨[.t (enc (⟨nx', ks'⟩ : Qr))], 2, false⟩ h1ne hr2 hm2).more [⟨[.t (enc (⟨nx', ks'⟩ : Qr))], 2, false⟩]
      have e3 := fun {K : Kv} => Que.fn (que_Has q3.a okg (ValF.tree _ 0 mv' (gd l i))) (by rfl) rfl (K := K)
      rw [hct] at e3
      have q4 := q3.more [⟨[.t (enc (gd l i))], 3, false⟩]
      simp only [List.append_assoc, List.cons_append, List.nil_append] at q4
      have okn' : ∀ y ∈ nx', OkF y := fun y hy => q'.okF y (hpm'.mem_iff.2 hy)
      have hlen' : m'.length = nx'.length := hpm'.length_eq
      have ef1 := fun {K : Kv} => Que.fn (que_Len q4.a) (by rfl) rfl (K := K)
      have ef2 := fun {K : Kv} => Que.fn (que_Seen q4.a) (by rfl) rfl (K := K)
      by_cases hp : i < pops.length ∧ gd pops i = true
      · obtain ⟨hp1, hp2⟩ := hp
        have hp1' : (i : Int) < pops.length := by omega
        by_cases hn0 : nx' = []
        · subst hn0
          have hm0 : m' = [] := List.length_eq_zero_iff.1 (by rw [hlen']; rfl)
          subst hm0
          have e5 := fun {K : Kv} => Que.fn q4.pop0 (by rfl) rfl (K := K)
          have q5 := q4.more [⟨[.agg [.t (.int .u32 0), .ex [], .ex []]], 3, false⟩, ⟨[.agg [.t (.int .u32 0), .ex [], .ex []]], 3, false⟩]
          simp only [List.append_assoc, List.cons_append, List.nil_append] at q5 e5
          have eg1 := fun {K : Kv} => Que.fn (que_Len q5.a) (by rfl) rfl (K := K)
          have eg2 := fun {K : Kv} => Que.fn (que_Seen q5.a) (by rfl) rfl (K := K)
          simp -implicitDefEqProofs (disch := first | exact dschS | exact dsch | (simp only [go_sem, hk, h8, hlt, e1, e2, e3, ef1, ef2, hx1, hx1', hx2, hl2, x1, x2, x3, x4, x5, okg, okn, hnx, hkx, hpq, bne_self_eq_false, at_app, at_end, set_app, set_end, hp1, hp1', hp2, List.length_set, set_at, List.append_assoc, List.cons_append, List.nil_append, hlen', e5, eg1, eg2, at_endS3, set_endS3, Int.lt_irrefl, decide_false, decide_true, beq_self_eq_true, Bool.not_true, Bool.not_false]; omega) | (refine of_eq_true ?_; simp (disch := first | omega | (refine of_eq_true ?_; simp only [go_sem, hk, h8, hlt, e1, e2, e3, ef1, ef2, hx1, hx1', hx2, hl2, x1, x2, x3, x4, x5, okg, okn, hnx, hkx, hpq, bne_self_eq_false, at_app, at_end, set_app, set_end, hp1, hp1', hp2, List.length_set, set_at, List.append_assoc, List.cons_append, List.nil_append, hlen', e5, eg1, eg2, at_endS3, set_endS3, Int.lt_irrefl, decide_false, decide_true, beq_self_eq_true, Bool.not_true, Bool.not_false]; done) | (simp only [go_sem, hk, h8, hlt, e1, e2, e3, ef1, ef2, hx1, hx1', hx2, hl2, x1, x2, x3, x4, x5, okg, okn, hnx, hkx, hpq, bne_self_eq_false, at_app, at_end, set_app, set_end, hp1, hp1', hp2, List.length_set, set_at, List.append_assoc, List.cons_append, List.nil_append, hlen', e5, eg1, eg2, at_endS3, set_endS3, Int.lt_irrefl, decide_false, decide_true, beq_self_eq_true, Bool.not_true, Bool.not_false]; omega)) only [go_sem, hk, h8, hlt, e1, e2, e3, ef1, ef2, hx1, hx1', hx2, hl2, x1, x2, x3, x4, x5, okg, okn, hnx, hkx, hpq, bne_self_eq_false, at_app, at_end, set_app, set_end, hp1, hp1', hp2, List.length_set, set_at, List.append_assoc, List.cons_append, List.nil_append, hlen', e5, eg1, eg2, at_endS3, set_endS3, Int.lt_irrefl, decide_false, decide_true, beq_self_eq_true, Bool.not_true, Bool.not_false]; done) | fail) only [go_sem, ↓reduceIte, Nat.reduceEqDiff, hk, h8, hlt, e1, e2, e3, ef1, ef2, hx1, hx1', hx2, hl2, x1, x2, x3, x4, x5, okg, okn, hnx, hkx, hpq, bne_self_eq_false, at_app, at_end, set_app, set_end, hp1, hp1', hp2, List.length_set, set_at, List.append_assoc, List.cons_append, List.nil_append, hlen', e5, eg1, eg2, at_endS3, set_endS3, Int.lt_irrefl, decide_false, decide_true, beq_self_eq_true, Bool.not_true, Bool.not_false]
          exact ⟨_, _, _, _, _, _, q5, rfl, hr2, hm2, XV.tree _, hsr', hpm', hki', hni'⟩
        · obtain ⟨y, t, hyt⟩ := List.exists_cons_of_ne_nil hn0
          have hn1 : nx'.length = t.length + 1 := by rw [hyt]; rfl
          obtain ⟨H5, rv5, mv5, m5, x5', g5, q5, f5, hp5, hmin5⟩ := q4.pop (by rw [hlen']; omega) (by rw [hlen']; omega)
          obtain ⟨ex5, hpm5⟩ := srt_head (by rw [← hyt]; exact hsr') (by rw [← hyt]; exact hpm') hp5 hmin5
          subst ex5
          have hg0 : gd nx' 0 = x5' := by rw [hyt]; rfl
          have hd1 : nx'.drop 1 = t := by rw [hyt]; rfl
          have hst : Srt t := by rw [hyt] at hsr'; exact (List.pairwise_cons.1 hsr').2
          have e5 := fun {K : Kv} => Que.fn g5 (by rfl) rfl (K := K)
          have hx4 : (List.set H' 1 ⟨[.t (enc (⟨nx', ks'⟩ : Qr))], 2, false⟩ ++ [⟨[.t (enc (⟨nx', ks'⟩ : Qr))], 2, false⟩, ⟨[.t (enc (gd l i))], 3, false⟩])[1]? = some ⟨[.t (enc (⟨nx', ks'⟩ : Qr))], 2, false⟩ := by rw [at_app (by simpa using hl2), set_at hl2]
          have hx5 : H5[1]? = some ⟨[.t (enc (⟨nx', ks'⟩ : Qr))], 2, false⟩ := by rw [f5.keep 1 (at_lt hx4) h1ne hr2 hm2]; exact hx4
          have hl5 := at_lt hx5
          have hr5 : rv5 ≠ some 1 := by
            rcases f5.rown with e | ⟨r, hr, e⟩ <;> rw [e]
            · exact hr2
            · intro e'; cases e'; have := at_lt hx4; omega
          have hm5 : mv5 ≠ some 1 := by
            rcases f5.mown with e | ⟨r, hr, e⟩ <;> rw [e]
            · exact hm2
            · intro e'; cases e'; have := at_lt hx4; omega
          have q6 := (q5.other (id := 1) ⟨[.t (enc (⟨t, ks'⟩ : Qr))], 2, false⟩ h1ne hr5 hm5).more [⟨[.t (enc x5')], 3, false⟩]
          have lex := (okn' x5' (by rw [hyt]; simp)).le
          have hsame : sameF x5' x5' = true := sameF_iff.2 rfl
          have hln5 : m5.length = t.length := hpm5.length_eq
          have eg1 := fun {K : Kv} => Que.fn (que_Len q6.a) (by rfl) rfl (K := K)
          have eg2 := fun {K : Kv} => Que.fn (que_Seen q6.a) (by rfl) rfl (K := K)
          have hpos : (0 : Int) < (t.length : Int) + 1 := by omega
          have h0l : 0 < nx'.length := by omega
          have h1l : 1 ≤ nx'.length := by omega
          simp -implicitDefEqProofs (disch := first | exact dschS | exact dsch | (simp only [go_sem, hk, h8, hlt, e1, e2, e3, ef1, ef2, hx1, hx1', hx2, hl2, x1, x2, x3, x4, x5, okg, okn, hnx, hkx, hpq, bne_self_eq_false, at_app, at_end, set_app, set_end, hp1, hp1', hp2, List.length_set, set_at, List.append_assoc, List.cons_append, List.nil_append, hlen', e5, eg1, eg2, hx5, hl5, lex, hsame, hln5, hpos, hg0, h0l, partF_lo (i := 1), h1l, hd1, hn1, Int.natCast_add, Int.cast_ofNat_Int, Int.lt_irrefl, decide_false, decide_true, beq_self_eq_true, Bool.not_true, Bool.not_false]; omega) | (refine of_eq_true ?_; simp (disch := first | omega | (refine of_eq_true ?_; simp only [go_sem, hk, h8, hlt, e1, e2, e3, ef1, ef2, hx1, hx1', hx2, hl2, x1, x2, x3, x4, x5, okg, okn, hnx, hkx, hpq, bne_self_eq_false, at_app, at_end, set_app, set_end, hp1, hp1', hp2, List.length_set, set_at, List.append_assoc, List.cons_append, List.nil_append, hlen', e5, eg1, eg2, hx5, hl5, lex, hsame, hln5, hpos, hg0, h0l, partF_lo (i := 1), h1l, hd1, hn1, Int.natCast_add, Int.cast_ofNat_Int, Int.lt_irrefl, decide_false, decide_true, beq_self_eq_true, Bool.not_true, Bool.not_false]; done) | (simp only [go_sem, hk, h8, hlt, e1, e2, e3, ef1, ef2, hx1, hx1', hx2, hl2, x1, x2, x3, x4, x5, okg, okn, hnx, hkx, hpq, bne_self_eq_false, at_app, at_end, set_app, set_end, hp1, hp1', hp2, List.length_set, set_at, List.append_assoc, List.cons_append, List.nil_append, hlen', e5, eg1, eg2, hx5, hl5, lex, hsame, hln5, hpos, hg0, h0l, partF_lo (i := 1), h1l, hd1, hn1, Int.natCast_add, Int.cast_ofNat_Int, Int.lt_irrefl, decide_false, decide_true, beq_self_eq_true, Bool.not_true, Bool.not_false]; omega)) only [go_sem, hk, h8, hlt, e1, e2, e3, ef1, ef2, hx1, hx1', hx2, hl2, x1, x2, x3, x4, x5, okg, okn, hnx, hkx, hpq, bne_self_eq_false, at_app, at_end, set_app, set_end, hp1, hp1', hp2, List.length_set, set_at, List.append_assoc, List.cons_append, List.nil_append, hlen', e5, eg1, eg2, hx5, hl5, lex, hsame, hln5, hpos, hg0, h0l, partF_lo (i := 1), h1l, hd1, hn1, Int.natCast_add, Int.cast_ofNat_Int, Int.lt_irrefl, decide_false, decide_true, beq_self_eq_true, Bool.not_true, Bool.not_false]; done) | fail) only [go_sem, ↓reduceIte, Nat.reduceEqDiff, hk, h8, hlt, e1, e2, e3, ef1, ef2, hx1, hx1', hx2, hl2, x1, x2, x3, x4, x5, okg, okn, hnx, hkx, hpq, bne_self_eq_false, at_app, at_end, set_app, set_end, hp1, hp1', hp2, List.length_set, set_at, List.append_assoc, List.cons_append, List.nil_append, hlen', e5, eg1, eg2, hx5, hl5, lex, hsame, hln5, hpos, hg0, h0l, partF_lo (i := 1), h1l, hd1, hn1, Int.natCast_add, Int.cast_ofNat_Int, Int.lt_irrefl, decide_false, decide_true, beq_self_eq_true, Bool.not_true, Bool.not_false]
          exact ⟨_, _, _, _, _, _, q6, rfl, hr5, hm5, XV.tree _, hst, hpm5, hki', by omega⟩
      · by_cases hp1 : i < pops.length
        · have hp2 : gd pops i = false := by
            cases h : gd pops i
            · rfl
            · exact absurd ⟨hp1, h⟩ hp
          have hp1' : (i : Int) < pops.length := by omega
          simp -implicitDefEqProofs (disch := first | exact dschS | exact dsch | (simp only [go_sem, hk, h8, hlt, e1, e2, e3, ef1, ef2, hx1, hx1', hx2, hl2, x1, x2, x3, x4, x5, okg, okn, hnx, hkx, hpq, bne_self_eq_false, at_app, at_end, set_app, set_end, hp1, hp1', hp2, List.length_set, set_at, List.append_assoc, List.cons_append, List.nil_append, hlen']; omega) | (refine of_eq_true ?_; simp (disch := first | omega | (refine of_eq_true ?_; simp only [go_sem, hk, h8, hlt, e1, e2, e3, ef1, ef2, hx1, hx1', hx2, hl2, x1, x2, x3, x4, x5, okg, okn, hnx, hkx, hpq, bne_self_eq_false, at_app, at_end, set_app, set_end, hp1, hp1', hp2, List.length_set, set_at, List.append_assoc, List.cons_append, List.nil_append, hlen']; done) | (simp only [go_sem, hk, h8, hlt, e1, e2, e3, ef1, ef2, hx1, hx1', hx2, hl2, x1, x2, x3, x4, x5, okg, okn, hnx, hkx, hpq, bne_self_eq_false, at_app, at_end, set_app, set_end, hp1, hp1', hp2, List.length_set, set_at, List.append_assoc, List.cons_append, List.nil_append, hlen']; omega)) only [go_sem, hk, h8, hlt, e1, e2, e3, ef1, ef2, hx1, hx1', hx2, hl2, x1, x2, x3, x4, x5, okg, okn, hnx, hkx, hpq, bne_self_eq_false, at_app, at_end, set_app, set_end, hp1, hp1', hp2, List.length_set, set_at, List.append_assoc, List.cons_append, List.nil_append, hlen']; done) | fail) only [go_sem, ↓reduceIte, Nat.reduceEqDiff, hk, h8, hlt, e1, e2, e3, ef1, ef2, hx1, hx1', hx2, hl2, x1, x2, x3, x4, x5, okg, okn, hnx, hkx, hpq, bne_self_eq_false, at_app, at_end, set_app, set_end, hp1, hp1', hp2, List.length_set, set_at, List.append_assoc, List.cons_append, List.nil_append, hlen']
          exact ⟨_, _, _, _, _, _, q4, rfl, hr2, hm2, XV.tree _, hsr', hpm', hki', hni'⟩
        · have hp1' : ¬ (i : Int) < pops.length := by omega
          simp -implicitDefEqProofs (disch := first | exact dschS | exact dsch | (simp only [go_sem, hk, h8, hlt, e1, e2, e3, ef1, ef2, hx1, hx1', hx2, hl2, x1, x2, x3, x4, x5, okg, okn, hnx, hkx, hpq, bne_self_eq_false, at_app, at_end, set_app, set_end, hp1, hp1', List.length_set, set_at, List.append_assoc, List.cons_append, List.nil_append, hlen']; omega) | (refine of_eq_true ?_; simp (disch := first | omega | (refine of_eq_true ?_; simp only [go_sem, hk, h8, hlt, e1, e2, e3, ef1, ef2, hx1, hx1', hx2, hl2, x1, x2, x3, x4, x5, okg, okn, hnx, hkx, hpq, bne_self_eq_false, at_app, at_end, set_app, set_end, hp1, hp1', List.length_set, set_at, List.append_assoc, List.cons_append, List.nil_append, hlen']; done) | (simp only [go_sem, hk, h8, hlt, e1, e2, e3, ef1, ef2, hx1, hx1', hx2, hl2, x1, x2, x3, x4, x5, okg, okn, hnx, hkx, hpq, bne_self_eq_false, at_app, at_end, set_app, set_end, hp1, hp1', List.length_set, set_at, List.append_assoc, List.cons_append, List.nil_append, hlen']; omega)) only [go_sem, hk, h8, hlt, e1, e2, e3, ef1, ef2, hx1, hx1', hx2, hl2, x1, x2, x3, x4, x5, okg, okn, hnx, hkx, hpq, bne_self_eq_false, at_app, at_end, set_app, set_end, hp1, hp1', List.length_set, set_at, List.append_assoc, List.cons_append, List.nil_append, hlen']; done) | fail) only [go_sem, ↓reduceIte, Nat.reduceEqDiff, hk, h8, hlt, e1, e2, e3, ef1, ef2, hx1, hx1', hx2, hl2, x1, x2, x3, x4, x5, okg, okn, hnx, hkx, hpq, bne_self_eq_false, at_app, at_end, set_app, set_end, hp1, hp1', List.length_set, set_at, List.append_assoc, List.cons_append, List.nil_append, hlen']
          exact ⟨_, _, _, _, _, _, q4, rfl, hr2, hm2, XV.tree _, hsr', hpm', hki', hni'⟩
    · obtain rfl : i = l.length := by omega
      simp -implicitDefEqProofs (disch := first | exact dsch | (simp only [go_sem, hk, h8]; omega) | (refine of_eq_true ?_; simp (disch := first | omega | (refine of_eq_true ?_; simp only [go_sem, hk, h8]; done) | (simp only [go_sem, hk, h8]; omega)) only [go_sem, hk, h8]; done) | fail) only [go_sem, ↓reduceIte, Nat.reduceEqDiff, hk, h8]
  · exact ⟨rfl, none, none, [], [], _, [], q0.more [⟨[.agg [.ex [], .ex []]], 2, false⟩], rfl, by simp, by simp, XV.new, List.Pairwise.nil, List.Perm.nil, Nat.le_refl _, Nat.le_refl _⟩
end Go.Sim
