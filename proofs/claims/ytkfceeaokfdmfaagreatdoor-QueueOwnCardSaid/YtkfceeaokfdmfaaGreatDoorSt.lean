/- A part of the proof of a law of module cupola: St, St2, St3. It has no conditions of its own. -/
import Derived.Test.YtkfceeaokfdmfaaGreatDoorFsD
set_option linter.all false
set_option maxRecDepth 100000
namespace Go.Sim
open Enc (enc)
open Go.Proofs
def comma : ByteArray := ⟨#[44]⟩
def semi : ByteArray := ⟨#[59]⟩
def slash : ByteArray := ⟨#[47]⟩

def listB (l : List Int) : ByteArray := joinB (l.map figB) comma
theorem listB_size {l : List Int} (hr : ∀ n ∈ l, InR n) : (listB l).size ≤ 22 * l.length := by
  have := join_size (k := 21) (l := l.map figB) (s := comma) (fun x hx => by
    obtain ⟨n, hn, rfl⟩ := List.mem_map.1 hx
    exact figB_size (hr n hn))
  rw [List.length_map] at this
  exact this
theorem state_list {l : List Int} (hr : ∀ n ∈ l, InR n) (hl : l.length ≤ 1000000) : Fun Tryz.prog 27 [enc l] (.t (.str (listB l))) := by
  have hj := listB_size hr
  have hj2 : (l.map figB).length ≤ 140737488355328 ∧ (joinB (l.map figB) ⟨#[44]⟩).size ≤ 140737488355328 := ⟨by rw [List.length_map]; omega, by
    have : (joinB (l.map figB) ⟨#[44]⟩).size = (listB l).size := rfl
    omega⟩
  refine Fun.go (b := false) Tryz.func27 rfl rfl (by kernel_rfl) (by kernel_rfl) ?_
  simp -implicitDefEqProofs (disch := first | exact dsch | fail) only [go_sem, ↓reduceIte, Nat.reduceEqDiff]
  refine loop_k (n := l.length) [2, 6, 7] (by kernel_rfl) (fun i e H => e 8 = .t (.int .i64 i) ∧ e 3 = accV 0 ((l.take i).map figB) ∧ H = accO ((l.take i).map figB)) ?_ ?_
  · rintro i e H hi hk ⟨hc, h3, rfl⟩
    simp only [keepP, go_sem, ↓reduceIte, Nat.reduceEqDiff, and_true] at hk
    by_cases hlt : i < l.length
    · have hn := hr _ (gd_mem hlt)
      have s1 : (l.take (i + 1)).map figB = (l.take i).map figB ++ [figB (gd l i)] := by rw [← take_gd hlt]; simp
      have e1 : ((l.take i).map figB).length = i := by simp; omega
      simp -implicitDefEqProofs (disch := first | exact dsch | fail) only [go_sem, ↓reduceIte, Nat.reduceEqDiff, hk, hc, h3, hn, e1]
      exact ⟨hlt, by rw [s1], by rw [s1]⟩
    · obtain rfl : i = l.length := by omega
      rw [List.take_length] at h3
      simp -implicitDefEqProofs (disch := first | exact dsch | fail) only [go_sem, ↓reduceIte, Nat.reduceEqDiff, hk, hc, h3, List.take_length, hj2]
      rfl
  · simp -implicitDefEqProofs (disch := first | exact dsch | fail) only [go_sem, ↓reduceIte, Nat.reduceEqDiff]
    exact ⟨rfl, rfl⟩
@[go_sem] theorem pu_slist {l : List Int} (hr : ∀ n ∈ l, InR n) (hl : l.length ≤ 1000000) {K : Kp} : @Pu _ Tryz.prog 27 [enc l] K = K.k (.t (.str (listB l))) := (state_list hr hl).pu

structure OkF (s : Fs) : Prop where
  f : ∀ n ∈ s.f, InR n
  l : ∀ r ∈ s.l, ∀ n ∈ r, InR n
  fl : s.f.length ≤ 1000
  ll : s.l.length ≤ 1000
  rl : ∀ r ∈ s.l, r.length ≤ 1000

def codeTo (s : Fs) : Nat → ByteArray
  | 0 => figB s.d.toNat ++ semi ++ listB s.f ++ semi
  | i + 1 => codeTo s i ++ (listB (gd s.l i) ++ slash)
def codeB (s : Fs) : ByteArray := codeTo s s.l.length
theorem codeTo_size {s : Fs} (h : OkF s) : ∀ i, i ≤ s.l.length → (codeTo s i).size ≤ 30000 + 30000 * i
  | 0, _ => by
    have h1 := listB_size h.f
    have h2 := h.fl
    have h3 := figB_size (n := s.d.toNat) ⟨by omega, by have := s.d.isLt; omega⟩
    have e : (codeTo s 0).size = (figB s.d.toNat).size + 1 + (listB s.f).size + 1 := by
      simp only [codeTo, size_app]; rfl
    omega
  | i + 1, hi => by
    have h0 := codeTo_size h i (by omega)
    have h1 := listB_size (h.l _ (gd_mem (l := s.l) (i := i) (by omega)))
    have h2 := h.rl _ (gd_mem (l := s.l) (i := i) (by omega))
    have e : (codeTo s (i + 1)).size = (codeTo s i).size + ((listB (gd s.l i)).size + 1) := by
      simp only [codeTo, size_app]; rfl
    omega
theorem state_Code {s : Fs} (h : OkF s) : Fun Tryz.prog 19 [enc s] (.t (.str (codeB s))) := by
  have hf := h.f
  have hfl : s.f.length ≤ 1000000 := by have := h.fl; omega
  have hd := figB_size (n := s.d.toNat) ⟨by omega, by have := s.d.isLt; omega⟩
  have hs := listB_size h.f
  have h2 := h.fl
  have hll := h.ll
  have hu : (0 : Int) ≤ s.d.toNat ∧ ((s.d.toNat : Nat) : Int) ≤ 18446744073709551615 := ⟨by omega, by have := s.d.isLt; omega⟩
  have hw : IntKind.u64.wrap (s.d.toNat : Int) = s.d.toNat := wrap_u64 hu.1 hu.2
  refine Fun.go (b := false) Tryz.func19 rfl rfl (by kernel_rfl) (by kernel_rfl) ?_
  simp -implicitDefEqProofs (disch := first | exact dsch | fail) only [go_sem, ↓reduceIte, Nat.reduceEqDiff, hu, hw, hf, hfl]
  refine loop_k (n := s.l.length) [2, 17, 18] (by kernel_rfl) (fun i e H => e 19 = .t (.int .i64 i) ∧ e 3 = .t (.str (codeTo s i)) ∧ ∃ R : Heap, H = R) ?_ ?_
  · rintro i e H hi hk ⟨hc, h3, R, rfl⟩
    simp only [keepP, go_sem, ↓reduceIte, Nat.reduceEqDiff, and_true] at hk
    have hz := codeTo_size h i hi
    by_cases hlt : i < s.l.length
    · have hn := h.l _ (gd_mem hlt)
      have hm := h.rl _ (gd_mem hlt)
      have hm' : (gd s.l i).length ≤ 1000000 := by omega
      have hy := listB_size hn
      simp -implicitDefEqProofs (disch := first | exact dsch | fail) only [go_sem, ↓reduceIte, Nat.reduceEqDiff, hk, hc, h3, hn, hm']
      exact ⟨hlt, rfl, _, rfl⟩
    · obtain rfl : i = s.l.length := by omega
      simp -implicitDefEqProofs (disch := first | exact dsch | fail) only [go_sem, ↓reduceIte, Nat.reduceEqDiff, hk, hc, h3]
      rfl
  · simp -implicitDefEqProofs (disch := first | exact dsch | fail) only [go_sem, ↓reduceIte, Nat.reduceEqDiff]
    exact ⟨rfl, _, rfl⟩
@[go_sem] theorem pu_Code {s : Fs} (h : OkF s) {K : Kp} : @Pu _ Tryz.prog 19 [enc s] K = K.k (.t (.str (codeB s))) := (state_Code h).pu
end Go.Sim

set_option maxRecDepth 100000
namespace Go.Sim
open Enc (enc)
open Go.Proofs
theorem cmp_isNaNi {a : Int} : Fun Tryz.prog 121 [.int .i64 a] (.t (.bool false)) := by
  refine Fun.go (b := false) Tryz.func121 rfl rfl (by kernel_rfl) (by kernel_rfl) ?_
  simp -implicitDefEqProofs (disch := first | exact dsch | fail) only [go_sem, ↓reduceIte, Nat.reduceEqDiff]
  try simp
@[go_sem] theorem pu_isNaNi {a : Int} {K : Kp} : @Pu _ Tryz.prog 121 [.int .i64 a] K = K.k (.t (.bool false)) := cmp_isNaNi.pu
theorem cmp_isNaNs {a : ByteArray} : Fun Tryz.prog 123 [.str a] (.t (.bool false)) := by
  refine Fun.go (b := false) Tryz.func123 rfl rfl (by kernel_rfl) (by kernel_rfl) ?_
  simp -implicitDefEqProofs (disch := first | exact dsch | fail) only [go_sem, ↓reduceIte, Nat.reduceEqDiff, eqB_self]
  try simp
@[go_sem] theorem pu_isNaNs {a : ByteArray} {K : Kp} : @Pu _ Tryz.prog 123 [.str a] K = K.k (.t (.bool false)) := cmp_isNaNs.pu
def cmpI (a b : Int) : Int := if a < b then -1 else if b < a then 1 else 0
def cmpS (a b : ByteArray) : Int := if ltB a b = true then -1 else if (ltB a b || eqB a b) = true then 0 else 1
theorem cmp_Ci {a b : Int} : Fun Tryz.prog 118 [.int .i64 a, .int .i64 b] (.t (.int .i64 (cmpI a b))) := by
  refine Fun.go (b := false) Tryz.func118 rfl rfl (by kernel_rfl) (by kernel_rfl) ?_
  unfold cmpI
  by_cases h1 : a < b
  · simp -implicitDefEqProofs (disch := first | exact dsch | fail) only [go_sem, ↓reduceIte, Nat.reduceEqDiff, h1]
  · by_cases h2 : b < a
    · simp -implicitDefEqProofs (disch := first | exact dsch | fail) only [go_sem, ↓reduceIte, Nat.reduceEqDiff, h1, h2]
    · simp -implicitDefEqProofs (disch := first | exact dsch | fail) only [go_sem, ↓reduceIte, Nat.reduceEqDiff, h1, h2]
@[go_sem] theorem pu_Ci {a b : Int} {K : Kp} : @Pu _ Tryz.prog 118 [.int .i64 a, .int .i64 b] K = K.k (.t (.int .i64 (cmpI a b))) := cmp_Ci.pu
theorem cmp_Cs {a b : ByteArray} : Fun Tryz.prog 120 [.str a, .str b] (.t (.int .i64 (cmpS a b))) := by
  refine Fun.go (b := false) Tryz.func120 rfl rfl (by kernel_rfl) (by kernel_rfl) ?_
  unfold cmpS
  cases h1 : ltB a b
  · cases h2 : eqB a b
    · simp -implicitDefEqProofs (disch := first | exact dsch | fail) only [go_sem, ↓reduceIte, Nat.reduceEqDiff, h1, h2, Bool.or_false, Bool.or_true]
    · simp -implicitDefEqProofs (disch := first | exact dsch | fail) only [go_sem, ↓reduceIte, Nat.reduceEqDiff, h1, h2, Bool.or_false, Bool.or_true]
  · simp -implicitDefEqProofs (disch := first | exact dsch | fail) only [go_sem, ↓reduceIte, Nat.reduceEqDiff, h1]
@[go_sem] theorem pu_Cs {a b : ByteArray} {K : Kp} : @Pu _ Tryz.prog 120 [.str a, .str b] K = K.k (.t (.int .i64 (cmpS a b))) := cmp_Cs.pu
def orL (l : List Int) : Int := (l.find? fun a => !decide (a = 0)).getD 0
theorem cmp_Or {l : List Int} (hl : l.length ≤ 1000000) : Fun Tryz.prog 117 [enc l] (.t (.int .i64 (orL l))) := by
  refine Fun.go (b := false) Tryz.func117 rfl rfl (by kernel_rfl) (by kernel_rfl) ?_
  simp -implicitDefEqProofs (disch := first | exact dsch | fail) only [go_sem, ↓reduceIte, Nat.reduceEqDiff]
  refine loop_k (n := l.length) [3, 6, 7] (by kernel_rfl) (fun i e H => e 8 = .t (.int .i64 i) ∧ (∀ k, k < i → gd l k = 0) ∧ ∃ R : Heap, H = R) ?_ ?_
  · rintro i e H hi hk ⟨hc, hz, R, rfl⟩
    simp only [keepP, go_sem, ↓reduceIte, Nat.reduceEqDiff, and_true] at hk
    by_cases hlt : i < l.length
    · by_cases h0 : gd l i = 0
      · simp -implicitDefEqProofs (disch := first | exact dsch | fail) only [go_sem, ↓reduceIte, Nat.reduceEqDiff, hk, hc, h0]
        refine ⟨hlt, fun k hk' => ?_, _, rfl⟩
        by_cases e : k = i
        · subst e; exact h0
        · exact hz k (by omega)
      · have hr : orL l = gd l i := by
          unfold orL
          have : l.find? (fun a => !decide (a = 0)) = some (gd l i) := by
            rw [← gd_get hlt, List.find?_eq_some_iff_getElem]
            refine ⟨by rw [gd_get hlt]; simpa using h0, i, hlt, rfl, fun j hj => ?_⟩
            rw [gd_get (by omega), hz j hj]; rfl
          rw [this]; rfl
        simp -implicitDefEqProofs (disch := first | exact dsch | fail) only [go_sem, ↓reduceIte, Nat.reduceEqDiff, hk, hc, h0]
        rw [hr]
    · obtain rfl : i = l.length := by omega
      have hr : orL l = 0 := by
        unfold orL
        have : l.find? (fun a => !decide (a = 0)) = none := by
          rw [List.find?_eq_none]
          intro x hx
          obtain ⟨k, hk', rfl⟩ := List.mem_iff_getElem.1 hx
          rw [gd_get hk', hz k hk']; simp
        rw [this]; rfl
      simp -implicitDefEqProofs (disch := first | exact dsch | fail) only [go_sem, ↓reduceIte, Nat.reduceEqDiff, hk, hc]
      rw [hr]
  · simp -implicitDefEqProofs (disch := first | exact dsch | fail) only [go_sem, ↓reduceIte, Nat.reduceEqDiff]
    exact ⟨fun k hk => by omega, _, rfl⟩
@[go_sem] theorem pu_Or {l : List Int} (hl : l.length ≤ 1000000) {K : Kp} : @Pu _ Tryz.prog 117 [enc l] K = K.k (.t (.int .i64 (orL l))) := (cmp_Or hl).pu
theorem orL_2 (a b : Int) : orL [a, b] = if a = 0 then b else a := by
  unfold orL
  by_cases h : a = 0
  · by_cases h2 : b = 0
    · simp [h, h2]
    · simp [h, h2]
  · simp [h]

def popN (n : Nat) : Nat := (List.range 8).foldl (fun k i => k + (n >>> i) % 2) 0
def popT : ByteArray := ⟨((List.range 256).map fun n => UInt8.ofNat (popN n)).toArray⟩
def IsPop (s : ByteArray) : Prop := s = popT
theorem isPop {s : ByteArray} (h : s = popT := by kernel_rfl) : IsPop s := h
theorem popT_get : ∀ n, n < 256 → (popT.get! n).toNat = popN n := by decide +kernel
theorem index_pop {P : Program} {H : Heap} {s : ByteArray} {n : Nat} (hs : IsPop s) (h : n < 256) : index1 P H Kd.str (V.t (.str s)) (n : Int) = some ⟨.t (.int .u8 (popN n : Nat)), H, .none⟩ := by
  cases hs
  have hz : popT.size = 256 := by decide +kernel
  rw [index1_str (by omega) (by rw [hz]; omega), Int.toNat_natCast, popT_get n h]
theorem popN_le : ∀ n, n < 256 → popN n ≤ 8 := by decide +kernel
def popC (d : U32) : Nat := popN (d >>> 24).toNat + popN (d >>> 16 &&& 255#32).toNat + popN (d >>> 8 &&& 255#32).toNat + popN (d &&& 255#32).toNat
theorem and_lt (x : U32) : (x &&& 255#32).toNat < 256 := by
  rw [BitVec.toNat_and]
  exact Nat.lt_of_le_of_lt Nat.and_le_right (by decide)
theorem wrap_u8 {n : Int} (h0 : 0 ≤ n) (h1 : n ≤ 255) : IntKind.u8.wrap n = n := by
  unfold IntKind.wrap; simp [IntKind.bits, IntKind.signed]; omega
theorem bits_Ones {d : U32} : Fun Tryz.prog 122 [.int .u32 d.toNat] (.t (.int .i64 (popC d))) := by
  have h1 : (d >>> 24).toNat < 256 := by rw [BitVec.toNat_ushiftRight]; have := d.isLt; rw [Nat.shiftRight_eq_div_pow]; omega
  have h2 := and_lt (d >>> 16)
  have h3 := and_lt (d >>> 8)
  have h4 := and_lt d
  have g1 := popN_le _ h1
  have g2 := popN_le _ h2
  have g3 := popN_le _ h3
  have g4 := popN_le _ h4
  unfold popC
  refine Fun.go (b := false) Tryz.func122 rfl rfl (by kernel_rfl) (by kernel_rfl) ?_
  simp -implicitDefEqProofs (disch := first | (exact isPop) | exact dsch | fail) only [go_sem, ↓reduceIte, Nat.reduceEqDiff, index_pop, wrap_u8]
@[go_sem] theorem pu_Ones {d : U32} {K : Kp} : @Pu _ Tryz.prog 122 [.int .u32 d.toNat] K = K.k (.t (.int .i64 (popC d))) := bits_Ones.pu
theorem state_Count {s : Fs} : Fun Tryz.prog 119 [enc s] (.t (.int .i64 (popC s.d))) := by
  refine Fun.go (b := false) Tryz.func119 rfl rfl (by kernel_rfl) (by kernel_rfl) ?_
  simp -implicitDefEqProofs (disch := first | exact dsch | fail) only [go_sem, ↓reduceIte, Nat.reduceEqDiff]
@[go_sem] theorem pu_Count {s : Fs} {K : Kp} : @Pu _ Tryz.prog 119 [enc s] K = K.k (.t (.int .i64 (popC s.d))) := state_Count.pu
def lessB (a b : Fs) : Bool := decide (orL [cmpI (popC a.d) (popC b.d), cmpS (codeB a) (codeB b)] < 0)
theorem state_Less {a b : Fs} (ha : OkF a) (hb : OkF b) : Fun Tryz.prog 116 [enc a, enc b] (.t (.bool (lessB a b))) := by
  refine Fun.go (b := false) Tryz.func116 rfl rfl (by kernel_rfl) (by kernel_rfl) ?_
  simp -implicitDefEqProofs (disch := first | exact dsch | fail) only [go_sem, ↓reduceIte, Nat.reduceEqDiff, ha, hb]
  rfl
@[go_sem] theorem pu_Less {a b : Fs} (ha : OkF a) (hb : OkF b) {K : Kp} : @Pu _ Tryz.prog 116 [enc a, enc b] K = K.k (.t (.bool (lessB a b))) := (state_Less ha hb).pu
end Go.Sim

set_option maxRecDepth 100000
namespace Go.Sim
open Enc (enc)
open Go.Proofs
theorem ref01_IntsE {a b : List Int} (hl : a.length ≤ 1000000) (hm : b.length ≤ 1000000) : Fun Tryz.prog 38 [enc a, enc b] (.t (.bool (decide (a = b)))) := by
  refine Fun.go (b := false) Tryz.func38 rfl rfl (by kernel_rfl) (by kernel_rfl) ?_
  by_cases hab : a.length = b.length
  · simp -implicitDefEqProofs (disch := first | exact dsch | fail) only [go_sem, ↓reduceIte, Nat.reduceEqDiff, hab]
    refine loop_k (n := b.length) [0, 1] (by kernel_rfl) (fun i e H => e 5 = .t (.int .i64 i) ∧ (∃ R : Heap, H = R) ∧ ∀ k, k < i → gd a k = gd b k) ?_ ?_
    · rintro i e H hi hk ⟨hc, ⟨R, rfl⟩, hq⟩
      simp only [keepP, go_sem, ↓reduceIte, Nat.reduceEqDiff, and_true] at hk
      by_cases hlt : i < b.length
      · by_cases he : gd a i = gd b i
        · simp -implicitDefEqProofs (disch := first | exact dsch | fail) only [go_sem, ↓reduceIte, Nat.reduceEqDiff, hk, hc, he, hab]
          refine ⟨hlt, ⟨_, rfl⟩, fun k hk' => ?_⟩
          by_cases e : k = i
          · subst e; exact he
          · exact hq k (by omega)
        · have hne : ¬ a = b := fun e => he (by rw [e])
          simp -implicitDefEqProofs (disch := first | exact dsch | fail) only [go_sem, ↓reduceIte, Nat.reduceEqDiff, hk, hc, he, hne, hab]
      · obtain rfl : i = b.length := by omega
        have : a = b := gd_ext hab fun k hk' => hq k (by omega)
        simp -implicitDefEqProofs (disch := first | exact dsch | fail) only [go_sem, ↓reduceIte, Nat.reduceEqDiff, hk, hc, this]
    · simp -implicitDefEqProofs (disch := first | exact dsch | fail) only [go_sem, ↓reduceIte, Nat.reduceEqDiff]
      exact ⟨⟨_, rfl⟩, fun k hk => by omega⟩
  · have : ¬ a = b := fun e => hab (by rw [e])
    simp -implicitDefEqProofs (disch := first | exact dsch | fail) only [go_sem, ↓reduceIte, Nat.reduceEqDiff, hab, this]
@[go_sem] theorem pu_IntsE {a b : List Int} (hl : a.length ≤ 1000000) (hm : b.length ≤ 1000000) {K : Kp} : @Pu _ Tryz.prog 38 [enc a, enc b] K = K.k (.t (.bool (decide (a = b)))) := (ref01_IntsE hl hm).pu
theorem ref06_Lists {a b : List (List Int)} (hl : a.length ≤ 1000000) (hm : b.length ≤ 1000000) (ha : ∀ l ∈ a, l.length ≤ 1000000) (hb : ∀ l ∈ b, l.length ≤ 1000000) : Fun Tryz.prog 25 [enc a, enc b] (.t (.bool (decide (a = b)))) := by
  refine Fun.go (b := false) Tryz.func25 rfl rfl (by kernel_rfl) (by kernel_rfl) ?_
  by_cases hab : a.length = b.length
  · simp -implicitDefEqProofs (disch := first | exact dsch | fail) only [go_sem, ↓reduceIte, Nat.reduceEqDiff, hab]
    refine loop_k (n := b.length) [0, 1] (by kernel_rfl) (fun i e H => e 5 = .t (.int .i64 i) ∧ (∃ R : Heap, H = R) ∧ ∀ k, k < i → gd a k = gd b k) ?_ ?_
    · rintro i e H hi hk ⟨hc, ⟨R, rfl⟩, hq⟩
      simp only [keepP, go_sem, ↓reduceIte, Nat.reduceEqDiff, and_true] at hk
      by_cases hlt : i < b.length
      · have h1 := ha _ (gd_mem (l := a) (i := i) (by omega))
        have h2 := hb _ (gd_mem (l := b) (i := i) (by omega))
        by_cases he : gd a i = gd b i
        · simp -implicitDefEqProofs (disch := first | exact dsch | fail) only [go_sem, ↓reduceIte, Nat.reduceEqDiff, hk, hc, he, hab, h1, h2]
          refine ⟨hlt, ⟨_, rfl⟩, fun k hk' => ?_⟩
          by_cases e : k = i
          · subst e; exact he
          · exact hq k (by omega)
        · have hne : ¬ a = b := fun e => he (by rw [e])
          simp -implicitDefEqProofs (disch := first | exact dsch | fail) only [go_sem, ↓reduceIte, Nat.reduceEqDiff, hk, hc, he, hne, hab, h1, h2]
      · obtain rfl : i = b.length := by omega
        have : a = b := gd_ext hab fun k hk' => hq k (by omega)
        simp -implicitDefEqProofs (disch := first | exact dsch | fail) only [go_sem, ↓reduceIte, Nat.reduceEqDiff, hk, hc, this]
    · simp -implicitDefEqProofs (disch := first | exact dsch | fail) only [go_sem, ↓reduceIte, Nat.reduceEqDiff]
      exact ⟨⟨_, rfl⟩, fun k hk => by omega⟩
  · have : ¬ a = b := fun e => hab (by rw [e])
    simp -implicitDefEqProofs (disch := first | exact dsch | fail) only [go_sem, ↓reduceIte, Nat.reduceEqDiff, hab, this]
@[go_sem] theorem pu_Lists {a b : List (List Int)} (hl : a.length ≤ 1000000) (hm : b.length ≤ 1000000) (ha : ∀ l ∈ a, l.length ≤ 1000000) (hb : ∀ l ∈ b, l.length ≤ 1000000) {K : Kp} : @Pu _ Tryz.prog 25 [enc a, enc b] K = K.k (.t (.bool (decide (a = b)))) := (ref06_Lists hl hm ha hb).pu
structure LeF (s : Fs) : Prop where
  f : s.f.length ≤ 1000000
  l : s.l.length ≤ 1000000
  r : ∀ l ∈ s.l, l.length ≤ 1000000
theorem OkF.le {s : Fs} (h : OkF s) : LeF s := ⟨by have := h.fl; omega, by have := h.ll; omega, fun l hl => by have := h.rl l hl; omega⟩
def sameF (a b : Fs) : Bool := decide (a.d = b.d) && (decide (a.f = b.f) && decide (a.l = b.l))
theorem sameF_iff {a b : Fs} : sameF a b = true ↔ a = b := by
  unfold sameF
  simp only [Bool.and_eq_true, decide_eq_true_eq]
  refine ⟨fun ⟨h1, h2, h3⟩ => ?_, fun h => by rw [h]; exact ⟨rfl, rfl, rfl⟩⟩
  cases a; cases b; simp only at h1 h2 h3; rw [h1, h2, h3]
theorem ref19_SameF {a b : Fs} (ha : LeF a) (hb : LeF b) : Fun Tryz.prog 14 [enc a, enc b] (.t (.bool (sameF a b))) := by
  obtain ⟨a1, a2, a3⟩ := ha
  obtain ⟨b1, b2, b3⟩ := hb
  refine Fun.go (b := false) Tryz.func14 rfl rfl (by kernel_rfl) (by kernel_rfl) ?_
  unfold sameF
  by_cases hd : a.d = b.d
  · by_cases hf : a.f.length = b.f.length
    · simp -implicitDefEqProofs (disch := first | exact dsch | fail) only [go_sem, ↓reduceIte, Nat.reduceEqDiff, hd, hf]
      refine loop_k (n := b.f.length) [2, 3] (by kernel_rfl) (fun i e H => e 5 = .t (.int .i64 i) ∧ H = [⟨[.t (enc a)], 3, false⟩, ⟨[.t (enc b)], 3, false⟩] ∧ ∀ k, k < i → gd a.f k = gd b.f k) ?_ ?_
      · rintro i e H hi hk ⟨hc, rfl, hq⟩
        simp only [keepP, go_sem, ↓reduceIte, Nat.reduceEqDiff, and_true] at hk
        by_cases hlt : i < b.f.length
        · by_cases he : gd a.f i = gd b.f i
          · simp -implicitDefEqProofs (disch := first | exact dsch | fail) only [go_sem, ↓reduceIte, Nat.reduceEqDiff, hk, hc, he, hf]
            refine ⟨hlt, fun k hk' => ?_⟩
            by_cases e : k = i
            · subst e; exact he
            · exact hq k (by omega)
          · have hne : ¬ a.f = b.f := fun e => he (by rw [e])
            simp -implicitDefEqProofs (disch := first | exact dsch | fail) only [go_sem, ↓reduceIte, Nat.reduceEqDiff, hk, hc, he, hne, hf, hd, Bool.false_and, Bool.and_false]
        · obtain rfl : i = b.f.length := by omega
          have hff : a.f = b.f := gd_ext hf fun k hk' => hq k (by omega)
          simp -implicitDefEqProofs (disch := first | exact dsch | fail) only [go_sem, ↓reduceIte, Nat.reduceEqDiff, hk, hc, hff, hd, a2, b2, a3, b3, Bool.true_and]
      · simp -implicitDefEqProofs (disch := first | exact dsch | fail) only [go_sem, ↓reduceIte, Nat.reduceEqDiff]
        exact fun k hk => by omega
    · have hne : ¬ a.f = b.f := fun e => hf (by rw [e])
      simp -implicitDefEqProofs (disch := first | exact dsch | fail) only [go_sem, ↓reduceIte, Nat.reduceEqDiff, hd, hf, hne, Bool.false_and]
  · simp -implicitDefEqProofs (disch := first | exact dsch | fail) only [go_sem, ↓reduceIte, Nat.reduceEqDiff, hd, Bool.false_and]
@[go_sem] theorem pu_SameF {a b : Fs} (ha : LeF a) (hb : LeF b) {K : Kp} : @Pu _ Tryz.prog 14 [enc a, enc b] K = K.k (.t (.bool (sameF a b))) := (ref19_SameF ha hb).pu
def fewF (s : Fs) : Bool := decide (s.f.length ≤ 40) && (decide (s.l.length ≤ 10) && s.l.all fun r => decide (r.length ≤ 40))
theorem ref20_Few {s : Fs} : Fun Tryz.prog 18 [enc s] (.t (.bool (fewF s))) := by
  refine Fun.go (b := false) Tryz.func18 rfl rfl (by kernel_rfl) (by kernel_rfl) ?_
  unfold fewF
  by_cases h1 : s.f.length ≤ 40
  · by_cases h2 : s.l.length ≤ 10
    · simp -implicitDefEqProofs (disch := first | exact dsch | fail) only [go_sem, ↓reduceIte, Nat.reduceEqDiff, h1, h2]
      refine loop_k (n := s.l.length) [1] (by kernel_rfl) (fun i e H => e 3 = .t (.int .i64 i) ∧ H = [⟨[.t (enc s)], 3, false⟩] ∧ ∀ k, k < i → (gd s.l k).length ≤ 40) ?_ ?_
      · rintro i e H hi hk ⟨h3, rfl, hq⟩
        simp only [keepP, go_sem, ↓reduceIte, Nat.reduceEqDiff, and_true] at hk
        by_cases hlt : i < s.l.length
        · by_cases he : (gd s.l i).length ≤ 40
          · simp -implicitDefEqProofs (disch := first | exact dsch | fail) only [go_sem, ↓reduceIte, Nat.reduceEqDiff, hk, h3, he]
            refine ⟨hlt, fun k hk' => ?_⟩
            by_cases e : k = i
            · subst e; exact he
            · exact hq k (by omega)
          · have : (s.l.all fun x => decide (x.length ≤ 40)) = false := by
              rw [List.all_eq_false]; exact ⟨_, gd_mem hlt, by simpa using he⟩
            simp -implicitDefEqProofs (disch := first | exact dsch | fail) only [go_sem, ↓reduceIte, Nat.reduceEqDiff, hk, h3, he, this, Bool.and_false]
        · obtain rfl : i = s.l.length := by omega
          have : (s.l.all fun x => decide (x.length ≤ 40)) = true := by
            rw [List.all_eq_true]
            intro x hx
            obtain ⟨k, hk', rfl⟩ := List.mem_iff_getElem.1 hx
            have := hq k hk'
            simpa [gd_get hk'] using this
          simp -implicitDefEqProofs (disch := first | exact dsch | fail) only [go_sem, ↓reduceIte, Nat.reduceEqDiff, hk, h3, this]
          simp [h1, h2]
      · simp -implicitDefEqProofs (disch := first | exact dsch | fail) only [go_sem, ↓reduceIte, Nat.reduceEqDiff]
        intro k hk; omega
    · simp -implicitDefEqProofs (disch := first | exact dsch | fail) only [go_sem, ↓reduceIte, Nat.reduceEqDiff, h1, h2, Bool.false_and]
  · simp -implicitDefEqProofs (disch := first | exact dsch | fail) only [go_sem, ↓reduceIte, Nat.reduceEqDiff, h1, Bool.false_and]
@[go_sem] theorem pu_FewF {s : Fs} {K : Kp} : @Pu _ Tryz.prog 18 [enc s] K = K.k (.t (.bool (fewF s))) := ref20_Few.pu
theorem fig_2 : figB 16 = ⟨#[49, 54]⟩ := by
  unfold figB
  rw [show (16 : Int) = ((16 : Nat) : Int) from rfl, show Go.Lib.itoa ((16 : Nat) : Int) = Go.Lib.decDigits 16 from rfl, Go.Lib.decDigits_two (by decide) (by decide)]
  rfl
theorem fig_m2 : figB (-2) = ⟨#[45, 50]⟩ := by
  unfold figB
  rw [show Go.Lib.itoa (-2) = 45 :: Go.Lib.decDigits 2 from rfl, Go.Lib.decDigits_one (by decide)]
  rfl
theorem fig_0 : figB 0 = ⟨#[48]⟩ := by
  unfold figB
  rw [show Go.Lib.itoa 0 = Go.Lib.decDigits 0 from rfl, Go.Lib.decDigits_one (by decide)]
  rfl
theorem fig_3 : figB 3 = ⟨#[51]⟩ := by
  unfold figB
  rw [show Go.Lib.itoa 3 = Go.Lib.decDigits 3 from rfl, Go.Lib.decDigits_one (by decide)]
  rfl
def s20 : Fs := ⟨16#32, [-2, 0], [[3]]⟩
theorem code20 : codeB s20 = ⟨#[49, 54, 59, 45, 50, 44, 48, 59, 51, 47]⟩ := by
  show (figB 16 ++ semi ++ joinB [figB (-2), figB 0] comma ++ semi) ++ (joinB [figB 3] comma ++ slash) = _
  rw [fig_2, fig_m2, fig_0, fig_3]
  rfl
theorem ok20 : OkF s20 := ⟨by intro n hn; simp [s20] at hn; unfold InR; omega, by intro r hr n hn; simp [s20] at hr; subst hr; simp at hn; unfold InR; omega, by decide, by decide, by intro r hr; simp [s20] at hr; subst hr; decide⟩
end Go.Sim
