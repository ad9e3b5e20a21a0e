/- A part of the proof of a law of module cupola: StP. It has no conditions of its own. -/
import Derived.Test.YtkfceeaokfdmfaaGreatDoorSt
set_option linter.all false
set_option maxRecDepth 100000
namespace Go.Sim
open Enc (enc)
open Go.Lib (itoa decDigits)

def digit (c : UInt8) : Prop := 48 ≤ c.toNat ∧ c.toNat ≤ 57
theorem dec_step (u : Nat) (h : ¬ u < 10) : decDigits u = decDigits (u / 10) ++ [UInt8.ofNat (48 + u % 10)] := by rw [decDigits, dif_neg h]
theorem dec_small (u : Nat) (h : u < 10) : decDigits u = [UInt8.ofNat (48 + u)] := by rw [decDigits, dif_pos h]
theorem dg_nat (k : Nat) (h : k < 10) : (UInt8.ofNat (48 + k)).toNat = 48 + k := by
  rw [UInt8.toNat_ofNat']; omega
theorem dec_digit (u : Nat) : ∀ c ∈ decDigits u, digit c := by
  induction u using Nat.strongRecOn with
  | ind u ih =>
    intro c hc
    by_cases h : u < 10
    · rw [dec_small u h, List.mem_singleton] at hc
      subst hc; unfold digit; rw [dg_nat u h]; omega
    · rw [dec_step u h] at hc
      rcases List.mem_append.1 hc with hc | hc
      · exact ih (u / 10) (by omega) c hc
      · rw [List.mem_singleton] at hc
        subst hc; unfold digit; rw [dg_nat _ (by omega)]; omega
theorem dec_ne (u : Nat) : decDigits u ≠ [] := by
  by_cases h : u < 10
  · rw [dec_small u h]; simp
  · rw [dec_step u h]; simp
def valD (l : List UInt8) : Nat := l.foldl (fun a c => 10 * a + (c.toNat - 48)) 0
theorem valD_snoc (l : List UInt8) (c : UInt8) : valD (l ++ [c]) = 10 * valD l + (c.toNat - 48) := by
  unfold valD; rw [List.foldl_append]; rfl
theorem valD_dec (u : Nat) : valD (decDigits u) = u := by
  induction u using Nat.strongRecOn with
  | ind u ih =>
    by_cases h : u < 10
    · rw [dec_small u h]
      show 10 * 0 + ((UInt8.ofNat (48 + u)).toNat - 48) = u
      rw [dg_nat u h]; omega
    · rw [dec_step u h, valD_snoc, ih (u / 10) (by omega), dg_nat _ (by omega)]; omega
def figC (c : UInt8) : Prop := c.toNat = 45 ∨ digit c
theorem itoa_figC (n : Int) : ∀ c ∈ itoa n, figC c := by
  intro c hc
  unfold itoa at hc
  split at hc
  · rcases List.mem_cons.1 hc with rfl | hc
    · exact .inl rfl
    · exact .inr (dec_digit _ c hc)
  · exact .inr (dec_digit _ c hc)
theorem itoa_ne (n : Int) : itoa n ≠ [] := by
  unfold itoa
  split
  · simp
  · exact dec_ne _
def valI (l : List UInt8) : Int := if l.head?.map (·.toNat) = some 45 then -(valD l.tail : Int) else valD l
theorem valI_itoa (n : Int) : valI (itoa n) = n := by
  unfold valI itoa
  split
  · rename_i h
    rw [if_pos (show Option.map (fun x : UInt8 => x.toNat) (45 :: decDigits n.natAbs).head? = some 45 from rfl)]
    show -((valD (decDigits n.natAbs) : Nat) : Int) = n
    rw [valD_dec]; omega
  · rename_i h
    have h0 := dec_digit n.toNat
    have h1 := dec_ne n.toNat
    have h2 := valD_dec n.toNat
    cases hl : decDigits n.toNat with
    | nil => exact absurd hl h1
    | cons c r =>
      rw [hl] at h0 h2
      have := h0 c (by simp)
      unfold digit at this
      rw [if_neg (by simp; omega), h2]; omega
theorem itoa_inj {a b : Int} (h : itoa a = itoa b) : a = b := by
  rw [← valI_itoa a, h, valI_itoa]

theorem cut_eq {c : UInt8} : ∀ {a a' b b' : List UInt8}, (∀ x ∈ a, x ≠ c) → (∀ x ∈ a', x ≠ c) → a ++ c :: b = a' ++ c :: b' → a = a' ∧ b = b'
  | [], [], b, b', _, _, h => ⟨rfl, by simpa using h⟩
  | [], y :: a', b, b', _, h2, h => by
    simp only [List.nil_append, List.cons_append, List.cons.injEq] at h
    exact absurd h.1.symm (h2 y (by simp))
  | x :: a, [], b, b', h1, _, h => by
    simp only [List.nil_append, List.cons_append, List.cons.injEq] at h
    exact absurd h.1 (h1 x (by simp))
  | x :: a, y :: a', b, b', h1, h2, h => by
    simp only [List.cons_append, List.cons.injEq] at h
    obtain ⟨h3, h4⟩ := cut_eq (fun z hz => h1 z (by simp [hz])) (fun z hz => h2 z (by simp [hz])) h.2
    exact ⟨by rw [h.1, h3], h4⟩
def listL : List Int → List UInt8
  | [] => []
  | [n] => itoa n
  | n :: m :: r => itoa n ++ 44 :: listL (m :: r)
theorem figC_44 {c : UInt8} (h : figC c) : c ≠ 44 := by
  rintro rfl; rcases h with h | h
  · exact absurd h (by decide)
  · exact absurd h.1 (by decide)
theorem figC_59 {c : UInt8} (h : figC c) : c ≠ 59 := by
  rintro rfl; rcases h with h | h
  · exact absurd h (by decide)
  · exact absurd h.2 (by decide)
theorem figC_47 {c : UInt8} (h : figC c) : c ≠ 47 := by
  rintro rfl; rcases h with h | h
  · exact absurd h (by decide)
  · exact absurd h.1 (by decide)
theorem listL_mem : ∀ (l : List Int), ∀ c ∈ listL l, figC c ∨ c = 44
  | [], c, hc => by cases hc
  | [n], c, hc => .inl (itoa_figC n c hc)
  | n :: m :: r, c, hc => by
    rcases List.mem_append.1 hc with hc | hc
    · exact .inl (itoa_figC n c hc)
    · rcases List.mem_cons.1 hc with hc | hc
      · exact .inr hc
      · exact listL_mem (m :: r) c hc
theorem listL_59 (l : List Int) : ∀ c ∈ listL l, c ≠ 59 := fun c hc => by
  rcases listL_mem l c hc with h | rfl
  · exact figC_59 h
  · decide
theorem listL_47 (l : List Int) : ∀ c ∈ listL l, c ≠ 47 := fun c hc => by
  rcases listL_mem l c hc with h | rfl
  · exact figC_47 h
  · decide
theorem listL_ne (n : Int) (r : List Int) : listL (n :: r) ≠ [] := by
  cases r with
  | nil => exact itoa_ne n
  | cons m r => simp [listL]
theorem listL_inj : ∀ {a b : List Int}, listL a = listL b → a = b
  | [], [], _ => rfl
  | [], n :: r, h => absurd h.symm (listL_ne n r)
  | n :: r, [], h => absurd h (listL_ne n r)
  | [n], [m], h => by rw [itoa_inj h]
  | [n], m :: k :: r, h => by
    exfalso
    have : (44 : UInt8) ∈ listL [n] := by rw [h]; simp [listL]
    exact figC_44 (itoa_figC n _ this) rfl
  | n :: k :: r, [m], h => by
    exfalso
    have : (44 : UInt8) ∈ listL [m] := by rw [← h]; simp [listL]
    exact figC_44 (itoa_figC m _ this) rfl
  | n :: k :: r, m :: j :: q, h => by
    obtain ⟨h1, h2⟩ := cut_eq (fun x hx => figC_44 (itoa_figC n x hx)) (fun x hx => figC_44 (itoa_figC m x hx)) h
    rw [itoa_inj h1, listL_inj h2]
def rowsL : List (List Int) → List UInt8
  | [] => []
  | l :: r => listL l ++ 47 :: rowsL r
theorem rowsL_inj : ∀ {a b : List (List Int)}, rowsL a = rowsL b → a = b
  | [], [], _ => rfl
  | [], l :: r, h => by simp [rowsL] at h
  | l :: r, [], h => by simp [rowsL] at h
  | l :: r, m :: q, h => by
    obtain ⟨h1, h2⟩ := cut_eq (listL_47 l) (listL_47 m) h
    rw [listL_inj h1, rowsL_inj h2]
theorem rowsL_app : ∀ (a b : List (List Int)), rowsL (a ++ b) = rowsL a ++ rowsL b
  | [], _ => rfl
  | l :: r, b => by simp [rowsL, rowsL_app r b]
def codeL (s : Fs) : List UInt8 := itoa s.d.toNat ++ 59 :: (listL s.f ++ 59 :: rowsL s.l)
theorem codeL_inj {s t : Fs} (h : codeL s = codeL t) : s = t := by
  obtain ⟨h1, h2⟩ := cut_eq (fun x hx => figC_59 (itoa_figC _ x hx)) (fun x hx => figC_59 (itoa_figC _ x hx)) h
  obtain ⟨h3, h4⟩ := cut_eq (listL_59 _) (listL_59 _) h2
  have e1 := itoa_inj h1
  have e2 := listL_inj h3
  have e3 := rowsL_inj h4
  cases s; cases t
  simp only at e1 e2 e3
  have : (BitVec.toNat _ : Nat) = BitVec.toNat _ := Int.ofNat_inj.1 e1
  rw [BitVec.eq_of_toNat_eq this, e2, e3]
theorem listB_list : ∀ l : List Int, (listB l).data.toList = listL l := by
  intro l
  show (Go.Lib.join _ _).toArray.toList = _
  rw [List.toList_toArray, List.map_map]
  have e : (fun x : ByteArray => x.data.toList) ∘ figB = itoa := by funext n; rfl
  rw [e]
  show Go.Lib.join (l.map itoa) [44] = _
  induction l with
  | nil => rfl
  | cons n r ih =>
    cases r with
    | nil => exact Go.Lib.join_one _ _
    | cons m r =>
      rw [List.map_cons, Go.Lib.join_cons, List.map_cons]
      rw [List.map_cons, Go.Lib.join_cons] at ih
      show itoa n ++ Go.Lib.joinTail [44] (itoa m :: r.map itoa) = itoa n ++ 44 :: listL (m :: r)
      rw [← ih]
      simp [Go.Lib.joinTail]
theorem app_list (a b : ByteArray) : (a ++ b).data.toList = a.data.toList ++ b.data.toList := by
  rw [ByteArray.data_append, Array.toList_append]
theorem codeTo_list (s : Fs) : ∀ i, i ≤ s.l.length → (codeTo s i).data.toList = itoa s.d.toNat ++ 59 :: (listL s.f ++ 59 :: rowsL (s.l.take i))
  | 0, _ => by
    simp only [codeTo, app_list, listB_list, List.take_zero, rowsL]
    simp [figB, semi]
  | i + 1, h => by
    rw [← take_gd (by omega), rowsL_app]
    simp only [codeTo, app_list, listB_list, codeTo_list s i (by omega), rowsL]
    simp [slash]
theorem codeB_list (s : Fs) : (codeB s).data.toList = codeL s := by
  have := codeTo_list s s.l.length (Nat.le_refl _)
  rw [List.take_length] at this
  exact this
theorem codeB_inj {s t : Fs} (h : codeB s = codeB t) : s = t := codeL_inj (by rw [← codeB_list, ← codeB_list, h])
theorem eqB_code {s t : Fs} : eqB (codeB s) (codeB t) = sameF s t := by
  rw [Bool.eq_iff_iff, eqB_iff, sameF_iff]
  exact ⟨codeB_inj, fun h => by rw [h]⟩

theorem bl_irr : ∀ l : List UInt8, Op.bytesLess l l = false
  | [] => rfl
  | a :: r => by
    show (decide (a < a) || (a == a && Op.bytesLess r r)) = false
    rw [bl_irr r]; simp
theorem bl_trans : ∀ {x y z : List UInt8}, Op.bytesLess x y = true → Op.bytesLess y z = true → Op.bytesLess x z = true
  | x, [], z, h, _ => by cases x <;> cases h
  | x, y :: r, [], _, h => by cases h
  | [], y :: r, c :: z, _, _ => rfl
  | a :: x, b :: y, c :: z, h, k => by
    simp only [Op.bytesLess, Bool.or_eq_true, decide_eq_true_eq, Bool.and_eq_true, beq_iff_eq] at h k ⊢
    rcases h with h | ⟨rfl, h⟩
    · rcases k with k | ⟨rfl, k⟩
      · exact .inl (UInt8.lt_trans h k)
      · exact .inl h
    · rcases k with k | ⟨rfl, k⟩
      · exact .inl k
      · exact .inr ⟨rfl, bl_trans h k⟩
theorem bl_tri : ∀ (x y : List UInt8), Op.bytesLess x y = true ∨ x = y ∨ Op.bytesLess y x = true
  | [], [] => .inr (.inl rfl)
  | [], _ :: _ => .inl rfl
  | _ :: _, [] => .inr (.inr rfl)
  | a :: x, b :: y => by
    simp only [Op.bytesLess, Bool.or_eq_true, decide_eq_true_eq, Bool.and_eq_true, beq_iff_eq]
    rcases Nat.lt_trichotomy a.toNat b.toNat with h | h | h
    · exact .inl (.inl (UInt8.lt_iff_toNat_lt.2 h))
    · have : a = b := UInt8.toNat_inj.1 h
      subst this
      rcases bl_tri x y with h | rfl | h
      · exact .inl (.inr ⟨rfl, h⟩)
      · exact .inr (.inl rfl)
      · exact .inr (.inr (.inr ⟨rfl, h⟩))
    · exact .inr (.inr (.inl (UInt8.lt_iff_toNat_lt.2 h)))
theorem ltB_irr (x : ByteArray) : ltB x x = false := bl_irr _
theorem ltB_trans {x y z : ByteArray} (h : ltB x y = true) (k : ltB y z = true) : ltB x z = true := bl_trans h k
theorem ltB_tri (x y : ByteArray) : ltB x y = true ∨ x = y ∨ ltB y x = true := by
  rcases bl_tri x.toList y.toList with h | h | h
  · exact .inl h
  · exact .inr (.inl (eqB_iff.1 (by unfold eqB; rw [h]; simp)))
  · exact .inr (.inr h)
theorem ltB_asym {x y : ByteArray} (h : ltB x y = true) : ltB y x = false := by
  cases k : ltB y x with
  | false => rfl
  | true => have := ltB_trans h k; rw [ltB_irr] at this; cases this
theorem less_iff {a b : Fs} : lessB a b = true ↔ popC a.d < popC b.d ∨ popC a.d = popC b.d ∧ ltB (codeB a) (codeB b) = true := by
  unfold lessB
  rw [decide_eq_true_eq, orL_2]
  rcases Nat.lt_trichotomy (popC a.d) (popC b.d) with h | h | h
  · have e : cmpI (popC a.d) (popC b.d) = -1 := if_pos (by omega)
    rw [e, if_neg (by decide)]
    exact ⟨fun _ => .inl h, fun _ => by decide⟩
  · have e : cmpI (popC a.d) (popC b.d) = 0 := by unfold cmpI; rw [if_neg (by omega), if_neg (by omega)]
    rw [e, if_pos rfl]
    unfold cmpS
    cases hl : ltB (codeB a) (codeB b)
    · cases eqB (codeB a) (codeB b) <;> simp [h]
    · simp [h]
  · have e : cmpI (popC a.d) (popC b.d) = 1 := by unfold cmpI; rw [if_neg (by omega), if_pos (by omega)]
    rw [e, if_neg (by decide)]
    exact ⟨fun h => absurd h (by decide), fun h => by omega⟩
theorem less_irr (a : Fs) : lessB a a = false := by
  rw [← Bool.not_eq_true, less_iff]
  rintro (h | ⟨_, h⟩)
  · omega
  · rw [ltB_irr] at h; cases h
theorem less_trans {a b c : Fs} (h : lessB a b = true) (k : lessB b c = true) : lessB a c = true := by
  rw [less_iff] at *
  rcases h with h | ⟨h1, h2⟩ <;> rcases k with k | ⟨k1, k2⟩
  · exact .inl (by omega)
  · exact .inl (by omega)
  · exact .inl (by omega)
  · exact .inr ⟨by omega, ltB_trans h2 k2⟩
theorem less_tri (a b : Fs) : lessB a b = true ∨ a = b ∨ lessB b a = true := by
  simp only [less_iff]
  rcases Nat.lt_trichotomy (popC a.d) (popC b.d) with h | h | h
  · exact .inl (.inl h)
  · rcases ltB_tri (codeB a) (codeB b) with k | k | k
    · exact .inl (.inr ⟨h, k⟩)
    · exact .inr (.inl (codeB_inj k))
    · exact .inr (.inr (.inr ⟨h.symm, k⟩))
  · exact .inr (.inr (.inl h))
theorem less_asym {a b : Fs} (h : lessB a b = true) : lessB b a = false := by
  cases k : lessB b a with
  | false => rfl
  | true => have := less_trans h k; rw [less_irr] at this; cases this
end Go.Sim
