/- A part of the proof of a law of module cupola: PureI. It has no conditions of its own. -/
import Derived.Test.YtocehjbdnhmkfaaGreatWayA
set_option linter.all false
/-! What the law LocalIs wants. -/
namespace Go.Sim
open Enc (enc)
open Go.Proofs
variable {n : Int} {x : Ex} {f : List Int} {co : Rl}

/-- What is to be ahead, of what the first ones read. -/
def wantTo (x : Ex) (f : List Int) : Nat → Rl
  | 0 => aheadZ x
  | r + 1 => if gd f r < 0 ∨ (gd x.ev (gd f r).toNat).thread ≠ (gd x.ev r).thread then wantTo x f r else
    if shutB x (r : Int) (gd f r) = true then putR (orR (wantTo x f r) (crossR x.ev.length (needsM x (gd f r)) (1#32 <<< r))) (gd f r) r
    else orR (wantTo x f r) (crossR x.ev.length (needsM x (gd f r)) (1#32 <<< r))
@[go_sem] theorem wantTo_len (x : Ex) (f : List Int) : ∀ m, (wantTo x f m).length = x.ev.length
  | 0 => aheadZ_len x
  | r + 1 => by
    rw [wantTo]
    split
    · exact wantTo_len x f r
    · split
      · rw [putR_len, orR_len]; exact wantTo_len x f r
      · rw [orR_len]; exact wantTo_len x f r
/-- The two things more. -/
def MoreP (x : Ex) (f : List Int) (i k : Nat) : Prop := ∃ w : Nat, gd f k = (w : Int) ∧ k < x.ev.length ∧ Th x w k ∧ ((has x.addr i w = true ∨ has x.data i w = true) ∨ (i = w ∧ acqG (gd x.ev k) = true ∧ ∃ m, has x.rmw m w = true))
theorem orsTo_has {l : List (Int × Int)} (hl : ∀ q ∈ l, 0 ≤ q.1 ∧ q.1 < 32) {i : Nat} : ∀ {k : Nat}, k ≤ l.length → ∀ j, j < k → (gd l j).1 = (i : Int) → (orsTo l k).getLsbD i = true
  | 0, _, j, hj, _ => by omega
  | k + 1, hk, j, hj, e => by
    rw [orsTo, BitVec.getLsbD_or, Bool.or_eq_true]
    by_cases h : j = k
    · subst h
      right
      have := hl _ (gd_mem (show j < l.length by omega))
      rw [e, Int.toNat_natCast, one_get (by omega)]; simp
    · exact .inl (orsTo_has hl (by omega) j (by omega) e)
theorem needs_bit (W : WfE n x) {w i : Nat} (hw : w < x.ev.length) : (needsM x (w : Int)).getLsbD i = true ↔ has x.addr i w = true ∨ has x.data i w = true := by
  have hn := W.n32; have l3 := W.laddr; have l4 := W.ldata
  unfold needsM
  rw [if_neg (by omega), Int.toNat_natCast]
  have ok : ∀ q ∈ needL x w, ∃ a b : Nat, q = ((a : Int), (b : Int)) ∧ a < x.ev.length ∧ b < x.ev.length := prs_ok (by simp only [go_sem]; omega)
  have hin : ∀ a b : Nat, ((a : Int), (b : Int)) ∈ needL x w ↔ b = w ∧ (has x.addr a b = true ∨ has x.data a b = true) := fun a b => by
    unfold needL
    rw [mem_pairsR]
    constructor
    · rintro ⟨a', b', e, h⟩
      simp only [Prod.mk.injEq, Int.natCast_inj] at e
      obtain ⟨rfl, rfl⟩ := e
      rw [h_only (by simp only [go_sem]; omega), Bool.and_eq_true, Bool.and_eq_true, h_or (by omega) (by omega), Bool.or_eq_true] at h
      have hb : b < x.ev.length := by
        rcases h.1 with h | h
        · have := has_lt h; omega
        · have := has_lt h; omega
      rw [one_get (by omega)] at h
      exact ⟨by simpa using h.2.2, h.1⟩
    · rintro ⟨rfl, h⟩
      refine ⟨a, b, rfl, ?_⟩
      rw [h_only (by simp only [go_sem]; omega), Bool.and_eq_true, Bool.and_eq_true, h_or (by omega) (by omega), Bool.or_eq_true]
      have ha : a < x.ev.length := by
        rcases h with h | h
        · have := has_lt h; omega
        · have := has_lt h; omega
      exact ⟨h, ones_get (by omega), by rw [one_get (by omega)]; simp⟩
  constructor
  · intro h
    obtain ⟨q, hq, hqj⟩ := orsTo_bit (fun q hq => by obtain ⟨a, b, rfl, ha, _⟩ := ok q hq; simp only; omega) (Nat.le_refl _) h
    obtain ⟨a, b, rfl, _, _⟩ := ok q hq
    simp only at hqj
    obtain rfl : a = i := by omega
    obtain ⟨rfl, h2⟩ := (hin _ _).1 hq
    exact h2
  · intro h
    have hq := (hin i w).2 ⟨rfl, h⟩
    have hi : i < x.ev.length := by
      rcases h with h | h
      · have := has_lt h; omega
      · have := has_lt h; omega
    obtain ⟨j, hj, e⟩ := List.mem_iff_getElem.1 hq
    rw [gd_get hj] at e
    exact orsTo_has (fun q hq => by obtain ⟨a, b, rfl, ha, _⟩ := ok q hq; simp only; omega) (Nat.le_refl _) j hj (by rw [e])
theorem shut_iff (W : WfE n x) {w k : Nat} (hw : w < x.ev.length) (hk : k < x.ev.length) : shutB x (k : Int) (w : Int) = true ↔ acqG (gd x.ev k) = true ∧ ∃ m, has x.rmw m w = true := by
  have hn := W.n32; have l3 := W.lrmw
  unfold shutB
  rw [if_neg (by omega), Int.toNat_natCast, Int.toNat_natCast, Bool.and_eq_true, h_mask hn hk, decide_eq_true_eq]
  refine and_congr_right fun _ => ?_
  constructor
  · intro h
    obtain ⟨p, hp⟩ := List.exists_mem_of_length_pos h
    obtain ⟨a, b, rfl, hab⟩ := mem_pairsR.1 hp
    rw [h_only (by omega), Bool.and_eq_true, Bool.and_eq_true] at hab
    have hl := has_lt hab.1
    rw [one_get (by omega)] at hab
    have : b = w := by simpa using hab.2.2
    subst this
    exact ⟨a, hab.1⟩
  · rintro ⟨m, hm⟩
    have hl := has_lt hm
    refine List.length_pos_of_mem (a := ((m : Int), (w : Int))) (mem_pairsR.2 ⟨m, w, rfl, ?_⟩)
    rw [h_only (by omega), Bool.and_eq_true, Bool.and_eq_true, one_get (by omega)]
    exact ⟨hm, ones_get (by omega), by simp⟩
theorem h_cross {m : Nat} (hm : m ≤ 32) {s t : U32} {i k : Nat} : has (crossR m s t) i k = true ↔ i < m ∧ k < m ∧ s.getLsbD i = true ∧ t.getLsbD k = true := by
  rw [crossR, has_mk hm]; simp
theorem h_want (W : WfE n x) (K : WayOk x f co) {i k : Nat} : ∀ {m : Nat}, m ≤ x.ev.length → (has (wantTo x f m) i k = true ↔ has (aheadZ x) i k = true ∨ (k < m ∧ MoreP x f i k))
  | 0, _ => by rw [wantTo]; simp
  | m + 1, hm => by
    have hn := W.n32
    have l1 := W.laddr; have l2 := W.ldata
    have ih := h_want W K (i := i) (k := k) (m := m) (by omega)
    have le := wantTo_len x f m
    rw [wantTo]
    split
    · rename_i hc
      rw [ih]
      refine or_congr_right ⟨fun h => ⟨by omega, h.2⟩, fun h => ⟨?_, h.2⟩⟩
      have h1 := h.1
      obtain ⟨w, e, _, ht, _⟩ := h.2
      by_cases hk : k = m
      · subst hk
        rw [e, Int.toNat_natCast] at hc
        rcases hc with hc | hc
        · omega
        · exact absurd ht hc
      · omega
    · rename_i hc
      obtain ⟨w, e⟩ := Int.eq_ofNat_of_zero_le (a := gd f m) (by omega)
      have hw : w < x.ev.length := by
        rcases K.src m (by omega) with ⟨_, e2⟩ | ⟨_, e2 | ⟨w', e2, h, _⟩⟩
        · omega
        · omega
        · omega
      rw [e, Int.toNat_natCast] at hc
      have ht : Th x w m := by
        rcases Classical.em ((gd x.ev w).thread = (gd x.ev m).thread) with h | h
        · exact h
        · exact absurd (.inr h) hc
      have hcr : has (crossR x.ev.length (needsM x (gd f m)) (1#32 <<< m)) i k = true ↔ k = m ∧ (has x.addr i w = true ∨ has x.data i w = true) := by
        rw [h_cross hn, e, needs_bit W hw]
        constructor
        · rintro ⟨_, _, h3, h4⟩
          rw [one_get (by omega)] at h4
          exact ⟨by simpa using h4, h3⟩
        · rintro ⟨rfl, h3⟩
          refine ⟨?_, by omega, h3, by rw [one_get (by omega)]; simp⟩
          rcases h3 with h3 | h3
          · have := has_lt h3; omega
          · have := has_lt h3; omega
      have more : ∀ k, k = m → (MoreP x f i k ↔ (has x.addr i w = true ∨ has x.data i w = true) ∨ (i = w ∧ shutB x (m : Int) (gd f m) = true)) := by
        rintro k rfl
        rw [e, shut_iff W hw (by omega)]
        constructor
        · rintro ⟨w', e', _, _, h⟩
          obtain rfl : w' = w := by omega
          exact h
        · intro h; exact ⟨w, e, by omega, ht, h⟩
      have lt1 : ∀ P : Prop, (k < m + 1 ∧ P) ↔ ((k < m ∧ P) ∨ (k = m ∧ P)) := fun P => by
        constructor
        · rintro ⟨h1, h2⟩
          by_cases h : k = m
          · exact .inr ⟨h, h2⟩
          · exact .inl ⟨by omega, h2⟩
        · rintro (⟨h1, h2⟩ | ⟨h1, h2⟩)
          · exact ⟨by omega, h2⟩
          · exact ⟨by omega, h2⟩
      rw [lt1]
      split
      · rename_i hs
        rw [h_put (by rw [orR_len]; omega), h_or (by omega) (by rw [crossR_len]; omega), Bool.or_eq_true, ih, hcr, orR_len, le]
        constructor
        · rintro (((h | h) | ⟨h1, h2⟩) | ⟨h1, h2, h3, h4⟩)
          · exact .inl h
          · exact .inr (.inl h)
          · exact .inr (.inr ⟨h1, (more k h1).2 (.inl h2)⟩)
          · exact .inr (.inr ⟨by omega, (more k (by omega)).2 (.inr ⟨by omega, hs⟩)⟩)
        · rintro (h | h | ⟨h1, h2⟩)
          · exact .inl (.inl (.inl h))
          · exact .inl (.inl (.inr h))
          · rcases (more k h1).1 h2 with h3 | ⟨h3, _⟩
            · exact .inl (.inr ⟨h1, h3⟩)
            · exact .inr ⟨by omega, by omega, by omega, by omega⟩
      · rename_i hs
        rw [h_or (by omega) (by rw [crossR_len]; omega), Bool.or_eq_true, ih, hcr]
        constructor
        · rintro ((h | h) | ⟨h1, h2⟩)
          · exact .inl h
          · exact .inr (.inl h)
          · exact .inr (.inr ⟨h1, (more k h1).2 (.inl h2)⟩)
        · rintro (h | h | ⟨h1, h2⟩)
          · exact .inl (.inl h)
          · exact .inl (.inr h)
          · rcases (more k h1).1 h2 with h3 | ⟨_, h3⟩
            · exact .inr ⟨h1, h3⟩
            · exact absurd h3 hs
theorem h_aheadB (W : WfE n x) {a r : Rl} (ha : a.length = x.ev.length) (hr : r.length = x.ev.length) {i k : Nat} : has (aheadB x a r) i k = true ↔ has a i k = true ∨ ((∃ j, has r i j = true ∧ has (lateR x) j k = true) ∧ Mem x i ∧ Mem x k) := by
  have hn := W.n32; have lp := W.lpo
  unfold aheadB
  rw [h_or (by omega) (by simp only [go_sem]; omega), Bool.or_eq_true, h_mem hn (by simp only [go_sem]; omega), h_seq (by omega) (by simp only [go_sem]; omega)]
theorem h_aheadZ (W : WfE n x) {i k : Nat} : has (aheadZ x) i k = true ↔ (StatP x i k ∨ has x.rmw i k = true ∨ FenP x i k ∨ OrdP x i k ∨ ∃ j, (has x.ctrl i j = true ∨ has x.data i j = true ∨ (has x.po i j = true ∧ relG (gd x.ev j) = true)) ∧ has (lateR x) j k = true) ∧ Mem x i ∧ Mem x k := by
  have hn := W.n32; have l2 := W.lpo; have l3 := W.lctrl; have l4 := W.ldata; have l5 := W.lrmw
  have z0 : (ahead0 x).length = x.ev.length := by simp only [ahead0, go_sem]
  have zB : ∀ a r : Rl, (aheadB x a r).length = a.length := fun a r => by simp only [aheadB, go_sem]
  have hrel : ∀ i j, has (onlyR x.po onesB (maskB x.ev relG)) i j = true ↔ (has x.po i j = true ∧ relG (gd x.ev j) = true) := fun i j => by
    rw [h_only (by omega), Bool.and_eq_true, Bool.and_eq_true]
    constructor
    · rintro ⟨h1, _, h2⟩
      have := has_lt h1
      rw [h_mask hn (by omega)] at h2
      exact ⟨h1, h2⟩
    · rintro ⟨h1, h2⟩
      have := has_lt h1
      rw [h_mask hn (by omega)]
      exact ⟨h1, ones_get (by omega), h2⟩
  unfold aheadZ
  rw [h_aheadB W (by rw [zB, zB, z0]) (by simp only [go_sem]; omega), h_aheadB W (by rw [zB, z0]) l4, h_aheadB W z0 l3]
  simp only [hrel]
  unfold ahead0
  rw [h_or (by simp only [go_sem]; omega) (by simp only [go_sem]), h_or (by simp only [go_sem]; omega) (by simp only [go_sem]; omega), h_or (by simp only [go_sem]; omega) (by simp only [go_sem])]
  simp only [Bool.or_eq_true]
  rw [h_static W, h_mem hn (by omega), h_fences W, h_orders W]
  constructor
  · rintro ((((((h | h) | (h | h)) | ⟨⟨j, h1, h2⟩, h⟩) | ⟨⟨j, h1, h2⟩, h⟩) | ⟨⟨j, h1, h2⟩, h⟩))
    · exact ⟨.inl h.1, h.2⟩
    · exact ⟨.inr (.inl h.1), h.2⟩
    · exact ⟨.inr (.inr (.inl h.1)), h.2⟩
    · exact ⟨.inr (.inr (.inr (.inl h.1))), h.2⟩
    · exact ⟨.inr (.inr (.inr (.inr ⟨j, .inl h1, h2⟩))), h⟩
    · exact ⟨.inr (.inr (.inr (.inr ⟨j, .inr (.inl h1), h2⟩))), h⟩
    · exact ⟨.inr (.inr (.inr (.inr ⟨j, .inr (.inr h1), h2⟩))), h⟩
  · rintro ⟨h | h | h | h | ⟨j, h1 | h1 | h1, h2⟩, hm⟩
    · exact .inl (.inl (.inl (.inl (.inl ⟨h, hm⟩))))
    · exact .inl (.inl (.inl (.inl (.inr ⟨h, hm⟩))))
    · exact .inl (.inl (.inl (.inr (.inl ⟨h, hm⟩))))
    · exact .inl (.inl (.inl (.inr (.inr ⟨h, hm⟩))))
    · exact .inl (.inl (.inr ⟨⟨j, h1, h2⟩, hm⟩))
    · exact .inl (.inr ⟨⟨j, h1, h2⟩, hm⟩)
    · exact .inr ⟨⟨j, h1, h2⟩, hm⟩
/-- Where Internal is true the order of writes within a thread is what is late. -/
theorem late_coi (W : WfE n x) (K : WayOk x f co) (hI : internalB x f co = true) {j k : Nat} : has (lateR x) j k = true ↔ has co j k = true ∧ Th x j k := by
  have hn := W.n32
  rw [late_iff W]
  constructor
  · rintro ⟨h1, h2, h3, h4, h5, h6⟩
    refine ⟨?_, h3⟩
    rcases K.tot j k (by omega) h2 h4 h5 h6 (by omega) with h | h
    · exact h
    · exact (int_no W K hI ((h_com hn K).2 (.inr (.inl h))) ((W.po _ _).2 ⟨h1, h2, h3⟩)).elim
  · rintro ⟨h1, h2⟩
    have s := K.sub _ _ h1
    have hp := (W.po _ _).1 (int_po W K hI ((h_com hn K).2 (.inr (.inl h1))) h2)
    exact ⟨hp.1, hp.2.1, h2, s.1, s.2.1, s.2.2.1⟩
theorem is_pure (W : WfE n x) (K : WayOk x f co) (hI : internalB x f co = true) : sameR (orR (dobR x f co) (orR (aobR x f) (bobR x co))) (wantTo x f x.ev.length) = true := by
  have hn := W.n32
  rw [sameR_iff]
  refine ⟨by simp only [go_sem], fun i k => ?_⟩
  rw [Bool.eq_iff_iff, h_or (by simp only [go_sem]; omega) (by simp only [go_sem]), h_or (by simp only [go_sem]; omega) (by simp only [go_sem]), Bool.or_eq_true, Bool.or_eq_true, h_dob W K, h_aob W K, h_bob W K, h_want W K (Nat.le_refl _), h_aheadZ W]
  simp only [late_coi W K hI]
  constructor
  · rintro (⟨h | ⟨j, h1, h2, h3⟩ | ⟨j, h1, h2, h3⟩, m1, m2⟩ | ⟨h | ⟨h1, h2, h3, h4⟩, m1, m2⟩ | ⟨h | h | ⟨j, h1, h2, h3, h4⟩, m1, m2⟩)
    · exact .inl ⟨.inl h, m1, m2⟩
    · refine .inl ⟨.inr (.inr (.inr (.inr ⟨j, ?_, h2, h3⟩))), m1, m2⟩
      rcases h1 with h1 | h1
      · exact .inl h1
      · exact .inr (.inl h1)
    · obtain ⟨_, hk, e⟩ := (h_rf hn K).1 h2
      exact .inr ⟨hk, j, e, hk, h3, .inl h1⟩
    · exact .inl ⟨.inr (.inl h), m1, m2⟩
    · obtain ⟨_, hk, e⟩ := (h_rf hn K).1 h1
      exact .inr ⟨hk, i, e, hk, h2, .inr ⟨rfl, h4, h3⟩⟩
    · exact .inl ⟨.inr (.inr (.inl h)), m1, m2⟩
    · exact .inl ⟨.inr (.inr (.inr (.inl h))), m1, m2⟩
    · exact .inl ⟨.inr (.inr (.inr (.inr ⟨j, .inr (.inr ⟨h1, h2⟩), h3, h4⟩))), m1, m2⟩
  · rintro (⟨h | h | h | h | ⟨j, h1, h2, h3⟩, m1, m2⟩ | ⟨hk, w, e, _, ht, h⟩)
    · exact .inl ⟨.inl h, m1, m2⟩
    · exact .inr (.inl ⟨.inl h, m1, m2⟩)
    · exact .inr (.inr ⟨.inl h, m1, m2⟩)
    · exact .inr (.inr ⟨.inr (.inl h), m1, m2⟩)
    · rcases h1 with h1 | h1 | ⟨h1, h4⟩
      · exact .inl ⟨.inr (.inl ⟨j, .inl h1, h2, h3⟩), m1, m2⟩
      · exact .inl ⟨.inr (.inl ⟨j, .inr h1, h2, h3⟩), m1, m2⟩
      · exact .inr (.inr ⟨.inr (.inr ⟨j, h1, h4, h2, h3⟩), m1, m2⟩)
    · rcases K.src k hk with ⟨_, e2⟩ | ⟨kk, e2 | ⟨w', e2, hw, kw, lw⟩⟩
      · omega
      · omega
      · obtain rfl : w' = w := by omega
        have hrf : has (rfR x.ev.length f) w' k = true := (h_rf hn K).2 ⟨hw, hk, e⟩
        have mk : Mem x k := by simp [Mem, kk]
        rcases h with h | ⟨rfl, h1, h2⟩
        · refine .inl ⟨.inr (.inr ⟨w', h, hrf, ht⟩), ?_, mk⟩
          rcases h with h | h
          · simp [Mem, (W.addr _ _ h).2.1]
          · simp [Mem, (W.data _ _ h).2.1]
        · exact .inr (.inl ⟨.inr ⟨hrf, ht, h2, h1⟩, by simp [Mem, kw], mk⟩)
end Go.Sim
