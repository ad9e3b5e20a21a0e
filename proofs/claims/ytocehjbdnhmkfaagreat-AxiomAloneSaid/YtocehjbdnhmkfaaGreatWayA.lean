/- A part of the proof of a law of module cupola: WayA, PureL, PureM. It has no conditions of its own. -/
import Derived.Test.YtocehjbdnhmkfaaGreatWay
set_option linter.all false
/-! What the relations of a way say. -/
namespace Go.Sim
open Enc (enc)
open Go.Proofs
variable {n : Int} {x : Ex} {f : List Int} {co : Rl}

theorem acy_iff {r : Rl} : acyR r = true ↔ ∀ i, ¬ Way r i i := by
  unfold acyR
  rw [List.all_eq_true]
  constructor
  · intro h i w
    have := h i (List.mem_range.2 (way_lt w).1)
    rw [Bool.not_eq_true', wayB_iff.2 w] at this
    cases this
  · intro h i _
    rw [Bool.not_eq_true']
    cases hw : wayB r i i with
    | false => rfl
    | true => exact absurd (wayB_iff.1 hw) (h i)
theorem way_mono {a b : Rl} (h : ∀ i k, has a i k = true → Way b i k) {i k : Nat} (w : Way a i k) : Way b i k := by
  induction w with
  | single h1 => exact h _ _ h1
  | tail _ h2 ih => exact ih.trans (h _ _ h2)
theorem acy_mono {a b : Rl} (h : ∀ i k, has a i k = true → Way b i k) (hb : acyR b = true) : acyR a = true :=
  acy_iff.2 fun i w => acy_iff.1 hb i (way_mono h w)
theorem h_rf (hn : x.ev.length ≤ 32) (K : WayOk x f co) {i k : Nat} : has (rfR x.ev.length f) i k = true ↔ i < x.ev.length ∧ k < x.ev.length ∧ gd f k = (i : Int) := by
  have := K.fl
  rw [rfR, has_mk hn]
  simp only [Bool.and_eq_true, decide_eq_true_eq]
  exact ⟨fun h => ⟨h.1, h.2.1, h.2.2.2⟩, fun h => ⟨h.1, h.2.1, by omega, h.2.2⟩⟩
theorem rf_ok (hn : x.ev.length ≤ 32) (K : WayOk x f co) {i k : Nat} (h : has (rfR x.ev.length f) i k = true) : i < x.ev.length ∧ k < x.ev.length ∧ gd f k = (i : Int) ∧ (gd x.ev i).kind = 2 ∧ (gd x.ev k).kind = 1 ∧ (gd x.ev i).loc = (gd x.ev k).loc := by
  obtain ⟨h1, h2, h3⟩ := (h_rf hn K).1 h
  rcases K.src k h2 with ⟨_, e⟩ | ⟨e, e2 | ⟨w, e2, e3, e4, e5⟩⟩
  · omega
  · omega
  · obtain rfl : w = i := by omega
    exact ⟨h1, h2, h3, e4, e, e5⟩
theorem h_fr (hn : x.ev.length ≤ 32) (K : WayOk x f co) {r k : Nat} : has (frR x.ev f co) r k = true ↔ r < x.ev.length ∧ k < x.ev.length ∧ (gd x.ev r).kind = 1 ∧ (gd x.ev k).kind = 2 ∧ (gd x.ev k).loc = (gd x.ev r).loc ∧ (gd f r = -1 ∨ ∃ w : Nat, gd f r = (w : Int) ∧ has co w k = true) := by
  rw [frR, has_mk hn]
  simp only [Bool.and_eq_true, decide_eq_true_eq, frP]
  constructor
  · rintro ⟨h1, h2, h3, h4, h5⟩
    unfold behindB at h5
    split at h5
    · rename_i hw
      rw [maskB_get (by omega)] at h5
      simp only [Bool.and_eq_true, decide_eq_true_eq] at h5
      rcases K.src r h1 with ⟨_, e⟩ | ⟨e, _⟩
      · omega
      · exact ⟨h1, h2, e, h5.2.1, h5.2.2, .inl hw⟩
    · rename_i hw
      split at h5
      · rename_i hw2
        rw [behindTo_get (by omega)] at h5
        simp only [Bool.and_eq_true, decide_eq_true_eq] at h5
        have s := K.sub _ _ h5.2
        rcases K.src r h1 with ⟨_, e⟩ | ⟨e, e2 | ⟨w, e2, e3, e4, e5⟩⟩
        · omega
        · omega
        · have : (gd f r).toNat = w := by omega
          rw [this] at h5 s
          exact ⟨h1, h2, e, s.2.1, by rw [← s.2.2.1]; exact e5, .inr ⟨w, e2, h5.2⟩⟩
      · simp at h5
  · rintro ⟨h1, h2, h3, h4, h5, h6⟩
    refine ⟨h1, h2, by rw [K.fl]; exact h1, fun e => by subst e; omega, ?_⟩
    unfold behindB
    rcases h6 with h6 | ⟨w, h6, h7⟩
    · rw [if_pos h6, maskB_get (by omega)]; simp [h2, h4, h5]
    · have s := K.sub _ _ h7
      have hl := has_lt h7
      have hc := K.cl
      rw [if_neg (by omega), if_pos ⟨by omega, by omega, by rw [h6, Int.toNat_natCast]; exact s.1⟩, behindTo_get (by omega), h6, Int.toNat_natCast]
      simp [h2, h7]
theorem h_com (hn : x.ev.length ≤ 32) (K : WayOk x f co) {i k : Nat} : has (comR x.ev f co) i k = true ↔ has (rfR x.ev.length f) i k = true ∨ has co i k = true ∨ has (frR x.ev f co) i k = true := by
  rw [comR, h_union hn (by
    intro r hr
    simp only [List.mem_cons, List.not_mem_nil, or_false] at hr
    rcases hr with rfl | rfl | rfl
    · exact rfR_len _ _
    · exact K.cl
    · exact frR_len _ _ _)]
  simp
theorem com_ok (hn : x.ev.length ≤ 32) (K : WayOk x f co) {i k : Nat} (h : has (comR x.ev f co) i k = true) : i < x.ev.length ∧ k < x.ev.length ∧ i ≠ k ∧ (gd x.ev i).kind ∈ [(1 : Int), 2] ∧ (gd x.ev k).kind ∈ [(1 : Int), 2] ∧ (gd x.ev i).loc = (gd x.ev k).loc := by
  rcases (h_com hn K).1 h with h | h | h
  · obtain ⟨h1, h2, h3, h4, h5, h6⟩ := rf_ok hn K h
    exact ⟨h1, h2, fun e => by subst e; omega, by simp [h4], by simp [h5], h6⟩
  · have s := K.sub _ _ h
    have l := has_lt h
    have hc := K.cl
    exact ⟨by omega, by omega, s.2.2.2, by simp [s.1], by simp [s.2.1], s.2.2.1⟩
  · obtain ⟨h1, h2, h3, h4, h5, _⟩ := (h_fr hn K).1 h
    exact ⟨h1, h2, fun e => by subst e; omega, by simp [h3], by simp [h4], h5.symm⟩
theorem h_poloc (W : WfE n x) {i k : Nat} : has (polocR x) i k = true ↔ has x.po i k = true ∧ (gd x.ev i).kind ∈ [(1 : Int), 2] ∧ (gd x.ev k).kind ∈ [(1 : Int), 2] ∧ (gd x.ev i).loc = (gd x.ev k).loc := by
  have := W.n; have := W.lpo
  rw [polocR, h_and (by omega), alikeR, h_pairs (by omega)]
  simp only [alikeG, memK, Bool.and_eq_true, Bool.or_eq_true, decide_eq_true_eq, List.mem_cons, List.not_mem_nil, or_false]
  constructor
  · rintro ⟨h1, h2, h3, h4, h5, h6, h7⟩; exact ⟨h1, h5, h6, h7⟩
  · rintro ⟨h1, h5, h6, h7⟩
    have := (W.po _ _).1 h1
    exact ⟨h1, by omega, by omega, by omega, h5, h6, h7⟩
theorem h_within (hn : x.ev.length ≤ 32) {r : Rl} (hr : r.length = x.ev.length) {i k : Nat} : has (withinR x.ev r) i k = true ↔ has r i k = true ∧ i ≠ k ∧ th x.ev i = th x.ev k := by
  rw [withinR, h_and (by omega), innerR, h_pairs hn]
  simp only [innerG, Bool.and_eq_true, decide_eq_true_eq]
  constructor
  · rintro ⟨h1, _, _, h4, h5⟩; exact ⟨h1, h4, h5⟩
  · rintro ⟨h1, h2, h3⟩
    have := has_lt h1
    exact ⟨h1, by omega, by omega, h2, h3⟩
theorem h_outer (hn : x.ev.length ≤ 32) {r : Rl} (hr : r.length = x.ev.length) {i k : Nat} : has (outerR x.ev r) i k = true ↔ has r i k = true ∧ th x.ev i ≠ th x.ev k := by
  rw [outerR, has_mk hn]
  simp only [Bool.and_eq_true, decide_eq_true_eq, Bool.not_eq_true', decide_eq_false_iff_not]
  constructor
  · rintro ⟨_, _, h1, h2⟩; exact ⟨h1, h2⟩
  · rintro ⟨h1, h2⟩
    have := has_lt h1
    exact ⟨by omega, by omega, h1, h2⟩
theorem h_union3 {m : Nat} (hm : m ≤ 32) {a b c : Rl} (ha : a.length = m) (hb : b.length = m) (hc : c.length = m) {i k : Nat} : has (unionR m [a, b, c]) i k = true ↔ has a i k = true ∨ has b i k = true ∨ has c i k = true := by
  rw [h_union hm (by
    intro r hr
    simp only [List.mem_cons, List.not_mem_nil, or_false] at hr
    rcases hr with rfl | rfl | rfl <;> assumption)]
  simp
theorem h_union2 {m : Nat} (hm : m ≤ 32) {a b : Rl} (ha : a.length = m) (hb : b.length = m) {i k : Nat} : has (unionR m [a, b]) i k = true ↔ has a i k = true ∨ has b i k = true := by
  rw [h_union hm (by
    intro r hr
    simp only [List.mem_cons, List.not_mem_nil, or_false] at hr
    rcases hr with rfl | rfl <;> assumption)]
  simp
abbrev Mem (x : Ex) (i : Nat) : Prop := (gd x.ev i).kind ∈ [(1 : Int), 2]
/-- In one thread, by an address, and on. -/
def AhP (x : Ex) (i k : Nat) : Prop := ∃ j, has x.addr i j = true ∧ has x.po j k = true
def IsbP (x : Ex) (i k : Nat) : Prop := ∃ j, (has x.ctrl i j = true ∨ AhP x i j) ∧ (gd x.ev j).kind = 6 ∧ has x.po j k = true
def StatP (x : Ex) (i k : Nat) : Prop := has x.addr i k = true ∨ has x.data i k = true ∨ (has x.ctrl i k = true ∧ (gd x.ev k).kind = 2) ∨ (IsbP x i k ∧ (gd x.ev k).kind = 1) ∨ (AhP x i k ∧ (gd x.ev k).kind = 2)
theorem h_ahead (W : WfE n x) {i k : Nat} : has (aheadR x) i k = true ↔ AhP x i k := by
  have := W.n; have := W.laddr; have := W.lpo
  exact h_seq (by omega) (by omega) i k
theorem h_isb (W : WfE n x) {i k : Nat} : has (isbR x) i k = true ↔ IsbP x i k := by
  have := W.n; have l1 := W.laddr; have l2 := W.lpo; have l3 := W.lctrl
  unfold isbR IsbP
  rw [h_seq (by simp only [go_sem]; omega) (by simp only [go_sem]; omega)]
  constructor
  · rintro ⟨j, h1, h2⟩
    rw [h_to (by omega) (by simp only [go_sem]; omega), h_or (by omega) (by rw [aheadR_len]; omega), Bool.or_eq_true, h_ahead W] at h1
    exact ⟨j, h1.1, h1.2, h2⟩
  · rintro ⟨j, h1, h2, h3⟩
    refine ⟨j, ?_, h3⟩
    rw [h_to (by omega) (by simp only [go_sem]; omega), h_or (by omega) (by rw [aheadR_len]; omega), Bool.or_eq_true, h_ahead W]
    exact ⟨h1, h2⟩
theorem h_static (W : WfE n x) {i k : Nat} : has (staticR x) i k = true ↔ StatP x i k ∧ Mem x i ∧ Mem x k := by
  have := W.n; have l1 := W.laddr; have l2 := W.lpo; have l3 := W.lctrl; have l4 := W.ldata
  unfold staticR
  rw [h_mem (by omega) (by simp only [go_sem]), h_union (by omega) (by
    intro r hr
    simp only [List.mem_cons, List.not_mem_nil, or_false] at hr
    rcases hr with rfl | rfl | rfl | rfl | rfl <;> (try simp only [toR_len, aheadR_len, isbR_len]) <;> omega)]
  simp only [List.mem_cons, List.not_mem_nil, or_false, exists_eq_or_imp, exists_eq_left, h_to (show x.ev.length ≤ 32 by omega) (show x.ctrl.length = x.ev.length by omega), h_to (show x.ev.length ≤ 32 by omega) (show (isbR x).length = x.ev.length by rw [isbR_len]; omega), h_to (show x.ev.length ≤ 32 by omega) (show (aheadR x).length = x.ev.length by rw [aheadR_len]; omega), h_isb W, h_ahead W]
  exact Iff.rfl
/-- Over a barrier. -/
def OverP (x : Ex) (p : Nat → Prop) (c : Int) (q : Nat → Prop) (i k : Nat) : Prop := p i ∧ q k ∧ ∃ j, has x.po i j = true ∧ (gd x.ev j).kind = c ∧ has x.po j k = true
theorem h_over (W : WfE n x) {s t : U32} {c : Int} {i k : Nat} : has (overR x s c t) i k = true ↔ OverP x (fun i => s.getLsbD i = true) c (fun k => t.getLsbD k = true) i k := by
  have := W.n; have l2 := W.lpo
  unfold overR OverP
  rw [h_seq (by simp only [go_sem]; omega) (by simp only [go_sem])]
  constructor
  · rintro ⟨j, h1, h2⟩
    rw [h_only (by omega), Bool.and_eq_true, Bool.and_eq_true] at h1 h2
    have := has_lt h2.1
    have h3 := h2.2.1
    rw [h_kind (by omega) (by omega)] at h3
    exact ⟨h1.2.1, h2.2.2, j, h1.1, by simpa using h3, h2.1⟩
  · rintro ⟨h1, h2, j, h3, h4, h5⟩
    have := has_lt h3
    have := has_lt h5
    refine ⟨j, ?_, ?_⟩
    · rw [h_only (by omega), Bool.and_eq_true, Bool.and_eq_true, h_kind (by omega) (by omega)]
      exact ⟨h3, h1, by simp [h4]⟩
    · rw [h_only (by omega), Bool.and_eq_true, Bool.and_eq_true, h_kind (by omega) (by omega)]
      exact ⟨h5, by simp [h4], h2⟩
def FenP (x : Ex) (i k : Nat) : Prop := ∃ j, has x.po i j = true ∧ has x.po j k = true ∧ ((gd x.ev j).kind = 3 ∨ ((gd x.ev j).kind = 4 ∧ (gd x.ev i).kind = 1) ∨ ((gd x.ev j).kind = 5 ∧ (gd x.ev i).kind = 2 ∧ (gd x.ev k).kind = 2))
theorem h_fences (W : WfE n x) {i k : Nat} : has (fencesR x) i k = true ↔ FenP x i k ∧ Mem x i ∧ Mem x k := by
  have := W.n; have l2 := W.lpo
  unfold fencesR
  rw [h_mem (by omega) (by simp only [go_sem]), h_union3 (by omega) (by simp only [go_sem]; omega) (by simp only [go_sem]; omega) (by simp only [go_sem]; omega), h_over W, h_over W, h_over W]
  refine and_congr_left fun _ => ?_
  unfold OverP FenP
  simp only
  constructor
  · rintro (⟨h1, h2, j, h3, h4, h5⟩ | ⟨h1, h2, j, h3, h4, h5⟩ | ⟨h1, h2, j, h3, h4, h5⟩)
    · exact ⟨j, h3, h5, .inl h4⟩
    · have := has_lt h3
      rw [h_kind (by omega) (by omega)] at h1
      exact ⟨j, h3, h5, .inr (.inl ⟨h4, by simpa using h1⟩)⟩
    · have := has_lt h3
      have := has_lt h5
      rw [h_kind (by omega) (by omega)] at h1 h2
      exact ⟨j, h3, h5, .inr (.inr ⟨h4, by simpa using h1, by simpa using h2⟩)⟩
  · rintro ⟨j, h3, h5, h | ⟨h, h1⟩ | ⟨h, h1, h2⟩⟩
    · have := has_lt h3
      have := has_lt h5
      exact .inl ⟨ones_get (by omega), ones_get (by omega), j, h3, h, h5⟩
    · have := has_lt h3
      have := has_lt h5
      refine .inr (.inl ⟨?_, ones_get (by omega), j, h3, h, h5⟩)
      rw [h_kind (by omega) (by omega)]; simp [h1]
    · have := has_lt h3
      have := has_lt h5
      refine .inr (.inr ⟨?_, ?_, j, h3, h, h5⟩)
      · rw [h_kind (by omega) (by omega)]; simp [h1]
      · rw [h_kind (by omega) (by omega)]; simp [h2]
def OrdP (x : Ex) (i k : Nat) : Prop := has x.po i k = true ∧ (acqG (gd x.ev i) = true ∨ relG (gd x.ev k) = true ∨ (relG (gd x.ev i) = true ∧ acqG (gd x.ev k) = true))
theorem h_orders (W : WfE n x) {i k : Nat} : has (ordersR x) i k = true ↔ OrdP x i k ∧ Mem x i ∧ Mem x k := by
  have := W.n; have l2 := W.lpo
  unfold ordersR
  rw [h_mem (by omega) (by simp only [go_sem]), h_union3 (by omega) (by simp only [go_sem]; omega) (by simp only [go_sem]; omega) (by simp only [go_sem]; omega), h_only (by omega), h_only (by omega), h_only (by omega)]
  refine and_congr_left fun _ => ?_
  simp only [Bool.and_eq_true]
  unfold OrdP
  constructor
  · rintro (⟨h1, h2, h3⟩ | ⟨h1, h2, h3⟩ | ⟨h1, h2, h3⟩)
    · have := has_lt h1
      rw [h_mask (by omega) (by omega)] at h2
      exact ⟨h1, .inl h2⟩
    · have := has_lt h1
      rw [h_mask (by omega) (by omega)] at h3
      exact ⟨h1, .inr (.inl h3)⟩
    · have := has_lt h1
      rw [h_mask (by omega) (by omega)] at h2 h3
      exact ⟨h1, .inr (.inr ⟨h2, h3⟩)⟩
  · rintro ⟨h1, h2⟩
    have := has_lt h1
    rw [h_mask (by omega) (by omega), h_mask (by omega) (by omega), h_mask (by omega) (by omega), h_mask (by omega) (by omega)]
    rcases h2 with h2 | h2 | h2
    · exact .inl ⟨h1, h2, ones_get (by omega)⟩
    · exact .inr (.inl ⟨h1, ones_get (by omega), h2⟩)
    · exact .inr (.inr ⟨h1, h2⟩)
/-- Within a thread. -/
abbrev Th (x : Ex) (i k : Nat) : Prop := th x.ev i = th x.ev k
theorem h_rfi (hn : x.ev.length ≤ 32) (K : WayOk x f co) {i k : Nat} : has (rfiR x.ev f) i k = true ↔ has (rfR x.ev.length f) i k = true ∧ Th x i k := by
  rw [rfiR, h_within hn (rfR_len _ _)]
  constructor
  · rintro ⟨h1, _, h2⟩; exact ⟨h1, h2⟩
  · rintro ⟨h1, h2⟩
    refine ⟨h1, fun e => ?_, h2⟩
    obtain ⟨_, _, _, e1, e2, _⟩ := rf_ok hn K h1
    subst e; omega
theorem h_coi (hn : x.ev.length ≤ 32) (K : WayOk x f co) {i k : Nat} : has (withinR x.ev co) i k = true ↔ has co i k = true ∧ Th x i k := by
  rw [h_within hn K.cl]
  constructor
  · rintro ⟨h1, _, h2⟩; exact ⟨h1, h2⟩
  · rintro ⟨h1, h2⟩; exact ⟨h1, (K.sub _ _ h1).2.2.2, h2⟩
def DobP (x : Ex) (f : List Int) (co : Rl) (i k : Nat) : Prop := StatP x i k ∨ (∃ j, (has x.ctrl i j = true ∨ has x.data i j = true) ∧ has co j k = true ∧ Th x j k) ∨ (∃ j, (has x.addr i j = true ∨ has x.data i j = true) ∧ has (rfR x.ev.length f) j k = true ∧ Th x j k)
theorem h_dob (W : WfE n x) (K : WayOk x f co) {i k : Nat} : has (dobR x f co) i k = true ↔ DobP x f co i k ∧ Mem x i ∧ Mem x k := by
  have hn := W.n; have l1 := W.laddr; have l2 := W.lpo; have l3 := W.lctrl; have l4 := W.ldata; have l5 := K.cl
  have hn : x.ev.length ≤ 32 := by omega
  unfold dobR DobP
  rw [h_mem (by omega) (by simp only [go_sem]), h_union3 (by omega) (by simp only [go_sem]) (by rw [seqR, mk_len, orR_len]; omega) (by rw [seqR, mk_len, orR_len]; omega), h_static W,
    h_seq (by simp only [go_sem]; omega) (by simp only [go_sem]; omega), h_seq (by simp only [go_sem]; omega) (by simp only [go_sem]; omega)]
  simp only [h_or (show x.ctrl.length ≤ 32 by omega) (show x.data.length = x.ctrl.length by omega), h_or (show x.addr.length ≤ 32 by omega) (show x.data.length = x.addr.length by omega), Bool.or_eq_true, h_rfi hn K, h_coi hn K]
  constructor
  · rintro ⟨h1 | h1 | h1, h2⟩
    · exact ⟨.inl h1.1, h2⟩
    · exact ⟨.inr (.inl h1), h2⟩
    · exact ⟨.inr (.inr h1), h2⟩
  · rintro ⟨h1 | h1 | h1, h2⟩
    · exact ⟨.inl ⟨h1, h2⟩, h2⟩
    · exact ⟨.inr (.inl h1), h2⟩
    · exact ⟨.inr (.inr h1), h2⟩
def AobP (x : Ex) (f : List Int) (i k : Nat) : Prop := has x.rmw i k = true ∨ (has (rfR x.ev.length f) i k = true ∧ Th x i k ∧ (∃ m, has x.rmw m i = true) ∧ acqG (gd x.ev k) = true)
theorem h_ends {r : Rl} {k : Nat} (hk : k < 32) : (endsB (pairsR r)).getLsbD k = true ↔ ∃ m, has r m k = true := by
  rw [ends_pairs hk, List.any_eq_true]
  constructor
  · rintro ⟨m, _, h⟩; exact ⟨m, h⟩
  · rintro ⟨m, h⟩; exact ⟨m, List.mem_range.2 (has_lt h).1, h⟩
theorem h_aob (W : WfE n x) (K : WayOk x f co) {i k : Nat} : has (aobR x f) i k = true ↔ AobP x f i k ∧ Mem x i ∧ Mem x k := by
  have hn := W.n; have l1 := W.lrmw
  have hn : x.ev.length ≤ 32 := by omega
  unfold aobR AobP
  rw [h_mem (by omega) (by simp only [go_sem]), h_union2 (by omega) (by omega) (by simp only [go_sem]), h_only (by simp only [go_sem]; omega), Bool.and_eq_true, Bool.and_eq_true, h_rfi hn K]
  refine and_congr_left fun _ => or_congr Iff.rfl ?_
  constructor
  · rintro ⟨⟨h1, h2⟩, h3, h4⟩
    have := has_lt h1
    rw [rfR_len] at this
    rw [h_ends (by omega)] at h3
    rw [h_mask (by omega) (by omega)] at h4
    exact ⟨h1, h2, h3, h4⟩
  · rintro ⟨h1, h2, h3, h4⟩
    have := has_lt h1
    rw [rfR_len] at this
    refine ⟨⟨h1, h2⟩, (h_ends (by omega)).2 h3, ?_⟩
    rw [h_mask (by omega) (by omega)]; exact h4
def BobP (x : Ex) (co : Rl) (i k : Nat) : Prop := FenP x i k ∨ OrdP x i k ∨ ∃ j, has x.po i j = true ∧ relG (gd x.ev j) = true ∧ has co j k = true ∧ Th x j k
theorem h_bob (W : WfE n x) (K : WayOk x f co) {i k : Nat} : has (bobR x co) i k = true ↔ BobP x co i k ∧ Mem x i ∧ Mem x k := by
  have hn := W.n; have l1 := W.lpo; have l5 := K.cl
  have hn : x.ev.length ≤ 32 := by omega
  unfold bobR BobP
  rw [h_mem (by omega) (by simp only [go_sem]), h_union3 (by omega) (by simp only [go_sem]) (by simp only [go_sem]) (by rw [seqR, mk_len, onlyR_len]; omega), h_fences W, h_orders W,
    h_seq (by simp only [go_sem]; omega) (by simp only [go_sem]; omega)]
  simp only [h_coi hn K]
  have key : ∀ j, (has (onlyR x.po onesB (maskB x.ev relG)) i j = true ∧ has co j k = true ∧ Th x j k) ↔ (has x.po i j = true ∧ relG (gd x.ev j) = true ∧ has co j k = true ∧ Th x j k) := fun j => by
    rw [h_only (by omega), Bool.and_eq_true, Bool.and_eq_true]
    constructor
    · rintro ⟨⟨h1, _, h2⟩, h3⟩
      have := has_lt h1
      rw [h_mask (by omega) (by omega)] at h2
      exact ⟨h1, h2, h3⟩
    · rintro ⟨h1, h2, h3⟩
      have := has_lt h1
      rw [h_mask (by omega) (by omega)]
      exact ⟨⟨h1, ones_get (by omega), h2⟩, h3⟩
  simp only [key]
  constructor
  · rintro ⟨h1 | h1 | h1, h2⟩
    · exact ⟨.inl h1.1, h2⟩
    · exact ⟨.inr (.inl h1.1), h2⟩
    · exact ⟨.inr (.inr h1), h2⟩
  · rintro ⟨h1 | h1 | h1, h2⟩
    · exact ⟨.inl ⟨h1, h2⟩, h2⟩
    · exact ⟨.inr (.inl ⟨h1, h2⟩), h2⟩
    · exact ⟨.inr (.inr h1), h2⟩
abbrev Com (x : Ex) (f : List Int) (co : Rl) (i k : Nat) : Prop := has (comR x.ev f co) i k = true
theorem h_ob (W : WfE n x) (K : WayOk x f co) {i k : Nat} : has (obR x f co) i k = true ↔ (Com x f co i k ∧ ¬ Th x i k) ∨ ((DobP x f co i k ∨ AobP x f i k ∨ BobP x co i k) ∧ Mem x i ∧ Mem x k) := by
  have hn := W.n
  have hn : x.ev.length ≤ 32 := by omega
  have e : (obsR x f co).length = x.ev.length := by rw [obsR, outerR_len]
  unfold obR
  rw [h_or (by simp only [orR_len, e]; omega) (by simp only [go_sem, e]), h_or (by simp only [orR_len, e]; omega) (by simp only [go_sem, e]), h_or (by rw [e]; omega) (by simp only [go_sem, e]), Bool.or_eq_true, Bool.or_eq_true, Bool.or_eq_true, h_dob W K, h_aob W K, h_bob W K, obsR, h_outer hn (comR_len _ _ _)]
  constructor
  · rintro (((h | h) | h) | h)
    · exact .inl h
    · exact .inr ⟨.inl h.1, h.2⟩
    · exact .inr ⟨.inr (.inl h.1), h.2⟩
    · exact .inr ⟨.inr (.inr h.1), h.2⟩
  · rintro (h | ⟨h | h | h, h2⟩)
    · exact .inl (.inl (.inl h))
    · exact .inl (.inl (.inr ⟨h, h2⟩))
    · exact .inl (.inr ⟨h, h2⟩)
    · exact .inr ⟨h, h2⟩
/-- From-read, or the order of writes, within a thread. -/
def InP (x : Ex) (f : List Int) (co : Rl) (i k : Nat) : Prop := (has co i k = true ∨ has (frR x.ev f co) i k = true) ∧ Th x i k
theorem h_wide (W : WfE n x) (K : WayOk x f co) {i k : Nat} : has (wideR x f co) i k = true ↔ has (obR x f co) i k = true ∨ InP x f co i k := by
  have hn := W.n; have l5 := K.cl
  have hn : x.ev.length ≤ 32 := by omega
  unfold wideR InP
  rw [h_or (by simp only [go_sem]; omega) (by simp only [go_sem]; omega), Bool.or_eq_true, h_within hn (by simp only [go_sem]; omega), h_or (by omega) (by simp only [go_sem]; omega), Bool.or_eq_true]
  refine or_congr Iff.rfl ?_
  constructor
  · rintro ⟨h1, _, h2⟩; exact ⟨h1, h2⟩
  · rintro ⟨h1, h2⟩
    refine ⟨h1, ?_, h2⟩
    rcases h1 with h1 | h1
    · exact (K.sub _ _ h1).2.2.2
    · obtain ⟨_, _, h3, h4, _⟩ := (h_fr hn K).1 h1
      intro e; subst e; omega
/-- Where Internal is true what comes by memory within a thread comes along Po. -/
theorem int_po (W : WfE n x) (K : WayOk x f co) (hI : internalB x f co = true) {i k : Nat} (h : Com x f co i k) (ht : Th x i k) : has x.po i k = true := by
  have hn := W.n
  have hn : x.ev.length ≤ 32 := by omega
  have lp := W.lpo
  obtain ⟨h1, h2, h3, h4, h5, h6⟩ := com_ok hn K h
  rw [W.po]
  rcases Nat.lt_or_gt_of_ne h3 with hl | hl
  · exact ⟨hl, h2, ht⟩
  · exfalso
    have key : ∀ a b, has (orR (polocR x) (comR x.ev f co)) a b = true ↔ has (polocR x) a b = true ∨ Com x f co a b := fun a b => by
      rw [h_or (by simp only [go_sem]; omega) (by simp only [go_sem]; omega), Bool.or_eq_true]
    refine acy_iff.1 hI i (Relation.TransGen.tail (.single ((key i k).2 (.inr h))) ((key k i).2 (.inl ?_)))
    rw [h_poloc W]
    exact ⟨(W.po _ _).2 ⟨hl, h1, ht.symm⟩, h5, h4, h6.symm⟩
/-- No way round. -/
theorem int_no (W : WfE n x) (K : WayOk x f co) (hI : internalB x f co = true) {i k : Nat} (h : Com x f co i k) (hp : has x.po k i = true) : False := by
  have h1 := int_po W K hI h ((W.po _ _).1 hp).2.2.symm
  have := (W.po _ _).1 hp
  have := (W.po _ _).1 h1
  omega
end Go.Sim

/-! What the laws of ways want. -/
namespace Go.Sim
open Enc (enc)
open Go.Proofs
variable {n : Int} {x : Ex} {f : List Int} {co : Rl}

theorem and_same {a b : Rl} (ha : a.length ≤ 32) (h : ∀ i k, has a i k = true → has b i k = true) : sameR (andR a b) a = true := by
  rw [sameR_iff]
  refine ⟨andR_len _ _, fun i k => ?_⟩
  rw [h_and ha]
  cases e : has a i k
  · rfl
  · rw [h i k e]; rfl
theorem and_same' {a b : Rl} (ha : a.length ≤ 32) (hl : a.length = b.length) (h : ∀ i k, has b i k = true → has a i k = true) : sameR (andR a b) b = true := by
  rw [sameR_iff]
  refine ⟨by rw [andR_len]; exact hl, fun i k => ?_⟩
  rw [h_and ha]
  cases e : has b i k
  · simp
  · rw [h i k e]; rfl
theorem WfE.n32 (W : WfE n x) : x.ev.length ≤ 32 := by have := W.n; omega

/-! AxiomOwn -/
theorem own_pure (W : WfE n x) (K : WayOk x f co) (hI : internalB x f co = true) :
    sameR (andR (orR (withinR x.ev co) (withinR x.ev (rfR x.ev.length f))) x.po) (orR (withinR x.ev co) (withinR x.ev (rfR x.ev.length f))) = true ∧ sameR (andR (withinR x.ev (frR x.ev f co)) x.po) (withinR x.ev (frR x.ev f co)) = true := by
  have hn := W.n32
  have hc := K.cl
  constructor
  · refine and_same (by simp only [go_sem]; omega) fun i k h => ?_
    rw [h_or (by simp only [go_sem]; omega) (by simp only [go_sem]; omega), Bool.or_eq_true, h_within hn K.cl, h_within hn (rfR_len _ _)] at h
    rcases h with h | h
    · exact int_po W K hI ((h_com hn K).2 (.inr (.inl h.1))) h.2.2
    · exact int_po W K hI ((h_com hn K).2 (.inl h.1)) h.2.2
  · refine and_same (by simp only [go_sem]; omega) fun i k h => ?_
    rw [h_within hn (frR_len _ _ _)] at h
    exact int_po W K hI ((h_com hn K).2 (.inr (.inr h.1))) h.2.2

/-! AxiomLine -/
theorem isb_po' (W : WfE n x) {i k : Nat} (h : IsbP x i k) : has x.po i k = true := isb_po W ((h_isb W).2 h)
theorem stat_po (W : WfE n x) {i k : Nat} (h : StatP x i k) : has x.po i k = true := by
  rcases h with h | h | h | h | h
  · exact (W.addr _ _ h).1
  · exact (W.data _ _ h).1
  · exact (W.ctrl _ _ h.1).1
  · exact isb_po' W h.1
  · exact ahead_po W ((h_ahead W).2 h.1)
theorem fen_po (W : WfE n x) {i k : Nat} (h : FenP x i k) : has x.po i k = true := by
  obtain ⟨j, h1, h2, _⟩ := h; exact po_trans W h1 h2
theorem ob_line (W : WfE n x) (K : WayOk x f co) {i k : Nat} (h : has (obR x f co) i k = true) : Way (orR x.po (comR x.ev f co)) i k := by
  have hn := W.n32
  have lp := W.lpo
  have key : ∀ a b, has (orR x.po (comR x.ev f co)) a b = true ↔ has x.po a b = true ∨ Com x f co a b := fun a b => by
    rw [h_or (by omega) (by simp only [go_sem]; omega), Bool.or_eq_true]
  have p1 : ∀ {a b}, has x.po a b = true → Way (orR x.po (comR x.ev f co)) a b := fun h => .single ((key _ _).2 (.inl h))
  have c1 : ∀ {a b}, has co a b = true → Way (orR x.po (comR x.ev f co)) a b := fun h => .single ((key _ _).2 (.inr ((h_com hn K).2 (.inr (.inl h)))))
  have r1 : ∀ {a b}, has (rfR x.ev.length f) a b = true → Way (orR x.po (comR x.ev f co)) a b := fun h => .single ((key _ _).2 (.inr ((h_com hn K).2 (.inl h))))
  rcases (h_ob W K).1 h with h | ⟨h | h | h, _⟩
  · exact .single ((key _ _).2 (.inr h.1))
  · rcases h with h | ⟨j, h1, h2, _⟩ | ⟨j, h1, h2, _⟩
    · exact p1 (stat_po W h)
    · refine (p1 ?_).trans (c1 h2)
      rcases h1 with h1 | h1
      · exact (W.ctrl _ _ h1).1
      · exact (W.data _ _ h1).1
    · refine (p1 ?_).trans (r1 h2)
      rcases h1 with h1 | h1
      · exact (W.addr _ _ h1).1
      · exact (W.data _ _ h1).1
  · rcases h with h | h
    · exact p1 (W.rmw _ _ h).1
    · exact r1 h.1
  · rcases h with h | h | ⟨j, h1, _, h2, _⟩
    · exact p1 (fen_po W h)
    · exact p1 h.1
    · exact (p1 h1).trans (c1 h2)
theorem line_pure (W : WfE n x) (K : WayOk x f co) (h : acyR (orR x.po (comR x.ev f co)) = true) : internalB x f co = true ∧ externalB x f co = true ∧ acyR (wideR x f co) = true := by
  have hn := W.n32
  have lp := W.lpo
  have key : ∀ a b, has (orR x.po (comR x.ev f co)) a b = true ↔ has x.po a b = true ∨ Com x f co a b := fun a b => by
    rw [h_or (by omega) (by simp only [go_sem]; omega), Bool.or_eq_true]
  refine ⟨acy_mono (fun i k hh => .single ?_) h, acy_mono (fun i k hh => ob_line W K hh) h, acy_mono (fun i k hh => ?_) h⟩
  · rw [h_or (by simp only [go_sem]; omega) (by simp only [go_sem]; omega), Bool.or_eq_true, h_poloc W] at hh
    rw [key]
    rcases hh with hh | hh
    · exact .inl hh.1
    · exact .inr hh
  · rcases (h_wide W K).1 hh with hh | ⟨hh, _⟩
    · exact ob_line W K hh
    · refine .single ((key _ _).2 (.inr ((h_com hn K).2 ?_)))
      rcases hh with hh | hh
      · exact .inr (.inl hh)
      · exact .inr (.inr hh)

/-! AxiomWide -/
theorem in_po (W : WfE n x) (K : WayOk x f co) (hI : internalB x f co = true) {i k : Nat} (h : InP x f co i k) : has x.po i k = true := by
  refine int_po W K hI ((h_com W.n32 K).2 ?_) h.2
  rcases h.1 with h | h
  · exact .inr (.inl h)
  · exact .inr (.inr h)
theorem in_ok (W : WfE n x) (K : WayOk x f co) {i k : Nat} (h : InP x f co i k) : i < x.ev.length ∧ k < x.ev.length ∧ Mem x i ∧ (gd x.ev k).kind = 2 ∧ (gd x.ev i).loc = (gd x.ev k).loc ∧ (((gd x.ev i).kind = 2 ∧ has co i k = true) ∨ ((gd x.ev i).kind = 1 ∧ has (frR x.ev f co) i k = true)) := by
  have hc := K.cl
  rcases h.1 with h | h
  · have s := K.sub _ _ h
    have := has_lt h
    exact ⟨by omega, by omega, by simp [Mem, s.1], s.2.1, s.2.2.1, .inl ⟨s.1, h⟩⟩
  · obtain ⟨h1, h2, h3, h4, h5, _⟩ := (h_fr W.n32 K).1 h
    exact ⟨h1, h2, by simp [Mem, h3], h4, h5.symm, .inr ⟨h3, h⟩⟩
theorem fr_co (W : WfE n x) (K : WayOk x f co) {i j k : Nat} (h : has (frR x.ev f co) i j = true) (h2 : has co j k = true) : has (frR x.ev f co) i k = true := by
  have s := K.sub _ _ h2
  have := has_lt h2
  have hc := K.cl
  obtain ⟨h1, _, h3, h4, h5, h6⟩ := (h_fr W.n32 K).1 h
  refine (h_fr W.n32 K).2 ⟨h1, by omega, h3, s.2.1, by rw [← s.2.2.1]; exact h5, ?_⟩
  rcases h6 with h6 | ⟨w, e, h6⟩
  · exact .inl h6
  · exact .inr ⟨w, e, K.tr _ _ _ h6 h2⟩
theorem in_in (W : WfE n x) (K : WayOk x f co) {i j k : Nat} (h : InP x f co i j) (h2 : InP x f co j k) : InP x f co i k := by
  have a := in_ok W K h
  have b := in_ok W K h2
  refine ⟨?_, h.2.trans h2.2⟩
  rcases b.2.2.2.2.2 with ⟨_, b⟩ | ⟨b, _⟩
  · rcases a.2.2.2.2.2 with ⟨_, a⟩ | ⟨_, a⟩
    · exact .inl (K.tr _ _ _ a b)
    · exact .inr (fr_co W K a b)
  · have := a.2.2.2.1
    omega
/-- A read reads what an order of writes has ahead of what it is ahead of. -/
theorem rf_fr (W : WfE n x) (K : WayOk x f co) {i j k : Nat} (h : has (rfR x.ev.length f) i j = true) (h2 : has (frR x.ev f co) j k = true) : has co i k = true := by
  obtain ⟨_, _, e⟩ := (h_rf W.n32 K).1 h
  obtain ⟨_, _, _, _, _, h6⟩ := (h_fr W.n32 K).1 h2
  rcases h6 with h6 | ⟨w, e2, h6⟩
  · omega
  · obtain rfl : w = i := by omega
    exact h6
theorem lead (W : WfE n x) (K : WayOk x f co) (hI : internalB x f co = true) {a b c : Nat} (h : has (obR x f co) a b = true) (s : InP x f co b c) : Way (obR x f co) a c ∨ InP x f co a c := by
  have hn := W.n32
  have po := in_po W K hI s
  obtain ⟨hb, hc, mb, kc, hl, hs⟩ := in_ok W K s
  have mc : Mem x c := by simp [Mem, kc]
  have ob : ∀ {i k : Nat}, (DobP x f co i k ∨ AobP x f i k ∨ BobP x co i k) → Mem x i → Mem x k → has (obR x f co) i k = true := fun h1 h2 h3 => (h_ob W K).2 (.inr ⟨h1, h2, h3⟩)
  rcases (h_ob W K).1 h with ⟨h, ht⟩ | ⟨h, ma, _⟩
  · -- from thread to thread
    have ht2 : ¬ Th x a c := fun e => ht (e.trans s.2.symm)
    refine .inl (.single ((h_ob W K).2 (.inl ⟨(h_com hn K).2 ?_, ht2⟩)))
    rcases hs with ⟨kb, hs⟩ | ⟨kb, hs⟩
    · rcases (h_com hn K).1 h with h | h | h
      · have := (rf_ok hn K h).2.2.2.2.1
        omega
      · exact .inr (.inl (K.tr _ _ _ h hs))
      · exact .inr (.inr (fr_co W K h hs))
    · rcases (h_com hn K).1 h with h | h | h
      · exact .inr (.inl (rf_fr W K h hs))
      · have := (K.sub _ _ h).2.1
        omega
      · have := ((h_fr hn K).1 h).2.2.2.1
        omega
  · rcases h with h | h | h
    · -- dob
      rcases h with h | ⟨j, h1, h2, h3⟩ | ⟨j, h1, h2, h3⟩
      · rcases h with h | h | ⟨h, kb⟩ | ⟨h, kb⟩ | ⟨h, kb⟩
        · exact .inl (.single (ob (.inl (.inl (.inr (.inr (.inr (.inr ⟨⟨b, h, po⟩, kc⟩)))))) ma mc))
        · have kb := (W.data _ _ h).2.2
          rcases hs with ⟨_, hs⟩ | ⟨e, _⟩
          · exact .inl (.single (ob (.inl (.inr (.inl ⟨b, .inr h, hs, s.2⟩))) ma mc))
          · omega
        · rcases hs with ⟨_, hs⟩ | ⟨e, _⟩
          · exact .inl (.single (ob (.inl (.inr (.inl ⟨b, .inl h, hs, s.2⟩))) ma mc))
          · omega
        · obtain ⟨j, h1, _, h3⟩ := h
          have p3 := po_trans W h3 po
          refine .inl (.single (ob (.inl (.inl ?_)) ma mc))
          rcases h1 with h1 | ⟨m, h4, h5⟩
          · exact .inr (.inr (.inl ⟨W.ctrlM _ _ _ h1 p3, kc⟩))
          · exact .inr (.inr (.inr (.inr ⟨⟨m, h4, po_trans W h5 p3⟩, kc⟩)))
        · obtain ⟨m, h4, h5⟩ := h
          exact .inl (.single (ob (.inl (.inl (.inr (.inr (.inr (.inr ⟨⟨m, h4, po_trans W h5 po⟩, kc⟩)))))) ma mc))
      · have kb := (K.sub _ _ h2).2.1
        rcases hs with ⟨_, hs⟩ | ⟨e, _⟩
        · exact .inl (.single (ob (.inl (.inr (.inl ⟨j, h1, K.tr _ _ _ h2 hs, h3.trans s.2⟩))) ma mc))
        · omega
      · have kb := (rf_ok hn K h2).2.2.2.2.1
        rcases hs with ⟨e, _⟩ | ⟨_, hs⟩
        · omega
        · have c2 := rf_fr W K h2 hs
          have t2 : Th x j c := h3.trans s.2
          have p2 := int_po W K hI ((h_com hn K).2 (.inr (.inl c2))) t2
          rcases h1 with h1 | h1
          · exact .inl (.single (ob (.inl (.inl (.inr (.inr (.inr (.inr ⟨⟨j, h1, p2⟩, kc⟩)))))) ma mc))
          · exact .inl (.single (ob (.inl (.inr (.inl ⟨j, .inr h1, c2, t2⟩))) ma mc))
    · -- aob
      rcases h with h | ⟨h, h2, _⟩
      · obtain ⟨p1, ka, kb, _, _, la⟩ := W.rmw _ _ h
        rcases hs with ⟨_, hs⟩ | ⟨e, _⟩
        · right
          have tac : Th x a c := ((W.po _ _).1 p1).2.2.trans s.2
          refine ⟨.inr (fr_co W K (j := b) ?_ hs), tac⟩
          have hab := (W.po _ _).1 p1
          refine (h_fr hn K).2 ⟨by omega, hb, ka, kb, la.symm, ?_⟩
          rcases K.src a (by omega) with ⟨e, _⟩ | ⟨_, e | ⟨w, e, hw, kw, lw⟩⟩
          · exact absurd ka e
          · exact .inl e
          · refine .inr ⟨w, e, ?_⟩
            have hrf : has (rfR x.ev.length f) w a = true := (h_rf hn K).2 ⟨hw, by omega, e⟩
            by_cases hwb : w = b
            · subst hwb
              exact (int_no W K hI ((h_com hn K).2 (.inl hrf)) p1).elim
            · rcases K.tot w b hw hb kw kb (by omega) hwb with hh | hh
              · exact hh
              · exfalso
                have lp := W.lpo
                have key : ∀ a b, has (orR (polocR x) (comR x.ev f co)) a b = true ↔ has (polocR x) a b = true ∨ Com x f co a b := fun a b => by
                  rw [h_or (by simp only [go_sem]; omega) (by simp only [go_sem]; omega), Bool.or_eq_true]
                refine acy_iff.1 hI b (Relation.TransGen.tail (Relation.TransGen.tail (.single ((key b w).2 (.inr ((h_com hn K).2 (.inr (.inl hh)))))) ((key w a).2 (.inr ((h_com hn K).2 (.inl hrf))))) ((key a b).2 (.inl ?_)))
                rw [h_poloc W]
                exact ⟨p1, by simp [ka], by simp [kb], la⟩
        · omega
      · right
        have kb := (rf_ok hn K h).2.2.2.2.1
        rcases hs with ⟨e, _⟩ | ⟨_, hs⟩
        · omega
        · exact ⟨.inl (rf_fr W K h hs), h2.trans s.2⟩
    · -- bob
      rcases h with ⟨j, h1, h2, h3⟩ | ⟨h1, h2⟩ | ⟨j, h1, h2, h3, h4⟩
      · refine .inl (.single (ob (.inr (.inr (.inl ⟨j, h1, po_trans W h2 po, ?_⟩))) ma mc))
        rcases h3 with h3 | h3 | ⟨h3, h4, _⟩
        · exact .inl h3
        · exact .inr (.inl h3)
        · exact .inr (.inr ⟨h3, h4, kc⟩)
      · rcases h2 with h2 | h2 | ⟨_, h2⟩
        · exact .inl (.single (ob (.inr (.inr (.inr (.inl ⟨po_trans W h1 po, .inl h2⟩)))) ma mc))
        · have kb : (gd x.ev b).kind = 2 := by
            unfold relG at h2; simp only [Bool.and_eq_true, decide_eq_true_eq] at h2; exact h2.1
          rcases hs with ⟨_, hs⟩ | ⟨e, _⟩
          · exact .inl (.single (ob (.inr (.inr (.inr (.inr ⟨b, h1, h2, hs, s.2⟩)))) ma mc))
          · omega
        · exact .inl (.tail (.single h) (ob (.inr (.inr (.inr (.inl ⟨po, .inl h2⟩)))) mb mc))
      · have kb := (K.sub _ _ h3).2.1
        rcases hs with ⟨_, hs⟩ | ⟨e, _⟩
        · exact .inl (.single (ob (.inr (.inr (.inr (.inr ⟨j, h1, h2, K.tr _ _ _ h3 hs, h4.trans s.2⟩)))) ma mc))
        · omega
theorem lead_way (W : WfE n x) (K : WayOk x f co) (hI : internalB x f co = true) {a b c : Nat} (h : Way (obR x f co) a b) (s : InP x f co b c) : Way (obR x f co) a c ∨ InP x f co a c := by
  induction h generalizing c with
  | single h => exact lead W K hI h s
  | tail h h2 ih =>
    rcases lead W K hI h2 s with h3 | h3
    · exact .inl (h.trans h3)
    · exact ih h3
theorem wide_pure (W : WfE n x) (K : WayOk x f co) (hI : internalB x f co = true) (hE : externalB x f co = true) : acyR (wideR x f co) = true ∧ sameR (andR (wideR x f co) (obR x f co)) (obR x f co) = true := by
  have hn := W.n32
  have norm : ∀ {a c : Nat}, Way (wideR x f co) a c → Way (obR x f co) a c ∨ InP x f co a c ∨ ∃ m, InP x f co a m ∧ Way (obR x f co) m c := by
    intro a c h
    induction h with
    | single h =>
      rcases (h_wide W K).1 h with h | h
      · exact .inl (.single h)
      · exact .inr (.inl h)
    | tail h h2 ih =>
      rcases (h_wide W K).1 h2 with h2 | h2
      · rcases ih with ih | ih | ⟨m, i1, i2⟩
        · exact .inl (.tail ih h2)
        · exact .inr (.inr ⟨_, ih, .single h2⟩)
        · exact .inr (.inr ⟨m, i1, .tail i2 h2⟩)
      · rcases ih with ih | ih | ⟨m, i1, i2⟩
        · rcases lead_way W K hI ih h2 with h3 | h3
          · exact .inl h3
          · exact .inr (.inl h3)
        · exact .inr (.inl (in_in W K ih h2))
        · rcases lead_way W K hI i2 h2 with h3 | h3
          · exact .inr (.inr ⟨m, i1, h3⟩)
          · exact .inr (.inl (in_in W K i1 h3))
  have no : ∀ a, ¬ InP x f co a a := fun a h => by
    have := (W.po _ _).1 (in_po W K hI h); omega
  refine ⟨acy_iff.2 fun i h => ?_, and_same' (by simp only [go_sem]; omega) (by simp only [go_sem]) fun i k h => (h_wide W K).2 (.inl h)⟩
  rcases norm h with h | h | ⟨m, h1, h2⟩
  · exact acy_iff.1 hE i h
  · exact no i h
  · rcases lead_way W K hI h2 h1 with h3 | h3
    · exact acy_iff.1 hE m h3
    · exact no m h3
end Go.Sim

/-! What the laws AxiomFew, LocalOwn, LocalIs want. -/
namespace Go.Sim
open Enc (enc)
open Go.Proofs
variable {n : Int} {x : Ex} {f : List Int} {co : Rl}

/-! AxiomFew -/
/-- Without exclusive pairs. -/
def freeX (x : Ex) : Ex := { x with rmw := noneR x.ev.length }
theorem freeX_wf (W : WfE n x) : Okx (freeX x) :=
  have hok := W.ok
  ⟨hok.n, hok.po, hok.addr, hok.data, hok.ctrl, noneR_len _⟩
theorem none_has {m i k : Nat} (hm : m ≤ 32) : has (noneR m) i k = false := by rw [noneR, has_mk hm]; simp
theorem few_atomic (W : WfE n x) : atomicB (freeX x) f co = true := by
  have hn := W.n32
  unfold atomicB
  rw [decide_eq_true_eq]
  have : pairsR (betweenR (freeX x) f co) = [] := by
    rw [List.eq_nil_iff_forall_not_mem]
    intro p hp
    obtain ⟨i, k, _, h⟩ := mem_pairsR.1 hp
    unfold betweenR freeX at h
    rw [h_and (by simp only [go_sem]; omega), none_has hn] at h
    cases h
  rw [this]; rfl
theorem few_ob (W : WfE n x) (K : WayOk x f co) {i k : Nat} (h : has (obR (freeX x) f co) i k = true) : has (obR x f co) i k = true := by
  have hn := W.n32
  have e : (obsR x f co).length = x.ev.length := by rw [obsR, outerR_len]
  have lr := W.lrmw
  have e1 : obsR (freeX x) f co = obsR x f co := rfl
  have e2 : dobR (freeX x) f co = dobR x f co := rfl
  have e3 : bobR (freeX x) co = bobR x co := rfl
  unfold obR at h ⊢
  rw [e1, e2, e3] at h
  rw [h_or (by simp only [orR_len, e]; omega) (by simp only [go_sem, e]), h_or (by simp only [orR_len, e]; omega) (by simp only [go_sem, e]; rfl), h_or (by rw [e]; omega) (by simp only [go_sem, e])] at h
  rw [h_or (by simp only [orR_len, e]; omega) (by simp only [go_sem, e]), h_or (by simp only [orR_len, e]; omega) (by simp only [go_sem, e]), h_or (by rw [e]; omega) (by simp only [go_sem, e])]
  have key : has (aobR (freeX x) f) i k = true → has (aobR x f) i k = true := by
    intro h
    unfold aobR at h ⊢
    have en : (freeX x).ev = x.ev := rfl
    have er : (freeX x).rmw = noneR x.ev.length := rfl
    rw [en, er, h_mem (by omega) (by simp only [go_sem]), h_union2 (by omega) (by simp only [go_sem]) (by simp only [go_sem]), h_only (by simp only [go_sem]; omega), none_has hn] at h
    obtain ⟨h, h2⟩ := h
    rcases h with h | h
    · cases h
    · simp only [Bool.and_eq_true] at h
      have hl := has_lt h.1
      rw [rfiR_len] at hl
      have := (h_ends (r := noneR x.ev.length) (k := i) (by omega)).1 h.2.1
      obtain ⟨m, hm⟩ := this
      rw [none_has hn] at hm
      cases hm
  simp only [Bool.or_eq_true] at h ⊢
  rcases h with ((h | h) | h) | h
  · exact .inl (.inl (.inl h))
  · exact .inl (.inl (.inr h))
  · exact .inl (.inr (key h))
  · exact .inr h
theorem few_ext (W : WfE n x) (K : WayOk x f co) (h : externalB x f co = true) : externalB (freeX x) f co = true :=
  acy_mono (fun i k hh => .single (few_ob W K hh)) h
theorem few_same (W : WfE n x) (K : WayOk x f co) : sameR (andR (obR x f co) (wideR x f co)) (obR x f co) = true :=
  and_same (by have := W.n32; simp only [go_sem]; omega) fun i k h => (h_wide W K).2 (.inl h)

/-! LocalOwn -/
theorem own_last (W : WfE n x) {r : Nat} (hr : r < x.ev.length) (hk : (gd x.ev r).kind = 1) :
    (ownZ x r = -1 ∧ ∀ w, has x.po w r = true → (gd x.ev w).kind = 2 → (gd x.ev w).loc ≠ (gd x.ev r).loc) ∨
    ∃ w : Nat, ownZ x r = (w : Int) ∧ has x.po w r = true ∧ (gd x.ev w).kind = 2 ∧ (gd x.ev w).loc = (gd x.ev r).loc ∧ ∀ v, has x.po v r = true → (gd x.ev v).kind = 2 → (gd x.ev v).loc = (gd x.ev r).loc → v ≤ w := by
  have hrd : readsB x (r : Int) = true := by unfold readsB; simp [hr, hk]
  have mem : ∀ z : Int, z ∈ ownL x r ↔ ∃ w : Nat, z = (w : Int) ∧ has x.po w r = true ∧ (gd x.ev w).kind = 2 ∧ (gd x.ev w).loc = (gd x.ev r).loc := fun z => by
    unfold ownL
    simp only [List.mem_map, List.mem_filter, List.mem_range, ownQ, Bool.and_eq_true, decide_eq_true_eq]
    constructor
    · rintro ⟨w, ⟨_, h1, h2, _, h4⟩, rfl⟩; exact ⟨w, rfl, h4, h1, h2⟩
    · rintro ⟨w, rfl, h1, h2, h3⟩
      have := (W.po _ _).1 h1
      exact ⟨w, ⟨by omega, h2, h3, this.2.2, h1⟩, rfl⟩
  have hz : ownZ x r = ((ownL x r).find? (lastB x (ownL x r))).getD (-1) := by
    unfold ownZ; rw [hrd, if_pos rfl, Int.toNat_natCast]
  cases hf : (ownL x r).find? (lastB x (ownL x r)) with
  | some v =>
    right
    rw [hf] at hz
    obtain ⟨w, rfl, h1, h2, h3⟩ := (mem v).1 (List.mem_of_find?_eq_some hf)
    refine ⟨w, hz, h1, h2, h3, fun v hv hk2 hl2 => ?_⟩
    have hl := List.find?_some hf
    unfold lastB at hl
    rw [List.all_eq_true] at hl
    have := hl (v : Int) ((mem _).2 ⟨v, rfl, hv, hk2, hl2⟩)
    simp only [hasZ, Bool.not_eq_true'] at this
    rcases Nat.lt_or_ge w v with hlt | hge
    · exfalso
      have hlate : has (lateR x) w v = true := (late_iff W).2 ⟨hlt, by have := (W.po _ _).1 hv; omega, by have := (W.po _ _).1 hv; have := (W.po _ _).1 h1; omega, h2, hk2, by omega⟩
      simp [hlate] at this
    · exact hge
  | none =>
    left
    rw [hf] at hz
    refine ⟨hz, ?_⟩
    -- the last of some
    by_cases hne : ownL x r = []
    · intro w hw hk2 hl2
      have := (mem (w : Int)).2 ⟨w, rfl, hw, hk2, hl2⟩
      rw [hne] at this; cases this
    · exfalso
      -- the greatest
      have hmax : ∃ m : Nat, (m : Int) ∈ ownL x r ∧ ∀ v : Nat, (v : Int) ∈ ownL x r → v ≤ m := by
        have : ∀ (k : Nat), (∃ m : Nat, m ≤ k ∧ (m : Int) ∈ ownL x r) → ∃ m : Nat, (m : Int) ∈ ownL x r ∧ ∀ v : Nat, v ≤ k → (v : Int) ∈ ownL x r → v ≤ m := by
          intro k
          induction k with
          | zero => rintro ⟨m, hm, h⟩; exact ⟨m, h, fun v hv _ => by omega⟩
          | succ k ih =>
            rintro ⟨m, hm, h⟩
            by_cases hk1 : ((k + 1 : Nat) : Int) ∈ ownL x r
            · exact ⟨k + 1, hk1, fun v hv _ => hv⟩
            · have hmk : m ≠ k + 1 := fun e => by subst e; exact hk1 h
              obtain ⟨m', h1, h2⟩ := ih ⟨m, by omega, h⟩
              refine ⟨m', h1, fun v hv hv2 => ?_⟩
              by_cases hvk : v = k + 1
              · subst hvk; exact absurd hv2 hk1
              · exact h2 v (by omega) hv2
        obtain ⟨z, hz0⟩ := List.exists_mem_of_ne_nil _ hne
        obtain ⟨w, rfl, h1, _⟩ := (mem z).1 hz0
        obtain ⟨m, h1', h2'⟩ := this x.ev.length ⟨w, by have := (W.po _ _).1 h1; omega, hz0⟩
        refine ⟨m, h1', fun v hv => h2' v ?_ hv⟩
        obtain ⟨u, e, h3, _⟩ := (mem _).1 hv
        have := (W.po _ _).1 h3; omega
      obtain ⟨m, hm, hall⟩ := hmax
      have := List.find?_eq_none.1 hf _ hm
      apply this
      unfold lastB
      rw [List.all_eq_true]
      intro z hz0
      obtain ⟨v, rfl, _⟩ := (mem z).1 hz0
      have hle := hall v hz0
      rw [Bool.not_eq_true']
      cases hh : hasZ (lateR x) (m : Int) (v : Int) with
      | false => rfl
      | true =>
        rw [show hasZ (lateR x) (m : Int) (v : Int) = has (lateR x) m v by simp [hasZ]] at hh
        have := ((late_iff W).1 hh).1
        omega
/-- A read's own write, and what it reads. -/
theorem own_law (W : WfE n x) (K : WayOk x f co) (hI : internalB x f co = true) {r : Nat} (hr : r < x.ev.length) (hk : (gd x.ev r).kind = 1) :
    (0 ≤ gd f r → Th x (gd f r).toNat r → gd f r = ownZ x r) ∧ (0 ≤ ownZ x r → gd f r ≠ ownZ x r → 0 ≤ gd f r ∧ has co (ownZ x r).toNat (gd f r).toNat = true) := by
  have hn := W.n32
  have fr0 : ∀ w : Nat, has x.po w r = true → (gd x.ev w).kind = 2 → (gd x.ev w).loc = (gd x.ev r).loc → gd f r = -1 → False := fun w h1 h2 h3 e => by
    have := (W.po _ _).1 h1
    exact int_no W K hI ((h_com hn K).2 (.inr (.inr ((h_fr hn K).2 ⟨hr, by omega, hk, h2, h3, .inl e⟩)))) h1
  have fr1 : ∀ w v : Nat, has x.po w r = true → (gd x.ev w).kind = 2 → (gd x.ev w).loc = (gd x.ev r).loc → gd f r = (v : Int) → has co v w = true → False := fun w v h1 h2 h3 e h4 => by
    have := (W.po _ _).1 h1
    exact int_no W K hI ((h_com hn K).2 (.inr (.inr ((h_fr hn K).2 ⟨hr, by omega, hk, h2, h3, .inr ⟨v, e, h4⟩⟩)))) h1
  constructor
  · intro h0 ht
    rcases K.src r hr with ⟨e, _⟩ | ⟨_, e | ⟨v, e, hv, kv, lv⟩⟩
    · exact absurd hk e
    · omega
    · rw [e, Int.toNat_natCast] at ht
      have hrf : has (rfR x.ev.length f) v r = true := (h_rf hn K).2 ⟨hv, hr, e⟩
      have hpo := int_po W K hI ((h_com hn K).2 (.inl hrf)) ht
      rcases own_last W hr hk with ⟨_, hno⟩ | ⟨w, ew, h1, h2, h3, hl⟩
      · exact absurd lv (hno v hpo kv)
      · have hle := hl v hpo kv lv
        by_cases hvw : v = w
        · subst hvw; rw [e, ew]
        · exfalso
          have hw := (W.po _ _).1 h1
          have hv2 := (W.po _ _).1 hpo
          have hpvw : has x.po v w = true := (W.po _ _).2 ⟨by omega, by omega, by omega⟩
          rcases K.tot v w hv (by omega) kv h2 (by omega) hvw with hc | hc
          · exact fr1 w v h1 h2 h3 e hc
          · exact int_no W K hI ((h_com hn K).2 (.inr (.inl hc))) hpvw
  · intro h0 hne
    rcases own_last W hr hk with ⟨ew, _⟩ | ⟨w, ew, h1, h2, h3, _⟩
    · omega
    · rw [ew] at hne ⊢
      rw [Int.toNat_natCast]
      rcases K.src r hr with ⟨e, _⟩ | ⟨_, e | ⟨v, e, hv, kv, lv⟩⟩
      · exact absurd hk e
      · exact (fr0 w h1 h2 h3 e).elim
      · rw [e, Int.toNat_natCast]
        refine ⟨by omega, ?_⟩
        have hw := (W.po _ _).1 h1
        rcases K.tot w v (by omega) hv h2 kv (by omega) (by omega) with hc | hc
        · exact hc
        · exact (fr1 w v h1 h2 h3 e hc).elim
end Go.Sim
