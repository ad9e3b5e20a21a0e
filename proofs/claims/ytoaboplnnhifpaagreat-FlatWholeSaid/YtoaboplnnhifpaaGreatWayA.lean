/- Part: WayA -/
import Derived.Test.YtoaboplnnhifpaaGreatWayQ
set_option linter.all false
namespace Go.Sim
open Enc (enc)
open Go.Proofs
variable {n : Int} {x : Ex} {f : List Int} {co : Rl}
theorem acy_iff {r : Rl} : acyR r = true ↔ ∀ i, ¬ Way r i i := by
  unfold acyR
  rw [List.all_eq_true]
  constructor
  . intro h i w
    have := h i (List.mem_range.2 (way_lt w).1)
    rw [Bool.not_eq_true', wayB_iff.2 w] at this
    cases this
  . intro h i _
    rw [Bool.not_eq_true']
    cases hw : wayB r i i with
    | false => rfl
    | true => exact absurd (wayB_iff.1 hw) (h i)
theorem way_mono {a b : Rl} (h : ∀ i k, has a i k = true -> Way b i k) {i k : Nat} (w : Way a i k) : Way b i k := by
  induction w with
  | single h1 => exact h _ _ h1
  | tail _ h2 ih => exact ih.trans (h _ _ h2)
theorem acy_mono {a b : Rl} (h : ∀ i k, has a i k = true -> Way b i k) (hb : acyR b = true) : acyR a = true :=
  acy_iff.2 fun i w => acy_iff.1 hb i (way_mono h w)
theorem h_rf (hn : x.ev.length <= 32) (K : WayOk x f co) {i k : Nat} : has (rfR x.ev.length f) i k = true ↔ i < x.ev.length /\ k < x.ev.length /\ gd f k = (i : Int) := by
  have := K.fl
  rw [rfR, has_mk hn]
  simp only [Bool.and_eq_true, decide_eq_true_eq]
  exact ⟨fun h => ⟨h.1, h.2.1, h.2.2.2⟩, fun h => ⟨h.1, h.2.1, by omega, h.2.2⟩⟩
theorem rf_ok (hn : x.ev.length <= 32) (K : WayOk x f co) {i k : Nat} (h : has (rfR x.ev.length f) i k = true) : i < x.ev.length /\ k < x.ev.length /\ gd f k = (i : Int) /\ (gd x.ev i).kind = 2 /\ (gd x.ev k).kind = 1 /\ (gd x.ev i).loc = (gd x.ev k).loc := by
  obtain ⟨h1, h2, h3⟩ := (h_rf hn K).1 h
  rcases K.src k h2 with ⟨_, e⟩ | ⟨e, e2 | ⟨w, e2, e3, e4, e5⟩⟩
  . omega
  . omega
  . obtain rfl : w = i := by omega
    exact ⟨h1, h2, h3, e4, e, e5⟩
theorem h_fr (hn : x.ev.length <= 32) (K : WayOk x f co) {r k : Nat} : has (frR x.ev f co) r k = true ↔ r < x.ev.length /\ k < x.ev.length /\ (gd x.ev r).kind = 1 /\ (gd x.ev k).kind = 2 /\ (gd x.ev k).loc = (gd x.ev r).loc /\ (gd f r = -1 \/ ∃ w : Nat, gd f r = (w : Int) /\ has co w k = true) := by
  rw [frR, has_mk hn]
  simp only [Bool.and_eq_true, decide_eq_true_eq, frP]
  constructor
  . rintro ⟨h1, h2, h3, h4, h5⟩
    unfold behindB at h5
    split at h5
    . rename_i hw
      rw [maskB_get (by omega)] at h5
      simp only [Bool.and_eq_true, decide_eq_true_eq] at h5
      rcases K.src r h1 with ⟨_, e⟩ | ⟨e, _⟩
      . omega
      . exact ⟨h1, h2, e, h5.2.1, h5.2.2, .inl hw⟩
    . rename_i hw
      split at h5
      . rename_i hw2
        rw [behindTo_get (by omega)] at h5
        simp only [Bool.and_eq_true, decide_eq_true_eq] at h5
        have s := K.sub _ _ h5.2
        rcases K.src r h1 with ⟨_, e⟩ | ⟨e, e2 | ⟨w, e2, e3, e4, e5⟩⟩
        . omega
        . omega
        . have : (gd f r).toNat = w := by omega
          rw [this] at h5 s
          exact ⟨h1, h2, e, s.2.1, by rw [← s.2.2.1]; exact e5, .inr ⟨w, e2, h5.2⟩⟩
      . simp at h5
  . rintro ⟨h1, h2, h3, h4, h5, h6⟩
    refine ⟨h1, h2, by rw [K.fl]; exact h1, fun e => by subst e; omega, ?_⟩
    unfold behindB
    rcases h6 with h6 | ⟨w, h6, h7⟩
    . rw [if_pos h6, maskB_get (by omega)]; simp [h2, h4, h5]
    . have s := K.sub _ _ h7
      have hl := has_lt h7
      have hc := K.cl
      rw [if_neg (by omega), if_pos ⟨by omega, by omega, by rw [h6, Int.toNat_natCast]; exact s.1⟩, behindTo_get (by omega), h6, Int.toNat_natCast]
      simp [h2, h7]
theorem h_com (hn : x.ev.length <= 32) (K : WayOk x f co) {i k : Nat} : has (comR x.ev f co) i k = true ↔ has (rfR x.ev.length f) i k = true \/ has co i k = true \/ has (frR x.ev f co) i k = true := by
  rw [comR, h_union hn (by
    intro r hr
    simp only [List.mem_cons, List.not_mem_nil, or_false] at hr
    rcases hr with rfl | rfl | rfl
    . exact rfR_len _ _
    . exact K.cl
    . exact frR_len _ _ _)]
  simp
theorem com_ok (hn : x.ev.length <= 32) (K : WayOk x f co) {i k : Nat} (h : has (comR x.ev f co) i k = true) : i < x.ev.length /\ k < x.ev.length /\ i ≠ k /\ (gd x.ev i).kind ∈ [(1 : Int), 2] /\ (gd x.ev k).kind ∈ [(1 : Int), 2] /\ (gd x.ev i).loc = (gd x.ev k).loc := by
  rcases (h_com hn K).1 h with h | h | h
  . obtain ⟨h1, h2, h3, h4, h5, h6⟩ := rf_ok hn K h
    exact ⟨h1, h2, fun e => by subst e; omega, by simp [h4], by simp [h5], h6⟩
  . have s := K.sub _ _ h
    have l := has_lt h
    have hc := K.cl
    exact ⟨by omega, by omega, s.2.2.2, by simp [s.1], by simp [s.2.1], s.2.2.1⟩
  . obtain ⟨h1, h2, h3, h4, h5, _⟩ := (h_fr hn K).1 h
    exact ⟨h1, h2, fun e => by subst e; omega, by simp [h3], by simp [h4], h5.symm⟩
theorem h_poloc (W : WfE n x) {i k : Nat} : has (polocR x) i k = true ↔ has x.po i k = true /\ (gd x.ev i).kind ∈ [(1 : Int), 2] /\ (gd x.ev k).kind ∈ [(1 : Int), 2] /\ (gd x.ev i).loc = (gd x.ev k).loc := by
  have := W.n; have := W.lpo
  rw [polocR, h_and (by omega), alikeR, h_pairs (by omega)]
  simp only [alikeG, memK, Bool.and_eq_true, Bool.or_eq_true, decide_eq_true_eq, List.mem_cons, List.not_mem_nil, or_false]
  constructor
  . rintro ⟨h1, h2, h3, h4, h5, h6, h7⟩; exact ⟨h1, h5, h6, h7⟩
  . rintro ⟨h1, h5, h6, h7⟩
    have := (W.po _ _).1 h1
    exact ⟨h1, by omega, by omega, by omega, h5, h6, h7⟩
theorem h_within (hn : x.ev.length <= 32) {r : Rl} (hr : r.length = x.ev.length) {i k : Nat} : has (withinR x.ev r) i k = true ↔ has r i k = true /\ i ≠ k /\ th x.ev i = th x.ev k := by
  rw [withinR, h_and (by omega), innerR, h_pairs hn]
  simp only [innerG, Bool.and_eq_true, decide_eq_true_eq]
  constructor
  . rintro ⟨h1, _, _, h4, h5⟩; exact ⟨h1, h4, h5⟩
  . rintro ⟨h1, h2, h3⟩
    have := has_lt h1
    exact ⟨h1, by omega, by omega, h2, h3⟩
theorem h_outer (hn : x.ev.length <= 32) {r : Rl} (hr : r.length = x.ev.length) {i k : Nat} : has (outerR x.ev r) i k = true ↔ has r i k = true /\ th x.ev i ≠ th x.ev k := by
  rw [outerR, has_mk hn]
  simp only [Bool.and_eq_true, decide_eq_true_eq, Bool.not_eq_true', decide_eq_false_iff_not]
  constructor
  . rintro ⟨_, _, h1, h2⟩; exact ⟨h1, h2⟩
  . rintro ⟨h1, h2⟩
    have := has_lt h1
    exact ⟨by omega, by omega, h1, h2⟩
theorem h_union3 {m : Nat} (hm : m <= 32) {a b c : Rl} (ha : a.length = m) (hb : b.length = m) (hc : c.length = m) {i k : Nat} : has (unionR m [a, b, c]) i k = true ↔ has a i k = true \/ has b i k = true \/ has c i k = true := by
  rw [h_union hm (by
    intro r hr
    simp only [List.mem_cons, List.not_mem_nil, or_false] at hr
    rcases hr with rfl | rfl | rfl <;> assumption)]
  simp
theorem h_union2 {m : Nat} (hm : m <= 32) {a b : Rl} (ha : a.length = m) (hb : b.length = m) {i k : Nat} : has (unionR m [a, b]) i k = true ↔ has a i k = true \/ has b i k = true := by
  rw [h_union hm (by
    intro r hr
    simp only [List.mem_cons, List.not_mem_nil, or_false] at hr
    rcases hr with rfl | rfl <;> assumption)]
  simp
abbrev Mem (x : Ex) (i : Nat) : Prop := (gd x.ev i).kind ∈ [(1 : Int), 2]
def AhP (x : Ex) (i k : Nat) : Prop := ∃ j, has x.addr i j = true /\ has x.po j k = true
def IsbP (x : Ex) (i k : Nat) : Prop := ∃ j, (has x.ctrl i j = true \/ AhP x i j) /\ (gd x.ev j).kind = 6 /\ has x.po j k = true
def StatP (x : Ex) (i k : Nat) : Prop := has x.addr i k = true \/ has x.data i k = true \/ (has x.ctrl i k = true /\ (gd x.ev k).kind = 2) \/ (IsbP x i k /\ (gd x.ev k).kind = 1) \/ (AhP x i k /\ (gd x.ev k).kind = 2)
theorem h_ahead (W : WfE n x) {i k : Nat} : has (aheadR x) i k = true ↔ AhP x i k := by
  have := W.n; have := W.laddr; have := W.lpo
  exact h_seq (by omega) (by omega) i k
theorem h_isb (W : WfE n x) {i k : Nat} : has (isbR x) i k = true ↔ IsbP x i k := by
  have := W.n; have l1 := W.laddr; have l2 := W.lpo; have l3 := W.lctrl
  unfold isbR IsbP
  rw [h_seq (by simp only [go_sem]; omega) (by simp only [go_sem]; omega)]
  constructor
  . rintro ⟨j, h1, h2⟩
    rw [h_to (by omega) (by simp only [go_sem]; omega), h_or (by omega) (by rw [aheadR_len]; omega), Bool.or_eq_true, h_ahead W] at h1
    exact ⟨j, h1.1, h1.2, h2⟩
  . rintro ⟨j, h1, h2, h3⟩
    refine ⟨j, ?_, h3⟩
    rw [h_to (by omega) (by simp only [go_sem]; omega), h_or (by omega) (by rw [aheadR_len]; omega), Bool.or_eq_true, h_ahead W]
    exact ⟨h1, h2⟩
theorem h_static (W : WfE n x) {i k : Nat} : has (staticR x) i k = true ↔ StatP x i k /\ Mem x i /\ Mem x k := by
  have := W.n; have l1 := W.laddr; have l2 := W.lpo; have l3 := W.lctrl; have l4 := W.ldata
  unfold staticR
  rw [h_mem (by omega) (by simp only [go_sem]), h_union (by omega) (by
    intro r hr
    simp only [List.mem_cons, List.not_mem_nil, or_false] at hr
    rcases hr with rfl | rfl | rfl | rfl | rfl <;> (try simp only [toR_len, aheadR_len, isbR_len]) <;> omega)]
  simp only [List.mem_cons, List.not_mem_nil, or_false, exists_eq_or_imp, exists_eq_left, h_to (show x.ev.length <= 32 by omega) (show x.ctrl.length = x.ev.length by omega), h_to (show x.ev.length <= 32 by omega) (show (isbR x).length = x.ev.length by rw [isbR_len]; omega), h_to (show x.ev.length <= 32 by omega) (show (aheadR x).length = x.ev.length by rw [aheadR_len]; omega), h_isb W, h_ahead W]
  exact Iff.rfl
def OverP (x : Ex) (p : Nat -> Prop) (c : Int) (q : Nat -> Prop) (i k : Nat) : Prop := p i /\ q k /\ ∃ j, has x.po i j = true /\ (gd x.ev j).kind = c /\ has x.po j k = true
theorem h_over (W : WfE n x) {s t : U32} {c : Int} {i k : Nat} : has (overR x s c t) i k = true ↔ OverP x (fun i => s.getLsbD i = true) c (fun k => t.getLsbD k = true) i k := by
  have := W.n; have l2 := W.lpo
  unfold overR OverP
  rw [h_seq (by simp only [go_sem]; omega) (by simp only [go_sem])]
  constructor
  . rintro ⟨j, h1, h2⟩
    rw [h_only (by omega), Bool.and_eq_true, Bool.and_eq_true] at h1 h2
    have := has_lt h2.1
    have h3 := h2.2.1
    rw [h_kind (by omega) (by omega)] at h3
    exact ⟨h1.2.1, h2.2.2, j, h1.1, by simpa using h3, h2.1⟩
  . rintro ⟨h1, h2, j, h3, h4, h5⟩
    have := has_lt h3
    have := has_lt h5
    refine ⟨j, ?_, ?_⟩
    . rw [h_only (by omega), Bool.and_eq_true, Bool.and_eq_true, h_kind (by omega) (by omega)]
      exact ⟨h3, h1, by simp [h4]⟩
    . rw [h_only (by omega), Bool.and_eq_true, Bool.and_eq_true, h_kind (by omega) (by omega)]
      exact ⟨h5, by simp [h4], h2⟩
def FenP (x : Ex) (i k : Nat) : Prop := ∃ j, has x.po i j = true /\ has x.po j k = true /\ ((gd x.ev j).kind = 3 \/ ((gd x.ev j).kind = 4 /\ (gd x.ev i).kind = 1) \/ ((gd x.ev j).kind = 5 /\ (gd x.ev i).kind = 2 /\ (gd x.ev k).kind = 2))
theorem h_fences (W : WfE n x) {i k : Nat} : has (fencesR x) i k = true ↔ FenP x i k /\ Mem x i /\ Mem x k := by
  have := W.n; have l2 := W.lpo
  unfold fencesR
  rw [h_mem (by omega) (by simp only [go_sem]), h_union3 (by omega) (by simp only [go_sem]; omega) (by simp only [go_sem]; omega) (by simp only [go_sem]; omega), h_over W, h_over W, h_over W]
  refine and_congr_left fun _ => ?_
  unfold OverP FenP
  simp only
  constructor
  . rintro (⟨h1, h2, j, h3, h4, h5⟩ | ⟨h1, h2, j, h3, h4, h5⟩ | ⟨h1, h2, j, h3, h4, h5⟩)
    . exact ⟨j, h3, h5, .inl h4⟩
    . have := has_lt h3
      rw [h_kind (by omega) (by omega)] at h1
      exact ⟨j, h3, h5, .inr (.inl ⟨h4, by simpa using h1⟩)⟩
    . have := has_lt h3
      have := has_lt h5
      rw [h_kind (by omega) (by omega)] at h1 h2
      exact ⟨j, h3, h5, .inr (.inr ⟨h4, by simpa using h1, by simpa using h2⟩)⟩
  . rintro ⟨j, h3, h5, h | ⟨h, h1⟩ | ⟨h, h1, h2⟩⟩
    . have := has_lt h3
      have := has_lt h5
      exact .inl ⟨ones_get (by omega), ones_get (by omega), j, h3, h, h5⟩
    . have := has_lt h3
      have := has_lt h5
      refine .inr (.inl ⟨?_, ones_get (by omega), j, h3, h, h5⟩)
      rw [h_kind (by omega) (by omega)]; simp [h1]
    . have := has_lt h3
      have := has_lt h5
      refine .inr (.inr ⟨?_, ?_, j, h3, h, h5⟩)
      . rw [h_kind (by omega) (by omega)]; simp [h1]
      . rw [h_kind (by omega) (by omega)]; simp [h2]
def OrdP (x : Ex) (i k : Nat) : Prop := has x.po i k = true /\ (acqG (gd x.ev i) = true \/ relG (gd x.ev k) = true \/ (relG (gd x.ev i) = true /\ acqG (gd x.ev k) = true))
theorem h_orders (W : WfE n x) {i k : Nat} : has (ordersR x) i k = true ↔ OrdP x i k /\ Mem x i /\ Mem x k := by
  have := W.n; have l2 := W.lpo
  unfold ordersR
  rw [h_mem (by omega) (by simp only [go_sem]), h_union3 (by omega) (by simp only [go_sem]; omega) (by simp only [go_sem]; omega) (by simp only [go_sem]; omega), h_only (by omega), h_only (by omega), h_only (by omega)]
  refine and_congr_left fun _ => ?_
  simp only [Bool.and_eq_true]
  unfold OrdP
  constructor
  . rintro (⟨h1, h2, h3⟩ | ⟨h1, h2, h3⟩ | ⟨h1, h2, h3⟩)
    . have := has_lt h1
      rw [h_mask (by omega) (by omega)] at h2
      exact ⟨h1, .inl h2⟩
    . have := has_lt h1
      rw [h_mask (by omega) (by omega)] at h3
      exact ⟨h1, .inr (.inl h3)⟩
    . have := has_lt h1
      rw [h_mask (by omega) (by omega)] at h2 h3
      exact ⟨h1, .inr (.inr ⟨h2, h3⟩)⟩
  . rintro ⟨h1, h2⟩
    have := has_lt h1
    rw [h_mask (by omega) (by omega), h_mask (by omega) (by omega), h_mask (by omega) (by omega), h_mask (by omega) (by omega)]
    rcases h2 with h2 | h2 | h2
    . exact .inl ⟨h1, h2, ones_get (by omega)⟩
    . exact .inr (.inl ⟨h1, ones_get (by omega), h2⟩)
    . exact .inr (.inr ⟨h1, h2⟩)
abbrev Th (x : Ex) (i k : Nat) : Prop := th x.ev i = th x.ev k
theorem h_rfi (hn : x.ev.length <= 32) (K : WayOk x f co) {i k : Nat} : has (rfiR x.ev f) i k = true ↔ has (rfR x.ev.length f) i k = true /\ Th x i k := by
  rw [rfiR, h_within hn (rfR_len _ _)]
  constructor
  . rintro ⟨h1, _, h2⟩; exact ⟨h1, h2⟩
  . rintro ⟨h1, h2⟩
    refine ⟨h1, fun e => ?_, h2⟩
    obtain ⟨_, _, _, e1, e2, _⟩ := rf_ok hn K h1
    subst e; omega
theorem h_coi (hn : x.ev.length <= 32) (K : WayOk x f co) {i k : Nat} : has (withinR x.ev co) i k = true ↔ has co i k = true /\ Th x i k := by
  rw [h_within hn K.cl]
  constructor
  . rintro ⟨h1, _, h2⟩; exact ⟨h1, h2⟩
  . rintro ⟨h1, h2⟩; exact ⟨h1, (K.sub _ _ h1).2.2.2, h2⟩
def DobP (x : Ex) (f : List Int) (co : Rl) (i k : Nat) : Prop := StatP x i k \/ (∃ j, (has x.ctrl i j = true \/ has x.data i j = true) /\ has co j k = true /\ Th x j k) \/ (∃ j, (has x.addr i j = true \/ has x.data i j = true) /\ has (rfR x.ev.length f) j k = true /\ Th x j k)
theorem h_dob (W : WfE n x) (K : WayOk x f co) {i k : Nat} : has (dobR x f co) i k = true ↔ DobP x f co i k /\ Mem x i /\ Mem x k := by
  have hn := W.n; have l1 := W.laddr; have l2 := W.lpo; have l3 := W.lctrl; have l4 := W.ldata; have l5 := K.cl
  have hn : x.ev.length <= 32 := by omega
  unfold dobR DobP
  rw [h_mem (by omega) (by simp only [go_sem]), h_union3 (by omega) (by simp only [go_sem]) (by rw [seqR, mk_len, orR_len]; omega) (by rw [seqR, mk_len, orR_len]; omega), h_static W,
    h_seq (by simp only [go_sem]; omega) (by simp only [go_sem]; omega), h_seq (by simp only [go_sem]; omega) (by simp only [go_sem]; omega)]
  simp only [h_or (show x.ctrl.length <= 32 by omega) (show x.data.length = x.ctrl.length by omega), h_or (show x.addr.length <= 32 by omega) (show x.data.length = x.addr.length by omega), Bool.or_eq_true, h_rfi hn K, h_coi hn K]
  constructor
  . rintro ⟨h1 | h1 | h1, h2⟩
    . exact ⟨.inl h1.1, h2⟩
    . exact ⟨.inr (.inl h1), h2⟩
    . exact ⟨.inr (.inr h1), h2⟩
  . rintro ⟨h1 | h1 | h1, h2⟩
    . exact ⟨.inl ⟨h1, h2⟩, h2⟩
    . exact ⟨.inr (.inl h1), h2⟩
    . exact ⟨.inr (.inr h1), h2⟩
def AobP (x : Ex) (f : List Int) (i k : Nat) : Prop := has x.rmw i k = true \/ (has (rfR x.ev.length f) i k = true /\ Th x i k /\ (∃ m, has x.rmw m i = true) /\ acqG (gd x.ev k) = true)
theorem h_ends {r : Rl} {k : Nat} (hk : k < 32) : (endsB (pairsR r)).getLsbD k = true ↔ ∃ m, has r m k = true := by
  rw [ends_pairs hk, List.any_eq_true]
  constructor
  . rintro ⟨m, _, h⟩; exact ⟨m, h⟩
  . rintro ⟨m, h⟩; exact ⟨m, List.mem_range.2 (has_lt h).1, h⟩
theorem h_aob (W : WfE n x) (K : WayOk x f co) {i k : Nat} : has (aobR x f) i k = true ↔ AobP x f i k /\ Mem x i /\ Mem x k := by
  have hn := W.n; have l1 := W.lrmw
  have hn : x.ev.length <= 32 := by omega
  unfold aobR AobP
  rw [h_mem (by omega) (by simp only [go_sem]), h_union2 (by omega) (by omega) (by simp only [go_sem]), h_only (by simp only [go_sem]; omega), Bool.and_eq_true, Bool.and_eq_true, h_rfi hn K]
  refine and_congr_left fun _ => or_congr Iff.rfl ?_
  constructor
  . rintro ⟨⟨h1, h2⟩, h3, h4⟩
    have := has_lt h1
    rw [rfR_len] at this
    rw [h_ends (by omega)] at h3
    rw [h_mask (by omega) (by omega)] at h4
    exact ⟨h1, h2, h3, h4⟩
  . rintro ⟨h1, h2, h3, h4⟩
    have := has_lt h1
    rw [rfR_len] at this
    refine ⟨⟨h1, h2⟩, (h_ends (by omega)).2 h3, ?_⟩
    rw [h_mask (by omega) (by omega)]; exact h4
def BobP (x : Ex) (co : Rl) (i k : Nat) : Prop := FenP x i k \/ OrdP x i k \/ ∃ j, has x.po i j = true /\ relG (gd x.ev j) = true /\ has co j k = true /\ Th x j k
theorem h_bob (W : WfE n x) (K : WayOk x f co) {i k : Nat} : has (bobR x co) i k = true ↔ BobP x co i k /\ Mem x i /\ Mem x k := by
  have hn := W.n; have l1 := W.lpo; have l5 := K.cl
  have hn : x.ev.length <= 32 := by omega
  unfold bobR BobP
  rw [h_mem (by omega) (by simp only [go_sem]), h_union3 (by omega) (by simp only [go_sem]) (by simp only [go_sem]) (by rw [seqR, mk_len, onlyR_len]; omega), h_fences W, h_orders W,
    h_seq (by simp only [go_sem]; omega) (by simp only [go_sem]; omega)]
  simp only [h_coi hn K]
  have key : ∀ j, (has (onlyR x.po onesB (maskB x.ev relG)) i j = true /\ has co j k = true /\ Th x j k) ↔ (has x.po i j = true /\ relG (gd x.ev j) = true /\ has co j k = true /\ Th x j k) := fun j => by
    rw [h_only (by omega), Bool.and_eq_true, Bool.and_eq_true]
    constructor
    . rintro ⟨⟨h1, _, h2⟩, h3⟩
      have := has_lt h1
      rw [h_mask (by omega) (by omega)] at h2
      exact ⟨h1, h2, h3⟩
    . rintro ⟨h1, h2, h3⟩
      have := has_lt h1
      rw [h_mask (by omega) (by omega)]
      exact ⟨⟨h1, ones_get (by omega), h2⟩, h3⟩
  simp only [key]
  constructor
  . rintro ⟨h1 | h1 | h1, h2⟩
    . exact ⟨.inl h1.1, h2⟩
    . exact ⟨.inr (.inl h1.1), h2⟩
    . exact ⟨.inr (.inr h1), h2⟩
  . rintro ⟨h1 | h1 | h1, h2⟩
    . exact ⟨.inl ⟨h1, h2⟩, h2⟩
    . exact ⟨.inr (.inl ⟨h1, h2⟩), h2⟩
    . exact ⟨.inr (.inr h1), h2⟩
abbrev Com (x : Ex) (f : List Int) (co : Rl) (i k : Nat) : Prop := has (comR x.ev f co) i k = true
theorem h_ob (W : WfE n x) (K : WayOk x f co) {i k : Nat} : has (obR x f co) i k = true ↔ (Com x f co i k /\ ¬ Th x i k) \/ ((DobP x f co i k \/ AobP x f i k \/ BobP x co i k) /\ Mem x i /\ Mem x k) := by
  have hn := W.n
  have hn : x.ev.length <= 32 := by omega
  have e : (obsR x f co).length = x.ev.length := by rw [obsR, outerR_len]
  unfold obR
  rw [h_or (by simp only [orR_len, e]; omega) (by simp only [go_sem, e]), h_or (by simp only [orR_len, e]; omega) (by simp only [go_sem, e]), h_or (by rw [e]; omega) (by simp only [go_sem, e]), Bool.or_eq_true, Bool.or_eq_true, Bool.or_eq_true, h_dob W K, h_aob W K, h_bob W K, obsR, h_outer hn (comR_len _ _ _)]
  constructor
  . rintro (((h | h) | h) | h)
    . exact .inl h
    . exact .inr ⟨.inl h.1, h.2⟩
    . exact .inr ⟨.inr (.inl h.1), h.2⟩
    . exact .inr ⟨.inr (.inr h.1), h.2⟩
  . rintro (h | ⟨h | h | h, h2⟩)
    . exact .inl (.inl (.inl h))
    . exact .inl (.inl (.inr ⟨h, h2⟩))
    . exact .inl (.inr ⟨h, h2⟩)
    . exact .inr ⟨h, h2⟩
def InP (x : Ex) (f : List Int) (co : Rl) (i k : Nat) : Prop := (has co i k = true \/ has (frR x.ev f co) i k = true) /\ Th x i k
theorem h_wide (W : WfE n x) (K : WayOk x f co) {i k : Nat} : has (wideR x f co) i k = true ↔ has (obR x f co) i k = true \/ InP x f co i k := by
  have hn := W.n; have l5 := K.cl
  have hn : x.ev.length <= 32 := by omega
  unfold wideR InP
  rw [h_or (by simp only [go_sem]; omega) (by simp only [go_sem]; omega), Bool.or_eq_true, h_within hn (by simp only [go_sem]; omega), h_or (by omega) (by simp only [go_sem]; omega), Bool.or_eq_true]
  refine or_congr Iff.rfl ?_
  constructor
  . rintro ⟨h1, _, h2⟩; exact ⟨h1, h2⟩
  . rintro ⟨h1, h2⟩
    refine ⟨h1, ?_, h2⟩
    rcases h1 with h1 | h1
    . exact (K.sub _ _ h1).2.2.2
    . obtain ⟨_, _, h3, h4, _⟩ := (h_fr hn K).1 h1
      intro e; subst e; omega
theorem int_po (W : WfE n x) (K : WayOk x f co) (hI : internalB x f co = true) {i k : Nat} (h : Com x f co i k) (ht : Th x i k) : has x.po i k = true := by
  have hn := W.n
  have hn : x.ev.length <= 32 := by omega
  have lp := W.lpo
  obtain ⟨h1, h2, h3, h4, h5, h6⟩ := com_ok hn K h
  rw [W.po]
  rcases Nat.lt_or_gt_of_ne h3 with hl | hl
  . exact ⟨hl, h2, ht⟩
  . exfalso
    have key : ∀ a b, has (orR (polocR x) (comR x.ev f co)) a b = true ↔ has (polocR x) a b = true \/ Com x f co a b := fun a b => by
      rw [h_or (by simp only [go_sem]; omega) (by simp only [go_sem]; omega), Bool.or_eq_true]
    refine acy_iff.1 hI i (Relation.TransGen.tail (.single ((key i k).2 (.inr h))) ((key k i).2 (.inl ?_)))
    rw [h_poloc W]
    exact ⟨(W.po _ _).2 ⟨hl, h1, ht.symm⟩, h5, h4, h6.symm⟩
theorem int_no (W : WfE n x) (K : WayOk x f co) (hI : internalB x f co = true) {i k : Nat} (h : Com x f co i k) (hp : has x.po k i = true) : False := by
  have h1 := int_po W K hI h ((W.po _ _).1 hp).2.2.symm
  have := (W.po _ _).1 hp
  have := (W.po _ _).1 h1
  omega
end Go.Sim
