/- Part: PureL, PureM, PureI -/
import Derived.Test.YtoaboplnnhifpaaGreatWayA
set_option linter.all false
namespace Go.Sim
open Enc (enc)
open Go.Proofs
variable {n : Int} {x : Ex} {f : List Int} {co : Rl}
theorem and_same' {a b : Rl} (ha : a.length <= 32) (hl : a.length = b.length) (h : ∀ i k, has b i k = true -> has a i k = true) : sameR (andR a b) b = true := by
  rw [sameR_iff]
  refine ⟨by rw [andR_len]; exact hl, fun i k => ?_⟩
  rw [h_and ha]
  cases e : has b i k
  . simp
  . rw [h i k e]; rfl
theorem WfE.n32 (W : WfE n x) : x.ev.length <= 32 := by have := W.n; omega
theorem isb_po' (W : WfE n x) {i k : Nat} (h : IsbP x i k) : has x.po i k = true := isb_po W ((h_isb W).2 h)
theorem stat_po (W : WfE n x) {i k : Nat} (h : StatP x i k) : has x.po i k = true := by
  rcases h with h | h | h | h | h
  . exact (W.addr _ _ h).1
  . exact (W.data _ _ h).1
  . exact (W.ctrl _ _ h.1).1
  . exact isb_po' W h.1
  . exact ahead_po W ((h_ahead W).2 h.1)
theorem fen_po (W : WfE n x) {i k : Nat} (h : FenP x i k) : has x.po i k = true := by
  obtain ⟨j, h1, h2, _⟩ := h; exact po_trans W h1 h2
theorem in_po (W : WfE n x) (K : WayOk x f co) (hI : internalB x f co = true) {i k : Nat} (h : InP x f co i k) : has x.po i k = true := by
  refine int_po W K hI ((h_com W.n32 K).2 ?_) h.2
  rcases h.1 with h | h
  . exact .inr (.inl h)
  . exact .inr (.inr h)
theorem in_ok (W : WfE n x) (K : WayOk x f co) {i k : Nat} (h : InP x f co i k) : i < x.ev.length /\ k < x.ev.length /\ Mem x i /\ (gd x.ev k).kind = 2 /\ (gd x.ev i).loc = (gd x.ev k).loc /\ (((gd x.ev i).kind = 2 /\ has co i k = true) \/ ((gd x.ev i).kind = 1 /\ has (frR x.ev f co) i k = true)) := by
  have hc := K.cl
  rcases h.1 with h | h
  . have s := K.sub _ _ h
    have := has_lt h
    exact ⟨by omega, by omega, by simp [Mem, s.1], s.2.1, s.2.2.1, .inl ⟨s.1, h⟩⟩
  . obtain ⟨h1, h2, h3, h4, h5, _⟩ := (h_fr W.n32 K).1 h
    exact ⟨h1, h2, by simp [Mem, h3], h4, h5.symm, .inr ⟨h3, h⟩⟩
theorem fr_co (W : WfE n x) (K : WayOk x f co) {i j k : Nat} (h : has (frR x.ev f co) i j = true) (h2 : has co j k = true) : has (frR x.ev f co) i k = true := by
  have s := K.sub _ _ h2
  have := has_lt h2
  have hc := K.cl
  obtain ⟨h1, _, h3, h4, h5, h6⟩ := (h_fr W.n32 K).1 h
  refine (h_fr W.n32 K).2 ⟨h1, by omega, h3, s.2.1, by rw [← s.2.2.1]; exact h5, ?_⟩
  rcases h6 with h6 | ⟨w, e, h6⟩
  . exact .inl h6
  . exact .inr ⟨w, e, K.tr _ _ _ h6 h2⟩
theorem in_in (W : WfE n x) (K : WayOk x f co) {i j k : Nat} (h : InP x f co i j) (h2 : InP x f co j k) : InP x f co i k := by
  have a := in_ok W K h
  have b := in_ok W K h2
  refine ⟨?_, h.2.trans h2.2⟩
  rcases b.2.2.2.2.2 with ⟨_, b⟩ | ⟨b, _⟩
  . rcases a.2.2.2.2.2 with ⟨_, a⟩ | ⟨_, a⟩
    . exact .inl (K.tr _ _ _ a b)
    . exact .inr (fr_co W K a b)
  . have := a.2.2.2.1
    omega
theorem rf_fr (W : WfE n x) (K : WayOk x f co) {i j k : Nat} (h : has (rfR x.ev.length f) i j = true) (h2 : has (frR x.ev f co) j k = true) : has co i k = true := by
  obtain ⟨_, _, e⟩ := (h_rf W.n32 K).1 h
  obtain ⟨_, _, _, _, _, h6⟩ := (h_fr W.n32 K).1 h2
  rcases h6 with h6 | ⟨w, e2, h6⟩
  . omega
  . obtain rfl : w = i := by omega
    exact h6
theorem lead (W : WfE n x) (K : WayOk x f co) (hI : internalB x f co = true) {a b c : Nat} (h : has (obR x f co) a b = true) (s : InP x f co b c) : Way (obR x f co) a c \/ InP x f co a c := by
  have hn := W.n32
  have po := in_po W K hI s
  obtain ⟨hb, hc, mb, kc, hl, hs⟩ := in_ok W K s
  have mc : Mem x c := by simp [Mem, kc]
  have ob : ∀ {i k : Nat}, (DobP x f co i k \/ AobP x f i k \/ BobP x co i k) -> Mem x i -> Mem x k -> has (obR x f co) i k = true := fun h1 h2 h3 => (h_ob W K).2 (.inr ⟨h1, h2, h3⟩)
  rcases (h_ob W K).1 h with ⟨h, ht⟩ | ⟨h, ma, _⟩
  . -- from thread to thread
    have ht2 : ¬ Th x a c := fun e => ht (e.trans s.2.symm)
    refine .inl (.single ((h_ob W K).2 (.inl ⟨(h_com hn K).2 ?_, ht2⟩)))
    rcases hs with ⟨kb, hs⟩ | ⟨kb, hs⟩
    . rcases (h_com hn K).1 h with h | h | h
      . have := (rf_ok hn K h).2.2.2.2.1
        omega
      . exact .inr (.inl (K.tr _ _ _ h hs))
      . exact .inr (.inr (fr_co W K h hs))
    . rcases (h_com hn K).1 h with h | h | h
      . exact .inr (.inl (rf_fr W K h hs))
      . have := (K.sub _ _ h).2.1
        omega
      . have := ((h_fr hn K).1 h).2.2.2.1
        omega
  . rcases h with h | h | h
    . -- dob
      rcases h with h | ⟨j, h1, h2, h3⟩ | ⟨j, h1, h2, h3⟩
      . rcases h with h | h | ⟨h, kb⟩ | ⟨h, kb⟩ | ⟨h, kb⟩
        . exact .inl (.single (ob (.inl (.inl (.inr (.inr (.inr (.inr ⟨⟨b, h, po⟩, kc⟩)))))) ma mc))
        . have kb := (W.data _ _ h).2.2
          rcases hs with ⟨_, hs⟩ | ⟨e, _⟩
          . exact .inl (.single (ob (.inl (.inr (.inl ⟨b, .inr h, hs, s.2⟩))) ma mc))
          . omega
        . rcases hs with ⟨_, hs⟩ | ⟨e, _⟩
          . exact .inl (.single (ob (.inl (.inr (.inl ⟨b, .inl h, hs, s.2⟩))) ma mc))
          . omega
        . obtain ⟨j, h1, _, h3⟩ := h
          have p3 := po_trans W h3 po
          refine .inl (.single (ob (.inl (.inl ?_)) ma mc))
          rcases h1 with h1 | ⟨m, h4, h5⟩
          . exact .inr (.inr (.inl ⟨W.ctrlM _ _ _ h1 p3, kc⟩))
          . exact .inr (.inr (.inr (.inr ⟨⟨m, h4, po_trans W h5 p3⟩, kc⟩)))
        . obtain ⟨m, h4, h5⟩ := h
          exact .inl (.single (ob (.inl (.inl (.inr (.inr (.inr (.inr ⟨⟨m, h4, po_trans W h5 po⟩, kc⟩)))))) ma mc))
      . have kb := (K.sub _ _ h2).2.1
        rcases hs with ⟨_, hs⟩ | ⟨e, _⟩
        . exact .inl (.single (ob (.inl (.inr (.inl ⟨j, h1, K.tr _ _ _ h2 hs, h3.trans s.2⟩))) ma mc))
        . omega
      . have kb := (rf_ok hn K h2).2.2.2.2.1
        rcases hs with ⟨e, _⟩ | ⟨_, hs⟩
        . omega
        . have c2 := rf_fr W K h2 hs
          have t2 : Th x j c := h3.trans s.2
          have p2 := int_po W K hI ((h_com hn K).2 (.inr (.inl c2))) t2
          rcases h1 with h1 | h1
          . exact .inl (.single (ob (.inl (.inl (.inr (.inr (.inr (.inr ⟨⟨j, h1, p2⟩, kc⟩)))))) ma mc))
          . exact .inl (.single (ob (.inl (.inr (.inl ⟨j, .inr h1, c2, t2⟩))) ma mc))
    . -- aob
      rcases h with h | ⟨h, h2, _⟩
      . obtain ⟨p1, ka, kb, _, _, la⟩ := W.rmw _ _ h
        rcases hs with ⟨_, hs⟩ | ⟨e, _⟩
        . right
          have tac : Th x a c := ((W.po _ _).1 p1).2.2.trans s.2
          refine ⟨.inr (fr_co W K (j := b) ?_ hs), tac⟩
          have hab := (W.po _ _).1 p1
          refine (h_fr hn K).2 ⟨by omega, hb, ka, kb, la.symm, ?_⟩
          rcases K.src a (by omega) with ⟨e, _⟩ | ⟨_, e | ⟨w, e, hw, kw, lw⟩⟩
          . exact absurd ka e
          . exact .inl e
          . refine .inr ⟨w, e, ?_⟩
            have hrf : has (rfR x.ev.length f) w a = true := (h_rf hn K).2 ⟨hw, by omega, e⟩
            by_cases hwb : w = b
            . subst hwb
              exact (int_no W K hI ((h_com hn K).2 (.inl hrf)) p1).elim
            . rcases K.tot w b hw hb kw kb (by omega) hwb with hh | hh
              . exact hh
              . exfalso
                have lp := W.lpo
                have key : ∀ a b, has (orR (polocR x) (comR x.ev f co)) a b = true ↔ has (polocR x) a b = true \/ Com x f co a b := fun a b => by
                  rw [h_or (by simp only [go_sem]; omega) (by simp only [go_sem]; omega), Bool.or_eq_true]
                refine acy_iff.1 hI b (Relation.TransGen.tail (Relation.TransGen.tail (.single ((key b w).2 (.inr ((h_com hn K).2 (.inr (.inl hh)))))) ((key w a).2 (.inr ((h_com hn K).2 (.inl hrf))))) ((key a b).2 (.inl ?_)))
                rw [h_poloc W]
                exact ⟨p1, by simp [ka], by simp [kb], la⟩
        . omega
      . right
        have kb := (rf_ok hn K h).2.2.2.2.1
        rcases hs with ⟨e, _⟩ | ⟨_, hs⟩
        . omega
        . exact ⟨.inl (rf_fr W K h hs), h2.trans s.2⟩
    . -- bob
      rcases h with ⟨j, h1, h2, h3⟩ | ⟨h1, h2⟩ | ⟨j, h1, h2, h3, h4⟩
      . refine .inl (.single (ob (.inr (.inr (.inl ⟨j, h1, po_trans W h2 po, ?_⟩))) ma mc))
        rcases h3 with h3 | h3 | ⟨h3, h4, _⟩
        . exact .inl h3
        . exact .inr (.inl h3)
        . exact .inr (.inr ⟨h3, h4, kc⟩)
      . rcases h2 with h2 | h2 | ⟨_, h2⟩
        . exact .inl (.single (ob (.inr (.inr (.inr (.inl ⟨po_trans W h1 po, .inl h2⟩)))) ma mc))
        . have kb : (gd x.ev b).kind = 2 := by
            unfold relG at h2; simp only [Bool.and_eq_true, decide_eq_true_eq] at h2; exact h2.1
          rcases hs with ⟨_, hs⟩ | ⟨e, _⟩
          . exact .inl (.single (ob (.inr (.inr (.inr (.inr ⟨b, h1, h2, hs, s.2⟩)))) ma mc))
          . omega
        . exact .inl (.tail (.single h) (ob (.inr (.inr (.inr (.inl ⟨po, .inl h2⟩)))) mb mc))
      . have kb := (K.sub _ _ h3).2.1
        rcases hs with ⟨_, hs⟩ | ⟨e, _⟩
        . exact .inl (.single (ob (.inr (.inr (.inr (.inr ⟨j, h1, h2, K.tr _ _ _ h3 hs, h4.trans s.2⟩)))) ma mc))
        . omega
theorem lead_way (W : WfE n x) (K : WayOk x f co) (hI : internalB x f co = true) {a b c : Nat} (h : Way (obR x f co) a b) (s : InP x f co b c) : Way (obR x f co) a c \/ InP x f co a c := by
  induction h generalizing c with
  | single h => exact lead W K hI h s
  | tail h h2 ih =>
    rcases lead W K hI h2 s with h3 | h3
    . exact .inl (h.trans h3)
    . exact ih h3
theorem wide_pure (W : WfE n x) (K : WayOk x f co) (hI : internalB x f co = true) (hE : externalB x f co = true) : acyR (wideR x f co) = true /\ sameR (andR (wideR x f co) (obR x f co)) (obR x f co) = true := by
  have hn := W.n32
  have norm : ∀ {a c : Nat}, Way (wideR x f co) a c -> Way (obR x f co) a c \/ InP x f co a c \/ ∃ m, InP x f co a m /\ Way (obR x f co) m c := by
    intro a c h
    induction h with
    | single h =>
      rcases (h_wide W K).1 h with h | h
      . exact .inl (.single h)
      . exact .inr (.inl h)
    | tail h h2 ih =>
      rcases (h_wide W K).1 h2 with h2 | h2
      . rcases ih with ih | ih | ⟨m, i1, i2⟩
        . exact .inl (.tail ih h2)
        . exact .inr (.inr ⟨_, ih, .single h2⟩)
        . exact .inr (.inr ⟨m, i1, .tail i2 h2⟩)
      . rcases ih with ih | ih | ⟨m, i1, i2⟩
        . rcases lead_way W K hI ih h2 with h3 | h3
          . exact .inl h3
          . exact .inr (.inl h3)
        . exact .inr (.inl (in_in W K ih h2))
        . rcases lead_way W K hI i2 h2 with h3 | h3
          . exact .inr (.inr ⟨m, i1, h3⟩)
          . exact .inr (.inl (in_in W K i1 h3))
  have no : ∀ a, ¬ InP x f co a a := fun a h => by
    have := (W.po _ _).1 (in_po W K hI h); omega
  refine ⟨acy_iff.2 fun i h => ?_, and_same' (by simp only [go_sem]; omega) (by simp only [go_sem]) fun i k h => (h_wide W K).2 (.inl h)⟩
  rcases norm h with h | h | ⟨m, h1, h2⟩
  . exact acy_iff.1 hE i h
  . exact no i h
  . rcases lead_way W K hI h2 h1 with h3 | h3
    . exact acy_iff.1 hE m h3
    . exact no m h3
end Go.Sim
namespace Go.Sim
open Enc (enc)
open Go.Proofs
variable {n : Int} {x : Ex} {f : List Int} {co : Rl}
def freeX (x : Ex) : Ex := { x with rmw := noneR x.ev.length }
theorem none_has {m i k : Nat} (hm : m <= 32) : has (noneR m) i k = false := by rw [noneR, has_mk hm]; simp
theorem own_last (W : WfE n x) {r : Nat} (hr : r < x.ev.length) (hk : (gd x.ev r).kind = 1) :
    (ownZ x r = -1 /\ ∀ w, has x.po w r = true -> (gd x.ev w).kind = 2 -> (gd x.ev w).loc ≠ (gd x.ev r).loc) \/
    ∃ w : Nat, ownZ x r = (w : Int) /\ has x.po w r = true /\ (gd x.ev w).kind = 2 /\ (gd x.ev w).loc = (gd x.ev r).loc /\ ∀ v, has x.po v r = true -> (gd x.ev v).kind = 2 -> (gd x.ev v).loc = (gd x.ev r).loc -> v <= w := by
  have hrd : readsB x (r : Int) = true := by unfold readsB; simp [hr, hk]
  have mem : ∀ z : Int, z ∈ ownL x r ↔ ∃ w : Nat, z = (w : Int) /\ has x.po w r = true /\ (gd x.ev w).kind = 2 /\ (gd x.ev w).loc = (gd x.ev r).loc := fun z => by
    unfold ownL
    simp only [List.mem_map, List.mem_filter, List.mem_range, ownQ, Bool.and_eq_true, decide_eq_true_eq]
    constructor
    . rintro ⟨w, ⟨_, h1, h2, _, h4⟩, rfl⟩; exact ⟨w, rfl, h4, h1, h2⟩
    . rintro ⟨w, rfl, h1, h2, h3⟩
      have := (W.po _ _).1 h1
      exact ⟨w, ⟨by omega, h2, h3, this.2.2, h1⟩, rfl⟩
  have hz : ownZ x r = ((ownL x r).find? (lastB x (ownL x r))).getD (-1) := by
    unfold ownZ; rw [hrd, if_pos rfl, Int.toNat_natCast]
  cases hf : (ownL x r).find? (lastB x (ownL x r)) with
  | some v =>
    right
    rw [hf] at hz
    obtain ⟨w, rfl, h1, h2, h3⟩ := (mem v).1 (List.mem_of_find?_eq_some hf)
    refine ⟨w, hz, h1, h2, h3, fun v hv hk2 hl2 => ?_⟩
    have hl := List.find?_some hf
    unfold lastB at hl
    rw [List.all_eq_true] at hl
    have := hl (v : Int) ((mem _).2 ⟨v, rfl, hv, hk2, hl2⟩)
    simp only [hasZ, Bool.not_eq_true'] at this
    rcases Nat.lt_or_ge w v with hlt | hge
    . exfalso
      have hlate : has (lateR x) w v = true := (late_iff W).2 ⟨hlt, by have := (W.po _ _).1 hv; omega, by have := (W.po _ _).1 hv; have := (W.po _ _).1 h1; omega, h2, hk2, by omega⟩
      simp [hlate] at this
    . exact hge
  | none =>
    left
    rw [hf] at hz
    refine ⟨hz, ?_⟩
    -- the last of some
    by_cases hne : ownL x r = []
    . intro w hw hk2 hl2
      have := (mem (w : Int)).2 ⟨w, rfl, hw, hk2, hl2⟩
      rw [hne] at this; cases this
    . exfalso
      -- the greatest
      have hmax : ∃ m : Nat, (m : Int) ∈ ownL x r /\ ∀ v : Nat, (v : Int) ∈ ownL x r -> v <= m := by
        have : ∀ (k : Nat), (∃ m : Nat, m <= k /\ (m : Int) ∈ ownL x r) -> ∃ m : Nat, (m : Int) ∈ ownL x r /\ ∀ v : Nat, v <= k -> (v : Int) ∈ ownL x r -> v <= m := by
          intro k
          induction k with
          | zero => rintro ⟨m, hm, h⟩; exact ⟨m, h, fun v hv _ => by omega⟩
          | succ k ih =>
            rintro ⟨m, hm, h⟩
            by_cases hk1 : ((k + 1 : Nat) : Int) ∈ ownL x r
            . exact ⟨k + 1, hk1, fun v hv _ => hv⟩
            . have hmk : m ≠ k + 1 := fun e => by subst e; exact hk1 h
              obtain ⟨m', h1, h2⟩ := ih ⟨m, by omega, h⟩
              refine ⟨m', h1, fun v hv hv2 => ?_⟩
              by_cases hvk : v = k + 1
              . subst hvk; exact absurd hv2 hk1
              . exact h2 v (by omega) hv2
        obtain ⟨z, hz0⟩ := List.exists_mem_of_ne_nil _ hne
        obtain ⟨w, rfl, h1, _⟩ := (mem z).1 hz0
        obtain ⟨m, h1', h2'⟩ := this x.ev.length ⟨w, by have := (W.po _ _).1 h1; omega, hz0⟩
        refine ⟨m, h1', fun v hv => h2' v ?_ hv⟩
        obtain ⟨u, e, h3, _⟩ := (mem _).1 hv
        have := (W.po _ _).1 h3; omega
      obtain ⟨m, hm, hall⟩ := hmax
      have := List.find?_eq_none.1 hf _ hm
      apply this
      unfold lastB
      rw [List.all_eq_true]
      intro z hz0
      obtain ⟨v, rfl, _⟩ := (mem z).1 hz0
      have hle := hall v hz0
      rw [Bool.not_eq_true']
      cases hh : hasZ (lateR x) (m : Int) (v : Int) with
      | false => rfl
      | true =>
        rw [show hasZ (lateR x) (m : Int) (v : Int) = has (lateR x) m v by simp [hasZ]] at hh
        have := ((late_iff W).1 hh).1
        omega
theorem own_law (W : WfE n x) (K : WayOk x f co) (hI : internalB x f co = true) {r : Nat} (hr : r < x.ev.length) (hk : (gd x.ev r).kind = 1) :
    (0 <= gd f r -> Th x (gd f r).toNat r -> gd f r = ownZ x r) /\ (0 <= ownZ x r -> gd f r ≠ ownZ x r -> 0 <= gd f r /\ has co (ownZ x r).toNat (gd f r).toNat = true) := by
  have hn := W.n32
  have fr0 : ∀ w : Nat, has x.po w r = true -> (gd x.ev w).kind = 2 -> (gd x.ev w).loc = (gd x.ev r).loc -> gd f r = -1 -> False := fun w h1 h2 h3 e => by
    have := (W.po _ _).1 h1
    exact int_no W K hI ((h_com hn K).2 (.inr (.inr ((h_fr hn K).2 ⟨hr, by omega, hk, h2, h3, .inl e⟩)))) h1
  have fr1 : ∀ w v : Nat, has x.po w r = true -> (gd x.ev w).kind = 2 -> (gd x.ev w).loc = (gd x.ev r).loc -> gd f r = (v : Int) -> has co v w = true -> False := fun w v h1 h2 h3 e h4 => by
    have := (W.po _ _).1 h1
    exact int_no W K hI ((h_com hn K).2 (.inr (.inr ((h_fr hn K).2 ⟨hr, by omega, hk, h2, h3, .inr ⟨v, e, h4⟩⟩)))) h1
  constructor
  . intro h0 ht
    rcases K.src r hr with ⟨e, _⟩ | ⟨_, e | ⟨v, e, hv, kv, lv⟩⟩
    . exact absurd hk e
    . omega
    . rw [e, Int.toNat_natCast] at ht
      have hrf : has (rfR x.ev.length f) v r = true := (h_rf hn K).2 ⟨hv, hr, e⟩
      have hpo := int_po W K hI ((h_com hn K).2 (.inl hrf)) ht
      rcases own_last W hr hk with ⟨_, hno⟩ | ⟨w, ew, h1, h2, h3, hl⟩
      . exact absurd lv (hno v hpo kv)
      . have hle := hl v hpo kv lv
        by_cases hvw : v = w
        . subst hvw; rw [e, ew]
        . exfalso
          have hw := (W.po _ _).1 h1
          have hv2 := (W.po _ _).1 hpo
          have hpvw : has x.po v w = true := (W.po _ _).2 ⟨by omega, by omega, by omega⟩
          rcases K.tot v w hv (by omega) kv h2 (by omega) hvw with hc | hc
          . exact fr1 w v h1 h2 h3 e hc
          . exact int_no W K hI ((h_com hn K).2 (.inr (.inl hc))) hpvw
  . intro h0 hne
    rcases own_last W hr hk with ⟨ew, _⟩ | ⟨w, ew, h1, h2, h3, _⟩
    . omega
    . rw [ew] at hne ⊢
      rw [Int.toNat_natCast]
      rcases K.src r hr with ⟨e, _⟩ | ⟨_, e | ⟨v, e, hv, kv, lv⟩⟩
      . exact absurd hk e
      . exact (fr0 w h1 h2 h3 e).elim
      . rw [e, Int.toNat_natCast]
        refine ⟨by omega, ?_⟩
        have hw := (W.po _ _).1 h1
        rcases K.tot w v (by omega) hv h2 kv (by omega) (by omega) with hc | hc
        . exact hc
        . exact (fr1 w v h1 h2 h3 e hc).elim
end Go.Sim
namespace Go.Sim
open Enc (enc)
open Go.Proofs
variable {n : Int} {x : Ex} {f : List Int} {co : Rl}
def wantTo (x : Ex) (f : List Int) : Nat -> Rl
  | 0 => aheadZ x
  | r + 1 => if gd f r < 0 \/ (gd x.ev (gd f r).toNat).thread ≠ (gd x.ev r).thread then wantTo x f r else
    if shutB x (r : Int) (gd f r) = true then putR (orR (wantTo x f r) (crossR x.ev.length (needsM x (gd f r)) (1#32 <<< r))) (gd f r) r
    else orR (wantTo x f r) (crossR x.ev.length (needsM x (gd f r)) (1#32 <<< r))
@[go_sem] theorem wantTo_len (x : Ex) (f : List Int) : ∀ m, (wantTo x f m).length = x.ev.length
  | 0 => aheadZ_len x
  | r + 1 => by
    rw [wantTo]
    split
    . exact wantTo_len x f r
    . split
      . rw [putR_len, orR_len]; exact wantTo_len x f r
      . rw [orR_len]; exact wantTo_len x f r
def MoreP (x : Ex) (f : List Int) (i k : Nat) : Prop := ∃ w : Nat, gd f k = (w : Int) /\ k < x.ev.length /\ Th x w k /\ ((has x.addr i w = true \/ has x.data i w = true) \/ (i = w /\ acqG (gd x.ev k) = true /\ ∃ m, has x.rmw m w = true))
theorem orsTo_has {l : List (Int × Int)} (hl : ∀ q ∈ l, 0 <= q.1 /\ q.1 < 32) {i : Nat} : ∀ {k : Nat}, k <= l.length -> ∀ j, j < k -> (gd l j).1 = (i : Int) -> (orsTo l k).getLsbD i = true
  | 0, _, j, hj, _ => by omega
  | k + 1, hk, j, hj, e => by
    rw [orsTo, BitVec.getLsbD_or, Bool.or_eq_true]
    by_cases h : j = k
    . subst h
      right
      have := hl _ (gd_mem (show j < l.length by omega))
      rw [e, Int.toNat_natCast, one_get (by omega)]; simp
    . exact .inl (orsTo_has hl (by omega) j (by omega) e)
theorem needs_bit (W : WfE n x) {w i : Nat} (hw : w < x.ev.length) : (needsM x (w : Int)).getLsbD i = true ↔ has x.addr i w = true \/ has x.data i w = true := by
  have hn := W.n32; have l3 := W.laddr; have l4 := W.ldata
  unfold needsM
  rw [if_neg (by omega), Int.toNat_natCast]
  have ok : ∀ q ∈ needL x w, ∃ a b : Nat, q = ((a : Int), (b : Int)) /\ a < x.ev.length /\ b < x.ev.length := prs_ok (by simp only [go_sem]; omega)
  have hin : ∀ a b : Nat, ((a : Int), (b : Int)) ∈ needL x w ↔ b = w /\ (has x.addr a b = true \/ has x.data a b = true) := fun a b => by
    unfold needL
    rw [mem_pairsR]
    constructor
    . rintro ⟨a', b', e, h⟩
      simp only [Prod.mk.injEq, Int.natCast_inj] at e
      obtain ⟨rfl, rfl⟩ := e
      rw [h_only (by simp only [go_sem]; omega), Bool.and_eq_true, Bool.and_eq_true, h_or (by omega) (by omega), Bool.or_eq_true] at h
      have hb : b < x.ev.length := by
        rcases h.1 with h | h
        . have := has_lt h; omega
        . have := has_lt h; omega
      rw [one_get (by omega)] at h
      exact ⟨by simpa using h.2.2, h.1⟩
    . rintro ⟨rfl, h⟩
      refine ⟨a, b, rfl, ?_⟩
      rw [h_only (by simp only [go_sem]; omega), Bool.and_eq_true, Bool.and_eq_true, h_or (by omega) (by omega), Bool.or_eq_true]
      have ha : a < x.ev.length := by
        rcases h with h | h
        . have := has_lt h; omega
        . have := has_lt h; omega
      exact ⟨h, ones_get (by omega), by rw [one_get (by omega)]; simp⟩
  constructor
  . intro h
    obtain ⟨q, hq, hqj⟩ := orsTo_bit (fun q hq => by obtain ⟨a, b, rfl, ha, _⟩ := ok q hq; simp only; omega) (Nat.le_refl _) h
    obtain ⟨a, b, rfl, _, _⟩ := ok q hq
    simp only at hqj
    obtain rfl : a = i := by omega
    obtain ⟨rfl, h2⟩ := (hin _ _).1 hq
    exact h2
  . intro h
    have hq := (hin i w).2 ⟨rfl, h⟩
    have hi : i < x.ev.length := by
      rcases h with h | h
      . have := has_lt h; omega
      . have := has_lt h; omega
    obtain ⟨j, hj, e⟩ := List.mem_iff_getElem.1 hq
    rw [gd_get hj] at e
    exact orsTo_has (fun q hq => by obtain ⟨a, b, rfl, ha, _⟩ := ok q hq; simp only; omega) (Nat.le_refl _) j hj (by rw [e])
theorem shut_iff (W : WfE n x) {w k : Nat} (hw : w < x.ev.length) (hk : k < x.ev.length) : shutB x (k : Int) (w : Int) = true ↔ acqG (gd x.ev k) = true /\ ∃ m, has x.rmw m w = true := by
  have hn := W.n32; have l3 := W.lrmw
  unfold shutB
  rw [if_neg (by omega), Int.toNat_natCast, Int.toNat_natCast, Bool.and_eq_true, h_mask hn hk, decide_eq_true_eq]
  refine and_congr_right fun _ => ?_
  constructor
  . intro h
    obtain ⟨p, hp⟩ := List.exists_mem_of_length_pos h
    obtain ⟨a, b, rfl, hab⟩ := mem_pairsR.1 hp
    rw [h_only (by omega), Bool.and_eq_true, Bool.and_eq_true] at hab
    have hl := has_lt hab.1
    rw [one_get (by omega)] at hab
    have : b = w := by simpa using hab.2.2
    subst this
    exact ⟨a, hab.1⟩
  . rintro ⟨m, hm⟩
    have hl := has_lt hm
    refine List.length_pos_of_mem (a := ((m : Int), (w : Int))) (mem_pairsR.2 ⟨m, w, rfl, ?_⟩)
    rw [h_only (by omega), Bool.and_eq_true, Bool.and_eq_true, one_get (by omega)]
    exact ⟨hm, ones_get (by omega), by simp⟩
theorem h_cross {m : Nat} (hm : m <= 32) {s t : U32} {i k : Nat} : has (crossR m s t) i k = true ↔ i < m /\ k < m /\ s.getLsbD i = true /\ t.getLsbD k = true := by
  rw [crossR, has_mk hm]; simp
theorem h_want (W : WfE n x) (K : WayOk x f co) {i k : Nat} : ∀ {m : Nat}, m <= x.ev.length -> (has (wantTo x f m) i k = true ↔ has (aheadZ x) i k = true \/ (k < m /\ MoreP x f i k))
  | 0, _ => by rw [wantTo]; simp
  | m + 1, hm => by
    have hn := W.n32
    have l1 := W.laddr; have l2 := W.ldata
    have ih := h_want W K (i := i) (k := k) (m := m) (by omega)
    have le := wantTo_len x f m
    rw [wantTo]
    split
    . rename_i hc
      rw [ih]
      refine or_congr_right ⟨fun h => ⟨by omega, h.2⟩, fun h => ⟨?_, h.2⟩⟩
      have h1 := h.1
      obtain ⟨w, e, _, ht, _⟩ := h.2
      by_cases hk : k = m
      . subst hk
        rw [e, Int.toNat_natCast] at hc
        rcases hc with hc | hc
        . omega
        . exact absurd ht hc
      . omega
    . rename_i hc
      obtain ⟨w, e⟩ := Int.eq_ofNat_of_zero_le (a := gd f m) (by omega)
      have hw : w < x.ev.length := by
        rcases K.src m (by omega) with ⟨_, e2⟩ | ⟨_, e2 | ⟨w', e2, h, _⟩⟩
        . omega
        . omega
        . omega
      rw [e, Int.toNat_natCast] at hc
      have ht : Th x w m := by
        rcases Classical.em ((gd x.ev w).thread = (gd x.ev m).thread) with h | h
        . exact h
        . exact absurd (.inr h) hc
      have hcr : has (crossR x.ev.length (needsM x (gd f m)) (1#32 <<< m)) i k = true ↔ k = m /\ (has x.addr i w = true \/ has x.data i w = true) := by
        rw [h_cross hn, e, needs_bit W hw]
        constructor
        . rintro ⟨_, _, h3, h4⟩
          rw [one_get (by omega)] at h4
          exact ⟨by simpa using h4, h3⟩
        . rintro ⟨rfl, h3⟩
          refine ⟨?_, by omega, h3, by rw [one_get (by omega)]; simp⟩
          rcases h3 with h3 | h3
          . have := has_lt h3; omega
          . have := has_lt h3; omega
      have more : ∀ k, k = m -> (MoreP x f i k ↔ (has x.addr i w = true \/ has x.data i w = true) \/ (i = w /\ shutB x (m : Int) (gd f m) = true)) := by
        rintro k rfl
        rw [e, shut_iff W hw (by omega)]
        constructor
        . rintro ⟨w', e', _, _, h⟩
          obtain rfl : w' = w := by omega
          exact h
        . intro h; exact ⟨w, e, by omega, ht, h⟩
      have lt1 : ∀ P : Prop, (k < m + 1 /\ P) ↔ ((k < m /\ P) \/ (k = m /\ P)) := fun P => by
        constructor
        . rintro ⟨h1, h2⟩
          by_cases h : k = m
          . exact .inr ⟨h, h2⟩
          . exact .inl ⟨by omega, h2⟩
        . rintro (⟨h1, h2⟩ | ⟨h1, h2⟩)
          . exact ⟨by omega, h2⟩
          . exact ⟨by omega, h2⟩
      rw [lt1]
      split
      . rename_i hs
        rw [h_put (by rw [orR_len]; omega), h_or (by omega) (by rw [crossR_len]; omega), Bool.or_eq_true, ih, hcr, orR_len, le]
        constructor
        . rintro (((h | h) | ⟨h1, h2⟩) | ⟨h1, h2, h3, h4⟩)
          . exact .inl h
          . exact .inr (.inl h)
          . exact .inr (.inr ⟨h1, (more k h1).2 (.inl h2)⟩)
          . exact .inr (.inr ⟨by omega, (more k (by omega)).2 (.inr ⟨by omega, hs⟩)⟩)
        . rintro (h | h | ⟨h1, h2⟩)
          . exact .inl (.inl (.inl h))
          . exact .inl (.inl (.inr h))
          . rcases (more k h1).1 h2 with h3 | ⟨h3, _⟩
            . exact .inl (.inr ⟨h1, h3⟩)
            . exact .inr ⟨by omega, by omega, by omega, by omega⟩
      . rename_i hs
        rw [h_or (by omega) (by rw [crossR_len]; omega), Bool.or_eq_true, ih, hcr]
        constructor
        . rintro ((h | h) | ⟨h1, h2⟩)
          . exact .inl h
          . exact .inr (.inl h)
          . exact .inr (.inr ⟨h1, (more k h1).2 (.inl h2)⟩)
        . rintro (h | h | ⟨h1, h2⟩)
          . exact .inl (.inl h)
          . exact .inl (.inr h)
          . rcases (more k h1).1 h2 with h3 | ⟨_, h3⟩
            . exact .inr ⟨h1, h3⟩
            . exact absurd h3 hs
theorem h_aheadB (W : WfE n x) {a r : Rl} (ha : a.length = x.ev.length) (hr : r.length = x.ev.length) {i k : Nat} : has (aheadB x a r) i k = true ↔ has a i k = true \/ ((∃ j, has r i j = true /\ has (lateR x) j k = true) /\ Mem x i /\ Mem x k) := by
  have hn := W.n32; have lp := W.lpo
  unfold aheadB
  rw [h_or (by omega) (by simp only [go_sem]; omega), Bool.or_eq_true, h_mem hn (by simp only [go_sem]; omega), h_seq (by omega) (by simp only [go_sem]; omega)]
theorem h_aheadZ (W : WfE n x) {i k : Nat} : has (aheadZ x) i k = true ↔ (StatP x i k \/ has x.rmw i k = true \/ FenP x i k \/ OrdP x i k \/ ∃ j, (has x.ctrl i j = true \/ has x.data i j = true \/ (has x.po i j = true /\ relG (gd x.ev j) = true)) /\ has (lateR x) j k = true) /\ Mem x i /\ Mem x k := by
  have hn := W.n32; have l2 := W.lpo; have l3 := W.lctrl; have l4 := W.ldata; have l5 := W.lrmw
  have z0 : (ahead0 x).length = x.ev.length := by simp only [ahead0, go_sem]
  have zB : ∀ a r : Rl, (aheadB x a r).length = a.length := fun a r => by simp only [aheadB, go_sem]
  have hrel : ∀ i j, has (onlyR x.po onesB (maskB x.ev relG)) i j = true ↔ (has x.po i j = true /\ relG (gd x.ev j) = true) := fun i j => by
    rw [h_only (by omega), Bool.and_eq_true, Bool.and_eq_true]
    constructor
    . rintro ⟨h1, _, h2⟩
      have := has_lt h1
      rw [h_mask hn (by omega)] at h2
      exact ⟨h1, h2⟩
    . rintro ⟨h1, h2⟩
      have := has_lt h1
      rw [h_mask hn (by omega)]
      exact ⟨h1, ones_get (by omega), h2⟩
  unfold aheadZ
  rw [h_aheadB W (by rw [zB, zB, z0]) (by simp only [go_sem]; omega), h_aheadB W (by rw [zB, z0]) l4, h_aheadB W z0 l3]
  simp only [hrel]
  unfold ahead0
  rw [h_or (by simp only [go_sem]; omega) (by simp only [go_sem]), h_or (by simp only [go_sem]; omega) (by simp only [go_sem]; omega), h_or (by simp only [go_sem]; omega) (by simp only [go_sem])]
  simp only [Bool.or_eq_true]
  rw [h_static W, h_mem hn (by omega), h_fences W, h_orders W]
  constructor
  . rintro ((((((h | h) | (h | h)) | ⟨⟨j, h1, h2⟩, h⟩) | ⟨⟨j, h1, h2⟩, h⟩) | ⟨⟨j, h1, h2⟩, h⟩))
    . exact ⟨.inl h.1, h.2⟩
    . exact ⟨.inr (.inl h.1), h.2⟩
    . exact ⟨.inr (.inr (.inl h.1)), h.2⟩
    . exact ⟨.inr (.inr (.inr (.inl h.1))), h.2⟩
    . exact ⟨.inr (.inr (.inr (.inr ⟨j, .inl h1, h2⟩))), h⟩
    . exact ⟨.inr (.inr (.inr (.inr ⟨j, .inr (.inl h1), h2⟩))), h⟩
    . exact ⟨.inr (.inr (.inr (.inr ⟨j, .inr (.inr h1), h2⟩))), h⟩
  . rintro ⟨h | h | h | h | ⟨j, h1 | h1 | h1, h2⟩, hm⟩
    . exact .inl (.inl (.inl (.inl (.inl ⟨h, hm⟩))))
    . exact .inl (.inl (.inl (.inl (.inr ⟨h, hm⟩))))
    . exact .inl (.inl (.inl (.inr (.inl ⟨h, hm⟩))))
    . exact .inl (.inl (.inl (.inr (.inr ⟨h, hm⟩))))
    . exact .inl (.inl (.inr ⟨⟨j, h1, h2⟩, hm⟩))
    . exact .inl (.inr ⟨⟨j, h1, h2⟩, hm⟩)
    . exact .inr ⟨⟨j, h1, h2⟩, hm⟩
theorem late_coi (W : WfE n x) (K : WayOk x f co) (hI : internalB x f co = true) {j k : Nat} : has (lateR x) j k = true ↔ has co j k = true /\ Th x j k := by
  have hn := W.n32
  rw [late_iff W]
  constructor
  . rintro ⟨h1, h2, h3, h4, h5, h6⟩
    refine ⟨?_, h3⟩
    rcases K.tot j k (by omega) h2 h4 h5 h6 (by omega) with h | h
    . exact h
    . exact (int_no W K hI ((h_com hn K).2 (.inr (.inl h))) ((W.po _ _).2 ⟨h1, h2, h3⟩)).elim
  . rintro ⟨h1, h2⟩
    have s := K.sub _ _ h1
    have hp := (W.po _ _).1 (int_po W K hI ((h_com hn K).2 (.inr (.inl h1))) h2)
    exact ⟨hp.1, hp.2.1, h2, s.1, s.2.1, s.2.2.1⟩
theorem is_pure (W : WfE n x) (K : WayOk x f co) (hI : internalB x f co = true) : sameR (orR (dobR x f co) (orR (aobR x f) (bobR x co))) (wantTo x f x.ev.length) = true := by
  have hn := W.n32
  rw [sameR_iff]
  refine ⟨by simp only [go_sem], fun i k => ?_⟩
  rw [Bool.eq_iff_iff, h_or (by simp only [go_sem]; omega) (by simp only [go_sem]), h_or (by simp only [go_sem]; omega) (by simp only [go_sem]), Bool.or_eq_true, Bool.or_eq_true, h_dob W K, h_aob W K, h_bob W K, h_want W K (Nat.le_refl _), h_aheadZ W]
  simp only [late_coi W K hI]
  constructor
  . rintro (⟨h | ⟨j, h1, h2, h3⟩ | ⟨j, h1, h2, h3⟩, m1, m2⟩ | ⟨h | ⟨h1, h2, h3, h4⟩, m1, m2⟩ | ⟨h | h | ⟨j, h1, h2, h3, h4⟩, m1, m2⟩)
    . exact .inl ⟨.inl h, m1, m2⟩
    . refine .inl ⟨.inr (.inr (.inr (.inr ⟨j, ?_, h2, h3⟩))), m1, m2⟩
      rcases h1 with h1 | h1
      . exact .inl h1
      . exact .inr (.inl h1)
    . obtain ⟨_, hk, e⟩ := (h_rf hn K).1 h2
      exact .inr ⟨hk, j, e, hk, h3, .inl h1⟩
    . exact .inl ⟨.inr (.inl h), m1, m2⟩
    . obtain ⟨_, hk, e⟩ := (h_rf hn K).1 h1
      exact .inr ⟨hk, i, e, hk, h2, .inr ⟨rfl, h4, h3⟩⟩
    . exact .inl ⟨.inr (.inr (.inl h)), m1, m2⟩
    . exact .inl ⟨.inr (.inr (.inr (.inl h))), m1, m2⟩
    . exact .inl ⟨.inr (.inr (.inr (.inr ⟨j, .inr (.inr ⟨h1, h2⟩), h3, h4⟩))), m1, m2⟩
  . rintro (⟨h | h | h | h | ⟨j, h1, h2, h3⟩, m1, m2⟩ | ⟨hk, w, e, _, ht, h⟩)
    . exact .inl ⟨.inl h, m1, m2⟩
    . exact .inr (.inl ⟨.inl h, m1, m2⟩)
    . exact .inr (.inr ⟨.inl h, m1, m2⟩)
    . exact .inr (.inr ⟨.inr (.inl h), m1, m2⟩)
    . rcases h1 with h1 | h1 | ⟨h1, h4⟩
      . exact .inl ⟨.inr (.inl ⟨j, .inl h1, h2, h3⟩), m1, m2⟩
      . exact .inl ⟨.inr (.inl ⟨j, .inr h1, h2, h3⟩), m1, m2⟩
      . exact .inr (.inr ⟨.inr (.inr ⟨j, h1, h4, h2, h3⟩), m1, m2⟩)
    . rcases K.src k hk with ⟨_, e2⟩ | ⟨kk, e2 | ⟨w', e2, hw, kw, lw⟩⟩
      . omega
      . omega
      . obtain rfl : w' = w := by omega
        have hrf : has (rfR x.ev.length f) w' k = true := (h_rf hn K).2 ⟨hw, hk, e⟩
        have mk : Mem x k := by simp [Mem, kk]
        rcases h with h | ⟨rfl, h1, h2⟩
        . refine .inl ⟨.inr (.inr ⟨w', h, hrf, ht⟩), ?_, mk⟩
          rcases h with h | h
          . simp [Mem, (W.addr _ _ h).2.1]
          . simp [Mem, (W.data _ _ h).2.1]
        . exact .inr (.inl ⟨.inr ⟨hrf, ht, h2, h1⟩, by simp [Mem, kw], mk⟩)
end Go.Sim
