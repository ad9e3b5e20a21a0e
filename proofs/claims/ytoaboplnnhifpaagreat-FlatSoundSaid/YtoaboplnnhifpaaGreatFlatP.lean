/- A part of the proof of a law of module cupola: FlatP. It has no conditions of its own. -/
import Derived.Test.YtoaboplnnhifpaaGreatFlatD
set_option linter.all false
namespace Go.Sim
open Enc (enc)
open Go.Proofs
variable {n : Int} {x : Ex} {init : List Int} {f : List Int} {h : List Nat} {s : Fs}

theorem oneb {k i : Nat} (hk : k < 32) : (1#32 <<< i).getLsbD k = decide (k = i) := by
  rw [BitVec.getLsbD_shiftLeft]
  by_cases h : k = i
  · subst h; simp [hk]
  · rcases Nat.lt_or_ge k i with h2 | h2
    · simp [h, h2]
    · have : k - i ≠ 0 := by omega
      simp [h, this]
theorem pairs_none {r : Rl} (hn : ∀ i k, has r i k = false) : ((pairsR r).length : Int) = 0 := by
  have : pairsR r = [] := by
    rw [List.eq_nil_iff_forall_not_mem]
    intro p hp
    obtain ⟨a, b, _, hab⟩ := mem_pairsR.1 hp
    rw [hn] at hab; cases hab
  rw [this]; rfl
theorem acy_none {r : Rl} (hn : ∀ i k, has r i k = false) : acyR r = true := by
  rw [acy_iff]
  intro i hw
  have : ∀ {a b : Nat}, Way r a b → False := by
    intro a b w
    induction w with
    | single h => rw [hn] at h; cases h
    | tail _ h _ => rw [hn] at h; cases h
  exact this hw

def memU (x : Ex) : U32 := maskB x.ev fun y => decide (y.kind ∈ [(1 : Int), 2])
theorem memU_get (x : Ex) {k : Nat} (hk : k < 32) : (memU x).getLsbD k = true ↔ k < x.ev.length ∧ Mem x k := by
  unfold memU
  rw [maskB_get hk]
  simp [Mem]
theorem start_mask (W : WfE n x) (init : List Int) : (startR x init).d &&& memU x = 0#32 := by
  apply BitVec.eq_of_getLsbD_eq
  intro k hk
  rw [BitVec.getLsbD_and]
  show ((startD x).getLsbD k && (memU x).getLsbD k) = _
  unfold startD memU
  rw [maskB_get hk, maskB_get hk]
  cases decide ((gd x.ev k).kind ∈ [(1 : Int), 2]) <;> simp
theorem start_final (W : WfE n x) (init : List Int) : finalB x (startR x init) = decide (memU x = 0#32) := by
  have h32 := W.n32'
  rw [Bool.eq_iff_iff, decide_eq_true_eq]
  unfold finalB
  rw [List.all_eq_true]
  constructor
  · intro h
    apply BitVec.eq_of_getLsbD_eq
    intro k hk
    cases hm : (memU x).getLsbD k with
    | false => simp
    | true =>
      have h1 := (memU_get x hk).1 hm
      have h2 : (startD x).getLsbD k = true := h k (List.mem_range.2 h1.1)
      unfold startD at h2
      rw [maskB_get hk] at h2
      have := h1.2
      simp [Mem] at this
      simp [this] at h2
  · intro h k hk
    have hk := List.mem_range.1 hk
    show (startD x).getLsbD k = true
    unfold startD
    rw [maskB_get (by omega)]
    have : ¬ Mem x k := fun hm => by
      have := (memU_get x (by omega : k < 32)).2 ⟨hk, hm⟩
      rw [h] at this; simp at this
    simp [Mem] at this
    simp [hk, this]
theorem start_co (W : WfE n x) (hn : n = init.length) : ((pairsR (coS x (startR x init))).length : Int) = 0 :=
  pairs_none fun i k => by
    cases h : has (coS x (startR x init)) i k with
    | false => rfl
    | true => have := ((h_coS W hn (start_inv W hn)).1 h).1; cases this
theorem start_holds (W : WfE n x) (hn : n = init.length) : holdsB x (startR x init) = decide (memU x = 0#32) := by
  have h32 := W.n32'
  unfold holdsB
  rw [start_final W]
  by_cases h : memU x = 0#32
  · have hno : ∀ k, k < x.ev.length → ¬ Mem x k := fun k hk hm => by
      have := (memU_get x (by omega : k < 32)).2 ⟨hk, hm⟩
      rw [h] at this; simp at this
    have I := start_inv W hn
    have K := full_way W hn I (fun i hi hm => absurd hm (hno i hi))
    have hco : ∀ i k, has (coS x (startR x init)) i k = false := fun i k => by
      cases h : has (coS x (startR x init)) i k with
      | false => rfl
      | true => have := ((h_coS W hn I).1 h).1; cases this
    have hrf : ∀ i k, has (rfR x.ev.length (startR x init).f) i k = false := fun i k => by
      cases h : has (rfR x.ev.length (startR x init).f) i k with
      | false => rfl
      | true =>
        obtain ⟨h1, h2, h3⟩ := (h_rf (by omega) K).1 h
        have : gd (startR x init).f k = -2 := by show gd (List.replicate x.ev.length (-2)) k = -2; rw [gd_rep h2]
        omega
    have hfr : ∀ i k, has (frR x.ev (startR x init).f (coS x (startR x init))) i k = false := fun i k => by
      cases h : has (frR x.ev (startR x init).f (coS x (startR x init))) i k with
      | false => rfl
      | true =>
        obtain ⟨h1, _, h3, _⟩ := (h_fr (by omega) K).1 h
        exact absurd (by simp [Mem, h3]) (hno i h1)
    have h1 : internalB x (startR x init).f (coS x (startR x init)) = true := by
      apply acy_none
      intro i k
      rw [h_or (by rw [polocR_len]; have := W.lpo; omega) (by rw [polocR_len, comR_len]; exact W.lpo.symm)]
      cases hp : has (polocR x) i k with
      | true =>
        obtain ⟨a, b, _, _⟩ := (h_poloc W).1 hp
        have hl := has_lt a
        exact absurd (by simpa [Mem] using b) (hno i (by have := W.lpo; omega))
      | false =>
        cases hc : has (comR x.ev (startR x init).f (coS x (startR x init))) i k with
        | false => rfl
        | true =>
          rcases (h_com (by omega) K).1 hc with e | e | e
          · rw [hrf] at e; cases e
          · rw [hco] at e; cases e
          · rw [hfr] at e; cases e
    have h2 : atomicB x (startR x init).f (coS x (startR x init)) = true := by
      unfold atomicB
      rw [decide_eq_true_eq]
      apply pairs_none
      intro i k
      cases hb : has (betweenR x (startR x init).f (coS x (startR x init))) i k with
      | false => rfl
      | true =>
        rw [betweenR, h_and (by rw [W.lrmw]; omega), Bool.and_eq_true] at hb
        obtain ⟨a, b, _⟩ := W.rmw i k hb.1
        have hl := has_lt hb.1
        exact absurd (by simp [Mem, b]) (hno i (by have := W.lrmw; omega))
    rw [h1, h2]; simp
  · simp [h]

theorem lastL_ne (l : List Nat) : lastL (nats l) ≠ -2 := by
  rcases lastL_nats (l := l) with ⟨_, e⟩ | ⟨_, e⟩ <;> rw [e] <;> omega
theorem can_kind {i : Nat} {o : Bool} (hc : canB x init s i o = true) : (gd x.ev i).kind = 1 ∨ ((gd x.ev i).kind = 2 ∧ o = false) := by
  unfold canB at hc
  rw [Bool.and_eq_true] at hc
  have h2 := hc.2
  unfold mayB at h2
  split at h2
  · rename_i e
    exact .inr ⟨e, by simpa using h2⟩
  · split at h2
    · cases h2
    · rename_i e
      exact .inl (by simpa using e)
theorem steps_pure (W : WfE n x) (hn : n = init.length) (I : FInv x init h s) {i : Nat} {o : Bool} (hi : i < x.ev.length) (hc : canB x init s i o = true) :
    ¬ (⟨i, o⟩ : Mv) ∈ movesR x init (doneR x s ⟨i, o⟩) ∧ s.d.getLsbD i = false ∧ (doneR x s ⟨i, o⟩).f.length = x.ev.length ∧ ((gd x.ev i).kind = 1 ↔ gd (doneR x s ⟨i, o⟩).f i ≠ -2) ∧ (o = true → (gd x.ev i).kind = 1) := by
  have h32 := W.n32'
  obtain ⟨I', hni⟩ := step_inv W hn I hi hc
  have hbit : s.d.getLsbD i = false := by
    unfold canB readyB at hc
    simp only [Bool.and_eq_true] at hc
    simpa using hc.1.1
  refine ⟨fun hm => ?_, hbit, I'.lf, ⟨fun hk => ?_, fun hne => ?_⟩, fun ho => ?_⟩
  · obtain ⟨_, i', o', e, _, hc'⟩ := moves_in.1 hm
    simp only [Mv.mk.injEq] at e
    have : i' = i := by omega
    subst this
    unfold canB readyB at hc'
    simp only [Bool.and_eq_true] at hc'
    have h1 : (doneR x s ⟨(i' : Nat), o⟩).d.getLsbD i' = false := by simpa using hc'.1.1
    unfold doneR at h1
    simp only [Int.toNat_natCast, BitVec.getLsbD_or, oneb (show i' < 32 by omega)] at h1
    simp at h1
  · rcases I'.rd i hk (by simp) with ⟨v, e, _⟩ | ⟨e, _⟩
    · rw [e]; omega
    · rw [e]; exact lastL_ne _
  · rcases can_kind hc with e | ⟨e, _⟩
    · exact e
    · exact absurd (I'.no i hi (fun hh => by omega)) hne
  · rcases can_kind hc with e | ⟨_, e⟩
    · exact e
    · rw [e] at ho; cases ho

theorem row_in (I : FInv x init h s) {loc : Nat} (hl : loc < init.length) {w : Int} (hw : w ∈ gd s.l loc) : ∃ k : Nat, w = (k : Int) ∧ k < x.ev.length ∧ (gd x.ev k).kind = 2 ∧ (gd x.ev k).loc = (loc : Int) ∧ k ∈ h := by
  rw [I.rows loc hl] at hw
  obtain ⟨k, hk, rfl⟩ := List.mem_map.1 hw
  obtain ⟨h1, h2⟩ := List.mem_filter.1 hk
  obtain ⟨h3, h4⟩ := wr_iff.1 h2
  exact ⟨k, rfl, (I.mem k h1).1, h3, h4, h1⟩
theorem row_nodup (I : FInv x init h s) {loc : Nat} (hl : loc < init.length) : (gd s.l loc).Nodup := by
  rw [I.rows loc hl]
  exact List.Pairwise.map _ (fun a b h => by omega) (I.nd.filter _)
def seenR (s : Fs) (loc q : Nat) : List Int := (s.l.take loc).flatten ++ (gd s.l loc).take q
theorem seen_new (I : FInv x init h s) {loc q : Nat} (hl : loc < init.length) (hq : q < (gd s.l loc).length) : ¬ gd (gd s.l loc) q ∈ seenR s loc q := by
  have hll := I.ll
  obtain ⟨k, e, _, _, h4, _⟩ := row_in I hl (gd_mem hq)
  intro hm
  rcases List.mem_append.1 hm with hm | hm
  · obtain ⟨r, hr, hm⟩ := List.mem_flatten.1 hm
    obtain ⟨j, hj, rfl⟩ := List.mem_take_iff_getElem.1 hr
    have hjl : j < s.l.length := by omega
    rw [gd_get hjl] at hm
    obtain ⟨k', e', _, _, h4', _⟩ := row_in I (by omega) hm
    have : k' = k := by omega
    subst this
    omega
  · obtain ⟨j, hj, e'⟩ := List.mem_take_iff_getElem.1 hm
    have hjl : j < (gd s.l loc).length := by omega
    have hnd := List.pairwise_iff_getElem.1 (row_nodup I hl) j q hjl hq (by omega)
    rw [← gd_get hq] at e'
    exact hnd e'
theorem seen_all (W : WfE n x) (hn : n = init.length) (I : FInv x init h s) {i : Nat} (hi : i < x.ev.length) (hk : (gd x.ev i).kind = 2) : s.d.getLsbD i = decide ((i : Int) ∈ s.l.flatten) := by
  have h32 := W.n32'
  have hll := I.ll
  rw [Bool.eq_iff_iff, decide_eq_true_eq, I.bits i (by omega)]
  constructor
  · rintro (⟨_, hm⟩ | hm)
    · exact absurd (by simp [Mem, hk]) hm
    · obtain ⟨ev, _⟩ := W.evs i hi
      have hloc := ev.loc
      have ez : (((gd x.ev i).loc.toNat : Nat) : Int) = (gd x.ev i).loc := by omega
      have hr : (gd x.ev i).loc.toNat < s.l.length := by omega
      refine List.mem_flatten.2 ⟨_, gd_mem hr, ?_⟩
      rw [I.rows _ (by omega)]
      exact List.mem_map.2 ⟨i, List.mem_filter.2 ⟨hm, wr_iff.2 ⟨hk, ez.symm⟩⟩, rfl⟩
  · intro hm
    obtain ⟨r, hr, hm⟩ := List.mem_flatten.1 hm
    obtain ⟨j, hj, rfl⟩ := List.mem_iff_getElem.1 hr
    rw [gd_get hj] at hm
    obtain ⟨k, e, _, _, _, h5⟩ := row_in I (by omega) hm
    have : k = i := by omega
    subst this
    exact .inr h5
theorem may_own {i v : Nat} (hv : v < x.ev.length) (h2 : (gd x.ev v).kind = 2) (h3 : (gd x.ev v).loc = (gd x.ev i).loc) (h4 : (gd x.ev v).val = (gd x.ev i).val) : ((v : Nat) : Int) ∈ maySt x init i := by
  unfold maySt mayTo
  refine List.mem_append.2 (.inr (List.mem_map.2 ⟨v, List.mem_filter.2 ⟨List.mem_range.2 hv, ?_⟩, rfl⟩))
  unfold mayQ
  simp [h2, h3, h4]
theorem read_may (W : WfE n x) (hn : n = init.length) (I : FInv x init h s) {i : Nat} (hi : i < x.ev.length) (hk : (gd x.ev i).kind = 1) (hd : s.d.getLsbD i = true) : gd s.f i ∈ maySt x init i := by
  have h32 := W.n32'
  have hin : i ∈ h := by
    rcases (I.bits i (by omega)).1 hd with ⟨_, hm⟩ | hm
    · exact absurd (by simp [Mem, hk]) hm
    · exact hm
  rcases I.rd i hk hin with ⟨v, e, ow, _, _, _, hval⟩ | ⟨e, hini, hval, _⟩
  · rcases own_is W i with e2 | ⟨w, e2, h3, h4, h5, h6, h7, _⟩
    · omega
    · obtain rfl : w = v := by omega
      rw [e]
      exact may_own (by omega) h7 h6 hval
  · rcases mem_last I (i := i) (loc := (gd x.ev i).loc) with ⟨e2, _⟩ | ⟨v, e2, hv, kv, lv, _⟩
    · have e3 := e.trans e2
      rw [e3]
      unfold maySt mayTo
      obtain ⟨ev, _⟩ := W.evs i hi
      have hloc := ev.loc
      have hq : firstQ init (gd x.ev i) = true := by
        unfold firstQ
        simp only [Bool.and_eq_true, decide_eq_true_eq]
        exact ⟨by omega, by omega, hini e3⟩
      rw [hq]
      simp
    · have e3 := e.trans e2
      rw [e3]
      exact may_own (I.mem v hv).1 kv lv (hval v e3)
end Go.Sim
