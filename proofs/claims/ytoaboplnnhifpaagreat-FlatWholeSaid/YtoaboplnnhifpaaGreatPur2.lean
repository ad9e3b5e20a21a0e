/- Part: Pur2 -/
import Derived.Test.YtoaboplnnhifpaaGreatLocal
set_option linter.all false
namespace Go.Sim
open Enc (enc)
open Go.Proofs
variable {n : Int} {x : Ex}
theorem po_trans (W : WfE n x) {i j k : Nat} (h1 : has x.po i j = true) (h2 : has x.po j k = true) : has x.po i k = true := by
  rw [W.po] at h1 h2 ⊢
  exact ⟨by omega, h2.2.1, h1.2.2.trans h2.2.2⟩
theorem late_po (W : WfE n x) {i k : Nat} (h : has (lateR x) i k = true) : has x.po i k = true := by
  have := (late_iff W).1 h
  rw [W.po]; exact ⟨this.1, this.2.1, this.2.2.1⟩
theorem h_to {l : List Ev} {r : Rl} (hl : l.length <= 32) (hr : r.length = l.length) {c : Int} {i k : Nat} : has (toR l r c) i k = true ↔ has r i k = true /\ (gd l k).kind = c := by
  rw [toR, h_only (by omega)]
  simp only [Bool.and_eq_true]
  constructor
  . rintro ⟨h1, h2, h3⟩
    have := has_lt h1
    rw [h_kind hl (by omega)] at h3
    exact ⟨h1, by simpa using h3⟩
  . rintro ⟨h1, h2⟩
    have := has_lt h1
    rw [h_kind hl (by omega), ones_get (by omega)]
    exact ⟨h1, rfl, by simpa using h2⟩
theorem ahead_po (W : WfE n x) {i k : Nat} (h : has (aheadR x) i k = true) : has x.po i k = true := by
  have := W.n; have := W.laddr; have := W.lpo
  obtain ⟨j, h1, h2⟩ := (h_seq (by omega) (by omega) i k).1 h
  exact po_trans W (W.addr i j h1).1 h2
theorem isb_po (W : WfE n x) {i k : Nat} (h : has (isbR x) i k = true) : has x.po i k = true := by
  have := W.n; have l1 := W.laddr; have l2 := W.lpo; have l3 := W.lctrl
  obtain ⟨j, h1, h2⟩ := (h_seq (by simp only [go_sem]; omega) (by simp only [go_sem]; omega) i k).1 h
  rw [h_to (by omega) (by simp only [go_sem]; omega), h_or (by omega) (by rw [aheadR, seqR, mk_len]; omega), Bool.or_eq_true] at h1
  rcases h1.1 with h1 | h1
  . exact po_trans W (W.ctrl i j h1).1 h2
  . exact po_trans W (ahead_po W h1) h2
theorem aheadR_len (x : Ex) : (aheadR x).length = x.addr.length := by rw [aheadR, seqR, mk_len]
theorem isbR_len (x : Ex) : (isbR x).length = x.ctrl.length := by rw [isbR, seqR, mk_len, toR, onlyR_len, orR_len]
theorem static_po (W : WfE n x) {i k : Nat} (h : has (staticR x) i k = true) : has x.po i k = true /\ (gd x.ev i).kind ∈ [(1 : Int), 2] /\ (gd x.ev k).kind ∈ [(1 : Int), 2] := by
  have := W.n; have l1 := W.laddr; have l2 := W.lpo; have l3 := W.lctrl; have l4 := W.ldata
  unfold staticR at h
  rw [h_mem (by omega) (by simp only [go_sem])] at h
  obtain ⟨h, m1, m2⟩ := h
  refine ⟨?_, m1, m2⟩
  rw [h_union (by omega)] at h
  . obtain ⟨r, hr, h⟩ := h
    simp only [List.mem_cons, List.not_mem_nil, or_false] at hr
    rcases hr with rfl | rfl | rfl | rfl | rfl
    . exact (W.addr _ _ h).1
    . exact (W.data _ _ h).1
    . rw [h_to (by omega) (by omega)] at h; exact (W.ctrl _ _ h.1).1
    . rw [h_to (by omega) (by rw [isbR_len]; omega)] at h; exact isb_po W h.1
    . rw [h_to (by omega) (by rw [aheadR_len]; omega)] at h; exact ahead_po W h.1
  . intro r hr
    simp only [List.mem_cons, List.not_mem_nil, or_false] at hr
    rcases hr with rfl | rfl | rfl | rfl | rfl <;> (try simp only [toR_len, aheadR_len, isbR_len]) <;> omega
theorem over_po (W : WfE n x) {f t : U32} {c : Int} {i k : Nat} (h : has (overR x f c t) i k = true) : has x.po i k = true := by
  have := W.n; have l2 := W.lpo
  obtain ⟨j, h1, h2⟩ := (h_seq (by simp only [go_sem]; omega) (by simp only [go_sem]) i k).1 h
  rw [h_only (by omega), Bool.and_eq_true] at h1 h2
  exact po_trans W h1.1 h2.1
theorem fences_po (W : WfE n x) {i k : Nat} (h : has (fencesR x) i k = true) : has x.po i k = true /\ (gd x.ev i).kind ∈ [(1 : Int), 2] /\ (gd x.ev k).kind ∈ [(1 : Int), 2] := by
  have := W.n; have l2 := W.lpo
  unfold fencesR at h
  rw [h_mem (by omega) (by simp only [go_sem])] at h
  obtain ⟨h, m1, m2⟩ := h
  refine ⟨?_, m1, m2⟩
  rw [h_union (by omega)] at h
  . obtain ⟨r, hr, h⟩ := h
    simp only [List.mem_cons, List.not_mem_nil, or_false] at hr
    rcases hr with rfl | rfl | rfl <;> exact over_po W h
  . intro r hr
    simp only [List.mem_cons, List.not_mem_nil, or_false] at hr
    rcases hr with rfl | rfl | rfl <;> simp only [overR_len] <;> omega
theorem orders_po (W : WfE n x) {i k : Nat} (h : has (ordersR x) i k = true) : has x.po i k = true /\ (gd x.ev i).kind ∈ [(1 : Int), 2] /\ (gd x.ev k).kind ∈ [(1 : Int), 2] := by
  have := W.n; have l2 := W.lpo
  unfold ordersR at h
  rw [h_mem (by omega) (by simp only [go_sem])] at h
  obtain ⟨h, m1, m2⟩ := h
  refine ⟨?_, m1, m2⟩
  rw [h_union (by omega)] at h
  . obtain ⟨r, hr, h⟩ := h
    simp only [List.mem_cons, List.not_mem_nil, or_false] at hr
    rcases hr with rfl | rfl | rfl <;> (rw [h_only (by omega), Bool.and_eq_true] at h; exact h.1)
  . intro r hr
    simp only [List.mem_cons, List.not_mem_nil, or_false] at hr
    rcases hr with rfl | rfl | rfl <;> simp only [onlyR_len] <;> omega
theorem aheadB_po (W : WfE n x) {a r : Rl} (ha : a.length = x.ev.length) (hr : r.length = x.ev.length) (pa : ∀ i k, has a i k = true -> has x.po i k = true /\ (gd x.ev i).kind ∈ [(1 : Int), 2] /\ (gd x.ev k).kind ∈ [(1 : Int), 2])
    (pr : ∀ i k, has r i k = true -> has x.po i k = true) (i k : Nat) (h : has (aheadB x a r) i k = true) : has x.po i k = true /\ (gd x.ev i).kind ∈ [(1 : Int), 2] /\ (gd x.ev k).kind ∈ [(1 : Int), 2] := by
  have := W.n; have l2 := W.lpo
  unfold aheadB at h
  rw [h_or (by omega) (by simp only [go_sem]; omega), Bool.or_eq_true] at h
  rcases h with h | h
  . exact pa i k h
  . rw [h_mem (by omega) (by simp only [go_sem]; omega)] at h
    obtain ⟨h, m1, m2⟩ := h
    obtain ⟨j, h1, h2⟩ := (h_seq (by omega) (by simp only [go_sem]; omega) i k).1 h
    exact ⟨po_trans W (pr _ _ h1) (late_po W h2), m1, m2⟩
theorem aheadZ_po (W : WfE n x) : ∀ i k, has (aheadZ x) i k = true -> has x.po i k = true /\ (gd x.ev i).kind ∈ [(1 : Int), 2] /\ (gd x.ev k).kind ∈ [(1 : Int), 2] := by
  have := W.n; have l2 := W.lpo; have l3 := W.lctrl; have l4 := W.ldata; have l5 := W.lrmw
  unfold aheadZ
  have z0 : (ahead0 x).length = x.ev.length := by simp only [ahead0, go_sem]
  have zB : ∀ a r : Rl, (aheadB x a r).length = a.length := fun a r => by simp only [aheadB, go_sem]
  refine aheadB_po W (by rw [zB, zB, z0]) (by simp only [go_sem]; omega) (aheadB_po W (by rw [zB, z0]) l4 (aheadB_po W z0 l3 ?_ fun i k h => (W.ctrl i k h).1) fun i k h => (W.data i k h).1) ?_
  . intro i k h
    unfold ahead0 at h
    rw [h_or (by simp only [go_sem]; omega) (by simp only [go_sem]), h_or (by simp only [go_sem]; omega) (by simp only [go_sem]; omega), h_or (by simp only [go_sem]; omega) (by simp only [go_sem])] at h
    simp only [Bool.or_eq_true] at h
    rcases h with (h | h) | (h | h)
    . exact static_po W h
    . rw [h_mem (by omega) (by omega)] at h
      exact ⟨(W.rmw _ _ h.1).1, h.2⟩
    . exact fences_po W h
    . exact orders_po W h
  . intro i k h
    rw [h_only (by omega), Bool.and_eq_true] at h
    exact h.1
theorem sub_acy (W : WfE n x) {r : Rl} (h : ∀ i k, has r i k = true -> has x.po i k = true) : acyR r = true := by
  have key : ∀ i k, Way r i k -> i < k := by
    intro i k w
    induction w with
    | single h1 => exact ((W.po _ _).1 (h _ _ h1)).1
    | tail _ h2 ih => have := ((W.po _ _).1 (h _ _ h2)).1; omega
  unfold acyR
  rw [List.all_eq_true]
  intro i _
  rw [Bool.not_eq_true']
  cases hw : wayB r i i with
  | false => rfl
  | true => exact absurd (key i i (wayB_iff.1 hw)) (by omega)
theorem aheadZ_acy (W : WfE n x) : acyR (aheadZ x) = true := sub_acy W fun i k h => (aheadZ_po W i k h).1
theorem aheadZ_and (W : WfE n x) : sameR (andR (aheadZ x) x.po) (aheadZ x) = true := by
  have := W.n
  rw [sameR_iff]
  refine ⟨andR_len _ _, fun i k => ?_⟩
  rw [h_and (by simp only [go_sem]; omega)]
  cases h : has (aheadZ x) i k
  . rfl
  . rw [(aheadZ_po W i k h).1]; rfl
theorem aheadZ_mem (W : WfE n x) : sameR (memR x.ev (aheadZ x)) (aheadZ x) = true := by
  have := W.n
  rw [sameR_iff]
  refine ⟨memR_len _ _, fun i k => ?_⟩
  rw [Bool.eq_iff_iff, h_mem (by omega) (by simp only [go_sem])]
  exact ⟨fun h => h.1, fun h => ⟨h, (aheadZ_po W i k h).2⟩⟩
theorem orsTo_bit {l : List (Int × Int)} (hl : ∀ q ∈ l, 0 <= q.1 /\ q.1 < 32) {j : Nat} : ∀ {k : Nat}, k <= l.length -> (orsTo l k).getLsbD j = true -> ∃ q ∈ l, q.1 = (j : Int)
  | 0, _, h => by simp [orsTo] at h
  | k + 1, hk, h => by
    rw [orsTo, BitVec.getLsbD_or, Bool.or_eq_true] at h
    rcases h with h | h
    . exact orsTo_bit hl (by omega) h
    . have hm : gd l k ∈ l := gd_mem (by omega)
      have := hl _ hm
      refine ⟨_, hm, ?_⟩
      simp [BitVec.getLsbD_shiftLeft] at h
      omega
theorem needs_reads (W : WfE n x) (w : Int) : needsM x w &&& ~~~(kindM x.ev [1]) = 0#32 := by
  have := W.n; have l3 := W.laddr; have l4 := W.ldata
  apply BitVec.eq_of_getLsbD_eq
  intro j hj
  rw [BitVec.getLsbD_and, BitVec.getLsbD_not]
  cases h : (needsM x w).getLsbD j
  . simp
  . unfold needsM at h
    split at h
    . simp at h
    . have ok : ∀ q ∈ needL x w.toNat, ∃ a b : Nat, q = ((a : Int), (b : Int)) /\ a < x.ev.length /\ b < x.ev.length := prs_ok (by simp only [go_sem]; omega)
      obtain ⟨q, hq, hqj⟩ := orsTo_bit (fun q hq => by obtain ⟨a, b, rfl, ha, _⟩ := ok q hq; simp only; omega) (Nat.le_refl _) h
      obtain ⟨a, b, rfl, hab⟩ := mem_pairsR.1 hq
      simp only at hqj
      obtain rfl : a = j := by omega
      rw [h_only (by simp only [go_sem]; omega), Bool.and_eq_true, h_or (by omega) (by omega), Bool.or_eq_true] at hab
      have hk : (gd x.ev a).kind = 1 /\ a < x.ev.length := by
        rcases hab.1 with h1 | h1
        . exact ⟨(W.addr _ _ h1).2.1, by have := has_lt h1; omega⟩
        . exact ⟨(W.data _ _ h1).2.1, by have := has_lt h1; omega⟩
      rw [h_kind (by omega) hk.2]
      simp [hk.1]
theorem own_is (W : WfE n x) (r : Nat) : ownZ x r = -1 \/ ∃ w : Nat, ownZ x r = w /\ w < r /\ r < x.ev.length /\ has x.po w r = true /\ (gd x.ev w).loc = (gd x.ev r).loc /\ (gd x.ev w).kind = 2 /\ (gd x.ev r).kind = 1 := by
  unfold ownZ
  split
  . rename_i hr
    cases hf : (ownL x (r : Int).toNat).find? (lastB x (ownL x (r : Int).toNat)) with
    | none => exact .inl rfl
    | some v =>
      right
      have hm := List.mem_of_find?_eq_some hf
      unfold ownL at hm
      obtain ⟨w, hw, rfl⟩ := List.mem_map.1 hm
      obtain ⟨h1, h2⟩ := List.mem_filter.1 hw
      unfold ownQ at h2
      simp only [Bool.and_eq_true, decide_eq_true_eq] at h2
      have hp := (W.po w r).1 h2.2.2.2
      unfold readsB at hr
      simp only [Bool.and_eq_true, decide_eq_true_eq] at hr
      exact ⟨w, rfl, hp.1, hp.2.1, h2.2.2.2, h2.2.1, h2.1, hr.2.2⟩
  . exact .inl rfl
end Go.Sim
