/- A part of the proof of a law of module cupola: PureA. It has no conditions of its own. -/
import Derived.Test.YtocehjbdnhmkfaaGreatWayA
set_option linter.all false
/-! What the law AxiomAlone wants. -/
namespace Go.Sim
open Enc (enc)
open Go.Proofs
variable {n : Int} {x : Ex} {f : List Int} {co : Rl}

theorem all_th {t : Te} {x : Ex} (hx : x ∈ allR t) : ∀ i, i < x.ev.length → 0 ≤ th x.ev i ∧ th x.ev i < t.th.length := by
  unfold allR at hx
  split at hx
  · cases hx
  rename_i ho
  have ho : ofE t = 0 := by omega
  have hch := of_0 ho
  have hmay := check_may hch
  cases hw : waysTo t (ofR t) t.th.length with
  | none => rw [hw] at hx; simp at hx
  | some ws =>
    rw [hw] at hx
    obtain ⟨w, hw1, rfl⟩ := List.mem_map.1 hx
    simp only [Option.getD_some] at hw1
    obtain ⟨g1, g2⟩ := ways_mem hw w hw1
    have hwf : ∀ j, j < w.length → WfT t.init.length (gd w j) := fun j hj => by
      have := g2 j (by omega)
      exact traces_wf (hmay _ (gd_mem (by omega))) _ this
    have W := wfP_join w.length hwf
    intro i hi
    have := W.evs i hi
    have e : (w.length : Int) = t.th.length := by omega
    rw [← e]
    exact this.2

/-- The last of the first ones that writes where r is. -/
def lastTo (x : Ex) (r : Nat) : Nat → Int
  | 0 => -1
  | w + 1 => if (gd x.ev w).kind = 2 ∧ (gd x.ev w).loc = (gd x.ev r).loc then (w : Int) else lastTo x r w
theorem lastTo_is (x : Ex) (r : Nat) : ∀ m, (lastTo x r m = -1 ∧ ∀ w, w < m → ¬ ((gd x.ev w).kind = 2 ∧ (gd x.ev w).loc = (gd x.ev r).loc)) ∨
    ∃ w : Nat, w < m ∧ lastTo x r m = (w : Int) ∧ (gd x.ev w).kind = 2 ∧ (gd x.ev w).loc = (gd x.ev r).loc ∧ ∀ v, v < m → (gd x.ev v).kind = 2 → (gd x.ev v).loc = (gd x.ev r).loc → v ≤ w
  | 0 => .inl ⟨rfl, fun w hw => by omega⟩
  | m + 1 => by
    rw [lastTo]
    by_cases h : (gd x.ev m).kind = 2 ∧ (gd x.ev m).loc = (gd x.ev r).loc
    · rw [if_pos h]
      exact .inr ⟨m, by omega, rfl, h.1, h.2, fun v hv _ _ => by omega⟩
    · rw [if_neg h]
      rcases lastTo_is x r m with ⟨h1, h2⟩ | ⟨w, h1, h2, h3, h4, h5⟩
      · refine .inl ⟨h1, fun w hw => ?_⟩
        by_cases e : w = m
        · subst e; exact h
        · exact h2 w (by omega)
      · refine .inr ⟨w, by omega, h2, h3, h4, fun v hv a b => ?_⟩
        by_cases e : v = m
        · subst e; exact absurd ⟨a, b⟩ h
        · exact h5 v (by omega) a b
theorem alone_last (W : WfE n x) (K : WayOk x f co) (hI : internalB x f co = true) (h1 : ∀ i, i < x.ev.length → th x.ev i = 0) {r : Nat} (hr : r < x.ev.length) (hk : (gd x.ev r).kind = 1) : gd f r = lastTo x r r := by
  have po : ∀ w, w < r → has x.po w r = true := fun w hw => (W.po _ _).2 ⟨hw, hr, by rw [h1 w (by omega), h1 r hr]⟩
  have e1 : ownZ x r = lastTo x r r := by
    rcases own_last W hr hk with ⟨a1, a2⟩ | ⟨w, a1, a2, a3, a4, a5⟩
    · rcases lastTo_is x r r with ⟨b1, _⟩ | ⟨v, b0, _, b2, b3, _⟩
      · rw [a1, b1]
      · exact absurd b3 (a2 v (po v b0) b2)
    · have hw := (W.po _ _).1 a2
      rcases lastTo_is x r r with ⟨_, b2⟩ | ⟨v, b0, b1, b2, b3, b4⟩
      · exact absurd ⟨a3, a4⟩ (b2 w hw.1)
      · have := a5 v (po v b0) b2 b3
        have := b4 w hw.1 a3 a4
        rw [a1, b1]; omega
  obtain ⟨A, B⟩ := own_law W K hI hr hk
  rw [← e1]
  rcases K.src r hr with ⟨e, _⟩ | ⟨_, e | ⟨v, e, hv, _⟩⟩
  · exact absurd hk e
  · rcases own_is W r with h | ⟨w, h, _⟩
    · rw [e, h]
    · have := B (by omega) (by omega); omega
  · refine A (by omega) ?_
    rw [e, Int.toNat_natCast]
    exact (h1 v hv).trans (h1 r hr).symm
/-- Along the order of events. -/
def Up (c : Rl) : Prop := ∀ i j, has c i j = true → i < j
theorem alone_up (W : WfE n x) (K : WayOk x f co) (hI : internalB x f co = true) (h1 : ∀ i, i < x.ev.length → th x.ev i = 0) : Up co := by
  intro i j h
  have hl := has_lt h
  have hc := K.cl
  have := (W.po _ _).1 (int_po W K hI ((h_com W.n32 K).2 (.inr (.inl h))) (by rw [Th, h1 i (by omega), h1 j (by omega)]))
  exact this.1
theorem tellS_nodup {c : List (List Int)} (hc : ∀ l ∈ c, l.Nodup) : ∀ (k : Nat) (v : List Int), (tellS c k v).Nodup
  | 0, v => by simp [tellS]
  | k + 1, v => by
    rw [tellS]
    split
    · simp
    · have hg : (gd c v.length).Nodup := by
        by_cases h : v.length < c.length
        · exact hc _ (gd_mem h)
        · have : gd c v.length = [] := by unfold gd; rw [List.getD_eq_getElem?_getD, List.getElem?_eq_none (by omega)]; rfl
          rw [this]; exact List.nodup_nil
      refine List.pairwise_flatMap.2 ⟨fun a _ => tellS_nodup hc k _, hg.imp fun hab => ?_⟩
      intro f hf g hg e
      subst e
      have h1 := (tellS_mem k hf).2.1
      have h2 := (tellS_mem k hg).2.1
      rw [List.length_append, List.length_singleton] at h1 h2
      rw [h1] at h2
      have := List.append_cancel_left h2
      simp at this
      exact hab this
theorem may_nodup (x : Ex) (init : List Int) (r : Nat) : (maySt x init r).Nodup := by
  unfold maySt mayTo
  have h : ((List.range x.ev.length).filter (mayQ x (gd x.ev r))).Nodup := List.nodup_range.sublist List.filter_sublist
  have h2 : (((List.range x.ev.length).filter (mayQ x (gd x.ev r))).map fun (k : Nat) => (k : Int)).Nodup := List.pairwise_map.2 (h.imp fun hab e => hab (by omega))
  refine List.nodup_append.2 ⟨by split <;> simp, h2, ?_⟩
  intro a ha b hb
  split at ha
  · rw [List.mem_singleton] at ha
    obtain ⟨k, _, rfl⟩ := List.mem_map.1 hb
    omega
  · cases ha
theorem src_nodup (x : Ex) (init : List Int) : (sourceR x init).Nodup := by
  unfold sourceR
  split
  · exact List.nodup_nil
  · refine tellS_nodup (fun l hl => ?_) _ _
    unfold choicesR choicesTo at hl
    obtain ⟨r, _, rfl⟩ := List.mem_map.1 hl
    unfold chF
    split
    · exact may_nodup _ _ _
    · simp
theorem permR_nodup : ∀ (n : Nat) {l : List Int}, l.length = n → l.Nodup → (permR n l).Nodup
  | 0, l, _, _ => by simp [permR]
  | n + 1, l, hl, hd => by
    rw [permR]
    refine List.pairwise_flatMap.2 ⟨fun i hi => ?_, ?_⟩
    · have hi := List.mem_range.1 hi
      have := permR_nodup n (l := l.eraseIdx i) (by rw [List.length_eraseIdx, if_pos hi]; omega) (hd.sublist (List.eraseIdx_sublist _ _))
      exact List.pairwise_map.2 (this.imp fun hab e => hab (by simpa using e))
    · have : (List.range l.length).Pairwise (fun a b => a < b) := List.pairwise_lt_range
      refine List.Pairwise.imp_of_mem ?_ this
      intro a b ha hb hab y hy z hz e
      have ha := List.mem_range.1 ha
      have hb := List.mem_range.1 hb
      obtain ⟨y', _, rfl⟩ := List.mem_map.1 hy
      obtain ⟨z', _, rfl⟩ := List.mem_map.1 hz
      simp only [List.cons.injEq] at e
      have := nodup_gd hd ha hb e.1
      omega
theorem up_sorted {m : Nat} (hm : m ≤ 32) {co : Rl} {one : List Int} (hco : co.length = m) (hin : ∀ z ∈ one, ∃ k : Nat, z = (k : Int) ∧ k < m) (h : Up (orR co (ordR m one))) : one.Pairwise (fun a b => a < b) := by
  rw [List.pairwise_iff_getElem]
  intro a b ha hb hab
  obtain ⟨i, e1, hi⟩ := hin _ (List.getElem_mem ha)
  obtain ⟨j, e2, hj⟩ := hin _ (List.getElem_mem hb)
  have : has (orR co (ordR m one)) i j = true := by
    rw [h_or (by omega) (by rw [ordR_len]; omega), Bool.or_eq_true]
    exact .inr ((h_ord hm).2 ⟨hi, hj, a, b, hab, hb, by rw [← gd_get ha, e1], by rw [← gd_get hb, e2]⟩)
  have := h i j this
  omega
theorem up_or {m : Nat} (hm : m ≤ 32) {co r : Rl} (hco : co.length = m) (hr : r.length = m) (h : Up (orR co r)) : Up co := fun i j hh =>
  h i j (by rw [h_or (by omega) (by omega), hh]; rfl)
theorem coh_pair (hn : x.ev.length ≤ 32) : ∀ {ls : List Int} {out r : List Rl}, cohTo x ls out = some r → (∀ a ∈ out, a.length = x.ev.length) → out.Pairwise (fun a b => ¬ (Up a ∧ Up b)) → r.Pairwise (fun a b => ¬ (Up a ∧ Up b))
  | [], out, r, h, _, hp => by rw [cohTo] at h; cases h; exact hp
  | l :: ls, out, r, h, hl, hp => by
    rw [cohTo] at h
    split at h
    · cases h
    · refine coh_pair hn h (cohNext_len hl) ?_
      unfold cohNext
      refine List.pairwise_flatMap.2 ⟨fun co hco => List.pairwise_map.2 ?_, ?_⟩
      · have hnd : (allO (writesR x l)).Nodup := by
          unfold allO
          split
          · exact List.nodup_nil
          · exact permR_nodup _ rfl (writes_nodup x l)
        refine List.Pairwise.imp_of_mem ?_ hnd
        rintro a b ha hb hab ⟨u1, u2⟩
        obtain ⟨na, ma⟩ := allO_one ha
        obtain ⟨nb, mb⟩ := allO_one hb
        have s1 := up_sorted hn (hl co hco) (fun z hz => by obtain ⟨k, e, hk, _⟩ := (ma z).1 hz; exact ⟨k, e, hk⟩) u1
        have s2 := up_sorted hn (hl co hco) (fun z hz => by obtain ⟨k, e, hk, _⟩ := (mb z).1 hz; exact ⟨k, e, hk⟩) u2
        refine hab (List.Perm.eq_of_pairwise (le := fun a b => a < b) (fun a b _ _ h1 h2 => by omega) s1 s2 ((List.perm_ext_iff_of_nodup na nb).2 fun z => (ma z).trans (mb z).symm))
      · refine List.Pairwise.imp_of_mem ?_ hp
        intro a b ha hb hab y hy z hz
        obtain ⟨o1, _, rfl⟩ := List.mem_map.1 hy
        obtain ⟨o2, _, rfl⟩ := List.mem_map.1 hz
        rintro ⟨u1, u2⟩
        exact hab ⟨up_or hn (hl a ha) (ordR_len _ _) u1, up_or hn (hl b hb) (ordR_len _ _) u2⟩
theorem coh_up (hn : x.ev.length ≤ 32) : (cohR x).Pairwise (fun a b => ¬ (Up a ∧ Up b)) := by
  unfold cohR
  cases hc : cohTo x (placesR x) [noneR x.ev.length] with
  | none => exact .nil
  | some r => exact coh_pair hn hc (fun a ha => by rw [List.mem_singleton] at ha; subst ha; exact noneR_len _) (by simp)
theorem nodup_gd' {α : Type} [Enc α] {l : List α} (h : l.Nodup) {a b : Nat} (ha : a < l.length) (hb : b < l.length) (e : gd l a = gd l b) : a = b := by
  rw [← gd_get ha, ← gd_get hb] at e
  have key := List.pairwise_iff_getElem.1 h
  rcases Nat.lt_trichotomy a b with h1 | h1 | h1
  · exact absurd e (key a b ha hb h1)
  · exact h1
  · exact absurd e.symm (key b a hb ha h1)
/-- No two ways of one thread alone are good. -/
theorem alone_one (W : WfE n x) (h1 : ∀ i, i < x.ev.length → th x.ev i = 0) {init : List Int} {i i' k k' : Nat} (hi : i < (sourceR x init).length) (hi' : i' < (sourceR x init).length) (hk : k < (cohR x).length) (hk' : k' < (cohR x).length)
    (g : goodB x (gd (sourceR x init) i) (gd (cohR x) k) = true) (g' : goodB x (gd (sourceR x init) i') (gd (cohR x) k') = true) : i = i' ∧ k = k' := by
  have hn := W.n32
  have K := wayOk hn (gd_mem hi) (gd_mem hk)
  have K' := wayOk hn (gd_mem hi') (gd_mem hk')
  unfold goodB at g g'
  simp only [Bool.and_eq_true] at g g'
  constructor
  · refine nodup_gd' (src_nodup x init) hi hi' (gd_ext (by rw [K.fl, K'.fl]) fun r hr => ?_)
    have hr : r < x.ev.length := by rw [← K.fl]; exact hr
    rcases K.src r hr with ⟨h, e⟩ | ⟨h, _⟩
    · rcases K'.src r hr with ⟨_, e'⟩ | ⟨h', _⟩
      · rw [e, e']
      · exact absurd h' h
    · rw [alone_last W K g.1 h1 hr h, alone_last W K' g'.1 h1 hr h]
  · have u := alone_up W K g.1 h1
    have u' := alone_up W K' g'.1 h1
    have key := List.pairwise_iff_getElem.1 (coh_up (x := x) hn)
    rw [← gd_get hk] at u
    rw [← gd_get hk'] at u'
    rcases Nat.lt_trichotomy k k' with h | h | h
    · exact absurd ⟨u, u'⟩ (key k k' hk hk' h)
    · exact h
    · exact absurd ⟨u', u⟩ (key k' k hk' hk h)
end Go.Sim
