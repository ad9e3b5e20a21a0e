/- Part: WayP, WayQ -/
import Derived.Test.YtoaboplnnhifpaaGreatSrc
set_option linter.all false
namespace Go.Sim
open Enc (enc)
open Go.Proofs
theorem tellS_mem {c : List (List Int)} : ∀ (k : Nat) {v f : List Int}, f ∈ tellS c k v -> f.length = c.length /\ f.take v.length = v /\ ∀ r, v.length <= r -> r < c.length -> gd f r ∈ gd c r
  | 0, v, f, h => by simp [tellS] at h
  | k + 1, v, f, h => by
    rw [tellS] at h
    split at h
    . rename_i hv
      rw [List.mem_singleton] at h; subst h
      exact ⟨hv, List.take_length, fun r h1 h2 => by omega⟩
    . obtain ⟨n, hn, h⟩ := List.mem_flatMap.1 h
      obtain ⟨h1, h2, h3⟩ := tellS_mem k h
      have hl : v.length + 1 <= f.length := by
        have := congrArg List.length h2
        rw [List.length_take, List.length_append, List.length_singleton] at this; omega
      refine ⟨h1, ?_, fun r hr1 hr2 => ?_⟩
      . have := congrArg (List.take v.length) h2
        rw [List.take_take, List.length_append, List.length_singleton, Nat.min_eq_left (by omega), List.take_left] at this
        exact this
      . by_cases hr : r = v.length
        . subst hr
          have : gd f v.length = n := by
            have h4 : (f.take (v ++ [n]).length)[v.length]? = (v ++ [n])[v.length]? := by rw [h2]
            rw [List.getElem?_take, List.length_append, List.length_singleton, if_pos (by omega), List.getElem?_append_right (Nat.le_refl _), Nat.sub_self, List.getElem?_cons_zero] at h4
            unfold gd; rw [List.getD_eq_getElem?_getD, h4]; rfl
          rw [this]; exact hn
        . exact h3 r (by rw [List.length_append, List.length_singleton]; omega) hr2
theorem source_mem {x : Ex} {init : List Int} {f : List Int} (h : f ∈ sourceR x init) : f.length = x.ev.length /\ ∀ r, r < x.ev.length -> gd f r ∈ chF x init r := by
  unfold sourceR at h
  split at h
  . cases h
  . obtain ⟨h1, _, h3⟩ := tellS_mem _ h
    have hcl : (choicesR x init).length = x.ev.length := choicesTo_len _ _ _
    refine ⟨by omega, fun r hr => ?_⟩
    have := h3 r (by simp) (by omega)
    have e : gd (choicesR x init) r = chF x init r := by
      rw [← gd_get (by omega)]
      simp [choicesR, choicesTo]
    rwa [e] at this
theorem may_mem {x : Ex} {init : List Int} {r : Nat} {w : Int} (h : w ∈ maySt x init r) :
    (w = -1 /\ firstQ init (gd x.ev r) = true) \/ ∃ k : Nat, w = (k : Int) /\ k < x.ev.length /\ (gd x.ev k).kind = 2 /\ (gd x.ev k).loc = (gd x.ev r).loc /\ (gd x.ev k).val = (gd x.ev r).val := by
  unfold maySt mayTo at h
  rcases List.mem_append.1 h with h | h
  . split at h
    . rename_i hq
      rw [List.mem_singleton] at h
      exact .inl ⟨h, hq⟩
    . cases h
  . obtain ⟨k, hk, rfl⟩ := List.mem_map.1 h
    obtain ⟨h1, h2⟩ := List.mem_filter.1 hk
    unfold mayQ at h2
    simp only [Bool.and_eq_true, decide_eq_true_eq] at h2
    exact .inr ⟨k, rfl, List.mem_range.1 h1, h2⟩
theorem cohTo_len {x : Ex} : ∀ {ls : List Int} {out r : List Rl}, cohTo x ls out = some r -> (∀ a ∈ out, a.length = x.ev.length) -> ∀ a ∈ r, a.length = x.ev.length
  | [], out, r, h, ho => by rw [cohTo] at h; cases h; exact ho
  | l :: ls, out, r, h, ho => by
    rw [cohTo] at h
    split at h
    . cases h
    . exact cohTo_len h (cohNext_len ho)
theorem coh_len {x : Ex} {co : Rl} (h : co ∈ cohR x) : co.length = x.ev.length := by
  unfold cohR at h
  cases hc : cohTo x (placesR x) [noneR x.ev.length] with
  | none => rw [hc] at h; cases h
  | some r =>
    rw [hc] at h
    exact cohTo_len hc (by simp [noneR_len]) _ h
end Go.Sim
namespace Go.Sim
open Enc (enc)
open Go.Proofs
theorem compactR_lt : ∀ {l : List Int}, l.Pairwise (. <= ·) -> (compactR l).Pairwise (. < ·)
  | [], _ => .nil
  | [x], _ => by simp [compactR]
  | x :: y :: r, h => by
    rw [compactR]
    have h2 := List.pairwise_cons.1 h
    have ih := compactR_lt h2.2
    split
    . exact ih
    . rename_i hne
      refine List.pairwise_cons.2 ⟨fun z hz => ?_, ih⟩
      have hz := compactR_mem hz
      have h3 := List.pairwise_cons.1 h2.2
      have hxy := h2.1 y (by simp)
      rcases List.mem_cons.1 hz with rfl | hz
      . omega
      . have := h3.1 z hz; omega
theorem compactR_all : ∀ {l : List Int} {x : Int}, x ∈ l -> x ∈ compactR l
  | [], _, h => h
  | [_], _, h => h
  | a :: b :: r, x, h => by
    rw [compactR]
    split
    . rename_i he
      subst he
      exact compactR_all (by rcases List.mem_cons.1 h with rfl | h; . simp
                             . exact h)
    . rcases List.mem_cons.1 h with rfl | h
      . simp
      . exact List.mem_cons_of_mem _ (compactR_all h)
theorem onceR_lt (l : List Int) : (onceR l).Pairwise (. < ·) := by
  refine compactR_lt ?_
  have := List.pairwise_mergeSort (le := fun (x y : Int) => decide (x <= y)) (fun a b c h1 h2 => by simp at *; omega) (fun a b => by simp; omega) l
  unfold sortR
  simpa using this
theorem onceR_all {l : List Int} {x : Int} (h : x ∈ l) : x ∈ onceR l := compactR_all ((List.mergeSort_perm l _).mem_iff.2 h)
theorem nodup_gd {l : List Int} (h : l.Nodup) {a b : Nat} (ha : a < l.length) (hb : b < l.length) (e : gd l a = gd l b) : a = b := by
  rw [← gd_get ha, ← gd_get hb] at e
  have key := List.pairwise_iff_getElem.1 h
  rcases Nat.lt_trichotomy a b with h1 | h1 | h1
  . exact absurd e (key a b ha hb h1)
  . exact h1
  . exact absurd e.symm (key b a hb ha h1)
theorem h_put {a : Rl} (ha : a.length <= 32) {x y : Int} {i k : Nat} : has (putR a x y) i k = true ↔ has a i k = true \/ (i < a.length /\ k < a.length /\ (i : Int) = x /\ (k : Int) = y) := by
  rw [putR, has_mk ha]
  simp only [Bool.and_eq_true, Bool.or_eq_true, decide_eq_true_eq]
  constructor
  . rintro ⟨h1, h2, h3 | h3⟩
    . exact .inl h3
    . exact .inr ⟨h1, h2, h3⟩
  . rintro (h | ⟨h1, h2, h3⟩)
    . exact ⟨(has_lt h).1, (has_lt h).2, .inl h⟩
    . exact ⟨h1, h2, .inr h3⟩
theorem h_puts {a : Int} {i k : Nat} : ∀ {l : List Int} {r : Rl}, r.length <= 32 -> (has (putsF a r l) i k = true ↔ has r i k = true \/ (i < r.length /\ k < r.length /\ (i : Int) = a /\ (k : Int) ∈ l))
  | [], r, _ => by simp [putsF]
  | b :: l, r, hr => by
    have e : putsF a r (b :: l) = putsF a (putR r a b) l := rfl
    rw [e, h_puts (by rw [putR_len]; exact hr), h_put hr, putR_len, List.mem_cons]
    constructor
    . rintro ((h | ⟨h1, h2, h3, h4⟩) | ⟨h1, h2, h3, h4⟩)
      . exact .inl h
      . exact .inr ⟨h1, h2, h3, .inl h4⟩
      . exact .inr ⟨h1, h2, h3, .inr h4⟩
    . rintro (h | ⟨h1, h2, h3, h4 | h4⟩)
      . exact .inl (.inl h)
      . exact .inl (.inr ⟨h1, h2, h3, h4⟩)
      . exact .inr ⟨h1, h2, h3, h4⟩
theorem mem_drop_gd {l : List Int} {m : Nat} {z : Int} : z ∈ l.drop m ↔ ∃ b, m <= b /\ b < l.length /\ gd l b = z := by
  rw [List.mem_iff_getElem]
  constructor
  . rintro ⟨j, hj, rfl⟩
    rw [List.length_drop] at hj
    exact ⟨m + j, by omega, by omega, by rw [List.getElem_drop, gd_get (by omega)]⟩
  . rintro ⟨b, h1, h2, rfl⟩
    exact ⟨b - m, by rw [List.length_drop]; omega, by rw [List.getElem_drop, gd_get (by omega), show m + (b - m) = b by omega]⟩
theorem h_ordTo {n : Nat} (hn : n <= 32) {l : List Int} {i k : Nat} : ∀ {m : Nat}, (has (ordTo n l m) i k = true ↔ i < n /\ k < n /\ ∃ a b : Nat, a < m /\ a < b /\ b < l.length /\ gd l a = (i : Int) /\ gd l b = (k : Int))
  | 0 => by rw [ordTo, noneR, has_mk hn]; simp
  | m + 1 => by
    rw [ordTo, h_puts (by rw [ordTo_len]; exact hn), h_ordTo hn, ordTo_len, mem_drop_gd]
    constructor
    . rintro (⟨h1, h2, a, b, h3, h4, h5, h6, h7⟩ | ⟨h1, h2, h3, b, h4, h5, h6⟩)
      . exact ⟨h1, h2, a, b, by omega, h4, h5, h6, h7⟩
      . exact ⟨h1, h2, m, b, by omega, by omega, h5, h3.symm, h6⟩
    . rintro ⟨h1, h2, a, b, h3, h4, h5, h6, h7⟩
      by_cases ha : a = m
      . subst ha; exact .inr ⟨h1, h2, h6.symm, b, by omega, h5, h7⟩
      . exact .inl ⟨h1, h2, a, b, by omega, h4, h5, h6, h7⟩
theorem h_ord {n : Nat} (hn : n <= 32) {l : List Int} {i k : Nat} : has (ordR n l) i k = true ↔ i < n /\ k < n /\ ∃ a b : Nat, a < b /\ b < l.length /\ gd l a = (i : Int) /\ gd l b = (k : Int) := by
  unfold ordR
  rw [h_ordTo hn]
  constructor
  . rintro ⟨h1, h2, a, b, _, h4, h5, h6, h7⟩; exact ⟨h1, h2, a, b, h4, h5, h6, h7⟩
  . rintro ⟨h1, h2, a, b, h4, h5, h6, h7⟩; exact ⟨h1, h2, a, b, by omega, h4, h5, h6, h7⟩
theorem cons_eraseIdx_perm : ∀ {l : List Int} {i : Nat} (h : i < l.length), (l[i] :: l.eraseIdx i).Perm l
  | a :: l, 0, _ => .refl _
  | a :: l, i + 1, h => by
    have h' : i < l.length := by simpa using h
    rw [List.getElem_cons_succ, List.eraseIdx_cons_succ]
    exact (List.Perm.swap _ _ _).trans ((cons_eraseIdx_perm h').cons a)
theorem permR_perm : ∀ (n : Nat) {l : List Int}, l.length = n -> ∀ r ∈ permR n l, r.Perm l
  | 0, l, hl, r, hr => by
    have : l = [] := List.eq_nil_of_length_eq_zero hl
    subst this
    simp [permR] at hr; subst hr; exact .refl _
  | n + 1, l, hl, r, hr => by
    obtain ⟨i, hi, hr⟩ := List.mem_flatMap.1 hr
    obtain ⟨r', hr', rfl⟩ := List.mem_map.1 hr
    have hi := List.mem_range.1 hi
    have := permR_perm n (l := l.eraseIdx i) (by rw [List.length_eraseIdx, if_pos hi]; omega) r' hr'
    rw [← gd_get hi]
    exact (this.cons _).trans (cons_eraseIdx_perm hi)
theorem writes_nodup (x : Ex) (loc : Int) : (writesR x loc).Nodup := by
  unfold writesR wrTo
  have h : ((List.range x.ev.length).filter (wrQ x loc)).Nodup := List.nodup_range.sublist List.filter_sublist
  refine List.pairwise_map.2 (h.imp fun hab e => hab (by omega))
theorem writes_mem {x : Ex} {loc z : Int} : z ∈ writesR x loc ↔ ∃ k : Nat, z = (k : Int) /\ k < x.ev.length /\ (gd x.ev k).kind = 2 /\ (gd x.ev k).loc = loc := by
  unfold writesR wrTo
  simp only [List.mem_map, List.mem_filter, List.mem_range, wrQ, Bool.and_eq_true, decide_eq_true_eq]
  constructor
  . rintro ⟨k, ⟨h1, h2, h3⟩, rfl⟩; exact ⟨k, rfl, h1, h2, h3⟩
  . rintro ⟨k, rfl, h1, h2, h3⟩; exact ⟨k, ⟨h1, h2, h3⟩, rfl⟩
theorem allO_one {x : Ex} {loc : Int} {one : List Int} (h : one ∈ allO (writesR x loc)) : one.Nodup /\ ∀ z, z ∈ one ↔ ∃ k : Nat, z = (k : Int) /\ k < x.ev.length /\ (gd x.ev k).kind = 2 /\ (gd x.ev k).loc = loc := by
  unfold allO at h
  split at h
  . cases h
  . have hp := permR_perm _ rfl _ h
    exact ⟨hp.symm.nodup (writes_nodup x loc), fun z => hp.mem_iff.trans writes_mem⟩
structure CoOk (x : Ex) (p : Int -> Prop) (co : Rl) : Prop where
  len : co.length = x.ev.length
  sub : ∀ i k, has co i k = true -> (gd x.ev i).kind = 2 /\ (gd x.ev k).kind = 2 /\ (gd x.ev i).loc = (gd x.ev k).loc /\ i ≠ k /\ p (gd x.ev i).loc
  tr : ∀ i j k, has co i j = true -> has co j k = true -> has co i k = true
  tot : ∀ i k, i < x.ev.length -> k < x.ev.length -> (gd x.ev i).kind = 2 -> (gd x.ev k).kind = 2 -> (gd x.ev i).loc = (gd x.ev k).loc -> p (gd x.ev i).loc -> i ≠ k -> has co i k = true \/ has co k i = true
theorem coOk_none {x : Ex} (hn : x.ev.length <= 32) : CoOk x (fun _ => False) (noneR x.ev.length) :=
  have h0 : ∀ i k, has (noneR x.ev.length) i k = false := fun i k => by rw [noneR, has_mk hn]; simp
  ⟨noneR_len _, fun i k h => (by rw [h0] at h; cases h), fun i j k h => (by rw [h0] at h; cases h), fun i k _ _ _ _ _ h => h.elim⟩
theorem coOk_step {x : Ex} (hn : x.ev.length <= 32) {p : Int -> Prop} {co : Rl} (h : CoOk x p co) {loc : Int} (hp : ¬ p loc) {one : List Int} (ho : one ∈ allO (writesR x loc)) : CoOk x (fun z => z = loc \/ p z) (orR co (ordR x.ev.length one)) := by
  obtain ⟨hnd, hm⟩ := allO_one ho
  have hl := h.len
  have h1 : ∀ i k, has (orR co (ordR x.ev.length one)) i k = true ↔ has co i k = true \/ (i < x.ev.length /\ k < x.ev.length /\ ∃ a b : Nat, a < b /\ b < one.length /\ gd one a = (i : Int) /\ gd one b = (k : Int)) := fun i k => by
    rw [h_or (by omega) (by rw [ordR_len]; omega), Bool.or_eq_true, h_ord hn]
  have h2 : ∀ a i : Nat, a < one.length -> gd one a = (i : Int) -> (gd x.ev i).kind = 2 /\ (gd x.ev i).loc = loc := fun a i ha e => by
    obtain ⟨k, e1, e2, e3, e4⟩ := (hm (gd one a)).1 (gd_mem ha)
    obtain rfl : i = k := by omega
    exact ⟨e3, e4⟩
  refine ⟨by rw [orR_len]; exact hl, fun i k hh => ?_, fun i j k ha hb => ?_, fun i k hi hk ki kk hl' hpp hne => ?_⟩
  . rcases (h1 i k).1 hh with hh | ⟨_, _, a, b, e1, e2, e3, e4⟩
    . obtain ⟨s1, s2, s3, s4, s5⟩ := h.sub i k hh
      exact ⟨s1, s2, s3, s4, .inr s5⟩
    . have q1 := h2 a i (by omega) e3
      have q2 := h2 b k e2 e4
      refine ⟨q1.1, q2.1, by omega, fun e => ?_, .inl q1.2⟩
      have := nodup_gd hnd (a := a) (b := b) (by omega) e2 (by omega)
      omega
  . rw [h1]
    rcases (h1 i j).1 ha with ha | ⟨hi, hj, a, b, e1, e2, e3, e4⟩
    . rcases (h1 j k).1 hb with hb | ⟨_, _, a, b, e1, e2, e3, e4⟩
      . exact .inl (h.tr i j k ha hb)
      . have q := h2 a j (by omega) e3
        obtain ⟨s1, s2, s3, s4, s5⟩ := h.sub i j ha
        rw [s3, q.2] at s5
        exact absurd s5 hp
    . rcases (h1 j k).1 hb with hb | ⟨_, hk, c, d, f1, f2, f3, f4⟩
      . have q := h2 b j e2 e4
        obtain ⟨s1, s2, s3, s4, s5⟩ := h.sub j k hb
        rw [q.2] at s5
        exact absurd s5 hp
      . have := nodup_gd hnd (a := b) (b := c) (by omega) (by omega) (by omega)
        exact .inr ⟨hi, hk, a, d, by omega, f2, e3, f4⟩
  . rw [h1, h1]
    rcases hpp with hpp | hpp
    . obtain ⟨a, ha, ea⟩ := List.mem_iff_getElem.1 ((hm (i : Int)).2 ⟨i, rfl, hi, ki, hpp⟩)
      obtain ⟨b, hb, eb⟩ := List.mem_iff_getElem.1 ((hm (k : Int)).2 ⟨k, rfl, hk, kk, by omega⟩)
      rw [gd_get ha] at ea
      rw [gd_get hb] at eb
      rcases Nat.lt_trichotomy a b with hab | hab | hab
      . exact .inl (.inr ⟨hi, hk, a, b, hab, hb, ea, eb⟩)
      . subst hab; omega
      . exact .inr (.inr ⟨hk, hi, b, a, hab, ha, eb, ea⟩)
    . rcases h.tot i k hi hk ki kk hl' hpp hne with hh | hh
      . exact .inl (.inl hh)
      . exact .inr (.inl hh)
theorem cohTo_ok {x : Ex} (hn : x.ev.length <= 32) : ∀ {ls : List Int} {p : Int -> Prop} {out r : List Rl}, cohTo x ls out = some r -> ls.Pairwise (. < ·) -> (∀ l ∈ ls, ¬ p l) -> (∀ a ∈ out, CoOk x p a) -> ∀ a ∈ r, CoOk x (fun z => z ∈ ls \/ p z) a
  | [], p, out, r, h, _, _, ho, a, ha => by
    rw [cohTo] at h; cases h
    have e : (fun z => z ∈ ([] : List Int) \/ p z) = p := by funext z; simp
    rw [e]; exact ho a ha
  | l :: ls, p, out, r, h, hs, hp, ho, a, ha => by
    rw [cohTo] at h
    split at h
    . cases h
    . have hs := List.pairwise_cons.1 hs
      have := cohTo_ok hn (p := fun z => z = l \/ p z) h hs.2 (fun z hz => by
        rintro (rfl | hz2)
        . have := hs.1 z hz; omega
        . exact hp z (by simp [hz]) hz2) (fun co hco => by
        obtain ⟨c, hc, hco⟩ := List.mem_flatMap.1 hco
        obtain ⟨one, h1, rfl⟩ := List.mem_map.1 hco
        exact coOk_step hn (ho c hc) (hp l (by simp)) h1) a ha
      have e : (fun z => z ∈ l :: ls \/ p z) = (fun z => z ∈ ls \/ (z = l \/ p z)) := by
        funext z; simp only [List.mem_cons, eq_iff_iff]
        constructor
        . rintro ((h | h) | h)
          . exact .inr (.inl h)
          . exact .inl h
          . exact .inr (.inr h)
        . rintro (h | h | h)
          . exact .inl (.inr h)
          . exact .inl (.inl h)
          . exact .inr h
      rw [e]; exact this
theorem place_mem {x : Ex} {i : Nat} (hi : i < x.ev.length) (hk : (gd x.ev i).kind = 2) : (gd x.ev i).loc ∈ placesR x := by
  refine onceR_all ?_
  unfold wlTo
  rw [List.take_length]
  exact List.mem_map.2 ⟨_, List.mem_filter.2 ⟨gd_mem hi, by simpa using hk⟩, rfl⟩
structure WayOk (x : Ex) (f : List Int) (co : Rl) : Prop where
  fl : f.length = x.ev.length
  src : ∀ r, r < x.ev.length -> ((gd x.ev r).kind ≠ 1 /\ gd f r = -2) \/ ((gd x.ev r).kind = 1 /\ (gd f r = -1 \/ ∃ w : Nat, gd f r = (w : Int) /\ w < x.ev.length /\ (gd x.ev w).kind = 2 /\ (gd x.ev w).loc = (gd x.ev r).loc))
  cl : co.length = x.ev.length
  sub : ∀ i k, has co i k = true -> (gd x.ev i).kind = 2 /\ (gd x.ev k).kind = 2 /\ (gd x.ev i).loc = (gd x.ev k).loc /\ i ≠ k
  tr : ∀ i j k, has co i j = true -> has co j k = true -> has co i k = true
  tot : ∀ i k, i < x.ev.length -> k < x.ev.length -> (gd x.ev i).kind = 2 -> (gd x.ev k).kind = 2 -> (gd x.ev i).loc = (gd x.ev k).loc -> i ≠ k -> has co i k = true \/ has co k i = true
theorem coh_ok {x : Ex} (hn : x.ev.length <= 32) {co : Rl} (h : co ∈ cohR x) : CoOk x (fun z => z ∈ placesR x) co := by
  unfold cohR at h
  cases hc : cohTo x (placesR x) [noneR x.ev.length] with
  | none => rw [hc] at h; cases h
  | some r =>
    rw [hc] at h
    have := cohTo_ok hn (p := fun _ => False) hc (onceR_lt _) (fun _ _ h => h) (fun a ha => by rw [List.mem_singleton] at ha; subst ha; exact coOk_none hn) co h
    simpa using this
theorem wayOk {x : Ex} (hn : x.ev.length <= 32) {init : List Int} {f : List Int} {co : Rl} (hf : f ∈ sourceR x init) (hc : co ∈ cohR x) : WayOk x f co := by
  obtain ⟨f1, f2⟩ := source_mem hf
  obtain ⟨c1, c2, c3, c4⟩ := coh_ok hn hc
  refine ⟨f1, fun r hr => ?_, c1, fun i k h => ?_, c3, fun i k hi hk k1 k2 hl hne => c4 i k hi hk k1 k2 hl (place_mem hi k1) hne⟩
  . have := f2 r hr
    unfold chF at this
    split at this
    . rename_i hk
      refine .inr ⟨hk, ?_⟩
      rcases may_mem this with ⟨h, _⟩ | ⟨w, h1, h2, h3, h4, _⟩
      . exact .inl h
      . exact .inr ⟨w, h1, h2, h3, h4⟩
    . rename_i hk
      rw [List.mem_singleton] at this
      exact .inl ⟨hk, this⟩
  . obtain ⟨s1, s2, s3, s4, _⟩ := c2 i k h
    exact ⟨s1, s2, s3, s4⟩
end Go.Sim
