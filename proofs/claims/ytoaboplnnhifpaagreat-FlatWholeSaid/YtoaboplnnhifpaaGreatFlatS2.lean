/- Part: FlatW, FlatX -/
import Derived.Test.YtoaboplnnhifpaaGreatFlatD
set_option linter.all false
namespace Go.Sim
open Enc (enc)
open Go.Proofs
def freeQ (r : Rl) (d : U32) (k : Nat) : Bool := !d.getLsbD k && decide (((pairsR (onlyR r (~~~d) (1#32 <<< k))).length : Int) = 0)
def freeR (r : Rl) (d : U32) : List Nat := (List.range r.length).filter (freeQ r d)
def firstGo (r : Rl) : Nat -> U32 -> List Nat -> Option (List Nat)
  | 0, _, l => some l
  | k + 1, d, l => match freeR r d with
    | [] => none
    | a :: _ => firstGo r k (d ||| 1#32 <<< a) (l ++ [a])
def firstR (r : Rl) : Option (List Nat) := firstGo r r.length 0#32 []
structure LineOk (r : Rl) (d : U32) (l : List Nat) : Prop where
  nd : l.Nodup
  lt : ∀ a ∈ l, a < r.length
  bits : ∀ a, a < 32 -> (d.getLsbD a = true ↔ a ∈ l)
  pre : ∀ b ∈ l, ∀ a, has r a b = true -> a ∈ l.take (l.idxOf b)
theorem free_iff {r : Rl} (hr : r.length <= 32) {d : U32} {k : Nat} : k ∈ freeR r d ↔ k < r.length /\ d.getLsbD k = false /\ ∀ a, has r a k = true -> d.getLsbD a = true := by
  unfold freeR freeQ
  rw [List.mem_filter, List.mem_range]
  simp only [Bool.and_eq_true, Bool.not_eq_true', decide_eq_true_eq]
  refine and_congr_right fun hk => and_congr_right fun _ => ?_
  constructor
  . intro h a ha
    have hla := has_lt ha
    cases hd : d.getLsbD a with
    | true => rfl
    | false =>
      exfalso
      have : ((a : Int), (k : Int)) ∈ pairsR (onlyR r (~~~d) (1#32 <<< k)) := mem_pairsR.2 ⟨a, k, rfl, by
        rw [h_only hr, ha, BitVec.getLsbD_not, hd, one_get (by omega)]
        simp; omega⟩
      have := List.length_pos_of_mem this
      omega
  . intro h
    have : pairsR (onlyR r (~~~d) (1#32 <<< k)) = [] := by
      rw [List.eq_nil_iff_forall_not_mem]
      intro p hp
      obtain ⟨a, b, _, hab⟩ := mem_pairsR.1 hp
      rw [h_only hr, Bool.and_eq_true, Bool.and_eq_true] at hab
      have hl := has_lt hab.1
      rw [one_get (by omega), BitVec.getLsbD_not] at hab
      have hb : b = k := by simpa using hab.2.2
      subst hb
      rw [h a hab.1] at hab
      simp at hab
    rw [this]; rfl
theorem leastF {r : Rl} (ha : acyR r = true) : ∀ (l : List Nat), l ≠ [] -> ∃ m ∈ l, ∀ a ∈ l, ¬ Way r a m
  | [], h => absurd rfl h
  | u :: l, _ => by
    have ir := acy_iff.1 ha
    by_cases hl : l = []
    . subst hl
      exact ⟨u, by simp, fun a h => by rw [List.mem_singleton] at h; subst h; exact ir _⟩
    . obtain ⟨m, hm, hall⟩ := leastF ha l hl
      by_cases hw : Way r u m
      . refine ⟨u, by simp, fun a h => ?_⟩
        rcases List.mem_cons.1 h with rfl | h
        . exact ir _
        . intro h2; exact hall a h (h2.trans hw)
      . refine ⟨m, by simp [hm], fun a h => ?_⟩
        rcases List.mem_cons.1 h with rfl | h
        . exact hw
        . exact hall a h
theorem line_step {r : Rl} (hr : r.length <= 32) {d : U32} {l : List Nat} (L : LineOk r d l) {a : Nat} (hf : a ∈ freeR r d) : LineOk r (d ||| 1#32 <<< a) (l ++ [a]) := by
  obtain ⟨h1, h2, h3⟩ := (free_iff hr).1 hf
  have hna : a ∉ l := fun h => by
    have := (L.bits a (by omega)).2 h
    rw [h2] at this; cases this
  refine ⟨List.nodup_append.2 ⟨L.nd, by simp, fun x hx y hy e => by rw [List.mem_singleton] at hy; subst hy; subst e; exact hna hx⟩, fun x hx => ?_, fun x hx => ?_, fun b hb x hx => ?_⟩
  . rcases List.mem_append.1 hx with hx | hx
    . exact L.lt x hx
    . rw [List.mem_singleton] at hx; subst hx; exact h1
  . rw [BitVec.getLsbD_or, Bool.or_eq_true, L.bits x hx, one_get hx, decide_eq_true_eq, List.mem_append, List.mem_singleton]
  . rcases List.mem_append.1 hb with hb | hb
    . rw [take_old hb]; exact L.pre b hb x hx
    . rw [List.mem_singleton] at hb; subst hb
      rw [take_new hna]
      have hl := has_lt hx
      exact (L.bits x (by omega)).1 (h3 x hx)
theorem sub_len : ∀ {m l : List Nat}, m.Nodup -> (∀ a ∈ m, a ∈ l) -> m.length <= l.length
  | [], _, _, _ => by simp
  | a :: m, l, hd, hs => by
    have hd := List.nodup_cons.1 hd
    have ha := hs a (by simp)
    have := sub_len (m := m) (l := l.erase a) hd.2 (fun b hb => (List.mem_erase_of_ne (fun e : b = a => hd.1 (by rw [← e]; exact hb))).2 (hs b (by simp [hb])))
    rw [List.length_erase_of_mem ha] at this
    have := List.length_pos_of_mem ha
    simp only [List.length_cons]
    omega
theorem nodup_len {n : Nat} {l : List Nat} (hd : l.Nodup) (hl : ∀ a ∈ l, a < n) : l.length <= n := by
  have := sub_len (l := List.range n) hd (fun a ha => List.mem_range.2 (hl a ha))
  rwa [List.length_range] at this
theorem full_mem {n : Nat} {l : List Nat} (hd : l.Nodup) (hl : ∀ a ∈ l, a < n) (hn : l.length = n) : ∀ a, a < n -> a ∈ l := by
  intro a ha
  rcases Classical.em (a ∈ l) with h | h
  . exact h
  . have := nodup_len (n := n) (l := a :: l) (List.nodup_cons.2 ⟨h, hd⟩) (fun b hb => by
      rcases List.mem_cons.1 hb with rfl | hb
      . exact ha
      . exact hl b hb)
    simp at this; omega
theorem first_go {r : Rl} (hr : r.length <= 32) (ha : acyR r = true) : ∀ (k : Nat) {d : U32} {l : List Nat}, LineOk r d l -> l.length + k = r.length -> ∃ l' d', firstGo r k d l = some l' /\ LineOk r d' l' /\ l'.length = r.length
  | 0, d, l, L, hk => ⟨l, d, rfl, L, by omega⟩
  | k + 1, d, l, L, hk => by
    have hne : freeR r d ≠ [] := by
      have hu : ((List.range r.length).filter fun a => decide (a ∉ l)) ≠ [] := by
        intro e
        have hall : ∀ a, a < r.length -> a ∈ l := fun a ha => by
          rcases Classical.em (a ∈ l) with h | h
          . exact h
          . have : a ∈ (List.range r.length).filter fun a => decide (a ∉ l) := List.mem_filter.2 ⟨List.mem_range.2 ha, by simpa using h⟩
            rw [e] at this; cases this
        have := sub_len (m := List.range r.length) (l := l) List.nodup_range fun a ha => hall a (List.mem_range.1 ha)
        rw [List.length_range] at this; omega
      obtain ⟨m, hm, hall⟩ := leastF ha _ hu
      have hm' := List.mem_filter.1 hm
      have hml := List.mem_range.1 hm'.1
      have hmn : m ∉ l := by simpa using hm'.2
      have : m ∈ freeR r d := (free_iff hr).2 ⟨hml, by
        cases hd : d.getLsbD m with
        | false => rfl
        | true => exact absurd ((L.bits m (by omega)).1 hd) hmn, fun a hh => by
          have hl := has_lt hh
          rcases Classical.em (a ∈ l) with h | h
          . exact (L.bits a (by omega)).2 h
          . exact absurd (.single hh) (hall a (List.mem_filter.2 ⟨List.mem_range.2 hl.1, by simpa using h⟩))⟩
      intro e
      rw [e] at this; cases this
    rw [firstGo]
    cases hf : freeR r d with
    | nil => exact absurd hf hne
    | cons a q =>
      exact first_go hr ha k (line_step hr L (by rw [hf]; simp)) (by rw [List.length_append, List.length_singleton]; omega)
theorem first_ok {r : Rl} (hr : r.length <= 32) (ha : acyR r = true) : ∃ l, firstR r = some l /\ l.Nodup /\ (∀ a, a ∈ l ↔ a < r.length) /\ ∀ b ∈ l, ∀ a, has r a b = true -> a ∈ l.take (l.idxOf b) := by
  obtain ⟨l, d, h1, L, h2⟩ := first_go hr ha r.length (d := 0#32) (l := []) ⟨List.nodup_nil, fun _ h => (by cases h), fun a _ => by simp, fun _ h => (by cases h)⟩ (by simp)
  exact ⟨l, h1, L.nd, fun a => ⟨L.lt a, full_mem L.nd L.lt h2 a⟩, L.pre⟩
end Go.Sim
namespace Go.Sim
open Enc (enc)
open Go.Proofs
variable {n : Int} {x : Ex} {init : List Int} {f : List Int} {co : Rl} {s : Fs}
def folO (x : Ex) (f : List Int) (s : Fs) (i : Nat) : Bool := decide (i < f.length) && (decide (0 <= ownZ x i) && (decide (gd f i = ownZ x i) && !s.d.getLsbD (ownZ x i).toNat))
def folGo (x : Ex) (init : List Int) (f : List Int) : List Nat -> Fs -> List Mv -> List Mv × Fs × Bool
  | [], s, ms => (ms, s, true)
  | i :: l, s, ms => if s.d.getLsbD i then folGo x init f l s ms else
    if (⟨i, folO x f s i⟩ : Mv) ∈ movesR x init s then folGo x init f l (doneR x s ⟨i, folO x f s i⟩) (ms ++ [⟨i, folO x f s i⟩]) else (ms, s, false)
theorem inv_fits (W : WfE n x) (hn : n = init.length) {h : List Nat} (I : FInv x init h s) : fitsB x init s = true := by
  unfold fitsB
  simp only [Bool.and_eq_true, decide_eq_true_eq, List.all_eq_true, List.mem_range]
  refine ⟨I.lf, I.ll, fun loc hl w hw => ?_⟩
  rw [I.rows loc (by rw [← I.ll]; exact hl)] at hw
  obtain ⟨k, hk, rfl⟩ := List.mem_map.1 hw
  have hk := List.mem_filter.1 hk
  have := (I.mem k hk.1).1
  have w1 := wr_iff.1 hk.2
  unfold fitW
  simp only [Bool.and_eq_true, decide_eq_true_eq, Int.toNat_natCast]
  exact ⟨by omega, by omega, w1.1, w1.2⟩
def Vals (x : Ex) (init : List Int) (f : List Int) : Prop := ∀ r, r < x.ev.length -> (gd x.ev r).kind = 1 -> (gd f r = -1 -> gd init (gd x.ev r).loc.toNat = (gd x.ev r).val) /\ ∀ v : Nat, gd f r = (v : Int) -> (gd x.ev v).val = (gd x.ev r).val
theorem vals_of (hf : f ∈ sourceR x init) : Vals x init f := by
  intro r hr hk
  have := (source_mem hf).2 r hr
  unfold chF at this
  rw [if_pos hk] at this
  rcases may_mem this with ⟨h, hq⟩ | ⟨w, h1, _, _, _, h5⟩
  . unfold firstQ at hq
    simp only [Bool.and_eq_true, decide_eq_true_eq] at hq
    exact ⟨fun _ => hq.2.2, fun v e => by omega⟩
  . refine ⟨fun e => by omega, fun v e => ?_⟩
    obtain rfl : v = w := by omega
    exact h5
structure Mid2 (x : Ex) (init : List Int) (f : List Int) (p : List Nat) (s : Fs) (ms : List Mv) : Prop where
  run : FRun x init (p.filter fun i => decide (Mem x i)) s
  rd : ∀ i ∈ p, (gd x.ev i).kind = 1 -> gd s.f i = gd f i
  ms : ms.length = (p.filter fun i => decide (Mem x i)).length
theorem fol_step (W : WfE n x) (hn : n = init.length) (K : WayOk x f co) (V : Vals x init f) (hI : internalB x f co = true) {l p q : List Nat} {i : Nat} (hl : l = p ++ i :: q) (hd : l.Nodup) (hm : ∀ a, a ∈ l ↔ a < x.ev.length)
    (hp : ∀ b ∈ l, ∀ a, has (wideR x f co) a b = true -> a ∈ l.take (l.idxOf b)) {ms : List Mv} (M : Mid2 x init f p s ms) (hmi : Mem x i) :
    s.d.getLsbD i = false /\ (⟨i, folO x f s i⟩ : Mv) ∈ movesR x init s /\ Mid2 x init f (p ++ [i]) (doneR x s ⟨i, folO x f s i⟩) (ms ++ [⟨i, folO x f s i⟩]) := by
  have h32 := W.n32
  have I := run_inv W hn M.run
  have hi : i < x.ev.length := (hm i).1 (by rw [hl]; simp)
  have hip : i ∉ p := by
    rw [hl] at hd
    have := (List.nodup_append.1 hd).2.2
    intro h; exact this i h i (by simp) rfl
  have hidx : ∀ b ∈ p, l.idxOf b = p.idxOf b := fun b hb => by rw [hl, List.idxOf_append, if_pos hb]
  have hidi : l.idxOf i = p.length := by rw [hl, List.idxOf_append, if_neg hip]; simp
  have T1 : ∀ a, has (wideR x f co) a i = true -> a ∈ p := fun a ha => by
    have := hp i (by rw [hl]; simp) a ha
    rw [hidi, hl, List.take_left] at this
    exact this
  have tk : ∀ b ∈ p, l.take (l.idxOf b) = p.take (p.idxOf b) := fun b hb => by
    rw [hidx b hb, hl, List.take_append_of_le_length (Nat.le_of_lt (List.idxOf_lt_length_of_mem hb))]
  have T3 : ∀ b ∈ p, ∀ a, has (wideR x f co) a b = true -> a ∈ p.take (p.idxOf b) := fun b hb a ha => by
    have := hp b (by rw [hl]; simp [hb]) a ha
    rwa [tk b hb] at this
  have T3' : ∀ b ∈ p, ∀ a, has (wideR x f co) a b = true -> a ∈ p := fun b hb a ha => List.mem_of_mem_take (T3 b hb a ha)
  have T2 : ∀ w ∈ p, has (wideR x f co) i w = true -> False := fun w hw h => hip (T3' w hw i h)
  have ob : ∀ {a b : Nat}, has (obR x f co) a b = true -> has (wideR x f co) a b = true := fun h => (h_wide W K).2 (.inl h)
  have inh : ∀ a, a ∈ p -> Mem x a -> a ∈ p.filter fun i => decide (Mem x i) := fun a ha hma => List.mem_filter.2 ⟨ha, decide_eq_true hma⟩
  have hin : ∀ a, a ∈ (p.filter fun i => decide (Mem x i)) -> a ∈ p /\ Mem x a := fun a ha => by
    have := List.mem_filter.1 ha
    exact ⟨this.1, of_decide_eq_true this.2⟩
  have bit : ∀ a, a < x.ev.length -> Mem x a -> (s.d.getLsbD a = true ↔ a ∈ p) := fun a ha hma => by
    rw [I.bits a (by omega)]
    constructor
    . rintro (⟨_, h⟩ | h)
      . exact absurd hma h
      . exact (hin a h).1
    . intro h; exact .inr (inh a h hma)
  have hni : s.d.getLsbD i = false := by
    cases h : s.d.getLsbD i with
    | false => rfl
    | true => exact absurd ((bit i hi hmi).1 h) hip
  obtain ⟨ev, _⟩ := W.evs i hi
  have hloc := ev.loc
  -- what is wide
  have coW : ∀ {a b : Nat}, has co a b = true -> has (wideR x f co) a b = true := fun {a b} h => by
    by_cases ht : Th x a b
    . exact (h_wide W K).2 (.inr ⟨.inl h, ht⟩)
    . exact ob ((h_ob W K).2 (.inl ⟨(h_com h32 K).2 (.inr (.inl h)), ht⟩))
  have frW : ∀ {a b : Nat}, has (frR x.ev f co) a b = true -> has (wideR x f co) a b = true := fun {a b} h => by
    by_cases ht : Th x a b
    . exact (h_wide W K).2 (.inr ⟨.inr h, ht⟩)
    . exact ob ((h_ob W K).2 (.inl ⟨(h_com h32 K).2 (.inr (.inr h)), ht⟩))
  have rfW : ∀ {a b : Nat}, has (rfR x.ev.length f) a b = true -> ¬ Th x a b -> has (wideR x f co) a b = true := fun {a b} h ht => ob ((h_ob W K).2 (.inl ⟨(h_com h32 K).2 (.inl h), ht⟩))
  have hready : readyB x init s i (aheadZ x) = true := by
    unfold readyB
    simp only [Bool.and_eq_true, Bool.not_eq_true', decide_eq_true_eq]
    refine ⟨hni, hloc.1, by omega, ?_⟩
    have : pairsR (onlyR (aheadZ x) (~~~s.d) (1#32 <<< i)) = [] := by
      rw [List.eq_nil_iff_forall_not_mem]
      intro pr hpr
      obtain ⟨a, b, _, hab⟩ := mem_pairsR.1 hpr
      rw [h_only (by rw [aheadZ_len]; omega), Bool.and_eq_true, Bool.and_eq_true] at hab
      have hla := has_lt hab.1
      rw [aheadZ_len] at hla
      rw [one_get (by omega), BitVec.getLsbD_not] at hab
      have hb : b = i := by simpa using hab.2.2
      subst hb
      have hw : has (wantTo x f x.ev.length) a b = true := (h_want W K (Nat.le_refl _)).2 (.inl hab.1)
      rw [← (sameR_iff.1 (is_pure W K hI)).2 a b] at hw
      rw [h_or (by simp only [go_sem]; omega) (by simp only [go_sem]), h_or (by simp only [go_sem]; omega) (by simp only [go_sem]), Bool.or_eq_true, Bool.or_eq_true, h_dob W K, h_aob W K, h_bob W K] at hw
      have hob : has (obR x f co) a b = true := by
        rw [h_ob W K]
        rcases hw with ⟨h1, h2⟩ | ⟨h1, h2⟩ | ⟨h1, h2⟩
        . exact .inr ⟨.inl h1, h2⟩
        . exact .inr ⟨.inr (.inl h1), h2⟩
        . exact .inr ⟨.inr (.inr h1), h2⟩
      have := (bit a hla.1 (aheadZ_po W _ _ hab.1).2.1).2 (T1 a (ob hob))
      rw [this] at hab
      simp at hab
    rw [this]; rfl
  -- what is read
  have own : (gd x.ev i).kind = 1 -> ∀ v : Nat, ownZ x i = (v : Int) -> v < x.ev.length /\ (gd x.ev v).kind = 2 /\ has x.po v i = true := fun _ v e => by
    rcases own_is W i with h | ⟨w, h1, h2, h3, h4, h5, h6, h7⟩
    . omega
    . obtain rfl : w = v := by omega
      exact ⟨by omega, h6, h4⟩
  have hw : (gd x.ev i).kind = 1 -> folO x f s i = waitsB x s i := fun hk => by
    obtain ⟨A, B⟩ := own_law W K hI hi hk
    unfold folO waitsB
    rcases own_nat W i with e | ⟨v, e, hv, kv⟩
    . rw [e]; simp
    . rw [e]
      simp only [Int.toNat_natCast, K.fl, hi, decide_true, Bool.true_and]
      by_cases hfv : gd f i = (v : Int)
      . simp [hfv]
      . cases hd : s.d.getLsbD v with
        | true => simp
        | false =>
          exfalso
          obtain ⟨h0, hco⟩ := B (by omega) (by rw [e]; exact hfv)
          rw [e, Int.toNat_natCast] at hco
          obtain ⟨u, eu⟩ := Int.eq_ofNat_of_zero_le h0
          rw [eu, Int.toNat_natCast] at hco
          have hrf : has (rfR x.ev.length f) u i = true := by
            have hlu := has_lt hco
            have hc := K.cl
            exact (h_rf h32 K).2 ⟨by omega, hi, eu⟩
          have hnt : ¬ Th x u i := fun ht => hfv (by rw [← e]; exact A h0 (by rw [eu, Int.toNat_natCast]; exact ht))
          have hup := T1 u (rfW hrf hnt)
          have hvp := T3' u hup v (coW hco)
          rw [(bit v hv (by simp [Mem, kv])).2 hvp] at hd
          cases hd
  have hmay : mayB x init s i (folO x f s i) = true /\ ((gd x.ev i).kind = 1 -> (if folO x f s i then ownZ x i else lastS s (gd x.ev i).loc) = gd f i) := by
    by_cases hk2 : (gd x.ev i).kind = 2
    . have ho : folO x f s i = false := by
        rcases own_is W i with e | ⟨w, _, _, _, _, _, _, h7⟩
        . unfold folO; rw [e]; simp
        . omega
      refine ⟨?_, fun h => by omega⟩
      unfold mayB; rw [if_pos hk2, ho]; rfl
    . have hk1 : (gd x.ev i).kind = 1 := by simp only [Mem, List.mem_cons, List.not_mem_nil, or_false] at hmi; omega
      obtain ⟨V1, V2⟩ := V i hi hk1
      have hwo := hw hk1
      obtain ⟨A, B⟩ := own_law W K hI hi hk1
      cases ho : folO x f s i with
      | true =>
        have ho' := ho
        unfold folO at ho
        simp only [Bool.and_eq_true, decide_eq_true_eq, Bool.not_eq_true'] at ho
        obtain ⟨_, h0, hf, hnd⟩ := ho
        obtain ⟨v, ev⟩ := Int.eq_ofNat_of_zero_le h0
        obtain ⟨hv, kv, pv⟩ := own hk1 v ev
        rw [ev, Int.toNat_natCast] at hnd
        rw [ev] at hf
        have hrf : has (rfR x.ev.length f) v i = true := (h_rf h32 K).2 ⟨hv, hi, hf⟩
        have htv : Th x v i := ((W.po _ _).1 pv).2.2
        have hnv : v ∉ p := fun h => by
          rw [(bit v hv (by simp [Mem, kv])).2 h] at hnd; cases hnd
        refine ⟨?_, fun _ => by simp [ev, hf]⟩
        unfold mayB
        rw [if_neg hk2, if_neg (by omega), if_neg (by rw [← hwo, ho']; simp), if_neg (by simp), ev, Int.toNat_natCast]
        simp only [Bool.and_eq_true, decide_eq_true_eq, Bool.not_eq_true']
        refine ⟨V2 v hf, ?_, ?_⟩
        . apply BitVec.eq_of_getLsbD_eq
          intro j hj
          rw [BitVec.getLsbD_and, BitVec.getLsbD_not]
          cases hb : (needsM x (v : Int)).getLsbD j with
          | false => simp
          | true =>
            have hnd := (needs_bit W hv).1 hb
            have hjl : j < x.ev.length /\ Mem x j := by
              have l3 := W.laddr; have l4 := W.ldata
              rcases hnd with h | h
              . have := has_lt h; exact ⟨by omega, by simp [Mem, (W.addr _ _ h).2.1]⟩
              . have := has_lt h; exact ⟨by omega, by simp [Mem, (W.data _ _ h).2.1]⟩
            have hob : has (obR x f co) j i = true := (h_ob W K).2 (.inr ⟨.inl (.inr (.inr ⟨v, hnd, hrf, htv⟩)), hjl.2, hmi⟩)
            rw [(bit j hjl.1 hjl.2).2 (T1 j (ob hob))]
            simp
        . cases hsh : shutB x (i : Int) (v : Int) with
          | false => rfl
          | true =>
            exfalso
            obtain ⟨h1, h2⟩ := (shut_iff W hv hi).1 hsh
            have hob : has (obR x f co) v i = true := (h_ob W K).2 (.inr ⟨.inr (.inl (.inr ⟨hrf, htv, h2, h1⟩)), by simp [Mem, kv], hmi⟩)
            exact hnv (T1 v (ob hob))
      | false =>
        have hls : lastS s (gd x.ev i).loc = lastL (nats ((p.filter fun i => decide (Mem x i)).filter (wrQ x (gd x.ev i).loc))) := by
          unfold lastS
          rw [I.rows _ (by omega), show (((gd x.ev i).loc.toNat : Nat) : Int) = (gd x.ev i).loc by omega]
        have hlast : lastS s (gd x.ev i).loc = gd f i := by
          rw [hls]
          generalize hh : (p.filter fun i => decide (Mem x i)) = h at I hin inh
          have hnone : ∀ w, w ∈ h -> (gd x.ev w).kind = 2 -> (gd x.ev w).loc = (gd x.ev i).loc -> has (frR x.ev f co) i w = true -> False := fun w hw _ _ hfr => T2 w (hin w hw).1 (frW hfr)
          rcases lastL_nats (l := h.filter (wrQ x (gd x.ev i).loc)) with ⟨e, e2⟩ | ⟨hl0, e2⟩
          . rw [e2]
            rcases K.src i hi with ⟨hk, _⟩ | ⟨_, hs | ⟨v, hs, hv, kv, lv⟩⟩
            . exact absurd hk1 hk
            . exact hs.symm
            . exfalso
              have hrf : has (rfR x.ev.length f) v i = true := (h_rf h32 K).2 ⟨hv, hi, hs⟩
              have hvp : v ∈ p := by
                by_cases ht : Th x v i
                . have e3 := A (by omega) (by rw [hs, Int.toNat_natCast]; exact ht)
                  rw [ho] at hwo
                  unfold waitsB at hwo
                  rw [← e3, hs, Int.toNat_natCast] at hwo
                  have : s.d.getLsbD v = true := by
                    cases hd : s.d.getLsbD v with
                    | true => rfl
                    | false => rw [hd] at hwo; simp at hwo
                  exact (bit v hv (by simp [Mem, kv])).1 this
                . exact T1 v (rfW hrf ht)
              have : v ∈ h.filter (wrQ x (gd x.ev i).loc) := List.mem_filter.2 ⟨inh v hvp (by simp [Mem, kv]), wr_iff.2 ⟨kv, lv⟩⟩
              rw [e] at this; cases this
          . have hum := List.mem_filter.1 (List.getElem_mem (l := h.filter (wrQ x (gd x.ev i).loc)) (n := (h.filter (wrQ x (gd x.ev i).loc)).length - 1) (by omega))
            rw [e2]
            generalize hu : (h.filter (wrQ x (gd x.ev i).loc))[(h.filter (wrQ x (gd x.ev i).loc)).length - 1] = u at hum
            have wu := wr_iff.1 hum.2
            have hul := (I.mem u hum.1).1
            rcases K.src i hi with ⟨hk, _⟩ | ⟨_, hs | ⟨v, hs, hv, kv, lv⟩⟩
            . exact absurd hk1 hk
            . exact (hnone u hum.1 wu.1 wu.2 ((h_fr h32 K).2 ⟨hi, hul, hk1, wu.1, wu.2, .inl hs⟩)).elim
            . rw [hs]
              by_cases huv : u = v
              . rw [huv]
              . exfalso
                rcases K.tot v u hv hul kv wu.1 (by omega) (fun e => huv e.symm) with hc | hc
                . exact hnone u hum.1 wu.1 wu.2 ((h_fr h32 K).2 ⟨hi, hul, hk1, wu.1, wu.2, .inr ⟨v, hs, hc⟩⟩)
                . -- v is there too, and behind u: but u is the last
                  have hrf : has (rfR x.ev.length f) v i = true := (h_rf h32 K).2 ⟨hv, hi, hs⟩
                  have hvp : v ∈ p := by
                    by_cases ht : Th x v i
                    . have e3 := A (by omega) (by rw [hs, Int.toNat_natCast]; exact ht)
                      rw [ho] at hwo
                      unfold waitsB at hwo
                      rw [← e3, hs, Int.toNat_natCast] at hwo
                      have : s.d.getLsbD v = true := by
                        cases hd : s.d.getLsbD v with
                        | true => rfl
                        | false => rw [hd] at hwo; simp at hwo
                      exact (bit v hv (by simp [Mem, kv])).1 this
                    . exact T1 v (rfW hrf ht)
                  have hvm : v ∈ h.filter (wrQ x (gd x.ev i).loc) := List.mem_filter.2 ⟨inh v hvp (by simp [Mem, kv]), wr_iff.2 ⟨kv, lv⟩⟩
                  have hpd : p.Nodup := by rw [hl] at hd; exact (List.nodup_append.1 hd).1
                  have hlt : p.idxOf u < p.idxOf v := (mem_take_idx hpd (T3 v hvp u (coW hc))).1
                  obtain ⟨a, ha, ea⟩ := List.mem_iff_getElem.1 hvm
                  have hpw : h.Pairwise (fun a b => p.idxOf a < p.idxOf b) := by rw [← hh]; exact (idx_pair hpd).filter _
                  have hpf := List.pairwise_iff_getElem.1 (hpw.filter (wrQ x (gd x.ev i).loc))
                  rcases Nat.lt_or_ge a ((h.filter (wrQ x (gd x.ev i).loc)).length - 1) with h5 | h5
                  . have := hpf a _ ha (by omega) h5
                    rw [ea, hu] at this; omega
                  . have : a = (h.filter (wrQ x (gd x.ev i).loc)).length - 1 := by omega
                    subst this
                    rw [hu] at ea; exact huv ea
        refine ⟨?_, fun _ => by simp [hlast]⟩
        unfold mayB
        rw [if_neg hk2, if_neg (by omega), if_neg (by rw [← hwo, ho]; simp), if_pos rfl, decide_eq_true_eq]
        unfold valueS
        rw [hlast]
        split
        . rename_i e; exact V1 e
        . rename_i e
          rcases K.src i hi with ⟨hk, _⟩ | ⟨_, hs | ⟨v, hs, _⟩⟩
          . exact absurd hk1 hk
          . exact absurd hs e
          . rw [hs, Int.toNat_natCast]; exact V2 v hs
  have hcan : canB x init s i (folO x f s i) = true := by unfold canB; rw [hready, hmay.1]; rfl
  have hfil : (p ++ [i]).filter (fun i => decide (Mem x i)) = (p.filter fun i => decide (Mem x i)) ++ [i] := by
    rw [List.filter_append, List.filter_cons, if_pos (decide_eq_true hmi)]; rfl
  refine ⟨hni, moves_in.2 ⟨inv_fits W hn I, i, _, rfl, hi, hcan⟩, ⟨by rw [hfil]; exact .step i _ M.run hi hcan, fun j hj hkj => ?_, by rw [hfil, List.length_append, List.length_append, M.ms]; rfl⟩⟩
  unfold doneR
  simp only [Int.toNat_natCast]
  rcases List.mem_append.1 hj with hj | hj
  . have hne : i ≠ j := fun e => hip (e ▸ hj)
    split
    . exact M.rd j hj hkj
    . rw [gd_set_ne hne]; exact M.rd j hj hkj
  . rw [List.mem_singleton] at hj; subst hj
    rw [if_neg (by omega), gd_set_eq (by rw [I.lf]; exact hi)]
    exact hmay.2 hkj
theorem fol_go (W : WfE n x) (hn : n = init.length) (K : WayOk x f co) (V : Vals x init f) (hI : internalB x f co = true) {l : List Nat} (hd : l.Nodup) (hm : ∀ a, a ∈ l ↔ a < x.ev.length)
    (hp : ∀ b ∈ l, ∀ a, has (wideR x f co) a b = true -> a ∈ l.take (l.idxOf b)) : ∀ {q p : List Nat} {s : Fs} {ms : List Mv}, l = p ++ q -> Mid2 x init f p s ms -> ∃ ms' s', folGo x init f q s ms = (ms', s', true) /\ Mid2 x init f l s' ms'
  | [], p, s, ms, hl, M => ⟨ms, s, rfl, by rw [List.append_nil] at hl; subst hl; exact M⟩
  | i :: q, p, s, ms, hl, M => by
    rw [folGo]
    by_cases hmi : Mem x i
    . obtain ⟨h1, h2, h3⟩ := fol_step W hn K V hI hl hd hm hp M hmi
      rw [h1, if_neg (by simp), if_pos h2]
      exact fol_go W hn K V hI hd hm hp (p := p ++ [i]) (by rw [hl]; simp) h3
    . have h32 := W.n32
      have I := run_inv W hn M.run
      have hi : i < x.ev.length := (hm i).1 (by rw [hl]; simp)
      have : s.d.getLsbD i = true := (I.bits i (by omega)).2 (.inl ⟨hi, hmi⟩)
      rw [this, if_pos rfl]
      refine fol_go W hn K V hI hd hm hp (p := p ++ [i]) (by rw [hl]; simp) ?_
      have hfil : (p ++ [i]).filter (fun i => decide (Mem x i)) = (p.filter fun i => decide (Mem x i)) := by
        rw [List.filter_append, List.filter_cons, if_neg (by simpa using hmi)]; simp
      refine ⟨by rw [hfil]; exact M.run, fun j hj hkj => ?_, by rw [hfil]; exact M.ms⟩
      rcases List.mem_append.1 hj with hj | hj
      . exact M.rd j hj hkj
      . rw [List.mem_singleton] at hj; subst hj
        exact absurd (by simp [Mem, hkj]) hmi
def Cln (n : Nat) (r : Rl) : Prop := r = mk n (has r)
theorem cln_or {m : Nat} (hm : m <= 32) {a b : Rl} (ha : a.length = m) : Cln m (orR a b) := by
  subst ha
  unfold Cln orR
  exact mk_ext fun i k hi hk => by rw [has_mk' hm hi hk]
theorem cln_none {m : Nat} (hm : m <= 32) : Cln m (noneR m) := by
  unfold Cln
  conv => lhs; unfold noneR
  exact mk_ext fun i k hi hk => (none_has hm).symm
theorem coh_cln (hn : x.ev.length <= 32) : ∀ {ls : List Int} {out r : List Rl}, cohTo x ls out = some r -> (∀ a ∈ out, a.length = x.ev.length /\ Cln x.ev.length a) -> ∀ a ∈ r, Cln x.ev.length a
  | [], out, r, h, ho => by rw [cohTo] at h; cases h; exact fun a ha => (ho a ha).2
  | l :: ls, out, r, h, ho => by
    rw [cohTo] at h
    split at h
    . cases h
    . refine coh_cln hn h fun a ha => ⟨cohNext_len (fun b hb => (ho b hb).1) a ha, ?_⟩
      obtain ⟨c, hc, ha⟩ := List.mem_flatMap.1 ha
      obtain ⟨one, _, rfl⟩ := List.mem_map.1 ha
      exact cln_or hn (ho c hc).1
theorem cohR_cln (hn : x.ev.length <= 32) (h : co ∈ cohR x) : Cln x.ev.length co := by
  unfold cohR at h
  cases hc : cohTo x (placesR x) [noneR x.ev.length] with
  | none => rw [hc] at h; cases h
  | some r =>
    rw [hc] at h
    exact coh_cln hn hc (fun a ha => by rw [List.mem_singleton] at ha; subst ha; exact ⟨noneR_len _, cln_none hn⟩) _ h
theorem coS_cln (hn : x.ev.length <= 32) (s : Fs) : Cln x.ev.length (coS x s) := by
  unfold coS
  have : ∀ (ls : List (List Int)) (a : Rl), a.length = x.ev.length -> Cln x.ev.length a -> Cln x.ev.length (ls.foldl (fun r l => orR r (ordR x.ev.length l)) a) := by
    intro ls
    induction ls with
    | nil => intro a _ h; exact h
    | cons l ls ih => intro a ha h; rw [List.foldl_cons]; exact ih _ (by rw [orR_len]; exact ha) (cln_or hn ha)
  exact this _ _ (noneR_len _) (cln_none hn)
theorem flat_whole (W : WfE n x) (hn : n = init.length) (hf : f ∈ sourceR x init) (hc : co ∈ cohR x) (hg : goodB x f co = true) :
    ∃ l ms s, firstR (wideR x f co) = some l /\ folGo x init f l (startR x init) [] = (ms, s, true) /\ finalB x s = true /\ s.f = f /\ coS x s = co /\ ms.length <= x.ev.length := by
  have h32 := W.n32
  have K := wayOk h32 hf hc
  have V := vals_of hf
  unfold goodB at hg
  simp only [Bool.and_eq_true] at hg
  obtain ⟨hI, hE, hA⟩ := hg
  obtain ⟨l, h1, h2, h3, h4⟩ := first_ok (r := wideR x f co) (by simp only [go_sem]; omega) (wide_pure W K hI hE).1
  simp only [go_sem] at h3
  obtain ⟨ms, s, e, M⟩ := fol_go W hn K V hI h2 h3 h4 (q := l) (p := []) (s := startR x init) (ms := []) rfl ⟨.start, fun i hi => (by cases hi), rfl⟩
  have I := run_inv W hn M.run
  have F : Full x (l.filter fun i => decide (Mem x i)) := fun i hi hm => List.mem_filter.2 ⟨(h3 i).2 hi, decide_eq_true hm⟩
  refine ⟨l, ms, s, h1, e, ?_, ?_, ?_, ?_⟩
  . unfold finalB
    rw [List.all_eq_true]
    intro i hi
    have hi := List.mem_range.1 hi
    by_cases hm : Mem x i
    . exact (I.bits i (by omega)).2 (.inr (F i hi hm))
    . exact (I.bits i (by omega)).2 (.inl ⟨hi, hm⟩)
  . refine gd_ext (by rw [I.lf, K.fl]) fun i hi => ?_
    have hi : i < x.ev.length := by rw [← I.lf]; exact hi
    by_cases hk : (gd x.ev i).kind = 1
    . exact M.rd i ((h3 i).2 hi) hk
    . rw [I.no i hi (fun h => hk h.1)]
      rcases K.src i hi with ⟨_, h⟩ | ⟨h, _⟩
      . exact h.symm
      . exact absurd h hk
  . have c1 := coS_cln h32 s
    have c2 := cohR_cln h32 hc
    unfold Cln at c1 c2
    rw [c1, c2]
    apply mk_ext
    intro i k hi hk
    rw [Bool.eq_iff_iff, h_coS W hn I]
    have coW : ∀ {a b : Nat}, has co a b = true -> has (wideR x f co) a b = true := fun {a b} h => by
      by_cases ht : Th x a b
      . exact (h_wide W K).2 (.inr ⟨.inl h, ht⟩)
      . exact (h_wide W K).2 (.inl ((h_ob W K).2 (.inl ⟨(h_com h32 K).2 (.inr (.inl h)), ht⟩)))
    have hpw : (l.filter fun i => decide (Mem x i)).Pairwise (fun a b => l.idxOf a < l.idxOf b) := (idx_pair h2).filter _
    have hcv : ∀ a b, a ∈ (l.filter fun i => decide (Mem x i)) -> b ∈ (l.filter fun i => decide (Mem x i)) -> (l.filter fun i => decide (Mem x i)).idxOf a < (l.filter fun i => decide (Mem x i)).idxOf b -> l.idxOf a < l.idxOf b := fun a b ha hb hlt => by
      have hla := List.idxOf_lt_length_of_mem ha
      have hlb := List.idxOf_lt_length_of_mem hb
      have := List.pairwise_iff_getElem.1 hpw _ _ hla hlb hlt
      rwa [List.getElem_idxOf hla, List.getElem_idxOf hlb] at this
    constructor
    . rintro ⟨ha, hb, k1, k2, hl, hlt⟩
      have hlt2 := hcv i k ha hb hlt
      rcases K.tot i k hi hk k1 k2 hl (fun e => by subst e; omega) with h | h
      . exact h
      . exfalso
        have := (mem_take_idx h2 (h4 i ((h3 i).2 hi) k (coW h))).1
        omega
    . intro h
      have sb := K.sub _ _ h
      have hlt := (mem_take_idx h2 (h4 k ((h3 k).2 hk) i (coW h))).1
      have ha := F i hi (by simp [Mem, sb.1])
      have hb := F k hk (by simp [Mem, sb.2.1])
      refine ⟨ha, hb, sb.1, sb.2.1, sb.2.2.1, ?_⟩
      rcases Nat.lt_trichotomy ((l.filter fun i => decide (Mem x i)).idxOf i) ((l.filter fun i => decide (Mem x i)).idxOf k) with h5 | h5 | h5
      . exact h5
      . exact absurd (idx_inj ha hb h5) sb.2.2.2
      . have := hcv k i hb ha h5; omega
  . rw [M.ms]
    exact nodup_len (h2.sublist List.filter_sublist) fun a ha => (h3 a).1 (List.mem_filter.1 ha).1
end Go.Sim
