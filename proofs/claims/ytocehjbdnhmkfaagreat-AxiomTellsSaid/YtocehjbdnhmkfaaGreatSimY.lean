/- A part of the proof of a law of module cupola: SimY. It has no conditions of its own. -/
import Derived.Test.YtocehjbdnhmkfaaGreatSimV
set_option linter.all false
/-! Any order that the edges allow. -/
namespace Go.Sim
section
variable {P : Program} {call : CallFn} {ops : Array Oper} {N : Nat}

/-- One operation, and the rest. -/
theorem head_run (hC : CallOk P call) {o : Oper} {l : List Oper} {e : Env} {H : Heap} {lg : Log} {e' : Env} {H' : Heap} {lg1 : Log} (hG : Good N e H) (hd : ∀ t, o.dst = some t → t < N) (h : opsRun P call ops (o :: l) e H lg = some (e', H', lg1)) :
    ∃ e1 H1 lg0, Good N e1 H1 ∧ opsRun P call ops l e1 H1 lg0 = some (e', H', lg1) ∧ ∀ l' r, opsRun P call ops l' e1 H1 lg0 = some r → opsRun P call ops (o :: l') e H lg = some r := by
  simp only [opsRun] at h
  split at h
  · rename_i hw
    split at h
    · rename_i v H1 f hrun
      refine ⟨_, H1, _, good_step hC hG hrun hd, h, fun l' r hr => ?_⟩
      simp only [opsRun, hw, hrun]; exact hr
    · cases h
  · rename_i hw
    refine ⟨_, H, lg, good_dead hG hd, h, fun l' r hr => ?_⟩
    simp only [opsRun, hw]; exact hr
  · cases h

theorem bubble {L : List (Option Tmp × Option Tmp)} (hC : CallOk P call) {s : Oper} {B : List Oper} : ∀ (A : List Oper) (e : Env) (H : Heap) (lg : Log) (e' : Env) (H' : Heap) (lg1 : Log), Good N e H → (∀ x ∈ A, (indep ops x s = true ∧ (x.dst, s.dst) ∈ L) ∧ ∀ t, x.dst = some t → t < N) →
    opsRun P call ops (A ++ s :: B) e H lg = some (e', H', lg1) → lg1.fine L = true → ∃ lg2, opsRun P call ops (s :: (A ++ B)) e H lg = some (e', H', lg2) ∧ LogEq lg1 lg2 := by
  intro A
  induction A with
  | nil => intro e H lg e' H' lg1 _ _ h _; exact ⟨lg1, h, LogEq.refl _⟩
  | cons a A ih =>
    intro e H lg e' H' lg1 hG hA h hf
    obtain ⟨hi, hd⟩ := hA a (by simp)
    obtain ⟨e1, H1, lg0, hG1, h1, back⟩ := head_run hC hG hd h
    obtain ⟨lg2, h2, hl2⟩ := ih e1 H1 lg0 e' H' lg1 hG1 (fun x hx => hA x (by simp [hx])) h1 hf
    have h3 := back _ _ h2
    obtain ⟨lg3, h4, hl3⟩ := swap_ops hG hi.1 h3 hi.2 (fine_eq hl2 hf)
    exact ⟨lg3, h4, hl2.trans hl3⟩

def lst (ops : Array Oper) (σ : List Nat) : List Oper := σ.filterMap fun i => ops[i]?

theorem perm_run {Lp : List (Option Tmp × Option Tmp)} (hC : CallOk P call) (hd : ∀ o ∈ ops.toList, ∀ t, o.dst = some t → t < N) : ∀ (σ L : List Nat) (e : Env) (H : Heap) (lg : Log) (e' : Env) (H' : Heap) (lg1 : Log), σ.Perm L → L.Pairwise (· < ·) →
    σ.Pairwise (fun a b => b < a → ∀ x y, ops[a]? = some x → ops[b]? = some y → indep ops y x = true ∧ (y.dst, x.dst) ∈ Lp) → Good N e H → opsRun P call ops (lst ops L) e H lg = some (e', H', lg1) → lg1.fine Lp = true →
    ∃ lg2, opsRun P call ops (lst ops σ) e H lg = some (e', H', lg2) := by
  intro σ
  induction σ with
  | nil =>
    intro L e H lg e' H' lg1 hp _ _ _ h _
    have : L = [] := hp.symm.eq_nil
    subst this
    exact ⟨lg1, h⟩
  | cons s σ ih =>
    intro L e H lg e' H' lg1 hp hL hσ hG h hf
    have hs : s ∈ L := hp.subset (by simp)
    obtain ⟨A, B, rfl⟩ := List.append_of_mem hs
    have hp' : σ.Perm (A ++ B) := by
      have := hp.trans List.perm_middle
      exact List.Perm.cons_inv this
    rw [List.pairwise_append] at hL
    obtain ⟨hLA, hLB, hAB⟩ := hL
    rw [List.pairwise_cons] at hLB
    have hL' : (A ++ B).Pairwise (· < ·) := List.pairwise_append.2 ⟨hLA, hLB.2, fun a ha b hb => hAB a ha b (by simp [hb])⟩
    rw [List.pairwise_cons] at hσ
    cases ho : ops[s]? with
    | none =>
      have e1 : lst ops (A ++ s :: B) = lst ops (A ++ B) := by simp [lst, List.filterMap_append, List.filterMap_cons, ho]
      have e2 : lst ops (s :: σ) = lst ops σ := by simp [lst, List.filterMap_cons, ho]
      rw [e1] at h; rw [e2]
      exact ih (A ++ B) e H lg e' H' lg1 hp' hL' hσ.2 hG h hf
    | some o =>
      have e1 : lst ops (A ++ s :: B) = lst ops A ++ o :: lst ops B := by simp [lst, List.filterMap_append, List.filterMap_cons, ho]
      have e2 : lst ops (s :: σ) = o :: lst ops σ := by simp [lst, List.filterMap_cons, ho]
      have e3 : lst ops A ++ lst ops B = lst ops (A ++ B) := by simp [lst, List.filterMap_append]
      rw [e1] at h; rw [e2]
      have hAi : ∀ x ∈ lst ops A, (indep ops x o = true ∧ (x.dst, o.dst) ∈ Lp) ∧ ∀ t, x.dst = some t → t < N := by
        intro x hx
        obtain ⟨a, ha, hax⟩ := List.mem_filterMap.1 hx
        have hlt : a < s := hAB a ha s (by simp)
        have haσ : a ∈ σ := hp'.symm.subset (by simp [ha])
        exact ⟨hσ.1 a haσ hlt o x ho hax, hd x (Array.mem_toList_iff.2 (Array.mem_of_getElem? hax))⟩
      obtain ⟨lg2, h2, hl2⟩ := bubble hC (lst ops A) e H lg e' H' lg1 hG hAi h hf
      obtain ⟨e4, H4, lg4, hG4, h4, back⟩ := head_run hC hG (hd o (Array.mem_toList_iff.2 (Array.mem_of_getElem? ho))) h2
      rw [e3] at h4
      obtain ⟨lg5, h5⟩ := ih (A ++ B) e4 H4 lg4 e' H' lg2 hp' hL' hσ.2 hG4 h4 (fine_eq hl2 hf)
      exact ⟨lg5, back _ _ h5⟩

/-! ### Orders that the edges allow -/

/-- Ahead of, by edges that bind. -/
inductive Ahead (ops : Array Oper) : Nat → Nat → Prop
  | one {i j : Nat} {o : Oper} {ed : Edge} (ho : ops[j]? = some o) (he : ed ∈ o.after) (hb : Region.binds .any ed = true) (hi : ed.on = i) : Ahead ops i j
  | more {i j : Nat} {o : Oper} {ed : Edge} (ho : ops[j]? = some o) (he : ed ∈ o.after) (hb : Region.binds .any ed = true) (hi : Ahead ops i ed.on) : Ahead ops i j

def unl (n : Nat) (listed : Array Bool) : List Nat := (List.range n).filter fun j => !listed.getD j true

theorem unl_take {n i : Nat} {listed : Array Bool} (hs : listed.size = n) (hi : i ∈ unl n listed) : (unl n listed).Perm (i :: unl n (listed.setIfInBounds i true)) := by
  have hnd : (unl n listed).Nodup := List.Pairwise.filter _ List.nodup_range
  have e : unl n (listed.setIfInBounds i true) = (unl n listed).erase i := by
    rw [List.Nodup.erase_eq_filter hnd]
    unfold unl
    rw [List.filter_filter]
    apply List.filter_congr
    intro j hj
    have hjn : j < listed.size := by rw [hs]; exact List.mem_range.1 hj
    by_cases h : j = i
    · subst h
      simp [hjn]
    · simp [Array.getElem?_setIfInBounds_ne (fun e => h e.symm), h, Array.getD_eq_getD_getElem?]
  rw [e]
  exact List.perm_cons_erase hi

/-- Closed under what comes ahead. -/
def Closed (ops : Array Oper) (listed : Array Bool) : Prop := ∀ j, listed.getD j false = true → ∀ o, ops[j]? = some o → ∀ ed ∈ o.after, Region.binds .any ed = true → listed.getD ed.on false = true

theorem ahead_listed {listed : Array Bool} (hc : Closed ops listed) {i j : Nat} (h : Ahead ops i j) (hj : ∀ o, ops[j]? = some o → ∀ ed ∈ o.after, Region.binds .any ed = true → listed.getD ed.on false = true) : listed.getD i false = true := by
  induction h with
  | one ho he hb hi => rw [← hi]; exact hj _ ho _ he hb
  | more ho he hb _ ih => exact ih (hc _ (hj _ ho _ he hb))

theorem go_ok (hlow : ∀ j o, ops[j]? = some o → ∀ ed ∈ o.after, Region.binds .any ed = true → ed.on < j) : ∀ (fuel t : Nat) (listed : Array Bool), listed.size = ops.size → Closed ops listed → (unl ops.size listed).length ≤ fuel →
    (Region.linearise.go .any ops fuel t listed []).Perm (unl ops.size listed) ∧ (Region.linearise.go .any ops fuel t listed []).Pairwise (fun a b => ¬ Ahead ops b a) := by
  intro fuel
  induction fuel with
  | zero =>
    intro t listed _ _ hl
    have : unl ops.size listed = [] := List.length_eq_zero_iff.1 (by omega)
    rw [this]
    simp [Region.linearise.go]
  | succ fuel ih =>
    intro t listed hs hc hl
    simp only [Region.linearise.go]
    change (match (Region.ready .any ops listed)[t % (Region.ready .any ops listed).length]? with
      | some i => Region.linearise.go .any ops fuel (t / (Region.ready .any ops listed).length) (listed.setIfInBounds i true) [i]
      | none => [].reverse).Perm _ ∧ (match (Region.ready .any ops listed)[t % (Region.ready .any ops listed).length]? with
      | some i => Region.linearise.go .any ops fuel (t / (Region.ready .any ops listed).length) (listed.setIfInBounds i true) [i]
      | none => [].reverse).Pairwise _
    cases hi : (Region.ready .any ops listed)[t % (Region.ready .any ops listed).length]? with
    | none =>
      have hnil : Region.ready .any ops listed = [] := by
        cases hr : Region.ready .any ops listed with
        | nil => rfl
        | cons x xs =>
          rw [hr] at hi
          have hlt : t % (x :: xs).length < (x :: xs).length := Nat.mod_lt _ (by simp)
          rw [List.getElem?_eq_getElem hlt] at hi
          cases hi
      -- then nothing is left
      have hempty : unl ops.size listed = [] := by
        apply List.eq_nil_iff_forall_not_mem.2
        intro j
        induction j using Nat.strongRecOn with
        | ind j ihj =>
          intro hj
          simp only [unl, List.mem_filter, List.mem_range, Bool.not_eq_true'] at hj
          have hready : j ∈ Region.ready .any ops listed := by
            rw [mem_ready]
            refine ⟨hj.2, ops[j], by simp [hj.1], fun ed he hb => ?_⟩
            have hlt := hlow j ops[j] (by simp [hj.1]) ed he hb
            have := ihj ed.on hlt
            simp only [unl, List.mem_filter, List.mem_range, Bool.not_eq_true', not_and, Bool.not_eq_false] at this
            have h2 := this (by omega)
            have hsz : ed.on < listed.size := by omega
            simpa [Array.getD_eq_getD_getElem?, hsz] using h2
          rw [hnil] at hready; cases hready
      rw [hempty]
      simp
    | some i =>
      have hmem := List.mem_of_getElem? hi
      obtain ⟨h0, o, ho, hall⟩ := mem_ready.1 hmem
      have hlt : i < ops.size := (Array.getElem?_eq_some_iff.1 ho).1
      have hiu : i ∈ unl ops.size listed := List.mem_filter.2 ⟨List.mem_range.2 hlt, by rw [h0]; rfl⟩
      have hperm := unl_take hs hiu
      have hc' : Closed ops (listed.setIfInBounds i true) := by
        intro j hj o' ho' ed he hb
        by_cases e : j = i
        · subst e
          rw [ho] at ho'; cases ho'
          exact getD_set_true (hall ed he hb)
        · refine getD_set_true (hc j ?_ o' ho' ed he hb)
          rw [getD_set_ne false (fun h => e h.symm)] at hj; exact hj
      have hlen : (unl ops.size (listed.setIfInBounds i true)).length ≤ fuel := by
        have := hperm.length_eq
        simp at this; omega
      obtain ⟨h1, h2⟩ := ih (t / (Region.ready .any ops listed).length) (listed.setIfInBounds i true) (by simp [hs]) hc' hlen
      simp only
      rw [linearise_go_acc, List.reverse_singleton, List.singleton_append]
      refine ⟨(List.Perm.cons i h1).trans hperm.symm, List.pairwise_cons.2 ⟨fun b hb hah => ?_, h2⟩⟩
      have hb' := h1.subset hb
      simp only [unl, List.mem_filter, List.mem_range, Bool.not_eq_true'] at hb'
      have h3 := ahead_listed hc hah (fun o' ho' ed he hbd => by rw [ho] at ho'; cases ho'; exact hall ed he hbd)
      have h4 : (listed.setIfInBounds i true).getD b false = true := getD_set_true h3
      have hbs : b < (listed.setIfInBounds i true).size := by simp; omega
      simp only [Array.getD_eq_getD_getElem?, Array.getElem?_eq_getElem hbs, Option.getD_some] at h4 hb'
      rw [h4] at hb'; cases hb'.2

/-! ### The check -/

theorem step_mem {ops : Array Oper} {acc : List (List Nat)} {j : Nat} {o : Oper} (ho : ops[j]? = some o) (hacc : ∀ k i, i ∈ acc.getD k [] → Ahead ops i k) :
    ∀ (eds : List Edge) (s : List Nat), (∀ ed ∈ eds, ed ∈ o.after ∧ Region.binds .any ed = true) → (∀ i ∈ s, Ahead ops i j) →
    ∀ i ∈ eds.foldl (fun s ed => if s.contains ed.on then s else ed.on :: (s ++ acc.getD ed.on [])) s, Ahead ops i j := by
  intro eds
  induction eds with
  | nil => intro s _ hs i hi; exact hs i hi
  | cons ed eds ih =>
    intro s he hs i hi
    obtain ⟨h1, h2⟩ := he ed (by simp)
    refine ih _ (fun e' he' => he e' (by simp [he'])) ?_ i hi
    show ∀ i, i ∈ (if s.contains ed.on then s else ed.on :: (s ++ acc.getD ed.on [])) → Ahead ops i j
    split
    · exact hs
    · intro x hx
      rcases List.mem_cons.1 hx with rfl | hx
      · exact .one ho h1 h2 rfl
      · rcases List.mem_append.1 hx with hx | hx
        · exact hs x hx
        · exact .more ho h1 h2 (hacc _ _ hx)

theorem aheadAll_ok {ops : Array Oper} : ∀ (l : List Oper) (acc : List (List Nat)), (∀ k, l[k]? = ops[acc.length + k]? ∨ l[k]? = none) → (∀ k i, i ∈ acc.getD k [] → Ahead ops i k) → ∀ k i, i ∈ (l.foldl aheadStep acc).getD k [] → Ahead ops i k := by
  intro l
  induction l with
  | nil => intro acc _ h k i hi; exact h k i hi
  | cons o l ih =>
    intro acc hl h
    have ho : ops[acc.length]? = some o := by
      rcases hl 0 with h0 | h0
      · simpa using h0.symm
      · simp at h0
    simp only [List.foldl_cons]
    refine ih _ (fun k => ?_) ?_
    · have := hl (k + 1)
      simp only [List.getElem?_cons_succ] at this
      rcases this with h1 | h1
      · left
        simp only [aheadStep, List.length_append, List.length_singleton]
        rw [h1]; congr 1; omega
      · exact .inr h1
    · intro k i hi
      simp only [aheadStep, List.getD_eq_getElem?_getD] at hi
      rcases Nat.lt_trichotomy k acc.length with h1 | h1 | h1
      · rw [List.getElem?_append_left h1] at hi
        exact h k i (by simpa [List.getD_eq_getElem?_getD] using hi)
      · subst h1
        simp only [List.getElem?_append_right (Nat.le_refl _), Nat.sub_self, List.getElem?_cons_zero, Option.getD_some] at hi
        refine step_mem ho h _ [] (fun ed he => ?_) (fun _ h => by cases h) i hi
        obtain ⟨h2, h3⟩ := List.mem_filter.1 he
        exact ⟨Array.mem_toList_iff.1 h2, h3⟩
      · rw [List.getElem?_eq_none (by simp; omega)] at hi
        cases hi

theorem draw_fine (P : Program) (call : CallFn) (N : Nat) (hC : CallOk P call) (ops : Array Oper) (e : Env) (H : Heap) (e' : Env) (H' : Heap) (lg : Log) (t : Nat) (hG : Good N e H) (hd : ∀ o ∈ ops.toList, ∀ t, o.dst = some t → t < N) (hD : drawOk ops = true)
    (h : opsRun P call ops ops.toList e H [] = some (e', H', lg)) (hf : lg.fine (loosePairs ops) = true) :
    ∃ lg', opsRun P call ops ((Region.schedule true ops t).filterMap (fun i => ops[i]?)) e H [] = some (e', H', lg') := by
  have hD' : ∀ j o, ops[j]? = some o → (∀ ed ∈ o.after, Region.binds .any ed = true → ed.on < j) ∧ ∀ i, i < j → Ahead ops i j ∨ ∀ x, ops[i]? = some x → indep ops x o = true ∧ (x.dst, o.dst) ∈ loosePairs ops := by
    intro j o ho
    have hj : j < ops.size := (Array.getElem?_eq_some_iff.1 ho).1
    have := List.all_eq_true.1 hD j (List.mem_range.2 hj)
    simp only [ho, Bool.and_eq_true, List.all_eq_true] at this
    obtain ⟨h1, h2⟩ := this
    refine ⟨fun ed he hb => ?_, fun i hi => ?_⟩
    · have := h1 ed (Array.mem_toList_iff.2 he)
      simpa [hb] using this
    · have := h2 i (List.mem_range.2 hi)
      simp only [Bool.or_eq_true, List.contains_eq_mem, decide_eq_true_eq] at this
      rcases this with h3 | h3
      · exact .inl (aheadAll_ok ops.toList [] (fun k => .inl (by simp)) (fun k i hi => by simp at hi) j i h3)
      · by_cases hc : i ∈ (aheadAll ops.toList).getD j []
        · exact .inl (aheadAll_ok ops.toList [] (fun k => .inl (by simp)) (fun k i hi => by simp at hi) j i hc)
        · refine .inr fun x hx => ⟨by simpa [hx] using h3, ?_⟩
          refine List.mem_flatMap.2 ⟨j, List.mem_range.2 hj, List.mem_filterMap.2 ⟨i, List.mem_range.2 hi, ?_⟩⟩
          rw [if_neg (by simpa using hc), hx, ho]
  have hsched : Region.schedule true ops t = Region.linearise .any ops t := by simp [Region.schedule]
  rw [hsched]
  have hunl : unl ops.size (Array.replicate ops.size false) = List.range ops.size := by
    unfold unl
    rw [List.filter_eq_self]
    intro j hj
    simp [List.mem_range.1 hj]
  obtain ⟨h1, h2⟩ := go_ok (fun j o ho => (hD' j o ho).1) ops.size t (Array.replicate ops.size false) (by simp) (by
    intro j hj
    exfalso
    by_cases hlt : j < ops.size <;> simp [hlt] at hj) (by rw [hunl]; simp)
  rw [hunl] at h1
  have h3 : opsRun P call ops (lst ops (List.range ops.size)) e H [] = some (e', H', lg) := by
    rw [lst, range_lists]; exact h
  refine perm_run hC hd _ (List.range ops.size) e H _ e' H' lg h1 (List.pairwise_lt_range) ?_ hG h3 hf
  refine h2.imp fun {a b} hab hlt x y hx hy => ?_
  exact ((hD' a x hx).2 b hlt).resolve_left hab y hy
end

/-- **What a run tells of a function, the function does.** -/
theorem run_ok {P : Program} (hm : P.follows .mixedOrders = true) (k : Nat) : CallOk P (funRun P k) :=
  fun_ok (fun call hC N ops e H e' H' lg t hG hd hD h hf => draw_fine P call N hC ops e H e' H' lg t hG hd hD h hf) hm k
end Go.Sim
