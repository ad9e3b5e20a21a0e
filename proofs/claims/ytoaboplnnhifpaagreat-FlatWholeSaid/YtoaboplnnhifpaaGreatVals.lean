/- A part of the proof of a law of module cupola: Vals. It has no conditions of its own. -/
import Derived.Test.YtoaboplnnhifpaaGreatFlowB
set_option linter.all false
namespace Go.Sim
open Enc (enc)
open Go.Proofs

theorem vals_loads (th : List In) (hl : th.length ≤ 1000000) : Fun Tryz.prog 170 [enc th] (.t (.int .i64 (cntK 1 th))) := by
  refine Fun.go (b := false) Tryz.func170 rfl rfl (by kernel_rfl) (by kernel_rfl) ?_
  simp -implicitDefEqProofs (disch := first | exact dsch | fail) only [go_sem, ↓reduceIte, Nat.reduceEqDiff]
  refine loop_k (n := th.length) [2, 6, 7] (by kernel_rfl) (fun i e H => e 8 = .t (.int .i64 i) ∧ e 3 = .t (.int .i64 (cntK 1 (th.take i))) ∧ ∃ R : Heap, H = R) ?_ ?_
  · rintro i e H hi hk ⟨hc, h3, R, rfl⟩
    simp only [keepP, go_sem, ↓reduceIte, Nat.reduceEqDiff, and_true] at hk
    by_cases hlt : i < th.length
    · have s1 := cntK_step 1 hlt
      have a1 := cntK_le 1 (th.take i)
      rw [List.length_take] at a1
      by_cases k1 : kindI (gd th i).op = 1
      · rw [if_pos k1] at s1
        simp -implicitDefEqProofs (disch := first | exact dsch | fail) only [go_sem, ↓reduceIte, Nat.reduceEqDiff, hk, hc, h3, k1]
        exact ⟨hlt, vint (by rw [s1]; omega), _, rfl⟩
      · rw [if_neg k1] at s1
        simp -implicitDefEqProofs (disch := first | exact dsch | fail) only [go_sem, ↓reduceIte, Nat.reduceEqDiff, hk, hc, h3, k1]
        exact ⟨hlt, by rw [s1]; rfl, _, rfl⟩
    · obtain rfl : i = th.length := by omega
      rw [List.take_length] at h3
      simp -implicitDefEqProofs (disch := first | exact dsch | fail) only [go_sem, ↓reduceIte, Nat.reduceEqDiff, hk, hc, h3]
  · simp -implicitDefEqProofs (disch := first | exact dsch | fail) only [go_sem, ↓reduceIte, Nat.reduceEqDiff]
    exact ⟨rfl, _, rfl⟩
@[go_sem] theorem pu_loads {th : List In} (hl : th.length ≤ 1000000) {K : Kp} : @Pu _ Tryz.prog 170 [enc th] K = K.k (.t (.int .i64 (cntK 1 th))) := (vals_loads th hl).pu

def freshL {α : Type} [Enc α] (l : List α) : V := if l.isEmpty then .ex [] else .fr 1 false (l.map enc)
theorem intsT_enc (l : List Int) : intsT (l.map enc) = some l := by
  induction l with
  | nil => rfl
  | cons a l ih => show (intsT (l.map enc)).map (a :: ·) = _; rw [ih]; rfl
theorem boolsT_enc (l : List Bool) : boolsT (l.map enc) = some l := by
  induction l with
  | nil => rfl
  | cons a l ih => show (boolsT (l.map enc)).map (a :: ·) = _; rw [ih]; rfl
theorem clone_run {α : Type} [Enc α] {ok : List T → Bool} {l : List α} (h : ok (l.map enc) = true) (hl : l.length ≤ 1000000) :
    cloneRun ok [.t (enc l)] [] = some (if l.isEmpty then .ex [] else .ref 0 l.length, if l.isEmpty then [] else [⟨vs l, 1, false⟩]) := by
  show (if ok (l.map enc) = true ∧ (l.map enc).length ≤ 1000000 then _ else none) = _
  rw [if_pos ⟨h, by simpa using hl⟩]
  cases l with
  | nil => rfl
  | cons a l => simp [vs]
theorem clone_exp {α : Type} [Enc α] (l : List α) : exportB true (if l.isEmpty then [] else [⟨vs l, 1, false⟩]) (if l.isEmpty then .ex [] else .ref 0 l.length) = some (freshL l) := by
  cases l with
  | nil => rfl
  | cons a l =>
    simp only [List.isEmpty_cons, Bool.false_eq_true, if_false, freshL, exportB_true]
    exact exportV_0 rfl
theorem clone_i64 (l : List Int) (hl : l.length ≤ 1000000) : Fun Tryz.prog 90 [enc l] (freshL l) := by
  refine orc_fun rfl (clone_run (ok := fun xs => (intsT xs).isSome) (by rw [intsT_enc]; rfl) hl) ?_
  rw [show isFresh Tryz.prog 90 = true by kernel_rfl]; exact clone_exp l
theorem clone_int (l : List Int) (hl : l.length ≤ 1000000) : Fun Tryz.prog 128 [enc l] (freshL l) := by
  refine orc_fun rfl (clone_run (ok := fun xs => (intsT xs).isSome) (by rw [intsT_enc]; rfl) hl) ?_
  rw [show isFresh Tryz.prog 128 = true by kernel_rfl]; exact clone_exp l
theorem clone_bool (l : List Bool) (hl : l.length ≤ 1000000) : Fun Tryz.prog 173 [enc l] (freshL l) := by
  refine orc_fun rfl (clone_run (ok := fun xs => (boolsT xs).isSome) (by rw [boolsT_enc]; rfl) hl) ?_
  rw [show isFresh Tryz.prog 173 = true by kernel_rfl]; exact clone_exp l
@[go_sem] theorem pu_cl64 {l : List Int} (hl : l.length ≤ 1000000) {K : Kp} : @Pu _ Tryz.prog 90 [enc l] K = K.k (freshL l) := (clone_i64 l hl).pu
@[go_sem] theorem pu_clint {l : List Int} (hl : l.length ≤ 1000000) {K : Kp} : @Pu _ Tryz.prog 128 [enc l] K = K.k (freshL l) := (clone_int l hl).pu
@[go_sem] theorem pu_clbool {l : List Bool} (hl : l.length ≤ 1000000) {K : Kp} : @Pu _ Tryz.prog 173 [enc l] K = K.k (freshL l) := (clone_bool l hl).pu
theorem fresh_nil {α : Type} [Enc α] : freshL ([] : List α) = .ex [] := rfl
theorem fresh_cons {α : Type} [Enc α] (a : α) (l : List α) : freshL (a :: l) = .fr 1 false ((a :: l).map enc) := rfl
@[go_sem] theorem noSl_fresh {α : Type} [Enc α] (l : List α) : noSl (freshL l) = false := by cases l <;> rfl
theorem import_fresh {α : Type} [Enc α] (H : Heap) (l : List α) (h : Enc.sz α = 1) : importV H (freshL l) = (accV H.length l, H ++ accO l) := by
  cases l with
  | nil => simp [freshL, importV, accV, accO]
  | cons a l => simp [freshL, importV, accV, accO, h, vs]

theorem cntK_pos {l : List In} {i : Nat} (h : i < l.length) (hk : kindI (gd l i).op = 1) : cntK 1 (l.take i) + 1 ≤ cntK 1 l := by
  have s := cntK_step 1 h
  rw [if_pos hk] at s
  have : cntK 1 (l.take (i + 1)) ≤ cntK 1 l := by
    conv => rhs; rw [← List.take_append_drop (i + 1) l]
    rw [cntK_app]; omega
  omega
theorem event_t (r : Rn) (e : Ev) (a d : U32) (p : Int) : (r.event e a d p).t.vals = r.t.vals ∧ (r.event e a d p).t.lucks = r.t.lucks ∧ (r.event e a d p).t.more = r.t.more ∧ (r.event e a d p).vals = r.vals ∧ (r.event e a d p).lucks = r.lucks := ⟨rfl, rfl, rfl, rfl, rfl⟩
theorem step_takes (r : Rn) (x : In) (h0 : r.t.more = 0) : (r.step x).vals = r.vals ∧ (r.step x).lucks = r.lucks ∧
    (r.step x).t.vals ≤ r.t.vals + (if kindI x.op = 1 then 1 else 0) ∧ (r.step x).t.lucks ≤ r.t.lucks + 1 ∧
    ((r.step x).t.more = 0 ∨ ((r.step x).t.more = 1 ∧ kindI x.op = 1 ∧ r.t.vals = r.vals.length) ∨ ((r.step x).t.more = 2 ∧ r.t.lucks = r.lucks.length)) := by
  unfold Rn.step
  split
  · refine ⟨rfl, rfl, ?_, ?_, .inl h0⟩
    · show r.t.vals ≤ _; split <;> omega
    · show r.t.lucks ≤ _; omega
  unfold Rn.does
  split
  · rename_i hk
    unfold Rn.load
    split
    · rename_i hv
      exact ⟨rfl, rfl, by show r.t.vals ≤ _; omega, by show r.t.lucks ≤ _; omega, .inr (.inl ⟨rfl, hk, hv⟩)⟩
    · unfold Rn.loaded Rn.setRegs
      split <;> exact ⟨rfl, rfl, Int.le_refl _, by show r.t.lucks ≤ _; omega, .inl h0⟩
  rename_i hk
  split
  · unfold Rn.excl
    split
    · exact ⟨rfl, rfl, by show r.t.vals ≤ _; omega, by show r.t.lucks ≤ _; omega, .inl h0⟩
    split
    · rename_i hl
      exact ⟨rfl, rfl, by show r.t.vals ≤ _; omega, by show r.t.lucks ≤ _; omega, .inr (.inr ⟨rfl, hl⟩)⟩
    split <;> exact ⟨rfl, rfl, by show r.t.vals ≤ _; omega, Int.le_refl _, .inl h0⟩
  split
  · exact ⟨rfl, rfl, by show r.t.vals ≤ _; omega, by show r.t.lucks ≤ _; omega, .inl h0⟩
  split
  · exact ⟨rfl, rfl, by show r.t.vals ≤ _; omega, by show r.t.lucks ≤ _; omega, .inl h0⟩
  split
  · exact ⟨rfl, rfl, by show r.t.vals ≤ _; omega, by show r.t.lucks ≤ _; omega, .inl h0⟩
  · exact ⟨rfl, rfl, by show r.t.vals ≤ _; omega, by show r.t.lucks ≤ _; omega, .inl h0⟩
theorem run_more : ∀ (xs : List In) (r : Rn) (i j : Nat), r.t.more = 0 → r.t.vals ≤ i → r.t.lucks ≤ j →
    (runFrom r xs).t.more = 0 ∨ ((runFrom r xs).t.more = 1 ∧ r.vals.length < i + cntK 1 xs) ∨ ((runFrom r xs).t.more = 2 ∧ r.lucks.length < j + xs.length)
  | [], r, i, j, h0, _, _ => .inl h0
  | x :: xs, r, i, j, h0, hi, hj => by
    rw [runFrom, if_pos h0]
    obtain ⟨e1, e2, e3, e4, e5⟩ := step_takes r x h0
    have hc : cntK 1 (x :: xs) = (if kindI x.op = 1 then 1 else 0) + cntK 1 xs := by
      unfold cntK; by_cases hk : kindI x.op = 1 <;> simp [hk]; omega
    rw [hc, List.length_cons]
    rcases e5 with e5 | ⟨e5, e6, e7⟩ | ⟨e5, e6⟩
    · have := run_more xs (r.step x) (i + if kindI x.op = 1 then 1 else 0) (j + 1) e5 (by split at e3 <;> simp_all <;> omega) (by omega)
      rw [e1, e2] at this
      rcases this with h | ⟨h, h2⟩ | ⟨h, h2⟩
      · exact .inl h
      · exact .inr (.inl ⟨h, by omega⟩)
      · exact .inr (.inr ⟨h, by omega⟩)
    · rw [if_pos e6]
      have : runFrom (r.step x) xs = r.step x := by cases xs with | nil => rfl | cons y ys => rw [runFrom, if_neg (by omega)]
      rw [this]
      exact .inr (.inl ⟨e5, by omega⟩)
    · have : runFrom (r.step x) xs = r.step x := by cases xs with | nil => rfl | cons y ys => rw [runFrom, if_neg (by omega)]
      rw [this]
      exact .inr (.inr ⟨e5, by omega⟩)
theorem more_of (th : List In) (locs : Int) (v : List Int) (b : List Bool) : (runTr th locs v b).more = 0 ∨ ((runTr th locs v b).more = 1 ∧ v.length < cntK 1 th) ∨ ((runTr th locs v b).more = 2 ∧ b.length < th.length ∧ th.length ≤ 8) := by
  unfold runTr
  split
  · rename_i hm
    have := run_more th ⟨zeroTr, locs, v, b, 0#32, -1, 0⟩ 0 0 rfl (by simp [zeroTr]) (by simp [zeroTr])
    simp only [Nat.zero_add] at this
    rcases this with h | h | h
    · exact .inl h
    · exact .inr (.inl h)
    · exact .inr (.inr ⟨h.1, h.2, (may_at hm).1⟩)
  · exact .inl rfl

def tellR (th : List In) (locs : Int) (vals : List Int) : Nat → List Int → List Bool → List Tr
  | 0, _, _ => []
  | k + 1, v, b =>
    if (runTr th locs v b).more = 0 then [runTr th locs v b]
    else if (runTr th locs v b).more = 1 then vals.flatMap fun n => tellR th locs vals k (v ++ [n]) b
    else [true, false].flatMap fun is => tellR th locs vals k v (b ++ [is])
def tracesR (th : List In) (locs : Int) (vals : List Int) : List Tr := if 4 < cntK 1 th then [] else tellR th locs vals 13 [] []


def oldE (el : List V) (st : Bool) : Obj := ⟨el, 1, st⟩
def KeepV (H H' : Heap) : Prop := ∀ (id : Nat) (el : List V) (st : Bool), H[id + 5]? = some ⟨el, 1, st⟩ → ∃ st', H'[id + 5]? = some ⟨el, 1, st'⟩
theorem KeepV.refl (H : Heap) : KeepV H H := fun _ _ st h => ⟨st, h⟩
theorem KeepV.trans {H H1 H2 : Heap} (h : KeepV H H1) (k : KeepV H1 H2) : KeepV H H2 := fun id el st e => by
  obtain ⟨st1, e1⟩ := h id el st e
  exact k id el st1 e1
theorem KeepV.app (H X : Heap) : KeepV H (H ++ X) := fun id el st e => by
  have : id + 5 < H.length := by
    rcases Nat.lt_or_ge (id + 5) H.length with h | h
    · exact h
    · rw [List.getElem?_eq_none h] at e; cases e
  exact ⟨st, by rw [List.getElem?_append_left this]; exact e⟩

def AsL {α : Type} [Enc α] (H : Heap) (va : V) (v : List α) : Prop := (va = .ex [] ∧ v = []) ∨ ∃ id st, va = .ref (id + 5) v.length ∧ H[id + 5]? = some ⟨vs v, 1, st⟩
theorem AsL.keep {α : Type} [Enc α] {H H' : Heap} {va : V} {v : List α} (h : AsL H va v) (k : KeepV H H') : AsL H' va v := by
  rcases h with h | ⟨id, st, e, h⟩
  · exact .inl h
  · obtain ⟨st', h'⟩ := k id _ st h
    exact .inr ⟨id, st', e, h'⟩
theorem AsL.toT {α : Type} [Enc α] {H : Heap} {va : V} {v : List α} (h : AsL H va v) : Sim.toT H depth va = some (enc v) := by
  rcases h with ⟨rfl, rfl⟩ | ⟨id, st, rfl, h⟩
  · rw [toT_ex]; rfl
  · rw [toT_ref', cur_some h (vs_len v), Option.bind_some, toTo_vs]

def fnV : V := .fn 171 [] [.ptr 0 1 0 0, .ptr 1 1 0 0, .ptr 3 1 0 0, .ptr 2 1 0 0, .ptr 4 1 0 0]
@[go_sem] theorem cells_fnV : fnV.cells = [fnV] := rfl
@[go_sem] theorem args_fnV (vs : List V) : fnArgs fnV vs = some (171, vs ++ [.ptr 0 1 0 0, .ptr 1 1 0 0, .ptr 3 1 0 0, .ptr 2 1 0 0, .ptr 4 1 0 0]) := rfl
def TellAt (th : List In) (locs : Int) (vals : List Int) (H : Heap) (out : List Tr) : Prop :=
  ∃ ov R, H = ⟨[.t (enc th)], 1, false⟩ :: ⟨[.t (.int .i64 locs)], 1, false⟩ :: ⟨[.t (enc vals)], 1, false⟩ :: ⟨[ov], 1, false⟩ :: ⟨[fnV], 1, false⟩ :: R ∧
    ((out = [] ∧ ov = .ex []) ∨ ∃ n A B, out.length = n + 1 ∧ ov = .ref (A.length + 1 + 1 + 1 + 1 + 1) (n + 1) ∧ R = A ++ ⟨vs out, 16, false⟩ :: B)

theorem hold_as {α : Type} [Enc α] {th locs vals} {H : Heap} {out : List Tr} {va : V} {v : List α} (h : AsL H va v) (hT : TellAt th locs vals H out) : KeepV H (hold depth H va) ∧ TellAt th locs vals (hold depth H va) out := by
  rcases h with ⟨rfl, rfl⟩ | ⟨id, st, rfl, h⟩
  · rw [hold_ex]; exact ⟨.refl _, hT⟩
  · have e : hold depth H (.ref (id + 5) v.length) = H.set (id + 5) ⟨vs v, 1, true⟩ := by
      rw [hold_ref', cur_some h (vs_len v), Option.map_some, Option.getD_some, holdo_vs]
    rw [e]
    refine ⟨fun id' el st' e' => ?_, ?_⟩
    · by_cases hid : id' = id
      · subst hid
        rw [h] at e'
        cases e'
        have : id' + 5 < H.length := by
          rcases Nat.lt_or_ge (id' + 5) H.length with h' | h'
          · exact h'
          · rw [List.getElem?_eq_none h'] at h; cases h
        exact ⟨true, by rw [List.getElem?_set_self this]⟩
      · exact ⟨st', by rw [List.getElem?_set_ne (by omega)]; exact e'⟩
    · obtain ⟨ov, R, rfl, ho⟩ := hT
      simp only [List.getElem?_cons_succ] at h
      refine ⟨ov, R.set id ⟨vs v, 1, true⟩, rfl, ?_⟩
      rcases ho with ho | ⟨n, A, B, h1, h2, rfl⟩
      · exact .inl ho
      · rcases Nat.lt_trichotomy id A.length with hl | hl | hl
        · exact .inr ⟨n, A.set id ⟨vs v, 1, true⟩, B, h1, by rw [List.length_set]; exact h2, by rw [List.set_append_left _ _ hl]⟩
        · subst hl
          rw [gx0] at h
          simp only [List.getElem?_cons_zero, Option.some.injEq, Obj.mk.injEq] at h
          exact absurd h.2.1 (by decide)
        · refine .inr ⟨n, A, B.set (id - A.length - 1) ⟨vs v, 1, true⟩, h1, h2, ?_⟩
          rw [List.set_append_right _ _ (by omega)]
          obtain ⟨m, hm⟩ : ∃ m, id - A.length = m + 1 := ⟨id - A.length - 1, by omega⟩
          rw [hm]; simp

theorem flat_len {α β : Type} {f : α → List β} {m : Nat} : ∀ {l : List α}, (∀ x ∈ l, (f x).length ≤ m) → (l.flatMap f).length ≤ l.length * m
  | [], _ => by simp
  | a :: l, h => by
    rw [List.flatMap_cons, List.length_append, List.length_cons, Nat.add_mul]
    have h1 := h a (by simp)
    have h2 := flat_len (l := l) (f := f) (m := m) fun x hx => h x (by simp [hx])
    omega
def szT (v b : Nat) : Nat := 8 ^ (4 - v) * 2 ^ (8 - b)
theorem sz_v {v b : Nat} (h : v < 4) : 8 * szT (v + 1) b = szT v b := by
  unfold szT
  rw [show 4 - v = (4 - (v + 1)) + 1 by omega, Nat.pow_succ, ← Nat.mul_assoc, Nat.mul_comm 8]
theorem sz_b {v b : Nat} (h : b < 8) : 2 * szT v (b + 1) = szT v b := by
  unfold szT
  rw [show 8 - b = (8 - (b + 1)) + 1 by omega, Nat.pow_succ, Nat.mul_comm (2 ^ _) 2]
  generalize 8 ^ (4 - v) = x
  generalize 2 ^ (8 - (b + 1)) = y
  rw [← Nat.mul_assoc, ← Nat.mul_assoc, Nat.mul_comm 2 x]
theorem sz_pos (v b : Nat) : 1 ≤ szT v b := Nat.mul_pos (Nat.pow_pos (by decide)) (Nat.pow_pos (by decide))
theorem sz_top (v b : Nat) : szT v b ≤ 1048576 := by
  unfold szT
  have h1 : 8 ^ (4 - v) ≤ 8 ^ 4 := Nat.pow_le_pow_right (by decide) (by omega)
  have h2 : 2 ^ (8 - b) ≤ 2 ^ 8 := Nat.pow_le_pow_right (by decide) (by omega)
  exact Nat.mul_le_mul h1 h2
theorem tell_len {th : List In} {locs : Int} {vals : List Int} (hc : cntK 1 th ≤ 4) (hv : vals.length ≤ 8) : ∀ (k : Nat) (v : List Int) (b : List Bool), (tellR th locs vals k v b).length ≤ szT v.length b.length
  | 0, v, b => Nat.zero_le _
  | k + 1, v, b => by
    rw [tellR]
    have hm := more_of th locs v b
    split
    · exact sz_pos _ _
    split
    · rename_i h0 h1
      have hlt : v.length < 4 := by omega
      have := flat_len (l := vals) (f := fun n => tellR th locs vals k (v ++ [n]) b) (m := szT (v.length + 1) b.length) fun n _ => by
        have := tell_len (locs := locs) hc hv k (v ++ [n]) b
        simpa using this
      rw [← sz_v hlt]
      exact Nat.le_trans this (Nat.mul_le_mul_right _ hv)
    · rename_i h0 h1
      have hlt : b.length < 8 := by omega
      have := flat_len (l := [true, false]) (f := fun is => tellR th locs vals k v (b ++ [is])) (m := szT v.length (b.length + 1)) fun is _ => by
        have := tell_len (locs := locs) hc hv k v (b ++ [is])
        simpa using this
      rw [← sz_b hlt]
      exact this

theorem KeepV.cons5 {a b c d e a' b' c' d' e' : Obj} {R R' : Heap} (h : ∀ (id : Nat) (el : List V) (st : Bool), R[id]? = some ⟨el, 1, st⟩ → ∃ st', R'[id]? = some ⟨el, 1, st'⟩) : KeepV (a :: b :: c :: d :: e :: R) (a' :: b' :: c' :: d' :: e' :: R') := fun id el st he => by
  obtain ⟨st', h'⟩ := h id el st (by simpa using he)
  exact ⟨st', by simpa using h'⟩

theorem KeepV.app5 {a b c d e a' b' c' d' e' : Obj} (R X : Heap) : KeepV (a :: b :: c :: d :: e :: R) (a' :: b' :: c' :: d' :: e' :: (R ++ X)) := KeepV.cons5 fun id el st h => by
  have : id < R.length := by
    rcases Nat.lt_or_ge id R.length with h' | h'
    · exact h'
    · rw [List.getElem?_eq_none h'] at h; cases h
  exact ⟨st, by rw [List.getElem?_append_left this]; exact h⟩
theorem KeepV.mid5 {a b c d e a' b' c' d' e' o o' : Obj} (A B X : Heap) (ho : o.esz ≠ 1) : KeepV (a :: b :: c :: d :: e :: (A ++ o :: B)) (a' :: b' :: c' :: d' :: e' :: (A ++ o' :: (B ++ X))) := KeepV.cons5 fun id el st h => by
  rcases Nat.lt_trichotomy id A.length with hl | hl | hl
  · rw [List.getElem?_append_left hl] at h ⊢; exact ⟨st, h⟩
  · subst hl
    rw [gx0] at h
    simp only [List.getElem?_cons_zero, Option.some.injEq] at h
    subst h; exact absurd rfl ho
  · rw [List.getElem?_append_right (by omega)] at h ⊢
    obtain ⟨m, hm⟩ : ∃ m, id - A.length = m + 1 := ⟨id - A.length - 1, by omega⟩
    rw [hm, List.getElem?_cons_succ] at h ⊢
    have : m < B.length := by
      rcases Nat.lt_or_ge m B.length with h' | h'
      · exact h'
      · rw [List.getElem?_eq_none h'] at h; cases h
    exact ⟨st, by rw [List.getElem?_append_left this]; exact h⟩
theorem TellAt.app {th locs vals H out} (h : TellAt th locs vals H out) (X : Heap) : TellAt th locs vals (H ++ X) out := by
  obtain ⟨ov, R, rfl, ho⟩ := h
  refine ⟨ov, R ++ X, rfl, ?_⟩
  rcases ho with ho | ⟨n, A, B, h1, h2, rfl⟩
  · exact .inl ho
  · exact .inr ⟨n, A, B ++ X, h1, h2, by simp⟩
theorem fresh_ne {α : Type} [Enc α] {l : List α} (h : l ≠ []) : freshL l = .fr 1 false (l.map enc) := by cases l with | nil => exact absurd rfl h | cons => rfl
theorem flat_take {α β : Type} [Enc α] {f : α → List β} {l : List α} {i : Nat} (h : i < l.length) : (l.take (i + 1)).flatMap f = (l.take i).flatMap f ++ f (gd l i) := by
  rw [← take_gd h, List.flatMap_append]; simp

@[go_sem] theorem lit_zTr {H : Heap} {len by_ : Nat} {l : List (Nat × V)} (h2 : 0 < by_) (h3 : len * 16 ≤ 16777216) (h4 : allC 16 l = true) :
    lit1 H len (.agg [.ex [], .ex [], .ex [], .ex [], .ex [], .t (.int .i64 0), .t (.int .i64 0), .t (.int .i64 0), .t (.int .i64 0), .t (.int .u32 0), .t (.int .u32 0), .t (.int .u32 0), .t (.int .u32 0), .t (.int .i64 0), .t (.int .i64 0), .t (.int .i64 0)]) (16, by_) l
      = (litV H (List.replicate len (enc zeroTr)) l).bind fun xs => some ⟨.ex xs, foldH H l, effC l⟩ := lit1_go (z' := enc zeroTr) rfl rfl (by decide) h2 h3 h4

set_option maxRecDepth 100000 in
theorem tell_ok {th : List In} {locs : Int} {vals : List Int} (hth : th.length ≤ 1000000) (hlo : locs ≤ 1000000) (hc : cntK 1 th ≤ 4) (hv : vals.length ≤ 8) : ∀ (k : Nat) {H : Heap} {out : List Tr} {v : List Int} {b : List Bool} {va vb : V},
    TellAt th locs vals H out → AsL H va v → AsL H vb b → v.length ≤ 4 → b.length ≤ 8 → 13 ≤ k + v.length + b.length → out.length + szT v.length b.length ≤ 1048576 →
    ∃ u H', FunH Tryz.prog 171 [va, vb, .ptr 0 1 0 0, .ptr 1 1 0 0, .ptr 3 1 0 0, .ptr 2 1 0 0, .ptr 4 1 0 0] H u H' ∧ u = .tup [] ∧ TellAt th locs vals H' (out ++ tellR th locs vals k v b) ∧ KeepV H H' := by
  intro k
  induction k with
  | zero => intro H out v b va vb _ _ _ _ _ h _; omega
  | succ k ih =>
    intro H out v b va vb hT hA hB hvl hbl hk hout
    refine FunH.goX Tryz.func171 rfl rfl (by kernel_rfl) ?_
    rw [tellR]
    have hm := more_of th locs v b
    have hsz := tell_len (locs := locs) hc hv (k + 1) v b
    obtain ⟨hK1, hT1⟩ := hold_as hA hT
    obtain ⟨hK2, hT2⟩ := hold_as (hB.keep hK1) hT1
    have hK := hK1.trans hK2
    have hA2 := hA.keep hK
    have hB2 := hB.keep hK
    have htA := hA.toT
    have htB := hB.toT
    obtain ⟨ov, R, rfl, _⟩ := hT
    obtain ⟨ov2, R2, e2, ho⟩ := hT2
    rw [e2] at hA2 hB2 hK
    rcases hm with h0 | ⟨h1, hlt⟩ | ⟨h2, hlt, h8⟩
    · rw [if_pos h0]
      rcases ho with ⟨rfl, rfl⟩ | ⟨n, A, B, l1, rfl, rfl⟩
      · simp -implicitDefEqProofs (disch := first | exact dsch | (simp only [go_sem, htA, htB, e2, h0, gx0, gxk, sx0, sxk, List.append_assoc]; omega) | (refine of_eq_true ?_; simp (disch := first | omega | (refine of_eq_true ?_; simp only [go_sem, htA, htB, e2, h0, gx0, gxk, sx0, sxk, List.append_assoc]; done) | (simp only [go_sem, htA, htB, e2, h0, gx0, gxk, sx0, sxk, List.append_assoc]; omega)) only [go_sem, htA, htB, e2, h0, gx0, gxk, sx0, sxk, List.append_assoc]; done) | fail) only [go_sem, ↓reduceIte, Nat.reduceEqDiff, htA, htB, e2, h0, gx0, gxk, sx0, sxk, List.append_assoc]
        refine ⟨rfl, ⟨_, _, rfl, .inr ⟨0, R2 ++ [⟨[.t (enc (runTr th locs v b))], 16, false⟩], [], rfl, ?_, ?_⟩⟩, hK.trans (.app5 _ _)⟩
        · simp
        · simp [vs]
      · simp -implicitDefEqProofs (disch := first | exact dsch | (simp only [go_sem, htA, htB, e2, h0, gx0, gxk, sx0, sxk, List.append_assoc]; omega) | (refine of_eq_true ?_; simp (disch := first | omega | (refine of_eq_true ?_; simp only [go_sem, htA, htB, e2, h0, gx0, gxk, sx0, sxk, List.append_assoc]; done) | (simp only [go_sem, htA, htB, e2, h0, gx0, gxk, sx0, sxk, List.append_assoc]; omega)) only [go_sem, htA, htB, e2, h0, gx0, gxk, sx0, sxk, List.append_assoc]; done) | fail) only [go_sem, ↓reduceIte, Nat.reduceEqDiff, htA, htB, e2, h0, gx0, gxk, sx0, sxk, List.append_assoc]
        exact ⟨rfl, ⟨_, _, rfl, .inr ⟨n + 1, A, _, by simp [l1], rfl, rfl⟩⟩, hK.trans (.mid5 _ _ _ (by simp))⟩
    · rw [if_neg (by omega), if_pos h1]
      have hv4 : v.length < 4 := by omega
      have hs8 := sz_v (b := b.length) hv4
      simp -implicitDefEqProofs (disch := first | exact dsch | (simp only [go_sem, htA, htB, e2, h1, gx0, gxk, sx0, sxk, List.append_assoc]; omega) | (refine of_eq_true ?_; simp (disch := first | omega | (refine of_eq_true ?_; simp only [go_sem, htA, htB, e2, h1, gx0, gxk, sx0, sxk, List.append_assoc]; done) | (simp only [go_sem, htA, htB, e2, h1, gx0, gxk, sx0, sxk, List.append_assoc]; omega)) only [go_sem, htA, htB, e2, h1, gx0, gxk, sx0, sxk, List.append_assoc]; done) | fail) only [go_sem, ↓reduceIte, Nat.reduceEqDiff, htA, htB, e2, h1, gx0, gxk, sx0, sxk, List.append_assoc]
      refine loop_k (n := vals.length) [0, 1, 6, 20, 29, 30] (by kernel_rfl) (fun i e H => e 31 = .t (.int .i64 i) ∧ TellAt th locs vals H (out ++ (vals.take i).flatMap fun n => tellR th locs vals k (v ++ [n]) b) ∧ AsL H va v ∧ AsL H vb b ∧ KeepV (⟨[.t (enc th)], 1, false⟩ :: ⟨[.t (.int .i64 locs)], 1, false⟩ :: ⟨[.t (enc vals)], 1, false⟩ :: ⟨[ov], 1, false⟩ :: ⟨[fnV], 1, false⟩ :: R) H) ?_ ?_
      · rintro i e H hi hk2 ⟨hct, hT, hA, hB, hKi⟩
        simp only [keepP, go_sem, ↓reduceIte, Nat.reduceEqDiff, and_true] at hk2
        by_cases hlt2 : i < vals.length
        · have hst := flat_take (f := fun n => tellR th locs vals k (v ++ [n]) b) hlt2
          have hfl := flat_len (l := vals.take i) (f := fun n => tellR th locs vals k (v ++ [n]) b) (m := szT (v.length + 1) b.length) (fun n _ => by
            have := tell_len (locs := locs) hc hv k (v ++ [n]) b
            simpa using this)
          have hfl2 : (vals.take i).length * szT (v.length + 1) b.length + szT (v.length + 1) b.length ≤ 8 * szT (v.length + 1) b.length := by
            have : (vals.take i).length + 1 ≤ 8 := by rw [List.length_take]; omega
            calc _ = ((vals.take i).length + 1) * szT (v.length + 1) b.length := by rw [Nat.add_mul]; omega
              _ ≤ _ := Nat.mul_le_mul_right _ this
          obtain ⟨hK3, hT3⟩ := hold_as hA hT
          have htA := hA.toT
          have hA3 := hA.keep hK3
          have hB3 := hB.keep hK3
          obtain ⟨ov3, R3, rfl, _⟩ := hT
          have hT3' := hT3
          obtain ⟨ov4, R4, e4, _⟩ := hT3'
          rw [e4] at hT3 hA3 hB3 hK3
          by_cases hv0 : v = []
          · subst hv0
            have hf0 : freshL ([] : List Int) = .ex [] := rfl
            simp -implicitDefEqProofs (disch := first | exact dsch | (simp only [go_sem, hk2, hct, htA, e4, hf0, gx0, gxk, sx0, sxk, List.append_assoc]; omega) | (refine of_eq_true ?_; simp (disch := first | omega | (refine of_eq_true ?_; simp only [go_sem, hk2, hct, htA, e4, hf0, gx0, gxk, sx0, sxk, List.append_assoc]; done) | (simp only [go_sem, hk2, hct, htA, e4, hf0, gx0, gxk, sx0, sxk, List.append_assoc]; omega)) only [go_sem, hk2, hct, htA, e4, hf0, gx0, gxk, sx0, sxk, List.append_assoc]; done) | fail) only [go_sem, ↓reduceIte, Nat.reduceEqDiff, hk2, hct, htA, e4, hf0, gx0, gxk, sx0, sxk, List.append_assoc]
            refine F_of (ih (out := out ++ (vals.take i).flatMap fun n => tellR th locs vals k ([] ++ [n]) b) (v := [] ++ [gd vals i]) (b := b) (TellAt.app hT3 [⟨[.t (.int .i64 (gd vals i))], 1, false⟩]) (.inr ⟨R4.length, false, ?_, ?_⟩) (hB3.keep (.app5 _ _)) (by simp; try omega) hbl (by simp; omega) (by simp only [List.length_append, List.length_cons, List.length_nil, Nat.zero_add] at *; omega)) (toTs_none (v := .ptr 0 1 0 0) (by simp) (toT_ptr)) (by rintro _ _ ⟨rfl, _⟩; rfl) ?_
            · rw [List.length_append]; rfl
            · simp [vs, enc_int]
            rintro _ H' ⟨rfl, hT', hK'⟩
            have hKK := (KeepV.app5 (a := ⟨[.t (enc th)], 1, false⟩) (b := ⟨[.t (.int .i64 locs)], 1, false⟩) (c := ⟨[.t (enc vals)], 1, false⟩) (d := ⟨[ov4], 1, false⟩) (e := ⟨[fnV], 1, false⟩) (a' := ⟨[.t (enc th)], 1, false⟩) (b' := ⟨[.t (.int .i64 locs)], 1, false⟩) (c' := ⟨[.t (enc vals)], 1, false⟩) (d' := ⟨[ov4], 1, false⟩) (e' := ⟨[fnV], 1, false⟩) R4 [⟨[.t (.int .i64 (gd vals i))], 1, false⟩]).trans hK'
            simp -implicitDefEqProofs (disch := first | exact dsch | fail) only [go_sem, ↓reduceIte, Nat.reduceEqDiff, hk2, hct]
            refine ⟨hlt2, ?_, hA3.keep hKK, hB3.keep hKK, hKi.trans (hK3.trans hKK)⟩
            rw [List.append_assoc, ← hst] at hT'
            exact hT'
          · have hf0 := fresh_ne hv0
            simp -implicitDefEqProofs (disch := first | exact dsch | (simp only [go_sem, hk2, hct, htA, e4, hf0, gx0, gxk, sx0, sxk, List.append_assoc]; omega) | (refine of_eq_true ?_; simp (disch := first | omega | (refine of_eq_true ?_; simp only [go_sem, hk2, hct, htA, e4, hf0, gx0, gxk, sx0, sxk, List.append_assoc]; done) | (simp only [go_sem, hk2, hct, htA, e4, hf0, gx0, gxk, sx0, sxk, List.append_assoc]; omega)) only [go_sem, hk2, hct, htA, e4, hf0, gx0, gxk, sx0, sxk, List.append_assoc]; done) | fail) only [go_sem, ↓reduceIte, Nat.reduceEqDiff, hk2, hct, htA, e4, hf0, gx0, gxk, sx0, sxk, List.append_assoc]
            refine F_of (ih (out := out ++ (vals.take i).flatMap fun n => tellR th locs vals k (v ++ [n]) b) (v := v ++ [gd vals i]) (b := b) (TellAt.app hT3 [⟨vs (v ++ [gd vals i]), 1, false⟩]) (.inr ⟨R4.length, false, ?_, ?_⟩) (hB3.keep (.app5 _ _)) (by simp; try omega) hbl (by simp; omega) (by simp only [List.length_append, List.length_cons, List.length_nil, Nat.zero_add] at *; omega)) (toTs_none (v := .ptr 0 1 0 0) (by simp) (toT_ptr)) (by rintro _ _ ⟨rfl, _⟩; rfl) ?_
            · rw [List.length_append]; rfl
            · simp [vs, enc_int]
            rintro _ H' ⟨rfl, hT', hK'⟩
            have hKK := (KeepV.app5 (a := ⟨[.t (enc th)], 1, false⟩) (b := ⟨[.t (.int .i64 locs)], 1, false⟩) (c := ⟨[.t (enc vals)], 1, false⟩) (d := ⟨[ov4], 1, false⟩) (e := ⟨[fnV], 1, false⟩) (a' := ⟨[.t (enc th)], 1, false⟩) (b' := ⟨[.t (.int .i64 locs)], 1, false⟩) (c' := ⟨[.t (enc vals)], 1, false⟩) (d' := ⟨[ov4], 1, false⟩) (e' := ⟨[fnV], 1, false⟩) R4 [⟨vs (v ++ [gd vals i]), 1, false⟩]).trans hK'
            simp -implicitDefEqProofs (disch := first | exact dsch | fail) only [go_sem, ↓reduceIte, Nat.reduceEqDiff, hk2, hct]
            refine ⟨hlt2, ?_, hA3.keep hKK, hB3.keep hKK, hKi.trans (hK3.trans hKK)⟩
            rw [List.append_assoc, ← hst] at hT'
            exact hT'
        · obtain rfl : i = vals.length := by omega
          rw [List.take_length] at hT
          simp -implicitDefEqProofs (disch := first | exact dsch | fail) only [go_sem, ↓reduceIte, Nat.reduceEqDiff, hk2, hct]
          exact ⟨rfl, hT, hKi⟩
      · simp -implicitDefEqProofs (disch := first | exact dsch | fail) only [go_sem, ↓reduceIte, Nat.reduceEqDiff]
        refine ⟨?_, hA2.keep (.app5 _ _), hB2.keep (.app5 _ _), hK.trans (.app5 _ _)⟩
        rw [List.flatMap_nil, List.append_nil]
        exact TellAt.app ⟨_, _, rfl, ho⟩ [_]
    · rw [if_neg (by omega), if_neg (by omega)]
      have hb8 : b.length < 8 := by omega
      have hs2 := sz_b (v := v.length) hb8
      simp -implicitDefEqProofs (disch := first | exact dsch | (simp only [go_sem, htA, htB, e2, h2, gx0, gxk, sx0, sxk, List.append_assoc]; omega) | (refine of_eq_true ?_; simp (disch := first | omega | (refine of_eq_true ?_; simp only [go_sem, htA, htB, e2, h2, gx0, gxk, sx0, sxk, List.append_assoc]; done) | (simp only [go_sem, htA, htB, e2, h2, gx0, gxk, sx0, sxk, List.append_assoc]; omega)) only [go_sem, htA, htB, e2, h2, gx0, gxk, sx0, sxk, List.append_assoc]; done) | fail) only [go_sem, ↓reduceIte, Nat.reduceEqDiff, htA, htB, e2, h2, gx0, gxk, sx0, sxk, List.append_assoc]
      refine loop_k (n := 2) [0, 1, 6, 46, 47] (by kernel_rfl) (fun i e H => e 48 = .t (.int .i64 i) ∧ TellAt th locs vals H (out ++ (([true, false] : List Bool).take i).flatMap fun is => tellR th locs vals k v (b ++ [is])) ∧ AsL H va v ∧ AsL H vb b ∧ KeepV (⟨[.t (enc th)], 1, false⟩ :: ⟨[.t (.int .i64 locs)], 1, false⟩ :: ⟨[.t (enc vals)], 1, false⟩ :: ⟨[ov], 1, false⟩ :: ⟨[fnV], 1, false⟩ :: R) H) ?_ ?_
      · rintro i e H hi hk2 ⟨hct, hT, hA, hB, hKi⟩
        simp only [keepP, go_sem, ↓reduceIte, Nat.reduceEqDiff, and_true] at hk2
        have hfe : V.ex [T.bool true, T.bool false] = V.ex (([true, false] : List Bool).map enc) := rfl
        simp only [hfe] at hk2
        by_cases hlt2 : i < 2
        · have hst := flat_take (f := fun is => tellR th locs vals k v (b ++ [is])) (l := [true, false]) hlt2
          have hlen2 : ([true, false] : List Bool).length = 2 := rfl
          have hfl := flat_len (l := ([true, false] : List Bool).take i) (f := fun is => tellR th locs vals k v (b ++ [is])) (m := szT v.length (b.length + 1)) (fun n _ => by
            have := tell_len (locs := locs) hc hv k v (b ++ [n])
            simpa using this)
          have hfl2 : (([true, false] : List Bool).take i).length * szT v.length (b.length + 1) + szT v.length (b.length + 1) ≤ 2 * szT v.length (b.length + 1) := by
            have : (([true, false] : List Bool).take i).length + 1 ≤ 2 := by rw [List.length_take, hlen2]; omega
            calc _ = ((([true, false] : List Bool).take i).length + 1) * szT v.length (b.length + 1) := by rw [Nat.add_mul]; omega
              _ ≤ _ := Nat.mul_le_mul_right _ this
          obtain ⟨hK3, hT3⟩ := hold_as hB hT
          have htB := hB.toT
          have hA3 := hA.keep hK3
          have hB3 := hB.keep hK3
          obtain ⟨ov3, R3, rfl, _⟩ := hT
          have hT3' := hT3
          obtain ⟨ov4, R4, e4, _⟩ := hT3'
          rw [e4] at hT3 hA3 hB3 hK3
          generalize hbs : ([true, false] : List Bool) = bs at *
          by_cases hv0 : b = []
          · subst hv0
            have hf0 : freshL ([] : List Bool) = .ex [] := rfl
            simp -implicitDefEqProofs (disch := first | exact dsch | (simp only [go_sem, hk2, hct, htB, e4, hf0, hlen2, gx0, gxk, sx0, sxk, List.append_assoc]; omega) | (refine of_eq_true ?_; simp (disch := first | omega | (refine of_eq_true ?_; simp only [go_sem, hk2, hct, htB, e4, hf0, hlen2, gx0, gxk, sx0, sxk, List.append_assoc]; done) | (simp only [go_sem, hk2, hct, htB, e4, hf0, hlen2, gx0, gxk, sx0, sxk, List.append_assoc]; omega)) only [go_sem, hk2, hct, htB, e4, hf0, hlen2, gx0, gxk, sx0, sxk, List.append_assoc]; done) | fail) only [go_sem, ↓reduceIte, Nat.reduceEqDiff, hk2, hct, htB, e4, hf0, hlen2, gx0, gxk, sx0, sxk, List.append_assoc]
            refine F_of (ih (out := out ++ (bs.take i).flatMap fun is => tellR th locs vals k v ([] ++ [is])) (v := v) (b := [] ++ [gd bs i]) (TellAt.app hT3 [⟨[.t (.bool (gd bs i))], 1, false⟩]) (hA3.keep (.app5 _ _)) (.inr ⟨R4.length, false, ?_, ?_⟩) hvl (by simp only [List.length_append, List.length_cons, List.length_nil, Nat.zero_add] at *; omega) (by simp only [List.length_append, List.length_cons, List.length_nil, Nat.zero_add] at *; omega) (by simp only [List.length_append, List.length_cons, List.length_nil, Nat.zero_add] at *; omega)) (toTs_none (v := .ptr 0 1 0 0) (by simp) (toT_ptr)) (by rintro _ _ ⟨rfl, _⟩; rfl) ?_
            · rw [List.length_append]; rfl
            · simp [vs, enc_bool]
            rintro _ H' ⟨rfl, hT', hK'⟩
            have hKK := (KeepV.app5 (a := ⟨[.t (enc th)], 1, false⟩) (b := ⟨[.t (.int .i64 locs)], 1, false⟩) (c := ⟨[.t (enc vals)], 1, false⟩) (d := ⟨[ov4], 1, false⟩) (e := ⟨[fnV], 1, false⟩) (a' := ⟨[.t (enc th)], 1, false⟩) (b' := ⟨[.t (.int .i64 locs)], 1, false⟩) (c' := ⟨[.t (enc vals)], 1, false⟩) (d' := ⟨[ov4], 1, false⟩) (e' := ⟨[fnV], 1, false⟩) R4 [⟨[.t (.bool (gd bs i))], 1, false⟩]).trans hK'
            simp -implicitDefEqProofs (disch := first | exact dsch | fail) only [go_sem, ↓reduceIte, Nat.reduceEqDiff, hk2, hct]
            refine ⟨hlt2, ?_, hA3.keep hKK, hB3.keep hKK, hKi.trans (hK3.trans hKK)⟩
            rw [List.append_assoc, ← hst] at hT'
            exact hT'
          · have hf0 := fresh_ne hv0
            simp -implicitDefEqProofs (disch := first | exact dsch | (simp only [go_sem, hk2, hct, htB, e4, hf0, hlen2, gx0, gxk, sx0, sxk, List.append_assoc]; omega) | (refine of_eq_true ?_; simp (disch := first | omega | (refine of_eq_true ?_; simp only [go_sem, hk2, hct, htB, e4, hf0, hlen2, gx0, gxk, sx0, sxk, List.append_assoc]; done) | (simp only [go_sem, hk2, hct, htB, e4, hf0, hlen2, gx0, gxk, sx0, sxk, List.append_assoc]; omega)) only [go_sem, hk2, hct, htB, e4, hf0, hlen2, gx0, gxk, sx0, sxk, List.append_assoc]; done) | fail) only [go_sem, ↓reduceIte, Nat.reduceEqDiff, hk2, hct, htB, e4, hf0, hlen2, gx0, gxk, sx0, sxk, List.append_assoc]
            refine F_of (ih (out := out ++ (bs.take i).flatMap fun is => tellR th locs vals k v (b ++ [is])) (v := v) (b := b ++ [gd bs i]) (TellAt.app hT3 [⟨vs (b ++ [gd bs i]), 1, false⟩]) (hA3.keep (.app5 _ _)) (.inr ⟨R4.length, false, ?_, ?_⟩) hvl (by simp only [List.length_append, List.length_cons, List.length_nil, Nat.zero_add] at *; omega) (by simp only [List.length_append, List.length_cons, List.length_nil, Nat.zero_add] at *; omega) (by simp only [List.length_append, List.length_cons, List.length_nil, Nat.zero_add] at *; omega)) (toTs_none (v := .ptr 0 1 0 0) (by simp) (toT_ptr)) (by rintro _ _ ⟨rfl, _⟩; rfl) ?_
            · rw [List.length_append]; rfl
            · simp [vs, enc_bool]
            rintro _ H' ⟨rfl, hT', hK'⟩
            have hKK := (KeepV.app5 (a := ⟨[.t (enc th)], 1, false⟩) (b := ⟨[.t (.int .i64 locs)], 1, false⟩) (c := ⟨[.t (enc vals)], 1, false⟩) (d := ⟨[ov4], 1, false⟩) (e := ⟨[fnV], 1, false⟩) (a' := ⟨[.t (enc th)], 1, false⟩) (b' := ⟨[.t (.int .i64 locs)], 1, false⟩) (c' := ⟨[.t (enc vals)], 1, false⟩) (d' := ⟨[ov4], 1, false⟩) (e' := ⟨[fnV], 1, false⟩) R4 [⟨vs (b ++ [gd bs i]), 1, false⟩]).trans hK'
            simp -implicitDefEqProofs (disch := first | exact dsch | fail) only [go_sem, ↓reduceIte, Nat.reduceEqDiff, hk2, hct]
            refine ⟨hlt2, ?_, hA3.keep hKK, hB3.keep hKK, hKi.trans (hK3.trans hKK)⟩
            rw [List.append_assoc, ← hst] at hT'
            exact hT'
        · obtain rfl : i = 2 := by omega
          simp -implicitDefEqProofs (disch := first | exact dsch | fail) only [go_sem, ↓reduceIte, Nat.reduceEqDiff, hk2, hct]
          exact ⟨rfl, hT, hKi⟩
      · simp -implicitDefEqProofs (disch := first | exact dsch | fail) only [go_sem, ↓reduceIte, Nat.reduceEqDiff]
        refine ⟨?_, hA2.keep (.app5 _ _), hB2.keep (.app5 _ _), hK.trans (.app5 _ _)⟩
        rw [List.flatMap_nil, List.append_nil]
        exact TellAt.app ⟨_, _, rfl, ho⟩ [_]

set_option maxRecDepth 100000 in
theorem vals_Traces (th : List In) (locs : Int) (vals : List Int) (hth : th.length ≤ 1000000) (hlo : locs ≤ 1000000) (hv : vals.length ≤ 8) : Fun Tryz.prog 92 [enc th, .int .i64 locs, enc vals] (.t (enc (tracesR th locs vals))) := by
  refine Fun.go (b := false) Tryz.func92 rfl rfl (by kernel_rfl) (by kernel_rfl) ?_
  unfold tracesR
  by_cases hc : 4 < cntK 1 th
  · rw [if_pos hc]
    simp -implicitDefEqProofs (disch := first | exact dsch | fail) only [go_sem, ↓reduceIte, Nat.reduceEqDiff, hc]
    rfl
  · rw [if_neg hc]
    simp -implicitDefEqProofs (disch := first | exact dsch | fail) only [go_sem, ↓reduceIte, Nat.reduceEqDiff, hc]
    refine F_of (tell_ok (th := th) (locs := locs) (vals := vals) hth hlo (by omega) hv 13 (out := []) (v := []) (b := []) ⟨.ex [], [], rfl, .inl ⟨rfl, rfl⟩⟩ (.inl ⟨rfl, rfl⟩) (.inl ⟨rfl, rfl⟩) (by simp) (by simp) (by simp) (by simpa using sz_top 0 0)) (toTs_none (v := .ptr 0 1 0 0) (by simp) (toT_ptr)) (by rintro _ _ ⟨rfl, _⟩; rfl) ?_
    rintro _ H' ⟨rfl, hT', _⟩
    rw [List.nil_append] at hT'
    obtain ⟨ov, R, rfl, ho⟩ := hT'
    rcases ho with ⟨ho, rfl⟩ | ⟨n, A, B, l1, rfl, rfl⟩
    · rw [ho]
      simp -implicitDefEqProofs (disch := first | exact dsch | fail) only [go_sem, ↓reduceIte, Nat.reduceEqDiff]
      rfl
    · simp -implicitDefEqProofs (disch := first | exact dsch | (simp only [go_sem, gx0, gxk, l1]; omega) | (refine of_eq_true ?_; simp (disch := first | omega | (refine of_eq_true ?_; simp only [go_sem, gx0, gxk, l1]; done) | (simp only [go_sem, gx0, gxk, l1]; omega)) only [go_sem, gx0, gxk, l1]; done) | fail) only [go_sem, ↓reduceIte, Nat.reduceEqDiff, gx0, gxk, l1]
@[go_sem] theorem pu_Traces {th : List In} {locs : Int} {vals : List Int} (hth : th.length ≤ 1000000) (hlo : locs ≤ 1000000) (hv : vals.length ≤ 8) {K : Kp} : @Pu _ Tryz.prog 92 [enc th, .int .i64 locs, enc vals] K = K.k (.t (enc (tracesR th locs vals))) := (vals_Traces th locs vals hth hlo hv).pu
end Go.Sim
