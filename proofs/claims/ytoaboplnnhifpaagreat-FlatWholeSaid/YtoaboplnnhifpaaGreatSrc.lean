/- Part: Src, Src2, Src3 -/
import Derived.Test.YtoaboplnnhifpaaGreatCoh
set_option linter.all false
set_option maxRecDepth 20000
namespace Go.Sim
open Enc (enc)
open Go.Proofs
theorem AccB.mono {α : Type} [Enc α] {B H : Heap} {v : V} {l : List α} (h : AccB B H v l) (Y : Heap) : AccB B (H ++ Y) v l := by
  obtain ⟨R, rfl, h⟩ := h
  refine ⟨R ++ Y, by rw [List.append_assoc], ?_⟩
  rcases h with h | ⟨m, h1, h2⟩
  . exact .inl h
  . exact .inr ⟨m, h1, at_all h2 Y⟩
def firstQ (init : List Int) (y : Ev) : Bool := decide (0 <= y.loc) && (decide (y.loc < init.length) && decide (gd init y.loc.toNat = y.val))
def mayQ (x : Ex) (y : Ev) (k : Nat) : Bool := decide ((gd x.ev k).kind = 2) && (decide ((gd x.ev k).loc = y.loc) && decide ((gd x.ev k).val = y.val))
def mayTo (x : Ex) (init : List Int) (y : Ev) (n : Nat) : List Int := (if firstQ init y then [-1] else []) ++ ((List.range n).filter (mayQ x y)).map fun (k : Nat) => (k : Int)
def maySt (x : Ex) (init : List Int) (r : Nat) : List Int := mayTo x init (gd x.ev r) x.ev.length
theorem mayTo_step (x : Ex) (init : List Int) (y : Ev) (n : Nat) : mayTo x init y (n + 1) = if mayQ x y n then mayTo x init y n ++ [(n : Int)] else mayTo x init y n := by
  unfold mayTo
  rw [List.range_succ, List.filter_append, List.map_append]
  cases h : mayQ x y n <;> simp [h]
theorem mayTo_len (x : Ex) (init : List Int) (y : Ev) (n : Nat) : (mayTo x init y n).length <= n + 1 := by
  unfold mayTo
  have := List.length_filter_le (mayQ x y) (List.range n)
  rw [List.length_range] at this
  rw [List.length_append, List.length_map]
  split <;> simp <;> omega
theorem source_May {x : Ex} (hx : x.ev.length <= 32) {init : List Int} (hi : init.length <= 1000000) {r : Nat} (hr : r < x.ev.length) (hk1 : (gd x.ev r).kind = 1) : Fun Tryz.prog 23 [enc x, enc init, .int .i64 r] (.t (enc (maySt x init r))) := by
  refine Fun.go (b := false) Tryz.func23 rfl rfl (by kernel_rfl) (by kernel_rfl) ?_
  unfold maySt
  refine (?main : (∀ (e : Env) (H : Heap), e 7 = .ptr 1 1 0 0 /\ e 58 = .t (enc x.ev) /\ e 59 = .t (.int .i64 x.ev.length) /\ e 60 = .t (.int .i64 0) /\ (∃ v, e 8 = v /\ AccB [⟨[.t (enc x)], 7, false⟩, ⟨[.t (enc (gd x.ev r))], 7, false⟩] H v (mayTo x init (gd x.ev r) 0)) -> @C _ Tryz.prog ?c e H ?Q) -> _) ?loop
  case main =>
    intro loop
    have g0 : firstQ init (gd x.ev r) = false -> AccB [⟨[.t (enc x)], 7, false⟩, ⟨[.t (enc (gd x.ev r))], 7, false⟩] [⟨[.t (enc x)], 7, false⟩, ⟨[.t (enc (gd x.ev r))], 7, false⟩] (.ex []) (mayTo x init (gd x.ev r) 0) := fun h => by
      have : mayTo x init (gd x.ev r) 0 = [] := by unfold mayTo; rw [h]; rfl
      rw [this]; exact ⟨[], rfl, .inl ⟨rfl, rfl⟩⟩
    by_cases f1 : 0 <= (gd x.ev r).loc
    . by_cases f2 : (gd x.ev r).loc < init.length
      . by_cases f3 : gd init (gd x.ev r).loc.toNat = (gd x.ev r).val
        . have hq : firstQ init (gd x.ev r) = true := by simp [firstQ, f1, f2, f3]
          have : mayTo x init (gd x.ev r) 0 = [-1] := by unfold mayTo; rw [hq]; rfl
          simp -implicitDefEqProofs (disch := first | exact dsch | fail) only [go_sem, ↓reduceIte, Nat.reduceEqDiff, hk1, f1, f2, f3]
          refine loop _ _ ?_
          simp -implicitDefEqProofs (disch := first | exact dsch | fail) only [go_sem, ↓reduceIte, Nat.reduceEqDiff]
          exact ⟨_, rfl, by rw [this]; exact ⟨[⟨vs [-1], 1, false⟩], rfl, .inr ⟨0, rfl, rfl⟩⟩⟩
        . have hq : firstQ init (gd x.ev r) = false := by simp [firstQ, f1, f2, f3]
          simp -implicitDefEqProofs (disch := first | exact dsch | fail) only [go_sem, ↓reduceIte, Nat.reduceEqDiff, hk1, f1, f2, f3]
          refine loop _ _ ?_
          simp -implicitDefEqProofs (disch := first | exact dsch | fail) only [go_sem, ↓reduceIte, Nat.reduceEqDiff]
          exact ⟨_, rfl, g0 hq⟩
      . have hq : firstQ init (gd x.ev r) = false := by simp [firstQ, f1, f2]
        simp -implicitDefEqProofs (disch := first | exact dsch | fail) only [go_sem, ↓reduceIte, Nat.reduceEqDiff, hk1, f1, f2]
        refine loop _ _ ?_
        simp -implicitDefEqProofs (disch := first | exact dsch | fail) only [go_sem, ↓reduceIte, Nat.reduceEqDiff]
        exact ⟨_, rfl, g0 hq⟩
    . have hq : firstQ init (gd x.ev r) = false := by simp [firstQ, f1]
      simp -implicitDefEqProofs (disch := first | exact dsch | fail) only [go_sem, ↓reduceIte, Nat.reduceEqDiff, hk1, f1]
      refine loop _ _ ?_
      simp -implicitDefEqProofs (disch := first | exact dsch | fail) only [go_sem, ↓reduceIte, Nat.reduceEqDiff]
      exact ⟨_, rfl, g0 hq⟩
  case loop =>
    rintro e0 H0 ⟨h7, h58, h59, h60, v0, h80, hA0⟩
    refine loop_k (n := x.ev.length) [6, 7, 58, 59] (by kernel_rfl) (fun i e H => e 60 = .t (.int .i64 i) /\ ∃ v, e 8 = v /\ AccB [⟨[.t (enc x)], 7, false⟩, ⟨[.t (enc (gd x.ev r))], 7, false⟩] H v (mayTo x init (gd x.ev r) i)) ?_ ?_
    . rintro i e H hi hk ⟨hc, v, h8, hA⟩
      simp only [h7, h58, h59, keepP, and_true] at hk
      by_cases hlt : i < x.ev.length
      . have hst := mayTo_step x init (gd x.ev r) i
        have hle := mayTo_len x init (gd x.ev r) i
        have hA' := hA.mono [⟨[V.t (enc (gd x.ev i))], 7, false⟩]
        have hA0' := hA
        obtain ⟨R, rfl, _⟩ := hA0'
        cases hq : mayQ x (gd x.ev r) i
        . rw [hq, if_neg (by decide)] at hst
          unfold mayQ at hq
          by_cases q1 : (gd x.ev i).kind = 2
          . by_cases q2 : (gd x.ev i).loc = (gd x.ev r).loc
            . have q3 : ¬ (gd x.ev i).val = (gd x.ev r).val := by simpa [q1, q2] using hq
              simp -implicitDefEqProofs (disch := first | exact dsch | fail) only [go_sem, ↓reduceIte, Nat.reduceEqDiff, hk, hc, h8, gx0, gxk, sx0, sxk, List.append_assoc, q1, q2, q3]
              exact ⟨hlt, _, rfl, by rw [hst]; exact hA'⟩
            . simp -implicitDefEqProofs (disch := first | exact dsch | fail) only [go_sem, ↓reduceIte, Nat.reduceEqDiff, hk, hc, h8, gx0, gxk, sx0, sxk, List.append_assoc, q1, q2]
              exact ⟨hlt, _, rfl, by rw [hst]; exact hA'⟩
          . simp -implicitDefEqProofs (disch := first | exact dsch | fail) only [go_sem, ↓reduceIte, Nat.reduceEqDiff, hk, hc, h8, gx0, gxk, sx0, sxk, List.append_assoc, q1]
            exact ⟨hlt, _, rfl, by rw [hst]; exact hA'⟩
        . rw [hq, if_pos rfl] at hst
          obtain ⟨v', H', f, hp, hA2⟩ := hA'.push (i : Int) (by_ := 8) (by omega)
          unfold mayQ at hq
          simp only [Bool.and_eq_true, decide_eq_true_eq] at hq
          obtain ⟨q1, q2, q3⟩ := hq
          have hp2 : appendV (some (1, 8)) (⟨[V.t (enc x)], 7, false⟩ :: ⟨[V.t (enc (gd x.ev r))], 7, false⟩ :: (R ++ [⟨[V.t (enc (gd x.ev i))], 7, false⟩])) v [V.t (T.int .i64 (i : Int))] = some ⟨v', H', f⟩ := hp
          simp -implicitDefEqProofs (disch := first | exact dsch | fail) only [go_sem, ↓reduceIte, Nat.reduceEqDiff, hk, hc, h8, gx0, gxk, sx0, sxk, List.append_assoc, q1, q2, q3, hp2]
          exact ⟨hlt, _, rfl, by rw [hst]; exact hA2⟩
      . obtain rfl : i = x.ev.length := by omega
        obtain ⟨R, rfl, hA⟩ := hA
        rcases hA with ⟨h0, rfl⟩ | ⟨m, rfl, hg⟩
        . rw [h0]
          simp -implicitDefEqProofs (disch := first | exact dsch | fail) only [go_sem, ↓reduceIte, Nat.reduceEqDiff, hk, hc, h8]
          rfl
        . have hg2 : (⟨[V.t (enc x)], 7, false⟩ :: ⟨[V.t (enc (gd x.ev r))], 7, false⟩ :: R : Heap)[2 + m]? = some ⟨vs (mayTo x init (gd x.ev r) x.ev.length), 1, false⟩ := by rw [Nat.add_comm]; exact hg
          simp -implicitDefEqProofs (disch := first | exact dsch | fail) only [go_sem, ↓reduceIte, Nat.reduceEqDiff, hk, hc, h8, hg, hg2]
    . simp -implicitDefEqProofs (disch := first | exact dsch | fail) only [go_sem, ↓reduceIte, Nat.reduceEqDiff, h60]
      exact ⟨_, h80, hA0⟩
@[go_sem] theorem pu_SMay {x : Ex} (hx : x.ev.length <= 32) {init : List Int} (hi : init.length <= 1000000) {r : Nat} (hr : r < x.ev.length) (hk1 : (gd x.ev r).kind = 1) {K : Kp} : @Pu _ Tryz.prog 23 [enc x, enc init, .int .i64 r] K = K.k (.t (enc (maySt x init r))) := (source_May hx hi hr hk1).pu
def chF (x : Ex) (init : List Int) (r : Nat) : List Int := if (gd x.ev r).kind = 1 then maySt x init r else [-2]
def choicesTo (x : Ex) (init : List Int) (n : Nat) : List (List Int) := (List.range n).map (chF x init)
def choicesR (x : Ex) (init : List Int) : List (List Int) := choicesTo x init x.ev.length
theorem choicesTo_step (x : Ex) (init : List Int) (n : Nat) : choicesTo x init (n + 1) = choicesTo x init n ++ [chF x init n] := by
  unfold choicesTo; rw [List.range_succ, List.map_append]; rfl
theorem choicesTo_len (x : Ex) (init : List Int) (n : Nat) : (choicesTo x init n).length = n := by simp [choicesTo]
theorem source_choices {x : Ex} (hx : x.ev.length <= 32) {init : List Int} (hi : init.length <= 1000000) : Fun Tryz.prog 75 [enc x, enc init] (.t (enc (choicesR x init))) := by
  refine Fun.go (b := false) Tryz.func75 rfl rfl (by kernel_rfl) (by kernel_rfl) ?_
  simp -implicitDefEqProofs (disch := first | exact dsch | fail) only [go_sem, ↓reduceIte, Nat.reduceEqDiff]
  refine loop_k (n := x.ev.length) [1, 2, 4, 10, 11] (by kernel_rfl) (fun i e H => e 12 = .t (.int .i64 i) /\ ∃ v, e 5 = v /\ AccB [⟨[.t (enc x)], 7, false⟩] H v (choicesTo x init i)) ?_ ?_
  . rintro i e H hi hk ⟨hc, v, h5, hA⟩
    simp only [keepP, go_sem, ↓reduceIte, Nat.reduceEqDiff, and_true] at hk
    by_cases hlt : i < x.ev.length
    . have hst := choicesTo_step x init i
      have hle := choicesTo_len x init i
      have hA' := hA.mono [⟨[V.t (enc (gd x.ev i))], 7, false⟩]
      have hA0' := hA
      obtain ⟨R, rfl, _⟩ := hA0'
      by_cases q1 : (gd x.ev i).kind = 1
      . have hch : chF x init i = maySt x init i := by unfold chF; rw [if_pos q1]
        obtain ⟨v', H', f, hp, hA2⟩ := hA'.push (chF x init i) (by_ := 24) (by omega)
        have hp2 : appendV (some (1, 24)) (⟨[V.t (enc x)], 7, false⟩ :: (R ++ [⟨[V.t (enc (gd x.ev i))], 7, false⟩])) v [V.t (enc (chF x init i))] = some ⟨v', H', f⟩ := hp
        rw [hch] at hp2
        simp -implicitDefEqProofs (disch := first | exact dsch | fail) only [go_sem, ↓reduceIte, Nat.reduceEqDiff, hk, hc, h5, gx0, gxk, sx0, sxk, List.append_assoc, q1, hp2]
        exact ⟨hlt, _, rfl, by rw [hst]; exact hA2⟩
      . have hch : chF x init i = [-2] := by unfold chF; rw [if_neg q1]
        obtain ⟨v', H', f, hp, hA2⟩ := hA'.push (chF x init i) (by_ := 24) (by omega)
        have hp2 : appendV (some (1, 24)) (⟨[V.t (enc x)], 7, false⟩ :: (R ++ [⟨[V.t (enc (gd x.ev i))], 7, false⟩])) v [V.t (enc (chF x init i))] = some ⟨v', H', f⟩ := hp
        rw [hch] at hp2
        simp -implicitDefEqProofs (disch := first | exact dsch | fail) only [go_sem, ↓reduceIte, Nat.reduceEqDiff, hk, hc, h5, gx0, gxk, sx0, sxk, List.append_assoc, q1, hp2]
        exact ⟨hlt, _, rfl, by rw [hst]; exact hA2⟩
    . obtain rfl : i = x.ev.length := by omega
      obtain ⟨R, rfl, hA⟩ := hA
      have hfin : choicesTo x init x.ev.length = choicesR x init := rfl
      rw [hfin] at hA
      rcases hA with ⟨h0, rfl⟩ | ⟨m, rfl, hg⟩
      . rw [h0]
        simp -implicitDefEqProofs (disch := first | exact dsch | fail) only [go_sem, ↓reduceIte, Nat.reduceEqDiff, hk, hc, h5]
        first | done | rfl
      . have hg2 : (⟨[V.t (enc x)], 7, false⟩ :: R : Heap)[1 + m]? = some ⟨vs (choicesR x init), 1, false⟩ := by rw [Nat.add_comm]; exact hg
        simp -implicitDefEqProofs (disch := first | exact dsch | fail) only [go_sem, ↓reduceIte, Nat.reduceEqDiff, hk, hc, h5, hg, hg2]
  . simp -implicitDefEqProofs (disch := first | exact dsch | fail) only [go_sem, ↓reduceIte, Nat.reduceEqDiff]
    exact ⟨_, rfl, [], rfl, .inl ⟨rfl, rfl⟩⟩
@[go_sem] theorem pu_choices {x : Ex} (hx : x.ev.length <= 32) {init : List Int} (hi : init.length <= 1000000) {K : Kp} : @Pu _ Tryz.prog 75 [enc x, enc init] K = K.k (.t (enc (choicesR x init))) := (source_choices hx hi).pu
end Go.Sim
set_option maxRecDepth 100000
namespace Go.Sim
open Enc (enc)
open Go.Proofs
def tellS (c : List (List Int)) : Nat -> List Int -> List (List Int)
  | 0, _ => []
  | k + 1, f => if f.length = c.length then [f] else (gd c f.length).flatMap fun n => tellS c k (f ++ [n])
def fnS : V := .fn 76 [] [.ptr 1 1 0 0, .ptr 2 1 0 0, .ptr 3 1 0 0]
@[go_sem] theorem cells_fnS : fnS.cells = [fnS] := rfl
@[go_sem] theorem args_fnS (vs : List V) : fnArgs fnS vs = some (76, vs ++ [.ptr 1 1 0 0, .ptr 2 1 0 0, .ptr 3 1 0 0]) := rfl
def KeepS (H H' : Heap) : Prop := ∀ (id : Nat) (l : List Int) (st : Bool), l ≠ [] -> H[id + 4]? = some ⟨vs l, 1, st⟩ -> ∃ st', H'[id + 4]? = some ⟨vs l, 1, st'⟩
theorem KeepS.refl (H : Heap) : KeepS H H := fun _ _ st _ h => ⟨st, h⟩
theorem KeepS.trans {H H1 H2 : Heap} (h : KeepS H H1) (k : KeepS H1 H2) : KeepS H H2 := fun id l st hl e => by
  obtain ⟨st1, e1⟩ := h id l st hl e
  exact k id l st1 hl e1
def AsS (H : Heap) (va : V) (v : List Int) : Prop := (va = .ex [] /\ v = []) \/ ∃ id st, v ≠ [] /\ va = .ref (id + 4) v.length /\ H[id + 4]? = some ⟨vs v, 1, st⟩
theorem AsS.keep {H H' : Heap} {va : V} {v : List Int} (h : AsS H va v) (k : KeepS H H') : AsS H' va v := by
  rcases h with h | ⟨id, st, hv, e, h⟩
  . exact .inl h
  . obtain ⟨st', h'⟩ := k id _ st hv h
    exact .inr ⟨id, st', hv, e, h'⟩
theorem AsS.toT {H : Heap} {va : V} {v : List Int} (h : AsS H va v) : Sim.toT H depth va = some (enc v) := by
  rcases h with ⟨rfl, rfl⟩ | ⟨id, st, _, rfl, h⟩
  . rw [toT_ex]; rfl
  . rw [toT_ref', cur_some h (vs_len v), Option.bind_some, toTo_vs]
def TellO (o0 : Obj) (c : List (List Int)) (ov : V) (H : Heap) (out : List (List Int)) : Prop :=
  ∃ R, H = o0 :: ⟨[.t (enc c)], 1, false⟩ :: ⟨[ov], 1, false⟩ :: ⟨[fnS], 1, false⟩ :: R /\
    ((out = [] /\ ov = .ex []) \/ ∃ n A B, out.length = n + 1 /\ ov = .ref (A.length + 1 + 1 + 1 + 1) (n + 1) /\ R = A ++ ⟨vs out, 1, false⟩ :: B)
def TellS (o0 : Obj) (c : List (List Int)) (H : Heap) (out : List (List Int)) : Prop := ∃ ov, TellO o0 c ov H out
theorem ints_ne {l : List Int} {out : List (List Int)} {n : Nat} (hl : l ≠ []) (hn : out.length = n + 1) : vs l ≠ vs out := by
  intro h
  match l, out, hl, hn with
  | a :: l, o :: out, _, _ =>
    have : V.t (enc a) = V.t (enc o) := by
      have := congrArg List.head? h
      simpa [vs] using this
    cases this
theorem hold_S {o0 c ov} {H : Heap} {out : List (List Int)} {va : V} {v : List Int} (h : AsS H va v) (hT : TellO o0 c ov H out) : KeepS H (hold depth H va) /\ TellO o0 c ov (hold depth H va) out := by
  rcases h with ⟨rfl, rfl⟩ | ⟨id, st, hv, rfl, h⟩
  . rw [hold_ex]; exact ⟨.refl _, hT⟩
  . have e : hold depth H (.ref (id + 4) v.length) = H.set (id + 4) ⟨vs v, 1, true⟩ := by
      rw [hold_ref', cur_some h (vs_len v), Option.map_some, Option.getD_some, holdo_vs]
    rw [e]
    refine ⟨fun id' l st' hl e' => ?_, ?_⟩
    . by_cases hid : id' = id
      . subst hid
        rw [h] at e'
        simp only [Option.some.injEq, Obj.mk.injEq] at e'
        exact ⟨true, by rw [List.getElem?_set_self (at_lt h), e'.1]⟩
      . exact ⟨st', by rw [List.getElem?_set_ne (by omega)]; exact e'⟩
    . obtain ⟨R, rfl, ho⟩ := hT
      simp only [List.getElem?_cons_succ] at h
      refine ⟨R.set id ⟨vs v, 1, true⟩, rfl, ?_⟩
      rcases ho with ho | ⟨n, A, B, h1, h2, rfl⟩
      . exact .inl ho
      . rcases Nat.lt_trichotomy id A.length with hl | hl | hl
        . exact .inr ⟨n, A.set id ⟨vs v, 1, true⟩, B, h1, by rw [List.length_set]; exact h2, by rw [List.set_append_left _ _ hl]⟩
        . subst hl
          rw [gx0] at h
          simp only [List.getElem?_cons_zero, Option.some.injEq, Obj.mk.injEq] at h
          exact absurd h.1.symm (ints_ne hv h1)
        . refine .inr ⟨n, A, B.set (id - A.length - 1) ⟨vs v, 1, true⟩, h1, h2, ?_⟩
          rw [List.set_append_right _ _ (by omega)]
          obtain ⟨m, hm⟩ : ∃ m, id - A.length = m + 1 := ⟨id - A.length - 1, by omega⟩
          rw [hm]; simp
theorem KeepS.cons4 {a b d e a' b' d' e' : Obj} {R R' : Heap} (h : ∀ (id : Nat) (l : List Int) (st : Bool), l ≠ [] -> R[id]? = some ⟨vs l, 1, st⟩ -> ∃ st', R'[id]? = some ⟨vs l, 1, st'⟩) : KeepS (a :: b :: d :: e :: R) (a' :: b' :: d' :: e' :: R') := fun id l st hl he => by
  obtain ⟨st', h'⟩ := h id l st hl (by simpa using he)
  exact ⟨st', by simpa using h'⟩
theorem KeepS.app4 {a b d e a' b' d' e' : Obj} (R X : Heap) : KeepS (a :: b :: d :: e :: R) (a' :: b' :: d' :: e' :: (R ++ X)) := KeepS.cons4 fun id l st hl h => ⟨st, at_all h X⟩
theorem KeepS.mid4 {a b d e a' b' d' e' : Obj} {out out' : List (List Int)} {st0 st1 : Bool} {n : Nat} (ho : out.length = n + 1) (A B X : Heap) : KeepS (a :: b :: d :: e :: (A ++ ⟨vs out, 1, st0⟩ :: B)) (a' :: b' :: d' :: e' :: (A ++ ⟨vs out', 1, st1⟩ :: (B ++ X))) := KeepS.cons4 fun id l st hl h => by
  rcases Nat.lt_trichotomy id A.length with hh | hh | hh
  . rw [List.getElem?_append_left hh] at h ⊢; exact ⟨st, h⟩
  . subst hh
    rw [gx0] at h
    simp only [List.getElem?_cons_zero, Option.some.injEq, Obj.mk.injEq] at h
    exact absurd h.1.symm (ints_ne hl ho)
  . rw [List.getElem?_append_right (by omega)] at h ⊢
    obtain ⟨m, hm⟩ : ∃ m, id - A.length = m + 1 := ⟨id - A.length - 1, by omega⟩
    rw [hm, List.getElem?_cons_succ] at h ⊢
    exact ⟨st, at_all h X⟩
theorem TellS.app {o0 c H out} (h : TellS o0 c H out) (X : Heap) : TellS o0 c (H ++ X) out := by
  obtain ⟨ov, R, rfl, ho⟩ := h
  refine ⟨ov, R ++ X, rfl, ?_⟩
  rcases ho with ho | ⟨n, A, B, h1, h2, rfl⟩
  . exact .inl ho
  . exact .inr ⟨n, A, B ++ X, h1, h2, by simp⟩
theorem partV_as {H : Heap} {va : V} {v : List Int} (h : AsS H va v) {k k' : IntKind} :
    partV H 1 va none (some (.t (.int k v.length))) (some (.t (.int k' v.length))) = some ⟨.ex (v.map enc), hold depth H va, effS va⟩ := by
  have ht := h.toT
  have hs : ∃ el, slOf H va = some el /\ el.length = v.length := by
    rcases h with ⟨rfl, rfl⟩ | ⟨id, st, _, rfl, h⟩
    . exact ⟨[], by rw [slOf_ex]; rfl, rfl⟩
    . exact ⟨vs v, by simp [slOf, cur_some h (vs_len v)], vs_len v⟩
  obtain ⟨el, he, hl⟩ := hs
  have h1 : bound (some (.t (.int k (v.length : Int)))) el.length = some v.length := by simp [bound]
  have h2 : bound (some (.t (.int k' (v.length : Int)))) el.length = some v.length := by simp [bound]
  unfold partV
  rw [he, ht, enc_list]
  simp only
  rw [h1, h2]
  simp only [bound]
  rw [if_pos ⟨Nat.zero_le _, Nat.le_refl _, by omega, by simp [hl], by omega, rfl, .inl trivial⟩]
  simp [List.take_of_length_le]
theorem app_exl {H : Heap} {v : List Int} {n : Int} (hv : v.length <= 1000) : appendV (some (1, 8)) H (.ex (v.map enc)) [V.t (.int .i64 n)] = some ⟨.ref H.length (v.length + 1), H ++ [⟨vs (v ++ [n]), 1, false⟩], .none⟩ := by
  have hx : ((v.map (enc : Int -> T)).map V.t).all (fits 1) = true := by rw [map_t_enc]; exact fits_vs v
  show appendV (some (1, 8)) H (.ex (v.map enc)) (vs [n]) = _
  rw [app_ex (fits_vs [n]) rfl hx (by rw [vs_len]; simp; omega)]
  simp [vs_len, vs]
end Go.Sim
set_option maxRecDepth 100000
namespace Go.Sim
open Enc (enc)
open Go.Proofs
theorem flat_part {α β : Type} [Enc α] {f : α -> List β} {l : List α} {i : Nat} (h : i < l.length) : ((l.take i).flatMap f).length + (f (gd l i)).length <= (l.flatMap f).length := by
  have e : l.flatMap f = (l.take (i + 1)).flatMap f ++ (l.drop (i + 1)).flatMap f := by rw [← List.flatMap_append, List.take_append_drop]
  rw [e, flat_take h]
  simp only [List.length_append]; omega
theorem tellS_ok {o0 : Obj} {c : List (List Int)} (hc : c.length <= 32) (hc2 : ∀ l ∈ c, l.length <= 1000) : ∀ (k : Nat) {H : Heap} {out : List (List Int)} {v : List Int} {va : V},
    TellS o0 c H out -> AsS H va v -> v.length <= c.length -> c.length < k + v.length -> out.length + (tellS c k v).length <= 1000000 ->
    ∃ u H', FunH Tryz.prog 76 [va, .ptr 1 1 0 0, .ptr 2 1 0 0, .ptr 3 1 0 0] H u H' /\ u = .tup [] /\ TellS o0 c H' (out ++ tellS c k v) /\ KeepS H H' := by
  intro k
  induction k with
  | zero => intro H out v va _ _ h1 h2 _; omega
  | succ k ih =>
    intro H out v va hT hA hvl hk hout
    refine FunH.goX Tryz.func76 rfl rfl (by kernel_rfl) ?_
    obtain ⟨ov, hT⟩ := hT
    obtain ⟨hK1, hT1⟩ := hold_S hA hT
    have hA1 := hA.keep hK1
    have htA := hA.toT
    obtain ⟨R, rfl, ho⟩ := hT
    obtain ⟨R1, e1, ho1⟩ := hT1
    rw [e1] at hK1 hA1
    have hlen : ∀ e, ∃ f, lenT (o0 :: ⟨[.t (enc c)], 1, false⟩ :: ⟨[ov], 1, false⟩ :: ⟨[fnS], 1, false⟩ :: R) (.sl e) va = some ⟨.t (.int .i64 v.length), (o0 :: ⟨[.t (enc c)], 1, false⟩ :: ⟨[ov], 1, false⟩ :: ⟨[fnS], 1, false⟩ :: R), f⟩ := by
      intro e
      rcases hA with ⟨rfl, rfl⟩ | ⟨id, st, _, rfl, h⟩
      . exact ⟨_, rfl⟩
      . exact ⟨_, by rw [lenT_ref, cur_some h (vs_len v)]; rfl⟩
    obtain ⟨fl, hl27⟩ := hlen 3
    by_cases hv : v.length = c.length
    . have hts : tellS c (k + 1) v = [v] := by rw [tellS, if_pos hv]
      rw [hts] at hout ⊢
      simp only [List.length_singleton] at hout
      rcases hA with ⟨rfl, rfl⟩ | ⟨id, st, hv0, rfl, hg⟩
      . rw [hold_ex] at e1
        simp only [List.cons.injEq, true_and] at e1
        subst e1
        rcases ho1 with ⟨rfl, rfl⟩ | ⟨n, A, B, l1, rfl, rfl⟩
        . simp -implicitDefEqProofs (disch := first | exact dsch | fail) only [go_sem, ↓reduceIte, Nat.reduceEqDiff, htA, hv, hl27, gx0, gxk, sx0, sxk, List.append_assoc]
          exact ⟨rfl, ⟨_, _, rfl, .inr ⟨0, R, [], rfl, rfl, rfl⟩⟩, .app4 _ _⟩
        . simp -implicitDefEqProofs (disch := first | exact dsch | fail) only [go_sem, ↓reduceIte, Nat.reduceEqDiff, htA, hv, hl27, gx0, gxk, sx0, sxk, List.append_assoc, l1]
          exact ⟨rfl, ⟨_, _, rfl, .inr ⟨n + 1, A, B, by simp [l1], rfl, rfl⟩⟩, by simpa using KeepS.mid4 l1 A B []⟩
      . have e1' : R.set id ⟨vs v, 1, true⟩ = R1 := by
          have : hold depth (o0 :: ⟨[.t (enc c)], 1, false⟩ :: ⟨[ov], 1, false⟩ :: ⟨[fnS], 1, false⟩ :: R) (.ref (id + 4) v.length) = o0 :: ⟨[.t (enc c)], 1, false⟩ :: ⟨[ov], 1, false⟩ :: ⟨[fnS], 1, false⟩ :: R.set id ⟨vs v, 1, true⟩ := by
            rw [hold_ref', cur_some hg (vs_len v), Option.map_some, Option.getD_some, holdo_vs]; rfl
          rw [this] at e1
          simpa using e1
        simp only [List.getElem?_cons_succ] at hg
        rcases ho1 with ⟨rfl, rfl⟩ | ⟨n, A, B, l1, rfl, rfl⟩
        . simp -implicitDefEqProofs (disch := first | exact dsch | fail) only [go_sem, ↓reduceIte, Nat.reduceEqDiff, hg, e1', hv, hl27, gx0, gxk, sx0, sxk, List.append_assoc]
          exact ⟨rfl, ⟨_, _, rfl, .inr ⟨0, R1, [], rfl, rfl, rfl⟩⟩, hK1.trans (.app4 _ _)⟩
        . simp -implicitDefEqProofs (disch := first | exact dsch | fail) only [go_sem, ↓reduceIte, Nat.reduceEqDiff, hg, e1', hv, hl27, gx0, gxk, sx0, sxk, List.append_assoc, l1]
          exact ⟨rfl, ⟨_, _, rfl, .inr ⟨n + 1, A, B, by simp [l1], rfl, rfl⟩⟩, hK1.trans (by simpa using KeepS.mid4 l1 A B [])⟩
    . have hlt : v.length < c.length := by omega
      have hts : tellS c (k + 1) v = (gd c v.length).flatMap fun n => tellS c k (v ++ [n]) := by rw [tellS, if_neg hv]
      rw [hts] at hout ⊢
      have hosl := hc2 _ (gd_mem hlt)
      generalize hos : gd c v.length = os at hout hosl ⊢
      have hv1 : v.length <= 1000 := by omega
      have hT0 : TellS o0 c (o0 :: ⟨[.t (enc c)], 1, false⟩ :: ⟨[ov], 1, false⟩ :: ⟨[fnS], 1, false⟩ :: R) out := ⟨ov, R, rfl, ho⟩
      simp -implicitDefEqProofs (disch := first | exact dsch | fail) only [go_sem, ↓reduceIte, Nat.reduceEqDiff, htA, hv, hl27, hos, gx0, gxk, sx0, sxk, List.append_assoc]
      refine loop_k (n := os.length) [0, 3, 20, 21] (by kernel_rfl) (fun i e H => e 22 = .t (.int .i64 i) /\ TellS o0 c H (out ++ (os.take i).flatMap fun n => tellS c k (v ++ [n])) /\ AsS H va v /\ KeepS (o0 :: ⟨[.t (enc c)], 1, false⟩ :: ⟨[ov], 1, false⟩ :: ⟨[fnS], 1, false⟩ :: R) H) ?_ ?_
      . rintro i e H hi hk2 ⟨hct, hT, hA, hKi⟩
        simp only [keepP, go_sem, ↓reduceIte, Nat.reduceEqDiff, and_true] at hk2
        by_cases hlt2 : i < os.length
        . have hst := flat_take (f := fun n => tellS c k (v ++ [n])) hlt2
          have hfp := flat_part (f := fun n => tellS c k (v ++ [n])) hlt2
          obtain ⟨ov3, hT3⟩ := hT
          obtain ⟨hK3, hT3'⟩ := hold_S hA hT3
          have hA3 := hA.keep hK3
          have hpv := partV_as (k := .i64) (k' := .i64) hA
          obtain ⟨R3, rfl, _⟩ := hT3
          have hT4 : TellS o0 c _ _ := ⟨ov3, hT3'⟩
          obtain ⟨R4, e4, _⟩ := hT3'
          rw [e4] at hT4 hA3 hK3 hpv
          have hap := app_exl (H := o0 :: ⟨[.t (enc c)], 1, false⟩ :: ⟨[ov3], 1, false⟩ :: ⟨[fnS], 1, false⟩ :: R4) (n := gd os i) hv1
          rcases hA with ⟨hva, hve⟩ | ⟨id, st, hv0, hva, hg⟩
          . subst hva
            have hl3 : lenT (o0 :: ⟨[.t (enc c)], 1, false⟩ :: ⟨[ov3], 1, false⟩ :: ⟨[fnS], 1, false⟩ :: R3) (.sl 3) (.ex []) = some ⟨.t (.int .i64 v.length), (o0 :: ⟨[.t (enc c)], 1, false⟩ :: ⟨[ov3], 1, false⟩ :: ⟨[fnS], 1, false⟩ :: R3), .none⟩ := by rw [hve]; rfl
            simp -implicitDefEqProofs (disch := first | exact dsch | fail) only [go_sem, ↓reduceIte, Nat.reduceEqDiff, hk2, hct, hl3, hpv, hap, (show effS (.ex []) = .none from rfl), gx0, gxk, sx0, sxk, List.append_assoc]
            have hTn := hT4.app [⟨vs (v ++ [gd os i]), 1, false⟩]
            have hAn : AsS (o0 :: ⟨[.t (enc c)], 1, false⟩ :: ⟨[ov3], 1, false⟩ :: ⟨[fnS], 1, false⟩ :: (R4 ++ [⟨vs (v ++ [gd os i]), 1, false⟩])) (.ref (R4.length + 4) (v.length + 1)) (v ++ [gd os i]) :=
              .inr ⟨R4.length, false, by simp, by simp, by simp⟩
            refine F_of (ih (out := out ++ (os.take i).flatMap fun n => tellS c k (v ++ [n])) (v := v ++ [gd os i]) hTn hAn (by simp; omega) (by simp; omega) (by rw [List.length_append]; omega)) (toTs_none (v := .ptr 1 1 0 0) (by simp) (toT_ptr)) (by rintro _ _ ⟨rfl, _⟩; rfl) ?_
            rintro _ H' ⟨rfl, hT', hK'⟩
            have hKK := (KeepS.app4 (a := o0) (b := ⟨[.t (enc c)], 1, false⟩) (d := ⟨[ov3], 1, false⟩) (e := ⟨[fnS], 1, false⟩) (a' := o0) (b' := ⟨[.t (enc c)], 1, false⟩) (d' := ⟨[ov3], 1, false⟩) (e' := ⟨[fnS], 1, false⟩) R4 [⟨vs (v ++ [gd os i]), 1, false⟩]).trans hK'
            simp -implicitDefEqProofs (disch := first | exact dsch | fail) only [go_sem, ↓reduceIte, Nat.reduceEqDiff, hk2, hct]
            refine ⟨hlt2, ?_, hA3.keep hKK, hKi.trans (hK3.trans hKK)⟩
            rw [List.append_assoc, ← hst] at hT'
            exact hT'
          . subst hva
            have hl3 : lenT (o0 :: ⟨[.t (enc c)], 1, false⟩ :: ⟨[ov3], 1, false⟩ :: ⟨[fnS], 1, false⟩ :: R3) (.sl 3) (.ref (id + 4) v.length) = some ⟨.t (.int .i64 v.length), (o0 :: ⟨[.t (enc c)], 1, false⟩ :: ⟨[ov3], 1, false⟩ :: ⟨[fnS], 1, false⟩ :: R3), .load (id + 4)⟩ := by rw [lenT_ref, cur_some hg (vs_len v)]; rfl
            simp -implicitDefEqProofs (disch := first | exact dsch | fail) only [go_sem, ↓reduceIte, Nat.reduceEqDiff, hk2, hct, hl3, hpv, hap, (show effS (.ref (id + 4) v.length) = .bad from rfl), gx0, gxk, sx0, sxk, List.append_assoc]
            have hTn := hT4.app [⟨vs (v ++ [gd os i]), 1, false⟩]
            have hAn : AsS (o0 :: ⟨[.t (enc c)], 1, false⟩ :: ⟨[ov3], 1, false⟩ :: ⟨[fnS], 1, false⟩ :: (R4 ++ [⟨vs (v ++ [gd os i]), 1, false⟩])) (.ref (R4.length + 4) (v.length + 1)) (v ++ [gd os i]) :=
              .inr ⟨R4.length, false, by simp, by simp, by simp⟩
            refine F_of (ih (out := out ++ (os.take i).flatMap fun n => tellS c k (v ++ [n])) (v := v ++ [gd os i]) hTn hAn (by simp; omega) (by simp; omega) (by rw [List.length_append]; omega)) (toTs_none (v := .ptr 1 1 0 0) (by simp) (toT_ptr)) (by rintro _ _ ⟨rfl, _⟩; rfl) ?_
            rintro _ H' ⟨rfl, hT', hK'⟩
            have hKK := (KeepS.app4 (a := o0) (b := ⟨[.t (enc c)], 1, false⟩) (d := ⟨[ov3], 1, false⟩) (e := ⟨[fnS], 1, false⟩) (a' := o0) (b' := ⟨[.t (enc c)], 1, false⟩) (d' := ⟨[ov3], 1, false⟩) (e' := ⟨[fnS], 1, false⟩) R4 [⟨vs (v ++ [gd os i]), 1, false⟩]).trans hK'
            simp -implicitDefEqProofs (disch := first | exact dsch | fail) only [go_sem, ↓reduceIte, Nat.reduceEqDiff, hk2, hct]
            refine ⟨hlt2, ?_, hA3.keep hKK, hKi.trans (hK3.trans hKK)⟩
            rw [List.append_assoc, ← hst] at hT'
            exact hT'
        . obtain rfl : i = os.length := by omega
          rw [List.take_length] at hT
          simp -implicitDefEqProofs (disch := first | exact dsch | fail) only [go_sem, ↓reduceIte, Nat.reduceEqDiff, hk2, hct]
          exact ⟨rfl, hT, hKi⟩
      . simp -implicitDefEqProofs (disch := first | exact dsch | fail) only [go_sem, ↓reduceIte, Nat.reduceEqDiff]
        refine ⟨?_, ?_, ?_⟩
        . rw [List.flatMap_nil, List.append_nil]; exact hT0
        . exact hA
        . exact .refl _
def prodTo (c : List (List Int)) : Nat -> Nat
  | 0 => 1
  | i + 1 => prodTo c i * (gd c i).length
def sourceR (x : Ex) (init : List Int) : List (List Int) :=
  if ((List.range (choicesR x init).length).any fun i => decide (20000 < prodTo (choicesR x init) (i + 1))) = true \/ prodTo (choicesR x init) (choicesR x init).length = 0 then [] else tellS (choicesR x init) ((choicesR x init).length + 1) []
theorem tellS_card {c : List (List Int)} : ∀ (k : Nat) (v : List Int), v.length + k = c.length + 1 -> (tellS c k v).length * prodTo c v.length <= prodTo c c.length
  | 0, v, _ => by simp [tellS]
  | k + 1, v, hk => by
    rw [tellS]
    split
    . rename_i h; rw [h]; simp
    . rename_i h
      have hlt : v.length < c.length := by
        cases k with
        | zero => omega
        | succ k => omega
      have key : ∀ os : List Int, (os.flatMap fun n => tellS c k (v ++ [n])).length * prodTo c v.length * (gd c v.length).length <= os.length * prodTo c c.length := by
        intro os
        induction os with
        | nil => simp
        | cons a os ih =>
          have h1 := tellS_card (c := c) k (v ++ [a]) (by rw [List.length_append, List.length_singleton]; omega)
          rw [List.length_append, List.length_singleton, prodTo, ← Nat.mul_assoc] at h1
          rw [List.flatMap_cons, List.length_append, Nat.add_mul, Nat.add_mul, List.length_cons, Nat.add_mul]
          omega
      have h2 := key (gd c v.length)
      rcases Nat.eq_zero_or_pos (gd c v.length).length with h0 | h0
      . have : gd c v.length = [] := List.eq_nil_of_length_eq_zero h0
        rw [this]; simp
      . rw [Nat.mul_comm (gd c v.length).length] at h2
        exact Nat.le_of_mul_le_mul_right h2 h0
theorem chF_len (x : Ex) (init : List Int) (r : Nat) : (chF x init r).length <= x.ev.length + 1 := by
  unfold chF
  split
  . exact mayTo_len _ _ _ _
  . simp
theorem choicesR_all {x : Ex} {init : List Int} : ∀ l ∈ choicesR x init, l.length <= x.ev.length + 1 := by
  intro l hl
  obtain ⟨r, _, rfl⟩ := List.mem_map.1 hl
  exact chF_len x init r
theorem source_All {x : Ex} (hx : x.ev.length <= 32) {init : List Int} (hi : init.length <= 1000000) : Fun Tryz.prog 31 [enc x, enc init] (.t (enc (sourceR x init))) := by
  refine Fun.go (b := false) Tryz.func31 rfl rfl (by kernel_rfl) (by kernel_rfl) ?_
  have hcl : (choicesR x init).length = x.ev.length := choicesTo_len _ _ _
  have hca := choicesR_all (x := x) (init := init)
  simp -implicitDefEqProofs (disch := first | exact dsch | fail) only [go_sem, ↓reduceIte, Nat.reduceEqDiff]
  unfold sourceR
  generalize choicesR x init = c at hcl hca ⊢
  refine loop_k (n := c.length) [5, 14, 15] (by kernel_rfl) (fun i e H => e 16 = .t (.int .i64 i) /\ e 6 = .t (.int .i64 (prodTo c i)) /\ prodTo c i <= 20000 /\ ((List.range i).any fun i => decide (20000 < prodTo c (i + 1))) = false /\ H = [⟨[.t (enc x)], 7, false⟩, ⟨[.t (enc c)], 1, false⟩]) ?_ ?_
  . rintro i e H hil hk ⟨hc, h6, hp, hany, rfl⟩
    simp only [keepP, go_sem, ↓reduceIte, Nat.reduceEqDiff, and_true] at hk
    by_cases hlt : i < c.length
    . have hgl := hca _ (gd_mem hlt)
      have hpm : prodTo c i * (gd c i).length <= 20000 * 33 := Nat.mul_le_mul hp (by omega)
      have hpe : (prodTo c i : Int) * (gd c i).length = (prodTo c (i + 1) : Int) := by rw [prodTo]; exact_mod_cast rfl
      have hpm' : prodTo c (i + 1) <= 20000 * 33 := hpm
      by_cases hbig : 20000 < prodTo c (i + 1)
      . have : ((List.range c.length).any fun i => decide (20000 < prodTo c (i + 1))) = true := List.any_eq_true.2 ⟨i, List.mem_range.2 hlt, by simpa using hbig⟩
        rw [if_pos (.inl this)]
        simp -implicitDefEqProofs (disch := first | exact dsch | fail) only [go_sem, ↓reduceIte, Nat.reduceEqDiff, hk, hc, h6, hpe]
        first | done | rfl
      . simp -implicitDefEqProofs (disch := first | exact dsch | fail) only [go_sem, ↓reduceIte, Nat.reduceEqDiff, hk, hc, h6, hpe]
        refine ⟨hlt, by omega, ?_⟩
        rw [List.range_succ, List.any_append, hany]; simpa using hbig
    . obtain rfl : i = c.length := by omega
      rw [hany]
      by_cases h0 : prodTo c c.length = 0
      . rw [if_pos (.inr h0)]
        simp -implicitDefEqProofs (disch := first | exact dsch | fail) only [go_sem, ↓reduceIte, Nat.reduceEqDiff, hk, hc, h6, h0]
        first | done | rfl
      . rw [if_neg (by rintro (h | h); cases h; exact h0 h)]
        simp -implicitDefEqProofs (disch := first | exact dsch | fail) only [go_sem, ↓reduceIte, Nat.reduceEqDiff, hk, hc, h6]
        have hcd := tellS_card (c := c) (c.length + 1) [] (by simp)
        rw [List.length_nil, prodTo, Nat.mul_one] at hcd
        refine F_of (tellS_ok (o0 := ⟨[.t (enc x)], 7, false⟩) (c := c) (by omega) (fun l hl => by have := hca l hl; omega) (c.length + 1) (out := []) (v := []) ⟨.ex [], [], rfl, .inl ⟨rfl, rfl⟩⟩ (.inl ⟨rfl, rfl⟩) (by simp) (by simp) (by simp; omega)) (toTs_none (v := .ptr 1 1 0 0) (by simp) (toT_ptr)) (by rintro _ _ ⟨rfl, _⟩; rfl) ?_
        rintro _ H' ⟨rfl, hT', _⟩
        rw [List.nil_append] at hT'
        obtain ⟨ov, R, rfl, ho⟩ := hT'
        rcases ho with ⟨ho, rfl⟩ | ⟨n, A, B, l1, rfl, rfl⟩
        . rw [ho]
          simp -implicitDefEqProofs (disch := first | exact dsch | fail) only [go_sem, ↓reduceIte, Nat.reduceEqDiff]
          first | done | rfl
        . simp -implicitDefEqProofs (disch := first | exact dsch | fail) only [go_sem, ↓reduceIte, Nat.reduceEqDiff, gx0, gxk, l1]
  . simp -implicitDefEqProofs (disch := first | exact dsch | fail) only [go_sem, ↓reduceIte, Nat.reduceEqDiff]
    exact ⟨rfl, by simp [prodTo], rfl⟩
@[go_sem] theorem pu_SrcAll {x : Ex} (hx : x.ev.length <= 32) {init : List Int} (hi : init.length <= 1000000) {K : Kp} : @Pu _ Tryz.prog 31 [enc x, enc init] K = K.k (.t (enc (sourceR x init))) := (source_All hx hi).pu
end Go.Sim
