/- A part of the proof of a law of module cupola: Flow. It has no conditions of its own. -/
import Derived.Test.YtoaboplnnhifpaaGreatTest
set_option linter.all false
namespace Go.Sim
open Enc (enc)
open Go.Proofs

structure Tr where
  ev : List Ev
  addr : List U32
  data : List U32
  ctrl : List U32
  pair : List Int
  regs : Fl
  vals : Int
  lucks : Int
  more : Int
instance : Enc Tr := ⟨fun t => .agg [enc t.ev, enc t.addr, enc t.data, enc t.ctrl, enc t.pair, .int .i64 t.regs.v0, .int .i64 t.regs.v1, .int .i64 t.regs.v2, .int .i64 t.regs.v3, .int .u32 (t.regs.d0.toNat : Int), .int .u32 (t.regs.d1.toNat : Int), .int .u32 (t.regs.d2.toNat : Int), .int .u32 (t.regs.d3.toNat : Int), .int .i64 t.vals, .int .i64 t.lucks, .int .i64 t.more],
  ⟨[], [], [], [], [], ⟨0, 0, 0, 0, 0#32, 0#32, 0#32, 0#32⟩, 0, 0, 0⟩, 16, by decide, fun _ => rfl⟩
@[go_sem] theorem cells_Tr (t : Tr) : (V.t (enc t)).cells = [.t (enc t.ev), .t (enc t.addr), .t (enc t.data), .t (enc t.ctrl), .t (enc t.pair), .t (.int .i64 t.regs.v0), .t (.int .i64 t.regs.v1), .t (.int .i64 t.regs.v2), .t (.int .i64 t.regs.v3), .t (.int .u32 (t.regs.d0.toNat : Int)), .t (.int .u32 (t.regs.d1.toNat : Int)), .t (.int .u32 (t.regs.d2.toNat : Int)), .t (.int .u32 (t.regs.d3.toNat : Int)), .t (.int .i64 t.vals), .t (.int .i64 t.lucks), .t (.int .i64 t.more)] := rfl
@[go_sem] theorem stor_Tr (e : Tr) : (V.t (enc e)).storable = true := rfl
@[go_sem] theorem isAgg_Tr (e : Tr) : (V.t (enc e)).isAgg = true := rfl
@[go_sem] theorem rd_Tr (e : Tr) : rdV (.t (enc e)) 16 0 true 16 = some (.t (enc e)) := rfl
@[go_sem] theorem fits_Tr (e : Tr) : fits 16 (.t (enc e)) = true := rfl
@[go_sem] theorem cellsT_Tr (e : Tr) : (enc e : T).cells.length = 16 := rfl
@[go_sem] theorem noSl_Tr (e : Tr) : noSl (.t (enc e)) = false := rfl
@[go_sem] theorem sz_Tr : Enc.sz Tr = 16 := rfl
@[go_sem] theorem fitsl_Tr (l : List Tr) : (vs l).all (fits 16) = true := by
  rw [List.all_eq_true]; intro v hv; obtain ⟨p, _, rfl⟩ := List.mem_map.1 hv; rfl
@[go_sem] theorem ix_Tr {H : Heap} {e : Nat} {l : List Tr} {i : Int} (h0 : 0 ≤ i) (h1 : i < l.length) : indexV H (.sl e) 16 (.t (enc l)) i = some (.tp (l.map enc) i.toNat 0) := ix_enc rfl h0 h1
@[go_sem] theorem load_Tr {H : Heap} {l : List Tr} {i off sz : Nat} {a : Bool} (h1 : i < l.length) : loadV H (some (a, sz)) (.tp (l.map enc) i off) = (rdV (.t (enc (gd l i))) 16 off a sz).bind fun u => some ⟨u, H, .none⟩ := load_tpc h1

@[go_sem] theorem fits_Ev (e : Ev) : fits 7 (.t (enc e)) = true := rfl
@[go_sem] theorem cellsT_Ev (e : Ev) : (enc e : T).cells.length = 7 := rfl
@[go_sem] theorem noSl_Ev (e : Ev) : noSl (.t (enc e)) = false := rfl
@[go_sem] theorem noSl1_Ev (e : Ev) : noSl1 (.t (enc e)) = false := rfl
@[go_sem] theorem sz_Ev : Enc.sz Ev = 7 := rfl
@[go_sem] theorem fitsl_Ev (l : List Ev) : (vs l).all (fits 7) = true := by
  rw [List.all_eq_true]; intro v hv; obtain ⟨p, _, rfl⟩ := List.mem_map.1 hv; rfl
@[go_sem] theorem ixex_Ev {H : Heap} {e : Nat} {l : List Ev} {i : Int} (h0 : 0 ≤ i) (h1 : i < l.length) : indexV H (.sl e) 7 (.ex (l.map enc)) i = some (.tp (l.map enc) i.toNat 0) := ix_enc (H := H) (e := e) (l := l) rfl h0 h1
@[go_sem] theorem load1_Ev {H : Heap} {id i off sz : Nat} {a : Bool} {l : List Ev} {st : Bool} (hi : i < l.length) : load1 H id ⟨vs l, 7, st⟩ i off a sz = (rdV (.t (enc (gd l i))) 7 off a sz).bind fun u => some ⟨u, H, .load id⟩ := load1_vsc hi
@[go_sem] theorem eta_Ev (e : Ev) : (⟨e.thread, e.kind, e.loc, e.val, e.acq, e.rel, e.excl⟩ : Ev) = e := rfl
@[go_sem] theorem agg_Ev {a b c d : Int} {p q r : Bool} : T.agg [.int .i64 a, .int .i64 b, .int .i64 c, .int .i64 d, .bool p, .bool q, .bool r] = enc (⟨a, b, c, d, p, q, r⟩ : Ev) := rfl

structure Rn where
  t : Tr
  locs : Int
  vals : List Int
  lucks : List Bool
  ctrl : U32
  last : Int
  skip : Int

def mayTh (th : List In) (locs : Int) : Bool := !((List.range th.length).any (fun k => !mayI (gd th k) (th.length - 1 - k) locs)) && (decide ((th.length : Int) ≤ 8) && (decide (1 ≤ locs) && decide (locs ≤ 3)))
theorem flow_may (th : List In) (locs : Int) (hl : th.length ≤ 1000000) (hl2 : locs ≤ 1000000) : Fun Tryz.prog 234 [enc th, .int .i64 locs] (.t (.bool (mayTh th locs))) := by
  refine Fun.go (b := false) Tryz.func234 rfl rfl (by kernel_rfl) (by kernel_rfl) ?_
  simp -implicitDefEqProofs (disch := first | exact dsch | fail) only [go_sem, ↓reduceIte, Nat.reduceEqDiff]
  refine loop_k (n := th.length) [0, 1, 7, 8] (by kernel_rfl) (fun i e H => e 9 = .t (.int .i64 i) ∧ (∀ k, k < i → mayI (gd th k) (th.length - 1 - k) locs = true) ∧ ∃ R : Heap, H = R) ?_ ?_
  · rintro i e H hi hk ⟨hc, hm, R, rfl⟩
    simp only [keepP, go_sem, ↓reduceIte, Nat.reduceEqDiff, and_true] at hk
    by_cases hlt : i < th.length
    · cases hv : mayI (gd th i) (th.length - 1 - i) locs
      · simp -implicitDefEqProofs (disch := first | exact dsch | fail) only [go_sem, ↓reduceIte, Nat.reduceEqDiff, hk, hc, hv]
        have : mayTh th locs = false := by
          unfold mayTh
          rw [List.any_eq_true.2 ⟨i, List.mem_range.2 hlt, by simp [hv]⟩]; rfl
        rw [this]
      · simp -implicitDefEqProofs (disch := first | exact dsch | fail) only [go_sem, ↓reduceIte, Nat.reduceEqDiff, hk, hc, hv]
        refine ⟨hlt, fun k hk3 => ?_, _, rfl⟩
        by_cases e : k = i
        · subst e; exact hv
        · exact hm k (by omega)
    · obtain rfl : i = th.length := by omega
      have hz : (List.range th.length).any (fun k => !mayI (gd th k) (th.length - 1 - k) locs) = false := by
        rw [Bool.eq_false_iff]; intro hh
        obtain ⟨k, hk, h2⟩ := List.any_eq_true.1 hh
        rw [hm k (List.mem_range.1 hk)] at h2; simp at h2
      unfold mayTh
      rw [hz]
      by_cases c1 : (th.length : Int) ≤ 8 <;> by_cases c2 : 1 ≤ locs <;> by_cases c3 : locs ≤ 3 <;> first | (exfalso; omega) | simp -implicitDefEqProofs (disch := first | exact dsch | fail) only [go_sem, ↓reduceIte, Nat.reduceEqDiff, hk, hc, c1, c2, c3, Bool.not_false, Bool.false_and, Bool.and_false]
  · simp -implicitDefEqProofs (disch := first | exact dsch | fail) only [go_sem, ↓reduceIte, Nat.reduceEqDiff]
    exact ⟨fun k hk => absurd hk (by omega), _, rfl⟩
@[go_sem] theorem pu_fmay {th : List In} {locs : Int} (hl : th.length ≤ 1000000) (hl2 : locs ≤ 1000000) {K : Kp} : @Pu _ Tryz.prog 234 [enc th, .int .i64 locs] K = K.k (.t (.bool (mayTh th locs))) := (flow_may th locs hl hl2).pu

def zeroTr : Tr := ⟨[], [], [], [], [], ⟨0, 0, 0, 0, 0#32, 0#32, 0#32, 0#32⟩, 0, 0, 0⟩
def retO : Obj := ⟨[.agg [.ex [], .ex [], .ex [], .ex [], .ex [], .t (.int .i64 0), .t (.int .i64 0), .t (.int .i64 0), .t (.int .i64 0), .t (.int .u32 0), .t (.int .u32 0), .t (.int .u32 0), .t (.int .u32 0), .t (.int .i64 0), .t (.int .i64 0), .t (.int .i64 0)]], 16, false⟩
def rnO (c0 c1 c2 c3 c4 : V) (r : Rn) : Obj := ⟨[.agg [c0, c1, c2, c3, c4, .t (.int .i64 r.t.regs.v0), .t (.int .i64 r.t.regs.v1), .t (.int .i64 r.t.regs.v2), .t (.int .i64 r.t.regs.v3), .t (.int .u32 (r.t.regs.d0.toNat : Int)), .t (.int .u32 (r.t.regs.d1.toNat : Int)), .t (.int .u32 (r.t.regs.d2.toNat : Int)), .t (.int .u32 (r.t.regs.d3.toNat : Int)), .t (.int .i64 r.t.vals), .t (.int .i64 r.t.lucks), .t (.int .i64 r.t.more),
  .t (.int .i64 r.locs), .t (enc r.vals), .t (enc r.lucks), .t (.int .u32 (r.ctrl.toNat : Int)), .t (.int .i64 r.last), .t (.int .i64 r.skip)]], 22, false⟩
def RunAt (H : Heap) (r : Rn) : Prop :=
  (r.t.ev = [] ∧ r.t.addr = [] ∧ r.t.data = [] ∧ r.t.ctrl = [] ∧ r.t.pair = [] ∧ ∃ R, H = retO :: rnO (.ex []) (.ex []) (.ex []) (.ex []) (.ex []) r :: R) ∨
  ∃ n, r.t.ev.length = n + 1 ∧ r.t.addr.length = n + 1 ∧ r.t.data.length = n + 1 ∧ r.t.ctrl.length = n + 1 ∧ r.t.pair.length = n + 1 ∧ ∃ A B, H = retO :: rnO (.ref (A.length + 1 + 1) (n + 1)) (.ref (A.length + 1 + 1 + 1) (n + 1)) (.ref (A.length + 2 + 1 + 1) (n + 1)) (.ref (A.length + 3 + 1 + 1) (n + 1)) (.ref (A.length + 4 + 1 + 1) (n + 1)) r :: (A ++ ⟨vs r.t.ev, 7, false⟩ :: ⟨vs r.t.addr, 1, false⟩ :: ⟨vs r.t.data, 1, false⟩ :: ⟨vs r.t.ctrl, 1, false⟩ :: ⟨vs r.t.pair, 1, false⟩ :: B)

def boxI (x : In) : Obj := ⟨[.t (enc x)], 6, false⟩
def KeepI (H H' : Heap) : Prop := ∀ (id : Nat) (x : In), H[id]? = some (boxI x) → H'[id]? = some (boxI x)
theorem KeepI.cons {o o' : Obj} {R R' : Heap} (h : o.esz ≠ 6) (k : KeepI R R') : KeepI (o :: R) (o' :: R') := by
  intro id x e
  cases id with
  | zero => simp at e; subst e; exact absurd rfl h
  | succ id => simpa using k id x (by simpa using e)
theorem KeepI.ext (R X : Heap) : KeepI R (R ++ X) := by
  intro id x e
  have : id < R.length := by
    rcases Nat.lt_or_ge id R.length with h | h
    · exact h
    · rw [List.getElem?_eq_none h] at e; cases e
  rw [List.getElem?_append_left this]; exact e
theorem KeepI.pre (A : Heap) {l l' : Heap} (k : KeepI l l') : KeepI (A ++ l) (A ++ l') := by
  intro id x e
  rcases Nat.lt_or_ge id A.length with h | h
  · rw [List.getElem?_append_left h] at e ⊢; exact e
  · rw [List.getElem?_append_right h] at e ⊢; exact k _ x e
theorem KeepI.trans {H H' H2 : Heap} (h : KeepI H H') (k : KeepI H' H2) : KeepI H H2 := fun id x e => k id x (h id x e)
theorem KeepI.refl (H : Heap) : KeepI H H := fun _ _ e => e

def Rn.event (r : Rn) (e : Ev) (a d : U32) (p : Int) : Rn := { r with t := { r.t with ev := r.t.ev ++ [e], addr := r.t.addr ++ [a], data := r.t.data ++ [d], ctrl := r.t.ctrl ++ [r.ctrl], pair := r.t.pair ++ [p] } }

set_option maxRecDepth 100000 in
theorem flow_event {H : Heap} {r : Rn} (hR : RunAt H r) (hn : r.t.ev.length ≤ 1000) (e : Ev) (a d : U32) (p : Int) :
    ∃ u H', FunH Tryz.prog 315 [.ptr 1 1 0 0, .t (enc e), .t (enc a), .t (enc d), .t (.int .i64 p)] H u H' ∧ u = .tup [] ∧ RunAt H' (r.event e a d p) ∧ KeepI H H' := by
  refine FunH.goX Tryz.func315 rfl rfl (by kernel_rfl) ?_
  rcases hR with ⟨h0, h1, h2, h3, h4, R, rfl⟩ | ⟨n, h0, h1, h2, h3, h4, A, B, rfl⟩
  · simp -implicitDefEqProofs (disch := first | exact dsch | fail) only [go_sem, ↓reduceIte, Nat.reduceEqDiff, rnO, gx0, gxk, sx0, sxk, List.append_assoc]
    refine ⟨rfl, ?_, .cons (by decide) (.cons (by simp) (.ext _ _))⟩
    refine .inr ⟨0, by simp [Rn.event, h0], by simp [Rn.event, h1], by simp [Rn.event, h2], by simp [Rn.event, h3], by simp [Rn.event, h4], R ++ [⟨[.t (enc e)], 7, false⟩], [], ?_⟩
    simp [rnO, Rn.event, h0, h1, h2, h3, h4, vs, Nat.add_assoc, enc_u32, enc_int]
  · simp -implicitDefEqProofs (disch := first | exact dsch | fail) only [go_sem, ↓reduceIte, Nat.reduceEqDiff, rnO, gx0, gxk, sx0, sxk, List.append_assoc]
    refine ⟨rfl, ?_, .cons (by decide) (.cons (by simp) (.pre _ (.cons (by simp) (.cons (by simp) (.cons (by simp) (.cons (by simp) (.cons (by simp) (.ext _ _))))))))⟩
    exact .inr ⟨n + 1, by simp [Rn.event, h0], by simp [Rn.event, h1], by simp [Rn.event, h2], by simp [Rn.event, h3], by simp [Rn.event, h4], A, B ++ [⟨[.t (enc e)], 7, false⟩], rfl⟩

structure Rn.ok (r : Rn) (n : Nat) : Prop where
  l1 : 1 ≤ r.locs
  l3 : r.locs ≤ 3
  v0 : 0 ≤ r.t.vals
  v1 : r.t.vals ≤ r.vals.length
  k0 : 0 ≤ r.t.lucks
  k1 : r.t.lucks ≤ r.lucks.length
  p0 : -1 ≤ r.last
  p1 : r.last < r.t.ev.length
  len : r.t.ev.length ≤ n
  n1 : n ≤ 1000
  vl : r.vals.length ≤ 1000000
  kl : r.lucks.length ≤ 1000000
  s0 : 0 ≤ r.skip
  s1 : r.skip ≤ 1000

def Rn.setRegs (r : Rn) (f : Fl) : Rn := { r with t := { r.t with regs := f } }
def Rn.loaded (r : Rn) (x : In) (v : Int) (at_ : Nat) : Rn := (if x.op = 9 then { r with last := at_ } else r).setRegs (r.t.regs.put x.d v (1#32 <<< at_))
def Rn.load (r : Rn) (x : In) : Rn :=
  if r.t.vals = r.vals.length then { r with t := { r.t with more := 1 } } else
    (({ r with t := { r.t with vals := r.t.vals + 1 } } : Rn).event ⟨0, 1, placeL r.t.regs x r.locs, gd r.vals r.t.vals.toNat, decide (x.op = 7), false, decide (x.op = 9)⟩ (placeD r.t.regs x) 0#32 (-1)).loaded x (gd r.vals r.t.vals.toNat) r.t.ev.length

set_option maxRecDepth 100000 in
theorem flow_load {H : Heap} {r : Rn} {n : Nat} (hR : RunAt H r) (ho : r.ok n) (x : In) :
    ∃ u H', FunH Tryz.prog 268 [.ptr 1 1 0 0, .t (enc x)] H u H' ∧ u = .tup [] ∧ RunAt H' (r.load x) := by
  have := ho.l1; have := ho.l3; have := ho.v0; have := ho.v1; have := ho.len; have := ho.n1
  refine FunH.goX Tryz.func268 rfl rfl (by kernel_rfl) ?_
  unfold Rn.load
  by_cases hv : r.t.vals = r.vals.length
  · rw [if_pos hv]
    rcases hR with ⟨h0, h1, h2, h3, h4, R, rfl⟩ | ⟨n, h0, h1, h2, h3, h4, A, B, rfl⟩
    · simp -implicitDefEqProofs (disch := first | exact dsch | fail) only [go_sem, ↓reduceIte, Nat.reduceEqDiff, rnO, gx0, gxk, sx0, sxk, List.append_assoc, hv]
      exact ⟨rfl, .inl ⟨h0, h1, h2, h3, h4, _, by rw [← hv]; rfl⟩⟩
    · simp -implicitDefEqProofs (disch := first | exact dsch | fail) only [go_sem, ↓reduceIte, Nat.reduceEqDiff, rnO, gx0, gxk, sx0, sxk, List.append_assoc, hv]
      exact ⟨rfl, .inr ⟨n, h0, h1, h2, h3, h4, A, _, by rw [← hv]; rfl⟩⟩
  rw [if_neg hv]
  have := ho.vl
  obtain ⟨r1, hr1⟩ : ∃ r1, r1 = ({ r with t := { r.t with vals := r.t.vals + 1 } } : Rn).event ⟨0, 1, placeL r.t.regs x r.locs, gd r.vals r.t.vals.toNat, decide (x.op = 7), false, decide (x.op = 9)⟩ (placeD r.t.regs x) 0#32 (-1) := ⟨_, rfl⟩
  rw [← hr1]
  rcases hR with ⟨h0, h1, h2, h3, h4, R, rfl⟩ | ⟨n, h0, h1, h2, h3, h4, A0, B0, rfl⟩
  · have e0 : r.t.ev.length = 0 := by rw [h0]; rfl
    simp -implicitDefEqProofs (disch := first | exact dsch | fail) only [go_sem, ↓reduceIte, Nat.reduceEqDiff, rnO, gx0, gxk, sx0, sxk, List.append_assoc, hv]
    refine F_of (flow_event (r := { r with t := { r.t with vals := r.t.vals + 1 } }) (.inl ⟨h0, h1, h2, h3, h4, _, rfl⟩) (by simp [h0]) _ _ _ _) rfl (by rintro _ _ ⟨rfl, _⟩; rfl) ?_
    rintro _ H' ⟨rfl, hR2, hK⟩
    have hb := hK (R.length + 1 + 1) x (by simp [boxI])
    rcases hR2 with ⟨g0, _⟩ | ⟨m, g0, g1, g2, g3, g4, A, B, hH⟩
    · simp [Rn.event] at g0
    rw [← hr1] at g0 g1 g2 g3 g4 hH
    subst hH
    simp only [List.getElem?_cons_succ] at hb
    rw [e0]
    unfold Rn.loaded
    by_cases h9 : x.op = 9
    · rw [if_pos h9]
      simp -implicitDefEqProofs (disch := first | exact dsch | fail) only [go_sem, ↓reduceIte, Nat.reduceEqDiff, rnO, gx0, gxk, sx0, sxk, List.append_assoc, hb, boxI, h9]
      exact ⟨rfl, .inr ⟨m, g0, g1, g2, g3, g4, A, B, rfl⟩⟩
    · rw [if_neg h9]
      simp -implicitDefEqProofs (disch := first | exact dsch | fail) only [go_sem, ↓reduceIte, Nat.reduceEqDiff, rnO, gx0, gxk, sx0, sxk, List.append_assoc, hb, boxI, h9]
      exact ⟨rfl, .inr ⟨m, g0, g1, g2, g3, g4, A, B, rfl⟩⟩
  · simp -implicitDefEqProofs (disch := first | exact dsch | fail) only [go_sem, ↓reduceIte, Nat.reduceEqDiff, rnO, gx0, gxk, sx0, sxk, List.append_assoc, hv]
    refine F_of (flow_event (r := { r with t := { r.t with vals := r.t.vals + 1 } }) (.inr ⟨n, h0, h1, h2, h3, h4, A0, _, rfl⟩) (by simp; omega) _ _ _ _) rfl (by rintro _ _ ⟨rfl, _⟩; rfl) ?_
    have e0 := h0
    rintro _ H' ⟨rfl, hR2, hK⟩
    have hb := hK (A0.length + (B0.length + 1 + 1 + 1 + 1 + 1) + 1 + 1) x (by simp [boxI])
    rcases hR2 with ⟨g0, _⟩ | ⟨m, g0, g1, g2, g3, g4, A, B, hH⟩
    · simp [Rn.event] at g0
    rw [← hr1] at g0 g1 g2 g3 g4 hH
    subst hH
    simp only [List.getElem?_cons_succ] at hb
    rw [e0]
    unfold Rn.loaded
    by_cases h9 : x.op = 9
    · rw [if_pos h9]
      simp -implicitDefEqProofs (disch := first | exact dsch | fail) only [go_sem, ↓reduceIte, Nat.reduceEqDiff, rnO, gx0, gxk, sx0, sxk, List.append_assoc, hb, boxI, h9]
      exact ⟨rfl, .inr ⟨m, g0, g1, g2, g3, g4, A, B, rfl⟩⟩
    · rw [if_neg h9]
      simp -implicitDefEqProofs (disch := first | exact dsch | fail) only [go_sem, ↓reduceIte, Nat.reduceEqDiff, rnO, gx0, gxk, sx0, sxk, List.append_assoc, hb, boxI, h9]
      exact ⟨rfl, .inr ⟨m, g0, g1, g2, g3, g4, A, B, rfl⟩⟩

def Rn.store (r : Rn) (x : In) (pair : Int) : Rn := r.event ⟨0, 2, placeL r.t.regs x r.locs, r.t.regs.gv x.b, false, decide (x.op = 8), decide (0 ≤ pair)⟩ (placeD r.t.regs x) (r.t.regs.gp x.b) pair
set_option maxRecDepth 100000 in
theorem flow_store {H : Heap} {r : Rn} {n : Nat} (hR : RunAt H r) (ho : r.ok n) (x : In) (pair : Int) :
    ∃ u H', FunH Tryz.prog 317 [.ptr 1 1 0 0, .t (enc x), .t (.int .i64 pair)] H u H' ∧ u = .tup [] ∧ RunAt H' (r.store x pair) ∧ KeepI H H' := by
  have := ho.l1; have := ho.l3; have := ho.len; have := ho.n1
  refine FunH.goX Tryz.func317 rfl rfl (by kernel_rfl) ?_
  rcases hR with ⟨h0, h1, h2, h3, h4, R, rfl⟩ | ⟨n, h0, h1, h2, h3, h4, A0, B0, rfl⟩
  · simp -implicitDefEqProofs (disch := first | exact dsch | fail) only [go_sem, ↓reduceIte, Nat.reduceEqDiff, rnO, gx0, gxk, sx0, sxk, List.append_assoc]
    refine F_of (flow_event (r := r) (.inl ⟨h0, h1, h2, h3, h4, _, rfl⟩) (by simp [h0]) _ _ _ _) rfl (by rintro _ _ ⟨rfl, _⟩; rfl) ?_
    rintro _ H' ⟨rfl, hR2, hK⟩
    simp -implicitDefEqProofs (disch := first | exact dsch | fail) only [go_sem, ↓reduceIte, Nat.reduceEqDiff]
    exact ⟨rfl, hR2, KeepI.trans (.cons (by decide) (.cons (by simp [rnO]) (.ext _ _))) hK⟩
  · simp -implicitDefEqProofs (disch := first | exact dsch | fail) only [go_sem, ↓reduceIte, Nat.reduceEqDiff, rnO, gx0, gxk, sx0, sxk, List.append_assoc]
    refine F_of (flow_event (r := r) (.inr ⟨n, h0, h1, h2, h3, h4, A0, _, rfl⟩) (by omega) _ _ _ _) rfl (by rintro _ _ ⟨rfl, _⟩; rfl) ?_
    rintro _ H' ⟨rfl, hR2, hK⟩
    simp -implicitDefEqProofs (disch := first | exact dsch | fail) only [go_sem, ↓reduceIte, Nat.reduceEqDiff]
    exact ⟨rfl, hR2, KeepI.trans (.cons (by decide) (.cons (by simp [rnO]) (.pre _ (.cons (by simp) (.cons (by simp) (.cons (by simp) (.cons (by simp) (.cons (by simp) (.ext _ _)))))))) ) hK⟩

def Rn.plain (r : Rn) (x : In) : Rn := r.store x (-1)
set_option maxRecDepth 100000 in
theorem flow_plain {H : Heap} {r : Rn} {n : Nat} (hR : RunAt H r) (ho : r.ok n) (x : In) :
    ∃ u H', FunH Tryz.prog 270 [.ptr 1 1 0 0, .t (enc x)] H u H' ∧ u = .tup [] ∧ RunAt H' (r.plain x) := by
  refine FunH.goX Tryz.func270 rfl rfl (by kernel_rfl) ?_
  have := ho.len; have := ho.n1
  rcases hR with ⟨h0, h1, h2, h3, h4, R, rfl⟩ | ⟨n, h0, h1, h2, h3, h4, A0, B0, rfl⟩
  · simp -implicitDefEqProofs (disch := first | exact dsch | fail) only [go_sem, ↓reduceIte, Nat.reduceEqDiff, rnO, gx0, gxk, sx0, sxk, List.append_assoc]
    refine F_of (flow_store (r := r) (n := n) (.inl ⟨h0, h1, h2, h3, h4, _, rfl⟩) ho x (-1)) rfl (by rintro _ _ ⟨rfl, _⟩; rfl) ?_
    rintro _ H' ⟨rfl, hR2, hK⟩
    simp -implicitDefEqProofs (disch := first | exact dsch | fail) only [go_sem, ↓reduceIte, Nat.reduceEqDiff]
    exact ⟨rfl, hR2⟩
  · simp -implicitDefEqProofs (disch := first | exact dsch | fail) only [go_sem, ↓reduceIte, Nat.reduceEqDiff, rnO, gx0, gxk, sx0, sxk, List.append_assoc]
    refine F_of (flow_store (r := r) (.inr ⟨n, h0, h1, h2, h3, h4, A0, _, rfl⟩) ho x (-1)) rfl (by rintro _ _ ⟨rfl, _⟩; rfl) ?_
    rintro _ H' ⟨rfl, hR2, hK⟩
    simp -implicitDefEqProofs (disch := first | exact dsch | fail) only [go_sem, ↓reduceIte, Nat.reduceEqDiff]
    exact ⟨rfl, hR2⟩

def fenceK (x : In) : Int := if x.op = 11 then 3 + x.imm else 6
def Rn.fence (r : Rn) (x : In) : Rn := r.event ⟨0, fenceK x, 0, 0, false, false, false⟩ 0#32 0#32 (-1)
set_option maxRecDepth 100000 in
theorem flow_fence {H : Heap} {r : Rn} {n : Nat} (hR : RunAt H r) (ho : r.ok n) (x : In) (hx : x.op = 11 → 0 ≤ x.imm ∧ x.imm ≤ 2) :
    ∃ u H', FunH Tryz.prog 271 [.ptr 1 1 0 0, .t (enc x)] H u H' ∧ u = .tup [] ∧ RunAt H' (r.fence x) := by
  refine FunH.goX Tryz.func271 rfl rfl (by kernel_rfl) ?_
  have := ho.len; have := ho.n1
  unfold Rn.fence fenceK
  by_cases hop : x.op = 11
  · obtain ⟨i0, i1⟩ := hx hop
    rw [if_pos hop]
    rcases hR with ⟨h0, h1, h2, h3, h4, R, rfl⟩ | ⟨n, h0, h1, h2, h3, h4, A0, B0, rfl⟩
    · simp -implicitDefEqProofs (disch := first | exact dsch | fail) only [go_sem, ↓reduceIte, Nat.reduceEqDiff, rnO, gx0, gxk, sx0, sxk, List.append_assoc, hop]
      refine F_of (flow_event (r := r) (.inl ⟨h0, h1, h2, h3, h4, _, rfl⟩) (by simp [h0]) _ _ _ _) rfl (by rintro _ _ ⟨rfl, _⟩; rfl) ?_
      rintro _ H' ⟨rfl, hR2, hK⟩
      simp -implicitDefEqProofs (disch := first | exact dsch | fail) only [go_sem, ↓reduceIte, Nat.reduceEqDiff]
      exact ⟨rfl, hR2⟩
    · simp -implicitDefEqProofs (disch := first | exact dsch | fail) only [go_sem, ↓reduceIte, Nat.reduceEqDiff, rnO, gx0, gxk, sx0, sxk, List.append_assoc, hop]
      refine F_of (flow_event (r := r) (.inr ⟨n, h0, h1, h2, h3, h4, A0, _, rfl⟩) (by omega) _ _ _ _) rfl (by rintro _ _ ⟨rfl, _⟩; rfl) ?_
      rintro _ H' ⟨rfl, hR2, hK⟩
      simp -implicitDefEqProofs (disch := first | exact dsch | fail) only [go_sem, ↓reduceIte, Nat.reduceEqDiff]
      exact ⟨rfl, hR2⟩
  · rw [if_neg hop]
    rcases hR with ⟨h0, h1, h2, h3, h4, R, rfl⟩ | ⟨n, h0, h1, h2, h3, h4, A0, B0, rfl⟩
    · simp -implicitDefEqProofs (disch := first | exact dsch | fail) only [go_sem, ↓reduceIte, Nat.reduceEqDiff, rnO, gx0, gxk, sx0, sxk, List.append_assoc, hop]
      refine F_of (flow_event (r := r) (.inl ⟨h0, h1, h2, h3, h4, _, rfl⟩) (by simp [h0]) _ _ _ _) rfl (by rintro _ _ ⟨rfl, _⟩; rfl) ?_
      rintro _ H' ⟨rfl, hR2, hK⟩
      simp -implicitDefEqProofs (disch := first | exact dsch | fail) only [go_sem, ↓reduceIte, Nat.reduceEqDiff]
      exact ⟨rfl, hR2⟩
    · simp -implicitDefEqProofs (disch := first | exact dsch | fail) only [go_sem, ↓reduceIte, Nat.reduceEqDiff, rnO, gx0, gxk, sx0, sxk, List.append_assoc, hop]
      refine F_of (flow_event (r := r) (.inr ⟨n, h0, h1, h2, h3, h4, A0, _, rfl⟩) (by omega) _ _ _ _) rfl (by rintro _ _ ⟨rfl, _⟩; rfl) ?_
      rintro _ H' ⟨rfl, hR2, hK⟩
      simp -implicitDefEqProofs (disch := first | exact dsch | fail) only [go_sem, ↓reduceIte, Nat.reduceEqDiff]
      exact ⟨rfl, hR2⟩

def Rn.branch (r : Rn) (x : In) : Rn :=
  { r with ctrl := r.ctrl ||| r.t.regs.gp x.a, skip := if decide (r.t.regs.gv x.a = 0) = decide (x.op = 13) then x.imm else r.skip }
set_option maxRecDepth 100000 in
theorem flow_branch {H : Heap} {r : Rn} {n : Nat} (hR : RunAt H r) (ho : r.ok n) (x : In) :
    ∃ u H', FunH Tryz.prog 272 [.ptr 1 1 0 0, .t (enc x)] H u H' ∧ u = .tup [] ∧ RunAt H' (r.branch x) := by
  refine FunH.goX Tryz.func272 rfl rfl (by kernel_rfl) ?_
  by_cases hv : r.t.regs.gv x.a = 0 <;> by_cases hop : x.op = 13
  · have e : r.branch x = { r with ctrl := r.ctrl ||| r.t.regs.gp x.a, skip := x.imm } := by unfold Rn.branch; rw [if_pos (by simp [hv, hop])]
    rw [e]
    rcases hR with ⟨h0, h1, h2, h3, h4, R, rfl⟩ | ⟨n, h0, h1, h2, h3, h4, A0, B0, rfl⟩
    · simp -implicitDefEqProofs (disch := first | exact dsch | fail) only [go_sem, ↓reduceIte, Nat.reduceEqDiff, rnO, gx0, gxk, sx0, sxk, List.append_assoc, hv, hop]
      exact ⟨rfl, .inl ⟨h0, h1, h2, h3, h4, _, rfl⟩⟩
    · simp -implicitDefEqProofs (disch := first | exact dsch | fail) only [go_sem, ↓reduceIte, Nat.reduceEqDiff, rnO, gx0, gxk, sx0, sxk, List.append_assoc, hv, hop]
      exact ⟨rfl, .inr ⟨n, h0, h1, h2, h3, h4, A0, _, rfl⟩⟩
  · have e : r.branch x = { r with ctrl := r.ctrl ||| r.t.regs.gp x.a } := by unfold Rn.branch; rw [if_neg (by simp [hv, hop])]
    rw [e]
    rcases hR with ⟨h0, h1, h2, h3, h4, R, rfl⟩ | ⟨n, h0, h1, h2, h3, h4, A0, B0, rfl⟩
    · simp -implicitDefEqProofs (disch := first | exact dsch | fail) only [go_sem, ↓reduceIte, Nat.reduceEqDiff, rnO, gx0, gxk, sx0, sxk, List.append_assoc, hv, hop]
      exact ⟨rfl, .inl ⟨h0, h1, h2, h3, h4, _, rfl⟩⟩
    · simp -implicitDefEqProofs (disch := first | exact dsch | fail) only [go_sem, ↓reduceIte, Nat.reduceEqDiff, rnO, gx0, gxk, sx0, sxk, List.append_assoc, hv, hop]
      exact ⟨rfl, .inr ⟨n, h0, h1, h2, h3, h4, A0, _, rfl⟩⟩
  · have e : r.branch x = { r with ctrl := r.ctrl ||| r.t.regs.gp x.a } := by unfold Rn.branch; rw [if_neg (by simp [hv, hop])]
    rw [e]
    rcases hR with ⟨h0, h1, h2, h3, h4, R, rfl⟩ | ⟨n, h0, h1, h2, h3, h4, A0, B0, rfl⟩
    · simp -implicitDefEqProofs (disch := first | exact dsch | fail) only [go_sem, ↓reduceIte, Nat.reduceEqDiff, rnO, gx0, gxk, sx0, sxk, List.append_assoc, hv, hop]
      exact ⟨rfl, .inl ⟨h0, h1, h2, h3, h4, _, rfl⟩⟩
    · simp -implicitDefEqProofs (disch := first | exact dsch | fail) only [go_sem, ↓reduceIte, Nat.reduceEqDiff, rnO, gx0, gxk, sx0, sxk, List.append_assoc, hv, hop]
      exact ⟨rfl, .inr ⟨n, h0, h1, h2, h3, h4, A0, _, rfl⟩⟩
  · have e : r.branch x = { r with ctrl := r.ctrl ||| r.t.regs.gp x.a, skip := x.imm } := by unfold Rn.branch; rw [if_pos (by simp [hv, hop])]
    rw [e]
    rcases hR with ⟨h0, h1, h2, h3, h4, R, rfl⟩ | ⟨n, h0, h1, h2, h3, h4, A0, B0, rfl⟩
    · simp -implicitDefEqProofs (disch := first | exact dsch | fail) only [go_sem, ↓reduceIte, Nat.reduceEqDiff, rnO, gx0, gxk, sx0, sxk, List.append_assoc, hv, hop]
      exact ⟨rfl, .inl ⟨h0, h1, h2, h3, h4, _, rfl⟩⟩
    · simp -implicitDefEqProofs (disch := first | exact dsch | fail) only [go_sem, ↓reduceIte, Nat.reduceEqDiff, rnO, gx0, gxk, sx0, sxk, List.append_assoc, hv, hop]
      exact ⟨rfl, .inr ⟨n, h0, h1, h2, h3, h4, A0, _, rfl⟩⟩

def Rn.alone (r : Rn) (x : In) : Rn := r.setRegs (r.t.regs.does x)
set_option maxRecDepth 100000 in
theorem flow_alone {H : Heap} {r : Rn} {n : Nat} (hR : RunAt H r) (ho : r.ok n) (x : In) (hx0 : -9223372036854775808 ≤ x.op) (hx1 : x.op ≤ 9223372036854775807) :
    ∃ u H', FunH Tryz.prog 273 [.ptr 1 1 0 0, .t (enc x)] H u H' ∧ u = .tup [] ∧ RunAt H' (r.alone x) := by
  refine FunH.goX Tryz.func273 rfl rfl (by kernel_rfl) ?_
  rcases hR with ⟨h0, h1, h2, h3, h4, R, rfl⟩ | ⟨n, h0, h1, h2, h3, h4, A0, B0, rfl⟩
  all_goals simp -implicitDefEqProofs (disch := first | exact dsch | fail) only [go_sem, ↓reduceIte, Nat.reduceEqDiff, rnO, gx0, gxk, sx0, sxk, List.append_assoc]
  · exact ⟨rfl, .inl ⟨h0, h1, h2, h3, h4, _, rfl⟩⟩
  · exact ⟨rfl, .inr ⟨n, h0, h1, h2, h3, h4, A0, _, rfl⟩⟩
end Go.Sim
