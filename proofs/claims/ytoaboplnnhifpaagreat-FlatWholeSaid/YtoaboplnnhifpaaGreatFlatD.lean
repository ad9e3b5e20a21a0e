/- Part: FlatD, FlatI, FlatS -/
import Derived.Test.YtoaboplnnhifpaaGreatPureL
set_option linter.all false
namespace Go.Sim
open Enc (enc)
open Go.Proofs
theorem WfE.n32' {n : Int} {x : Ex} (W : WfE n x) : x.ev.length <= 32 := by have := W.n; omega
structure Fs where
  d : U32
  f : List Int
  l : List (List Int)
instance : Enc Fs := ⟨fun e => .agg [.int .u32 (e.d.toNat : Int), enc e.f, enc e.l], ⟨0#32, [], []⟩, 3, by decide, fun _ => rfl⟩
@[go_sem] theorem cells_Fs (e : Fs) : (V.t (enc e)).cells = [.t (.int .u32 (e.d.toNat : Int)), .t (enc e.f), .t (enc e.l)] := rfl
@[go_sem] theorem stor_Fs (e : Fs) : (V.t (enc e)).storable = true := rfl
@[go_sem] theorem isAgg_Fs (e : Fs) : (V.t (enc e)).isAgg = true := rfl
@[go_sem] theorem rd_Fs (e : Fs) : rdV (.t (enc e)) 3 0 true 3 = some (.t (enc e)) := rfl
@[go_sem] theorem fits_Fs (e : Fs) : fits 3 (.t (enc e)) = true := rfl
@[go_sem] theorem cellsT_Fs (e : Fs) : (enc e : T).cells.length = 3 := rfl
@[go_sem] theorem noSl_Fs (e : Fs) : noSl (.t (enc e)) = false := rfl
@[go_sem] theorem noSl1_Fs (e : Fs) : noSl1 (.t (enc e)) = false := rfl
@[go_sem] theorem sz_Fs : Enc.sz Fs = 3 := rfl
@[go_sem] theorem fitsl_Fs (l : List Fs) : (vs l).all (fits 3) = true := by
  rw [List.all_eq_true]; intro v hv; obtain ⟨p, _, rfl⟩ := List.mem_map.1 hv; rfl
@[go_sem] theorem ix_Fs {H : Heap} {e : Nat} {l : List Fs} {i : Int} (h0 : 0 <= i) (h1 : i < l.length) : indexV H (.sl e) 3 (.t (enc l)) i = some (.tp (l.map enc) i.toNat 0) := ix_enc rfl h0 h1
@[go_sem] theorem ixex_Fs {H : Heap} {e : Nat} {l : List Fs} {i : Int} (h0 : 0 <= i) (h1 : i < l.length) : indexV H (.sl e) 3 (.ex (l.map enc)) i = some (.tp (l.map enc) i.toNat 0) := ix_Fs (H := H) (e := e) (l := l) h0 h1
@[go_sem] theorem load_Fs {H : Heap} {l : List Fs} {i off sz : Nat} {a : Bool} (h1 : i < l.length) : loadV H (some (a, sz)) (.tp (l.map enc) i off) = (rdV (.t (enc (gd l i))) 3 off a sz).bind fun u => some ⟨u, H, .none⟩ := load_tpc h1
@[go_sem] theorem load1_Fs {H : Heap} {id i off sz : Nat} {a : Bool} {l : List Fs} {st : Bool} (hi : i < l.length) : load1 H id ⟨vs l, 3, st⟩ i off a sz = (rdV (.t (enc (gd l i))) 3 off a sz).bind fun u => some ⟨u, H, .load id⟩ := load1_vsc hi
@[go_sem] theorem agg_Fs {x0 : U32} {x1 : List Int} {x2 : List (List Int)} : T.agg [.int .u32 (x0.toNat : Int), enc x1, enc x2] = enc (⟨x0, x1, x2⟩ : Fs) := rfl
@[go_sem] theorem eta_Fs (e : Fs) : (⟨e.d, e.f, e.l⟩ : Fs) = e := rfl
structure Mv where
  e : Int
  o : Bool
instance : Enc Mv := ⟨fun e => .agg [.int .i64 e.e, .bool e.o], ⟨0, false⟩, 2, by decide, fun _ => rfl⟩
@[go_sem] theorem cells_Mv (e : Mv) : (V.t (enc e)).cells = [.t (.int .i64 e.e), .t (.bool e.o)] := rfl
@[go_sem] theorem stor_Mv (e : Mv) : (V.t (enc e)).storable = true := rfl
@[go_sem] theorem isAgg_Mv (e : Mv) : (V.t (enc e)).isAgg = true := rfl
@[go_sem] theorem rd_Mv (e : Mv) : rdV (.t (enc e)) 2 0 true 2 = some (.t (enc e)) := rfl
@[go_sem] theorem fits_Mv (e : Mv) : fits 2 (.t (enc e)) = true := rfl
@[go_sem] theorem cellsT_Mv (e : Mv) : (enc e : T).cells.length = 2 := rfl
@[go_sem] theorem noSl_Mv (e : Mv) : noSl (.t (enc e)) = false := rfl
@[go_sem] theorem noSl1_Mv (e : Mv) : noSl1 (.t (enc e)) = false := rfl
@[go_sem] theorem sz_Mv : Enc.sz Mv = 2 := rfl
@[go_sem] theorem fitsl_Mv (l : List Mv) : (vs l).all (fits 2) = true := by
  rw [List.all_eq_true]; intro v hv; obtain ⟨p, _, rfl⟩ := List.mem_map.1 hv; rfl
@[go_sem] theorem ix_Mv {H : Heap} {e : Nat} {l : List Mv} {i : Int} (h0 : 0 <= i) (h1 : i < l.length) : indexV H (.sl e) 2 (.t (enc l)) i = some (.tp (l.map enc) i.toNat 0) := ix_enc rfl h0 h1
@[go_sem] theorem ixex_Mv {H : Heap} {e : Nat} {l : List Mv} {i : Int} (h0 : 0 <= i) (h1 : i < l.length) : indexV H (.sl e) 2 (.ex (l.map enc)) i = some (.tp (l.map enc) i.toNat 0) := ix_Mv (H := H) (e := e) (l := l) h0 h1
@[go_sem] theorem load_Mv {H : Heap} {l : List Mv} {i off sz : Nat} {a : Bool} (h1 : i < l.length) : loadV H (some (a, sz)) (.tp (l.map enc) i off) = (rdV (.t (enc (gd l i))) 2 off a sz).bind fun u => some ⟨u, H, .none⟩ := load_tpc h1
@[go_sem] theorem load1_Mv {H : Heap} {id i off sz : Nat} {a : Bool} {l : List Mv} {st : Bool} (hi : i < l.length) : load1 H id ⟨vs l, 2, st⟩ i off a sz = (rdV (.t (enc (gd l i))) 2 off a sz).bind fun u => some ⟨u, H, .load id⟩ := load1_vsc hi
@[go_sem] theorem agg_Mv {x0 : Int} {x1 : Bool} : T.agg [.int .i64 x0, .bool x1] = enc (⟨x0, x1⟩ : Mv) := rfl
@[go_sem] theorem eta_Mv (e : Mv) : (⟨e.e, e.o⟩ : Mv) = e := rfl
instance : DecidableEq Mv := fun a b => decidable_of_iff (a.e = b.e /\ a.o = b.o) (by cases a; cases b; simp)
def startD (x : Ex) : U32 := maskB x.ev fun y => !decide (y.kind ∈ [(1 : Int), 2])
def startR (x : Ex) (init : List Int) : Fs := ⟨startD x, List.replicate x.ev.length (-2), List.replicate init.length []⟩
def lastL (l : List Int) : Int := if l.length = 0 then -1 else gd l (l.length - 1)
def lastS (s : Fs) (loc : Int) : Int := lastL (gd s.l loc.toNat)
def fitW (x : Ex) (loc : Nat) (w : Int) : Bool := decide (0 <= w) && (decide (w < x.ev.length) && (decide ((gd x.ev w.toNat).kind = 2) && decide ((gd x.ev w.toNat).loc = (loc : Int))))
def fitsB (x : Ex) (init : List Int) (s : Fs) : Bool := decide (s.f.length = x.ev.length) && (decide (s.l.length = init.length) && (List.range s.l.length).all fun loc => (gd s.l loc).all (fitW x loc))
def valueS (x : Ex) (init : List Int) (s : Fs) (loc : Int) : Int := if lastS s loc = -1 then gd init loc.toNat else (gd x.ev (lastS s loc).toNat).val
def readyB (x : Ex) (init : List Int) (s : Fs) (i : Nat) (ah : Rl) : Bool := !s.d.getLsbD i && (decide (0 <= (gd x.ev i).loc) && (decide ((gd x.ev i).loc < init.length) && decide (((pairsR (onlyR ah (~~~s.d) (1#32 <<< i))).length : Int) = 0)))
def waitsB (x : Ex) (s : Fs) (i : Nat) : Bool := decide (0 <= ownZ x i) && !s.d.getLsbD (ownZ x i).toNat
def mayB (x : Ex) (init : List Int) (s : Fs) (i : Nat) (o : Bool) : Bool :=
  if (gd x.ev i).kind = 2 then !o
  else if (gd x.ev i).kind ≠ 1 then false
  else if waitsB x s i ≠ o then false
  else if o = false then decide (valueS x init s (gd x.ev i).loc = (gd x.ev i).val)
  else decide ((gd x.ev (ownZ x i).toNat).val = (gd x.ev i).val) && (decide (needsM x (ownZ x i) &&& ~~~s.d = 0#32) && !shutB x i (ownZ x i))
def canB (x : Ex) (init : List Int) (s : Fs) (i : Nat) (o : Bool) : Bool := readyB x init s i (aheadZ x) && mayB x init s i o
def moves1 (x : Ex) (init : List Int) (s : Fs) (i : Nat) : List Mv := (if canB x init s i false then [⟨i, false⟩] else []) ++ (if canB x init s i true then [⟨i, true⟩] else [])
def movesTo (x : Ex) (init : List Int) (s : Fs) (n : Nat) : List Mv := (List.range n).flatMap (moves1 x init s)
def movesR (x : Ex) (init : List Int) (s : Fs) : List Mv := if fitsB x init s then movesTo x init s x.ev.length else []
def doneR (x : Ex) (s : Fs) (m : Mv) : Fs :=
  ⟨s.d ||| 1#32 <<< m.e.toNat,
   if (gd x.ev m.e.toNat).kind = 2 then s.f else s.f.set m.e.toNat (if m.o then ownZ x m.e else lastS s (gd x.ev m.e.toNat).loc),
   if (gd x.ev m.e.toNat).kind = 2 then s.l.set (gd x.ev m.e.toNat).loc.toNat (gd s.l (gd x.ev m.e.toNat).loc.toNat ++ [m.e]) else s.l⟩
def finalB (x : Ex) (s : Fs) : Bool := (List.range x.ev.length).all fun i => s.d.getLsbD i
def coS (x : Ex) (s : Fs) : Rl := s.l.foldl (fun r l => orR r (ordR x.ev.length l)) (noneR x.ev.length)
noncomputable def holdsB (x : Ex) (s : Fs) : Bool := finalB x s && (internalB x s.f (coS x s) && atomicB x s.f (coS x s))
end Go.Sim
namespace Go.Sim
open Enc (enc)
open Go.Proofs
variable {n : Int} {x : Ex} {init : List Int}
inductive FRun (x : Ex) (init : List Int) : List Nat -> Fs -> Prop
  | start : FRun x init [] (startR x init)
  | step {h : List Nat} {s : Fs} (i : Nat) (o : Bool) (r : FRun x init h s) (hi : i < x.ev.length) (hc : canB x init s i o = true) : FRun x init (h ++ [i]) (doneR x s ⟨i, o⟩)
theorem moves1_mem {s : Fs} {i : Nat} {m : Mv} : m ∈ moves1 x init s i ↔ ∃ o, m = ⟨i, o⟩ /\ canB x init s i o = true := by
  unfold moves1
  rw [List.mem_append]
  constructor
  . rintro (h | h)
    . split at h
      . rename_i hc; rw [List.mem_singleton] at h; exact ⟨false, h, hc⟩
      . cases h
    . split at h
      . rename_i hc; rw [List.mem_singleton] at h; exact ⟨true, h, hc⟩
      . cases h
  . rintro ⟨o, rfl, hc⟩
    cases o
    . left; rw [if_pos hc]; simp
    . right; rw [if_pos hc]; simp
theorem moves_in {s : Fs} {m : Mv} : m ∈ movesR x init s ↔ fitsB x init s = true /\ ∃ i o, m = ⟨(i : Nat), o⟩ /\ i < x.ev.length /\ canB x init s i o = true := by
  unfold movesR movesTo
  split
  . rename_i hf
    rw [List.mem_flatMap]
    constructor
    . rintro ⟨i, hi, h⟩
      obtain ⟨o, rfl, hc⟩ := moves1_mem.1 h
      exact ⟨hf, i, o, rfl, List.mem_range.1 hi, hc⟩
    . rintro ⟨_, i, o, rfl, hi, hc⟩
      exact ⟨i, List.mem_range.2 hi, moves1_mem.2 ⟨o, rfl, hc⟩⟩
  . rename_i hf
    constructor
    . intro h; cases h
    . rintro ⟨h, _⟩; exact absurd h hf
def nats (l : List Nat) : List Int := l.map fun (k : Nat) => (k : Int)
def OwnM (x : Ex) (pre : List Nat) (i : Nat) (w : Int) : Prop := ∃ v : Nat, w = (v : Int) /\ ownZ x i = (v : Int) /\ v ∉ pre /\ (∀ j, (has x.addr j v = true \/ has x.data j v = true) -> j ∈ pre) /\ shutB x i v = false /\ (gd x.ev v).val = (gd x.ev i).val
def MemM (x : Ex) (init : List Int) (pre : List Nat) (i : Nat) (w : Int) : Prop :=
  w = lastL (nats (pre.filter (wrQ x (gd x.ev i).loc))) /\ (w = -1 -> gd init (gd x.ev i).loc.toNat = (gd x.ev i).val) /\ (∀ v : Nat, w = (v : Int) -> (gd x.ev v).val = (gd x.ev i).val) /\ ∀ v : Nat, ownZ x i = (v : Int) -> v ∈ pre
structure FInv (x : Ex) (init : List Int) (h : List Nat) (s : Fs) : Prop where
  lf : s.f.length = x.ev.length
  ll : s.l.length = init.length
  mem : ∀ i ∈ h, i < x.ev.length /\ Mem x i
  nd : h.Nodup
  bits : ∀ i, i < 32 -> (s.d.getLsbD i = true ↔ (i < x.ev.length /\ ¬ Mem x i) \/ i ∈ h)
  rows : ∀ loc, loc < init.length -> gd s.l loc = nats (h.filter (wrQ x loc))
  no : ∀ i, i < x.ev.length -> ¬ ((gd x.ev i).kind = 1 /\ i ∈ h) -> gd s.f i = -2
  rd : ∀ i, (gd x.ev i).kind = 1 -> i ∈ h -> OwnM x (h.take (h.idxOf i)) i (gd s.f i) \/ MemM x init (h.take (h.idxOf i)) i (gd s.f i)
  ah : ∀ i ∈ h, ∀ a, has (aheadZ x) a i = true -> a ∈ h.take (h.idxOf i)
theorem start_inv (W : WfE n x) (hn : n = init.length) : FInv x init [] (startR x init) := by
  have h32 := W.n32'
  refine ⟨by simp [startR], by simp [startR], by simp, List.nodup_nil, fun i hi => ?_, fun loc hl => ?_, fun i hi _ => ?_, fun i _ h => (by cases h), fun i h => (by cases h)⟩
  . unfold startR startD
    simp only
    rw [maskB_get hi]
    simp [Mem]
  . unfold startR; rw [gd_rep hl]; rfl
  . unfold startR; exact gd_rep hi
theorem idx_old {h : List Nat} {e i : Nat} (hi : i ∈ h) : (h ++ [e]).idxOf i = h.idxOf i := by
  rw [List.idxOf_append, if_pos hi]
theorem idx_new {h : List Nat} {e : Nat} (he : e ∉ h) : (h ++ [e]).idxOf e = h.length := by
  rw [List.idxOf_append, if_neg he]; simp
theorem take_old {h : List Nat} {e i : Nat} (hi : i ∈ h) : (h ++ [e]).take ((h ++ [e]).idxOf i) = h.take (h.idxOf i) := by
  rw [idx_old hi, List.take_append_of_le_length (Nat.le_of_lt (List.idxOf_lt_length_of_mem hi))]
theorem take_new {h : List Nat} {e : Nat} (he : e ∉ h) : (h ++ [e]).take ((h ++ [e]).idxOf e) = h := by
  rw [idx_new he, List.take_left]
theorem ready_ah (W : WfE n x) {s : Fs} {i : Nat} {ah : Rl} (hl : ah.length = x.ev.length) (hi : i < x.ev.length) (h : readyB x init s i ah = true) : s.d.getLsbD i = false /\ 0 <= (gd x.ev i).loc /\ (gd x.ev i).loc < init.length /\ ∀ a, has ah a i = true -> s.d.getLsbD a = true := by
  have h32 := W.n32'
  unfold readyB at h
  simp only [Bool.and_eq_true, Bool.not_eq_true', decide_eq_true_eq] at h
  obtain ⟨h1, h2, h3, h4⟩ := h
  refine ⟨h1, h2, h3, fun a ha => ?_⟩
  have hla := has_lt ha
  cases hd : s.d.getLsbD a with
  | true => rfl
  | false =>
    exfalso
    have : ((a : Int), (i : Int)) ∈ pairsR (onlyR ah (~~~s.d) (1#32 <<< i)) := mem_pairsR.2 ⟨a, i, rfl, by
      rw [h_only (by omega), ha, BitVec.getLsbD_not, hd, one_get (by omega)]
      simp; omega⟩
    have := List.length_pos_of_mem this
    omega
theorem own_nat (W : WfE n x) (i : Nat) : ownZ x i = -1 \/ ∃ v : Nat, ownZ x i = (v : Int) /\ v < x.ev.length /\ (gd x.ev v).kind = 2 := by
  rcases own_is W i with h | ⟨w, h1, h2, h3, h4, h5, h6, h7⟩
  . exact .inl h
  . exact .inr ⟨w, h1, by omega, h6⟩
theorem step_inv (W : WfE n x) (hn : n = init.length) {h : List Nat} {s : Fs} (I : FInv x init h s) {i : Nat} {o : Bool} (hi : i < x.ev.length) (hc : canB x init s i o = true) : FInv x init (h ++ [i]) (doneR x s ⟨i, o⟩) /\ i ∉ h := by
  have h32 := W.n32'
  unfold canB at hc
  rw [Bool.and_eq_true] at hc
  obtain ⟨hr, hm⟩ := hc
  obtain ⟨hni, hl0, hl1, hah⟩ := ready_ah W (aheadZ_len x) hi hr
  have hmem : Mem x i := by
    unfold mayB at hm
    split at hm
    . rename_i hk; simp [Mem, hk]
    . split at hm
      . cases hm
      . rename_i hk; have hk := Classical.not_not.1 hk; simp [Mem, hk]
  have hnh : i ∉ h := fun hh => by
    have := (I.bits i (by omega)).2 (.inr hh)
    rw [hni] at this; cases this
  have inh : ∀ a, a < x.ev.length -> Mem x a -> s.d.getLsbD a = true -> a ∈ h := fun a ha hma hd => by
    rcases (I.bits a (by omega)).1 hd with ⟨_, h2⟩ | h2
    . exact absurd hma h2
    . exact h2
  have ahh : ∀ a, has (aheadZ x) a i = true -> a ∈ h := fun a ha => by
    have hl := has_lt ha
    rw [aheadZ_len] at hl
    exact inh a hl.1 (aheadZ_po W _ _ ha).2.1 (hah a ha)
  refine ⟨⟨?_, ?_, ?_, ?_, ?_, ?_, ?_, ?_, ?_⟩, hnh⟩
  . unfold doneR; simp only; split
    . exact I.lf
    . rw [List.length_set]; exact I.lf
  . unfold doneR; simp only; split
    . rw [List.length_set]; exact I.ll
    . exact I.ll
  . intro j hj
    rcases List.mem_append.1 hj with hj | hj
    . exact I.mem j hj
    . rw [List.mem_singleton] at hj; subst hj; exact ⟨hi, hmem⟩
  . exact List.nodup_append.2 ⟨I.nd, by simp, fun a ha b hb e => by rw [List.mem_singleton] at hb; subst hb; subst e; exact hnh ha⟩
  . intro j hj
    unfold doneR
    simp only [Int.toNat_natCast]
    rw [BitVec.getLsbD_or, Bool.or_eq_true, I.bits j hj, one_get hj, decide_eq_true_eq, List.mem_append, List.mem_singleton, or_assoc]
  . intro loc hloc
    rw [List.filter_append]
    unfold doneR
    simp only [Int.toNat_natCast]
    by_cases hk : (gd x.ev i).kind = 2
    . rw [if_pos hk]
      by_cases e : (gd x.ev i).loc.toNat = loc
      . subst e
        rw [gd_set_eq (by rw [I.ll]; omega), I.rows _ hloc]
        have : wrQ x ((gd x.ev i).loc.toNat : Nat) i = true := by
          unfold wrQ
          simp only [Bool.and_eq_true, decide_eq_true_eq]
          exact ⟨hk, by omega⟩
        rw [List.filter_cons, if_pos this]
        simp [nats]
      . rw [gd_set_ne e, I.rows _ hloc]
        have : wrQ x (loc : Int) i = false := by
          unfold wrQ
          simp only [Bool.and_eq_false_iff, decide_eq_false_iff_not]
          right; omega
        simp [List.filter_cons, this]
    . rw [if_neg hk, I.rows _ hloc]
      have : wrQ x (loc : Int) i = false := by unfold wrQ; simp [hk]
      simp [List.filter_cons, this]
  . intro j hj hnj
    unfold doneR
    simp only [Int.toNat_natCast]
    have hold : ¬ ((gd x.ev j).kind = 1 /\ j ∈ h) := fun hh => hnj ⟨hh.1, List.mem_append.2 (.inl hh.2)⟩
    by_cases hk : (gd x.ev i).kind = 2
    . rw [if_pos hk]; exact I.no j hj hold
    . rw [if_neg hk]
      have hk1 : (gd x.ev i).kind = 1 := by simp only [Mem, List.mem_cons, List.not_mem_nil, or_false] at hmem; omega
      have : i ≠ j := fun e => hnj ⟨by rw [← e]; exact hk1, List.mem_append.2 (.inr (by simp [e]))⟩
      rw [gd_set_ne this]; exact I.no j hj hold
  . intro j hkj hj
    unfold doneR
    simp only [Int.toNat_natCast]
    rcases List.mem_append.1 hj with hj | hj
    . have hne : i ≠ j := fun e => hnh (e ▸ hj)
      rw [take_old hj]
      have hf : gd (if (gd x.ev i).kind = 2 then s.f else s.f.set i (if o then ownZ x i else lastS s (gd x.ev i).loc)) j = gd s.f j := by
        split
        . rfl
        . rw [gd_set_ne hne]
      rw [hf]
      exact I.rd j hkj hj
    . rw [List.mem_singleton] at hj
      subst hj
      rw [take_new hnh]
      have hk2 : ¬ (gd x.ev j).kind = 2 := by omega
      rw [if_neg hk2, gd_set_eq (by rw [I.lf]; exact hi)]
      unfold mayB at hm
      rw [if_neg hk2, if_neg (by omega)] at hm
      split at hm
      . cases hm
      . rename_i hw
        have hw := Classical.not_not.1 hw
        cases o with
        | true =>
          left
          rw [if_neg (by simp)] at hm
          simp only [Bool.and_eq_true, decide_eq_true_eq, Bool.not_eq_true'] at hm
          unfold waitsB at hw
          simp only [Bool.and_eq_true, decide_eq_true_eq, Bool.not_eq_true'] at hw
          rcases own_nat W j with e | ⟨v, e, hv, kv⟩
          . omega
          . rw [e, Int.toNat_natCast] at hm hw
            refine ⟨v, by simp [e], e, fun hh => ?_, fun a ha => ?_, hm.2.2, hm.1⟩
            . have := (I.bits v (by omega)).2 (.inr hh)
              rw [hw.2] at this; cases this
            . have hb := (needs_bit W hv).2 ha
              have hal : a < x.ev.length := by
                have l3 := W.laddr; have l4 := W.ldata
                rcases ha with ha | ha
                . have := has_lt ha; omega
                . have := has_lt ha; omega
              have hz : (needsM x (v : Int) &&& ~~~s.d).getLsbD a = false := by rw [hm.2.1]; simp
              rw [BitVec.getLsbD_and, hb, BitVec.getLsbD_not] at hz
              refine inh a hal ?_ ?_
              . rcases ha with ha | ha
                . simp [Mem, (W.addr _ _ ha).2.1]
                . simp [Mem, (W.data _ _ ha).2.1]
              . have : a < 32 := by omega
                simpa [this] using hz
        | false =>
          right
          rw [if_pos rfl] at hm
          simp only [decide_eq_true_eq] at hm
          have hls : lastS s (gd x.ev j).loc = lastL (nats (h.filter (wrQ x (gd x.ev j).loc))) := by
            unfold lastS
            rw [I.rows _ (by omega), show (((gd x.ev j).loc.toNat : Nat) : Int) = (gd x.ev j).loc by omega]
          refine ⟨by simp [hls], fun e => ?_, fun v e => ?_, fun v e => ?_⟩
          . simp only [Bool.false_eq_true, if_false] at e
            unfold valueS at hm
            rw [if_pos e] at hm
            exact hm
          . simp only [Bool.false_eq_true, if_false] at e
            unfold valueS at hm
            rw [if_neg (by omega), e, Int.toNat_natCast] at hm
            exact hm
          . unfold waitsB at hw
            rw [e, Int.toNat_natCast] at hw
            have : s.d.getLsbD v = true := by
              cases hd : s.d.getLsbD v with
              | true => rfl
              | false => rw [hd] at hw; simp at hw
            rcases own_nat W j with e2 | ⟨v2, e2, hv, kv⟩
            . omega
            . obtain rfl : v2 = v := by omega
              exact inh v2 hv (by simp [Mem, kv]) this
  . intro j hj a ha
    rcases List.mem_append.1 hj with hj | hj
    . rw [take_old hj]; exact I.ah j hj a ha
    . rw [List.mem_singleton] at hj; subst hj
      rw [take_new hnh]; exact ahh a ha
theorem run_inv (W : WfE n x) (hn : n = init.length) {h : List Nat} {s : Fs} (r : FRun x init h s) : FInv x init h s := by
  induction r with
  | start => exact start_inv W hn
  | step i o r hi hc ih => exact (step_inv W hn ih hi hc).1
end Go.Sim
namespace Go.Sim
open Enc (enc)
open Go.Proofs
variable {n : Int} {x : Ex} {init : List Int} {h : List Nat} {s : Fs}
theorem none_hasF {m i k : Nat} (hm : m <= 32) : has (noneR m) i k = false := by rw [noneR, has_mk hm]; simp
theorem idx_get {h : List Nat} (hd : h.Nodup) {i : Nat} (hi : i < h.length) : h.idxOf h[i] = i := by
  have hm : h[i] ∈ h := List.getElem_mem hi
  have hl := List.idxOf_lt_length_of_mem hm
  have e : h[h.idxOf h[i]] = h[i] := List.getElem_idxOf hl
  have key := List.pairwise_iff_getElem.1 hd
  rcases Nat.lt_trichotomy (h.idxOf h[i]) i with hh | hh | hh
  . exact absurd e (key _ _ hl hi hh)
  . exact hh
  . exact absurd e.symm (key _ _ hi hl hh)
theorem idx_pair {h : List Nat} (hd : h.Nodup) : h.Pairwise (fun a b => h.idxOf a < h.idxOf b) := by
  rw [List.pairwise_iff_getElem]
  intro i j hi hj hij
  rw [idx_get hd hi, idx_get hd hj]; exact hij
theorem mem_take_idx {h : List Nat} {a b : Nat} (hd : h.Nodup) (hm : a ∈ h.take (h.idxOf b)) : h.idxOf a < h.idxOf b /\ a ∈ h := by
  obtain ⟨k, hk, rfl⟩ := List.mem_iff_getElem.1 hm
  rw [List.length_take] at hk
  rw [List.getElem_take, idx_get hd (by omega)]
  exact ⟨by omega, List.getElem_mem _⟩
theorem take_idx_mem {h : List Nat} {a : Nat} {k : Nat} (ha : a ∈ h) (hl : h.idxOf a < k) : a ∈ h.take k := by
  have hlt := List.idxOf_lt_length_of_mem ha
  have e : h[h.idxOf a] = a := List.getElem_idxOf hlt
  rw [List.mem_iff_getElem]
  exact ⟨h.idxOf a, by rw [List.length_take]; omega, by rw [List.getElem_take, e]⟩
theorem idx_inj {h : List Nat} {a b : Nat} (ha : a ∈ h) (hb : b ∈ h) (e : h.idxOf a = h.idxOf b) : a = b := by
  have h1 : h[h.idxOf a]'(List.idxOf_lt_length_of_mem ha) = a := List.getElem_idxOf _
  have h2 : h[h.idxOf b]'(List.idxOf_lt_length_of_mem hb) = b := List.getElem_idxOf _
  rw [← h1, ← h2]; simp only [e]
theorem nats_len (l : List Nat) : (nats l).length = l.length := List.length_map _
theorem nats_gd {l : List Nat} {a : Nat} (ha : a < l.length) : gd (nats l) a = ((l[a] : Nat) : Int) := by
  rw [← gd_get (by rw [nats_len]; exact ha)]; simp [nats]
theorem h_foldo {m : Nat} (hm : m <= 32) {i k : Nat} : ∀ {ls : List (List Int)} {a : Rl}, a.length = m -> (has (ls.foldl (fun r l => orR r (ordR m l)) a) i k = true ↔ has a i k = true \/ ∃ l ∈ ls, has (ordR m l) i k = true)
  | [], a, _ => by simp
  | l :: ls, a, ha => by
    rw [List.foldl_cons, h_foldo hm (a := orR a (ordR m l)) (by rw [orR_len]; exact ha), h_or (by omega) (by rw [ordR_len]; omega), Bool.or_eq_true]
    constructor
    . rintro ((h | h) | ⟨l', hl, h⟩)
      . exact .inl h
      . exact .inr ⟨l, by simp, h⟩
      . exact .inr ⟨l', by simp [hl], h⟩
    . rintro (h | ⟨l', hl, h⟩)
      . exact .inl (.inl h)
      . rcases List.mem_cons.1 hl with rfl | hl
        . exact .inl (.inr h)
        . exact .inr ⟨l', hl, h⟩
theorem coS_len (x : Ex) (s : Fs) : (coS x s).length = x.ev.length := by
  unfold coS
  have : ∀ (ls : List (List Int)) (a : Rl), (ls.foldl (fun r l => orR r (ordR x.ev.length l)) a).length = a.length := by
    intro ls
    induction ls with
    | nil => intro a; rfl
    | cons l ls ih => intro a; rw [List.foldl_cons, ih, orR_len]
  rw [this, noneR_len]
theorem wr_iff {loc : Int} {k : Nat} : wrQ x loc k = true ↔ (gd x.ev k).kind = 2 /\ (gd x.ev k).loc = loc := by
  unfold wrQ; simp
theorem h_coS (W : WfE n x) (hn : n = init.length) (I : FInv x init h s) {i k : Nat} : has (coS x s) i k = true ↔ i ∈ h /\ k ∈ h /\ (gd x.ev i).kind = 2 /\ (gd x.ev k).kind = 2 /\ (gd x.ev i).loc = (gd x.ev k).loc /\ h.idxOf i < h.idxOf k := by
  have h32 := W.n32'
  unfold coS
  rw [h_foldo h32 (noneR_len _), none_hasF h32]
  simp only [Bool.false_eq_true, false_or]
  have hp := idx_pair I.nd
  constructor
  . rintro ⟨l, hl, hh⟩
    obtain ⟨loc, hloc, rfl⟩ := List.mem_iff_getElem.1 hl
    rw [gd_get hloc, I.rows loc (by rw [← I.ll]; exact hloc)] at hh
    obtain ⟨_, _, a, b, hab, hb, e1, e2⟩ := (h_ord h32).1 hh
    rw [nats_len] at hb
    rw [nats_gd (by omega)] at e1
    rw [nats_gd hb] at e2
    have e1' : (h.filter (wrQ x loc))[a] = i := by omega
    have e2' : (h.filter (wrQ x loc))[b] = k := by omega
    have m1 := List.mem_filter.1 (e1' ▸ List.getElem_mem (show a < (h.filter (wrQ x loc)).length by omega))
    have m2 := List.mem_filter.1 (e2' ▸ List.getElem_mem hb)
    have w1 := wr_iff.1 m1.2
    have w2 := wr_iff.1 m2.2
    have hpf := hp.filter (wrQ x loc)
    have := List.pairwise_iff_getElem.1 hpf a b (by omega) hb hab
    rw [e1', e2'] at this
    exact ⟨m1.1, m2.1, w1.1, w2.1, by omega, this⟩
  . rintro ⟨hi, hk, k1, k2, hl, hlt⟩
    have hi2 := (I.mem i hi).1
    have hk2 := (I.mem k hk).1
    obtain ⟨ev, _⟩ := W.evs i hi2
    have hloc := ev.loc
    have hr : (gd x.ev i).loc.toNat < s.l.length := by rw [I.ll]; omega
    refine ⟨_, gd_mem hr, ?_⟩
    rw [I.rows _ (by rw [← I.ll]; exact hr)]
    have ez : (((gd x.ev i).loc.toNat : Nat) : Int) = (gd x.ev i).loc := by omega
    have m1 : i ∈ h.filter (wrQ x ((gd x.ev i).loc.toNat : Nat)) := List.mem_filter.2 ⟨hi, wr_iff.2 ⟨k1, ez.symm⟩⟩
    have m2 : k ∈ h.filter (wrQ x ((gd x.ev i).loc.toNat : Nat)) := List.mem_filter.2 ⟨hk, wr_iff.2 ⟨k2, by omega⟩⟩
    obtain ⟨a, ha, e1⟩ := List.mem_iff_getElem.1 m1
    obtain ⟨b, hb, e2⟩ := List.mem_iff_getElem.1 m2
    have hpf := List.pairwise_iff_getElem.1 (hp.filter (wrQ x ((gd x.ev i).loc.toNat : Nat)))
    refine (h_ord h32).2 ⟨hi2, hk2, a, b, ?_, by rw [nats_len]; exact hb, by rw [nats_gd ha, e1], by rw [nats_gd hb, e2]⟩
    rcases Nat.lt_trichotomy a b with hh | hh | hh
    . exact hh
    . subst hh; rw [e1] at e2; subst e2; omega
    . have := hpf b a hb ha hh
      rw [e1, e2] at this; omega
theorem lastL_nats {l : List Nat} : (l = [] /\ lastL (nats l) = -1) \/ ∃ hl : 0 < l.length, lastL (nats l) = ((l[l.length - 1] : Nat) : Int) := by
  cases l with
  | nil => exact .inl ⟨rfl, rfl⟩
  | cons a r =>
    refine .inr ⟨by simp, ?_⟩
    unfold lastL
    rw [nats_len, if_neg (by simp), nats_gd (by simp)]
theorem mem_last (I : FInv x init h s) {i : Nat} {loc : Int} : (lastL (nats ((h.take (h.idxOf i)).filter (wrQ x loc))) = -1 /\ ∀ w, w ∈ h -> (gd x.ev w).kind = 2 -> (gd x.ev w).loc = loc -> h.idxOf i <= h.idxOf w) \/
    ∃ v : Nat, lastL (nats ((h.take (h.idxOf i)).filter (wrQ x loc))) = (v : Int) /\ v ∈ h /\ (gd x.ev v).kind = 2 /\ (gd x.ev v).loc = loc /\ h.idxOf v < h.idxOf i /\ ∀ w, w ∈ h -> (gd x.ev w).kind = 2 -> (gd x.ev w).loc = loc -> h.idxOf w < h.idxOf i -> h.idxOf w <= h.idxOf v := by
  rcases lastL_nats (l := (h.take (h.idxOf i)).filter (wrQ x loc)) with ⟨e, e2⟩ | ⟨hl, e2⟩
  . refine .inl ⟨e2, fun w hw k1 l1 => ?_⟩
    rcases Nat.lt_or_ge (h.idxOf w) (h.idxOf i) with hlt | hge
    . have : w ∈ (h.take (h.idxOf i)).filter (wrQ x loc) := List.mem_filter.2 ⟨take_idx_mem hw hlt, wr_iff.2 ⟨k1, l1⟩⟩
      rw [e] at this; cases this
    . exact hge
  . have hm := List.mem_filter.1 (List.getElem_mem (l := (h.take (h.idxOf i)).filter (wrQ x loc)) (n := ((h.take (h.idxOf i)).filter (wrQ x loc)).length - 1) (by omega))
    obtain ⟨t1, t2⟩ := mem_take_idx I.nd hm.1
    have w1 := wr_iff.1 hm.2
    refine .inr ⟨_, e2, t2, w1.1, w1.2, t1, fun w hw k1 l1 hlt => ?_⟩
    have hmem : w ∈ (h.take (h.idxOf i)).filter (wrQ x loc) := List.mem_filter.2 ⟨take_idx_mem hw hlt, wr_iff.2 ⟨k1, l1⟩⟩
    obtain ⟨a, ha, ea⟩ := List.mem_iff_getElem.1 hmem
    have hp : (h.take (h.idxOf i)).Pairwise (fun a b => h.idxOf a < h.idxOf b) := (idx_pair I.nd).sublist (List.take_sublist _ _)
    have hpf := List.pairwise_iff_getElem.1 (hp.filter (wrQ x loc))
    rcases Nat.lt_or_ge a (((h.take (h.idxOf i)).filter (wrQ x loc)).length - 1) with hh | hh
    . have := hpf a _ ha (by omega) hh
      rw [ea] at this; omega
    . have : a = ((h.take (h.idxOf i)).filter (wrQ x loc)).length - 1 := by omega
      subst this; rw [ea]; exact Nat.le_refl _
def Full (x : Ex) (h : List Nat) : Prop := ∀ i, i < x.ev.length -> Mem x i -> i ∈ h
theorem final_full (W : WfE n x) (I : FInv x init h s) (hf : finalB x s = true) : Full x h := by
  intro i hi hm
  have h32 := W.n32'
  unfold finalB at hf
  rw [List.all_eq_true] at hf
  rcases (I.bits i (by omega)).1 (hf i (List.mem_range.2 hi)) with ⟨_, h2⟩ | h2
  . exact absurd hm h2
  . exact h2
theorem full_way (W : WfE n x) (hn : n = init.length) (I : FInv x init h s) (F : Full x h) : WayOk x s.f (coS x s) := by
  refine ⟨I.lf, fun r hr => ?_, coS_len x s, fun i k hh => ?_, fun i j k h1 h2 => ?_, fun i k hi hk k1 k2 hl hne => ?_⟩
  . by_cases hk : (gd x.ev r).kind = 1
    . refine .inr ⟨hk, ?_⟩
      have hin := F r hr (by simp [Mem, hk])
      rcases I.rd r hk hin with ⟨v, e, ow, _⟩ | ⟨e, _⟩
      . rcases own_is W r with e2 | ⟨w, e2, h3, h4, h5, h6, h7, _⟩
        . omega
        . obtain rfl : w = v := by omega
          exact .inr ⟨w, e, by omega, h7, h6⟩
      . rcases mem_last I (i := r) (loc := (gd x.ev r).loc) with ⟨e2, _⟩ | ⟨v, e2, hv, kv, lv, _⟩
        . exact .inl (e.trans e2)
        . exact .inr ⟨v, e.trans e2, (I.mem v hv).1, kv, lv⟩
    . exact .inl ⟨hk, I.no r hr (fun hh => hk hh.1)⟩
  . obtain ⟨_, _, a, b, c, d⟩ := (h_coS W hn I).1 hh
    exact ⟨a, b, c, fun e => by subst e; omega⟩
  . obtain ⟨a1, a2, a3, a4, a5, a6⟩ := (h_coS W hn I).1 h1
    obtain ⟨b1, b2, b3, b4, b5, b6⟩ := (h_coS W hn I).1 h2
    exact (h_coS W hn I).2 ⟨a1, b2, a3, b4, a5.trans b5, by omega⟩
  . rw [h_coS W hn I, h_coS W hn I]
    have hi := F i hi (by simp [Mem, k1])
    have hk := F k hk (by simp [Mem, k2])
    rcases Nat.lt_trichotomy (h.idxOf i) (h.idxOf k) with e | e | e
    . exact .inl ⟨hi, hk, k1, k2, hl, e⟩
    . exact absurd (idx_inj hi hk e) hne
    . exact .inr ⟨hk, hi, k2, k1, hl.symm, e⟩
end Go.Sim
