/- A part of the proof of a law of module cupola: St4, St5, St6. It has no conditions of its own. -/
import Derived.Test.YtkfceeaokfdmfaaGreatDoorStN
set_option linter.all false
set_option maxRecDepth 100000
namespace Go.Sim
open Enc (enc)
open Go.Proofs

theorem range_k {P : Program} {g : Operand} {p : Tmp} {a b : Code} {e : Env} {H : Heap} {Q : Kx} {f : FuncId} {caps : List V} {l : List (T × (Heap → Option Heap))} {fin : Heap → Option Heap} (I : Nat → Heap → Prop)
    (hg : ev e g = some (.fn f [] caps)) (hs : Orc.seq f caps H = some (l, fin)) (h0 : I 0 H)
    (step : ∀ i x m H1, l[i]? = some (x, m) → I i H1 → ∃ H2, m H1 = some H2 ∧ @C _ P ⟨a⟩ (put e p (.t x)) H2 ⟨thenX (fun e1 H3 => @C _ P ⟨b⟩ e1 H3 ⟨fun y _ H4 => y = .n ∧ I (i + 1) H4⟩) fun _ _ _ => False⟩)
    (hf : ∀ H1, I l.length H1 → ∃ H2, fin H1 = some H2 ∧ Q.k .n e H2) : @C _ P ⟨.rangeFunc g #[p] a b⟩ e H Q := by
  refine CW_range hg hs ?_
  have go : ∀ (r : List (T × (Heap → Option Heap))) (i : Nat) (H1 : Heap), i ≤ l.length → l.drop i = r → I i H1 → RW P a b p e r H1 fun H1 => ∃ H2, fin H1 = some H2 ∧ Q.k .n e H2 := by
    intro r
    induction r with
    | nil =>
      intro i H1 hle hr hi
      have hl : l.length ≤ i := by
        rcases Nat.lt_or_ge i l.length with h | h
        · have := List.drop_eq_getElem_cons h
          rw [hr] at this; cases this
        · exact h
      obtain rfl : i = l.length := by omega
      exact hf H1 hi
    | cons y r ih =>
      intro i H1 hle hr hi
      obtain ⟨x, m⟩ := y
      have hlt : i < l.length := by
        rcases Nat.lt_or_ge i l.length with h | h
        · exact h
        · rw [List.drop_eq_nil_of_le h] at hr; cases hr
      have hc := List.drop_eq_getElem_cons hlt
      rw [hr] at hc
      simp only [List.cons.injEq] at hc
      obtain ⟨h1, h2⟩ := hc
      obtain ⟨H2, h3, h4⟩ := step i x m H1 (by rw [List.getElem?_eq_getElem hlt, ← h1]) hi
      refine ⟨H2, h3, ?_⟩
      refine CW.mono h4 ?_
      intro y e1 H3 hy
      cases y with
      | n =>
        refine ⟨rfl, CW.mono hy ?_⟩
        rintro y e2 H4 ⟨h5, h6⟩
        exact ⟨h5, ih (i + 1) H4 (by omega) h2.symm h6⟩
      | exit id => exact hy.elim
      | ret => exact hy.elim
  exact go l 0 H (Nat.zero_le _) rfl h0

theorem Pu_dead {P : Program} {f : FuncId} {ts : List T} (h : Dead P f ts) {K : Kp} : @Pu _ P f ts K = K.q :=
  propext ⟨fun h1 => h1.elim (fun ⟨_, h2, _⟩ => absurd h h2.notDead) (·.2), fun k => .inr ⟨h, k⟩⟩
theorem HeapGo_eq {P : Program} {f : FuncId} {vs : List V} {H : Heap} {u : V} {H' : Heap} {K : V → Heap → Eff → Prop} (h : FunH P f vs H u H') (hu : u.isDead = false := by rfl) : HeapGo P f vs H K = K u H' (.ran H H') := by
  refine propext ⟨?_, fun k => HeapGo.go h k hu⟩
  rintro ⟨k, r, h1, h2⟩
  obtain ⟨k', h'⟩ := h
  unfold heapRun at h1
  cases hc : funRun P k f vs H with
  | none => simp [hc] at h1
  | some p =>
    obtain ⟨v, H1⟩ := p
    have a := funRun_mono (Nat.le_max_left k k') _ _ _ _ hc
    have b := funRun_mono (Nat.le_max_right k k') _ _ _ _ h'
    rw [a] at b
    simp only [Option.some.injEq, Prod.mk.injEq] at b
    obtain ⟨rfl, rfl⟩ := b
    simp only [hc, hu, Bool.false_eq_true, if_false, Option.some.injEq] at h1
    subst h1; exact h2
theorem Dead.of {P : Program} {f : FuncId} {ts : List T} {u : V} {H' : Heap} (h : FunH P f (ts.map .t) [] u H') (hu : u.inHeap = true := by rfl) : Dead P f ts := by
  obtain ⟨k, h⟩ := h
  exact ⟨k, u, H', h, hu⟩

def boxN (n : Int) : Obj := ⟨[.t (.int .i64 n)], 1, false⟩
def cutF (H : Heap) : V := .fn 68 [] [.ptr (H.length + 1) 1 0 0, .ptr H.length 1 0 0, .ptr (H.length + 2) 1 0 0]
theorem splitSeq_go {H : Heap} {s sep : ByteArray} {k : Int} : FunH Tryz.prog 47 [.t (.str s), .t (.str sep), .t (.int .i64 k)] H (cutF H) (H ++ [boxS s, boxS sep, boxN k]) := by
  refine FunH.go Tryz.func47 rfl rfl (by kernel_rfl) ?_
  simp -implicitDefEqProofs (disch := first | exact dsch | fail) only [go_sem, ↓reduceIte, Nat.reduceEqDiff, List.append_assoc, List.length_append]
  rfl
@[go_sem] theorem pu_splitSeq {s sep : ByteArray} {k : Int} {K : Kp} : @Pu _ Tryz.prog 47 [.str s, .str sep, .int .i64 k] K = K.q := Pu_dead (Dead.of splitSeq_go)
@[go_sem] theorem hg_splitSeq {H : Heap} {s sep : ByteArray} {k : Int} {K} : HeapGo Tryz.prog 47 [.t (.str s), .t (.str sep), .t (.int .i64 k)] H K = K (cutF H) (H ++ [boxS s, boxS sep, boxN k]) (.ran H (H ++ [boxS s, boxS sep, boxN k])) := HeapGo_eq splitSeq_go
theorem SplitSeq_go {H : Heap} {s sep : ByteArray} : FunH Tryz.prog 45 [.t (.str s), .t (.str sep)] H (cutF H) (H ++ [boxS s, boxS sep, boxN 0]) := by
  refine FunH.go Tryz.func45 rfl rfl (by kernel_rfl) ?_
  simp -implicitDefEqProofs (disch := first | exact dsch | fail) only [go_sem, ↓reduceIte, Nat.reduceEqDiff]
@[go_sem] theorem pu_SplitSeq {s sep : ByteArray} {K : Kp} : @Pu _ Tryz.prog 45 [.str s, .str sep] K = K.q := Pu_dead (Dead.of SplitSeq_go)
@[go_sem] theorem hg_SplitSeq {H : Heap} {s sep : ByteArray} {K} : HeapGo Tryz.prog 45 [.t (.str s), .t (.str sep)] H K = K (cutF H) (H ++ [boxS s, boxS sep, boxN 0]) (.ran H (H ++ [boxS s, boxS sep, boxN 0])) := HeapGo_eq SplitSeq_go
theorem SplitAfterSeq_go {H : Heap} {s sep : ByteArray} : FunH Tryz.prog 33 [.t (.str s), .t (.str sep)] H (cutF H) (H ++ [boxS s, boxS sep, boxN sep.size]) := by
  refine FunH.go Tryz.func33 rfl rfl (by kernel_rfl) ?_
  simp -implicitDefEqProofs (disch := first | exact dsch | fail) only [go_sem, ↓reduceIte, Nat.reduceEqDiff]
@[go_sem] theorem pu_SplitAfterSeq {s sep : ByteArray} {K : Kp} : @Pu _ Tryz.prog 33 [.str s, .str sep] K = K.q := Pu_dead (Dead.of SplitAfterSeq_go)
@[go_sem] theorem hg_SplitAfterSeq {H : Heap} {s sep : ByteArray} {K} : HeapGo Tryz.prog 33 [.t (.str s), .t (.str sep)] H K = K (cutF H) (H ++ [boxS s, boxS sep, boxN sep.size]) (.ran H (H ++ [boxS s, boxS sep, boxN sep.size])) := HeapGo_eq SplitAfterSeq_go

@[go_sem] theorem noSl_tupT (l : List T) : noSl (.t (.tup l)) = false := rfl
@[go_sem] theorem extr_t0 {H : Heap} {x : T} {r : List T} : extr H 0 (.t (.tup (x :: r))) = some ⟨.t x, H, .none⟩ := rfl
@[go_sem] theorem extr_t1 {H : Heap} {x y : T} {r : List T} : extr H 1 (.t (.tup (x :: y :: r))) = some ⟨.t y, H, .none⟩ := rfl
@[go_sem] theorem cells_accV {α : Type} [Enc α] (k : Nat) (l : List α) : (accV k l).cells = [accV k l] := by cases l <;> rfl
@[go_sem] theorem stor_accV {α : Type} [Enc α] (k : Nat) (l : List α) : (accV k l).storable = true := by cases l <;> rfl
@[go_sem] theorem get0_c {α : Type} (x : α) (l : List α) : (x :: l)[0]? = some x := rfl
theorem atoi_fun {s : ByteArray} (h : s.size ≤ 1000000000) : Fun Tryz.prog 46 [.str s] (.t (pairT (.int .i64 (atoiN s)) (atoiB s))) := by
  refine orc_fun (v := .t (pairT (.int .i64 (atoiN s)) (atoiB s))) (H := []) rfl ?_ ?_
  · show (atoiT [.str s]).map _ = _
    simp only [atoiT, h, if_true, Option.map_some]
  · rfl
@[go_sem] theorem pu_Atoi {s : ByteArray} (h : s.size ≤ 1000000000) {K : Kp} : @Pu _ Tryz.prog 46 [.str s] K = K.k (.t (pairT (.int .i64 (atoiN s)) (atoiB s))) := (atoi_fun h).pu
theorem pu_fun {s : ByteArray} (h : s.size ≤ 1000000000) : Fun Tryz.prog 31 [.str s, .int .i64 10, .int .i64 32] (.t (pairT (.int .u64 (puN s)) (puB s))) := by
  refine orc_fun (v := .t (pairT (.int .u64 (puN s)) (puB s))) (H := []) rfl ?_ ?_
  · show (puT [.str s, .int .i64 10, .int .i64 32]).map _ = _
    simp only [puT, h, and_self, if_true, Option.map_some]
  · rfl
@[go_sem] theorem pu_PU {s : ByteArray} (h : s.size ≤ 1000000000) {K : Kp} : @Pu _ Tryz.prog 31 [.str s, .int .i64 10, .int .i64 32] K = K.k (.t (pairT (.int .u64 (puN s)) (puB s))) := (pu_fun h).pu
theorem index_fun {s : ByteArray} {c : UInt8} : Fun Tryz.prog 60 [.str s, .str ⟨#[c]⟩] (.t (.int .i64 (Go.Lib.indexByte s.data.toList c))) := by
  refine orc_fun (v := .t (.int .i64 (Go.Lib.indexByte s.data.toList c))) (H := []) rfl ?_ ?_
  · show (indexT [.str s, .str ⟨#[c]⟩]).map _ = _
    have e : (⟨#[c]⟩ : ByteArray).get! 0 = c := rfl
    simp only [indexT, e, if_true, Option.map_some]
  · rfl
@[go_sem] theorem pu_Index {s : ByteArray} {c : UInt8} {K : Kp} : @Pu _ Tryz.prog 60 [.str s, .str ⟨#[c]⟩] K = K.k (.t (.int .i64 (Go.Lib.indexByte s.data.toList c))) := index_fun.pu
theorem count_fun {s : ByteArray} {c : UInt8} : Fun Tryz.prog 59 [.str s, .str ⟨#[c]⟩] (.t (.int .i64 (Go.Lib.countByte s.data.toList c))) := by
  refine orc_fun (v := .t (.int .i64 (Go.Lib.countByte s.data.toList c))) (H := []) rfl ?_ ?_
  · show (countT [.str s, .str ⟨#[c]⟩]).map _ = _
    have e : (⟨#[c]⟩ : ByteArray).get! 0 = c := rfl
    simp only [countT, e, if_true, Option.map_some]
  · rfl
@[go_sem] theorem pu_CountS {s : ByteArray} {c : UInt8} {K : Kp} : @Pu _ Tryz.prog 59 [.str s, .str ⟨#[c]⟩] K = K.k (.t (.int .i64 (Go.Lib.countByte s.data.toList c))) := count_fun.pu
theorem trim_fun {s p : ByteArray} (h : s.size ≤ 1000000000) : Fun Tryz.prog 34 [.str s, .str p] (.t (.str (trimB s p))) := by
  refine orc_fun (v := .t (.str (trimB s p))) (H := []) rfl ?_ ?_
  · show (trimT [.str s, .str p]).map _ = _
    simp only [trimT, h, if_true, Option.map_some]
  · rfl
@[go_sem] theorem pu_Trim {s p : ByteArray} (h : s.size ≤ 1000000000) {K : Kp} : @Pu _ Tryz.prog 34 [.str s, .str p] K = K.k (.t (.str (trimB s p))) := (trim_fun h).pu

theorem segs_len (c : UInt8) (sv : Nat) : ∀ (n : Nat) (s : ByteArray), (segsF c sv n s).length ≤ n + 1
  | 0, s => by simp [segsF]
  | n + 1, s => by
    unfold segsF
    split
    · simp
    · have := segs_len c sv n (s.extract ((Go.Lib.indexByte s.data.toList c).toNat + 1) s.size)
      simp; omega
theorem segs_size (c : UInt8) (sv : Nat) : ∀ (n : Nat) (s : ByteArray), ∀ p ∈ segsF c sv n s, p.1.size ≤ s.size
  | 0, s, p, hp => by simp [segsF] at hp; subst hp; exact Nat.le_refl _
  | n + 1, s, p, hp => by
    unfold segsF at hp
    split at hp
    · simp at hp; subst hp; exact Nat.le_refl _
    · rcases List.mem_cons.1 hp with rfl | hp
      · simp only [ByteArray.size_extract]; omega
      · have := segs_size c sv n _ p hp
        simp only [ByteArray.size_extract] at this; omega
def prevOf (s : ByteArray) (segs : List (ByteArray × ByteArray)) : Nat → ByteArray
  | 0 => s
  | i + 1 => ((segs[i]?).map (·.2)).getD s
theorem items_len {a b k : Nat} {c : UInt8} {sv : Nat} : ∀ {segs : List (ByteArray × ByteArray)} {prev : ByteArray}, (itemsF a b k c sv prev segs).length = segs.length
  | [], _ => rfl
  | (x, s) :: r, _ => by simp [itemsF, items_len (segs := r)]
theorem items_at {a b k : Nat} {c : UInt8} {sv : Nat} : ∀ {segs : List (ByteArray × ByteArray)} {prev : ByteArray} {i : Nat} {x : T} {m : Heap → Option Heap}, (itemsF a b k c sv prev segs)[i]? = some (x, m) →
    ∃ p, segs[i]? = some p ∧ x = .str p.1 ∧ m = fun H => if rdS H a = some ⟨#[c]⟩ ∧ rdS H b = some (prevOf prev segs i) ∧ rdI H k = some (sv : Int) then some (H.set b (boxS p.2)) else none
  | [], _, _, _, _, h => by simp [itemsF] at h
  | (y, s) :: r, prev, 0, x, m, h => by
    simp only [itemsF, List.getElem?_cons_zero, Option.some.injEq, Prod.mk.injEq] at h
    obtain ⟨rfl, rfl⟩ := h
    exact ⟨(y, s), rfl, rfl, rfl⟩
  | (y, s) :: r, prev, i + 1, x, m, h => by
    simp only [itemsF, List.getElem?_cons_succ] at h
    obtain ⟨p, h1, h2, h3⟩ := items_at h
    refine ⟨p, by simpa using h1, h2, ?_⟩
    rw [h3]
    have e : prevOf prev ((y, s) :: r) (i + 1) = prevOf s r i := by
      cases i with
      | zero => rfl
      | succ i =>
        show (((y, s) :: r)[i + 1]?.map (·.2)).getD prev = (r[i]?.map (·.2)).getD s
        rw [List.getElem?_cons_succ]
        have : i < r.length := by
          have := (List.getElem?_eq_some_iff.1 h1).1; omega
        rw [List.getElem?_eq_getElem this]; rfl
    rw [e]
end Go.Sim

set_option maxRecDepth 100000
namespace Go.Sim
open Enc (enc)
open Go.Proofs
def emptyB : ByteArray := ⟨#[]⟩
theorem eqB_empty (s : ByteArray) : eqB s emptyB = decide (s.size = 0) := by
  rw [Bool.eq_iff_iff, eqB_iff, decide_eq_true_iff]
  constructor
  · rintro rfl; rfl
  · intro h
    cases s with
    | mk d => cases d with
      | mk l =>
        have : l.length = 0 := h
        have := List.eq_nil_of_length_eq_zero this
        subst this; rfl
def segs (c : UInt8) (sv : Nat) (s : ByteArray) : List (ByteArray × ByteArray) := segsF c sv (s.size + 1) s
theorem segs_le (c : UInt8) (sv : Nat) (s : ByteArray) : (segs c sv s).length ≤ s.size + 2 := segs_len c sv (s.size + 1) s
def numsTo (s : ByteArray) (i : Nat) : List Int := ((segs 44 0 s).take i).map fun p => atoiN p.1
def numsB (s : ByteArray) : List Int := if s.size = 0 then [] else (segs 44 0 s).map fun p => atoiN p.1
theorem numsTo_succ {s : ByteArray} {i : Nat} {p : ByteArray × ByteArray} (h : (segs 44 0 s)[i]? = some p) : numsTo s (i + 1) = numsTo s i ++ [atoiN p.1] := by
  unfold numsTo
  rw [List.take_add_one, h]; simp
theorem seq_cut {H : Heap} {a b k : Nat} {c : UInt8} {s : ByteArray} {sv : Nat} (ha : rdS H a = some ⟨#[c]⟩) (hb : rdS H b = some s) (hk : rdI H k = some (sv : Int)) (hab : a ≠ b) (hsv : sv ≤ 1) (hs : s.size ≤ 1000000000) :
    Orc.seq 68 [.ptr a 1 0 0, .ptr b 1 0 0, .ptr k 1 0 0] H = some (itemsF a b k c sv s (segs c sv s), some) := by
  show seqSplit _ _ = _
  have e : (⟨#[c]⟩ : ByteArray).get! 0 = c := rfl
  simp only [seqSplit, ha, hb, hk, e, Int.toNat_natCast]
  rw [if_pos ⟨trivial, hab, by omega, by omega, hs⟩]
  rfl
theorem state_numbers {s : ByteArray} (hs : s.size ≤ 1000000) : Fun Tryz.prog 32 [.str s] (.t (enc (numsB s))) := by
  refine Fun.go (b := false) Tryz.func32 rfl rfl (by kernel_rfl) (by kernel_rfl) ?_
  by_cases h0 : s.size = 0
  · have he : eqB s ⟨#[]⟩ = true := by rw [show (⟨#[]⟩ : ByteArray) = emptyB from rfl, eqB_empty]; simpa using h0
    have hn : numsB s = [] := by unfold numsB; rw [if_pos h0]
    simp -implicitDefEqProofs (disch := first | exact dsch | fail) only [go_sem, ↓reduceIte, Nat.reduceEqDiff, he]
    rw [hn]; rfl
  · have he : eqB s ⟨#[]⟩ = false := by rw [show (⟨#[]⟩ : ByteArray) = emptyB from rfl, eqB_empty]; simpa using h0
    have hn : numsB s = numsTo s (segs 44 0 s).length := by unfold numsB numsTo; rw [if_neg h0, List.take_length]
    have hsl := segs_le 44 0 s
    simp -implicitDefEqProofs (disch := first | exact dsch | fail) only [go_sem, ↓reduceIte, Nat.reduceEqDiff, he]
    refine range_k (f := 68) (caps := [.ptr 2 1 0 0, .ptr 1 1 0 0, .ptr 3 1 0 0]) (fun i H => H = ⟨[accV 4 (numsTo s i)], 1, false⟩ :: boxS (prevOf s (segs 44 0 s) i) :: boxS ⟨#[44]⟩ :: boxN 0 :: accO (numsTo s i)) rfl
      (seq_cut (c := 44) (sv := 0) rfl rfl rfl (by decide) (by decide) (by omega)) rfl ?_ ?_
    · intro i x m H1 hi hI
      obtain ⟨p, hp, rfl, rfl⟩ := items_at hi
      have hil := (List.getElem?_eq_some_iff.1 hp).1
      have hsz := segs_size 44 0 _ s p (List.mem_of_getElem? hp)
      have hsz' : p.1.size ≤ 1000000000 := by omega
      have hnl : (numsTo s i).length ≤ i := by unfold numsTo; rw [List.length_map, List.length_take]; omega
      have hpv : prevOf s (segs 44 0 s) (i + 1) = p.2 := by show (((segs 44 0 s)[i]?).map (·.2)).getD s = _; rw [hp]; rfl
      subst hI
      refine ⟨_, if_pos ⟨rfl, rfl, rfl⟩, ?_⟩
      simp -implicitDefEqProofs (disch := first | exact dsch | fail) only [go_sem, ↓reduceIte, Nat.reduceEqDiff, hsz', pairT, acc_int4, hpv]
      rw [numsTo_succ hp]
    · intro H1 hI
      rw [items_len] at hI
      subst hI
      refine ⟨_, rfl, ?_⟩
      simp -implicitDefEqProofs (disch := first | exact dsch | fail) only [go_sem, ↓reduceIte, Nat.reduceEqDiff]
      rw [hn]
      exact acc_exp (R := [_, _, _, _])
end Go.Sim

set_option maxRecDepth 100000
namespace Go.Sim
open Enc (enc)
open Go.Proofs
@[go_sem] theorem partS_to {H : Heap} {s : ByteArray} {k : Int} (h0 : 0 ≤ k) (h1 : k ≤ s.size) : partS H s none (some (.t (.int .i64 k))) none = some ⟨.t (.str (s.extract 0 k.toNat)), H, .none⟩ := by
  simp only [partS, bound, if_pos h0]
  rw [if_pos ⟨by omega, by omega⟩]; rfl
@[go_sem] theorem partS_from {H : Heap} {s : ByteArray} {k : Int} (h0 : 0 ≤ k) (h1 : k ≤ s.size) : partS H s (some (.t (.int .i64 k))) none none = some ⟨.t (.str (s.extract k.toNat s.size)), H, .none⟩ := by
  simp only [partS, bound, if_pos h0]
  rw [if_pos ⟨by omega, by omega⟩]; rfl
theorem idx_none : ∀ {l : List UInt8} {c : UInt8}, Go.Lib.indexByte l c < 0 → l.count c = 0
  | [], _, _ => rfl
  | b :: l, c, h => by
    unfold Go.Lib.indexByte at h
    split at h
    · omega
    · rename_i hb
      have h2 : Go.Lib.indexByte l c < 0 := by
        split at h
        · rename_i e; have := beq_iff_eq.1 e; omega
        · omega
      rw [List.count_cons, idx_none h2, if_neg hb]
theorem idx_some : ∀ {l : List UInt8} {c : UInt8} {i : Nat}, Go.Lib.indexByte l c = i → l.count c = 1 + (l.drop (i + 1)).count c
  | [], _, _, h => by simp [Go.Lib.indexByte] at h
  | b :: l, c, i, h => by
    unfold Go.Lib.indexByte at h
    split at h
    · rename_i hb
      have : i = 0 := by omega
      subst this
      rw [List.count_cons, if_pos hb]; simp [Nat.add_comm]
    · rename_i hb
      split at h
      · omega
      · obtain ⟨j, rfl⟩ : ∃ j, i = j + 1 := ⟨i - 1, by have := Go.Lib.indexByte_ge l c; rename_i e; have e' : ¬ Go.Lib.indexByte l c = -1 := fun x => e (beq_iff_eq.2 x); omega⟩
        have h2 : Go.Lib.indexByte l c = j := by omega
        rw [List.count_cons, if_neg hb, idx_some h2]; simp
theorem idx_lt (l : List UInt8) (c : UInt8) : Go.Lib.indexByte l c < l.length := by
  induction l with
  | nil => simp [Go.Lib.indexByte]
  | cons b l ih =>
    unfold Go.Lib.indexByte
    have : ((b :: l).length : Int) = l.length + 1 := by simp
    split
    · omega
    · split <;> omega
theorem extract_list (s : ByteArray) (a : Nat) : (s.extract a s.size).data.toList = s.data.toList.drop a := by
  rw [ByteArray.data_extract, Array.toList_extract, List.extract_eq_take_drop, List.take_of_length_le]
  rw [List.length_drop]; exact Nat.le_refl _
theorem size_list (s : ByteArray) : s.data.toList.length = s.size := rfl
theorem segs_count (c : UInt8) (sv : Nat) : ∀ (n : Nat) (s : ByteArray), s.size < n → (segsF c sv n s).length = Go.Lib.countByte s.data.toList c + 1
  | 0, s, h => by omega
  | n + 1, s, h => by
    unfold segsF Go.Lib.countByte
    have hi := idx_lt s.data.toList c
    rw [size_list] at hi
    split
    · rename_i h1
      rw [idx_none h1]; rfl
    · rename_i h1
      obtain ⟨i, hii⟩ := Int.eq_ofNat_of_zero_le (by omega : 0 ≤ Go.Lib.indexByte s.data.toList c)
      rw [hii, Int.toNat_natCast]
      have := segs_count c sv n (s.extract (i + 1) s.size) (by rw [ByteArray.size_extract]; omega)
      rw [List.length_cons, this, idx_some hii]
      unfold Go.Lib.countByte
      rw [extract_list]; omega
theorem segsF_head (c : UInt8) (sv n : Nat) (s : ByteArray) : ∃ x r, segsF c sv n s = (x, s) :: r := by
  cases n with
  | zero => exact ⟨s, [], rfl⟩
  | succ n =>
    unfold segsF
    split
    · exact ⟨s, [], rfl⟩
    · exact ⟨_, _, rfl⟩
theorem segs_step {c : UInt8} {sv : Nat} : ∀ {n : Nat} {s : ByteArray} {i : Nat} {p : ByteArray × ByteArray}, (segsF c sv n s)[i]? = some p → i + 1 < (segsF c sv n s).length →
    ∃ j : Nat, Go.Lib.indexByte p.2.data.toList c = j ∧ p.1 = p.2.extract 0 (j + sv) ∧ ∃ q, (segsF c sv n s)[i + 1]? = some q ∧ q.2 = p.2.extract (j + 1) p.2.size
  | 0, s, i, p, h, hl => by simp [segsF] at hl
  | n + 1, s, i, p, h, hl => by
    unfold segsF at h hl ⊢
    split at h
    · rename_i h1; rw [if_pos h1] at hl; simp at hl
    · rename_i h1
      rw [if_neg h1] at hl ⊢
      obtain ⟨j, hj⟩ := Int.eq_ofNat_of_zero_le (by omega : 0 ≤ Go.Lib.indexByte s.data.toList c)
      rw [hj, Int.toNat_natCast] at h hl ⊢
      cases i with
      | zero =>
        simp only [List.getElem?_cons_zero, Option.some.injEq] at h
        subst h
        obtain ⟨x, r, e⟩ := segsF_head c sv n (s.extract (j + 1) s.size)
        exact ⟨j, hj, rfl, (x, s.extract (j + 1) s.size), by rw [e]; rfl, rfl⟩
      | succ i =>
        simp only [List.getElem?_cons_succ, List.length_cons] at h hl ⊢
        exact segs_step h (by omega)
theorem segs_last {c : UInt8} {sv : Nat} : ∀ {n : Nat} {s : ByteArray} {i : Nat} {p : ByteArray × ByteArray}, (segsF c sv n s)[i]? = some p → i + 1 = (segsF c sv n s).length → p.1 = p.2
  | 0, s, i, p, h, hl => by
    simp [segsF] at h hl; subst hl; simp at h; subst h; rfl
  | n + 1, s, i, p, h, hl => by
    unfold segsF at h hl
    split at h
    · rename_i h1; rw [if_pos h1] at hl; simp at hl; subst hl; simp at h; subst h; rfl
    · rename_i h1
      rw [if_neg h1] at hl
      cases i with
      | zero =>
        obtain ⟨x, r, e⟩ := segsF_head c sv n (s.extract ((Go.Lib.indexByte s.data.toList c).toNat + 1) s.size)
        rw [e] at hl; simp at hl
      | succ i =>
        simp only [List.getElem?_cons_succ, List.length_cons] at h hl
        exact segs_last h (by omega)
def piecesB (c : UInt8) (s : ByteArray) : List ByteArray := (segs c 0 s).map (·.1)
def pieceF (c : UInt8) (s : ByteArray) (i : Nat) : ByteArray := gd (piecesB c s) i
theorem pieces_len (c : UInt8) (s : ByteArray) : (piecesB c s).length = Go.Lib.countByte s.data.toList c + 1 := by
  unfold piecesB segs
  rw [List.length_map, segs_count c 0 _ s (by omega)]
theorem pieces_range (c : UInt8) (s : ByteArray) {n : Nat} (hn : (piecesB c s).length = n) : (List.range n).map (pieceF c s) = piecesB c s := by
  subst hn
  apply List.ext_getElem?
  intro i
  rcases Nat.lt_or_ge i (piecesB c s).length with h | h
  · rw [List.getElem?_map, List.getElem?_range h, Option.map_some, List.getElem?_eq_getElem h]
    unfold pieceF gd
    rw [List.getD_eq_getElem?_getD, List.getElem?_eq_getElem h]; rfl
  · rw [List.getElem?_eq_none h, List.getElem?_eq_none (by simpa using h)]
def repB (n : Nat) : List ByteArray := List.replicate n ByteArray.empty
theorem repB_len (n : Nat) : (repB n).length = n := List.length_replicate
theorem segs_size2 (c : UInt8) (sv : Nat) : ∀ (n : Nat) (s : ByteArray), ∀ p ∈ segsF c sv n s, p.2.size ≤ s.size
  | 0, s, p, hp => by simp [segsF] at hp; subst hp; exact Nat.le_refl _
  | n + 1, s, p, hp => by
    unfold segsF at hp
    split at hp
    · simp at hp; subst hp; exact Nat.le_refl _
    · rcases List.mem_cons.1 hp with rfl | hp
      · exact Nat.le_refl _
      · have := segs_size2 c sv n _ p hp
        simp only [ByteArray.size_extract] at this; omega
@[go_sem] theorem mk1_str {H : Heap} {by_ : Nat} {l c : Int} (h4 : 0 < by_) (h0 : 0 ≤ l) (hc : l = c) (hn : l * by_ ≤ 70368744177664) :
    mk1 H (1, by_) (.t (.str ByteArray.empty)) l c = some ⟨.ref H.length l.toNat, H ++ [⟨vs (repB l.toNat), 1, false⟩], .none⟩ := by rw [mk1_ok rfl rfl h4 h0 hc hn]; unfold repB; rw [← vs_rep]; rfl
theorem partV_hi {α : Type} [Enc α] {H : Heap} {id n : Nat} {l : List α} {esz : Nat} {st : Bool} {k : IntKind} {m : Int} (hc : cur H id n = some ⟨vs l, esz, st⟩) (hl : l.length = n) (hm : m = n) :
    partV H 1 (.ref id n) none (some (.t (.int k m))) none = some ⟨.t (enc l), hold depth H (.ref id n), .bad⟩ := by
  subst hm hl
  unfold partV
  have h1 : slOf H (.ref id l.length) = some (vs l) := by show (cur H id l.length).map _ = _; rw [hc]; rfl
  have h2 : toT H depth (.ref id l.length) = some (enc l) := by rw [toT_ref', hc, Option.bind_some, toTo_vs]
  have hb : bound (some (.t (.int k (l.length : Int)))) (vs l).length = some l.length := by simp [bound]
  rw [h1, h2, enc_list]
  simp only
  rw [hb]
  simp only [bound]
  rw [if_pos]
  · simp [effS, vs_len, List.take_of_length_le, enc_list]
  · refine ⟨Nat.zero_le _, by rw [vs_len]; exact Nat.le_refl _, Nat.le_refl _, by simp [vs_len], by omega, rfl, .inl trivial⟩
set_option maxHeartbeats 1000000 in
theorem gen_split {s : ByteArray} {c : UInt8} (hs : s.size ≤ 1000000) : Fun Tryz.prog 42 [.str s, .str ⟨#[c]⟩, .int .i64 0, .int .i64 (-1)] (.t (enc (piecesB c s))) := by
  have he : eqB ⟨#[c]⟩ ⟨#[]⟩ = false := by
    rw [show (⟨#[]⟩ : ByteArray) = emptyB from rfl, eqB_empty]; rfl
  have hlen := pieces_len c s
  have hcl : Go.Lib.countByte s.data.toList c ≤ s.size := List.count_le_length
  generalize hN : Go.Lib.countByte s.data.toList c = N at *
  have hmin : min ((N : Int) + 1) ((s.size : Int) + 1) = ((N + 1 : Nat) : Int) := by omega
  refine Fun.go (b := false) Tryz.func42 rfl rfl (by kernel_rfl) (by kernel_rfl) ?_
  have hNt : ((N : Int) + 1).toNat = N + 1 := by omega
  simp -implicitDefEqProofs (disch := first | exact dsch | fail) only [go_sem, ↓reduceIte, Nat.reduceEqDiff, he, hN, hmin, hNt]
  refine loop_k (n := N) [1, 2, 3, 8, 9] (by kernel_rfl) (fun i e H => e 10 = .t (.int .i64 i) ∧ (∃ p, (segs c 0 s)[i]? = some p ∧ e 0 = .t (.str p.2)) ∧ H = [⟨vs (fillTo (pieceF c s) (repB (N + 1)) i), 1, false⟩]) ?_ ?_
  · rintro i e H hi hk ⟨h10, ⟨p, hp, h0⟩, rfl⟩
    simp only [keepP, go_sem, ↓reduceIte, Nat.reduceEqDiff, and_true] at hk
    have hl : (segs c 0 s).length = N + 1 := by have := hlen; unfold piecesB at this; rwa [List.length_map] at this
    have hpf : pieceF c s i = p.1 := by
      unfold pieceF gd piecesB
      rw [List.getD_eq_getElem?_getD, List.getElem?_map, hp]; rfl
    have hfl : (fillTo (pieceF c s) (repB (N + 1)) i).length = N + 1 := by rw [fill_len] <;> rw [repB_len]; omega
    have hps := segs_size2 c 0 _ s p (List.mem_of_getElem? hp)
    by_cases hlt : i < N
    · obtain ⟨j, hj, hp1, q, hq, hq2⟩ := segs_step hp (by show i + 1 < (segs c 0 s).length; omega)
      have hjl := idx_lt p.2.data.toList c
      rw [hj, size_list] at hjl
      simp -implicitDefEqProofs (disch := first | exact dsch | fail) only [go_sem, ↓reduceIte, Nat.reduceEqDiff, hk, h10, h0, hj, hfl, Int.add_zero, Int.toNat_natCast]
      refine ⟨hlt, ⟨q, hq, by rw [hq2]; congr⟩, ?_⟩
      have e1 : p.2.extract 0 j = pieceF c s i := by rw [hpf, hp1]; rfl
      rw [e1, show V.t (T.str (pieceF c s i)) = .t (enc (pieceF c s i)) from rfl, vs_set, fill_set (by rw [repB_len]; omega)]
    · obtain rfl : i = N := by omega
      have hp1 := segs_last hp (by show i + 1 = (segs c 0 s).length; omega)
      have e1 : (vs (fillTo (pieceF c s) (repB (i + 1)) i)).set i (V.t (T.str p.2)) = vs (piecesB c s) := by
        rw [← hp1, ← hpf, show V.t (T.str (pieceF c s i)) = .t (enc (pieceF c s i)) from rfl, vs_set, fill_set (by rw [repB_len]; omega)]
        have := fill_all (pieceF c s) (repB (i + 1))
        rw [repB_len] at this
        rw [this, pieces_range c s hlen]
      simp -implicitDefEqProofs (disch := first | exact dsch | fail) only [go_sem, ↓reduceIte, Nat.reduceEqDiff, hk, h10, h0, hfl, e1]
      rw [partV_hi (l := piecesB c s) (esz := 1) (st := false) (cur_some rfl (by rw [vs_len, hlen])) hlen (by omega)]
      simp -implicitDefEqProofs (disch := first | exact dsch | fail) only [go_sem, ↓reduceIte, Nat.reduceEqDiff]
  · simp -implicitDefEqProofs (disch := first | exact dsch | fail) only [go_sem, ↓reduceIte, Nat.reduceEqDiff]
    obtain ⟨x, r, e⟩ := segsF_head c 0 (s.size + 1) s
    refine ⟨⟨(x, s), by unfold segs; rw [e]; rfl, rfl⟩, by rw [fill_zero]⟩
theorem split_run {s : ByteArray} {c : UInt8} (hs : s.size ≤ 1000000) : Fun Tryz.prog 30 [.str s, .str ⟨#[c]⟩] (.t (enc (piecesB c s))) := by
  have pu : ∀ {K : Kp}, @Pu _ Tryz.prog 42 [.str s, .str ⟨#[c]⟩, .int .i64 0, .int .i64 (-1)] K = K.k (.t (enc (piecesB c s))) := (gen_split hs).pu
  refine Fun.go (b := false) Tryz.func30 rfl rfl (by kernel_rfl) (by kernel_rfl) ?_
  simp -implicitDefEqProofs (disch := first | exact dsch | fail) only [go_sem, ↓reduceIte, Nat.reduceEqDiff, pu]
@[go_sem] theorem pu_Split {s : ByteArray} {c : UInt8} (hs : s.size ≤ 1000000) {K : Kp} : @Pu _ Tryz.prog 30 [.str s, .str ⟨#[c]⟩] K = K.k (.t (enc (piecesB c s))) := (split_run hs).pu
end Go.Sim
