/- A part of the proof of a law of module cupola: SeqsOk. It has no conditions of its own. -/
import Derived.Test.YtkfceeaokfdmfaaGreatDoorSimN
import Derived.Test.YtkfceeaokfdmfaaGreatDoorOrcs
import Derived.Test.YtkfceeaokfdmfaaGreatDoorKLayB
import Derived.Lib.Walk
import Derived.RangeFuncRecord
import Derived.OwnWalkIn
import Derived.TacticsInMore
import Derived.LoopNIn
import Derived.LoopIn
import Derived.WalkKit
import Derived.BigFrameIn
import Derived.BigCall
import Derived.BigGuard
import Derived.KernelRfl
set_option linter.all false
namespace Go.Sim
variable [Base]
open Go.Proofs Go.RowKit Go.Shelf

theorem box_at {w : World} {S : Cells} {H : Heap} {β : Bl} (hR : Rel w S H β) {id : Nat} {x : T} {u : Value} (hu : RV w S H β (.ptr id 1 0 0) u) (hx : H[id]? = some ⟨[.t x], 1, false⟩) (hc : (V.t x).cells = [.t x]) :
    ∃ b cap, u = .pointer (some ⟨b, 0, none⟩) ∧ β[id]? = some (b, cap) ∧ ∃ v, RT w S x v ∧ w.cell? ⟨b, 0, none⟩ = some v ∧ w.frozen? ⟨b, 0, none⟩ = false := by
  cases hu with
  | ptr _ _ _ _ _ h =>
    obtain ⟨_, o, ho, _, hb⟩ := h
    rw [hx] at ho; cases ho
    obtain ⟨_, b, cap, hβ, hu⟩ := hb rfl
    obtain ⟨cs, Ty, hh, hsz, hcc⟩ := ((hR.obj id _ b cap hx hβ).live (by simp)).row
    have hcc := (hcc 0 (by simp)).2
    simp only [List.getElem_cons_zero, hc] at hcc
    obtain ⟨v, h1, h2⟩ := hcc 0 (by simp)
    refine ⟨b, cap, by simpa using hu, hβ, v, rv_t (by simpa using h2), by rw [cell_of_heap hh]; simpa using h1, by simp [World.frozen?, hh]⟩
theorem rdS_at {H : Heap} {id : Nat} {s : ByteArray} (h : rdS H id = some s) : H[id]? = some (boxS s) := by
  unfold rdS at h
  split at h
  · rename_i s' h1
    simp only [Option.some.injEq] at h; subst h; exact h1
  · cases h
theorem rdI_at {H : Heap} {id : Nat} {n : Int} (h : rdI H id = some n) : H[id]? = some ⟨[.t (.int .i64 n)], 1, false⟩ := by
  unfold rdI at h
  split at h
  · rename_i s' h1
    simp only [Option.some.injEq] at h; subst h; exact h1
  · cases h
theorem box_str {w : World} {S : Cells} {H : Heap} {β : Bl} (hR : Rel w S H β) {id : Nat} {s : ByteArray} {u : Value} (hu : RV w S H β (.ptr id 1 0 0) u) (hx : rdS H id = some s) :
    ∃ b cap, u = .pointer (some ⟨b, 0, none⟩) ∧ β[id]? = some (b, cap) ∧ w.cell? ⟨b, 0, none⟩ = some (.string s) ∧ w.frozen? ⟨b, 0, none⟩ = false := by
  obtain ⟨b, cap, h1, h2, v, h3, h4, h5⟩ := box_at hR hu (rdS_at hx) rfl
  cases h3
  exact ⟨b, cap, h1, h2, h4, h5⟩
theorem box_int {w : World} {S : Cells} {H : Heap} {β : Bl} (hR : Rel w S H β) {id : Nat} {n : Int} {u : Value} (hu : RV w S H β (.ptr id 1 0 0) u) (hx : rdI H id = some n) :
    ∃ b cap, u = .pointer (some ⟨b, 0, none⟩) ∧ β[id]? = some (b, cap) ∧ w.cell? ⟨b, 0, none⟩ = some (.int .i64 n) ∧ w.frozen? ⟨b, 0, none⟩ = false := by
  obtain ⟨b, cap, h1, h2, v, h3, h4, h5⟩ := box_at hR hu (rdI_at hx) rfl
  cases h3
  exact ⟨b, cap, h1, h2, h4, h5⟩
theorem box_set {w : World} {S : Cells} {H : Heap} {β : Bl} (hR : Rel w S H β) {id : Nat} {s : ByteArray} (s' : ByteArray) {b cap : Nat} (hx : rdS H id = some s) (hβ : β[id]? = some (b, cap)) :
    Ext w S H β (w.setCell ⟨b, 0, none⟩ (.string s')) S (H.set id (boxS s')) β ∧ Rel (w.setCell ⟨b, 0, none⟩ (.string s')) S (H.set id (boxS s')) β := by
  obtain ⟨cs, Ty, hh, hsz, hcc⟩ := ((hR.obj id _ b cap (rdS_at hx) hβ).live (by simp [boxS])).row
  have h0 := (hcc 0 (by simp [boxS])).2 0 (by simp [boxS, V.cells])
  obtain ⟨u0, h1, _⟩ := h0
  have hpos : 0 < cs.size := by
    rcases Nat.lt_or_ge 0 cs.size with h | h
    · exact h
    · rw [Array.getElem?_eq_none (by simpa using h)] at h1; cases h1
  have := hR.write (id := id) (o := boxS s) (el := [.t (.str s')]) (cs' := cs.setIfInBounds 0 (.string s')) (rdS_at hx) (by simp [boxS]) hβ rfl rfl hh (by simp) (by
    intro i hi
    have hi0 : i = 0 := by simp at hi; omega
    subst hi0
    refine ⟨rfl, fun j hj => ?_⟩
    have hj0 : j = 0 := by simp [V.cells] at hj; omega
    subst hj0
    exact ⟨.string s', by simp [hpos], .t _ _ (.str _)⟩)
  have hw : w.setRow b (cs.setIfInBounds 0 (.string s')) = w.setCell ⟨b, 0, none⟩ (.string s') := by
    unfold World.setRow World.setCell
    congr 1
    apply Array.ext_getElem?
    intro i
    simp only [Array.getElem?_modify]
    by_cases hi : b = i
    · subst hi
      simp [hh]
    · simp [hi]
  rw [← hw]
  exact this

theorem segs_head (c : UInt8) (sv n : Nat) (s : ByteArray) : ∃ x r, segsF c sv n s = (x, s) :: r := by
  cases n with
  | zero => exact ⟨s, [], rfl⟩
  | succ n =>
    unfold segsF
    split
    · exact ⟨s, [], rfl⟩
    · exact ⟨_, _, rfl⟩
theorem index_lt (l : List UInt8) (c : UInt8) : Go.Lib.indexByte l c < l.length := by
  induction l with
  | nil => simp [Go.Lib.indexByte]
  | cons b l ih =>
    unfold Go.Lib.indexByte
    have : ((b :: l).length : Int) = l.length + 1 := by simp
    split
    · omega
    · split <;> omega
noncomputable def leftOf (b : Nat) (W : World) : Nat := match W.cell? ⟨b, 0, none⟩ with
  | some (.string s) => s.size
  | _ => 0

set_option maxRecDepth 100000 in
set_option maxHeartbeats 4000000 in
theorem split_seq (caps : List V) (H : Heap) (l : List (T × (Heap → Option Heap))) (fin : Heap → Option Heap) (h : seqSplit caps H = some (l, fin)) (w : World) (S : Cells) (β : Bl) (us : List Value) (yl : Nat) (J : List (T × (Heap → Option Heap)) → Heap → World → Cells → Bl → Prop) (hR : Rel w S H β)
    (hl : caps.length = us.length) (hv : ∀ i (hi : i < caps.length) (hu : i < us.length), RV w S H β caps[i] us[i])
    (hJ : ∀ r H1 W1 S1 β1, J r H1 W1 S1 β1 → Rel W1 S1 H1 β1 ∧ Ext w S H β W1 S1 H1 β1)
    (hstep : ∀ x m r H1 W1 S1 β1, J ((x, m) :: r) H1 W1 S1 β1 → ∃ H2, m H1 = some H2 ∧ ∀ W2 S2 β2 u, Ext W1 S1 H1 β1 W2 S2 H2 β2 → Rel W2 S2 H2 β2 → RT W2 S2 x u →
      ∀ n, YieldAt Fence.wide n Tryz.prog yl #[u] W2 fun e W3 => e = .returned (.bool true) ∧ ∃ H3 S3 β3, J r H3 W3 S3 β3) (h0 : J l H w S β) :
    CallsIn Fence.wide 1 Tryz.prog 68 (#[.func (.yield yl) #[] #[]] ++ us.toArray) w fun e W' => (∃ v, e = .returned v) ∧ ∃ H1 W1 S1 β1 H2 S2 β2, J [] H1 W1 S1 β1 ∧ fin H1 = some H2 ∧ Ext W1 S1 H1 β1 W' S2 H2 β2 ∧ Rel W' S2 H2 β2 := by
  unfold seqSplit at h
  split at h
  rotate_left
  · cases h
  rename_i a b k
  split at h
  rotate_left
  · cases h
  rename_i sep s0 sv ha hb hk
  split at h
  rotate_left
  · cases h
  rename_i hc
  obtain ⟨hsep, hab, hsv0, hsv1, hsz⟩ := hc
  simp only [Option.some.injEq, Prod.mk.injEq] at h
  obtain ⟨rfl, rfl⟩ := h
  generalize hc : sep.get! 0 = c at *
  subst hsep
  obtain ⟨sn, rfl⟩ := Int.eq_ofNat_of_zero_le hsv0
  match us, hl with
  | [ua, ub, uk], _ =>
  have va := hv 0 (by simp) (by simp)
  have vb := hv 1 (by simp) (by simp)
  have vk := hv 2 (by simp) (by simp)
  simp only [List.getElem_cons_zero, List.getElem_cons_succ] at va vb vk
  obtain ⟨ba, ca, rfl, hβa, hca, _⟩ := box_str hR va ha
  obtain ⟨bb, cb, rfl, hβb, hcb, hfb⟩ := box_str hR vb hb
  obtain ⟨bk, ck, rfl, hβk, hck, _⟩ := box_int hR vk hk
  -- what the variables hold, at any time
  have later : ∀ {W1 S1 H1 β1}, Ext w S H β W1 S1 H1 β1 → Rel W1 S1 H1 β1 → ∀ {s : ByteArray}, rdS H1 a = some ⟨#[c]⟩ → rdS H1 b = some s → rdI H1 k = some (sn : Int) →
      W1.cell? ⟨ba, 0, none⟩ = some (.string ⟨#[c]⟩) ∧ W1.cell? ⟨bb, 0, none⟩ = some (.string s) ∧ W1.cell? ⟨bk, 0, none⟩ = some (.int .i64 sn) ∧ W1.frozen? ⟨bb, 0, none⟩ = false ∧ ∃ cb, β1[b]? = some (bb, cb) := by
    intro W1 S1 H1 β1 hE hR1 s h1 h2 h3
    obtain ⟨b1, c1, e1, _, h4, _⟩ := box_str hR1 (va.mono hE.stay hE.grow) h1
    obtain ⟨b2, c2, e2, h5, h6, h7⟩ := box_str hR1 (vb.mono hE.stay hE.grow) h2
    obtain ⟨b3, c3, e3, _, h8, _⟩ := box_int hR1 (vk.mono hE.stay hE.grow) h3
    cases e1; cases e2; cases e3
    exact ⟨h4, h6, h8, h7, c2, h5⟩
  have setb : ∀ {H1 : Heap} {s s' : ByteArray}, rdS H1 a = some ⟨#[c]⟩ → rdS H1 b = some s → rdI H1 k = some (sn : Int) → rdS (H1.set b (boxS s')) a = some ⟨#[c]⟩ ∧ rdS (H1.set b (boxS s')) b = some s' ∧ rdI (H1.set b (boxS s')) k = some (sn : Int) := by
    intro H1 s s' h1 h2 h3
    have hbl : b < H1.length := by
      have := rdS_at h2
      exact (List.getElem?_eq_some_iff.1 this).1
    have hbk : b ≠ k := by
      rintro rfl
      have e1 := rdS_at h2
      have e2 := rdI_at h3
      rw [e1] at e2
      cases e2
    refine ⟨?_, ?_, ?_⟩
    · unfold rdS; rw [List.getElem?_set_ne (Ne.symm hab)]; exact h1
    · unfold rdS; rw [List.getElem?_set_self hbl]; rfl
    · unfold rdI; rw [List.getElem?_set_ne hbk]; exact h3
  have atHead : ∀ {prev s x r H1 W1 S1 β1}, J (itemsF a b k c sn prev ((x, s) :: r)) H1 W1 S1 β1 → rdS H1 a = some ⟨#[c]⟩ ∧ rdS H1 b = some prev ∧ rdI H1 k = some (sn : Int) := by
    intro prev s x r H1 W1 S1 β1 hj
    obtain ⟨H2, hm, _⟩ := hstep _ _ _ _ _ _ _ hj
    split at hm
    · rename_i hh; exact hh
    · cases hm
  have goY : ∀ {prev s x r H1 W1 S1 β1}, J (itemsF a b k c sn prev ((x, s) :: r)) H1 W1 S1 β1 → ∀ W2 S2 β2, Ext W1 S1 H1 β1 W2 S2 (H1.set b (boxS s)) β2 → Rel W2 S2 (H1.set b (boxS s)) β2 →
      ∀ n, YieldAt Fence.wide n Tryz.prog yl #[.string x] W2 fun e W3 => e = .returned (.bool true) ∧ ∃ H3 S3 β3, J (itemsF a b k c sn s r) H3 W3 S3 β3 := by
    intro prev s x r H1 W1 S1 β1 hj W2 S2 β2 hE2 hR2
    obtain ⟨H2, hm, hy⟩ := hstep _ _ _ _ _ _ _ hj
    split at hm
    · simp only [Option.some.injEq] at hm
      subst hm
      exact hy W2 S2 β2 _ hE2 hR2 (.str x)
    · cases hm
  have hs0 : H.set b (boxS s0) = H := by
    apply List.ext_getElem?
    intro i
    by_cases e : b = i
    · subst e
      have := rdS_at hb
      rw [List.getElem?_set_self (List.getElem?_eq_some_iff.1 this).1, this]
    · rw [List.getElem?_set_ne e]
  refine callsIn_of_wp Tryz.func68 rfl trivial ?_ rfl
  simp only [Tryz.ntmps68, List.size_toArray, List.length_cons, List.length_nil, Nat.reduceAdd, Nat.reduceSub, Array.replicate_succ, Array.replicate_zero, List.push_toArray, List.append_toArray, List.nil_append, List.cons_append]
  simp only [Int.toNat_natCast] at h0
  gi_wp2
  gi_loopw [7] (fun _ W => ∃ (n : Nat) (prev s : ByteArray) (H1 : Heap) (W1 : World) (S1 : Cells) (β1 : Bl) (S2 : Cells) (β2 : Bl), J (itemsF a b k c sn prev (segsF c sn n s)) H1 W1 S1 β1 ∧ s.size < n ∧ Ext W1 S1 H1 β1 W S2 (H1.set b (boxS s)) β2 ∧ Rel W S2 (H1.set b (boxS s)) β2 ∧ s.size ≤ 1000000000)
    (fun _ W => leftOf bb W)
  case atStart =>
    exact ⟨s0.size + 1, s0, s0, H, w, S, β, S, β, h0, by omega, by rw [hs0]; exact Ext.refl _ _ _ _, by rw [hs0]; exact hR, hsz⟩
  case round =>
    obtain ⟨n, prev, s, H1, W1, S1, β1, S2, β2, hj, hlt, hE2, hR2, hs9⟩ := hrel
    have hE1 := (hJ _ _ _ _ _ hj).2
    obtain ⟨x0, r0, hsg⟩ := segs_head c sn n s
    have hbx : rdS H1 a = some ⟨#[c]⟩ ∧ rdS H1 b = some prev ∧ rdI H1 k = some (sn : Int) := by rw [hsg] at hj; exact atHead hj
    obtain ⟨n1, n2, n3⟩ := setb (s' := s) hbx.1 hbx.2.1 hbx.2.2
    obtain ⟨c1, c2, c3, _, _⟩ := later (hE1.trans hE2) hR2 n1 n2 n3
    gi_wp2
    refine ⟨trivial, (callsIn_wide.2 (Any.strings_Index_one Tryz.lays143 s c _)).mono ?_⟩
    rintro e w' ⟨rfl, rfl⟩
    have hil := index_lt s.data.toList c
    obtain ⟨n, rfl⟩ : ∃ m, n = m + 1 := ⟨n - 1, by omega⟩
    by_cases hi : Go.Lib.indexByte s.data.toList c < 0
    · have hd : decide (Go.Lib.indexByte s.data.toList c < 0) = true := decide_eq_true hi
      have hsf : segsF c sn (n + 1) s = [(s, s)] := by unfold segsF; rw [if_pos hi]
      rw [hsf] at hj
      obtain ⟨fn, tmps, assign, body, hy, hRd⟩ := goY hj _ _ _ hE2 hR2 0
      gi_wp2
      refine hRd.mono ?_
      rintro e W3 ⟨rfl, H3, S3, β3, hj3⟩
      gi_wp2
      first | go_end0 | go_ret
      exact ⟨⟨_, rfl⟩, H3, W3, S3, β3, H3, S3, β3, hj3, rfl, Ext.refl _ _ _ _, (hJ _ _ _ _ _ hj3).1⟩
    · have hsf : segsF c sn (n + 1) s = (s.extract 0 ((Go.Lib.indexByte s.data.toList c).toNat + sn), s) :: segsF c sn n (s.extract ((Go.Lib.indexByte s.data.toList c).toNat + 1) s.size) := by
        conv => lhs; unfold segsF
        rw [if_neg hi]
      rw [hsf] at hj
      obtain ⟨i, hii⟩ := Int.eq_ofNat_of_zero_le (by omega : 0 ≤ Go.Lib.indexByte s.data.toList c)
      rw [hii] at hil hj ⊢
      rw [Int.toNat_natCast] at hj
      have hil' : i < s.size := by have := ByteArray.size_data (a := s); simp at hil; omega
      obtain ⟨fn, tmps, assign, body, hy, hRd⟩ := goY hj _ _ _ hE2 hR2 0
      gi_wp2
      refine hRd.mono ?_
      rintro e W3 ⟨rfl, H3, S3, β3, hj3⟩
      obtain ⟨x3, r3, hsg3⟩ := segs_head c sn n (s.extract (i + 1) s.size)
      have hb3 : rdS H3 a = some ⟨#[c]⟩ ∧ rdS H3 b = some s ∧ rdI H3 k = some (sn : Int) := by rw [hsg3] at hj3; exact atHead hj3
      have hR3 := (hJ _ _ _ _ _ hj3).1
      obtain ⟨d1, d2, d3, d4, cb3, d5⟩ := later (hJ _ _ _ _ _ hj3).2 hR3 hb3.1 hb3.2.1 hb3.2.2
      gi_wp2
      go_roundw
      case rel =>
        obtain ⟨q1, q2⟩ := box_set hR3 (s.extract (i + 1) s.size) hb3.2.1 d5
        refine ⟨n, s, _, H3, W3, S3, β3, S3, β3, hj3, ?_, q1, q2, ?_⟩
        · rw [ByteArray.size_extract]; omega
        · rw [ByteArray.size_extract]; omega
      case measure =>
        unfold leftOf
        rw [World.cell?_setCell_same' _ _ _ (by rw [d2]; rfl), c2]
        simp only [ByteArray.size_extract]
        omega

theorem seqOk : SeqOk Tryz.prog := by
  intro f caps H l fin h
  have hf : f = 68 := by
    simp only [Orc.seq] at h
    split at h
    · rfl
    · cases h
  subst hf
  refine ⟨⟨_, Tryz.func68, by kernel_rfl, by kernel_rfl⟩, ?_⟩
  intro w S β us yl J hR hl hv hJ hstep _ h0
  exact callsIn_wide.1 (split_seq caps H l fin h w S β us yl J hR hl hv hJ hstep h0)
end Go.Sim
