/- A part of the proof of a law of module cupola: Q8, Q9. It has no conditions of its own. -/
import Derived.Test.YtkfceeaokfdmfaaGreatDoorQuC
set_option linter.all false
set_option maxRecDepth 100000
namespace Go.Sim
open Enc (enc)
open Go.Proofs
def s1 : Fs := ⟨1#32, [], []⟩
theorem s1_few : fewF s1 = true := by decide
theorem s1_wf : WfF s1 := ⟨fun n h => (by cases h), fun r h => (by cases h)⟩
theorem s1_ok : OkQ s1 := few_okQ s1_wf s1_few
theorem Que.fn {H H' : Heap} {f : FuncId} {vs : List V} {u : V} (g : FunH Tryz.prog f vs H u H') (hn : toTs H vs = none) (hu : u.isDead = false) {K : Kv} : @F _ Tryz.prog f vs H K = K.k u H' (.ran H H') := (F_heap hn).trans (HeapGo_eq g hu)
@[go_sem] theorem box1_q {H : Heap} : box1 (.agg [.ex [], .t .nilm]) H = some ⟨.ptr H.length 1 0 0, H ++ [⟨[.agg [.ex [], .t .nilm]], 2, false⟩], .none⟩ := rfl
theorem law21_shown : Fun Tryz.prog 6 [] (.t (.bool true)) := by
  have q0 : Que [⟨[.agg [.ex [], .t .nilm]], 2, false⟩] 0 none none [] [] := Que.new []
  have hv : ∀ H mv, ValF H 0 mv (.agg [.t (.int .u32 ((1#32 : U32).toNat : Int)), .ex [], .ex []]) s1 := fun H mv => ValF.agg H 0 mv (d := 1#32)
  obtain ⟨H1, r1, m1, l1, k1, g1, q1, f1, _, p1⟩ := q0.push (s := s1) (by decide) s1_ok (hv _ _)
  have hc0 : ([] : List ByteArray).contains (codeB s1) = false := rfl
  rw [hc0] at g1
  obtain ⟨hp1, rfl⟩ := p1 hc0
  have hl1 : l1 = [s1] := List.perm_singleton.1 hp1
  subst hl1
  obtain ⟨H2, r2, m2, l2, k2, g2, q2, f2, p2, _⟩ := q1.push (s := s1) (by decide) s1_ok (hv _ _)
  have hc : ([] ++ [codeB s1] : List ByteArray).contains (codeB s1) = true := by simp
  obtain ⟨rfl, rfl⟩ := p2 hc
  rw [hc] at g2
  obtain ⟨H3, r3, m3, l3, x, g3, q3, f3, hp3, _⟩ := q2.pop (by decide) (by decide)
  have hx : x = s1 ∧ l3 = [] := by
    have := List.perm_singleton.1 hp3
    simpa using this
  obtain ⟨rfl, rfl⟩ := hx
  have e1 := fun {K : Kv} => Que.fn g1 (by rfl) rfl (K := K)
  have e2 := fun {K : Kv} => Que.fn g2 (by rfl) rfl (K := K)
  have e3 := fun {K : Kv} => Que.fn g3 (by rfl) rfl (K := K)
  have e4 := fun {K : Kv} => Que.fn (que_Seen (q3.more [⟨[.t (enc s1)], 3, false⟩]).a) (by rfl) rfl (K := K)
  have e5 := fun {K : Kv} => Que.fn (que_Len (q3.more [⟨[.t (enc s1)], 3, false⟩]).a) (by rfl) rfl (K := K)
  refine Fun.go (b := false) Tryz.func6 rfl rfl (by kernel_rfl) (by kernel_rfl) ?_
  have hd : s1.d = 1#32 := rfl
  simp -implicitDefEqProofs (disch := first | exact dsch | (simp only [go_sem, e1, e2, e3, e4, e5, hd]; omega) | (refine of_eq_true ?_; simp (disch := first | omega | (refine of_eq_true ?_; simp only [go_sem, e1, e2, e3, e4, e5, hd]; done) | (simp only [go_sem, e1, e2, e3, e4, e5, hd]; omega)) only [go_sem, e1, e2, e3, e4, e5, hd]; done) | fail) only [go_sem, ↓reduceIte, Nat.reduceEqDiff, e1, e2, e3, e4, e5, hd]
@[go_sem] theorem pu_shown21 {K : Kp} : @Pu _ Tryz.prog 6 [] K = K.k (.t (.bool true)) := law21_shown.pu
end Go.Sim

set_option maxRecDepth 100000
namespace Go.Sim
open Enc (enc)
open Go.Proofs
theorem fewQ_iff {l : List Fs} : fewQ l = true ↔ l.length ≤ 100 ∧ ∀ x ∈ l, fewF x = true := by
  unfold fewQ; rw [Bool.and_eq_true, decide_eq_true_eq, List.all_eq_true]
theorem codeB_mem {l : List Fs} {ks : List ByteArray} (h : ∀ x ∈ l, codeB x ∈ ks) {x : Fs} (hx : x ∈ l) : ks.contains (codeB x) = true := List.contains_iff_mem.2 (h x hx)
theorem take_gdF {l : List Fs} {i : Nat} (h : i < l.length) {x : Fs} (hx : x ∈ l.take (i + 1)) : x ∈ l.take i ∨ x = gd l i := by
  rw [← take_gd h] at hx
  rcases List.mem_append.1 hx with hx | hx
  · exact .inl hx
  · exact .inr (List.mem_singleton.1 hx)
end Go.Sim
