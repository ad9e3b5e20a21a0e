/- A part of the proof of a law of module cupola: Q14, Q15. It has no conditions of its own. -/
import Derived.Test.YtkfceeaokfdmfaaGreatDoorQuF
set_option linter.all false
set_option maxRecDepth 100000
namespace Go.Sim
open Enc (enc)
open Go.Proofs
def idOf : V → Option Nat
  | .ref id _ => some id
  | _ => none
def LV (H : Heap) (v : V) (l : List Int) : Prop := (l = [] ∧ (v = .ex [] ∨ v = .t (.sl []))) ∨ ∃ id, v = .ref id l.length ∧ H[id]? = some ⟨vs l, 1, false⟩ ∧ l ≠ []
theorem LV.toT {H : Heap} {v : V} {l : List Int} (h : LV H v l) (k : Nat) : Go.Sim.toT H (k + 1) v = some (enc l) := by
  rcases h with ⟨rfl, rfl | rfl⟩ | ⟨id, rfl, h, _⟩
  · rfl
  · rfl
  · show (match cur H id l.length with | some o => (o.el.mapM (Go.Sim.toT H k)).map T.sl | none => none) = _
    rw [cur_some h (vs_len _)]
    have : ∀ l : List Int, (vs l).mapM (Go.Sim.toT H k) = some (l.map enc) := by
      intro l
      induction l with
      | nil => rfl
      | cons a l ih =>
        show (((V.t (enc a)) :: vs l).mapM (Go.Sim.toT H k)) = _
        rw [List.mapM_cons, ih]
        cases k <;> rfl
    show ((vs l).mapM (Go.Sim.toT H k)).map T.sl = _
    rw [this]; rfl
theorem LV.same {H H' : Heap} {v : V} {l : List Int} (h : LV H v l) (k : ∀ id, idOf v = some id → H'[id]? = H[id]?) : LV H' v l := by
  rcases h with h | ⟨id, rfl, h, h2⟩
  · exact .inl h
  · exact .inr ⟨id, rfl, by rw [k id rfl]; exact h, h2⟩
theorem LV.one {H : Heap} {v : V} {l : List Int} (h : LV H v l) : v.cells.length = 1 ∧ v.storable = true := by
  rcases h with ⟨rfl, rfl | rfl⟩ | ⟨id, rfl, h, _⟩ <;> exact ⟨rfl, rfl⟩
theorem LV.at {H : Heap} {v : V} {l : List Int} (h : LV H v l) {id : Nat} (hi : idOf v = some id) : id < H.length := by
  rcases h with ⟨rfl, rfl | rfl⟩ | ⟨id', rfl, h, _⟩
  · cases hi
  · cases hi
  · cases hi; exact at_lt h
def LW (H : Heap) (lv : V) (cells : List V) : Prop := (cells = [] ∧ lv = .ex []) ∨ ∃ id, lv = .ref id cells.length ∧ H[id]? = some ⟨cells, 1, false⟩ ∧ cells ≠ []
theorem LW.at {H : Heap} {v : V} {l : List V} (h : LW H v l) {id : Nat} (hi : idOf v = some id) : id < H.length := by
  rcases h with ⟨rfl, rfl⟩ | ⟨id', rfl, h, _⟩
  · cases hi
  · cases hi; exact at_lt h
theorem LW.same {H H' : Heap} {v : V} {l : List V} (h : LW H v l) (k : ∀ id, idOf v = some id → H'[id]? = H[id]?) : LW H' v l := by
  rcases h with h | ⟨id, rfl, h, h2⟩
  · exact .inl h
  · exact .inr ⟨id, rfl, by rw [k id rfl]; exact h, h2⟩
def idsX (xi : Nat) (fv lv : V) (cells : List V) : List Nat := xi :: (fv :: lv :: cells).filterMap idOf
def stX (d : U32) (fv lv : V) : V := .agg [.t (.int .u32 (d.toNat : Int)), fv, lv]
structure OX (H : Heap) (xi : Nat) (d : U32) (fv lv : V) (f : List Int) (cells : List V) (rows : List (List Int)) (rv mv : Option Nat) : Prop where
  x : H[xi]? = some ⟨[stX d fv lv], 3, false⟩
  f : LV H fv f
  l : LW H lv cells
  rl : cells.length = rows.length
  r : ∀ j, j < rows.length → LV H (cells.getD j (.ex [])) (rows.getD j [])
  nd : (idsX xi fv lv cells).Nodup
  big : ∀ id ∈ idsX xi fv lv cells, 2 ≤ id ∧ rv ≠ some id ∧ mv ≠ some id
theorem mem_idsX {xi : Nat} {fv lv : V} {cells : List V} {id : Nat} : id ∈ idsX xi fv lv cells ↔ id = xi ∨ idOf fv = some id ∨ idOf lv = some id ∨ ∃ j, j < cells.length ∧ idOf (cells.getD j (.ex [])) = some id := by
  unfold idsX
  rw [List.mem_cons, List.mem_filterMap]
  simp only [List.mem_cons]
  constructor
  · rintro (h | ⟨v, rfl | rfl | h, h2⟩)
    · exact .inl h
    · exact .inr (.inl h2)
    · exact .inr (.inr (.inl h2))
    · obtain ⟨j, hj, rfl⟩ := List.mem_iff_getElem.1 h
      exact .inr (.inr (.inr ⟨j, hj, by rw [List.getD_eq_getElem?_getD, List.getElem?_eq_getElem hj]; exact h2⟩))
  · rintro (h | h | h | ⟨j, hj, h⟩)
    · exact .inl h
    · exact .inr ⟨fv, .inl rfl, h⟩
    · exact .inr ⟨lv, .inr (.inl rfl), h⟩
    · refine .inr ⟨cells[j], .inr (.inr (List.getElem_mem hj)), ?_⟩
      rw [List.getD_eq_getElem?_getD, List.getElem?_eq_getElem hj] at h; exact h
theorem OX.lt {H : Heap} {xi : Nat} {d : U32} {fv lv : V} {f : List Int} {cells : List V} {rows : List (List Int)} {rv mv : Option Nat} (h : OX H xi d fv lv f cells rows rv mv) {id : Nat} (hi : id ∈ idsX xi fv lv cells) : id < H.length := by
  rcases mem_idsX.1 hi with rfl | hi | hi | ⟨j, hj, hi⟩
  · exact at_lt h.x
  · exact h.f.at hi
  · exact h.l.at hi
  · exact (h.r j (by rw [← h.rl]; exact hj)).at hi
theorem OX.same {H H' : Heap} {xi : Nat} {d : U32} {fv lv : V} {f : List Int} {cells : List V} {rows : List (List Int)} {rv mv rv' mv' : Option Nat} (h : OX H xi d fv lv f cells rows rv mv)
    (k : ∀ id ∈ idsX xi fv lv cells, H'[id]? = H[id]?) (hb : ∀ id ∈ idsX xi fv lv cells, rv' ≠ some id ∧ mv' ≠ some id) : OX H' xi d fv lv f cells rows rv' mv' where
  x := by rw [k xi (mem_idsX.2 (.inl rfl))]; exact h.x
  f := h.f.same fun id hi => k id (mem_idsX.2 (.inr (.inl hi)))
  l := h.l.same fun id hi => k id (mem_idsX.2 (.inr (.inr (.inl hi))))
  rl := h.rl
  r := fun j hj => (h.r j hj).same fun id hi => k id (mem_idsX.2 (.inr (.inr (.inr ⟨j, by rw [h.rl]; exact hj, hi⟩))))
  nd := h.nd
  big := fun id hi => ⟨(h.big id hi).1, hb id hi⟩
theorem OX.push {H H' : Heap} {xi : Nat} {d : U32} {fv lv : V} {f : List Int} {cells : List V} {rows : List (List Int)} {rv mv rv' mv' : Option Nat} (h : OX H xi d fv lv f cells rows rv mv) (fr : Fram H H' 1 rv mv rv' mv') : OX H' xi d fv lv f cells rows rv' mv' := by
  refine h.same (fun id hi => ?_) fun id hi => ?_
  · obtain ⟨h1, h2, h3⟩ := h.big id hi
    exact fr.keep id (h.lt hi) (by omega) h2 h3
  · obtain ⟨h1, h2, h3⟩ := h.big id hi
    have := h.lt hi
    constructor
    · rcases fr.rown with e | ⟨r, hr, e⟩ <;> rw [e]
      · exact h2
      · intro e'; cases e'; omega
    · rcases fr.mown with e | ⟨r, hr, e⟩ <;> rw [e]
      · exact h3
      · intro e'; cases e'; omega
theorem OX.more {H : Heap} {xi : Nat} {d : U32} {fv lv : V} {f : List Int} {cells : List V} {rows : List (List Int)} {rv mv : Option Nat} (h : OX H xi d fv lv f cells rows rv mv) (X : Heap) : OX (H ++ X) xi d fv lv f cells rows rv mv := h.same (fun id hi => at_app (h.lt hi) X) fun id hi => (h.big id hi).2
theorem OX.toTl {H : Heap} {xi : Nat} {d : U32} {fv lv : V} {f : List Int} {cells : List V} {rows : List (List Int)} {rv mv : Option Nat} (h : OX H xi d fv lv f cells rows rv mv) : Go.Sim.toT H 3 lv = some (enc rows) := by
  have hm : ∀ (cells : List V) (rows : List (List Int)), cells.length = rows.length → (∀ j, j < rows.length → LV H (cells.getD j (.ex [])) (rows.getD j [])) → cells.mapM (Go.Sim.toT H 2) = some (rows.map enc) := by
    intro cells
    induction cells with
    | nil => intro rows hl _; cases rows with
      | nil => rfl
      | cons _ _ => simp at hl
    | cons c cells ih => intro rows hl hr; cases rows with
      | nil => simp at hl
      | cons r rows =>
        have h0 := (hr 0 (by simp)).toT 1
        have := ih rows (by simpa using hl) (fun j hj => hr (j + 1) (by simpa using hj))
        rw [List.mapM_cons, this]
        have h0' : Go.Sim.toT H 2 c = some (enc r) := h0
        rw [h0']; rfl
  have hmm := hm cells rows h.rl h.r
  rcases h.l with ⟨hc, rfl⟩ | ⟨id, rfl, hid, _⟩
  · have : rows = [] := List.length_eq_zero_iff.1 (by rw [← h.rl, hc]; rfl)
    subst this; rfl
  · show (match cur H id cells.length with | some o => (o.el.mapM (Go.Sim.toT H 2)).map T.sl | none => none) = _
    rw [cur_some hid rfl]
    show (cells.mapM (Go.Sim.toT H 2)).map T.sl = _
    rw [hmm]; rfl
theorem OX.toT {H : Heap} {xi : Nat} {d : U32} {fv lv : V} {f : List Int} {cells : List V} {rows : List (List Int)} {rv mv : Option Nat} (h : OX H xi d fv lv f cells rows rv mv) : Go.Sim.toT H depth (stX d fv lv) = some (enc (⟨d, f, rows⟩ : Fs)) := by
  have h1 := h.f.toT 2
  have h2 := h.toTl
  show (([.t (.int .u32 (d.toNat : Int)), fv, lv] : List V).mapM (Go.Sim.toT H 3)).map T.agg = _
  rw [List.mapM_cons, List.mapM_cons, List.mapM_cons, List.mapM_nil, h1, h2]
  rfl
theorem OX.val {H : Heap} {xi : Nat} {d : U32} {fv lv : V} {f : List Int} {cells : List V} {rows : List (List Int)} {rv mv : Option Nat} (h : OX H xi d fv lv f cells rows rv mv) : ValF H 1 mv (stX d fv lv) ⟨d, f, rows⟩ where
  st := by
    rcases h.f with ⟨_, rfl | rfl⟩ | ⟨id, rfl, _⟩ <;> rcases h.l with ⟨_, rfl⟩ | ⟨id, rfl, _⟩ <;> rfl
  cl := rfl
  rd := rfl
  to := fun H' hk => by
    have h' : OX H' xi d fv lv f cells rows none none := h.same (fun id hi => hk id (h.lt hi) (by have := (h.big id hi).1; omega) (h.big id hi).2.2) fun id hi => ⟨by simp, by simp⟩
    exact h'.toT
theorem idsX_snoc {xi : Nat} {fv lv c : V} {cells : List V} : idsX xi fv lv (cells ++ [c]) = idsX xi fv lv cells ++ (idOf c).toList := by
  unfold idsX
  rw [show fv :: lv :: (cells ++ [c]) = (fv :: lv :: cells) ++ [c] from rfl, List.filterMap_append]
  have : List.filterMap idOf [c] = (idOf c).toList := by
    rw [List.filterMap_cons]; cases idOf c <;> rfl
  rw [this]; rfl
theorem idsX_E {xi L k : Nat} {fv : V} : idsX xi fv (.ref L k) [] = idsX xi fv (.ex []) [] ++ [L] := by
  unfold idsX
  cases h : idOf fv <;> (simp only [List.filterMap_cons, h]; rfl)
theorem nd_facts {xi : Nat} {fv lv : V} {cells : List V} (h : (idsX xi fv lv cells).Nodup) :
    (∀ a, idOf fv = some a → a ≠ xi) ∧ (∀ b, idOf lv = some b → b ≠ xi ∧ idOf fv ≠ some b) ∧
    (∀ j, j < cells.length → ∀ c, idOf (cells.getD j (.ex [])) = some c → c ≠ xi ∧ idOf fv ≠ some c ∧ idOf lv ≠ some c) ∧
    (∀ j k, j < cells.length → k < cells.length → j ≠ k → ∀ c, idOf (cells.getD j (.ex [])) = some c → idOf (cells.getD k (.ex [])) ≠ some c) := by
  obtain ⟨h1, h2⟩ := List.nodup_cons.1 h
  have hin : ∀ v ∈ fv :: lv :: cells, ∀ a, idOf v = some a → a ≠ xi := fun v hv a ha e => h1 (List.mem_filterMap.2 ⟨v, hv, by rw [ha, e]⟩)
  have step : ∀ (v : V) (l : List V), ((v :: l).filterMap idOf).Nodup → (l.filterMap idOf).Nodup ∧ ∀ u ∈ l, ∀ a, idOf v = some a → idOf u ≠ some a := by
    intro v l hl
    rw [List.filterMap_cons] at hl
    cases hv : idOf v with
    | none => rw [hv] at hl; exact ⟨hl, fun u _ a ha => by cases ha⟩
    | some b =>
      rw [hv] at hl
      obtain ⟨g1, g2⟩ := List.nodup_cons.1 hl
      exact ⟨g2, fun u hu a ha e => g1 (List.mem_filterMap.2 ⟨u, hu, by rw [e, ha]⟩)⟩
  obtain ⟨h3, h4⟩ := step _ _ h2
  obtain ⟨h5, h6⟩ := step _ _ h3
  have mem : ∀ j, j < cells.length → cells.getD j (.ex []) ∈ cells := fun j hj => by
    rw [List.getD_eq_getElem?_getD, List.getElem?_eq_getElem hj]; exact List.getElem_mem hj
  refine ⟨fun a ha => hin fv (by simp) a ha, fun b hb => ⟨hin lv (by simp) b hb, fun e => h4 lv (by simp) b e hb⟩, fun j hj c hc => ?_, ?_⟩
  · exact ⟨hin _ (List.mem_cons_of_mem _ (List.mem_cons_of_mem _ (mem j hj))) c hc, fun e => h4 _ (List.mem_cons_of_mem _ (mem j hj)) c e hc, fun e => h6 _ (mem j hj) c e hc⟩
  · clear mem hin h6 h4 h3 h2 h1 h
    induction cells with
    | nil => intro j k hj; simp at hj
    | cons v cells ih =>
      obtain ⟨g1, g2⟩ := step _ _ h5
      have mem : ∀ j, j < cells.length → cells.getD j (.ex []) ∈ cells := fun j hj => by
        rw [List.getD_eq_getElem?_getD, List.getElem?_eq_getElem hj]; exact List.getElem_mem hj
      intro j k hj hk hne c hc
      cases j with
      | zero => cases k with
        | zero => omega
        | succ k => exact g2 _ (mem k (by simpa using hk)) c hc
      | succ j => cases k with
        | zero => exact fun e => g2 _ (mem j (by simpa using hj)) c e hc
        | succ k => exact ih g1 j k (by simpa using hj) (by simpa using hk) (by omega) c hc
theorem getD_snoc {α : Type} {l : List α} {a d : α} {j : Nat} : (l ++ [a]).getD j d = if j < l.length then l.getD j d else if j = l.length then a else d := by
  rw [List.getD_eq_getElem?_getD, List.getElem?_append]
  split
  · rw [List.getD_eq_getElem?_getD]
  · split
    · rename_i h; subst h; simp
    · rw [List.getElem?_eq_none (by simp; omega)]; rfl
theorem ge2_of {P : Nat → Prop} {l r : List Nat} (h : ∀ id ∈ l, P id) (k : ∀ id ∈ r, P id) : ∀ id ∈ l ++ r, P id := fun id hi => (List.mem_append.1 hi).elim (h id) (k id)
theorem OX.addE {H : Heap} {xi : Nat} {d : U32} {fv c : V} {f r : List Int} (h : OX H xi d fv (.ex []) f [] [] none none) (hc : LV H c r) (hf : ∀ id, idOf c = some id → id ∉ idsX xi fv (.ex []) [] ∧ 2 ≤ id) (hH : 2 ≤ H.length) :
    OX ((H ++ [(⟨[c], 1, false⟩ : Obj)]).set xi ⟨[stX d fv (.ref H.length 1)], 3, false⟩) xi d fv (.ref H.length 1) f [c] [r] none none := by
  have hx := at_lt h.x
  obtain ⟨n1, n2, _, _⟩ := nd_facts h.nd
  refine ⟨set_at (by simp; omega) _, h.f.same fun id hi => ?_, .inr ⟨_, rfl, ?_, by simp⟩, rfl, fun j hj => ?_, ?_, ?_⟩
  · rw [at_ne (Ne.symm (n1 id hi)), at_app (h.f.at hi)]
  · rw [at_ne (by omega)]; exact at_end
  · have : j = 0 := by simp at hj; omega
    subst this
    refine hc.same fun id hi => ?_
    have := (hf id hi).1
    rw [at_ne (fun e => this (mem_idsX.2 (.inl e.symm))), at_app (hc.at hi)]
  · rw [show ([c] : List V) = [] ++ [c] from rfl, idsX_snoc, idsX_E, List.nodup_append, List.nodup_append]
    refine ⟨⟨h.nd, by simp, fun a ha b hb e => ?_⟩, by cases idOf c <;> simp, fun a ha b hb e => ?_⟩
    · rw [List.mem_singleton.1 hb] at e
      have := h.lt ha; omega
    · have hb' : idOf c = some b := by simpa using hb
      subst e
      rcases List.mem_append.1 ha with ha | ha
      · exact (hf a hb').1 ha
      · have := hc.at hb'; rw [List.mem_singleton.1 ha] at this; omega
  · rw [show ([c] : List V) = [] ++ [c] from rfl, idsX_snoc, idsX_E]
    refine ge2_of (ge2_of (fun id hi => h.big id hi) fun id hi => ?_) fun id hi => ?_
    · rw [List.mem_singleton.1 hi]; exact ⟨hH, by simp, by simp⟩
    · exact ⟨(hf id (by simpa using hi)).2, by simp, by simp⟩
theorem OX.addR {H : Heap} {xi lid n : Nat} {d : U32} {fv c : V} {f r : List Int} {cells : List V} {rows : List (List Int)} (h : OX H xi d fv (.ref lid n) f cells rows none none) (hc : LV H c r) (hf : ∀ id, idOf c = some id → id ∉ idsX xi fv (.ref lid n) cells ∧ 2 ≤ id) :
    H[lid]? = some ⟨cells, 1, false⟩ ∧ cells.length = n ∧ OX ((H.set lid ⟨cells ++ [c], 1, false⟩).set xi ⟨[stX d fv (.ref lid (n + 1))], 3, false⟩) xi d fv (.ref lid (n + 1)) f (cells ++ [c]) (rows ++ [r]) none none := by
  have hx := at_lt h.x
  obtain ⟨n1, n2, n3, _⟩ := nd_facts h.nd
  obtain ⟨hl1, hl2⟩ : H[lid]? = some ⟨cells, 1, false⟩ ∧ cells.length = n := by
    rcases h.l with ⟨_, e⟩ | ⟨id, e, h1, _⟩
    · cases e
    · cases e; exact ⟨h1, rfl⟩
  have hl3 := at_lt hl1
  obtain ⟨m1, m2⟩ := n2 lid rfl
  refine ⟨hl1, hl2, set_at (by simp; omega) _, h.f.same fun id hi => ?_, .inr ⟨lid, ?_, ?_, by simp⟩, by simp [h.rl], fun j hj => ?_, ?_, ?_⟩
  · rw [at_ne (Ne.symm (n1 id hi)), at_ne (fun e => m2 (by rw [e]; exact hi))]
  · simp [hl2]
  · rw [at_ne (Ne.symm m1), set_at hl3]
  · rw [getD_snoc, getD_snoc, h.rl]
    by_cases hj1 : j < rows.length
    · rw [if_pos hj1, if_pos hj1]
      refine (h.r j hj1).same fun id hi => ?_
      obtain ⟨k1, k2, k3⟩ := n3 j (by rw [h.rl]; exact hj1) id hi
      rw [at_ne (Ne.symm k1), at_ne (fun e => k3 (by rw [e]; rfl))]
    · have : j = rows.length := by simp at hj; omega
      rw [if_neg hj1, if_neg hj1, if_pos this, if_pos this]
      refine hc.same fun id hi => ?_
      have := (hf id hi).1
      rw [at_ne (fun e => this (mem_idsX.2 (.inl e.symm))), at_ne (fun e => this (mem_idsX.2 (.inr (.inr (.inl (by rw [← e]; rfl))))))]
  · have e : idsX xi fv (.ref lid (n + 1)) (cells ++ [c]) = idsX xi fv (.ref lid n) cells ++ (idOf c).toList := by rw [idsX_snoc]; rfl
    rw [e, List.nodup_append]
    refine ⟨h.nd, by cases idOf c <;> simp, fun a ha b hb e => ?_⟩
    subst e
    exact (hf a (by simpa using hb)).1 ha
  · have e : idsX xi fv (.ref lid (n + 1)) (cells ++ [c]) = idsX xi fv (.ref lid n) cells ++ (idOf c).toList := by rw [idsX_snoc]; rfl
    rw [e]
    exact ge2_of h.big fun id hi => ⟨(hf id (by simpa using hi)).2, by simp, by simp⟩
theorem OX.setF {H : Heap} {xi fid : Nat} {d : U32} {fv lv : V} {f f' : List Int} {cells : List V} {rows : List (List Int)} {rv mv : Option Nat} (h : OX H xi d fv lv f cells rows rv mv) (hid : idOf fv = some fid) (hl : f'.length = f.length) :
    OX (H.set fid ⟨vs f', 1, false⟩) xi d fv lv f' cells rows rv mv := by
  obtain ⟨n1, n2, n3, _⟩ := nd_facts h.nd
  rcases h.f with ⟨_, rfl | rfl⟩ | ⟨id, hv, h1, h2⟩
  · cases hid
  · cases hid
  · have e : id = fid := by rw [hv] at hid; cases hid; rfl
    subst e
    refine ⟨by rw [at_ne (n1 _ hid)]; exact h.x, .inr ⟨id, by rw [hv, hl], set_at (at_lt h1) _, fun e => h2 (List.length_eq_zero_iff.1 (by rw [← hl, e]; rfl))⟩, h.l.same fun k hk => ?_, h.rl, fun j hj => (h.r j hj).same fun k hk => ?_, h.nd, h.big⟩
    · exact at_ne (fun e => (n2 k hk).2 (by rw [← e]; exact hid)) _
    · exact at_ne (fun e => (n3 j (by rw [h.rl]; exact hj) k hk).2.1 (by rw [← e]; exact hid)) _
theorem OX.setR {H : Heap} {xi i rid : Nat} {d : U32} {fv lv : V} {f r' : List Int} {cells : List V} {rows : List (List Int)} {rv mv : Option Nat} (h : OX H xi d fv lv f cells rows rv mv) (hi : i < rows.length) (hid : idOf (cells.getD i (.ex [])) = some rid) (hl : r'.length = (rows.getD i []).length) :
    OX (H.set rid ⟨vs r', 1, false⟩) xi d fv lv f cells (rows.set i r') rv mv := by
  obtain ⟨n1, n2, n3, n4⟩ := nd_facts h.nd
  have hic : i < cells.length := by rw [h.rl]; exact hi
  obtain ⟨k1, k2, k3⟩ := n3 i hic rid hid
  refine ⟨by rw [at_ne k1]; exact h.x, h.f.same fun k hk => at_ne (fun e => k2 (by rw [e]; exact hk)) _, h.l.same fun k hk => at_ne (fun e => k3 (by rw [e]; exact hk)) _, by rw [List.length_set]; exact h.rl, fun j hj => ?_, h.nd, h.big⟩
  rw [List.length_set] at hj
  by_cases e : j = i
  · subst e
    rw [List.getD_eq_getElem?_getD (l := rows.set j r'), List.getElem?_set_self hj]
    rcases h.r j hj with ⟨_, e | e⟩ | ⟨id, hv, h1, h2⟩
    · rw [e] at hid; cases hid
    · rw [e] at hid; cases hid
    · have e : id = rid := by rw [hv] at hid; cases hid; rfl
      subst e
      exact .inr ⟨id, by rw [hv]; show V.ref id _ = V.ref id r'.length; rw [hl], set_at (at_lt h1) _, fun e => h2 (List.length_eq_zero_iff.1 (by rw [← hl]; show r'.length = 0; rw [show r' = [] from e]; rfl))⟩
  · rw [List.getD_eq_getElem?_getD (l := rows.set i r'), List.getElem?_set_ne (Ne.symm e), ← List.getD_eq_getElem?_getD]
    exact (h.r j hj).same fun k hk => at_ne (fun e' => n4 i j hic (by rw [h.rl]; exact hj) (Ne.symm e) rid hid (by rw [e']; exact hk)) _
theorem OX.new {A B : Obj} {d : U32} {f : List Int} : OX (A :: B :: (accO f ++ [⟨[stX d (accV 2 f) (.ex [])], 3, false⟩])) ((accO f).length + 1 + 1) d (accV 2 f) (.ex []) f [] [] none none := by
  cases hf : f.isEmpty with
  | true =>
    have : f = [] := by simpa using hf
    subst this
    exact ⟨rfl, .inl ⟨rfl, .inl rfl⟩, .inl ⟨rfl, rfl⟩, rfl, fun j hj => by simp at hj, by simp [idsX, List.filterMap_cons, idOf, accV], fun id hi => by simp [idsX, List.filterMap_cons, idOf, accV] at hi; subst hi; exact ⟨by simp, by simp, by simp⟩⟩
  | false =>
    rw [accO_ne hf, accV_ne hf]
    have hne : f ≠ [] := by intro e; subst e; simp at hf
    exact ⟨rfl, .inr ⟨2, rfl, rfl, hne⟩, .inl ⟨rfl, rfl⟩, rfl, fun j hj => by simp at hj, by simp [idsX, List.filterMap_cons, idOf], fun id hi => by simp [idsX, List.filterMap_cons, idOf] at hi; refine ⟨by omega, by simp, by simp⟩⟩
end Go.Sim

set_option maxRecDepth 100000
namespace Go.Sim
open Enc (enc)
open Go.Proofs
theorem nil_Len : Fun Tryz.prog 16 [.nilp] (.t (.int .i64 0)) := by
  refine Fun.go (b := false) Tryz.func16 rfl rfl (by kernel_rfl) (by kernel_rfl) ?_
  simp -implicitDefEqProofs (disch := first | exact dsch | fail) only [go_sem, ↓reduceIte, Nat.reduceEqDiff]
@[go_sem] theorem pu_nilLen {K : Kp} : @Pu _ Tryz.prog 16 [.nilp] K = K.k (.t (.int .i64 0)) := nil_Len.pu
theorem nil_Seen : Fun Tryz.prog 17 [.nilp] (.t (.int .i64 0)) := by
  refine Fun.go (b := false) Tryz.func17 rfl rfl (by kernel_rfl) (by kernel_rfl) ?_
  simp -implicitDefEqProofs (disch := first | exact dsch | fail) only [go_sem, ↓reduceIte, Nat.reduceEqDiff]
@[go_sem] theorem pu_nilSeen {K : Kp} : @Pu _ Tryz.prog 17 [.nilp] K = K.k (.t (.int .i64 0)) := nil_Seen.pu
theorem nil_Has (x : Fs) : Fun Tryz.prog 8 [.nilp, enc x] (.t (.bool false)) := by
  refine Fun.go (b := false) Tryz.func8 rfl rfl (by kernel_rfl) (by kernel_rfl) ?_
  simp -implicitDefEqProofs (disch := first | exact dsch | fail) only [go_sem, ↓reduceIte, Nat.reduceEqDiff]
@[go_sem] theorem pu_nilHas {x : Fs} {K : Kp} : @Pu _ Tryz.prog 8 [.nilp, enc x] K = K.k (.t (.bool false)) := (nil_Has x).pu
theorem nil_Push (x : Fs) : Fun Tryz.prog 11 [.nilp, enc x] (.t (.bool false)) := by
  refine Fun.go (b := false) Tryz.func11 rfl rfl (by kernel_rfl) (by kernel_rfl) ?_
  simp -implicitDefEqProofs (disch := first | exact dsch | fail) only [go_sem, ↓reduceIte, Nat.reduceEqDiff]
@[go_sem] theorem pu_nilPush {x : Fs} {K : Kp} : @Pu _ Tryz.prog 11 [.nilp, enc x] K = K.k (.t (.bool false)) := (nil_Push x).pu
theorem nil_Pop : Fun Tryz.prog 13 [.nilp] (.tup [.t (enc (⟨0#32, [], []⟩ : Fs)), .t (.bool false)]) := by
  refine Fun.go (b := false) Tryz.func13 rfl rfl (by kernel_rfl) (by kernel_rfl) ?_
  simp -implicitDefEqProofs (disch := first | exact dsch | fail) only [go_sem, ↓reduceIte, Nat.reduceEqDiff]
  rfl
@[go_sem] theorem pu_nilPop {K : Kp} : @Pu _ Tryz.prog 13 [.nilp] K = K.k (.tup [.t (enc (⟨0#32, [], []⟩ : Fs)), .t (.bool false)]) := nil_Pop.pu
section
variable {α : Type} [Enc α] {o0 o1 : Obj}
theorem acc_new2 {m : List α} {sz by_ : Nat} (hs : sz = Enc.sz α) (hf : (vs m).all (fits (Enc.sz α)) = true) (hr : m.length * by_ ≤ 70368744177664) :
    appendV (some (sz, by_)) [o0, o1] (.ex []) (vs m) = some ⟨accV 2 m, o0 :: o1 :: accO m, .none⟩ := by
  subst hs
  have := acc_apps (R := [o0, o1]) (l := ([] : List α)) hf rfl (by simpa using hr)
  rw [accV_nil, accO_nil, List.append_nil] at this
  rw [this]
  cases m <;> rfl
end
theorem app_ref1 {H : Heap} {a b : Nat} : appendV (some (1, 24)) H (.ex []) [.ref a b] = some ⟨.ref H.length 1, H ++ [⟨[.ref a b], 1, false⟩], .none⟩ := rfl
theorem app_refR {H : Heap} {lid n : Nat} {cells ys : List V} (h : H[lid]? = some ⟨cells, 1, false⟩) (hc : cells.length = n) (hn : n ≤ 1000) (hy : ys.length = 1) (hf : ys.all (fits 1) = true) : appendV (some (1, 24)) H (.ref lid n) ys = some ⟨.ref lid (n + 1), H.set lid ⟨cells ++ ys, 1, false⟩, .grow lid⟩ := by
  unfold appendV
  simp only [Option.bind_some]
  rw [if_pos hf]
  simp only [cur_some h hc, Option.bind_some]
  rw [if_neg (by cases ys with | nil => simp at hy | cons _ _ => simp), if_pos ⟨by simp [roomOk, hy]; omega, by simp⟩, hy]
theorem LV.len {H : Heap} {v : V} {l : List Int} (h : LV H v l) (e : Nat) : ∃ ef, lenT H (.sl e) v = some ⟨.t (.int .i64 l.length), H, ef⟩ := by
  rcases h with ⟨rfl, rfl | rfl⟩ | ⟨id, rfl, h, _⟩
  · exact ⟨_, rfl⟩
  · exact ⟨_, rfl⟩
  · exact ⟨_, by rw [lenT_ref, cur_some h (vs_len _)]; rfl⟩
theorem LW.len {H : Heap} {v : V} {l : List V} (h : LW H v l) (e : Nat) : ∃ ef, lenT H (.sl e) v = some ⟨.t (.int .i64 l.length), H, ef⟩ := by
  rcases h with ⟨rfl, rfl⟩ | ⟨id, rfl, h, _⟩
  · exact ⟨_, rfl⟩
  · exact ⟨_, by rw [lenT_ref, cur_some h rfl]; rfl⟩
structure Own (s : Fs) (xi : Nat) (fv : V) (H : Heap) (lv : V) (cells : List V) (i : Nat) : Prop where
  ox : OX H xi s.d fv lv s.f cells (s.l.take i) none none
  s0 : H[0]? = some ⟨[.t (enc s)], 3, false⟩
  q : Que H 1 none none [] []
theorem Own.fin {s : Fs} {xi lid : Nat} {fv lv lv' : V} {H H1 : Heap} {cells cells' : List V} {i : Nat} {o o' : Obj} (h : Own s xi fv H lv cells i) (e : ∃ X, H1 = H ++ X) (hl : 2 ≤ lid) (hx : OX ((H1.set lid o).set xi o') xi s.d fv lv' s.f cells' (s.l.take (i + 1)) none none) : Own s xi fv ((H1.set lid o).set xi o') lv' cells' (i + 1) := by
  obtain ⟨X, rfl⟩ := e
  have hxi := (h.ox.big xi (mem_idsX.2 (.inl rfl))).1
  refine ⟨hx, ?_, ((h.q.more X).other o (by omega) (by simp) (by simp)).other o' (by omega) (by simp) (by simp)⟩
  rw [at_ne (by omega), at_ne (by omega), at_app (at_lt h.s0)]; exact h.s0
theorem Own.fin1 {s : Fs} {xi : Nat} {fv lv lv' : V} {H H1 : Heap} {cells cells' : List V} {i : Nat} {o' : Obj} (h : Own s xi fv H lv cells i) (e : ∃ X, H1 = H ++ X) (hx : OX (H1.set xi o') xi s.d fv lv' s.f cells' (s.l.take (i + 1)) none none) : Own s xi fv (H1.set xi o') lv' cells' (i + 1) := by
  obtain ⟨X, rfl⟩ := e
  have hxi := (h.ox.big xi (mem_idsX.2 (.inl rfl))).1
  refine ⟨hx, ?_, (h.q.more X).other o' (by omega) (by simp) (by simp)⟩
  rw [at_ne (by omega), at_app (at_lt h.s0)]; exact h.s0
theorem queueOwn_run (s : Fs) (ws : WfF s) (n : Int) (hn : -9223372036854775808 ≤ n ∧ n ≤ 9223372036854775807) : Fun Tryz.prog 4 [enc s, .int .i64 n] (.t (.bool true)) := by
  refine Fun.go (b := false) Tryz.func4 rfl rfl (by kernel_rfl) (by kernel_rfl) ?_
  cases hf : fewF s
  · simp -implicitDefEqProofs (disch := first | exact dsch | fail) only [go_sem, ↓reduceIte, Nat.reduceEqDiff, hf]
  have okq := few_okQ ws hf
  have hfl : (vs s.f).all (fits 1) = true := by
    rw [List.all_eq_true]; intro v hv; obtain ⟨p, _, rfl⟩ := List.mem_map.1 hv; rfl
  have hlf := okq.ok.fl
  obtain ⟨fv, hfv⟩ : ∃ fv, fv = accV 2 s.f := ⟨_, rfl⟩
  obtain ⟨xi, hxi⟩ : ∃ xi, xi = (accO s.f).length + 1 + 1 := ⟨_, rfl⟩
  have hfc : fv = .ex [] ∨ ∃ a b, fv = .ref a b := by
    rw [hfv]; unfold accV; split
    · exact .inl rfl
    · exact .inr ⟨_, _, rfl⟩
  have hA1 : ∀ lv : V, allT [fv, lv] = none := by
    intro lv; rcases hfc with rfl | ⟨a, b, rfl⟩ <;> rfl
  have hS1 : (V.agg [.t (.int .u32 (s.d.toNat : Int)), fv, .ex []]).storable = true := by
    rcases hfc with rfl | ⟨a, b, rfl⟩ <;> rfl
  have hS2 : ∀ a b, (V.agg [.t (.int .u32 (s.d.toNat : Int)), fv, .ref a b]).storable = true := by
    intro a' b'; rcases hfc with rfl | ⟨a, b, rfl⟩ <;> rfl
  have hfcl : fv.cells = [fv] := by rcases hfc with rfl | ⟨a, b, rfl⟩ <;> rfl
  have hmk : ∀ cs : List V, mkA none cs = .agg cs := fun _ => rfl
  have hset : ∀ {A B : Obj} {K : Heap} {a b : Obj}, (A :: B :: (K ++ [a])).set (K.length + 1 + 1) b = A :: B :: (K ++ [b]) := by
    intro A B K a b
    show A :: B :: (K ++ [a]).set K.length b = _
    rw [set_end]
  simp -implicitDefEqProofs (disch := first | exact dsch | (simp only [go_sem, hf, acc_new2, hfl, hlf, ← hfv, hA1, hS1, hfcl, hmk, Option.bind_none, hset]; omega) | (refine of_eq_true ?_; simp (disch := first | omega | (refine of_eq_true ?_; simp only [go_sem, hf, acc_new2, hfl, hlf, ← hfv, hA1, hS1, hfcl, hmk, Option.bind_none, hset]; done) | (simp only [go_sem, hf, acc_new2, hfl, hlf, ← hfv, hA1, hS1, hfcl, hmk, Option.bind_none, hset]; omega)) only [go_sem, hf, acc_new2, hfl, hlf, ← hfv, hA1, hS1, hfcl, hmk, Option.bind_none, hset]; done) | fail) only [go_sem, ↓reduceIte, Nat.reduceEqDiff, hf, acc_new2, hfl, hlf, ← hfv, hA1, hS1, hfcl, hmk, Option.bind_none, hset]
  have ox0 : OX (⟨[.t (enc s)], 3, false⟩ :: ⟨[.agg [.ex [], .t .nilm]], 2, false⟩ :: (accO s.f ++ [⟨[stX s.d fv (.ex [])], 3, false⟩])) xi s.d fv (.ex []) s.f [] [] none none := by
    rw [hfv, hxi]; exact OX.new
  have q0 : Que (⟨[.t (enc s)], 3, false⟩ :: ⟨[.agg [.ex [], .t .nilm]], 2, false⟩ :: (accO s.f ++ [⟨[stX s.d fv (.ex [])], 3, false⟩])) 1 none none [] [] := (Que.new [⟨[.t (enc s)], 3, false⟩]).more (accO s.f ++ [⟨[stX s.d fv (.ex [])], 3, false⟩])
  have hone : oneEl Tryz.prog 38 = true := by kernel_rfl
  simp only [← hxi]
  refine loop_k (n := s.l.length) [1, 2, 4, 5, 6, 7] (by kernel_rfl) (fun i e H => e 8 = .t (.int .i64 i) ∧ ∃ lv cells, Own s xi fv H lv cells i) ?_ ?_
  · rintro i e H hi hk ⟨h8, lv, cells, ow⟩
    simp only [keepP, go_sem, ↓reduceIte, Nat.reduceEqDiff, and_true] at hk
    have ox := ow.ox
    have hs0 := ow.s0
    have hx := ox.x
    have hx' := at_lt hx
    have hq2 : 2 ≤ H.length := by have := at_lt ow.q.a.qo; omega
    simp only [stX] at hx
    by_cases hlt : i < s.l.length
    · have hlr := okq.ok.rl _ (gd_mem hlt)
      have hll := okq.ok.ll
      have htk := take_gd hlt
      have hcl : cells.length ≤ 1000 := by rw [ox.rl, List.length_take]; omega
      have hfr : (vs (gd s.l i)).all (fits 1) = true := by
        rw [List.all_eq_true]; intro v hv; obtain ⟨p, _, rfl⟩ := List.mem_map.1 hv; rfl
      by_cases hr : gd s.l i = []
      · have hap : appendV (some (1, 8)) H (.ex []) (vs (gd s.l i)) = some ⟨.ex [], H, .none⟩ := by rw [hr]; rfl
        have hcL : ∀ H, LV H (.t (enc ([] : List Int))) (gd s.l i) := fun H => .inl ⟨hr, .inr rfl⟩
        rcases ox.l with ⟨rfl, rfl⟩ | ⟨lid, rfl, hlid, hne⟩
        · have ht0 : s.l.take i = [] := List.length_eq_zero_iff.1 (by rw [← ox.rl]; rfl)
          have hx2 : ∀ o : Obj, (H ++ [o])[xi]? = some ⟨[.agg [.t (.int .u32 (s.d.toNat : Int)), fv, .ex []]], 3, false⟩ := fun o => by rw [at_app hx']; exact hx
          have hox := OX.addE (H := H) (by rw [ht0] at ox; exact ox) (hcL H) (fun id hi => by cases hi) hq2
          simp -implicitDefEqProofs (disch := first | exact dsch | (simp only [go_sem, hk, h8, hlt, hx, hx2, hs0, hap, hone, hfcl, hA1, hS1, hS2, hmk, Option.bind_none]; omega) | (refine of_eq_true ?_; simp (disch := first | omega | (refine of_eq_true ?_; simp only [go_sem, hk, h8, hlt, hx, hx2, hs0, hap, hone, hfcl, hA1, hS1, hS2, hmk, Option.bind_none]; done) | (simp only [go_sem, hk, h8, hlt, hx, hx2, hs0, hap, hone, hfcl, hA1, hS1, hS2, hmk, Option.bind_none]; omega)) only [go_sem, hk, h8, hlt, hx, hx2, hs0, hap, hone, hfcl, hA1, hS1, hS2, hmk, Option.bind_none]; done) | fail) only [go_sem, ↓reduceIte, Nat.reduceEqDiff, hk, h8, hlt, hx, hx2, hs0, hap, hone, hfcl, hA1, hS1, hS2, hmk, Option.bind_none]
          refine ⟨(V.ref H.length 1), [.t (enc ([] : List Int))], ow.fin1 ⟨_, rfl⟩ ?_⟩
          rw [← htk, ht0]
          exact hox
        · have hap1 : ∀ y : V, app1 H lid ⟨cells, 1, false⟩ cells.length 1 24 [y] = some ⟨.ref lid (cells.length + 1), H.set lid ⟨cells ++ [y], 1, false⟩, .grow lid⟩ := fun y => app1_go rfl (by simp; omega)
          have hcu : cur1 ⟨cells, 1, false⟩ cells.length = some ⟨cells, 1, false⟩ := by simp [cur1]
          obtain ⟨_, _, hox⟩ := OX.addR (H := H) ox (hcL H) (fun id hi => by cases hi)
          have hx2 : ∀ y : V, (H.set lid ⟨cells ++ [y], 1, false⟩)[xi]? = some ⟨[.agg [.t (.int .u32 (s.d.toNat : Int)), fv, .ref lid cells.length]], 3, false⟩ := by
            intro y
            rw [at_ne ((nd_facts ox.nd).2.1 lid rfl).1]; exact hx
          simp -implicitDefEqProofs (disch := first | exact dsch | (simp only [go_sem, hk, h8, hlt, hx, hx2, hs0, hap, hap1, hcu, hlid, hone, hfcl, hA1, hS1, hS2, hmk, Option.bind_none]; omega) | (refine of_eq_true ?_; simp (disch := first | omega | (refine of_eq_true ?_; simp only [go_sem, hk, h8, hlt, hx, hx2, hs0, hap, hap1, hcu, hlid, hone, hfcl, hA1, hS1, hS2, hmk, Option.bind_none]; done) | (simp only [go_sem, hk, h8, hlt, hx, hx2, hs0, hap, hap1, hcu, hlid, hone, hfcl, hA1, hS1, hS2, hmk, Option.bind_none]; omega)) only [go_sem, hk, h8, hlt, hx, hx2, hs0, hap, hap1, hcu, hlid, hone, hfcl, hA1, hS1, hS2, hmk, Option.bind_none]; done) | fail) only [go_sem, ↓reduceIte, Nat.reduceEqDiff, hk, h8, hlt, hx, hx2, hs0, hap, hap1, hcu, hlid, hone, hfcl, hA1, hS1, hS2, hmk, Option.bind_none]
          refine ⟨V.ref lid (cells.length + 1), cells ++ [V.t (enc ([] : List Int))], ow.fin ⟨[], (List.append_nil _).symm⟩ (ox.big lid (mem_idsX.2 (.inr (.inr (.inl rfl))))).1 ?_⟩
          rw [← htk]
          exact hox
      · have hap : appendV (some (1, 8)) H (.ex []) (vs (gd s.l i)) = some ⟨.ref H.length (gd s.l i).length, H ++ [⟨vs (gd s.l i), 1, false⟩], .none⟩ := by
          have := acc_apps (R := H) (l := ([] : List Int)) (m := gd s.l i) (by_ := 8) hfr rfl (by simp; omega)
          rw [accV_nil, accO_nil, List.append_nil] at this
          have he : (gd s.l i).isEmpty = false := by cases h : gd s.l i with
            | nil => exact absurd h hr
            | cons _ _ => rfl
          rw [show Enc.sz Int = 1 from rfl] at this
          rw [this, List.nil_append, accO_ne he, accV_ne he, he]
          rfl
        rcases ox.l with ⟨rfl, rfl⟩ | ⟨lid, rfl, hlid, hne⟩
        · have ht0 : s.l.take i = [] := List.length_eq_zero_iff.1 (by rw [← ox.rl]; rfl)
          have hL1 : (H ++ [(⟨vs (gd s.l i), 1, false⟩ : Obj)] ++ [(⟨[.ref H.length (gd s.l i).length], 1, false⟩ : Obj)]).length = H.length + 1 + 1 := by simp
          have hx2 : (H ++ [(⟨vs (gd s.l i), 1, false⟩ : Obj)] ++ [(⟨[.ref H.length (gd s.l i).length], 1, false⟩ : Obj)] ++ [(⟨[.ref H.length (gd s.l i).length], 1, false⟩ : Obj)])[xi]? = some ⟨[.agg [.t (.int .u32 (s.d.toNat : Int)), fv, .ex []]], 3, false⟩ := by
            rw [List.append_assoc, List.append_assoc, at_app hx']; exact hx
          have hcL : LV (H ++ [(⟨vs (gd s.l i), 1, false⟩ : Obj)] ++ [(⟨[.ref H.length (gd s.l i).length], 1, false⟩ : Obj)]) (.ref H.length (gd s.l i).length) (gd s.l i) := .inr ⟨_, rfl, by rw [List.append_assoc]; exact at_end, hr⟩
          have hox := OX.addE (by rw [ht0] at ox; exact (ox.more [(⟨vs (gd s.l i), 1, false⟩ : Obj)]).more [(⟨[.ref H.length (gd s.l i).length], 1, false⟩ : Obj)]) hcL (fun id hi => by cases hi; exact ⟨fun h => by have := ox.lt h; omega, hq2⟩) (by rw [hL1]; omega)
          rw [hL1] at hox
          simp -implicitDefEqProofs (disch := first | exact dsch | (simp only [go_sem, hk, h8, hlt, hx, hx2, hs0, hap, hone, hfcl, hA1, hS1, hS2, hmk, Option.bind_none, app_ref1]; omega) | (refine of_eq_true ?_; simp (disch := first | omega | (refine of_eq_true ?_; simp only [go_sem, hk, h8, hlt, hx, hx2, hs0, hap, hone, hfcl, hA1, hS1, hS2, hmk, Option.bind_none, app_ref1]; done) | (simp only [go_sem, hk, h8, hlt, hx, hx2, hs0, hap, hone, hfcl, hA1, hS1, hS2, hmk, Option.bind_none, app_ref1]; omega)) only [go_sem, hk, h8, hlt, hx, hx2, hs0, hap, hone, hfcl, hA1, hS1, hS2, hmk, Option.bind_none, app_ref1]; done) | fail) only [go_sem, ↓reduceIte, Nat.reduceEqDiff, hk, h8, hlt, hx, hx2, hs0, hap, hone, hfcl, hA1, hS1, hS2, hmk, Option.bind_none, app_ref1]
          refine ⟨(V.ref (H.length + 1 + 1) 1), [.ref H.length (gd s.l i).length], ow.fin1 ⟨_, by rw [List.append_assoc, List.append_assoc]⟩ ?_⟩
          rw [← htk, ht0]
          exact hox
        · have hl2 : (H ++ [⟨vs (gd s.l i), 1, false⟩] ++ [(⟨[.ref H.length (gd s.l i).length], 1, false⟩ : Obj)])[lid]? = some ⟨cells, 1, false⟩ := by
            rw [List.append_assoc, at_app (at_lt hlid)]; exact hlid
          have hap2 := app_refR (ys := [.ref H.length (gd s.l i).length]) hl2 rfl hcl rfl rfl
          have hlx := (nd_facts ox.nd).2.1 lid rfl
          have hx2 : (List.set (H ++ [⟨vs (gd s.l i), 1, false⟩] ++ [(⟨[.ref H.length (gd s.l i).length], 1, false⟩ : Obj)]) lid ⟨cells ++ [.ref H.length (gd s.l i).length], 1, false⟩)[xi]? = some ⟨[.agg [.t (.int .u32 (s.d.toNat : Int)), fv, .ref lid cells.length]], 3, false⟩ := by
            rw [at_ne hlx.1, List.append_assoc, at_app hx']; exact hx
          have hcL : LV (H ++ [(⟨vs (gd s.l i), 1, false⟩ : Obj)] ++ [(⟨[.ref H.length (gd s.l i).length], 1, false⟩ : Obj)]) (.ref H.length (gd s.l i).length) (gd s.l i) := .inr ⟨_, rfl, by rw [List.append_assoc]; exact at_end, hr⟩
          obtain ⟨_, _, hox⟩ := OX.addR (((ox.more [(⟨vs (gd s.l i), 1, false⟩ : Obj)]).more [(⟨[.ref H.length (gd s.l i).length], 1, false⟩ : Obj)])) hcL (fun id hi => by cases hi; exact ⟨fun h => by have := ox.lt h; omega, hq2⟩)
          simp -implicitDefEqProofs (disch := first | exact dsch | (simp only [go_sem, hk, h8, hlt, hx, hx2, hs0, hap, hap2, hone, hfcl, hA1, hS1, hS2, hmk, Option.bind_none]; omega) | (refine of_eq_true ?_; simp (disch := first | omega | (refine of_eq_true ?_; simp only [go_sem, hk, h8, hlt, hx, hx2, hs0, hap, hap2, hone, hfcl, hA1, hS1, hS2, hmk, Option.bind_none]; done) | (simp only [go_sem, hk, h8, hlt, hx, hx2, hs0, hap, hap2, hone, hfcl, hA1, hS1, hS2, hmk, Option.bind_none]; omega)) only [go_sem, hk, h8, hlt, hx, hx2, hs0, hap, hap2, hone, hfcl, hA1, hS1, hS2, hmk, Option.bind_none]; done) | fail) only [go_sem, ↓reduceIte, Nat.reduceEqDiff, hk, h8, hlt, hx, hx2, hs0, hap, hap2, hone, hfcl, hA1, hS1, hS2, hmk, Option.bind_none]
          refine ⟨(V.ref lid (cells.length + 1)), cells ++ [.ref H.length (gd s.l i).length], ow.fin ⟨_, by rw [List.append_assoc]⟩ (ox.big lid (mem_idsX.2 (.inr (.inr (.inl rfl))))).1 ?_⟩
          rw [← htk]
          exact hox
    · obtain rfl : i = s.l.length := by omega
      have q := ow.q
      rw [List.take_length] at ox
      obtain ⟨H1, rv, mv, m, ks, g, q1, f1, _, p2⟩ := q.push (s := s) (by simp) okq ox.val
      have hc0 : ([] : List ByteArray).contains (codeB s) = false := rfl
      rw [hc0] at g
      obtain ⟨hpm, rfl⟩ := p2 hc0
      have hm1 : m = [s] := List.perm_singleton.1 hpm
      subst hm1
      have ox1 := ox.push f1
      have hs1 : H1[0]? = some ⟨[.t (enc s)], 3, false⟩ := by rw [f1.keep 0 (at_lt hs0) (by decide) (by simp) (by simp)]; exact hs0
      have e1 := fun {K : Kv} => Que.fn g (by rfl) rfl (K := K)
      simp only [stX] at e1
      have hrv0 : rv ≠ some 0 ∧ mv ≠ some 0 := by
        constructor
        · rcases f1.rown with e | ⟨r, hr, e⟩ <;> rw [e]
          · simp
          · intro e'; cases e'; have := at_lt hs0; omega
        · rcases f1.mown with e | ⟨r, hr, e⟩ <;> rw [e]
          · simp
          · intro e'; cases e'; have := at_lt hs0; omega
      simp -implicitDefEqProofs (disch := first | exact dsch | (simp only [go_sem, hk, h8, hx, hs0, e1, List.nil_append]; omega) | (refine of_eq_true ?_; simp (disch := first | omega | (refine of_eq_true ?_; simp only [go_sem, hk, h8, hx, hs0, e1, List.nil_append]; done) | (simp only [go_sem, hk, h8, hx, hs0, e1, List.nil_append]; omega)) only [go_sem, hk, h8, hx, hs0, e1, List.nil_append]; done) | fail) only [go_sem, ↓reduceIte, Nat.reduceEqDiff, hk, h8, hx, hs0, e1, List.nil_append]
      refine loop_k (n := s.f.length) [1, 2, 4, 5, 6, 7] (by kernel_rfl) (fun i e H => e 9 = .t (.int .i64 i) ∧ ∃ f', f'.length = s.f.length ∧ OX H xi s.d fv lv f' cells s.l rv mv ∧ H[0]? = some ⟨[.t (enc s)], 3, false⟩ ∧ Que H 1 rv mv [s] [codeB s]) ?_ ?_
      · rintro i e H hi hk2 ⟨h9, f', hl', ox, hs0, q⟩
        simp only [keepP, go_sem, ↓reduceIte, Nat.reduceEqDiff, and_true] at hk2
        have hx := ox.x
        have hx' := at_lt hx
        simp only [stX] at hx
        have hlf' : f'.length ≤ 1000 := by omega
        by_cases hlt : i < s.f.length
        · obtain ⟨fid, hv, h1, h2⟩ : ∃ id, fv = .ref id f'.length ∧ H[id]? = some ⟨vs f', 1, false⟩ ∧ f' ≠ [] := by
            rcases ox.f with ⟨e, _⟩ | h
            · rw [e] at hl'; simp at hl'; omega
            · exact h
          rw [hv] at hx
          have hltf : i < f'.length := by omega
          have hlt' : (i : Int) < f'.length := by omega
          simp -implicitDefEqProofs (disch := first | exact dsch | (simp only [go_sem, hk2, hk, h9, hlt, hltf, hlt', hx, h1, hl']; omega) | (refine of_eq_true ?_; simp (disch := first | omega | (refine of_eq_true ?_; simp only [go_sem, hk2, hk, h9, hlt, hltf, hlt', hx, h1, hl']; done) | (simp only [go_sem, hk2, hk, h9, hlt, hltf, hlt', hx, h1, hl']; omega)) only [go_sem, hk2, hk, h9, hlt, hltf, hlt', hx, h1, hl']; done) | fail) only [go_sem, ↓reduceIte, Nat.reduceEqDiff, hk2, hk, h9, hlt, hltf, hlt', hx, h1, hl']
          have hid : idOf fv = some fid := by rw [hv]; rfl
          obtain ⟨b1, b2, b3⟩ := ox.big fid (mem_idsX.2 (.inr (.inl hid)))
          exact ⟨f'.set i n, by rw [List.length_set, hl'], ox.setF hid (List.length_set ..), by rw [at_ne (by omega)]; exact hs0, q.other _ (by omega) b2 b3⟩
        · obtain rfl : i = s.f.length := by omega
          obtain ⟨ef, hlf2⟩ := ox.f.len 3
          rw [hl'] at hlf2
          simp -implicitDefEqProofs (disch := first | exact dsch | (simp only [go_sem, hk2, hk, h9, hx, hlf2]; omega) | (refine of_eq_true ?_; simp (disch := first | omega | (refine of_eq_true ?_; simp only [go_sem, hk2, hk, h9, hx, hlf2]; done) | (simp only [go_sem, hk2, hk, h9, hx, hlf2]; omega)) only [go_sem, hk2, hk, h9, hx, hlf2]; done) | fail) only [go_sem, ↓reduceIte, Nat.reduceEqDiff, hk2, hk, h9, hx, hlf2]
          clear hlf2 ef hlt hlf' hx hx' h9 e1 hs1 ox1 f1 g p2 hc0 q1
          refine loop_k (n := s.l.length) [1, 2, 4, 5, 6, 7] (by kernel_rfl) (fun i e H => e 10 = .t (.int .i64 i) ∧ ∃ rows, rows.length = s.l.length ∧ (∀ k, (rows.getD k []).length = (s.l.getD k []).length) ∧ OX H xi s.d fv lv f' cells rows rv mv ∧ H[0]? = some ⟨[.t (enc s)], 3, false⟩ ∧ Que H 1 rv mv [s] [codeB s]) ?_ ?_
          · rintro i e H hi hk3 ⟨h10, rows, hlr, hrr, ox, hs0, q⟩
            simp only [keepP, go_sem, ↓reduceIte, Nat.reduceEqDiff, and_true] at hk3
            have hx := ox.x
            have hx' := at_lt hx
            simp only [stX] at hx
            obtain ⟨ef, hll⟩ := ox.l.len 38
            rw [ox.rl, hlr] at hll
            by_cases hlt : i < s.l.length
            · have hic : i < cells.length := by rw [ox.rl, hlr]; exact hlt
              obtain ⟨lid, hlv⟩ : ∃ lid, lv = .ref lid cells.length := by
                rcases ox.l with ⟨e, _⟩ | ⟨lid, e, _⟩
                · rw [e] at hic; simp at hic
                · exact ⟨lid, e⟩
              obtain ⟨c, hc⟩ : ∃ c, c = cells.getD i (.ex []) := ⟨_, rfl⟩
              have hci : cells[i]? = some c := by rw [hc, List.getD_eq_getElem?_getD, List.getElem?_eq_getElem hic]; rfl
              obtain ⟨w, hw⟩ : ∃ w, w = (s.l.getD i []).length := ⟨_, rfl⟩
              have hwl : w ≤ 1000 := by rw [hw]; exact okq.ok.rl _ (gd_mem hlt)
              have hl0 := okq.ok.ll
              simp -implicitDefEqProofs (disch := first | exact dsch | (simp only [go_sem, hk3, hk2, hk, h10, hlt, hx, hll]; omega) | (refine of_eq_true ?_; simp (disch := first | omega | (refine of_eq_true ?_; simp only [go_sem, hk3, hk2, hk, h10, hlt, hx, hll]; done) | (simp only [go_sem, hk3, hk2, hk, h10, hlt, hx, hll]; omega)) only [go_sem, hk3, hk2, hk, h10, hlt, hx, hll]; done) | fail) only [go_sem, ↓reduceIte, Nat.reduceEqDiff, hk3, hk2, hk, h10, hlt, hx, hll]
              clear hll ef hx hx'
              refine loop_k (n := w) [1, 2, 4, 5, 6, 7, 10] (by kernel_rfl) (fun j e H => e 11 = .t (.int .i64 j) ∧ ∃ rows, rows.length = s.l.length ∧ (∀ k, (rows.getD k []).length = (s.l.getD k []).length) ∧ OX H xi s.d fv lv f' cells rows rv mv ∧ H[0]? = some ⟨[.t (enc s)], 3, false⟩ ∧ Que H 1 rv mv [s] [codeB s]) ?_ ?_
              · rintro j e H hj hk4 ⟨h11, rows, hlr, hrr, ox, hs0, q⟩
                simp only [keepP, go_sem, ↓reduceIte, Nat.reduceEqDiff, and_true] at hk4
                have hw : (rows.getD i []).length = w := by rw [hrr, hw]
                have hx := ox.x
                simp only [stX] at hx
                have hir : i < rows.length := by rw [hlr]; exact hlt
                have hLV := ox.r i hir
                rw [← hc] at hLV
                obtain ⟨ef, hlc⟩ := hLV.len 3
                rw [hw] at hlc
                have hlid : H[lid]? = some ⟨cells, 1, false⟩ := by
                  rcases ox.l with ⟨e, _⟩ | ⟨lid', e, h, _⟩
                  · rw [e] at hic; simp at hic
                  · rw [hlv] at e; cases e; exact h
                have hcu : cur1 ⟨cells, 1, false⟩ cells.length = some ⟨cells, 1, false⟩ := by simp [cur1]
                have hcc : c.cells = [c] := by
                  rcases hLV with ⟨_, e | e⟩ | ⟨_, e, _⟩ <;> rw [e] <;> rfl
                have hld : load1 H lid ⟨cells, 1, false⟩ i 0 false 1 = some ⟨c, H, .load lid⟩ := by
                  simp [load1, hci, rdV, hcc]
                have hi' : (i : Int) < cells.length := by omega
                rw [hlv] at hx
                by_cases hlt4 : j < w
                · obtain ⟨rid, hrv, h1, h2⟩ : ∃ id, c = .ref id (rows.getD i []).length ∧ H[id]? = some ⟨vs (rows.getD i []), 1, false⟩ ∧ rows.getD i [] ≠ [] := by
                    rcases hLV with ⟨e, _⟩ | h
                    · rw [e] at hw; simp at hw; omega
                    · exact h
                  have hjr : j < (rows.getD i []).length := by omega
                  have hjr' : (j : Int) < ((rows.getD i []).length : Nat) := by omega
                  rw [hw] at hrv
                  have hcv : cur1 ⟨vs (rows.getD i []), 1, false⟩ w = some ⟨vs (rows.getD i []), 1, false⟩ := by simp [cur1, vs_len]; exact hw
                  simp -implicitDefEqProofs (disch := first | exact dsch | (simp only [go_sem, hk4, hk3, hk2, hk, h10, h11, hlt4, hx, hlid, hcu, hld, hi', hlc, hrv, h1, hjr, hjr', hcv]; omega) | (refine of_eq_true ?_; simp (disch := first | omega | (refine of_eq_true ?_; simp only [go_sem, hk4, hk3, hk2, hk, h10, h11, hlt4, hx, hlid, hcu, hld, hi', hlc, hrv, h1, hjr, hjr', hcv]; done) | (simp only [go_sem, hk4, hk3, hk2, hk, h10, h11, hlt4, hx, hlid, hcu, hld, hi', hlc, hrv, h1, hjr, hjr', hcv]; omega)) only [go_sem, hk4, hk3, hk2, hk, h10, h11, hlt4, hx, hlid, hcu, hld, hi', hlc, hrv, h1, hjr, hjr', hcv]; done) | fail) only [go_sem, ↓reduceIte, Nat.reduceEqDiff, hk4, hk3, hk2, hk, h10, h11, hlt4, hx, hlid, hcu, hld, hi', hlc, hrv, h1, hjr, hjr', hcv]
                  have hid : idOf (cells.getD i (.ex [])) = some rid := by rw [← hc, hrv]; rfl
                  obtain ⟨b1, b2, b3⟩ := ox.big rid (mem_idsX.2 (.inr (.inr (.inr ⟨i, hic, hid⟩))))
                  refine ⟨rows.set i ((rows.getD i []).set j n), by rw [List.length_set, hlr], fun k => ?_, ox.setR hir hid (List.length_set ..), by rw [at_ne (by omega)]; exact hs0, q.other _ (by omega) b2 b3⟩
                  by_cases e : k = i
                  · subst e
                    rw [List.getD_eq_getElem?_getD, List.getElem?_set_self hir]
                    show ((rows.getD k []).set j n).length = _
                    rw [List.length_set]; exact hrr k
                  · rw [List.getD_eq_getElem?_getD, List.getElem?_set_ne (Ne.symm e), ← List.getD_eq_getElem?_getD]; exact hrr k
                · obtain rfl : j = w := by omega
                  simp -implicitDefEqProofs (disch := first | exact dsch | (simp only [go_sem, hk4, hk3, hk2, hk, h10, h11, hx, hlid, hcu, hld, hi', hlc]; omega) | (refine of_eq_true ?_; simp (disch := first | omega | (refine of_eq_true ?_; simp only [go_sem, hk4, hk3, hk2, hk, h10, h11, hx, hlid, hcu, hld, hi', hlc]; done) | (simp only [go_sem, hk4, hk3, hk2, hk, h10, h11, hx, hlid, hcu, hld, hi', hlc]; omega)) only [go_sem, hk4, hk3, hk2, hk, h10, h11, hx, hlid, hcu, hld, hi', hlc]; done) | fail) only [go_sem, ↓reduceIte, Nat.reduceEqDiff, hk4, hk3, hk2, hk, h10, h11, hx, hlid, hcu, hld, hi', hlc]
                  exact ⟨hlt, rows, hlr, hrr, ox, hs0, q⟩
              · exact ⟨rfl, rows, hlr, hrr, ox, hs0, q⟩
            · obtain rfl : i = s.l.length := by omega
              obtain ⟨H2, rv2, mv2, m2, x, g2, q2, f2, hp2, _⟩ := q.pop (by simp) (by simp)
              have hxs : x = s ∧ m2 = [] := by
                have := List.perm_singleton.1 hp2
                simpa using this
              obtain ⟨rfl, rfl⟩ := hxs
              have e2 := fun {K : Kv} => Que.fn g2 (by rfl) rfl (K := K)
              have ox2 := ox.push f2
              have b2 : ∀ H : Heap, rv ≠ some 0 ∧ mv ≠ some 0 := fun _ => hrv0
              have hs2 : H2[0]? = some ⟨[.t (enc x)], 3, false⟩ := by rw [f2.keep 0 (at_lt hs0) (by decide) hrv0.1 hrv0.2]; exact hs0
              have hl2 := at_lt hs2
              have hx2 := ox2.x
              have hxl := at_lt hx2
              simp only [stX] at hx2
              have ox3 := ox2.more [⟨[.t (enc x)], 3, false⟩, ⟨[.t (enc (⟨0#32, [], []⟩ : Fs))], 3, false⟩]
              have t1 := ox3.f.toT 2
              have t2 := ox3.toTl
              have e3 := fun {K : Kv} => Que.fn (que_Has (q2.more [⟨[.t (enc x)], 3, false⟩, ⟨[.t (enc (⟨0#32, [], []⟩ : Fs))], 3, false⟩]).a okq.ok (ValF.tree _ 1 mv2 x)) (by rfl) rfl (K := K)
              have hcx : [codeB x].contains (codeB x) = true := by simp
              rw [hcx] at e3
              have lex := okq.ok.le
              have hsame : sameF x x = true := sameF_iff.2 rfl
              simp -implicitDefEqProofs (disch := first | exact dsch | (simp only [go_sem, hk3, hk2, hk, h10, hx, hll, e2, e3, hs2, hl2, hx2, hxl, t1, t2, lex, hsame, at_app, at_end, at_end1, set_end1, List.append_assoc, List.cons_append, List.nil_append, Int.lt_irrefl, decide_false, decide_true, beq_self_eq_true, Bool.not_true, Bool.not_false]; omega) | (refine of_eq_true ?_; simp (disch := first | omega | (refine of_eq_true ?_; simp only [go_sem, hk3, hk2, hk, h10, hx, hll, e2, e3, hs2, hl2, hx2, hxl, t1, t2, lex, hsame, at_app, at_end, at_end1, set_end1, List.append_assoc, List.cons_append, List.nil_append, Int.lt_irrefl, decide_false, decide_true, beq_self_eq_true, Bool.not_true, Bool.not_false]; done) | (simp only [go_sem, hk3, hk2, hk, h10, hx, hll, e2, e3, hs2, hl2, hx2, hxl, t1, t2, lex, hsame, at_app, at_end, at_end1, set_end1, List.append_assoc, List.cons_append, List.nil_append, Int.lt_irrefl, decide_false, decide_true, beq_self_eq_true, Bool.not_true, Bool.not_false]; omega)) only [go_sem, hk3, hk2, hk, h10, hx, hll, e2, e3, hs2, hl2, hx2, hxl, t1, t2, lex, hsame, at_app, at_end, at_end1, set_end1, List.append_assoc, List.cons_append, List.nil_append, Int.lt_irrefl, decide_false, decide_true, beq_self_eq_true, Bool.not_true, Bool.not_false]; done) | fail) only [go_sem, ↓reduceIte, Nat.reduceEqDiff, hk3, hk2, hk, h10, hx, hll, e2, e3, hs2, hl2, hx2, hxl, t1, t2, lex, hsame, at_app, at_end, at_end1, set_end1, List.append_assoc, List.cons_append, List.nil_append, Int.lt_irrefl, decide_false, decide_true, beq_self_eq_true, Bool.not_true, Bool.not_false]
          · exact ⟨rfl, s.l, rfl, fun _ => rfl, ox, hs0, q⟩
      · exact ⟨rfl, s.f, rfl, ox1, hs1, q1⟩
  · exact ⟨rfl, _, _, ⟨ox0, rfl, q0⟩⟩
end Go.Sim
