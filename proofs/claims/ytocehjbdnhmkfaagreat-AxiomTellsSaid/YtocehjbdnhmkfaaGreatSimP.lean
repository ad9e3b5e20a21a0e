/- A part of the proof of a law of module cupola: SimP. It has no conditions of its own. -/
import Derived.Test.YtocehjbdnhmkfaaGreatSimO
set_option linter.all false
/-! Stores, appends, and what else writes. -/
namespace Go.Sim

def splice {α : Type} (l : List α) (a : Nat) (us : List α) : List α := l.take a ++ us ++ l.drop (a + us.length)

theorem splice_len {α : Type} (l : List α) (a : Nat) (us : List α) (h : a + us.length ≤ l.length) : (splice l a us).length = l.length := by
  simp [splice]; omega
theorem splice_get {α : Type} (l : List α) (a : Nat) (us : List α) (h : a + us.length ≤ l.length) (q : Nat) :
    (splice l a us)[q]? = if q < a then l[q]? else if q < a + us.length then us[q - a]? else l[q]? := by
  unfold splice
  by_cases h1 : q < a
  · rw [if_pos h1, List.append_assoc, List.getElem?_append_left (by simp; omega), List.getElem?_take, if_pos h1]
  · rw [if_neg h1]
    by_cases h2 : q < a + us.length
    · rw [if_pos h2, List.getElem?_append_left (by simp; omega), List.getElem?_append_right (by simp; omega)]
      congr 1
      simp; omega
    · rw [if_neg h2, List.getElem?_append_right (by simp; omega), List.getElem?_drop]
      congr 1
      simp; omega

theorem wrV_cells {v u v' : V} {esz off : Nat} (hl : v.cells.length = esz) (h : wrV v esz off u = some v') : off + u.cells.length ≤ esz ∧ v'.cells = splice v.cells off u.cells := by
  unfold wrV at h
  split at h
  · rename_i hh
    obtain ⟨rfl, hu⟩ := hh
    cases h
    refine ⟨by omega, ?_⟩
    unfold splice
    rw [List.take_zero, List.nil_append, List.drop_eq_nil_of_le (by omega), List.append_nil]
  · split at h
    · rename_i hb
      cases h
      refine ⟨by omega, ?_⟩
      show (mkAgg _).cells = _
      unfold mkAgg
      cases ha : allT (v.cells.take off ++ u.cells ++ v.cells.drop (off + u.cells.length)) with
      | none => rfl
      | some ts => rw [splice, allT_some ha]; rfl
    · cases h

theorem cell1_one {w S H β} {v : V} {u : Value} (h : RV w S H β v u) (hc : v.cell1 = true) : u.oneCell' = true := by
  cases h with
  | t x u h => cases h <;> first | rfl | simp [V.cell1] at hc
  | ex xs A n h => rfl
  | ref id n u h => obtain ⟨⟨A, c, rfl⟩, _⟩ := h; rfl
  | ptr id n i off u h => obtain ⟨⟨A, k, rfl⟩, _⟩ := h; rfl
  | tp => rfl
  | agg => simp [V.cell1] at hc
  | tup => simp [V.cell1] at hc
  | fn => rfl
  | dead => simp [V.cell1] at hc

theorem stor_one {w S H β} {v : V} {u : Value} (h : RV w S H β v u) (hc : v.storable = true) : ∀ x ∈ u.cells.toList, x.oneCell' = true := by
  obtain ⟨hl, hcs⟩ := h.cells
  intro x hx
  obtain ⟨j, hj, rfl⟩ := List.mem_iff_getElem.1 hx
  have hj' : j < u.cells.size := by simpa using hj
  have hjv : j < v.cells.length := by omega
  have h1 := hcs j hjv hj'
  have h2 : (v.cells[j]).cell1 = true := by
    simp only [V.storable, Bool.and_eq_true, List.all_eq_true] at hc
    exact hc.2 _ (List.getElem_mem hjv)
  have := cell1_one h1 h2
  simpa using this

/-- What is behind a store into a row of one's own. -/
theorem Rel.write {w : World} {S : Cells} {H : Heap} {β : Bl} (hR : Rel w S H β) {id : Nat} {o : Obj} {b cap : Nat} (ho : H[id]? = some o) (hβ : β[id]? = some (b, cap)) (hst : o.st = false)
    {el : List V} (hlen : el.length = o.el.length) {cs : Array Value} {T : TypeId} (hcs : w.heap[b]? = some (.cells cs T (0, 0))) {cs' : Array Value} (hsz : cs'.size = cs.size)
    (hc : ∀ i (hi : i < el.length), (el[i]).cells.length = o.esz ∧ ∀ j (hj : j < (el[i]).cells.length), ∃ u, cs'[i * o.esz + j]? = some u ∧ RV w S H β (el[i]).cells[j] u) :
    Ext w S H β (w.setRow b cs') S (H.set id { o with el := el }) β ∧ Rel (w.setRow b cs') S (H.set id { o with el := el }) β := by
  have hO := hR.obj id o b cap ho hβ
  have hb : ∀ j, ¬ S b j := fun j hS => by have := (hO.st j).1 hS; rw [hst] at this; exact absurd this.1 (by simp)
  have hid : id < H.length := by
    rcases Nat.lt_or_ge id H.length with h' | h'
    · exact h'
    · rw [List.getElem?_eq_none h'] at ho; cases ho
  have hs : Stay w S (w.setRow b cs') S := fun b' j hS => ⟨hS, cell_same (setRow_other w b b' cs' (fun e => hb j (e ▸ hS))) j⟩
  have hg : Grow H β (H.set id { o with el := el }) β := by
    intro id' o' ho'
    by_cases e : id = id'
    · subst e
      rw [ho] at ho'; cases ho'
      exact ⟨{ o with el := el }, by simp [hid], rfl, by simp [hlen], fun _ => rfl⟩
    · exact ⟨o', by rw [List.getElem?_set_ne e]; exact ho', rfl, Nat.le_refl _, fun _ => rfl⟩
  refine ⟨⟨rfl, rfl, rfl, by simp, fun b' _ hn => setRow_other w b b' cs' (fun e => hn id cap (e ▸ hβ)), hs, fun _ _ h => .inl h, hg, fun id _ c e => .inl ⟨id, c, e⟩⟩,
    ⟨by simp [hR.len], hR.inj, fun b' j hS => by simpa using hR.lt b' j hS, ?_⟩⟩
  intro id' o' b' c' ho' hβ'
  by_cases e : id = id'
  · subst e
    rw [hβ] at hβ'; cases hβ'
    simp [hid] at ho'
    subst ho'
    have hlt : b < w.heap.size := heap_lt hcs
    refine ⟨hO.pos, by simpa [hlen] using hO.room, fun j => ?_, cs', T, setRow_heap w b cs cs' T (0, 0) hcs, ?_, fun i hi => ⟨(hc i hi).1, fun j hj => ?_⟩⟩
    · simp only [hlen]; exact hO.st j
    · obtain ⟨cs2, T2, h1, h2, _⟩ := hO.row
      rw [hcs] at h1; cases h1
      rw [hsz]; exact h2
    · obtain ⟨u, h1, h2⟩ := (hc i hi).2 j hj
      exact ⟨u, h1, h2.mono hs hg⟩
  · rw [List.getElem?_set_ne e] at ho'
    have hne : b' ≠ b := fun e' => e (hR.inj id id' b cap c' hβ (e' ▸ hβ'))
    exact (hR.obj id' o' b' c' ho' hβ').mono hs hg (setRow_other w b b' cs' hne) (fun _ => Iff.rfl)

section
variable {P : Program} {w : World} {S : Cells} {H : Heap} {β : Bl} {e : Env} {ρ : Operand → Value} {r : Res} {dst : Option Tmp} {ty : TypeId} {pos : String} {af : Array Edge} {g : Option (Nat × Bool)}

theorem d_store (hR : Rel w S H β) (hA : Agree w S H β e ρ) {t x y} (h : opRun P (.store t x y) e H = some r) : Does P w S H β ρ ⟨dst, .store t x y, ty, pos, af, g⟩ r := by
  simp only [opRun] at h
  cases hx : ev e x with
  | none => simp [hx] at h
  | some v =>
    cases hy : ev e y with
    | none => simp [hx, hy] at h
    | some u =>
      simp only [hx, hy] at h
      have hv := hA x v hx
      have hu := hA y u hy
      unfold storeV at h
      split at h
      · rename_i a sz id n i off hty
        cases hc : cur H id n with
        | none => simp [hc] at h
        | some o =>
          simp only [hc, Option.bind_some] at h
          cases hi : o.el[i]? with
          | none => simp [hi] at h
          | some v0 =>
            simp only [hi, Option.bind_some] at h
            split at h
            · rename_i hh
              obtain ⟨hst, hsu, hsz⟩ := hh
              cases hr : wrV v0 o.esz off u with
              | none => simp [hr] at h
              | some v' =>
                simp [hr] at h; subst h
                obtain ⟨h1, h2⟩ := cur_at hc
                cases hv with
                | ptr _ _ _ _ _ hok =>
                  obtain ⟨_, o', ho', _, hb⟩ := hok
                  rw [h1] at ho'; cases ho'
                  obtain ⟨b, cap, hβ, hρ⟩ := hb h2
                  have hO := hR.obj id o b cap h1 hβ
                  obtain ⟨cs, Ty, hh, hsize, hcells⟩ := hO.row
                  have hil : i < o.el.length := by
                    rcases Nat.lt_or_ge i o.el.length with h' | h'
                    · exact h'
                    · rw [List.getElem?_eq_none h'] at hi; cases hi
                  have hv0 : o.el[i] = v0 := by rw [List.getElem?_eq_getElem hil] at hi; exact Option.some.inj hi
                  obtain ⟨hl, hcs⟩ := hcells i hil
                  rw [hv0] at hl
                  have hcs : ∀ j (hj : j < v0.cells.length), ∃ u, cs[i * o.esz + j]? = some u ∧ RV w S H β v0.cells[j] u := by subst hv0; exact hcs
                  obtain ⟨hle, hv'⟩ := wrV_cells hl hr
                  obtain ⟨hul, huc⟩ := hu.cells
                  have hroom : (i + 1) * o.esz ≤ cap * o.esz := Nat.mul_le_mul_right _ (by have := hO.room; omega)
                  rw [Nat.succ_mul] at hroom
                  have hfit : i * o.esz + off + (ρ y).cells.toList.length ≤ cs.size := by
                    rw [hsize]; simp; omega
                  have hrun := run_storeCells_at P b (i * o.esz + off) Ty (ρ y).cells.toList 0 cs w hh (by omega) (stor_one hu hsu)
                  obtain ⟨d, inf, hd, hinf, hia, his⟩ := ty_of hty
                  let cs' : Array Value := (splice cs.toList (i * o.esz + off) (ρ y).cells.toList).toArray
                  obtain ⟨hE, hR'⟩ := hR.write h1 hβ hst (el := o.el.set i v') (by simp) hh (cs' := cs') (by
                    show (splice _ _ _).toArray.size = _
                    simp only [List.size_toArray]
                    rw [splice_len _ _ _ (by simpa using hfit)]; simp) (by
                    intro k hk
                    have hk' : k < o.el.length := by simpa using hk
                    by_cases e : i = k
                    · subst e
                      have e1 : (o.el.set i v')[i]'hk = v' := by simp
                      rw [e1, hv']
                      refine ⟨by rw [splice_len _ _ _ (by omega)]; exact hl, fun j hj => ?_⟩
                      have hj' : j < v0.cells.length := by rw [splice_len _ _ _ (by omega)] at hj; exact hj
                      have hget := splice_get cs.toList (i * o.esz + off) (ρ y).cells.toList (by simpa using hfit) (i * o.esz + j)
                      have hget2 := splice_get v0.cells off u.cells (by omega) j
                      rw [List.getElem?_eq_getElem hj] at hget2
                      show ∃ q, (splice _ _ _).toArray[i * o.esz + j]? = some q ∧ _
                      rw [List.getElem?_toArray, hget]
                      by_cases c1 : j < off
                      · rw [if_pos (by omega)]
                        rw [if_pos c1, List.getElem?_eq_getElem hj'] at hget2
                        simp only [Option.some.injEq] at hget2
                        rw [hget2]
                        obtain ⟨q, hq1, hq2⟩ := hcs j hj'
                        exact ⟨q, by simpa using hq1, hq2⟩
                      · rw [if_neg (by omega)]
                        rw [if_neg c1] at hget2
                        by_cases c2 : j < off + u.cells.length
                        · rw [if_pos (by simp; omega)]
                          have hlt : j - off < u.cells.length := by omega
                          rw [if_pos c2, List.getElem?_eq_getElem hlt] at hget2
                          simp only [Option.some.injEq] at hget2
                          rw [hget2]
                          have hlt' : j - off < (ρ y).cells.size := by omega
                          refine ⟨(ρ y).cells[j - off], ?_, huc (j - off) hlt hlt'⟩
                          have e2 : i * o.esz + j - (i * o.esz + off) = j - off := by omega
                          rw [e2]
                          simp [hlt']
                        · rw [if_neg (by simp; omega)]
                          rw [if_neg c2, List.getElem?_eq_getElem hj'] at hget2
                          simp only [Option.some.injEq] at hget2
                          rw [hget2]
                          obtain ⟨q, hq1, hq2⟩ := hcs j hj'
                          exact ⟨q, by simpa using hq1, hq2⟩
                    · have e1 : (o.el.set i v')[k]'hk = o.el[k] := by rw [List.getElem_set_ne e]
                      rw [e1]
                      obtain ⟨hlk, hck⟩ := hcells k hk'
                      refine ⟨hlk, fun j hj => ?_⟩
                      obtain ⟨q, hq1, hq2⟩ := hck j hj
                      refine ⟨q, ?_, hq2⟩
                      have hget := splice_get cs.toList (i * o.esz + off) (ρ y).cells.toList (by simpa using hfit) (k * o.esz + j)
                      show (splice _ _ _).toArray[k * o.esz + j]? = some q
                      rw [List.getElem?_toArray, hget]
                      have hj' : j < o.esz := by omega
                      rcases Nat.lt_or_gt_of_ne e with hlt | hgt
                      · have : (i + 1) * o.esz ≤ k * o.esz := Nat.mul_le_mul_right _ hlt
                        rw [Nat.succ_mul] at this
                        rw [if_neg (by omega), if_neg (by simp; omega)]
                        simpa using hq1
                      · have : (k + 1) * o.esz ≤ i * o.esz := Nat.mul_le_mul_right _ hgt
                        rw [Nat.succ_mul] at this
                        rw [if_pos (by omega)]
                        simpa using hq1)
                  refine ⟨undef, _, S, β, .inr ⟨?_, rfl⟩, hE, hR', .dead⟩
                  simp only [Nat.add_zero] at hrun
                  have hsz' : (ρ y).cells.size = inf.size := by rw [his]; show _ = sz; omega
                  simp [execOp, Instr.storeAt, Instr.sureAddr, hρ, storeVar, run_size hinf, hsz', hrun, cs', splice]
            · cases h
      · cases h
end
end Go.Sim
