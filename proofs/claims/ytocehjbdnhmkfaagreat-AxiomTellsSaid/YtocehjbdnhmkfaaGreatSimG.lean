/- A part of the proof of a law of module cupola: SimG. It has no conditions of its own. -/
import Derived.Test.YtocehjbdnhmkfaaGreatSimF
set_option linter.all false
/-! Literals. -/
namespace Go.Sim

theorem setFold (off : Nat) : ∀ (l : List Value) (k : Nat) (cs : Array Value), off + k + l.length ≤ cs.size →
    (((l.zipIdx k).foldl (fun (cs : Array Value) (p : Value × Nat) => cs.setIfInBounds (off + p.2) p.1) cs).toList = splice cs.toList (off + k) l) := by
  intro l
  induction l with
  | nil => intro k cs h; simp [splice]
  | cons v l ih =>
    intro k cs h
    simp only [List.length_cons] at h
    simp only [List.zipIdx_cons, List.foldl_cons]
    rw [ih (k + 1) _ (by simp; omega)]
    apply List.ext_getElem?
    intro q
    rw [splice_get _ _ _ (by simp; omega), splice_get _ _ _ (by simp; omega)]
    simp only [Array.toList_setIfInBounds, List.getElem?_set, List.length_cons]
    by_cases h1 : q < off + k
    · rw [if_pos (by omega), if_neg (by omega), if_pos h1]
    · rw [if_neg h1]
      by_cases h2 : q = off + k
      · subst h2
        have : off + k < cs.toList.length := by simp; omega
        rw [if_pos (by omega), if_pos rfl, if_pos this, if_pos (by omega)]
        simp
      · rw [if_neg (by omega)]
        by_cases h3 : q < off + (k + 1) + l.length
        · rw [if_pos h3, if_pos (by omega)]
          rw [show q - (off + k) = (q - (off + (k + 1))) + 1 by omega, List.getElem?_cons_succ]
        · rw [if_neg h3, if_neg (by omega), if_neg (by omega)]

theorem arrFold (off : Nat) (u : Array Value) (cs : Array Value) (h : off + u.size ≤ cs.size) :
    (u.zipIdx.foldl (fun (cs : Array Value) (p : Value × Nat) => cs.setIfInBounds (off + p.2) p.1) cs).toList = splice cs.toList off u.toList := by
  have := setFold off u.toList 0 cs (by simpa using h)
  rw [← Array.foldl_toList]
  simpa using this

/-- Cells, told and true. -/
def CellsRv (w : World) (S : Cells) (H : Heap) (β : Bl) (vs : List V) (us : List Value) : Prop :=
  vs.length = us.length ∧ ∀ i (hi : i < vs.length) (hu : i < us.length), RV w S H β vs[i] us[i]

theorem CellsRv.splice {w S H β} {vs ys : List V} {us xs : List Value} {off : Nat} (h : CellsRv w S H β vs us) (k : CellsRv w S H β ys xs) (hl : off + ys.length ≤ vs.length) : CellsRv w S H β (Go.Sim.splice vs off ys) (Go.Sim.splice us off xs) := by
  have hl' : off + xs.length ≤ us.length := by rw [← k.1, ← h.1]; exact hl
  refine ⟨by rw [splice_len _ _ _ hl, splice_len _ _ _ hl']; exact h.1, fun i hi hu => ?_⟩
  have h1 := splice_get vs off ys hl i
  have h2 := splice_get us off xs hl' i
  rw [List.getElem?_eq_getElem hi] at h1
  rw [List.getElem?_eq_getElem hu] at h2
  rw [splice_len _ _ _ hl] at hi
  rw [splice_len _ _ _ hl'] at hu
  by_cases c1 : i < off
  · rw [if_pos c1, List.getElem?_eq_getElem hi] at h1
    rw [if_pos c1, List.getElem?_eq_getElem hu] at h2
    simp only [Option.some.injEq] at h1 h2
    rw [h1, h2]; exact h.2 i hi hu
  · rw [if_neg c1] at h1 h2
    by_cases c2 : i < off + ys.length
    · rw [if_pos c2, List.getElem?_eq_getElem (by omega)] at h1
      rw [if_pos (by rw [← k.1]; exact c2), List.getElem?_eq_getElem (by rw [← k.1]; omega)] at h2
      simp only [Option.some.injEq] at h1 h2
      rw [h1, h2]; exact k.2 _ _ _
    · rw [if_neg c2, List.getElem?_eq_getElem hi] at h1
      rw [if_neg (by rw [← k.1]; exact c2), List.getElem?_eq_getElem hu] at h2
      simp only [Option.some.injEq] at h1 h2
      rw [h1, h2]; exact h.2 i hi hu

theorem RV.cellsRv {w S H β} {v : V} {u : Value} (h : RV w S H β v u) : CellsRv w S H β v.cells u.cells.toList := by
  obtain ⟨h1, h2⟩ := h.cells
  refine ⟨by simpa using h1, fun i hi hu => ?_⟩
  have := h2 i hi (by simpa using hu)
  simpa using this

section
variable {P : Program} {w : World} {S : Cells} {H : Heap} {β : Bl} {e : Env} {ρ : Operand → Value} {r : Res} {dst : Option Tmp} {ty : TypeId} {pos : String} {af : Array Edge} {g : Option (Nat × Bool)}

theorem fill_rv (hA : Agree w S H β e ρ) (pl : Nat → Option (Nat × Nat)) : ∀ (parts : List (Nat × Operand)) (l : List (Nat × V)) (m : List (Nat × Nat × V)) (vs vs' : List V) (us : Array Value),
    evParts e parts = some l → placesV pl l = some m → fillV vs m = some vs' → CellsRv w S H β vs us.toList →
    ∃ us', Instr.fill pl us (parts.map fun (i, x) => (i, ρ x)) = some us' ∧ CellsRv w S H β vs' us'.toList := by
  intro parts
  induction parts with
  | nil =>
    intro l m vs vs' us h1 h2 h3 h4
    simp [evParts] at h1; subst h1
    simp [placesV] at h2; subst h2
    simp [fillV] at h3; subst h3
    exact ⟨us, rfl, h4⟩
  | cons p parts ih =>
    intro l m vs vs' us h1 h2 h3 h4
    obtain ⟨i, x⟩ := p
    simp only [evParts] at h1
    cases hx : ev e x with
    | none => simp [hx] at h1
    | some v =>
      cases hr : evParts e parts with
      | none => simp [hx, hr] at h1
      | some l' =>
        simp [hx, hr] at h1; subst h1
        simp only [placesV] at h2
        cases hp : pl i with
        | none => simp [hp] at h2
        | some q =>
          cases hm : placesV pl l' with
          | none => simp [hp, hm] at h2
          | some m' =>
            simp [hp, hm] at h2; subst h2
            simp only [fillV] at h3
            split at h3
            · rename_i hh
              obtain ⟨hl, hb⟩ := hh
              have hv := (hA x v hx).cellsRv
              have hvl : v.cells.length = (ρ x).cells.size := by simpa using hv.1
              have hul : vs.length = us.size := by simpa using h4.1
              have hnew := h4.splice hv (off := q.1) (by omega)
              have e1 : vs.take q.1 ++ v.cells ++ vs.drop (q.1 + q.2) = splice vs q.1 v.cells := by rw [splice, hl]
              rw [e1] at h3
              rw [← arrFold q.1 (ρ x).cells us (by omega)] at hnew
              obtain ⟨us', h5, h6⟩ := ih l' m' _ vs' _ hr hm h3 hnew
              refine ⟨us', ?_, h6⟩
              simp only [List.map_cons, Instr.fill, hp]
              rw [if_neg (by simp; omega)]
              exact h5
            · cases h3

theorem run_places {P : Program} {w : World} : ∀ (fs : List Field) (l : List (Nat × Nat)), fs.mapM (fun fd => (P.info? fd.type).map fun i => (fd.offset, i.size)) = some l →
    (fs.mapM (fun f => (do pure (f.offset, ← sizeOf f.type) : Sem (Nat × Nat)))).run P w = .ok l w := by
  intro fs
  induction fs with
  | nil => intro l h; simp at h; subst h; simp
  | cons f fs ih =>
    intro l h
    rw [List.mapM_cons] at h
    cases hi : P.info? f.type with
    | none => simp [hi] at h
    | some i =>
      cases hm : fs.mapM (fun fd => (P.info? fd.type).map fun i => (fd.offset, i.size)) with
      | none => simp [hi, hm] at h
      | some l' =>
        simp [hi, hm] at h; subst h
        have := ih l' hm
        rw [List.mapM_cons]
        simp only [Sem.run_bind, run_size hi, Result.andThen_ok, Sem.run_pure, this]

theorem d_build (hR : Rel w S H β) (hA : Agree w S H β e ρ) {t parts} (h : opRun P (.build t parts) e H = some r) : Does P w S H β ρ ⟨dst, .build t parts, ty, pos, af, g⟩ r := by
  simp only [opRun] at h
  split at h
  · rename_i l hl
    cases hb : buildV P t l with
    | none => simp [hb] at h
    | some v =>
      simp [hb, ret] at h; subst h
      unfold buildV at hb
      cases hz : zeroV P t with
      | none => simp [hz] at hb
      | some z =>
        cases hp : plOf P t with
        | none => simp [hz, hp] at hb
        | some pl =>
          cases hm : placesV pl l with
          | none => simp [hz, hp, hm] at hb
          | some m =>
            cases hf : fillV z.cells m with
            | none => simp [hz, hp, hm, hf] at hb
            | some cs =>
              simp [hz, hp, hm, hf] at hb; subst hb
              obtain ⟨i, zv, hi, hzv, hrv⟩ := zeroV_rv hz
              obtain ⟨us, h1, h2⟩ := fill_rv hA pl _ _ _ _ _ zv.cells hl hm hf (hrv w S H β).cellsRv
              have hval : RV w S H β (mkAgg cs) (.agg us) := by
                have := RV.mkAgg h2.1 h2.2
                simpa using this
              refine does_value hR (u := .agg us) ?_ hval
              simp only [execOp]
              refine run_val ?_
              have e1 : (parts.map fun (i, x) => (i, ρ x)).toList = parts.toList.map fun (i, x) => (i, ρ x) := by simp
              unfold plOf at hp
              split at hp
              · rename_i hk
                obtain ⟨fs, hu⟩ := kd_struct hk
                simp only [fldsOf, hu] at hp
                cases hfl : fs.toList.mapM (fun fd => (P.info? fd.type).map fun i => (fd.offset, i.size)) with
                | none => simp [hfl] at hp
                | some fl =>
                  simp [hfl] at hp; subst hp
                  have hpl := run_places (P := P) (w := w) fs.toList fl hfl
                  have hpl2 : (fs.mapM (fun f => (do pure (f.offset, ← sizeOf f.type) : Sem (Nat × Nat)))).run P w = .ok fl.toArray w := by
                    rw [Array.mapM_eq_mapM_toList]
                    rw [map_eq_pure_bind, Sem.run_bind, hpl]
                    rfl
                  simp only [Instr.build, Sem.run_bind, run_zero hi hzv, Result.andThen_ok, run_und hu, hpl2]
                  rw [e1]
                  have e2 : (fun i : Nat => (fl.toArray)[i]?) = fun i : Nat => fl[i]? := by funext i; simp
                  rw [e2, h1]
                  rfl
              · rename_i n el hk
                cases hie : infoOf P el with
                | none => simp [hie] at hp
                | some p =>
                  simp [hie] at hp; subst hp
                  obtain ⟨ie, hi1, hi2, _⟩ := info_of hie
                  simp only [Instr.build, Sem.run_bind, run_zero hi hzv, Result.andThen_ok, run_und (kd_arr hk), run_size hi1]
                  rw [e1, hi2, h1]
                  rfl
              · cases hp
  · cases h
end
end Go.Sim
