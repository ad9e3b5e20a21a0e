/- A part of the proof of a law of module cupola: SimI. It has no conditions of its own. -/
import Derived.Test.YtocehjbdnhmkfaaGreatSimG
set_option linter.all false
/-! Literals of slices. -/
namespace Go.Sim

theorem fold_all (d : Nat) : ∀ (l : List V) (H : Heap), ∀ y, y ∈ l → AllSt (l.foldl (hold d) H) d y := by
  intro l
  induction l with
  | nil => intro H y hy; cases hy
  | cons v l ihl =>
    intro H y hy
    simp only [List.foldl_cons]
    rcases List.mem_cons.1 hy with rfl | hy
    · exact (hold_all d H y).raise (fold_raise d l _) d y
    · exact ihl _ y hy

theorem allSt_t (H : Heap) (d : Nat) (x : T) : AllSt H d (.t x) := by cases d <;> trivial
theorem allSt_ex (H : Heap) (d : Nat) (x : List T) : AllSt H d (.ex x) := by cases d <;> trivial
theorem ofScalar_all {v : Value} {x : V} (h : ofScalar v = some x) (H : Heap) (d : Nat) : AllSt H d x := by
  unfold ofScalar at h
  split at h
  · cases h; exact allSt_t _ _ _
  · cases h; exact allSt_t _ _ _
  · cases h; exact allSt_t _ _ _
  · cases h; exact allSt_ex _ _ _
  · cases h; exact allSt_t _ _ _
  · cases h; exact allSt_t _ _ _
  · cases h; exact allSt_t _ _ _
  · split at h
    · cases h; exact allSt_t _ _ _
    · cases h
  · cases h
theorem ofVal_all {v : Value} {x : V} (h : ofVal v = some x) (H : Heap) (d : Nat) : AllSt H d x := by
  unfold ofVal at h
  split at h
  · rename_i cs
    cases hm : cs.toList.mapM ofScalar with
    | none => simp [hm] at h
    | some l =>
      simp [hm] at h
      subst h
      obtain ⟨h1, h2⟩ := mapM_some hm
      unfold mkAgg
      split
      · exact allSt_t _ _ _
      · cases d with
        | zero => trivial
        | succ d =>
          intro y hy
          obtain ⟨i, hi, rfl⟩ := List.mem_iff_getElem.1 hy
          exact ofScalar_all (h2 i (by omega) hi) H d
  · exact ofScalar_all h H d
theorem zeroV_all {P : Program} {t : TypeId} {z : V} (h : zeroV P t = some z) (H : Heap) (d : Nat) : AllSt H d z := by
  unfold zeroV at h
  cases hi : P.info? t with
  | none => simp [hi] at h
  | some i =>
    simp only [hi] at h
    cases hz : i.zero with
    | none => simp [hz] at h
    | some zv => simp only [hz, Option.bind_some] at h; exact ofVal_all h H d

theorem RT.cells {w : World} {S : Cells} {x : T} {u : Value} (h : RT w S x u) : x.cells.length = u.cells.size ∧ ∀ j (hj : j < x.cells.length) (hu : j < u.cells.size), RT w S x.cells[j] u.cells[j] := by
  obtain ⟨h1, h2⟩ := (RV.t (H := []) (β := []) x u h).cells
  simp only [Tcells, List.length_map, List.getElem_map] at h1 h2
  exact ⟨h1, fun j hj hu => rv_t (h2 j hj hu)⟩

/-- A row of trees, and the cells it takes. -/
def RowT (w : World) (S : Cells) (sz : Nat) (xs : List T) (us : Array Value) : Prop :=
  us.size = xs.length * sz ∧ ∀ k (hk : k < xs.length), (xs[k]).cells.length = sz ∧ ∀ j (hj : j < (xs[k]).cells.length), ∃ u, us[k * sz + j]? = some u ∧ RT w S (xs[k]).cells[j] u

theorem RowT.set {w S sz} {xs : List T} {us : Array Value} (h : RowT w S sz xs us) {i : Nat} (hi : i < xs.length) {x : T} {u : Value} (hx : RT w S x u) (hl : x.cells.length = sz) :
    RowT w S sz (xs.set i x) (u.cells.zipIdx.foldl (fun (cs : Array Value) (p : Value × Nat) => cs.setIfInBounds (i * sz + p.2) p.1) us) := by
  obtain ⟨h1, h2⟩ := h
  obtain ⟨hc1, hc2⟩ := hx.cells
  have hb : (i + 1) * sz ≤ xs.length * sz := Nat.mul_le_mul_right _ hi
  rw [Nat.succ_mul] at hb
  have hfit : i * sz + u.cells.size ≤ us.size := by rw [h1, ← hc1]; omega
  have hf := arrFold (i * sz) u.cells us hfit
  have hlen := splice_len us.toList (i * sz) u.cells.toList (by simpa using hfit)
  have hget := splice_get us.toList (i * sz) u.cells.toList (by simpa using hfit)
  refine ⟨?_, fun k hk => ?_⟩
  · rw [← Array.length_toList, hf, hlen]; simpa using h1
  · by_cases e : k = i
    · subst e
      simp only [List.getElem_set_self]
      refine ⟨hl, fun j hj => ⟨u.cells[j]'(by omega), ?_, hc2 j hj (by omega)⟩⟩
      rw [← Array.getElem?_toList, hf, hget, if_neg (by omega), if_pos (by simp; omega)]
      have : j < u.cells.size := by omega
      simp [this]
    · have hk' : k < xs.length := by simpa using hk
      have e1 : (xs.set i x)[k] = xs[k] := List.getElem_set_ne (fun h => e h.symm) _
      simp only [e1]
      obtain ⟨h3, h4⟩ := h2 k hk'
      refine ⟨h3, fun j hj => ?_⟩
      obtain ⟨q, h5, h6⟩ := h4 j hj
      refine ⟨q, ?_, h6⟩
      rw [← Array.getElem?_toList, hf, hget]
      rcases Nat.lt_or_gt_of_ne e with hlt | hgt
      · have : (k + 1) * sz ≤ i * sz := Nat.mul_le_mul_right _ hlt
        rw [Nat.succ_mul] at this
        rw [if_pos (by omega)]; simpa using h5
      · have : (i + 1) * sz ≤ k * sz := Nat.mul_le_mul_right _ hgt
        rw [Nat.succ_mul] at this
        rw [if_neg (by omega), if_neg (by simp; omega)]; simpa using h5

section
variable {P : Program} {w : World} {S : Cells} {H : Heap} {β : Bl} {e : Env} {ρ : Operand → Value} {r : Res} {dst : Option Tmp} {ty : TypeId} {pos : String} {af : Array Edge} {g : Option (Nat × Bool)}

theorem lit_rt {S1 : Cells} {sz : Nat} (H : Heap) : ∀ (parts : List (Nat × Operand)) (l : List (Nat × V)) (xs xs' : List T) (us : Array Value),
    evParts e parts = some l → (∀ v x (o : Operand), ev e o = some v → toT H depth v = some x → v ∈ l.map (·.2) → RT w S1 x (ρ o)) → (∀ p ∈ l, p.2.cells.length = sz) → (∀ v (o : Operand), ev e o = some v → v.cells.length = (ρ o).cells.size) →
    litV H xs l = some xs' → RowT w S1 sz xs us → ∃ us', Instr.fill (fun i => some (i * sz, sz)) us (parts.map fun (i, x) => (i, ρ x)) = some us' ∧ RowT w S1 sz xs' us' ∧ xs'.length = xs.length := by
  intro parts
  induction parts with
  | nil =>
    intro l xs xs' us h1 _ _ _ h2 h3
    simp [evParts] at h1; subst h1
    simp [litV] at h2; subst h2
    exact ⟨us, rfl, h3, rfl⟩
  | cons p parts ih =>
    intro l xs xs' us h1 hrt hsz hcl h2 h3
    obtain ⟨i, o⟩ := p
    simp only [evParts] at h1
    cases hx : ev e o with
    | none => simp [hx] at h1
    | some v =>
      cases hr : evParts e parts with
      | none => simp [hx, hr] at h1
      | some l' =>
        simp [hx, hr] at h1; subst h1
        simp only [litV] at h2
        split at h2
        · rename_i hi
          cases ht : toT H depth v with
          | none => simp [ht] at h2
          | some x =>
            simp only [ht, Option.bind_some] at h2
            have hR := hrt v x o hx ht (by simp)
            have hl : v.cells.length = sz := hsz (i, v) (by simp)
            have hcs := hcl v o hx
            have hxl : x.cells.length = sz := by rw [hR.cells.1, ← hcs, hl]
            have h4 := h3.set hi hR hxl
            obtain ⟨us', h5, h6, h7⟩ := ih l' _ xs' _ hr (fun v x o a b c => hrt v x o a b (by simp at c ⊢; exact .inr c)) (fun p hp => hsz p (by simp [hp])) hcl h2 h4
            refine ⟨us', ?_, h6, by simpa using h7⟩
            simp only [List.map_cons, Instr.fill]
            rw [if_neg ?_]
            · exact h5
            · have hb : (i + 1) * sz ≤ xs.length * sz := Nat.mul_le_mul_right _ hi
              rw [Nat.succ_mul] at hb
              have := h3.1
              simp; omega
        · cases h2

theorem d_buildSlice (hR : Rel w S H β) (hA : Agree w S H β e ρ) {t len parts} (h : opRun P (.buildSlice t len parts) e H = some r) : Does P w S H β ρ ⟨dst, .buildSlice t len parts, ty, pos, af, g⟩ r := by
  simp only [opRun] at h
  split at h
  · rename_i el hk
    cases hl : evParts e parts.toList with
    | none => simp [hl] at h
    | some l =>
      cases hz : zeroV P el with
      | none => simp [hl, hz] at h
      | some z =>
        cases hie : infoOf P el with
        | none => simp [hl, hz, hie] at h
        | some p =>
          cases hz' : toT H depth z with
          | none => simp [hl, hz, hie, hz'] at h
          | some z' =>
            simp only [hl, hz, hie, hz', Option.bind_some] at h
            split at h
            · rename_i hh
              obtain ⟨hlim, hzl, hp1, hp2, hall⟩ := hh
              cases hlit : litV H (List.replicate len z') l with
              | none => simp [hlit] at h
              | some xs =>
                simp only [hlit, Option.bind_some, Option.some.injEq] at h
                subst h
                obtain ⟨i, hi1, hi2, hi3⟩ := info_of hie
                obtain ⟨i', zv, hi', hzv, hrv⟩ := zeroV_rv hz
                rw [hi1] at hi'; cases hi'
                have hraise := fold_raise depth (l.map (·.2)) H
                obtain ⟨S1, hE1, hR1⟩ := hR.raise hraise
                have hzrt : RT w S1 z' zv := (toT_rt hR depth z z' zv hz' (zeroV_all hz H depth) (hrv w S H β)).mono hE1.stay
                have hzsz : zv.cells.size = p.1 := by rw [← hzrt.cells.1, hzl]
                have hrow0 : RowT w S1 p.1 (List.replicate len z') ((Array.range (len * i.size)).map (zv.cells[· % zv.cells.size]!)) := by
                  refine ⟨by simp [hi2], fun k hk' => ?_⟩
                  simp only [List.getElem_replicate]
                  refine ⟨hzl, fun j hj => ?_⟩
                  have hj' : j < zv.cells.size := by omega
                  refine ⟨zv.cells[j], ?_, hzrt.cells.2 j hj hj'⟩
                  have hjp : j < p.1 := by omega
                  have hk2 : k < len := by simpa using hk'
                  have hlt : k * p.1 + j < len * i.size := by
                    have h3 : (k + 1) * p.1 ≤ len * p.1 := Nat.mul_le_mul_right _ (by omega)
                    rw [Nat.succ_mul] at h3
                    rw [hi2]; omega
                  have hmod : (k * p.1 + j) % zv.cells.size = j := by
                    rw [hzsz, Nat.mul_comm, Nat.mul_add_mod]; exact Nat.mod_eq_of_lt hjp
                  simp [hlt, hmod, hj']
                have hparts : ∀ v x (o : Operand), ev e o = some v → toT H depth v = some x → v ∈ l.map (·.2) → RT w S1 x (ρ o) := by
                  intro v x o hv hx hm
                  exact toT_rt hR1 depth v x (ρ o) (toT_raise hraise depth v x hx) (fold_all depth _ H v hm) ((hA o v hv).mono hE1.stay hE1.grow)
                obtain ⟨us, h1, h2, h3⟩ := lit_rt (sz := p.1) H parts.toList l _ xs _ hl hparts (fun q hq => by
                  have := List.all_eq_true.1 hall q hq
                  simpa using this) (fun v o hv => (hA o v hv).cells.1) hlit hrow0
                obtain ⟨hE2, hR2⟩ := hR1.fixed us el
                have hlen : xs.length = len := by simpa using h3
                refine ⟨.slice (some ⟨w.heap.size, 0, none⟩) len len, _, _, _, .inl ?_, hE1.trans hE2, hR2, ?_⟩
                · simp only [execOp]
                  refine run_val ?_
                  have hlim' : ¬ (16777216 < len * i.size) := by
                    rw [hi2]
                    have : (2:Nat)^24 = 16777216 := by decide
                    omega
                  have e1 : (parts.map fun (i, x) => (i, ρ x)).toList = parts.toList.map fun (i, x) => (i, ρ x) := by simp
                  have h1' : Instr.fill (fun k => some (k * i.size, i.size)) ((Array.range (len * i.size)).map (zv.cells[· % zv.cells.size]!)) (parts.map fun (i, x) => (i, ρ x)).toList = some us := by rw [e1, hi2, ← hi2]; rw [← hi2] at h1; exact h1
                  by_cases hn0 : len * i.size = 0
                  · have ez : (Array.range (len * i.size)).map (zv.cells[· % zv.cells.size]!) = #[] := by rw [hn0]; apply Array.ext'; simp
                    have ez2 : (Array.range (len * i.size)).map (fun x => (#[] : Array Value)[x % (#[] : Array Value).size]!) = #[] := by rw [hn0]; apply Array.ext'; simp
                    rw [ez] at h1'
                    simp only [Instr.buildSlice, Sem.run_bind, run_und (kd_sl hk), Result.andThen_ok, run_size hi1]
                    rw [if_neg (by omega), if_pos hn0]
                    simp only [Sem.run_bind, Sem.run_pure, Result.andThen_ok]
                    rw [ez2, h1']
                    simp only [Sem.run_bind, run_row, Result.andThen_ok, Sem.run_pure]
                  · simp only [Instr.buildSlice, Sem.run_bind, run_und (kd_sl hk), Result.andThen_ok, run_size hi1]
                    rw [if_neg (by omega), if_neg hn0]
                    simp only [Sem.run_bind, Sem.run_pure, Result.andThen_ok, run_zero hi1 hzv]
                    rw [h1']
                    simp only [Sem.run_bind, run_row, Result.andThen_ok, Sem.run_pure]
                · have harr : Arr (w.alloc (.cells us el)) (fun b j => S1 b j ∨ b = w.heap.size) xs w.heap.size 0 p.1 := by
                    refine ⟨fun k hk' => (h2.2 k hk').1, fun k hk' j hj => ⟨.inr rfl, ?_⟩⟩
                    obtain ⟨u, h4, h5⟩ := (h2.2 k hk').2 j hj
                    refine ⟨u, ?_, h5.mono hE2.stay⟩
                    rw [cell_of_heap (alloc_new w (.cells us el)), Nat.zero_add]; exact h4
                  have := RT.of_arr harr (cap := len) (by omega)
                  rw [hlen] at this
                  exact .ex _ _ _ this
            · cases h
  · cases h
end
end Go.Sim
