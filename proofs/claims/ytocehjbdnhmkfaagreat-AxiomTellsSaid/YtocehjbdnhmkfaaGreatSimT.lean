/- A part of the proof of a law of module cupola: SimT. It has no conditions of its own. -/
import Derived.Test.YtocehjbdnhmkfaaGreatSimQ
set_option linter.all false
/-! Places in rows; lengths; parts. -/
namespace Go.Sim

/-- A row in memory. -/
structure RowAt (w : World) (S : Cells) (H : Heap) (β : Bl) (el : List V) (b o esz : Nat) : Prop where
  len : ∀ i (hi : i < el.length), (el[i]).cells.length = esz
  cell : ∀ i (hi : i < el.length) j (hj : j < (el[i]).cells.length), ∃ x, w.cell? ⟨b, o + i * esz + j, none⟩ = some x ∧ RV w S H β (el[i]).cells[j] x

theorem Tcells (x : T) : (V.t x).cells = x.cells.map V.t := by cases x <;> rfl

theorem RowAt.of_arr {w S H β} {xs : List T} {b o esz : Nat} (h : Arr w S xs b o esz) : RowAt w S H β (xs.map V.t) b o esz := by
  refine ⟨fun i hi => ?_, fun i hi j hj => ?_⟩
  · have hi' : i < xs.length := by simpa using hi
    simp only [List.getElem_map, Tcells, List.length_map]
    exact h.1 i hi'
  · have hi' : i < xs.length := by simpa using hi
    simp only [List.getElem_map, Tcells, List.length_map] at hj
    obtain ⟨_, x, h1, h2⟩ := h.2 i hi' j hj
    refine ⟨x, h1, ?_⟩
    simp only [List.getElem_map, Tcells]
    exact .t _ _ h2

theorem sl_row {w S} {xs : List T} {u : Value} (h : RT w S (.sl xs) u) : ∃ base cap, u = .slice base xs.length cap ∧ xs.length ≤ cap ∧ (xs = [] ∨ ∃ b o esz, base = some ⟨b, o, none⟩ ∧ Arr w S xs b o esz) := by
  rcases h.arr with ⟨rfl, A, c, rfl⟩ | ⟨b, o, cap, esz, rfl, hc, ha⟩
  · exact ⟨A, c, rfl, Nat.zero_le _, .inl rfl⟩
  · exact ⟨_, cap, rfl, hc, .inr ⟨b, o, esz, rfl, ha⟩⟩

theorem slOf_rv {w S H β} (hR : Rel w S H β) {v : V} {u : Value} {el : List V} (h : slOf H v = some el) (hv : RV w S H β v u) :
    ∃ base cap, u = .slice base el.length cap ∧ el.length ≤ cap ∧ (el = [] ∨ ∃ b o esz, base = some ⟨b, o, none⟩ ∧ RowAt w S H β el b o esz) := by
  cases v with
  | t x =>
    cases x with
    | sl xs =>
      simp [slOf] at h; subst h
      obtain ⟨base, cap, rfl, hc, hh⟩ := sl_row (rv_t hv)
      refine ⟨base, cap, by simp, by simpa using hc, ?_⟩
      rcases hh with rfl | ⟨b, o, esz, rfl, ha⟩
      · exact .inl rfl
      · exact .inr ⟨b, o, esz, rfl, .of_arr ha⟩
    | _ => simp [slOf] at h
  | ex xs =>
    simp [slOf] at h; subst h
    cases hv with
    | ex _ A n hv =>
      obtain ⟨base, cap, he, hc, hh⟩ := sl_row hv
      simp only [Value.slice.injEq] at he
      obtain ⟨rfl, rfl, rfl⟩ := he
      refine ⟨A, xs.length, by simp, by simp, ?_⟩
      rcases hh with rfl | ⟨b, o, esz, rfl, ha⟩
      · exact .inl rfl
      · exact .inr ⟨b, o, esz, rfl, .of_arr ha⟩
  | ref id n =>
    cases hc : cur H id n with
    | none => simp [slOf, hc] at h
    | some o =>
      simp [slOf, hc] at h; subst h
      obtain ⟨h1, rfl⟩ := cur_at hc
      cases hv with
      | ref _ _ _ hok =>
        obtain ⟨_, o', ho', hn, hb⟩ := hok
        rw [h1] at ho'; cases ho'
        obtain ⟨b, cap, hβ, rfl, hcap⟩ := hb rfl
        refine ⟨_, cap, rfl, hcap, .inr ⟨b, 0, o.esz, rfl, ?_⟩⟩
        obtain ⟨cs, Ty, hh, hsz, hcells⟩ := (hR.obj id o b cap h1 hβ).row
        refine ⟨fun i hi => (hcells i hi).1, fun i hi j hj => ?_⟩
        obtain ⟨q, h2, h3⟩ := (hcells i hi).2 j hj
        exact ⟨q, by rw [cell_of_heap hh, Nat.zero_add]; exact h2, h3⟩
  | _ => simp [slOf] at h

theorem asInt_rv {w S H β} {v : V} {n : Int} {u : Value} (h : asInt v = some n) (hv : RV w S H β v u) : ∃ k, u = .int k n := by
  unfold asInt at h
  split at h
  · cases h; exact ⟨_, rv_int hv⟩
  · cases h

theorem elemSz_sl {P : Program} {e : TypeId} {n : Nat} (h : elemSz P (.sl e) = n) (h0 : 0 < n) : ∃ i, P.info? e = some i ∧ i.size = n := by
  cases hi : infoOf P e with
  | none => simp [elemSz, hi] at h; omega
  | some p => obtain ⟨i, h1, h2, _⟩ := info_of hi; exact ⟨i, h1, by rw [h2, ← h]; simp [elemSz, hi]⟩
theorem elemSz_arr {P : Program} {e : TypeId} {k n : Nat} (h : elemSz P (.arr k e) = n) (h0 : 0 < n) : ∃ i, P.info? e = some i ∧ i.size = n := by
  cases hi : infoOf P e with
  | none => simp [elemSz, hi] at h; omega
  | some p => obtain ⟨i, h1, h2, _⟩ := info_of hi; exact ⟨i, h1, by rw [h2, ← h]; simp [elemSz, hi]⟩

section
variable {P : Program} {w : World} {S : Cells} {H : Heap} {β : Bl} {e : Env} {ρ : Operand → Value} {r : Res} {dst : Option Tmp} {ty : TypeId} {pos : String} {af : Array Edge} {g : Option (Nat × Bool)}

theorem run_indexAt_sl {t el : TypeId} {i : TypeInfo} (hk : kdOf P t = .sl el) (hi : P.info? el = some i) {b o len cap : Nat} {k : IntKind} {n : Int} (h0 : 0 ≤ n) (h1 : n < len) :
    (Instr.indexAt t (.slice (some ⟨b, o, none⟩) len cap) (.int k n)).run P w = .ok (.pointer (some ⟨b, o + n.toNat * i.size, none⟩)) w := by
  simp [Instr.indexAt, asIntOf, run_und (kd_sl hk), h0, h1, run_size hi, add0]
theorem run_indexAt_arr {t el : TypeId} {i : TypeInfo} {len : Nat} (hk : kdOf P t = .arr len el) (hi : P.info? el = some i) {b o : Nat} {k : IntKind} {n : Int} (h0 : 0 ≤ n) (h1 : n < len) :
    (Instr.indexAt t (.pointer (some ⟨b, o, none⟩)) (.int k n)).run P w = .ok (.pointer (some ⟨b, o + n.toNat * i.size, none⟩)) w := by
  simp [Instr.indexAt, asIntOf, run_und (kd_arr hk), h0, h1, run_size hi, add0, Instr.sureAddr]


theorem d_indexAddr (hR : Rel w S H β) (hA : Agree w S H β e ρ) {t x ix} (h : opRun P (.indexAddr t x ix) e H = some r) : Does P w S H β ρ ⟨dst, .indexAddr t x ix, ty, pos, af, g⟩ r := by
  simp only [opRun] at h
  cases hx : ev e x with
  | none => simp [hx] at h
  | some v =>
    cases hi : ev e ix with
    | none => simp [hx, hi] at h
    | some vi =>
      cases hn : asInt vi with
      | none => simp [hx, hi, hn] at h
      | some n =>
        simp only [hx, hi, hn, Option.bind_some] at h
        have hv := hA x v hx
        obtain ⟨k, hρi⟩ := asInt_rv hn (hA ix vi hi)
        cases hq : indexV H (kdOf P t) (elemSz P (kdOf P t)) v n with
        | none => simp [hq] at h
        | some v' =>
          simp [hq] at h; subst h
          unfold indexV at hq
          generalize hkd : kdOf P t = kd at hq
          have hsl : ∀ (el : TypeId) (xs : List T) (A cap) (hk : kd = .sl el) (hρ : ρ x = .slice A xs.length cap) (hrt : RT w S (.sl xs) (.slice A xs.length cap)) (y : T) (hy : xs[n.toNat]? = some y) (h0 : 0 ≤ n) (hsz : y.cells.length = elemSz P kd) (hpos : 0 < elemSz P kd),
              Does P w S H β ρ ⟨dst, .indexAddr t x ix, ty, pos, af, g⟩ ⟨.tp xs n.toNat 0, H, effP (.tp xs n.toNat 0)⟩ := by
            intro el xs A cap hk hρ hrt y hy h0 hsz hpos
            subst hk
            obtain ⟨i, hi1, hi2⟩ := elemSz_sl rfl hpos
            have hlt : n.toNat < xs.length := by
              rcases Nat.lt_or_ge n.toNat xs.length with h' | h'
              · exact h'
              · rw [List.getElem?_eq_none h'] at hy; cases hy
            rw [List.getElem?_eq_getElem hlt] at hy; cases hy
            obtain ⟨base, cap', he, _, hh⟩ := sl_row hrt
            simp only [Value.slice.injEq, true_and] at he
            obtain ⟨rfl, rfl⟩ := he
            rcases hh with rfl | ⟨b, o, esz, rfl, ha⟩
            · simp at hlt
            · have he : esz = i.size := by rw [hi2, ← hsz]; exact (ha.1 _ hlt).symm
              refine does_value' hR (u := .pointer (some ⟨b, o + n.toNat * i.size, none⟩)) ?_ ?_
              · simp only [execOp, hρ, hρi]
                rw [Sem.run_bind, run_indexAt_sl hkd hi1 h0 (by omega)]
                rfl
              · rw [← he]
                simpa using RV.tp (w := w) (S := S) (H := H) (β := β) xs n.toNat 0 b o esz hlt ha
          split at hq
          · rename_i el xs
            cases hy : xs[n.toNat]? with
            | none => simp [hy] at hq
            | some y =>
              simp only [hy, Option.bind_some] at hq
              split at hq
              · rename_i hh
                cases hq
                have hrt := rv_t hv
                obtain ⟨base, cap', he, _, _⟩ := sl_row hrt
                rw [he] at hrt
                exact hsl el xs base cap' rfl he hrt y hy hh.1 hh.2.1 hh.2.2
              · cases hq
          · rename_i el xs
            cases hy : xs[n.toNat]? with
            | none => simp [hy] at hq
            | some y =>
              simp only [hy, Option.bind_some] at hq
              split at hq
              · rename_i hh
                cases hq
                generalize hρ : ρ x = q at hv
                cases hv with
                | ex _ A m hrt =>
                  obtain ⟨base, cap', he, _, _⟩ := sl_row hrt
                  simp only [Value.slice.injEq] at he
                  obtain ⟨rfl, rfl, rfl⟩ := he
                  exact hsl el xs _ _ rfl hρ hrt y hy hh.1 hh.2.1 hh.2.2
              · cases hq
          · rename_i el id m
            cases hc : cur H id m with
            | none => simp [hc] at hq
            | some o =>
              simp only [hc, Option.bind_some] at hq
              split at hq
              · rename_i hh
                obtain ⟨h0, h1, h2, h3⟩ := hh
                cases hq
                generalize hρ : ρ x = q at hv
                cases hv with
                | ref _ _ _ hok =>
                  obtain ⟨hc1, hc2⟩ := cur_at hc
                  obtain ⟨_, o', ho', hn', hb⟩ := hok
                  rw [hc1] at ho'; cases ho'
                  obtain ⟨b, cap, hβ, rfl, hcap⟩ := hb hc2
                  obtain ⟨i, hi1, hi2⟩ := elemSz_sl rfl h3
                  refine does_value' hR (u := .pointer (some ⟨b, 0 + n.toNat * i.size, none⟩)) ?_ (.ptr _ _ _ _ _ ⟨⟨_, _, rfl⟩, o, hc1, hn', fun _ => ⟨b, cap, hβ, ?_⟩⟩)
                  · simp only [execOp, hρ, hρi]
                    rw [Sem.run_bind, run_indexAt_sl hkd hi1 h0 h1]
                    rfl
                  · rw [hi2, ← h2]; simp
              · cases hq
          · rename_i len el id m j off
            split at hq
            · rename_i hh
              obtain ⟨h0, h1, h3⟩ := hh
              cases hq
              generalize hρ : ρ x = q at hv
              cases hv with
              | ptr _ _ _ _ _ hok =>
                obtain ⟨⟨b, k', rfl⟩, o', ho', hn', hb⟩ := hok
                obtain ⟨i, hi1, hi2⟩ := elemSz_arr rfl h3
                refine does_value' hR (u := .pointer (some ⟨b, k' + n.toNat * i.size, none⟩)) ?_ (.ptr _ _ _ _ _ ⟨⟨_, _, rfl⟩, o', ho', hn', fun e' => ?_⟩)
                · simp only [execOp, hρ, hρi]
                  rw [Sem.run_bind, run_indexAt_arr hkd hi1 h0 h1]
                  rfl
                · obtain ⟨b', cap, h4, h5⟩ := hb e'
                  simp only [Value.pointer.injEq, Option.some.injEq, Addr.mk.injEq] at h5
                  obtain ⟨rfl, rfl, _⟩ := h5
                  exact ⟨b, cap, h4, by rw [hi2, Nat.add_assoc]⟩
            · cases hq
          · rename_i len el xs j off
            split at hq
            · rename_i hh
              obtain ⟨h0, h1, h3⟩ := hh
              cases hq
              generalize hρ : ρ x = q at hv
              cases hv with
              | tp _ _ _ b o' esz hj harr =>
                obtain ⟨i, hi1, hi2⟩ := elemSz_arr rfl h3
                refine does_value' hR (u := .pointer (some ⟨b, o' + j * esz + off + n.toNat * i.size, none⟩)) ?_ ?_
                · simp only [execOp, hρ, hρi]
                  rw [Sem.run_bind, run_indexAt_arr hkd hi1 h0 h1]
                  rfl
                · have := RV.tp (w := w) (S := S) (H := H) (β := β) xs j (off + n.toNat * i.size) b o' esz hj harr
                  rw [← hi2]
                  simpa [Nat.add_assoc] using this
            · cases hq
          · cases hq

theorem d_index (hR : Rel w S H β) (hA : Agree w S H β e ρ) {t x ix} (h : opRun P (.index t x ix) e H = some r) : Does P w S H β ρ ⟨dst, .index t x ix, ty, pos, af, g⟩ r := by
  simp only [opRun] at h
  split at h
  · rename_i s n hk hx hi
    cases hvi : ev e ix with
    | none => simp [hvi] at hi
    | some vi =>
      simp only [hvi, Option.bind_some] at hi
      split at h
      · rename_i hh
        simp [ret] at h; subst h
        obtain ⟨k, hρi⟩ := asInt_rv hi (hA ix vi hvi)
        have hρ := rv_str (hA x _ hx)
        refine does_value hR (u := .int .u8 (s.get! n.toNat).toNat) ?_ (.t _ _ (.int _ _))
        have hlt : n.toNat < s.size := by omega
        have hget : s[n.toNat]? = some (s.get! n.toNat) := by
          rw [getElem?_pos s n.toNat hlt]
          congr 1
          cases s with
          | mk d =>
            have hd : n.toNat < d.size := hlt
            show d[n.toNat] = d[n.toNat]!
            exact (getElem!_pos d n.toNat hd).symm
        simp [execOp, Instr.index, asIntOf, hρ, hρi, run_und (kd_str hk), hh.1, hget]
      · cases h
  · rename_i len el cs n hk hx hi
    cases hvi : ev e ix with
    | none => simp [hvi] at hi
    | some vi =>
      simp only [hvi, Option.bind_some] at hi
      split at h
      · rename_i hh
        cases hc : cs[n.toNat]? with
        | none => simp [hc] at h
        | some y =>
          simp [hc, ret] at h; subst h
          obtain ⟨k, hρi⟩ := asInt_rv hi (hA ix vi hvi)
          have hv := rv_t (hA x _ hx)
          obtain ⟨d, inf, h1, h2, h3, h4⟩ := ty_of (eq_of_beq hh.2.2)
          generalize hu : ρ x = u at hv
          cases hv with
          | agg _ us hl hall =>
            obtain ⟨hlt, hget⟩ := List.getElem?_eq_some_iff.1 hc
            refine does_value hR (u := us[n.toNat]'(by omega)) ?_ (.t _ _ (by rw [← hget]; exact hall _ hlt (by omega)))
            have hsz : inf.size = 1 := h4
            simp only [execOp, Instr.index, asIntOf, hu, hρi, run_und (kd_arr hk), Sem.run_bind, Result.andThen_ok, Sem.run_pure, hh.1, hh.2.1, and_self, if_true, run_size h2, hsz, Nat.mul_one, part, run_agg h1, h3, Bool.false_eq_true, if_false, List.getElem?_toArray, List.getElem?_eq_getElem (show n.toNat < us.length by omega)]
      · cases h
  · cases h

theorem d_extract (hR : Rel w S H β) (hA : Agree w S H β e ρ) {x i} (h : opRun P (.extract x i) e H = some r) : Does P w S H β ρ ⟨dst, .extract x i, ty, pos, af, g⟩ r := by
  simp only [opRun] at h
  split at h
  · rename_i vs hx
    cases hi : vs[i]? with
    | none => simp [hi] at h
    | some v =>
      simp [hi, ret] at h; subst h
      have hv := hA x _ hx
      generalize hρ : ρ x = q at hv
      cases hv with
      | tup _ us hl hh =>
        have hlt : i < vs.length := by
          rcases Nat.lt_or_ge i vs.length with h' | h'
          · exact h'
          · rw [List.getElem?_eq_none h'] at hi; cases hi
        rw [List.getElem?_eq_getElem hlt] at hi; cases hi
        refine does_value hR (u := us[i]'(by omega)) ?_ (hh i hlt (by omega))
        have hlt' : i < us.length := by omega
        simp [execOp, Instr.extract, hρ, hlt']
  · rename_i vs hx
    cases hi : vs[i]? with
    | none => simp [hi] at h
    | some v =>
      simp [hi, ret] at h; subst h
      have hv := rv_t (hA x _ hx)
      generalize hρ : ρ x = q at hv
      cases hv with
      | tup _ us hl hh =>
        have hlt : i < vs.length := by
          rcases Nat.lt_or_ge i vs.length with h' | h'
          · exact h'
          · rw [List.getElem?_eq_none h'] at hi; cases hi
        rw [List.getElem?_eq_getElem hlt] at hi; cases hi
        refine does_value hR (u := us[i]'(by omega)) ?_ (.t _ _ (hh i hlt (by omega)))
        have hlt' : i < us.length := by omega
        simp [execOp, Instr.extract, hρ, hlt']
  · cases h
end
end Go.Sim
