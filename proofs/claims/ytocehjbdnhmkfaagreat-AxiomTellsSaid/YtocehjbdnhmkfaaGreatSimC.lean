/- A part of the proof of a law of module cupola: SimC. It has no conditions of its own. -/
import Derived.Test.YtocehjbdnhmkfaaGreatSimB
set_option linter.all false
/-! More builtins; what is made. -/
namespace Go.Sim
section
variable {P : Program} {w : World} {S : Cells} {H : Heap} {β : Bl} {e : Env} {ρ : Operand → Value} {r : Res} {dst : Option Tmp} {ty : TypeId} {pos : String} {af : Array Edge} {g : Option (Nat × Bool)}

theorem rowAt_take {el : List V} {b o esz n : Nat} (h : RowAt w S H β el b o esz) : RowAt w S H β (el.take n) b o esz := by
  refine ⟨fun i hi => ?_, fun i hi j hj => ?_⟩
  · rw [List.getElem_take]; exact h.len i (by simp at hi; omega)
  · have hi' : i < el.length := by simp at hi; omega
    have e : (el.take n)[i] = el[i] := List.getElem_take
    simp only [e] at hj ⊢
    exact h.cell i hi' j hj

theorem firstCells_base {size n : Nat} {base : Option Addr} {m m' c c' : Nat} : Builtin.firstCells size n (.slice base m c) = Builtin.firstCells size n (.slice base m' c') := by
  cases base <;> rfl

theorem copy_does {t xt el : TypeId} {d x : V} {ud ux : Value} (hk : kdOf P t = .sl el) (hR : Rel w S H β) (hd : RV w S H β d ud) (hx : RV w S H β x ux)
    (h : copyV (elemSz P (.sl el)) H d x = some r) : ∃ u w' S' β', (Builtin.copy_ #[t, xt] ty #[ud, ux]).run P w = .ok u w' ∧ Ext w S H β w' S' r.H β' ∧ Rel w' S' r.H β' ∧ RV w' S' r.H β' r.v u := by
  unfold copyV at h
  split at h
  · rename_i id n ys hys
    cases hc : cur H id n with
    | none => simp [hc] at h
    | some o =>
      simp only [hc] at h
      split at h
      · rename_i hh
        obtain ⟨hst, hoe, hfit⟩ := hh
        cases h
        obtain ⟨ho, rfl⟩ := cur_at hc
        obtain ⟨xb, xc, rfl, hxc, hxrow⟩ := slOf_rv hR hys hx
        cases hd with
        | ref _ _ _ hok =>
          obtain ⟨_, o', ho', _, hb⟩ := hok
          rw [ho] at ho'; cases ho'
          obtain ⟨b, cap, hβ, rfl, hcap⟩ := hb rfl
          have hO := hR.obj id o b cap ho hβ
          obtain ⟨cs, Ty, hcs, hcsz, hcells⟩ := hO.row
          obtain ⟨i, hi, hisz⟩ := elemSz_sl (P := P) (e := el) hoe.symm hO.pos
          have hyl : ys.all (fits o.esz) = true := by simpa [fits] using hfit
          obtain ⟨hfl, hfs⟩ := fits_len hyl
          have htake : ∀ k (hk : k < (ys.take o.el.length).length), ((ys.take o.el.length)[k]).cells.length = o.esz := by
            intro k hk; rw [List.getElem_take]; exact hfl k (by simp at hk; omega)
          have htrow : (ys.take o.el.length) = [] ∨ ∃ b' o' esz, xb = some ⟨b', o', none⟩ ∧ RowAt w S H β (ys.take o.el.length) b' o' esz := by
            rcases hxrow with rfl | ⟨b', o', esz, rfl, hr⟩
            · simp
            · exact .inr ⟨b', o', esz, rfl, rowAt_take hr⟩
          obtain ⟨news, hnl, hnf, hncell, hnone⟩ := first_row (P := P) (w := w) (S := S) (H := H) (β := β) (base := xb) (cap := xc) htrow htake hO.pos
          have hmin : (ys.take o.el.length).length = Nat.min ys.length o.el.length := by simp [Nat.min_comm]
          have hle : (ys.take o.el.length).length ≤ o.el.length := by simp; omega
          have hfit2 : 0 + news.length ≤ cs.size := by
            rw [hcsz, hnl, Nat.zero_add]; exact Nat.mul_le_mul_right _ (Nat.le_trans hle hcap)
          have hall1 : ∀ u ∈ news, u.oneCell' = true := hnone (List.all_eq_true.2 fun y hy => List.all_eq_true.1 hfs y (List.mem_of_mem_take hy))
          have hstc := run_storeCells_at P b 0 Ty news 0 cs w hcs (by simpa using hfit2) hall1
          simp only [Nat.add_zero, Nat.zero_add] at hstc
          have hget := splice_get cs.toList 0 news (by simpa using hfit2)
          have hf1 := hnf w rfl
          have hel : (ys.take o.el.length ++ o.el.drop ys.length).length = o.el.length := by simp; omega
          obtain ⟨hE, hR'⟩ := hR.write ho hβ hst (el := ys.take o.el.length ++ o.el.drop ys.length) hel hcs (cs' := (cs.toList.take 0 ++ news ++ cs.toList.drop news.length).toArray) (by
              have := splice_len cs.toList 0 news (by simpa using hfit2)
              simpa [splice] using this) (by
              intro k hk
              by_cases hlo : k < (ys.take o.el.length).length
              · rw [List.getElem_append_left hlo]
                refine ⟨htake k hlo, fun j hj => ?_⟩
                obtain ⟨u, h1, h2⟩ := hncell k hlo j hj
                refine ⟨u, ?_, h2⟩
                have h3 : k * o.esz + j < news.length := by
                  rcases Nat.lt_or_ge (k * o.esz + j) news.length with h' | h'
                  · exact h'
                  · rw [List.getElem?_eq_none h'] at h1; cases h1
                have h4 := hget (k * o.esz + j)
                rw [if_neg (by omega), if_pos (by omega), Nat.sub_zero] at h4
                rw [List.getElem?_toArray]
                rw [show (cs.toList.take 0 ++ news ++ cs.toList.drop news.length) = splice cs.toList 0 news from by simp [splice], h4]
                exact h1
              · have hge : (ys.take o.el.length).length ≤ k := by omega
                have hk' : k < o.el.length := by omega
                have e1 : (ys.take o.el.length ++ o.el.drop ys.length)[k] = o.el[k] := by
                  rw [List.getElem_append_right hge]
                  simp only [List.getElem_drop]
                  congr 1
                  simp at hge ⊢; omega
                rw [e1]
                refine ⟨(hcells k hk').1, fun j hj => ?_⟩
                obtain ⟨u, h1, h2⟩ := (hcells k hk').2 j hj
                refine ⟨u, ?_, h2⟩
                have h3 : news.length ≤ k * o.esz + j := by
                  rw [hnl]; exact Nat.le_trans (Nat.mul_le_mul_right _ hge) (by omega)
                have h4 := hget (k * o.esz + j)
                rw [if_neg (by omega), if_neg (by omega)] at h4
                rw [List.getElem?_toArray]
                rw [show (cs.toList.take 0 ++ news ++ cs.toList.drop news.length) = splice cs.toList 0 news from by simp [splice], h4]
                simpa using h1)
          refine ⟨goInt (Nat.min ys.length o.el.length), _, S, β, ?_, hE, hR', ?_⟩
          · rw [hmin, firstCells_base (m' := ys.length) (c' := xc)] at hf1
            simp [Builtin.copy_, run_und (kd_sl hk), Builtin.lenOf, run_size hi, hisz, hf1, hstc]
          · have : (Min.min o.el.length ys.length) = Nat.min ys.length o.el.length := Nat.min_comm _ _
            rw [this]
            exact .t _ _ (.int _ _)
      · cases h
  · cases h

theorem d_builtin (hR : Rel w S H β) (hA : Agree w S H β e ρ) {b : Builtin} {as : Array Operand} {ts : Array TypeId} (h : opRun P (.call { callee := .builtin b, args := as, argTypes := ts }) e H = some r) :
    Does P w S H β ρ ⟨dst, .call { callee := .builtin b, args := as, argTypes := ts }, ty, pos, af, g⟩ r := by
  obtain ⟨cs, hrun⟩ := run_builtin (P := P) (ρ := ρ) (dst := dst) (ty := ty) (pos := pos) (af := af) (g := g) (c := { callee := .builtin b, args := as, argTypes := ts }) rfl w
  simp only at hrun
  simp only [opRun] at h
  split at h
  · -- len
    rename_i x hx
    obtain ⟨o, ho, hv⟩ := evs_one hx
    cases ht : ts[0]? with
    | none => simp [ht] at h
    | some t =>
      simp only [ht, Option.bind_some] at h
      obtain ⟨u, h1, h2, h3⟩ := len_run (ty := ty) ht h hR (hA o x hv)
      obtain ⟨v, H', eff⟩ := r
      simp only at h2 h3; subst h3
      refine does_value' hR (u := u) ?_ h2
      rw [hrun, args2 ho]
      exact run_val h1
  · -- append
    rename_i s x hx
    obtain ⟨o1, o2, ho, hv1, hv2⟩ := evs_two hx
    cases ht : ts[0]? with
    | none => simp [ht] at h
    | some t =>
      cases hxt : ts[1]? with
      | none => simp [ht, hxt] at h
      | some xt =>
        simp only [ht, hxt, Option.bind_some] at h
        split at h
        · rename_i el xel hk hkx
          cases hys : slOf H x with
          | none => simp [hys] at h
          | some ys =>
            simp only [hys, Option.bind_some] at h
            obtain ⟨u, w', S', β', h1, hE, hR', hv⟩ := append_does (ty := ty) hk hkx hR (hA o1 s hv1) (hA o2 x hv2) hys h
            refine ⟨u, w', S', β', .inl ?_, hE, hR', hv⟩
            rw [hrun, args2 ho]
            refine run_val ?_
            rw [← h1]
            have e : ∀ a : Array Value, Builtin.append_ ts ty a = Builtin.append_ #[t, xt] ty a := fun a => by
              unfold Builtin.append_; simp [ht, hxt]
            rw [e]
            rfl
        · cases h
  · -- copy
    rename_i d s hx
    obtain ⟨o1, o2, ho, hv1, hv2⟩ := evs_two hx
    cases ht : ts[0]? with
    | none => simp [ht] at h
    | some t =>
      simp only [ht, Option.bind_some] at h
      split at h
      · rename_i el hk
        obtain ⟨u, w', S', β', h1, hE, hR', hv⟩ := copy_does (ty := ty) (xt := 0) hk hR (hA o1 d hv1) (hA o2 s hv2) h
        refine ⟨u, w', S', β', .inl ?_, hE, hR', hv⟩
        rw [hrun, args2 ho]
        refine run_val ?_
        rw [← h1]
        have e : ∀ a : Array Value, Builtin.copy_ ts ty a = Builtin.copy_ #[t, 0] ty a := fun a => by
          unfold Builtin.copy_; simp [ht]
        rw [e]
        rfl
      · cases h
  · rename_i k a k' b' hx
    obtain ⟨o1, o2, ho, hv1, hv2⟩ := evs_two hx
    split at h
    · rename_i hk
      subst hk
      simp [ret] at h; subst h
      refine does_value hR (u := .int k (min a b')) ?_ (.t _ _ (.int _ _))
      rw [hrun, args2 ho]
      refine run_val ?_
      simp only [Builtin.min_, List.map_cons, List.map_nil, rv_int (hA o1 _ hv1), rv_int (hA o2 _ hv2), Builtin.min2, List.foldlM_cons, List.foldlM_nil, Sem.run_bind, Sem.run_pure, Result.andThen_ok]
      congr 2
      split <;> omega
    · cases h
  · rename_i k a k' b' hx
    obtain ⟨o1, o2, ho, hv1, hv2⟩ := evs_two hx
    split at h
    · rename_i hk
      subst hk
      simp [ret] at h; subst h
      refine does_value hR (u := .int k (max a b')) ?_ (.t _ _ (.int _ _))
      rw [hrun, args2 ho]
      refine run_val ?_
      simp only [Builtin.max_, List.map_cons, List.map_nil, rv_int (hA o1 _ hv1), rv_int (hA o2 _ hv2), Builtin.max2, List.foldlM_cons, List.foldlM_nil, Sem.run_bind, Sem.run_pure, Result.andThen_ok]
      congr 2
      split <;> omega
    · cases h
  · cases h

theorem d_makeSlice (hR : Rel w S H β) (hA : Agree w S H β e ρ) {t l c} (h : opRun P (.makeSlice t l c) e H = some r) : Does P w S H β ρ ⟨dst, .makeSlice t l c, ty, pos, af, g⟩ r := by
  simp only [opRun] at h
  split at h
  · rename_i k1 n1 k2 n2 hl hc
    unfold makeV at h
    split at h
    · rename_i el hk
      cases hi : infoOf P el with
      | none => simp [hi] at h
      | some p =>
        cases hz : zeroV P el with
        | none => simp [hi, hz] at h
        | some z =>
          simp only [hi, hz, Option.bind_some] at h
          split at h
          · rename_i hh
            obtain ⟨h0, h1, hroom, hzl, hzs, hp1, hp2⟩ := hh
            cases h
            obtain ⟨i, hi1, hi2, hi3⟩ := info_of hi
            obtain ⟨i', zv, hi', hzv, hrv⟩ := zeroV_rv hz
            rw [hi1] at hi'; cases hi'
            have hρl := rv_int (hA l _ hl)
            have hρc := rv_int (hA c _ hc)
            have hroom' : n2.toNat * i.bytes ≤ 2 ^ 46 := by rw [hi3]; simpa [roomOk] using hroom
            have hle : n2.toNat ≤ n2.toNat * i.bytes := Nat.le_mul_of_pos_right _ (by omega)
            have hw1 : IntKind.i64.wrap n1 = n1 := by unfold IntKind.wrap; simp [IntKind.bits, IntKind.signed]; omega
            have hw2 : IntKind.i64.wrap n2 = n2 := by unfold IntKind.wrap; simp [IntKind.bits, IntKind.signed]; omega
            obtain ⟨hzl', hzc⟩ := (hrv w S H β).cells
            have hzsz : zv.cells.size = i.size := by rw [← hzl', hzl, hi2]
            have hbi : ¬ (281474976710656 < (i.bytes : Int) * n2) := by
              have e1 : (i.bytes : Int) * n2 = ((n2.toNat * i.bytes : Nat) : Int) := by
                rw [Int.natCast_mul, Int.toNat_of_nonneg (by omega), Int.mul_comm]
              rw [e1]
              have : (2 : Nat) ^ 46 = 70368744177664 := by decide
              omega
            have hrun : (Instr.makeSlice t (.int k1 n1) (.int k2 n2)).run P w = .ok (.slice (some ⟨w.heap.size, 0, none⟩) n1.toNat n2.toNat) (w.alloc (.cells ((Array.range (n2.toNat * i.size)).map (zv.cells[· % zv.cells.size]!)) el)) := by
              have hn2 : ¬ n2 < 0 := by omega
              have hn1 : ¬ n1 < 0 := by omega
              have hn12 : ¬ n2 < n1 := by omega
              by_cases hn0 : n2.toNat = 0
              · simp [Instr.makeSlice, run_und (kd_sl hk), Go.asInt, asIntOf, run_info hi1, hw1, hw2, hbi, hn1, hn2, hn12, run_size hi1, run_row, hn0]
                congr 2
                apply Array.ext' ; simp
              · have : ¬ (n2.toNat * i.size = 0) := by rw [Nat.mul_eq_zero]; omega
                have : n2.toNat ≠ 0 ∧ i.size ≠ 0 := by omega
                simp [Instr.makeSlice, run_und (kd_sl hk), Go.asInt, asIntOf, run_info hi1, hw1, hw2, hbi, hn1, hn2, hn12, run_size hi1, run_row, run_zero hi1 hzv]
                intro h0; exact absurd h0 (by rw [Nat.mul_eq_zero]; omega)
            obtain ⟨hE, hR'⟩ := hR.push (cs := ((Array.range (n2.toNat * i.size)).map (zv.cells[· % zv.cells.size]!))) (T := el) (o := ⟨List.replicate n1.toNat z, p.1, false⟩) (cap := n2.toNat) rfl hp1 (by simp; omega) (by simp [hi2]) (by
              intro k hk'
              have hk2 : k < n1.toNat := by simpa using hk'
              simp only [List.getElem_replicate]
              refine ⟨hzl, fun j hj => ?_⟩
              have hj' : j < zv.cells.size := by omega
              refine ⟨zv.cells[j], ?_, hzc j hj hj'⟩
              have hjp : j < p.1 := by omega
              have hlt : k * p.1 + j < n2.toNat * i.size := by
                have h3 : (k + 1) * p.1 ≤ n2.toNat * p.1 := Nat.mul_le_mul_right _ (by omega)
                rw [Nat.succ_mul] at h3
                rw [hi2]; omega
              have hmod : (k * p.1 + j) % zv.cells.size = j := by
                rw [hzsz, hi2, Nat.mul_comm, Nat.mul_add_mod]; exact Nat.mod_eq_of_lt hjp
              simp [hlt, hmod, hj'])
            refine ⟨_, _, S, _, .inl ?_, hE, hR', .ref _ _ _ ⟨⟨_, _, rfl⟩, ⟨List.replicate n1.toNat z, p.1, false⟩, by simp, by simp, fun _ => ⟨w.heap.size, n2.toNat, ?_, rfl, by omega⟩⟩⟩
            · simp only [execOp, hρl, hρc]
              exact run_val hrun
            · rw [← hR.len]; simp
          · cases h
    · cases h
  · cases h
end
end Go.Sim
