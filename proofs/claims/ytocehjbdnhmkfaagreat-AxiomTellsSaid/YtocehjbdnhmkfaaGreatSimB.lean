/- A part of the proof of a law of module cupola: SimB. It has no conditions of its own. -/
import Derived.Test.YtocehjbdnhmkfaaGreatSimA
set_option linter.all false
/-! The builtins. -/
namespace Go.Sim
section
variable {P : Program} {w : World} {S : Cells} {H : Heap} {β : Bl} {e : Env} {ρ : Operand → Value} {r : Res} {dst : Option Tmp} {ty : TypeId} {pos : String} {af : Array Edge} {g : Option (Nat × Bool)}

theorem run_builtin {b : Builtin} {c : Call} (hc : c.callee = .builtin b) (w : World) : ∃ cs, (execOp ρ ⟨dst, .call c, ty, pos, af, g⟩).run P w = (builtin b c.argTypes ty cs (c.args.map ρ)).run P w := by
  exact ⟨_, by simp [execOp, resolve, hc, invoke]; rfl⟩

theorem args2 {a : Array Operand} {l : List Operand} (h : a.toList = l) : a.map ρ = (l.map ρ).toArray := by
  rw [← h, ← Array.toList_map]

theorem evs_one {l : List Operand} {v : V} (h : evs e l = some [v]) : ∃ x, l = [x] ∧ ev e x = some v := by
  cases l with
  | nil => simp [evs] at h
  | cons x l =>
    simp only [evs] at h
    cases hx : ev e x with
    | none => simp [hx] at h
    | some v' =>
      cases hl : evs e l with
      | none => simp [hx, hl] at h
      | some vs =>
        simp [hx, hl] at h
        obtain ⟨rfl, rfl⟩ := h
        cases l with
        | nil => exact ⟨x, rfl, hx⟩
        | cons y l => 
          simp only [evs] at hl
          cases hy : ev e y <;> cases hl' : evs e l <;> simp [hy, hl'] at hl

theorem evs_two {l : List Operand} {v u : V} (h : evs e l = some [v, u]) : ∃ x y, l = [x, y] ∧ ev e x = some v ∧ ev e y = some u := by
  cases l with
  | nil => simp [evs] at h
  | cons x l =>
    simp only [evs] at h
    cases hx : ev e x with
    | none => simp [hx] at h
    | some v' =>
      cases hl : evs e l with
      | none => simp [hx, hl] at h
      | some vs =>
        simp [hx, hl] at h
        obtain ⟨rfl, rfl⟩ := h
        obtain ⟨y, rfl, hy⟩ := evs_one hl
        exact ⟨x, y, rfl, hx, hy⟩

/-- The length. -/
theorem len_run {t : TypeId} {rt : Array TypeId} {v : V} {u : Value} (ht : rt[0]? = some t) (h : lenT H (kdOf P t) v = some r) (hR : Rel w S H β) (hv : RV w S H β v u) :
    ∃ x, (Builtin.len_ rt ty #[u]).run P w = .ok x w ∧ RV w S H β r.v x ∧ r.H = H := by
  unfold lenT at h
  generalize hk : kdOf P t = kd at h
  split at h
  · rename_i s
    simp [ret] at h; subst h
    have := rv_str hv; subst this
    exact ⟨_, by simp [Builtin.len_, ht, run_und (kd_str hk)]; rfl, .t _ _ (.int _ _), rfl⟩
  · cases h
  · rename_i el hns
    cases hn : lenOf H v with
    | none => simp [hn] at h
    | some n =>
      simp [hn] at h; subst h
      have hu : ∃ A c, u = .slice A n c := by
        cases v with
        | t x =>
          cases x with
          | str s => exact (hns _ rfl).elim
          | sl xs =>
            simp [lenOf] at hn; subst hn
            obtain ⟨base, cap, he, _, _⟩ := sl_row (rv_t hv)
            exact ⟨_, _, he⟩
          | _ => simp [lenOf] at hn
        | ex xs =>
          simp [lenOf] at hn; subst hn
          cases hv with
          | ex _ A m hrt =>
            obtain ⟨base, cap, he, _, _⟩ := sl_row hrt
            simp only [Value.slice.injEq] at he
            exact ⟨A, m, by rw [he.2.1]⟩
        | ref id m =>
          cases hc : cur H id m with
          | none => simp [lenOf, hc] at hn
          | some o =>
            simp [lenOf, hc] at hn; subst hn
            cases hv with | ref _ _ _ hok => exact hok.1
        | _ => simp [lenOf] at hn
      obtain ⟨A, c, rfl⟩ := hu
      exact ⟨_, by simp [Builtin.len_, ht, run_und (kd_sl hk)]; rfl, .t _ _ (.int _ _), rfl⟩
  · cases h

theorem run_val {s : Sem Value} {x : Value} {w w' : World} (h : s.run P w = .ok x w') : ((do pure (Next.value (← s))) : Sem Next).run P w = .ok (.value x) w' := by
  rw [Sem.run_bind, h]; rfl

theorem appended_run {t xt el : TypeId} {i : TypeInfo} (hk : P.underlying t = some (.slice el)) (hx : ∃ f, P.underlying xt = some (.slice f)) (hi : P.info? el = some i)
    {base xb : Option Addr} {n cap m mc : Nat} {news : List Value} (hf : ∀ w' : World, w'.heap = w.heap → (Builtin.firstCells i.size m (.slice xb m mc)).run P w' = .ok news.toArray w') (hroom : n + m ≤ cap) :
    (Builtin.append_ #[t, xt] ty #[.slice base n cap, .slice xb m mc]).run P w = match base with
      | some a => ((storeCells (a.add (n * i.size)) news).run P w).andThen fun _ w' => .ok (.slice base (n + m) cap) w'
      | none => .ok (.slice none (n + m) cap) w := by
  obtain ⟨f, hx⟩ := hx
  have h1 := hf w rfl
  cases base <;> simp [Builtin.append_, run_und hk, run_und hx, run_size hi, Builtin.lenOf, hroom, h1]

theorem regrown_run {t xt el : TypeId} {i : TypeInfo} {z : Value} (hk : P.underlying t = some (.slice el)) (hx : ∃ f, P.underlying xt = some (.slice f)) (hi : P.info? el = some i) (hz : i.zero = some z)
    {base xb : Option Addr} {n cap m mc : Nat} {olds news : List Value} (hfo : ∀ w' : World, w'.heap = w.heap → (Builtin.firstCells i.size n (.slice base n cap)).run P w' = .ok olds.toArray w')
    (hf : ∀ w' : World, w'.heap = w.heap → (Builtin.firstCells i.size m (.slice xb m mc)).run P w' = .ok news.toArray w') (hroom : cap < n + m)
    (hb : (n + m) * i.bytes ≤ 2 ^ 46) (hp : 0 < i.bytes) :
    (Builtin.append_ #[t, xt] ty #[.slice base n cap, .slice xb m mc]).run P w =
      .ok (.slice (some ⟨w.heap.size, 0, none⟩) (n + m) (grownCap w (n + m) cap el))
        (w.drew.alloc (.cells (olds.toArray ++ news.toArray ++ Builtin.zeroCells z.cells (grownCap w (n + m) cap el - (n + m))) el)) := by
  obtain ⟨f, hx⟩ := hx
  have h1 := hf w.drew rfl
  have h2 := hfo w.drew rfl
  have hnr : ¬ (n + m ≤ cap) := by omega
  have hle : n + m ≤ (n + m) * i.bytes := Nat.le_mul_of_pos_right _ hp
  have h63 : ¬ (9223372036854775807 < ((n : Int) + (m : Int))) := by omega
  have hfit := growslice_fits (bytes := i.bytes) hroom (by omega)
  have h48 : ¬ (281474976710656 < Builtin.nextslicecap (n + m) cap * i.bytes) := by omega
  simp [Builtin.append_, run_und hk, run_und hx, sizeOf, typeInfo, zeroValue, hi, hz, Builtin.lenOf, hnr, h63, h48, Question.forced, h1, h2, newRow, grownCap]
  congr 2
  apply Array.ext'
  simp [List.append_assoc]

theorem zeroCells_size {z : Array Value} {n : Nat} : (Builtin.zeroCells z n).size = n * z.size := by simp [Builtin.zeroCells]

theorem fits_len {sz : Nat} {ys : List V} (h : ys.all (fits sz) = true) : (∀ i (hi : i < ys.length), (ys[i]).cells.length = sz) ∧ ys.all (fun y => y.storable) = true := by
  rw [List.all_eq_true] at h
  refine ⟨fun i hi => ?_, List.all_eq_true.2 fun y hy => ?_⟩
  · have := h _ (List.getElem_mem hi)
    simp [fits] at this; exact this.2
  · have := h y hy
    simp [fits] at this; exact this.1

/-- Two rows, one behind the other. -/
theorem rows_two {w S H β} {xs ys : List V} {olds news rest : List Value} {sz : Nat} (hlo : olds.length = xs.length * sz) (hx : ∀ i (hi : i < xs.length), (xs[i]).cells.length = sz) (hy : ∀ i (hi : i < ys.length), (ys[i]).cells.length = sz)
    (hln : news.length = ys.length * sz)
    (ho : ∀ i (hi : i < xs.length) j (hj : j < (xs[i]).cells.length), ∃ x, olds[i * sz + j]? = some x ∧ RV w S H β (xs[i]).cells[j] x)
    (hn : ∀ i (hi : i < ys.length) j (hj : j < (ys[i]).cells.length), ∃ x, news[i * sz + j]? = some x ∧ RV w S H β (ys[i]).cells[j] x) :
    ∀ i (hi : i < (xs ++ ys).length), ((xs ++ ys)[i]).cells.length = sz ∧ ∀ j (hj : j < ((xs ++ ys)[i]).cells.length), ∃ u, (olds ++ news ++ rest)[i * sz + j]? = some u ∧ RV w S H β ((xs ++ ys)[i]).cells[j] u := by
  intro i hi
  by_cases h : i < xs.length
  · rw [List.getElem_append_left h]
    refine ⟨hx i h, fun j hj => ?_⟩
    obtain ⟨x, h1, h2⟩ := ho i h j hj
    refine ⟨x, ?_, h2⟩
    have h3 : i * sz + j < olds.length := by
      rcases Nat.lt_or_ge (i * sz + j) olds.length with h' | h'
      · exact h'
      · rw [List.getElem?_eq_none h'] at h1; cases h1
    rw [List.append_assoc, List.getElem?_append_left h3]; exact h1
  · have hi' : i - xs.length < ys.length := by simp at hi; omega
    rw [List.getElem_append_right (by omega)]
    refine ⟨hy _ hi', fun j hj => ?_⟩
    obtain ⟨x, h1, h2⟩ := hn _ hi' j hj
    refine ⟨x, ?_, h2⟩
    have h3 : (i - xs.length) * sz + j < news.length := by
      rcases Nat.lt_or_ge ((i - xs.length) * sz + j) news.length with h' | h'
      · exact h'
      · rw [List.getElem?_eq_none h'] at h1; cases h1
    have h4 : i * sz + j = olds.length + ((i - xs.length) * sz + j) := by
      have : i * sz = xs.length * sz + (i - xs.length) * sz := by rw [← Nat.add_mul]; congr 1; omega
      omega
    rw [h4, List.append_assoc, List.getElem?_append_right (by omega), Nat.add_sub_cancel_left, List.getElem?_append_left h3]; exact h1

theorem append_does {t xt el xel : TypeId} {s x : V} {us ux : Value} {ys : List V} (hk : kdOf P t = .sl el) (hkx : kdOf P xt = .sl xel) (hR : Rel w S H β) (hs : RV w S H β s us) (hx : RV w S H β x ux) (hys : slOf H x = some ys)
    (h : appendV (rowOf P el) H s ys = some r) : ∃ u w' S' β', (Builtin.append_ #[t, xt] ty #[us, ux]).run P w = .ok u w' ∧ Ext w S H β w' S' r.H β' ∧ Rel w' S' r.H β' ∧ RV w' S' r.H β' r.v u := by
  unfold appendV at h
  cases hrow : rowOf P el with
  | none => simp [hrow] at h
  | some p =>
    simp only [hrow, Option.bind_some] at h
    obtain ⟨i, zv, hi, hisz, hib, hiz, hzsz, hp1, hp2⟩ := row_of hrow
    obtain ⟨xb, xc, rfl, hxc, hxrow⟩ := slOf_rv hR hys hx
    split at h
    · rename_i hfit
      obtain ⟨hfl, hfs⟩ := fits_len hfit
      obtain ⟨news, hnl, hnf, hncell, hnone⟩ := first_row (P := P) (w := w) (S := S) (H := H) (β := β) (base := xb) (cap := xc) hxrow hfl hp1
      rw [← hisz] at hnf
      split at h
      · -- exact
        rename_i xs
        cases hs with
        | ex _ A n hrt =>
          obtain ⟨base, cap, he, _, hxs⟩ := sl_row hrt
          simp only [Value.slice.injEq] at he
          obtain ⟨rfl, rfl, rfl⟩ := he
          split at h
          · rename_i hemp
            have hy0 : ys = [] := by simpa using hemp
            subst hy0
            have hn0 : news = [] := List.length_eq_zero_iff.1 (by simpa using hnl)
            subst hn0
            simp [ret] at h; subst h
            have hrun := appended_run (ty := ty) (P := P) (w := w) (kd_sl hk) ⟨_, kd_sl hkx⟩ hi (base := A) (xb := xb) (n := xs.length) (cap := xs.length) (m := 0) (mc := xc) hnf (by omega)
            refine ⟨.slice A xs.length xs.length, w, S, β, ?_, Ext.refl _ _ _ _, hR, .ex _ _ _ hrt⟩
            simp only [List.length_nil]
            rw [hrun]
            cases A <;> simp [storeCells]
          · rename_i hemp
            have hyne : ys ≠ [] := by simpa using hemp
            have hypos : 0 < ys.length := List.length_pos_iff.2 hyne
            split at h
            · rename_i hh
              obtain ⟨hroom, hxfit⟩ := hh
              simp at h; subst h
              obtain ⟨hxl, hxs1⟩ := fits_len hxfit
              have hrow1 : (xs.map V.t) = [] ∨ ∃ b o esz, A = some ⟨b, o, none⟩ ∧ RowAt w S H β (xs.map V.t) b o esz := by
                rcases hxs with rfl | ⟨b, o, esz, rfl, ha⟩
                · exact .inl rfl
                · exact .inr ⟨b, o, esz, rfl, .of_arr ha⟩
              obtain ⟨olds, hol, hof, hocell, _⟩ := first_row (P := P) (w := w) (S := S) (H := H) (β := β) (base := A) (cap := xs.length) hrow1 hxl hp1
              simp only [List.length_map] at hol hof
              rw [← hisz] at hof
              have hbyt : (xs.length + ys.length) * i.bytes ≤ 2 ^ 46 := by rw [hib]; simpa [roomOk] using hroom
              have hrun := regrown_run (ty := ty) (P := P) (w := w) (kd_sl hk) ⟨_, kd_sl hkx⟩ hi hiz (base := A) (xb := xb) (n := xs.length) (cap := xs.length) (m := ys.length) (mc := xc) hof hnf (by omega) hbyt (by omega)
              have hge := grownCap_ge w (xs.length + ys.length) xs.length el
              have hpush := hR.push (w := w) (cs := (olds.toArray ++ news.toArray ++ Builtin.zeroCells zv.cells (grownCap w (xs.length + ys.length) xs.length el - (xs.length + ys.length)))) (T := el) (o := ⟨xs.map .t ++ ys, p.1, false⟩) (cap := grownCap w (xs.length + ys.length) xs.length el) rfl hp1
                (by simpa using hge) (by
                  simp only [Array.size_append, List.size_toArray, zeroCells_size, hol, hnl, hzsz]
                  rw [← Nat.add_mul, ← Nat.add_mul]; congr 1; omega) (by
                  have := rows_two (w := w) (S := S) (H := H) (β := β) (xs := xs.map V.t) (ys := ys) (olds := olds) (news := news) (rest := (Builtin.zeroCells zv.cells (grownCap w (xs.length + ys.length) xs.length el - (xs.length + ys.length))).toList) (by simpa using hol) hxl hfl hnl hocell hncell
                  intro k hk'
                  refine ⟨(this k hk').1, fun j hj => ?_⟩
                  obtain ⟨u, h1, h2⟩ := (this k hk').2 j hj
                  refine ⟨u, ?_, h2⟩
                  rw [← Array.getElem?_toList]
                  simpa [List.append_assoc] using h1)
              obtain ⟨hE, hR'⟩ := hpush
              refine ⟨_, _, S, _, hrun, ⟨hE.os, hE.tape, hE.output, hE.size, hE.keep, hE.stay, hE.new, hE.grow, hE.own⟩, ⟨hR'.len, hR'.inj, hR'.lt, fun id o b cap h1 h2 => ?_⟩, .ref _ _ _ ⟨⟨_, _, rfl⟩, ⟨xs.map .t ++ ys, p.1, false⟩, by simp, by simp, fun _ => ⟨w.heap.size, grownCap w (xs.length + ys.length) xs.length el, ?_, rfl, hge⟩⟩⟩
              · exact (hR'.obj id o b cap h1 h2).mono (fun _ _ h => ⟨h, rfl⟩) (Grow.refl _ _) rfl (fun _ => Iff.rfl)
              · rw [← hR.len]; simp
            · cases h
      · -- one's own
        rename_i id n
        cases hc : cur H id n with
        | none => simp [hc] at h
        | some o =>
          simp only [hc, Option.bind_some] at h
          obtain ⟨ho, rfl⟩ := cur_at hc
          have hs' := hs
          cases hs with
          | ref _ _ _ hok =>
            obtain ⟨_, o', ho', _, hb⟩ := hok
            rw [ho] at ho'; cases ho'
            obtain ⟨b, cap, hβ, rfl, hcap⟩ := hb rfl
            split at h
            · rename_i hemp
              have hy0 : ys = [] := by simpa using hemp
              subst hy0
              have hn0 : news = [] := List.length_eq_zero_iff.1 (by simpa using hnl)
              subst hn0
              simp [ret] at h; subst h
              have hrun := appended_run (ty := ty) (P := P) (w := w) (kd_sl hk) ⟨_, kd_sl hkx⟩ hi (base := some ⟨b, 0, none⟩) (xb := xb) (n := o.el.length) (cap := cap) (m := 0) (mc := xc) hnf (by omega)
              refine ⟨.slice (some ⟨b, 0, none⟩) o.el.length cap, w, S, β, ?_, Ext.refl _ _ _ _, hR, hs'⟩
              simp only [List.length_nil]
              rw [hrun]
              simp [storeCells]
            · rename_i hemp
              have hyne : ys ≠ [] := by simpa using hemp
              have hypos : 0 < ys.length := List.length_pos_iff.2 hyne
              split at h
              · rename_i hh
                obtain ⟨hroom, hoe⟩ := hh
                simp at h; subst h
                have hO := hR.obj id o b cap ho hβ
                obtain ⟨cs, Ty, hcs, hcsz, hcells⟩ := hO.row
                have hbyt : (o.el.length + ys.length) * i.bytes ≤ 2 ^ 46 := by rw [hib]; simpa [roomOk] using hroom
                have hol1 : ∀ k (hk : k < o.el.length), (o.el[k]).cells.length = p.1 := fun k hk => by rw [← hoe]; exact (hcells k hk).1
                rcases Nat.lt_or_ge cap (o.el.length + ys.length) with hlt | hge
                · -- moved
                  have hrow1 : o.el = [] ∨ ∃ b' o' esz, (some ⟨b, 0, none⟩ : Option Addr) = some ⟨b', o', none⟩ ∧ RowAt w S H β o.el b' o' esz := by
                    refine .inr ⟨b, 0, o.esz, rfl, fun k hk => (hcells k hk).1, fun k hk j hj => ?_⟩
                    obtain ⟨q, h2, h3⟩ := (hcells k hk).2 j hj
                    exact ⟨q, by rw [cell_of_heap hcs, Nat.zero_add]; exact h2, h3⟩
                  obtain ⟨olds, hol, hof, hocell, _⟩ := first_row (P := P) (w := w) (S := S) (H := H) (β := β) (base := some ⟨b, 0, none⟩) (cap := cap) hrow1 hol1 hp1
                  rw [← hisz] at hof
                  have hrun := regrown_run (ty := ty) (P := P) (w := w) (kd_sl hk) ⟨_, kd_sl hkx⟩ hi hiz (base := some ⟨b, 0, none⟩) (xb := xb) (n := o.el.length) (cap := cap) (m := ys.length) (mc := xc) hof hnf hlt hbyt (by omega)
                  have hge := grownCap_ge w (o.el.length + ys.length) cap el
                  obtain ⟨S', hE, hR'⟩ := hR.moved (w0 := w.drew) rfl ho hβ (ys := ys) (cap' := grownCap w (o.el.length + ys.length) cap el) hge (T := el)
                    (cs' := (olds.toArray ++ news.toArray ++ Builtin.zeroCells zv.cells (grownCap w (o.el.length + ys.length) cap el - (o.el.length + ys.length)))) (by
                      simp only [Array.size_append, List.size_toArray, zeroCells_size, hol, hnl, hzsz, hoe]
                      rw [← Nat.add_mul, ← Nat.add_mul]; congr 1; omega) (by
                      rw [hoe]
                      have := rows_two (w := w) (S := S) (H := H) (β := β) (xs := o.el) (ys := ys) (olds := olds) (news := news) (rest := (Builtin.zeroCells zv.cells (grownCap w (o.el.length + ys.length) cap el - (o.el.length + ys.length))).toList) hol hol1 hfl hnl hocell hncell
                      intro k hk'
                      refine ⟨(this k hk').1, fun j hj => ?_⟩
                      obtain ⟨u, h1, h2⟩ := (this k hk').2 j hj
                      refine ⟨u, ?_, h2⟩
                      rw [← Array.getElem?_toList]
                      simpa [List.append_assoc] using h1) hyne
                  have hidH : id < H.length := by
                    rcases Nat.lt_or_ge id H.length with h' | h'
                    · exact h'
                    · rw [List.getElem?_eq_none h'] at ho; cases ho
                  refine ⟨_, _, S', _, hrun, hE, hR', .ref _ _ _ ⟨⟨_, _, rfl⟩, { o with el := o.el ++ ys }, by simp [hidH], by simp, fun _ => ⟨w.heap.size, _, ?_, rfl, hge⟩⟩⟩
                  have : id < β.length := by rw [hR.len]; exact hidH
                  simp [this]
                · -- in place
                  have hrun := appended_run (ty := ty) (P := P) (w := w) (kd_sl hk) ⟨_, kd_sl hkx⟩ hi (base := some ⟨b, 0, none⟩) (xb := xb) (n := o.el.length) (cap := cap) (m := ys.length) (mc := xc) hnf hge
                  have hfit2 : o.el.length * p.1 + news.length ≤ cs.size := by
                    rw [hcsz, hnl, hoe, ← Nat.add_mul]; exact Nat.mul_le_mul_right _ hge
                  have hst := run_storeCells_at P b (o.el.length * p.1) Ty news 0 cs w hcs (by simpa using hfit2) (hnone hfs)
                  simp only [Nat.add_zero] at hst
                  have hget := splice_get cs.toList (o.el.length * p.1) news (by simpa using hfit2)
                  obtain ⟨S', hE, hR'⟩ := hR.more ho hβ (ys := ys) hge hcs (cs' := (cs.toList.take (o.el.length * p.1) ++ news ++ cs.toList.drop (o.el.length * p.1 + news.length)).toArray) (by
                      have := splice_len cs.toList (o.el.length * p.1) news (by simpa using hfit2)
                      simpa [splice] using this) (by
                      intro j hj
                      have := hget j
                      rw [← hoe, if_pos hj] at this
                      rw [List.getElem?_toArray, ← hoe]
                      rw [show (cs.toList.take (o.el.length * o.esz) ++ news ++ cs.toList.drop (o.el.length * o.esz + news.length)) = splice cs.toList (o.el.length * o.esz) news from rfl, this]
                      simp) (by
                      intro k hk'
                      refine ⟨by rw [hoe]; exact hfl k hk', fun j hj => ?_⟩
                      obtain ⟨u, h1, h2⟩ := hncell k hk' j hj
                      refine ⟨u, ?_, h2⟩
                      have h3 : k * p.1 + j < news.length := by
                        rcases Nat.lt_or_ge (k * p.1 + j) news.length with h' | h'
                        · exact h'
                        · rw [List.getElem?_eq_none h'] at h1; cases h1
                      have h4 := hget ((o.el.length + k) * o.esz + j)
                      have h5 : (o.el.length + k) * o.esz + j = o.el.length * p.1 + (k * p.1 + j) := by rw [hoe, Nat.add_mul]; omega
                      rw [h5, if_neg (by omega), if_pos (by omega), Nat.add_sub_cancel_left] at h4
                      rw [h5, List.getElem?_toArray]
                      exact h4.trans h1)
                  refine ⟨_, _, S', β, ?_, hE, hR', .ref _ _ _ ⟨⟨some ⟨b, 0, none⟩, cap, rfl⟩, { o with el := o.el ++ ys }, ?_, by simp, fun _ => ⟨b, cap, hβ, rfl, hge⟩⟩⟩
                  · rw [hrun]
                    simp only [add0, Nat.zero_add]
                    rw [hisz, hst]
                    rfl
                  · have hidH : id < H.length := by
                      rcases Nat.lt_or_ge id H.length with h' | h'
                      · exact h'
                      · rw [List.getElem?_eq_none h'] at ho; cases ho
                    simp [hidH]
              · cases h
      · cases h
    · cases h
end
end Go.Sim
