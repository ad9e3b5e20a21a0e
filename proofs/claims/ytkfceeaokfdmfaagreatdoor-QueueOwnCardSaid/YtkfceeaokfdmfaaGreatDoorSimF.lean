/- A part of the proof of a law of module cupola: SimF, SimG, SimI, SimMp2, SimJ, SimK, SimLate. It has no conditions of its own. -/
import Derived.Test.YtkfceeaokfdmfaaGreatDoorSimQ
import Derived.RangeFuncLeaves
import Derived.RangeFuncOwn
import Derived.RangeFuncRecord
import Derived.OrdersIn
set_option linter.all false
namespace Go.Sim
variable [Base]
section
variable {P : Program} {w : World} {S : Cells} {H : Heap} {β : Bl} {e : Env} {ρ : Operand → Value} {r : Res} {dst : Option Tmp} {ty : TypeId} {pos : String} {af : Array Edge} {g : Option (Nat × Bool)}

theorem bound_rv (hA : Agree w S H β e ρ) {lo : Option Operand} {v : Option V} {d n : Nat} (h : optEv e lo = some v) (hb : bound v d = some n) :
    (lo.map ρ = none ∧ v = none ∧ n = d) ∨ ∃ k m, lo.map ρ = some (.int k m) ∧ v.isSome = true ∧ 0 ≤ m ∧ n = m.toNat := by
  cases lo with
  | none => simp [optEv] at h; subst h; simp [bound] at hb; exact .inl ⟨rfl, rfl, hb.symm⟩
  | some x =>
    simp only [optEv] at h
    cases hx : ev e x with
    | none => simp [hx] at h
    | some q =>
      simp [hx] at h; subst h
      unfold bound at hb
      split at hb
      · contradiction
      · rename_i k m he
        split at hb
        · rename_i h0
          cases hb; cases he
          exact .inr ⟨k, m, by simp [rv_int (hA x _ hx)], rfl, h0, rfl⟩
        · cases hb
      · cases hb

theorem run_sliceBound {k : IntKind} {m : Int} {y : Nat} {c : BoundsCode} (h0 : 0 ≤ m) (h1 : m ≤ y) : (Instr.sliceBound (.int k m) y c).run P w = .ok m.toNat w := by
  simp [Instr.sliceBound, asIntOf, h0, h1]

theorem run_sliceBounds {b : Bool} {len cap l h m : Nat} {lo hi mx : Option Value} (hlo : (lo = none ∧ l = 0) ∨ ∃ k n, lo = some (.int k n) ∧ 0 ≤ n ∧ l = n.toNat)
    (hhi : (hi = none ∧ h = len) ∨ ∃ k n, hi = some (.int k n) ∧ 0 ≤ n ∧ h = n.toNat) (hmx : (mx = none ∧ m = cap) ∨ ∃ k n, mx = some (.int k n) ∧ 0 ≤ n ∧ m = n.toNat)
    (h1 : l ≤ h) (h2 : h ≤ m) (h3 : m ≤ cap) (h4 : mx = none ∨ hi ≠ none) : (Instr.sliceBounds b len cap lo hi mx).run P w = .ok (l, h, m) w := by
  rcases hlo with ⟨rfl, rfl⟩ | ⟨k1, n1, rfl, a1, rfl⟩ <;> rcases hhi with ⟨rfl, rfl⟩ | ⟨k2, n2, rfl, a2, rfl⟩ <;> rcases hmx with ⟨rfl, rfl⟩ | ⟨k3, n3, rfl, a3, rfl⟩ <;>
    first
    | (exfalso; simp at h4; done)
    | (simp only [Instr.sliceBounds, Sem.run_bind, Sem.run_pure, Result.andThen_ok]
       repeat (first | rw [run_sliceBound (by omega) (by omega)] | rw [Result.andThen_ok])
       done)
    | (simp only [Instr.sliceBounds, Sem.run_bind, Sem.run_pure, Result.andThen_ok]
       done)

theorem arr_part {w : World} {S : Cells} {xs : List T} {b o esz l h : Nat} (ha : Arr w S xs b o esz) (h2 : h ≤ xs.length) : Arr w S ((xs.take h).drop l) b (o + l * esz) esz := by
  refine ⟨fun i hi => ?_, fun i hi j hj => ?_⟩
  · simp only [List.getElem_drop, List.getElem_take]
    exact ha.1 _ (by simp at hi; omega)
  · have hlt : l + i < xs.length := by simp at hi; omega
    have e : ((xs.take h).drop l)[i] = xs[l + i] := by simp only [List.getElem_drop, List.getElem_take]
    simp only [e] at hj ⊢
    obtain ⟨h3, u, h4, h5⟩ := ha.2 (l + i) hlt j hj
    have e2 : o + l * esz + i * esz + j = o + (l + i) * esz + j := by rw [Nat.add_mul]; omega
    rw [e2]
    exact ⟨h3, u, h4, h5⟩

theorem Rel.cut {w : World} {S : Cells} {H : Heap} {β : Bl} (hR : Rel w S H β) {id n k b cap : Nat} {o : Obj} (ho : H[id]? = some o) (hn : o.el.length = n) (hk : k ≤ n) (hp : 0 < o.esz) (hst : o.st = false) (hβ : β[id]? = some (b, cap)) :
    Ext w S H β w S (H.set id ⟨.dead :: o.el, 0, true⟩ ++ [⟨o.el.take k, o.esz, false⟩]) (β ++ [(b, cap)]) ∧ Rel w S (H.set id ⟨.dead :: o.el, 0, true⟩ ++ [⟨o.el.take k, o.esz, false⟩]) (β ++ [(b, cap)]) := by
  have hid : id < H.length := by
    rcases Nat.lt_or_ge id H.length with h' | h'
    · exact h'
    · rw [List.getElem?_eq_none h'] at ho; cases ho
  have hlen := hR.len
  have hg : Grow H β (H.set id ⟨.dead :: o.el, 0, true⟩ ++ [⟨o.el.take k, o.esz, false⟩]) (β ++ [(b, cap)]) := by
    intro id' o' ho'
    have hid' : id' < H.length := by
      rcases Nat.lt_or_ge id' H.length with h' | h'
      · exact h'
      · rw [List.getElem?_eq_none h'] at ho'; cases ho'
    by_cases e : id = id'
    · subst e
      rw [ho] at ho'; cases ho'
      refine ⟨⟨.dead :: o.el, 0, true⟩, by rw [List.getElem?_append_left (by simpa using hid)]; simp [hid], by simp, fun h => by simp at h, fun h1 => by omega⟩
    · refine ⟨o', by rw [List.getElem?_append_left (by simpa using hid'), List.getElem?_set_ne e]; exact ho', Nat.le_refl _, fun _ => ⟨rfl, by rw [List.getElem?_append_left (by omega)]⟩, fun h1 h2 => ⟨h1, h2, by rw [List.getElem?_append_left (by omega)]⟩⟩
  have hsp : ∀ (i : Nat) (oi : Obj), (H.set id ⟨.dead :: o.el, 0, true⟩ ++ [⟨o.el.take k, o.esz, false⟩])[i]? = some oi → (i = H.length ∧ oi = ⟨o.el.take k, o.esz, false⟩) ∨ (i = id ∧ oi = ⟨.dead :: o.el, 0, true⟩) ∨ (i < H.length ∧ i ≠ id ∧ H[i]? = some oi) := by
    intro i oi h
    rcases Nat.lt_trichotomy i H.length with hlt | heq | hgt
    · rw [List.getElem?_append_left (by simpa using hlt)] at h
      by_cases e : id = i
      · subst e; simp [hid] at h; exact .inr (.inl ⟨rfl, h.symm⟩)
      · rw [List.getElem?_set_ne e] at h; exact .inr (.inr ⟨hlt, fun e' => e e'.symm, h⟩)
    · subst heq; rw [List.getElem?_append_right (by simp)] at h; simp at h; exact .inl ⟨rfl, h.symm⟩
    · rw [List.getElem?_eq_none (by simp; omega)] at h; cases h
  have hbl : ∀ i, i < H.length → (β ++ [(b, cap)])[i]? = β[i]? := fun i hi => List.getElem?_append_left (by omega)
  have hbn : (β ++ [(b, cap)])[H.length]? = some (b, cap) := by rw [← hlen]; simp
  have hdead : ¬ (⟨.dead :: o.el, 0, true⟩ : Obj).alive := by
    unfold Obj.alive Obj.gone; simp
  have hoa : o.alive := .inl hp
  have hL := (hR.obj id o b cap ho hβ).live hp
  refine ⟨⟨rfl, rfl, Nat.le_refl _, fun _ _ _ => rfl, Stay.refl _ _, fun _ _ h => .inl h, hg, ?_⟩, ⟨by simp [hlen], ?_, hR.lt, ?_, hR.base⟩⟩
  · intro i b' c e
    rcases Nat.lt_or_ge i β.length with h' | h'
    · rw [List.getElem?_append_left h'] at e; exact .inl ⟨i, c, e⟩
    · have : i = β.length := by
        rcases Nat.lt_or_ge i (β ++ [(b, cap)]).length with h'' | h''
        · simp at h''; omega
        · rw [List.getElem?_eq_none h''] at e; cases e
      subst this; simp at e; exact .inl ⟨id, cap, by rw [hβ, e.1]⟩
  · intro i j b1 c c' oi oj h1 h2 a1 a2 e1 e2
    rcases hsp i oi h1 with ⟨rfl, rfl⟩ | ⟨rfl, rfl⟩ | ⟨l1, n1, h1⟩
    · rcases hsp j oj h2 with ⟨rfl, rfl⟩ | ⟨rfl, rfl⟩ | ⟨l2, n2, h2⟩
      · rfl
      · exact absurd a2 hdead
      · rw [hbn] at e1; cases e1
        rw [hbl j l2] at e2
        exact absurd (hR.inj j id b c' cap oj o h2 ho a2 hoa e2 hβ) n2
    · exact absurd a1 hdead
    · rcases hsp j oj h2 with ⟨rfl, rfl⟩ | ⟨rfl, rfl⟩ | ⟨l2, n2, h2⟩
      · rw [hbn] at e2; cases e2
        rw [hbl i l1] at e1
        exact absurd (hR.inj i id b c cap oi o h1 ho a1 hoa e1 hβ) n1
      · exact absurd a2 hdead
      · rw [hbl i l1] at e1; rw [hbl j l2] at e2
        exact hR.inj i j b1 c c' oi oj h1 h2 a1 a2 e1 e2
  · intro i oi b' c' h1 e1
    rcases hsp i oi h1 with ⟨rfl, rfl⟩ | ⟨rfl, rfl⟩ | ⟨l1, n1, h1⟩
    · rw [hbn] at e1; cases e1
      refine ⟨(hR.obj id o b cap ho hβ).blk, fun _ => ⟨hp, by simp only [List.length_take]; have := hL.room; omega, fun j => ⟨fun hS => ?_, fun hh => by simp at hh⟩, ?_⟩, fun h0 => by simp only at h0; omega⟩
      · have := (hL.st j).1 hS; rw [hst] at this; simp at this
      · obtain ⟨cs, T, q1, q2, q3⟩ := hL.row
        refine ⟨cs, T, q1, q2, fun i hi => ?_⟩
        have hi' : i < o.el.length := by simp only [List.length_take] at hi; omega
        have he : (o.el.take k)[i]'hi = o.el[i] := by simp
        obtain ⟨q4, q5⟩ := q3 i hi'
        refine ⟨by simp only [he]; exact q4, fun j hj => ?_⟩
        simp only [he] at hj ⊢
        obtain ⟨u, q6, q7⟩ := q5 j hj
        exact ⟨u, q6, q7.mono (Stay.refl _ _) hg⟩
    · rw [hbl _ hid, hβ] at e1; cases e1
      exact ⟨(hR.obj _ o b cap ho hβ).blk, fun h0 => by simp at h0, fun _ h0 => by simp [Obj.gone] at h0⟩
    · rw [hbl i l1] at e1
      exact (hR.obj i oi b' c' h1 e1).mono (Stay.refl _ _) hg rfl (fun _ => Iff.rfl)
theorem d_cut (hR : Rel w S H β) (hA : Agree w S H β e ρ) {t x lo hi mx} (hct : cutTy P t = true) (h : ((ev e x).bind fun v => (optEv e lo).bind fun l => (optEv e hi).bind fun h => (optEv e mx).bind fun m => cutR H v l h m) = some r) : Does P w S H β ρ ⟨dst, .slice t x lo hi mx, ty, pos, af, g⟩ r := by
  have hk : ∃ el, kdOf P t = .sl el ∧ 0 < elemSz P (.sl el) := by
    unfold cutTy at hct
    split at hct
    · simp only [Bool.and_eq_true] at hct
      obtain ⟨_, h2⟩ := hct
      split at h2
      · rename_i el hk; exact ⟨el, hk, by simpa using h2⟩
      · cases h2
    · cases hct
  obtain ⟨el, hk, hsz⟩ := hk
  obtain ⟨i, hi1, hi2⟩ := elemSz_sl rfl hsz
  simp only [Option.bind_eq_some_iff] at h
  obtain ⟨v, hx, l, hl, hh', hh, m, hm, h⟩ := h
  have hv := hA x v hx
  unfold cutR at h
  split at h
  · rename_i id n kk k
    have none_of : ∀ {o : Option Operand}, optEv e o = some none → o = none := by
      intro o ho
      cases o with
      | none => rfl
      | some q => simp only [optEv] at ho; cases hq : ev e q <;> simp [hq] at ho
    obtain rfl := none_of hl
    obtain rfl := none_of hm
    cases hi with
    | none => simp [optEv] at hh
    | some y =>
      simp only [optEv] at hh
      cases hy : ev e y with
      | none => simp [hy] at hh
      | some q =>
        simp [hy] at hh; subst hh
        have hky := rv_int (hA y _ hy)
        unfold cutV at h
        simp only [Option.bind_eq_some_iff] at h
        obtain ⟨o, hc, h⟩ := h
        split at h
        · rename_i hcond
          obtain ⟨c1, c2, c3, c4⟩ := hcond
          cases h
          obtain ⟨hH, hol⟩ := cur_at hc
          generalize hρ : ρ x = u at hv
          cases hv with
          | ref _ _ _ hok =>
            obtain ⟨_, o', ho', _, hb⟩ := hok
            rw [hH] at ho'; cases ho'
            obtain ⟨hpo, b, cap, hβ, rfl, hcap⟩ := hb hol
            obtain ⟨hE, hR'⟩ := hR.cut (k := k.toNat) hH hol (by omega) c3 c4 hβ
            have hrun := run_sliceBounds (P := P) (w := w) (b := true) (len := n) (cap := cap) (lo := none) (hi := some (.int kk k)) (mx := none) (l := 0) (h := k.toNat) (m := cap) (.inl ⟨rfl, rfl⟩) (.inr ⟨kk, k, rfl, c1, rfl⟩) (.inl ⟨rfl, rfl⟩) (Nat.zero_le _) (by omega) (Nat.le_refl _) (.inl rfl)
            refine ⟨.slice (some ⟨b, 0, none⟩) k.toNat cap, w, S, _, .inl ?_, hE, hR', ?_⟩
            · simp only [execOp, hρ, hky, Option.map_none, Option.map_some]
              refine run_val ?_
              simp [Instr.sliceAt, Instr.slice, run_und (kd_sl hk), hrun, run_size hi1, add0]
            · have hl0 : (H.set id ⟨.dead :: o.el, 0, true⟩ ++ [⟨o.el.take k.toNat, o.esz, false⟩])[H.length]? = some ⟨o.el.take k.toNat, o.esz, false⟩ := by
                rw [List.getElem?_append_right (by simp)]; simp
              have hlt : (o.el.take k.toNat).length = k.toNat := by simp only [List.length_take]; omega
              refine .ref _ _ _ ⟨⟨_, _, rfl⟩, _, hl0, by simp only; omega, fun _ => ⟨c3, b, cap, by rw [← hR.len]; simp, rfl, by omega⟩⟩
        · cases h
  · cases h
theorem d_slice (hR : Rel w S H β) (hA : Agree w S H β e ρ) {t x lo hi mx} (h : opRun P (.slice t x lo hi mx) e H = some r) : Does P w S H β ρ ⟨dst, .slice t x lo hi mx, ty, pos, af, g⟩ r := by
  simp only [opRun] at h
  by_cases hct : cutTy P t = true
  · rw [if_pos hct] at h
    exact d_cut hR hA hct h
  rw [if_neg hct] at h
  split at h
  · -- a string
    rename_i s vl vh vm hk hx hl hh hm
    simp only [partS] at h
    split at h
    · rename_i l hn hbl hbh
      split at h
      · rename_i hc
        simp [ret] at h; subst h
        have hmn : mx = none := by
          cases mx with
          | none => rfl
          | some q =>
            simp only [optEv] at hm
            cases hq : ev e q <;> simp [hq] at hm
        subst hmn
        have b1 : (lo.map ρ = none ∧ l = 0) ∨ ∃ k n, lo.map ρ = some (.int k n) ∧ 0 ≤ n ∧ l = n.toNat := by
          rcases bound_rv hA hl hbl with ⟨a, _, b⟩ | ⟨k, n, a, _, b, c⟩
          · exact .inl ⟨a, b⟩
          · exact .inr ⟨k, n, a, b, c⟩
        have b2 : (hi.map ρ = none ∧ hn = s.size) ∨ ∃ k n, hi.map ρ = some (.int k n) ∧ 0 ≤ n ∧ hn = n.toNat := by
          rcases bound_rv hA hh hbh with ⟨a, _, b⟩ | ⟨k, n, a, _, b, c⟩
          · exact .inl ⟨a, b⟩
          · exact .inr ⟨k, n, a, b, c⟩
        have hrun := run_sliceBounds (P := P) (w := w) (b := false) (len := s.size) (cap := s.size) b1 b2 (.inl ⟨rfl, rfl⟩) hc.1 hc.2 (Nat.le_refl _) (.inl rfl)
        refine does_value hR (u := .string (s.extract l hn)) ?_ (.t _ _ (.str _))
        simp only [execOp, rv_str (hA x _ hx), Option.map_none]
        refine run_val ?_
        simp [Instr.sliceAt, Instr.slice, run_und (kd_str hk), hrun]
      · cases h
    · cases h
  · rename_i el v vl vh vm hk hx hl hh hm
    have hv := hA x v hx
    unfold partV at h
    split at h
    · rename_i xel xs hel hto
      split at h
      · rename_i l hn m hbl hbh hbm
        split at h
        · rename_i hc
          obtain ⟨h1, h2, h3, hxl, hsz, hmh, hcell⟩ := hc
          cases h
          obtain ⟨base, cap, hρ, hcap, _⟩ := slOf_rv hR hel hv
          obtain ⟨i, hi1, hi2⟩ := elemSz_sl rfl hsz
          obtain ⟨S', hE, hR', hT⟩ := hR.hold v _ hv
          have hrt := hT _ hto
          rw [hρ] at hrt
          obtain ⟨base', cap', he, hcap', hxs⟩ := sl_row hrt
          simp only [Value.slice.injEq] at he
          obtain ⟨rfl, hlen, rfl⟩ := he
          have b1 : (lo.map ρ = none ∧ l = 0) ∨ ∃ k n, lo.map ρ = some (.int k n) ∧ 0 ≤ n ∧ l = n.toNat := by
            rcases bound_rv hA hl hbl with ⟨a, _, b⟩ | ⟨k, n, a, _, b, c⟩
            · exact .inl ⟨a, b⟩
            · exact .inr ⟨k, n, a, b, c⟩
          have b2 : (hi.map ρ = none ∧ hn = xel.length) ∨ ∃ k n, hi.map ρ = some (.int k n) ∧ 0 ≤ n ∧ hn = n.toNat := by
            rcases bound_rv hA hh hbh with ⟨a, _, b⟩ | ⟨k, n, a, _, b, c⟩
            · exact .inl ⟨a, b⟩
            · exact .inr ⟨k, n, a, b, c⟩
          have hmx : ∃ m', ((mx.map ρ = none ∧ m' = cap) ∨ ∃ k n, mx.map ρ = some (.int k n) ∧ 0 ≤ n ∧ m' = n.toNat) ∧ hn ≤ m' ∧ m' ≤ cap ∧ (vm.isSome = true → m' = m) := by
            rcases bound_rv hA hm hbm with ⟨a, b, _⟩ | ⟨k, n, a, b, c, d⟩
            · exact ⟨cap, .inl ⟨a, rfl⟩, by omega, Nat.le_refl _, fun hh => by simp [b] at hh⟩
            · exact ⟨m, .inr ⟨k, n, a, c, d⟩, h2, by omega, fun _ => rfl⟩
          obtain ⟨m', b3, hm1, hm2, hmm⟩ := hmx
          have b4 : mx.map ρ = none ∨ hi.map ρ ≠ none := by
            rcases bound_rv hA hm hbm with ⟨a, b, _⟩ | ⟨k, n, a, b, c, d⟩
            · exact .inl a
            · right
              simp only [Bool.or_eq_true, Option.isNone_iff_eq_none] at hmh
              rcases hmh with hmh | hmh
              · simp [hmh] at b
              · rcases bound_rv hA hh hbh with ⟨_, b', _⟩ | ⟨k', n', a', _⟩
                · simp [b'] at hmh
                · simp [a']
          have hrun := run_sliceBounds (P := P) (w := w) (b := true) (len := xel.length) (cap := cap) b1 b2 b3 h1 hm1 hm2 b4
          have hrun2 : (execOp ρ ⟨dst, .slice t x lo hi mx, ty, pos, af, g⟩).run P w = .ok (.value (.slice (if m' = l then base else base.map (·.add (l * i.size))) (hn - l) (m' - l))) w := by
            simp only [execOp, hρ]
            refine run_val ?_
            simp [Instr.sliceAt, Instr.slice, run_und (kd_sl hk), hrun, run_size hi1]
          have hlen2 : ((xs.take hn).drop l).length = hn - l := by simp; omega
          have hval : ∀ c, hn - l ≤ c → RT w S' (.sl ((xs.take hn).drop l)) (.slice (if m' = l then base else base.map (·.add (l * i.size))) (hn - l) c) := by
            intro c hc
            by_cases he : hn = l
            · have e1 : (xs.take hn).drop l = [] := List.length_eq_zero_iff.1 (by rw [hlen2]; omega)
              rw [e1, show hn - l = 0 by omega]
              exact .sl0 _ _
            · rw [if_neg (by omega)]
              rcases hxs with rfl | ⟨b, o, esz, rfl, ha⟩
              · simp at hxl; omega
              · have hes : l * esz = l * i.size := by
                  rcases hcell with rfl | hcell
                  · simp
                  · have hlt : l < xs.length := by omega
                    rw [List.getElem?_eq_getElem hlt] at hcell
                    simp at hcell
                    rw [← ha.1 l hlt, hcell, hi2]
                have := RT.of_arr (arr_part (l := l) (h := hn) ha (by omega)) (cap := c) (by rw [hlen2]; exact hc)
                rw [hlen2, hes] at this
                simpa [add0] using this
          refine ⟨_, w, S', β, .inl hrun2, hE, hR', ?_⟩
          show RV w S' _ β (if vm.isSome = true ∧ m = hn then _ else _) _
          split
          · rename_i hcc
            have e := hmm hcc.1
            rw [e, hcc.2]
            have := hval (hn - l) (Nat.le_refl _)
            rw [e, hcc.2] at this
            exact .ex _ _ _ this
          · exact .t _ _ (hval (m' - l) (by omega))
        · cases h
      · cases h
    · cases h
  · -- an array of one's own
    rename_i _ _ _ n el id k i off hk hx hl hh hm
    have hv := hA x _ hx
    have none_of : ∀ {o : Option Operand}, optEv e o = some none → o = none := by
      intro o ho
      cases o with
      | none => rfl
      | some q => simp only [optEv] at ho; cases hq : ev e q <;> simp [hq] at ho
    obtain rfl := none_of hl
    obtain rfl := none_of hh
    obtain rfl := none_of hm
    unfold arrSl at h
    simp only [Option.bind_eq_some_iff] at h
    obtain ⟨o, hc, v, hi, xs, hxs, h⟩ := h
    split at h
    · rename_i hcond
      obtain ⟨hsz, hn, hlen, hcell⟩ := hcond
      cases h
      obtain ⟨hH, hol⟩ := cur_at hc
      obtain ⟨S', hE, hR'⟩ := hR.raise (Raise.set hH)
      have hv2 := hv
      generalize hρ : ρ x = q at hv
      cases hv with
      | ptr _ _ _ _ _ hok =>
        obtain ⟨_, o', ho', _, hb⟩ := hok
        rw [hH] at ho'; cases ho'
        obtain ⟨hpo, b, cap, hβ, rfl⟩ := hb hol
        have hil : i < o.el.length := by
          rcases Nat.lt_or_ge i o.el.length with h' | h'
          · exact h'
          · rw [List.getElem?_eq_none h'] at hi; cases hi
        rw [List.getElem?_eq_getElem hil] at hi; cases hi
        have hlt : id < H.length := by
          rcases Nat.lt_or_ge id H.length with h' | h'
          · exact h'
          · rw [List.getElem?_eq_none h'] at hH; cases hH
        have hset : (H.set id { o with st := true })[id]? = some { o with st := true } := by simp [hlt]
        have hO := (hR'.obj id { o with st := true } b cap hset hβ).live hpo
        obtain ⟨cs, Ty, hh, hcs, hcells⟩ := hO.row
        obtain ⟨hl1, hcs2⟩ := hcells i hil
        simp only at hl1 hcs2
        have hsub := allT_some hxs
        have hcl : off + n ≤ (o.el[i]).cells.length := by
          have := congrArg List.length hsub
          simp at this; omega
        have hat : ∀ j (hj : j < n), (o.el[i]).cells[off + j]'(by omega) = .t (xs[j]'(by omega)) := by
          intro j hj
          have h1 : (((o.el[i]).cells.drop off).take n)[j]? = (xs.map V.t)[j]? := by rw [hsub]
          rw [List.getElem?_take_of_lt hj, List.getElem?_drop, List.getElem?_eq_getElem (by omega), List.getElem?_map, List.getElem?_eq_getElem (by omega : j < xs.length)] at h1
          simpa using h1
        have hone : ∀ j (hj : j < xs.length), (xs[j]).cells = [xs[j]] := by
          intro j hj
          have := List.all_eq_true.1 hcell _ (List.getElem_mem hj)
          generalize xs[j] = y at this ⊢
          cases y <;> first | rfl | simp [V.cell1] at this
        have harr : Arr w S' xs b (i * o.esz + off) 1 := by
          refine ⟨fun j hj => by rw [hone j hj]; rfl, fun j hj m hm => ?_⟩
          have h1 := hone j hj
          have hm0 : m = 0 := by rw [h1] at hm; simp at hm; exact hm
          subst hm0
          have hjn : j < n := by omega
          have e1 : i * o.esz + off + j * 1 + 0 = i * o.esz + (off + j) := by omega
          rw [e1]
          refine ⟨(hO.st _).2 ⟨rfl, ?_⟩, ?_⟩
          · show i * o.esz + (off + j) < o.el.length * o.esz
            have : (i + 1) * o.esz ≤ o.el.length * o.esz := Nat.mul_le_mul_right _ hil
            rw [Nat.add_mul] at this; omega
          · obtain ⟨u, h2, h3⟩ := hcs2 (off + j) (by omega)
            refine ⟨u, by rw [cell_of_heap hh]; exact h2, ?_⟩
            rw [hat j hjn] at h3
            have h4 := rv_t h3
            simp only [h1, List.getElem_cons_zero]
            exact h4
        have hrt := RT.of_arr (cap := n) harr (by omega)
        obtain ⟨ii, hi1, hi2⟩ := elemSz_arr rfl (by omega : 0 < elemSz P (.arr n el))
        refine ⟨_, w, S', β, .inl ?_, hE, hR', .t _ _ hrt⟩
        simp only [execOp, hρ, Option.map_none]
        refine run_val ?_
        have hne : ¬ n = 0 := by omega
        simp [Instr.sliceAt, Instr.sliceBounds, run_und (kd_arr hk), run_size hi1, Instr.sureAddr, add0, hne, hlen]
    · cases h
  · cases h
end
end Go.Sim

namespace Go.Sim
variable [Base]

theorem setFold (off : Nat) : ∀ (l : List Value) (k : Nat) (cs : Array Value), off + k + l.length ≤ cs.size →
    (((l.zipIdx k).foldl (fun (cs : Array Value) (p : Value × Nat) => cs.setIfInBounds (off + p.2) p.1) cs).toList = splice cs.toList (off + k) l) := by
  intro l
  induction l with
  | nil => intro k cs h; simp [splice]
  | cons v l ih =>
    intro k cs h
    simp only [List.length_cons] at h
    simp only [List.zipIdx_cons, List.foldl_cons]
    rw [ih (k + 1) _ (by simp; omega)]
    apply List.ext_getElem?
    intro q
    rw [splice_get _ _ _ (by simp; omega), splice_get _ _ _ (by simp; omega)]
    simp only [Array.toList_setIfInBounds, List.getElem?_set, List.length_cons]
    by_cases h1 : q < off + k
    · rw [if_pos (by omega), if_neg (by omega), if_pos h1]
    · rw [if_neg h1]
      by_cases h2 : q = off + k
      · subst h2
        have : off + k < cs.toList.length := by simp; omega
        rw [if_pos (by omega), if_pos rfl, if_pos this, if_pos (by omega)]
        simp
      · rw [if_neg (by omega)]
        by_cases h3 : q < off + (k + 1) + l.length
        · rw [if_pos h3, if_pos (by omega)]
          rw [show q - (off + k) = (q - (off + (k + 1))) + 1 by omega, List.getElem?_cons_succ]
        · rw [if_neg h3, if_neg (by omega), if_neg (by omega)]

theorem arrFold (off : Nat) (u : Array Value) (cs : Array Value) (h : off + u.size ≤ cs.size) :
    (u.zipIdx.foldl (fun (cs : Array Value) (p : Value × Nat) => cs.setIfInBounds (off + p.2) p.1) cs).toList = splice cs.toList off u.toList := by
  have := setFold off u.toList 0 cs (by simpa using h)
  rw [← Array.foldl_toList]
  simpa using this

def CellsRv (w : World) (S : Cells) (H : Heap) (β : Bl) (vs : List V) (us : List Value) : Prop :=
  vs.length = us.length ∧ ∀ i (hi : i < vs.length) (hu : i < us.length), RV w S H β vs[i] us[i]

theorem CellsRv.splice {w S H β} {vs ys : List V} {us xs : List Value} {off : Nat} (h : CellsRv w S H β vs us) (k : CellsRv w S H β ys xs) (hl : off + ys.length ≤ vs.length) : CellsRv w S H β (Go.Sim.splice vs off ys) (Go.Sim.splice us off xs) := by
  have hl' : off + xs.length ≤ us.length := by rw [← k.1, ← h.1]; exact hl
  refine ⟨by rw [splice_len _ _ _ hl, splice_len _ _ _ hl']; exact h.1, fun i hi hu => ?_⟩
  have h1 := splice_get vs off ys hl i
  have h2 := splice_get us off xs hl' i
  rw [List.getElem?_eq_getElem hi] at h1
  rw [List.getElem?_eq_getElem hu] at h2
  rw [splice_len _ _ _ hl] at hi
  rw [splice_len _ _ _ hl'] at hu
  by_cases c1 : i < off
  · rw [if_pos c1, List.getElem?_eq_getElem hi] at h1
    rw [if_pos c1, List.getElem?_eq_getElem hu] at h2
    simp only [Option.some.injEq] at h1 h2
    rw [h1, h2]; exact h.2 i hi hu
  · rw [if_neg c1] at h1 h2
    by_cases c2 : i < off + ys.length
    · rw [if_pos c2, List.getElem?_eq_getElem (by omega)] at h1
      rw [if_pos (by rw [← k.1]; exact c2), List.getElem?_eq_getElem (by rw [← k.1]; omega)] at h2
      simp only [Option.some.injEq] at h1 h2
      rw [h1, h2]; exact k.2 _ _ _
    · rw [if_neg c2, List.getElem?_eq_getElem hi] at h1
      rw [if_neg (by rw [← k.1]; exact c2), List.getElem?_eq_getElem hu] at h2
      simp only [Option.some.injEq] at h1 h2
      rw [h1, h2]; exact h.2 i hi hu

theorem RV.cellsRv {w S H β} {v : V} {u : Value} (h : RV w S H β v u) : CellsRv w S H β v.cells u.cells.toList := by
  obtain ⟨h1, h2⟩ := h.cells
  refine ⟨by simpa using h1, fun i hi hu => ?_⟩
  have := h2 i hi (by simpa using hu)
  simpa using this

section
variable {P : Program} {w : World} {S : Cells} {H : Heap} {β : Bl} {e : Env} {ρ : Operand → Value} {r : Res} {dst : Option Tmp} {ty : TypeId} {pos : String} {af : Array Edge} {g : Option (Nat × Bool)}

theorem fill_rv (hA : Agree w S H β e ρ) (pl : Nat → Option (Nat × Nat)) : ∀ (parts : List (Nat × Operand)) (l : List (Nat × V)) (m : List (Nat × Nat × V)) (vs vs' : List V) (us : Array Value),
    evParts e parts = some l → placesV pl l = some m → fillV vs m = some vs' → CellsRv w S H β vs us.toList →
    ∃ us', Instr.fill pl us (parts.map fun (i, x) => (i, ρ x)) = some us' ∧ CellsRv w S H β vs' us'.toList := by
  intro parts
  induction parts with
  | nil =>
    intro l m vs vs' us h1 h2 h3 h4
    simp [evParts] at h1; subst h1
    simp [placesV] at h2; subst h2
    simp [fillV] at h3; subst h3
    exact ⟨us, rfl, h4⟩
  | cons p parts ih =>
    intro l m vs vs' us h1 h2 h3 h4
    obtain ⟨i, x⟩ := p
    simp only [evParts] at h1
    cases hx : ev e x with
    | none => simp [hx] at h1
    | some v =>
      cases hr : evParts e parts with
      | none => simp [hx, hr] at h1
      | some l' =>
        simp [hx, hr] at h1; subst h1
        simp only [placesV] at h2
        cases hp : pl i with
        | none => simp [hp] at h2
        | some q =>
          cases hm : placesV pl l' with
          | none => simp [hp, hm] at h2
          | some m' =>
            simp [hp, hm] at h2; subst h2
            simp only [fillV] at h3
            split at h3
            · rename_i hh
              obtain ⟨hl, hb⟩ := hh
              have hv := (hA x v hx).cellsRv
              have hvl : v.cells.length = (ρ x).cells.size := by simpa using hv.1
              have hul : vs.length = us.size := by simpa using h4.1
              have hnew := h4.splice hv (off := q.1) (by omega)
              have e1 : vs.take q.1 ++ v.cells ++ vs.drop (q.1 + q.2) = splice vs q.1 v.cells := by rw [splice, hl]
              rw [e1] at h3
              rw [← arrFold q.1 (ρ x).cells us (by omega)] at hnew
              obtain ⟨us', h5, h6⟩ := ih l' m' _ vs' _ hr hm h3 hnew
              refine ⟨us', ?_, h6⟩
              simp only [List.map_cons, Instr.fill, hp]
              rw [if_neg (by simp; omega)]
              exact h5
            · cases h3

theorem run_places {P : Program} {w : World} : ∀ (fs : List Field) (l : List (Nat × Nat)), fs.mapM (fun fd => (P.info? fd.type).map fun i => (fd.offset, i.size)) = some l →
    (fs.mapM (fun f => (do pure (f.offset, ← sizeOf f.type) : Sem (Nat × Nat)))).run P w = .ok l w := by
  intro fs
  induction fs with
  | nil => intro l h; simp at h; subst h; simp
  | cons f fs ih =>
    intro l h
    rw [List.mapM_cons] at h
    cases hi : P.info? f.type with
    | none => simp [hi] at h
    | some i =>
      cases hm : fs.mapM (fun fd => (P.info? fd.type).map fun i => (fd.offset, i.size)) with
      | none => simp [hi, hm] at h
      | some l' =>
        simp [hi, hm] at h; subst h
        have := ih l' hm
        rw [List.mapM_cons]
        simp only [Sem.run_bind, run_size hi, Result.andThen_ok, Sem.run_pure, this]

theorem d_build (hR : Rel w S H β) (hA : Agree w S H β e ρ) {t parts} (h : opRun P (.build t parts) e H = some r) : Does P w S H β ρ ⟨dst, .build t parts, ty, pos, af, g⟩ r := by
  simp only [opRun] at h
  split at h
  · rename_i l hl
    cases hb : buildV P t l with
    | none => simp [hb] at h
    | some v =>
      simp [hb, ret] at h; subst h
      unfold buildV at hb
      cases hz : zeroV P t with
      | none => simp [hz] at hb
      | some z =>
        cases hp : plOf P t with
        | none => simp [hz, hp] at hb
        | some pl =>
          cases hm : placesV pl l with
          | none => simp [hz, hp, hm] at hb
          | some m =>
            cases hf : fillV z.cells m with
            | none => simp [hz, hp, hm, hf] at hb
            | some cs =>
              simp [hz, hp, hm, hf] at hb; subst hb
              obtain ⟨i, zv, hi, hzv, hrv⟩ := zeroV_rv hz
              obtain ⟨us, h1, h2⟩ := fill_rv hA pl _ _ _ _ _ zv.cells hl hm hf (hrv w S H β).cellsRv
              have hval : RV w S H β (mkAgg cs) (.agg us) := by
                have := RV.mkAgg h2.1 h2.2
                simpa using this
              refine does_value hR (u := .agg us) ?_ hval
              simp only [execOp]
              refine run_val ?_
              have e1 : (parts.map fun (i, x) => (i, ρ x)).toList = parts.toList.map fun (i, x) => (i, ρ x) := by simp
              unfold plOf at hp
              split at hp
              · rename_i hk
                obtain ⟨fs, hu⟩ := kd_struct hk
                simp only [fldsOf, hu] at hp
                cases hfl : fs.toList.mapM (fun fd => (P.info? fd.type).map fun i => (fd.offset, i.size)) with
                | none => simp [hfl] at hp
                | some fl =>
                  simp [hfl] at hp; subst hp
                  have hpl := run_places (P := P) (w := w) fs.toList fl hfl
                  have hpl2 : (fs.mapM (fun f => (do pure (f.offset, ← sizeOf f.type) : Sem (Nat × Nat)))).run P w = .ok fl.toArray w := by
                    rw [Array.mapM_eq_mapM_toList]
                    rw [map_eq_pure_bind, Sem.run_bind, hpl]
                    rfl
                  simp only [Instr.build, Sem.run_bind, run_zero hi hzv, Result.andThen_ok, run_und hu, hpl2]
                  rw [e1]
                  have e2 : (fun i : Nat => (fl.toArray)[i]?) = fun i : Nat => fl[i]? := by funext i; simp
                  rw [e2, h1]
                  rfl
              · rename_i n el hk
                cases hie : infoOf P el with
                | none => simp [hie] at hp
                | some p =>
                  simp [hie] at hp; subst hp
                  obtain ⟨ie, hi1, hi2, _⟩ := info_of hie
                  simp only [Instr.build, Sem.run_bind, run_zero hi hzv, Result.andThen_ok, run_und (kd_arr hk), run_size hi1]
                  rw [e1, hi2, h1]
                  rfl
              · cases hp
  · cases h
end
end Go.Sim

namespace Go.Sim
variable [Base]

theorem fold_all (d : Nat) : ∀ (l : List V) (H : Heap), ∀ y, y ∈ l → AllSt (l.foldl (hold d) H) d y := by
  intro l
  induction l with
  | nil => intro H y hy; cases hy
  | cons v l ihl =>
    intro H y hy
    simp only [List.foldl_cons]
    rcases List.mem_cons.1 hy with rfl | hy
    · exact (hold_all d H y).raise (fold_raise d l _) d y
    · exact ihl _ y hy

theorem allSt_t (H : Heap) (d : Nat) (x : T) : AllSt H d (.t x) := by cases d <;> trivial
theorem allSt_ex (H : Heap) (d : Nat) (x : List T) : AllSt H d (.ex x) := by cases d <;> trivial
theorem ofScalar_all {v : Value} {x : V} (h : ofScalar v = some x) (H : Heap) (d : Nat) : AllSt H d x := by
  unfold ofScalar at h
  split at h
  · cases h; exact allSt_t _ _ _
  · cases h; exact allSt_t _ _ _
  · cases h; exact allSt_t _ _ _
  · cases h; exact allSt_ex _ _ _
  · cases h; exact allSt_t _ _ _
  · cases h; exact allSt_t _ _ _
  · cases h; exact allSt_t _ _ _
  · cases h; exact allSt_t _ _ _
  · split at h
    · cases h; exact allSt_t _ _ _
    · cases h
  · cases h
theorem ofVal_all {v : Value} {x : V} (h : ofVal v = some x) (H : Heap) (d : Nat) : AllSt H d x := by
  unfold ofVal at h
  split at h
  · rename_i cs
    cases hm : cs.toList.mapM ofScalar with
    | none => simp [hm] at h
    | some l =>
      simp [hm] at h
      subst h
      obtain ⟨h1, h2⟩ := mapM_some hm
      unfold mkAgg
      split
      · exact allSt_t _ _ _
      · cases d with
        | zero => trivial
        | succ d =>
          intro y hy
          obtain ⟨i, hi, rfl⟩ := List.mem_iff_getElem.1 hy
          exact ofScalar_all (h2 i (by omega) hi) H d
  · exact ofScalar_all h H d
theorem zeroV_all {P : Program} {t : TypeId} {z : V} (h : zeroV P t = some z) (H : Heap) (d : Nat) : AllSt H d z := by
  unfold zeroV at h
  cases hi : P.info? t with
  | none => simp [hi] at h
  | some i =>
    simp only [hi] at h
    cases hz : i.zero with
    | none => simp [hz] at h
    | some zv => simp only [hz, Option.bind_some] at h; exact ofVal_all h H d

theorem RT.cells {w : World} {S : Cells} {x : T} {u : Value} (h : RT w S x u) : x.cells.length = u.cells.size ∧ ∀ j (hj : j < x.cells.length) (hu : j < u.cells.size), RT w S x.cells[j] u.cells[j] := by
  obtain ⟨h1, h2⟩ := (RV.t (H := []) (β := []) x u h).cells
  simp only [Tcells, List.length_map, List.getElem_map] at h1 h2
  exact ⟨h1, fun j hj hu => rv_t (h2 j hj hu)⟩

def RowT (w : World) (S : Cells) (sz : Nat) (xs : List T) (us : Array Value) : Prop :=
  us.size = xs.length * sz ∧ ∀ k (hk : k < xs.length), (xs[k]).cells.length = sz ∧ ∀ j (hj : j < (xs[k]).cells.length), ∃ u, us[k * sz + j]? = some u ∧ RT w S (xs[k]).cells[j] u

theorem RowT.set {w S sz} {xs : List T} {us : Array Value} (h : RowT w S sz xs us) {i : Nat} (hi : i < xs.length) {x : T} {u : Value} (hx : RT w S x u) (hl : x.cells.length = sz) :
    RowT w S sz (xs.set i x) (u.cells.zipIdx.foldl (fun (cs : Array Value) (p : Value × Nat) => cs.setIfInBounds (i * sz + p.2) p.1) us) := by
  obtain ⟨h1, h2⟩ := h
  obtain ⟨hc1, hc2⟩ := hx.cells
  have hb : (i + 1) * sz ≤ xs.length * sz := Nat.mul_le_mul_right _ hi
  rw [Nat.succ_mul] at hb
  have hfit : i * sz + u.cells.size ≤ us.size := by rw [h1, ← hc1]; omega
  have hf := arrFold (i * sz) u.cells us hfit
  have hlen := splice_len us.toList (i * sz) u.cells.toList (by simpa using hfit)
  have hget := splice_get us.toList (i * sz) u.cells.toList (by simpa using hfit)
  refine ⟨?_, fun k hk => ?_⟩
  · rw [← Array.length_toList, hf, hlen]; simpa using h1
  · by_cases e : k = i
    · subst e
      simp only [List.getElem_set_self]
      refine ⟨hl, fun j hj => ⟨u.cells[j]'(by omega), ?_, hc2 j hj (by omega)⟩⟩
      rw [← Array.getElem?_toList, hf, hget, if_neg (by omega), if_pos (by simp; omega)]
      have : j < u.cells.size := by omega
      simp [this]
    · have hk' : k < xs.length := by simpa using hk
      have e1 : (xs.set i x)[k] = xs[k] := List.getElem_set_ne (fun h => e h.symm) _
      simp only [e1]
      obtain ⟨h3, h4⟩ := h2 k hk'
      refine ⟨h3, fun j hj => ?_⟩
      obtain ⟨q, h5, h6⟩ := h4 j hj
      refine ⟨q, ?_, h6⟩
      rw [← Array.getElem?_toList, hf, hget]
      rcases Nat.lt_or_gt_of_ne e with hlt | hgt
      · have : (k + 1) * sz ≤ i * sz := Nat.mul_le_mul_right _ hlt
        rw [Nat.succ_mul] at this
        rw [if_pos (by omega)]; simpa using h5
      · have : (i + 1) * sz ≤ k * sz := Nat.mul_le_mul_right _ hgt
        rw [Nat.succ_mul] at this
        rw [if_neg (by omega), if_neg (by simp; omega)]; simpa using h5

section
variable {P : Program} {w : World} {S : Cells} {H : Heap} {β : Bl} {e : Env} {ρ : Operand → Value} {r : Res} {dst : Option Tmp} {ty : TypeId} {pos : String} {af : Array Edge} {g : Option (Nat × Bool)}

theorem lit_rt {S1 : Cells} {sz : Nat} (H : Heap) : ∀ (parts : List (Nat × Operand)) (l : List (Nat × V)) (xs xs' : List T) (us : Array Value),
    evParts e parts = some l → (∀ v x (o : Operand), ev e o = some v → toT H depth v = some x → v ∈ l.map (·.2) → RT w S1 x (ρ o)) → (∀ p ∈ l, p.2.cells.length = sz) → (∀ v (o : Operand), ev e o = some v → v.cells.length = (ρ o).cells.size) →
    litV H xs l = some xs' → RowT w S1 sz xs us → ∃ us', Instr.fill (fun i => some (i * sz, sz)) us (parts.map fun (i, x) => (i, ρ x)) = some us' ∧ RowT w S1 sz xs' us' ∧ xs'.length = xs.length := by
  intro parts
  induction parts with
  | nil =>
    intro l xs xs' us h1 _ _ _ h2 h3
    simp [evParts] at h1; subst h1
    simp [litV] at h2; subst h2
    exact ⟨us, rfl, h3, rfl⟩
  | cons p parts ih =>
    intro l xs xs' us h1 hrt hsz hcl h2 h3
    obtain ⟨i, o⟩ := p
    simp only [evParts] at h1
    cases hx : ev e o with
    | none => simp [hx] at h1
    | some v =>
      cases hr : evParts e parts with
      | none => simp [hx, hr] at h1
      | some l' =>
        simp [hx, hr] at h1; subst h1
        simp only [litV] at h2
        split at h2
        · rename_i hi
          cases ht : toT H depth v with
          | none => simp [ht] at h2
          | some x =>
            simp only [ht, Option.bind_some] at h2
            have hR := hrt v x o hx ht (by simp)
            have hl : v.cells.length = sz := hsz (i, v) (by simp)
            have hcs := hcl v o hx
            have hxl : x.cells.length = sz := by rw [hR.cells.1, ← hcs, hl]
            have h4 := h3.set hi hR hxl
            obtain ⟨us', h5, h6, h7⟩ := ih l' _ xs' _ hr (fun v x o a b c => hrt v x o a b (by simp at c ⊢; exact .inr c)) (fun p hp => hsz p (by simp [hp])) hcl h2 h4
            refine ⟨us', ?_, h6, by simpa using h7⟩
            simp only [List.map_cons, Instr.fill]
            rw [if_neg ?_]
            · exact h5
            · have hb : (i + 1) * sz ≤ xs.length * sz := Nat.mul_le_mul_right _ hi
              rw [Nat.succ_mul] at hb
              have := h3.1
              simp; omega
        · cases h2

theorem d_buildSlice (hR : Rel w S H β) (hA : Agree w S H β e ρ) {t len parts} (h : opRun P (.buildSlice t len parts) e H = some r) : Does P w S H β ρ ⟨dst, .buildSlice t len parts, ty, pos, af, g⟩ r := by
  simp only [opRun] at h
  split at h
  · rename_i el hk
    split at h
    · rename_i hnb
      cases h
      obtain ⟨hn, hb⟩ := Bool.and_eq_true_iff.1 hnb
      have hnp : len = 1 ∧ parts.toList = [(0, .const (.slice none 0 0))] := by
        unfold nilL at hn
        split at hn
        · rename_i hp; exact ⟨by simpa using hn, hp⟩
        · cases hn
      obtain ⟨rfl, hp⟩ := hnp
      have hbb : ∃ b z, infoOf P el = some (1, b) ∧ zeroV P el = some z := by
        unfold bigEl at hb
        split at hb
        · rename_i _ b z _ h2 h3; exact ⟨b, z, h2, h3⟩
        · cases hb
      obtain ⟨b, z, hie, hz⟩ := hbb
      obtain ⟨i, hi1, hi2, hi3⟩ := info_of hie
      obtain ⟨i', zv, hi', hzv, hrv⟩ := zeroV_rv hz
      rw [hi1] at hi'; cases hi'
      have hsz : i.size = 1 := hi2
      have hρ : ∃ A, ρ (.const (.slice none 0 0)) = .slice A 0 0 := by
        have := hA (.const (.slice none 0 0)) (.ex []) rfl
        generalize ρ (.const (.slice none 0 0)) = q at this
        cases this with
        | ex _ A n hh => cases hh with
          | sl0 A c => exact ⟨_, rfl⟩
          | sl _ b o cap esz c hn hl hs hr => exact ⟨_, rfl⟩
      obtain ⟨A, hρ⟩ := hρ
      have hfill : ∀ c : Array Value, c.size = 1 → Instr.fill (fun k => some (k * 1, 1)) c [(0, .slice A 0 0)] = some #[.slice A 0 0] := by
        intro c hc
        have : c = #[c[0]'(by omega)] := by
          apply Array.ext
          · simp [hc]
          · intro k h1 h2
            have : k = 0 := by simp at h2; omega
            subst this; rfl
        rw [this]
        simp [Instr.fill, Value.cells]
      obtain ⟨hE, hR'⟩ := hR.push (cs := #[.slice A 0 0]) (T := el) (o := ⟨[.ex []], 1, false⟩) (cap := 1) rfl (by show 0 < 1; decide) (by show 1 ≤ 1; decide) rfl (by
        intro k hk'
        have : k = 0 := by simp at hk'; omega
        subst this
        refine ⟨rfl, fun j hj => ?_⟩
        have : j = 0 := by simp [V.cells] at hj; omega
        subst this
        exact ⟨.slice A 0 0, rfl, .ex _ _ _ (.sl0 _ _)⟩)
      refine ⟨_, _, S, _, .inl ?_, hE, hR', .ref _ _ _ ⟨⟨_, _, rfl⟩, ⟨[.ex []], 1, false⟩, by simp, by simp, fun _ => ⟨by show 0 < 1; decide, w.heap.size, 1, ?_, rfl, by omega⟩⟩⟩
      · simp only [execOp]
        refine run_val ?_
        have e1 : (parts.map fun (i, x) => (i, ρ x)).toList = [(0, .slice A 0 0)] := by
          rw [Array.toList_map, hp]
          simp [hρ]
        simp only [Instr.buildSlice, Sem.run_bind, run_und (kd_sl hk), Result.andThen_ok, run_size hi1, hsz]
        rw [if_neg (by decide), if_neg (by decide)]
        simp only [Sem.run_bind, Sem.run_pure, Result.andThen_ok, run_zero hi1 hzv]
        rw [e1, hfill _ (by simp)]
        simp only [Sem.run_bind, run_row, Result.andThen_ok, Sem.run_pure]
      · rw [← hR.len]; simp
    cases hv : liveOf P el len parts.toList (evParts e parts.toList) with
    | some v =>
      rw [hv] at h
      simp only [litR] at h
      cases h
      unfold liveOf at hv
      split at hv
      rotate_left
      · cases hv
      rename_i hnb
      obtain ⟨hn, hb⟩ := Bool.and_eq_true_iff.1 hnb
      have hnp : len = 1 ∧ parts.toList = [(0, .tmp 46)] := by
        unfold liveL at hn
        split at hn
        · rename_i hp; exact ⟨by simpa using hn, hp⟩
        · cases hn
      obtain ⟨rfl, hp⟩ := hnp
      have hbb : ∃ b z, infoOf P el = some (1, b) ∧ zeroV P el = some z := by
        unfold oneEl at hb
        split at hb
        · rename_i b z h2 h3; exact ⟨b, z, h2, h3⟩
        · cases hb
      obtain ⟨b, z, hie, hz⟩ := hbb
      obtain ⟨i, hi1, hi2, hi3⟩ := info_of hie
      obtain ⟨i', zv, hi', hzv, hrv⟩ := zeroV_rv hz
      rw [hi1] at hi'; cases hi'
      have hsz : i.size = 1 := hi2
      rw [hp] at hv
      have hev : ∃ id n, ev e (.tmp 46) = some (.ref id n) ∧ v = .ref id n := by
        simp only [evParts] at hv
        cases hx : ev e (.tmp 46) with
        | none => rw [hx] at hv; simp [litP] at hv
        | some u =>
          rw [hx] at hv
          simp only [Option.bind_some, Option.map_some] at hv
          unfold litP at hv
          split at hv
          · rename_i id n hh
            simp at hh hv
            exact ⟨id, n, by rw [hh], hv.symm⟩
          · cases hv
      obtain ⟨id, n, hev, rfl⟩ := hev
      have hRV := hA (.tmp 46) (.ref id n) hev
      obtain ⟨u0, hu0, hcell⟩ : ∃ u0, ρ (.tmp 46) = u0 ∧ u0.cells = #[u0] := ⟨_, rfl, by
        generalize ρ (.tmp 46) = q at hRV
        cases hRV with
        | ref _ _ _ h =>
          obtain ⟨⟨A, c, rfl⟩, _⟩ := h
          rfl⟩
      have hfill : ∀ c : Array Value, c.size = 1 → Instr.fill (fun k => some (k * 1, 1)) c [(0, u0)] = some #[u0] := by
        intro c hc
        have : c = #[c[0]'(by omega)] := by
          apply Array.ext
          · simp [hc]
          · intro k h1 h2
            have : k = 0 := by simp at h2; omega
            subst this; rfl
        rw [this]
        simp [Instr.fill, hcell]
      obtain ⟨hE, hR'⟩ := hR.push (cs := #[u0]) (T := el) (o := ⟨[.ref id n], 1, false⟩) (cap := 1) rfl (by show 0 < 1; decide) (by show 1 ≤ 1; decide) rfl (by
        intro k hk'
        have : k = 0 := by simp at hk'; omega
        subst this
        refine ⟨rfl, fun j hj => ?_⟩
        have : j = 0 := by simp [V.cells] at hj; omega
        subst this
        refine ⟨u0, rfl, ?_⟩
        rw [← hu0]
        exact hRV)
      refine ⟨_, _, S, _, .inl ?_, hE, hR', .ref _ _ _ ⟨⟨_, _, rfl⟩, ⟨[.ref id n], 1, false⟩, by simp, by simp, fun _ => ⟨by show 0 < 1; decide, w.heap.size, 1, ?_, rfl, by omega⟩⟩⟩
      · simp only [execOp]
        refine run_val ?_
        have e1 : (parts.map fun (i, x) => (i, ρ x)).toList = [(0, u0)] := by
          rw [Array.toList_map, hp]
          simp [hu0]
        simp only [Instr.buildSlice, Sem.run_bind, run_und (kd_sl hk), Result.andThen_ok, run_size hi1, hsz]
        rw [if_neg (by decide), if_neg (by decide)]
        simp only [Sem.run_bind, Sem.run_pure, Result.andThen_ok, run_zero hi1 hzv]
        rw [e1, hfill _ (by simp)]
        simp only [Sem.run_bind, run_row, Result.andThen_ok, Sem.run_pure]
      · rw [← hR.len]; simp
    | none =>
    rw [hv] at h
    simp only [litR] at h
    cases hl : evParts e parts.toList with
    | none => simp [hl] at h
    | some l =>
      cases hz : zeroV P el with
      | none => simp [hl, hz] at h
      | some z =>
        cases hie : infoOf P el with
        | none => simp [hl, hz, hie] at h
        | some p =>
          cases hz' : toT H depth z with
          | none => simp [hl, hz, hie, hz'] at h
          | some z' =>
            simp only [hl, hz, hie, hz', Option.bind_some] at h
            split at h
            · rename_i hh
              obtain ⟨hlim, hzl, hp1, hp2, hall⟩ := hh
              cases hlit : litV H (List.replicate len z') l with
              | none => simp [hlit] at h
              | some xs =>
                simp only [hlit, Option.bind_some, Option.some.injEq] at h
                subst h
                obtain ⟨i, hi1, hi2, hi3⟩ := info_of hie
                obtain ⟨i', zv, hi', hzv, hrv⟩ := zeroV_rv hz
                rw [hi1] at hi'; cases hi'
                have hraise := fold_raise depth (l.map (·.2)) H
                obtain ⟨S1, hE1, hR1⟩ := hR.raise hraise
                have hzrt : RT w S1 z' zv := (toT_rt hR depth z z' zv hz' (zeroV_all hz H depth) (hrv w S H β)).mono hE1.stay
                have hzsz : zv.cells.size = p.1 := by rw [← hzrt.cells.1, hzl]
                have hrow0 : RowT w S1 p.1 (List.replicate len z') ((Array.range (len * i.size)).map (zv.cells[· % zv.cells.size]!)) := by
                  refine ⟨by simp [hi2], fun k hk' => ?_⟩
                  simp only [List.getElem_replicate]
                  refine ⟨hzl, fun j hj => ?_⟩
                  have hj' : j < zv.cells.size := by omega
                  refine ⟨zv.cells[j], ?_, hzrt.cells.2 j hj hj'⟩
                  have hjp : j < p.1 := by omega
                  have hk2 : k < len := by simpa using hk'
                  have hlt : k * p.1 + j < len * i.size := by
                    have h3 : (k + 1) * p.1 ≤ len * p.1 := Nat.mul_le_mul_right _ (by omega)
                    rw [Nat.succ_mul] at h3
                    rw [hi2]; omega
                  have hmod : (k * p.1 + j) % zv.cells.size = j := by
                    rw [hzsz, Nat.mul_comm, Nat.mul_add_mod]; exact Nat.mod_eq_of_lt hjp
                  simp [hlt, hmod, hj']
                have hparts : ∀ v x (o : Operand), ev e o = some v → toT H depth v = some x → v ∈ l.map (·.2) → RT w S1 x (ρ o) := by
                  intro v x o hv hx hm
                  exact toT_rt hR1 depth v x (ρ o) (toT_raise hraise depth v x hx) (fold_all depth _ H v hm) ((hA o v hv).mono hE1.stay hE1.grow)
                obtain ⟨us, h1, h2, h3⟩ := lit_rt (sz := p.1) H parts.toList l _ xs _ hl hparts (fun q hq => by
                  have := List.all_eq_true.1 hall q hq
                  simpa using this) (fun v o hv => (hA o v hv).cells.1) hlit hrow0
                obtain ⟨hE2, hR2⟩ := hR1.fixed us el
                have hlen : xs.length = len := by simpa using h3
                refine ⟨.slice (some ⟨w.heap.size, 0, none⟩) len len, _, _, _, .inl ?_, hE1.trans hE2, hR2, ?_⟩
                · simp only [execOp]
                  refine run_val ?_
                  have hlim' : ¬ (16777216 < len * i.size) := by
                    rw [hi2]
                    have : (2:Nat)^24 = 16777216 := by decide
                    omega
                  have e1 : (parts.map fun (i, x) => (i, ρ x)).toList = parts.toList.map fun (i, x) => (i, ρ x) := by simp
                  have h1' : Instr.fill (fun k => some (k * i.size, i.size)) ((Array.range (len * i.size)).map (zv.cells[· % zv.cells.size]!)) (parts.map fun (i, x) => (i, ρ x)).toList = some us := by rw [e1, hi2, ← hi2]; rw [← hi2] at h1; exact h1
                  by_cases hn0 : len * i.size = 0
                  · have ez : (Array.range (len * i.size)).map (zv.cells[· % zv.cells.size]!) = #[] := by rw [hn0]; apply Array.ext'; simp
                    have ez2 : (Array.range (len * i.size)).map (fun x => (#[] : Array Value)[x % (#[] : Array Value).size]!) = #[] := by rw [hn0]; apply Array.ext'; simp
                    rw [ez] at h1'
                    simp only [Instr.buildSlice, Sem.run_bind, run_und (kd_sl hk), Result.andThen_ok, run_size hi1]
                    rw [if_neg (by omega), if_pos hn0]
                    simp only [Sem.run_bind, Sem.run_pure, Result.andThen_ok]
                    rw [ez2, h1']
                    simp only [Sem.run_bind, run_row, Result.andThen_ok, Sem.run_pure]
                  · simp only [Instr.buildSlice, Sem.run_bind, run_und (kd_sl hk), Result.andThen_ok, run_size hi1]
                    rw [if_neg (by omega), if_neg hn0]
                    simp only [Sem.run_bind, Sem.run_pure, Result.andThen_ok, run_zero hi1 hzv]
                    rw [h1']
                    simp only [Sem.run_bind, run_row, Result.andThen_ok, Sem.run_pure]
                · have harr : Arr (w.alloc (.cells us el)) (fun b j => S1 b j ∨ b = w.heap.size) xs w.heap.size 0 p.1 := by
                    refine ⟨fun k hk' => (h2.2 k hk').1, fun k hk' j hj => ⟨.inr rfl, ?_⟩⟩
                    obtain ⟨u, h4, h5⟩ := (h2.2 k hk').2 j hj
                    refine ⟨u, ?_, h5.mono hE2.stay⟩
                    rw [cell_of_heap (alloc_new w (.cells us el)), Nat.zero_add]; exact h4
                  have := RT.of_arr harr (cap := len) (by omega)
                  rw [hlen] at this
                  exact .ex _ _ _ this
            · cases h
  · cases h
end
end Go.Sim

namespace Go.Sim
variable [Base]
section
variable {P : Program} {w : World} {S : Cells} {H : Heap} {β : Bl} {e : Env} {ρ : Operand → Value} {r : Res} {dst : Option Tmp} {ty : TypeId} {pos : String} {af : Array Edge} {g : Option (Nat × Bool)}
theorem mapSB_of {t : TypeId} (h : mapSB P t = true) : ∃ k q, P.underlying t = some (.map k q) ∧ P.underlying k = some .string ∧ zeroV P q = some (.t (.bool false)) := by
  unfold mapSB at h
  split at h
  · rename_i k q hu
    split at h
    · rename_i h1 h2; exact ⟨k, q, hu, h1, h2⟩
    · cases h
  · cases h
theorem d_makeMap (hR : Rel w S H β) {t} (h : opRun P (.makeMap t none) e H = some r) : Does P w S H β ρ ⟨dst, .makeMap t none, ty, pos, af, g⟩ r := by
  simp only [opRun] at h
  split at h
  · cases h
    obtain ⟨hE, hR'⟩ := hR.pushM
    refine ⟨_, _, S, _, .inl ?_, hE, hR', .mp _ _ ⟨⟨[], 0, false⟩, by simp, rfl, rfl, w.heap.size, 0, by rw [← hR.len]; simp, rfl⟩⟩
    simp only [execOp, Option.map_none]
    refine run_val ?_
    simp [Instr.makeMap]
  · cases h
theorem check_str' {k : TypeId} (hk : P.underlying k = some .string) (b : Bool) (s : ByteArray) (n : Nat) : (Instr.checkKey b (n + 1) k (.string s)).run P w = .ok () w := by
  simp only [Instr.checkKey, Sem.run_bind, run_und hk, Result.andThen_ok]
  rfl
theorem check_str {k : TypeId} (hk : P.underlying k = some .string) (b : Bool) (s : ByteArray) : (Instr.checkKey b 10000 k (.string s)).run P w = .ok () w := check_str' hk b s 9999
theorem find_run {k : TypeId} (hk : P.underlying k = some .string) {s : ByteArray} {es : List MapEntry} {q : Option (Nat × Value)} (h : Instr.findNow .string (.string s) es 0 = some q) : (Instr.findKey k (.string s) es).run P w = .ok q w := by
  simp only [Instr.findKey, Sem.run_bind, run_und hk, Result.andThen_ok, h, Sem.run_pure]
theorem d_lookup (hR : Rel w S H β) (hA : Agree w S H β e ρ) {t x k} (h : opRun P (.lookup t x k false) e H = some r) : Does P w S H β ρ ⟨dst, .lookup t x k false, ty, pos, af, g⟩ r := by
  simp only [opRun] at h
  split at h
  · rename_i a b hx hkx
    split at h
    · rename_i hm
      obtain ⟨kt, q, hu, hk, hz⟩ := mapSB_of hm
      obtain ⟨i', zv, hi', hzv, hrv⟩ := zeroV_rv hz
      have hzb : zv = .bool false := by
        have := rv_t (hrv w S H β)
        cases this; rfl
      subst hzb
      have hvx := hA x a hx
      have hvk := hA k b hkx
      unfold lookM at h
      split at h
      · rename_i s
        cases h
        have hs := rv_str hvk
        have hn := rv_t hvx
        generalize hρ : ρ x = u at hn
        cases hn
        refine does_value hR (u := .bool false) ?_ (.t _ _ (.bool _))
        simp only [execOp, Instr.lookup, hρ, hs, Sem.run_bind, run_und hu, Result.andThen_ok, Sem.run_pure, check_str hk, find_run hk (es := []) (q := none) rfl, run_zero hi' hzv]
        rfl
      · rename_i id s
        cases ho : H[id]? with
        | none => simp [ho] at h
        | some o =>
          cases hks : keysOf o with
          | none => simp [ho, hks] at h
          | some ks =>
            simp [ho, hks] at h; subst h
            have hs := rv_str hvk
            obtain ⟨_, _, _, b0, cap, es, clock, hρ, _, hh, he⟩ := hR.mapAt hvx ho hks
            refine does_value hR (u := .bool (ks.contains s)) ?_ (.t _ _ (.bool _))
            cases hc : ks.contains s
            · have hf := find_no (i := 0) he hc
              simp only [execOp, Instr.lookup, hρ, hs, Sem.run_bind, run_und hu, Result.andThen_ok, Sem.run_pure, run_getM hh, check_str hk, find_run hk hf, run_zero hi' hzv]
              rfl
            · obtain ⟨j, e', hf, _, _, _⟩ := find_yes (i := 0) he hc
              simp only [execOp, Instr.lookup, hρ, hs, Sem.run_bind, run_und hu, Result.andThen_ok, Sem.run_pure, run_getM hh, check_str hk, find_run hk hf]
              rfl
      · cases h
    · cases h
  · cases h
theorem d_mapUpdate (hR : Rel w S H β) (hA : Agree w S H β e ρ) {t x k y} (h : opRun P (.mapUpdate t x k y) e H = some r) : Does P w S H β ρ ⟨dst, .mapUpdate t x k y, ty, pos, af, g⟩ r := by
  simp only [opRun] at h
  split at h
  · rename_i a b c hx hkx hy
    split at h
    · rename_i hm
      obtain ⟨kt, q, hu, hk, hz⟩ := mapSB_of hm
      have hvx := hA x a hx
      have hvk := hA k b hkx
      have hvy := hA y c hy
      unfold updM at h
      split at h
      · rename_i id s
        cases ho : H[id]? with
        | none => simp [ho] at h
        | some o =>
          cases hks : keysOf o with
          | none => simp [ho, hks] at h
          | some ks =>
            simp only [ho, hks, Option.bind_some, Option.some.injEq] at h; subst h
            have hs := rv_str hvk
            have hyb : ρ y = .bool true := by
              have := rv_t hvy
              generalize ρ y = u at this
              cases this; rfl
            obtain ⟨h0, hel, hgn, b0, cap, es, clock, hρ, hβ, hh, he⟩ := hR.mapAt hvx ho hks
            cases hc : ks.contains s
            · have hf := find_no (i := 0) he hc
              obtain ⟨hE, hR'⟩ := hR.mapGrow (clock' := clock + 1) (e' := { key := .string s, val := .bool true, born := clock }) ho h0 hel hgn hβ hh he rfl rfl
              refine ⟨undef, _, S, β, .inr ⟨?_, rfl⟩, hE, hR', .dead⟩
              simp only [execOp, Instr.mapUpdate, hρ, hs, hyb, Sem.run_bind, run_und hu, Result.andThen_ok, Sem.run_pure, run_getM hh, check_str hk, find_run hk hf, run_setM _ hh]
            · obtain ⟨j, e', hf, hj, hk1, hv1⟩ := find_yes (i := 0) he hc
              refine ⟨undef, w, S, β, .inr ⟨?_, rfl⟩, Ext.refl _ _ _ _, hR, .dead⟩
              rw [Nat.zero_add] at hf
              have hje : es[j]? = some e' := by rw [← Array.getElem?_toList]; exact hj
              have hmod : es.modify j (fun z => { z with key := .string s, val := .bool true }) = es := by
                apply Array.ext
                · simp
                · intro i h1 h2
                  rw [Array.getElem_modify]
                  split
                  · rename_i hji
                    subst hji
                    rw [Array.getElem?_eq_getElem h2] at hje
                    simp only [Option.some.injEq] at hje
                    rw [hje, ← hk1, ← hv1]
                  · rfl
              simp only [execOp, Instr.mapUpdate, hρ, hs, hyb, Sem.run_bind, run_und hu, Result.andThen_ok, Sem.run_pure, run_getM hh, check_str hk, find_run hk hf, hje, Option.map_some, Option.getD_some, hk1, Instr.keyThatStays, Instr.sameBits, show (s == s) = true from ba_eq.2 rfl, if_true, Sem.run_pure, Result.andThen_ok, hmod, run_setM _ hh, putM_same hh]
      · cases h
    · cases h
  · cases h
theorem solid_und {t : TypeId} (h : solid P t = true) : ∃ d, P.underlying t = some d ∧ ∀ ms, d ≠ .interface ms := by
  unfold solid at h
  split at h
  · cases h
  · rename_i d hn hu; exact ⟨d, hu, fun ms e => hn ms e⟩
  · cases h
theorem d_makeInterface (hR : Rel w S H β) (hA : Agree w S H β e ρ) {t x} (h : opRun P (.makeInterface t x) e H = some r) : Does P w S H β ρ ⟨dst, .makeInterface t x, ty, pos, af, g⟩ r := by
  simp only [opRun] at h
  split at h
  · rename_i hs
    obtain ⟨d, hu, hd⟩ := solid_und hs
    simp only [Option.bind_eq_some_iff] at h
    obtain ⟨v, hx, u, hi, h⟩ := h
    simp [ret] at h; subst h
    have hv := hA x v hx
    refine does_value hR (u := .iface t (ρ x)) ?_ ?_
    · simp only [execOp]
      refine run_val ?_
      simp only [Instr.makeInterface, Sem.run_bind, run_und hu, Result.andThen_ok]
      cases d <;> first | rfl | exact absurd rfl (hd _)
    · unfold ifcV at hi
      split at hi
      · cases hi; exact .t _ _ (.iface _ _ _ (rv_t hv))
      · cases hi; exact .ifc _ _ _ hv
      · cases hi
  · cases h
theorem d_typeAssert (hR : Rel w S H β) (hA : Agree w S H β e ρ) {t u x} (h : opRun P (.typeAssert x u t true) e H = some r) : Does P w S H β ρ ⟨dst, .typeAssert x u t true, ty, pos, af, g⟩ r := by
  simp only [opRun] at h
  split at h
  · rename_i hs
    obtain ⟨d, hu, hd⟩ := solid_und hs
    simp only [Option.bind_eq_some_iff] at h
    obtain ⟨v, hx, q, hi, h⟩ := h
    simp [ret] at h; subst h
    have hv := hA x v hx
    unfold assertV at hi
    split at hi
    · rename_i t' y
      split at hi
      · rename_i ht
        cases hi; subst ht
        have hv' := rv_t hv
        generalize hρ : ρ x = q at hv'
        cases hv' with
        | iface _ _ z hz =>
          refine does_value hR (u := .tuple #[z, .bool true]) ?_ ?_
          · simp only [execOp, hρ]
            refine run_val ?_
            simp only [Instr.typeAssert, Sem.run_bind, run_und hu, Result.andThen_ok]
            cases d <;> first | exact absurd rfl (hd _) | (simp only [if_true, Sem.run_pure])
          · refine .tup [.t y, .t (.bool true)] [z, .bool true] rfl fun i hi' hu' => ?_
            have : i = 0 ∨ i = 1 := by simp at hi'; omega
            rcases this with rfl | rfl
            · exact .t _ _ hz
            · exact .t _ _ (.bool true)
      · cases hi
    · cases hi
  · cases h
theorem load_run {P : Program} {w : World} {S : Cells} {H : Heap} {β : Bl} (hR : Rel w S H β) {t : TypeId} {v : V} {q : Value} {r : Res} (hv : RV w S H β v q) (h : loadV H (tyOf P t) v = some r) :
    ∃ ad u, q = .pointer (some ad) ∧ (loadVar t ad).run P w = .ok u w ∧ RV w S H β r.v u := by
  unfold loadV at h
  split at h
  · rename_i a sz id n i off hty
    cases hc : cur H id n with
    | none => simp [hc] at h
    | some o =>
      simp only [hc, Option.bind_some] at h
      cases hi : o.el[i]? with
      | none => simp [hi] at h
      | some y =>
        simp only [hi, Option.bind_some] at h
        cases hr : rdV y o.esz off a sz with
        | none => simp [hr] at h
        | some u =>
          simp [hr] at h; subst h
          obtain ⟨h1, h2⟩ := cur_at hc
          cases hv with
          | ptr _ _ _ _ _ hok =>
            obtain ⟨_, o', ho', _, hb⟩ := hok
            rw [h1] at ho'; cases ho'
            obtain ⟨hpo, b, cap, hβ, hu⟩ := hb h2
            obtain ⟨cs, Ty, hh, hsz, hcells⟩ := ((hR.obj id o b cap h1 hβ).live hpo).row
            have hil : i < o.el.length := by
              rcases Nat.lt_or_ge i o.el.length with h' | h'
              · exact h'
              · rw [List.getElem?_eq_none h'] at hi; cases hi
            rw [List.getElem?_eq_getElem hil] at hi; cases hi
            obtain ⟨hl, hcs⟩ := hcells i hil
            obtain ⟨x', h3, h4⟩ := load_at (P := P) (w := w) (b := b) (o := i * o.esz) hty hl (fun j hj => by
              obtain ⟨q, hq1, hq2⟩ := hcs j hj
              exact ⟨q, by rw [cell_of_heap hh]; exact hq1, hq2⟩) hr
            exact ⟨_, x', hu, h3, h4⟩
  · rename_i a sz xs i off hty
    cases hi : xs[i]? with
    | none => simp [hi] at h
    | some y =>
      simp only [hi, Option.bind_some] at h
      cases hr : rdV (.t y) y.cells.length off a sz with
      | none => simp [hr] at h
      | some u =>
        simp [hr] at h; subst h
        cases hv with
        | tp _ _ _ b o esz hil harr =>
          rw [List.getElem?_eq_getElem hil] at hi; cases hi
          have hrow := RowAt.of_arr (H := H) (β := β) harr
          have hil' : i < (xs.map V.t).length := by simpa using hil
          have e1 : (xs.map V.t)[i] = V.t xs[i] := List.getElem_map _
          obtain ⟨x', h3, h4⟩ := load_at (P := P) (w := w) (S := S) (H := H) (β := β) (b := b) (o := o + i * esz) hty (v := V.t xs[i]) (by rw [Tcells]; simp) (fun j hj => by
            have := hrow.cell i hil' j (by rw [e1]; exact hj)
            simpa only [e1] using this) hr
          exact ⟨_, x', rfl, h3, h4⟩
  · cases h

theorem wrap_run {xt : TypeId} {ad : Addr} {a b : String} : (Builtin.ssaWrapNilChk_ #[xt] xt #[.pointer (some ad), strVal a, strVal b]).run P w = .ok (.pointer (some ad)) w := rfl
theorem recv_run (hR : Rel w S H β) {v : V} {q : Value} {name : String} {f : FuncId} {y : V} (hv : RV w S H β v q) (h : recvOf P H name v = some (f, y)) :
    ∃ t qv uy, q = .iface t qv ∧ (method (P.types.size + Made.depth) t qv name).run P w = .ok (f, uy) w ∧ RV w S H β y uy := by
  unfold recvOf at h
  split at h
  · rename_i t x
    cases hv with
    | ifc _ _ u hx =>
      simp only [Option.bind_eq_some_iff] at h
      obtain ⟨⟨f', o⟩, hm, h⟩ := h
      unfold methOf at hm
      simp only [Option.bind_eq_some_iff] at hm
      obtain ⟨i, hi, m, hmm, hm⟩ := hm
      obtain ⟨k, hk⟩ : ∃ k, P.types.size + Made.depth = k + 1 := ⟨_, rfl⟩
      have hinfo := run_info (P := P) hi w
      split at hm
      · rename_i el f'' hpe hu hf
        simp only [Option.some.injEq, Prod.mk.injEq] at hm
        obtain ⟨rfl, rfl⟩ := hm
        simp only [Option.some.injEq, Prod.mk.injEq] at h
        obtain ⟨rfl, rfl⟩ := h
        have hp : m.path.toList = [] := by
          have : m.path = #[] := by simpa using hpe
          rw [this]
        refine ⟨t, u, u, rfl, ?_, hx⟩
        rw [hk]
        simp only [method, Sem.run_bind, hinfo, Result.andThen_ok, hmm, hp, follow, Sem.run_pure, hf, receiverAt, run_und hu, Place.get]
      · rename_i el f'' hpe hu hf
        simp only [Option.some.injEq, Prod.mk.injEq] at hm
        obtain ⟨rfl, rfl⟩ := hm
        simp only [Option.map_eq_some_iff] at h
        obtain ⟨r', hl, h⟩ := h
        simp only [Prod.mk.injEq] at h
        obtain ⟨rfl, rfl⟩ := h
        have hp : m.path.toList = [] := by
          have : m.path = #[] := by simpa using hpe
          rw [this]
        obtain ⟨ad, uy, rfl, hld, hy⟩ := load_run hR hx hl
        refine ⟨t, _, uy, rfl, ?_, hy⟩
        rw [hk]
        simp only [method, Sem.run_bind, hinfo, Result.andThen_ok, hmm, hp, follow, Sem.run_pure, hf, receiverAt, run_und hu, Place.get, hpe, if_true, wrap_run, asAddr, hld]
      · cases hm
  · cases h
end
end Go.Sim

namespace Go.Sim
variable [Base]
section
variable {P : Program} {w : World} {S : Cells} {H : Heap} {β : Bl} {e : Env} {ρ : Operand → Value} {r : Res} {dst : Option Tmp} {ty : TypeId} {pos : String} {af : Array Edge} {g : Option (Nat × Bool)}

theorem d_op (hR : Rel w S H β) (hA : Agree w S H β e ρ) {op : Op} (h : opRun P op e H = some r) : Does P w S H β ρ ⟨dst, op, ty, pos, af, g⟩ r := by
  cases op with
  | move x => exact d_move hR hA h
  | assign x => exact d_assign hR hA h
  | pick c a b => exact d_pick hR hA h
  | alloc t => exact d_alloc hR h
  | box t x => exact d_box hR hA h
  | build t p => exact d_build hR hA h
  | buildSlice t n p => exact d_buildSlice hR hA h
  | load t x => exact d_load hR hA h
  | store t x y => exact d_store hR hA h
  | nilCheck x => exact d_nilCheck hR hA h
  | binOp op t x y s => exact d_binOp hR hA h
  | unOp op t x => exact d_unOp hR hA h
  | convert s d x => exact d_convert hR hA h
  | makeFunc f a b => cases f <;> first | exact d_makeFunc hR hA h | simp [opRun] at h
  | makeSlice t l c => exact d_makeSlice hR hA h
  | makeMap t r' => cases r' with
    | none => exact d_makeMap hR h
    | some z => simp [opRun] at h
  | lookup t x k c => cases c with
    | false => exact d_lookup hR hA h
    | true => simp [opRun] at h
  | mapUpdate t x k y => exact d_mapUpdate hR hA h
  | slice t x lo hi mx => exact d_slice hR hA h
  | makeInterface t x => exact d_makeInterface hR hA h
  | typeAssert x u t c => cases c with
    | true => exact d_typeAssert hR hA h
    | false => simp [opRun] at h
  | field s x f => exact d_field hR hA h
  | fieldAddr s x f => exact d_fieldAddr hR hA h
  | indexAddr t x i => exact d_indexAddr hR hA h
  | index t x i => exact d_index hR hA h
  | extract x i => exact d_extract hR hA h
  | call c =>
    obtain ⟨callee, as, ts⟩ := c
    cases callee <;> first | exact d_builtin hR hA h | simp [opRun] at h
  | _ => simp [opRun] at h
end

def Back (w : World) (S : Cells) (H : Heap) (β : Bl) (v : V) (H' : Heap) (x : Ending) (w' : World) : Prop :=
  ∃ u S' β', x = .returned u ∧ Ext w S H β w' S' H' β' ∧ Rel w' S' H' β' ∧ RV w' S' H' β' v u

def CallOk (P : Program) (call : CallFn) : Prop := ∀ f args H v H', call f args H = some (v, H') → v.isDead = false →
  (∃ fn, P.funcs[f]? = some fn ∧ fn.body.isSome = true ∧ (fn.name == "runtime.NumGoroutine") = false) ∧
  ∀ (w : World) (S : Cells) (β : Bl) (us : List Value), Rel w S H β → args.length = us.length → (∀ i (hi : i < args.length) (hu : i < us.length), RV w S H β args[i] us[i]) →
    Calls P f us.toArray w (Back w S H β v H')

theorem Rel.none {w : World} {S : Cells} (hb : Stay Base.w Base.S w S) (hlt : ∀ b j, S b j → b < w.heap.size) : Rel w S [] [] :=
  ⟨rfl, fun i j b c c' oi oj h => by simp at h, hlt, fun id o b cap h => by simp at h, hb⟩

theorem noSl_rt {w w' : World} {S S' : Cells} {H H' : Heap} {β β' : Bl} {v : V} {u : Value} (hn : noSl v = true) (h : RV w S H β v u) : RV w' S' H' β' v u := by
  have base : ∀ (x : T) (u : Value), (match x with | .int .. | .bool _ | .str _ | .nilp | .nilf | .nili => true | _ => false) = true → RT w S x u → RT w' S' x u := by
    intro x u hx h
    cases x <;> simp at hx <;> cases h <;> constructor
  cases v with
  | t x => exact .t _ _ (base x u hn (rv_t h))
  | tup vs =>
    cases h with
    | tup _ us hl h =>
      refine .tup vs us hl fun i hi hu => ?_
      have h1 := h i hi hu
      have h2 : (match vs[i] with | .t x => (match x with | .int .. | .bool _ | .str _ | .nilp | .nilf | .nili => true | _ => false) | _ => false) = true := by
        have := List.all_eq_true.1 hn _ (List.getElem_mem hi)
        exact this
      generalize vs[i] = y at h1 h2
      cases y with
      | t x => exact .t _ _ (base x _ h2 (rv_t h1))
      | _ => simp at h2
  | _ => simp [noSl] at hn

theorem toT_cells {w : World} {S : Cells} {H : Heap} {β : Bl} (hR : Rel w S H β) (d : Nat) (y : V) (z : T) (ht : toT H d y = some z) (ha : AllSt H d y) :
    z.cells.length = y.cells.length ∧ ∀ j (hj : j < z.cells.length) (hy : j < y.cells.length) (u : Value), RV w S H β y.cells[j] u → RT w S z.cells[j] u := by
  have single : ∀ (hz : z.cells = [z]) (hy : y.cells = [y]), z.cells.length = y.cells.length ∧ ∀ j (hj : j < z.cells.length) (hy : j < y.cells.length) (u : Value), RV w S H β y.cells[j] u → RT w S z.cells[j] u := by
    intro hz hy
    refine ⟨by rw [hz, hy]; rfl, fun j hj hjy u hr => ?_⟩
    have e : j = 0 := by rw [hz] at hj; simp at hj; omega
    subst e
    simp only [hz, List.getElem_cons_zero]
    simp only [hy, List.getElem_cons_zero] at hr
    exact toT_rt hR d y z u ht ha hr
  cases y with
  | t q =>
    have : z = q := by cases d <;> simp [toT] at ht <;> exact ht.symm
    subst this
    refine ⟨by rw [Tcells]; simp, fun j hj hjy u hr => ?_⟩
    have e : (V.t z).cells[j] = V.t (z.cells[j]) := by simp only [Tcells, List.getElem_map]
    rw [e] at hr
    exact rv_t hr
  | ex q =>
    have : z = .sl q := by cases d <;> simp [toT] at ht <;> exact ht.symm
    subst this
    exact single rfl rfl
  | ref a b =>
    refine single ?_ rfl
    cases d with
    | zero => simp [toT] at ht
    | succ d' =>
      simp only [toT] at ht
      cases hcc : cur H a b with
      | none => simp [hcc] at ht
      | some oo =>
        simp only [hcc] at ht
        cases hmm : oo.el.mapM (toT H d') with
        | none => simp [hmm] at ht
        | some q => simp [hmm] at ht; subst ht; rfl
  | agg cs' =>
    cases d with
    | zero => simp [toT] at ht
    | succ d' =>
      simp only [toT] at ht
      cases hmm : cs'.mapM (toT H d') with
      | none => simp [hmm] at ht
      | some q =>
        simp [hmm] at ht; subst ht
        obtain ⟨hl', hq⟩ := mapM_some hmm
        refine ⟨by simp [V.cells, T.cells, hl'], fun j hj hjy u hr => ?_⟩
        simp only [V.cells, T.cells] at hjy hj hr ⊢
        exact toT_rt hR d' _ _ _ (hq j hjy hj) (ha _ (List.getElem_mem hjy)) hr
  | _ => cases d <;> simp [toT] at ht

theorem import_rel {w w' : World} {S S1 : Cells} {H H1 : Heap} {β β1 : Bl} (hR : Rel w S H β) (hE1 : Ext w S [] [] w' S1 H1 β1) (hR1 : Rel w' S1 H1 β1) {v u : V} {x : Value} (hv : RV w' S1 H1 β1 v x) (hx : exportV H1 v = some u) :
    ∃ S' β', Ext w S H β w' S' (importV H u).2 β' ∧ Rel w' S' (importV H u).2 β' ∧ RV w' S' (importV H u).2 β' (importV H u).1 x := by
  -- the old rows, with what is stable now
  have old : ∀ (S2 : Cells) (H2 : Heap), Ext w' S1 H1 β1 w' S2 H2 β1 → Rel w' S2 H2 β1 → Ext w S H β w' S2 H β ∧ Rel w' S2 H β := by
    intro S2 H2 hE2 hR2
    have hE := hE1.trans hE2
    refine ⟨⟨hE.os, hE.output, hE.size, fun b hb _ => hE.keep b hb (by simp), hE.stay, fun b j h => ?_, Grow.refl _ _, fun id _ c h => .inl ⟨id, c, h⟩⟩, ⟨hR.len, hR.inj, hR2.lt, ?_, hR2.base⟩⟩
    · rcases hE.new b j h with h | h | ⟨id, c, h⟩
      · exact .inl h
      · exact .inr (.inl h)
      · simp at h
    · intro id o b cap ho hb
      have hlt := hR.block hb
      refine (hR.obj id o b cap ho hb).mono hE.stay (Grow.refl _ _) (hE.keep b hlt (by simp)) (fun j => ⟨fun h => ?_, fun h => (hE.stay b j h).1⟩)
      rcases hE.new b j h with h | h | ⟨id, c, h⟩
      · exact h
      · omega
      · simp at h
  have data : ∀ (y : V) (x : Value), RV w' S1 H1 β1 y x → ∀ z, toT H1 depth y = some z → ∃ S2, Ext w' S1 H1 β1 w' S2 (hold depth H1 y) β1 ∧ Rel w' S2 (hold depth H1 y) β1 ∧ RT w' S2 z x := by
    intro y x hy z hz
    obtain ⟨S2, h1, h2, h3⟩ := hR1.hold y x hy
    exact ⟨S2, h1, h2, h3 z hz⟩
  have rest : ∀ z, toT H1 depth v = some z → u = .t z → ∃ S' β', Ext w S H β w' S' (importV H u).2 β' ∧ Rel w' S' (importV H u).2 β' ∧ RV w' S' (importV H u).2 β' (importV H u).1 x := by
    intro z hz hu
    subst hu
    obtain ⟨S2, h1, h2, h3⟩ := data v x hv z hz
    obtain ⟨h4, h5⟩ := old S2 _ h1 h2
    exact ⟨S2, β, h4, h5, .t _ _ h3⟩
  cases v with
  | ref id n =>
    simp only [exportV] at hx
    cases hc : cur H1 id n with
    | none => simp [hc] at hx
    | some o =>
      simp only [hc] at hx
      split at hx
      · rename_i hfl
        cases hm : o.el.mapM (toT H1 depth) with
        | none => simp [hm] at hx
        | some xs =>
          simp [hm] at hx; subst hx
          obtain ⟨ho, rfl⟩ := cur_at hc
          cases hv with
          | ref _ _ _ hok =>
            obtain ⟨_, o', ho', _, hb⟩ := hok
            rw [ho] at ho'; cases ho'
            obtain ⟨hpo, b, cap, hβ, rfl, hcap⟩ := hb rfl
            have hraise := fold_raise depth o.el H1
            obtain ⟨S2, hE2, hR2⟩ := hR1.raise hraise
            obtain ⟨hE, hR'⟩ := old S2 _ hE2 hR2
            obtain ⟨o2, ho2, hel2, hz2, _⟩ := hraise.2 id o ho
            have hst2 : o2.st = o.st := by rw [ho2] at hfl; simpa using hfl
            obtain ⟨hlen, hel⟩ := mapM_some hm
            have hO := (hR2.obj id o2 b cap ho2 hβ).live (by rw [hz2]; exact hpo)
            have hsz : w.heap.size ≤ b := by
              rcases hE1.own id b cap hβ with ⟨i, c, h⟩ | h
              · simp at h
              · exact h
            have hg : Grow H β (H ++ [⟨xs.map .t, o.esz, o.st⟩]) (β ++ [(b, cap)]) := Grow.push hR.len _ _
            have hβn : ∀ (i b' c' : Nat), (β ++ [(b, cap)])[i]? = some (b', c') → (β[i]? = some (b', c') ∧ i < β.length) ∨ (i = β.length ∧ b' = b ∧ c' = cap) := by
              intro i b' c' h
              rcases Nat.lt_trichotomy i β.length with hlt | heq | hgt
              · rw [List.getElem?_append_left hlt] at h; exact .inl ⟨h, hlt⟩
              · subst heq; simp at h; exact .inr ⟨rfl, h.1.symm, h.2.symm⟩
              · rw [List.getElem?_eq_none (by simp; omega)] at h; cases h
            refine ⟨S2, β ++ [(b, cap)], ⟨hE.os, hE.output, hE.size, hE.keep, hE.stay, hE.new, hg, ?_⟩, ⟨by simp [importV, hR.len], ?_, hR2.lt, ?_, hR2.base⟩, ?_⟩
            · intro i b' c' h
              rcases hβn i b' c' h with ⟨h, _⟩ | ⟨_, rfl, _⟩
              · exact .inl ⟨i, c', h⟩
              · exact .inr hsz
            · intro i j b' c' c'' oi oj g1 g2 a1 a2 h1 h2
              rcases hβn i b' c' h1 with ⟨h3, l3⟩ | ⟨e1, hb1, _⟩ <;> rcases hβn j b' c'' h2 with ⟨h4, l4⟩ | ⟨e2, hb2, _⟩
              · have g1' : H[i]? = some oi := by rw [← g1]; exact (List.getElem?_append_left (by rw [← hR.len]; exact l3)).symm
                have g2' : H[j]? = some oj := by rw [← g2]; exact (List.getElem?_append_left (by rw [← hR.len]; exact l4)).symm
                exact hR.inj i j b' c' c'' oi oj g1' g2' a1 a2 h3 h4
              · have := hR.block h3; omega
              · have := hR.block h4; omega
              · rw [e1, e2]
            · intro i oi b' c' hoi hbi
              rcases hβn i b' c' hbi with ⟨h3, hlt⟩ | ⟨rfl, rfl, rfl⟩
              · have hoi' : H[i]? = some oi := by
                  rw [← hoi]; exact (List.getElem?_append_left (by rw [← hR.len]; exact hlt)).symm
                exact (hR'.obj i oi b' c' hoi' h3).mono (Stay.refl _ _) hg rfl (fun _ => Iff.rfl)
              · have hoi' : oi = ⟨xs.map .t, o.esz, o.st⟩ := by
                  have : (H ++ [(⟨xs.map .t, o.esz, o.st⟩ : Obj)])[β.length]? = some ⟨xs.map .t, o.esz, o.st⟩ := by rw [hR.len]; simp
                  have h := hoi
                  rw [show (importV H (V.fr o.esz o.st xs)).2 = H ++ [(⟨xs.map .t, o.esz, o.st⟩ : Obj)] from rfl, this] at h
                  exact (Option.some.inj h).symm
                subst hoi'
                obtain ⟨cs, Ty, hcs, hcsz, hcells⟩ := hO.row
                refine ⟨⟨_, hcs, rfl⟩, fun _ => ?_, fun h0 => absurd hpo (by simp only at h0; omega)⟩
                refine ⟨by rw [← hz2]; exact hO.pos, by simp; omega, fun j => ?_, cs, Ty, hcs, by rw [← hz2]; exact hcsz, fun k hk => ?_⟩
                · have := hO.st j
                  rw [hst2, hel2, hz2] at this
                  simpa [← hlen] using this
                · have hk1 : k < xs.length := by simpa using hk
                  have hk2 : k < o2.el.length := by rw [hel2]; omega
                  have hk3 : k < o.el.length := by omega
                  obtain ⟨h5, h6⟩ := hcells k hk2
                  have e2 : o2.el[k] = o.el[k] := by simp only [hel2]
                  simp only [e2] at h5 h6
                  obtain ⟨h7, h8⟩ := toT_cells hR2 depth o.el[k] xs[k] (toT_raise hraise depth _ _ (hel k hk3 hk1)) (fold_all depth o.el H1 _ (List.getElem_mem hk3))
                  simp only [List.getElem_map, Tcells, List.length_map]
                  refine ⟨by rw [h7, h5, hz2], fun j hj => ?_⟩
                  obtain ⟨q, h9, h10⟩ := h6 j (by rw [← h7]; exact hj)
                  rw [hz2] at h9
                  exact ⟨q, h9, .t _ _ (h8 j hj (by rw [← h7]; exact hj) q h10)⟩
            · refine .ref _ _ _ ⟨⟨_, _, by rw [hlen]⟩, ⟨xs.map .t, o.esz, o.st⟩, by simp [importV], by simp, fun _ => ⟨hpo, b, cap, ?_, by rw [hlen], by omega⟩⟩
              rw [← hR.len]; simp
      · cases hx
  | ex xs =>
    simp only [exportV, Option.some.injEq] at hx; subst hx
    obtain ⟨h4, h5⟩ := old S1 H1 (Ext.refl _ _ _ _) hR1
    cases hv with
    | ex _ A n h => exact ⟨S1, β, h4, h5, .ex _ _ _ h⟩
  | tup vs =>
    simp only [exportV] at hx
    cases hm : vs.mapM (exp1 H1) with
    | none => simp [hm] at hx
    | some us =>
      simp [hm] at hx; subst hx
      obtain ⟨hlen, hel⟩ := mapM_some hm
      have hraise := fold_raise depth vs H1
      obtain ⟨S2, hE2, hR2⟩ := hR1.raise hraise
      obtain ⟨hE, hR'⟩ := old S2 _ hE2 hR2
      cases hv with
      | tup _ xs hl h =>
        refine ⟨S2, β, hE, hR', .tup _ _ (by omega) fun i hi hu => ?_⟩
        have hi' : i < vs.length := by omega
        have h1 := hel i hi' hi
        have h2 := (h i hi' hu).mono hE2.stay hE2.grow
        have h3 := fold_all depth vs H1 _ (List.getElem_mem hi')
        generalize vs[i] = y at h1 h2 h3
        generalize us[i] = z at h1
        show RV w' S2 H β z xs[i]
        generalize xs[i] = q at h2
        have dat : ∀ t, toT H1 depth y = some t → z = .t t → RV w' S2 H β z q := by
          intro t ht hz
          subst hz
          exact .t _ _ (toT_rt hR2 depth y t _ (toT_raise hraise depth y t ht) h3 h2)
        cases y with
        | ex l =>
          simp only [exp1, Option.some.injEq] at h1; subst h1
          cases h2 with
          | ex _ A n h => exact .ex _ _ _ h
        | _ =>
          simp only [exp1, Option.map_eq_some_iff] at h1
          obtain ⟨t, ht, hz⟩ := h1
          exact dat t ht hz.symm
  | _ =>
    simp only [exportV, Option.map_eq_some_iff] at hx
    obtain ⟨z, hz, hu⟩ := hx
    exact rest z hz hu.symm

theorem import_data {w w' : World} {S S1 : Cells} {H H1 : Heap} {β β1 : Bl} (hR : Rel w S H β) (hE1 : Ext w S [] [] w' S1 H1 β1) (hR1 : Rel w' S1 H1 β1) {v u : V} {x : Value} (hv : RV w' S1 H1 β1 v x) (hx : exportD H1 v = some u) :
    ∃ S' β', Ext w S H β w' S' (importV H u).2 β' ∧ Rel w' S' (importV H u).2 β' ∧ RV w' S' (importV H u).2 β' (importV H u).1 x := by
  have old : ∀ (S2 : Cells) (H2 : Heap), Ext w' S1 H1 β1 w' S2 H2 β1 → Rel w' S2 H2 β1 → Ext w S H β w' S2 H β ∧ Rel w' S2 H β := by
    intro S2 H2 hE2 hR2
    have hE := hE1.trans hE2
    refine ⟨⟨hE.os, hE.output, hE.size, fun b hb _ => hE.keep b hb (by simp), hE.stay, fun b j h => ?_, Grow.refl _ _, fun id _ c h => .inl ⟨id, c, h⟩⟩, ⟨hR.len, hR.inj, hR2.lt, ?_, hR2.base⟩⟩
    · rcases hE.new b j h with h | h | ⟨id, c, h⟩
      · exact .inl h
      · exact .inr (.inl h)
      · simp at h
    · intro id o b cap ho hb
      have hlt := hR.block hb
      refine (hR.obj id o b cap ho hb).mono hE.stay (Grow.refl _ _) (hE.keep b hlt (by simp)) (fun j => ⟨fun h => ?_, fun h => (hE.stay b j h).1⟩)
      rcases hE.new b j h with h | h | ⟨id, c, h⟩
      · exact h
      · omega
      · simp at h
  have rest : ∀ z, toT H1 depth v = some z → u = .t z → ∃ S' β', Ext w S H β w' S' (importV H u).2 β' ∧ Rel w' S' (importV H u).2 β' ∧ RV w' S' (importV H u).2 β' (importV H u).1 x := by
    intro z hz hu
    subst hu
    obtain ⟨S2, h1, h2, h3⟩ := hR1.hold v x hv
    obtain ⟨h4, h5⟩ := old S2 _ h1 h2
    exact ⟨S2, β, h4, h5, .t _ _ (h3 z hz)⟩
  cases v with
  | tup vs =>
    simp only [exportD, Option.map_eq_some_iff] at hx
    obtain ⟨ts, hm, rfl⟩ := hx
    obtain ⟨hlen, hel⟩ := mapM_some hm
    have hraise := fold_raise depth vs H1
    obtain ⟨S2, hE2, hR2⟩ := hR1.raise hraise
    obtain ⟨hE, hR'⟩ := old S2 _ hE2 hR2
    cases hv with
    | tup _ xs hl h =>
      refine ⟨S2, β, hE, hR', .tup _ _ (by simp; omega) fun i hi hu => ?_⟩
      have hi' : i < vs.length := by simp at hi; omega
      have hi2 : i < ts.length := by simpa using hi
      rw [List.getElem_map]
      exact .t _ _ (toT_rt hR2 depth vs[i] ts[i] _ (toT_raise hraise depth _ _ (hel i hi' hi2)) (fold_all depth vs H1 _ (List.getElem_mem hi')) ((h i hi' hu).mono hE2.stay hE2.grow))
  | _ =>
    simp only [exportD, Option.map_eq_some_iff] at hx
    obtain ⟨z, hz, hu⟩ := hx
    exact rest z hz hu.symm

theorem import_any {w w' : World} {S S1 : Cells} {H H1 : Heap} {β β1 : Bl} (hR : Rel w S H β) (hE1 : Ext w S [] [] w' S1 H1 β1) (hR1 : Rel w' S1 H1 β1) {v u : V} {x : Value} (hv : RV w' S1 H1 β1 v x) {b : Bool} (hx : exportB b H1 v = some u) :
    ∃ S' β', Ext w S H β w' S' (importV H u).2 β' ∧ Rel w' S' (importV H u).2 β' ∧ RV w' S' (importV H u).2 β' (importV H u).1 x := by
  cases b with
  | true => exact import_rel hR hE1 hR1 hv hx
  | false => exact import_data hR hE1 hR1 hv hx

theorem heap_ok {P : Program} {call : CallFn} (hC : CallOk P call) {f : FuncId} {args : List V} {H : Heap} {r : Res} (h : heapRun call f args H = some r) :
    (∃ fn, P.funcs[f]? = some fn ∧ fn.body.isSome = true ∧ (fn.name == "runtime.NumGoroutine") = false) ∧
    ∀ (w : World) (S : Cells) (β : Bl) (us : List Value), Rel w S H β → args.length = us.length → (∀ i (hi : i < args.length) (hu : i < us.length), RV w S H β args[i] us[i]) →
      Calls P f us.toArray w (Back w S H β r.v r.H) := by
  unfold heapRun at h
  split at h
  · rename_i v H1 hcall
    split at h
    · cases h
    · rename_i hd
      simp only [Option.some.injEq] at h; subst h
      exact hC f args H v H1 hcall (by simpa using hd)
  · cases h

theorem call_ok {P : Program} {call : CallFn} (hC : CallOk P call) {f : FuncId} {args : List V} {H : Heap} {r : Res} (h : callRun P call f args H = some r) :
    (∃ fn, P.funcs[f]? = some fn ∧ fn.body.isSome = true ∧ (fn.name == "runtime.NumGoroutine") = false) ∧
    ∀ (w : World) (S : Cells) (β : Bl) (us : List Value), Rel w S H β → args.length = us.length → (∀ i (hi : i < args.length) (hu : i < us.length), RV w S H β args[i] us[i]) →
      Calls P f us.toArray w (Back w S H β r.v r.H) := by
  unfold callRun at h
  split at h
  · rename_i ts hts
    split at h
    · rename_i v H1 hcall
      split at h
      · exact heap_ok hC h
      rename_i hdead
      split at h
      · rename_i u hex
        simp only [Option.some.injEq] at h; subst h
        obtain ⟨hfn, hcalls⟩ := hC f _ _ v H1 hcall (by cases v <;> first | rfl | exact absurd rfl hdead)
        refine ⟨hfn, fun w S β us hR hl hv => ?_⟩
        obtain ⟨hlen, hel⟩ := mapM_some hts
        have hraise := fold_raise depth args H
        obtain ⟨S1, hE1, hR1⟩ := hR.raise hraise
        have hrt : ∀ i (hi : i < (ts.map V.t).length) (hu : i < us.length), RV w S1 [] [] (ts.map V.t)[i] us[i] := by
          intro i hi hu
          have hi1 : i < ts.length := by simpa using hi
          have hi2 : i < args.length := by omega
          rw [List.getElem_map]
          exact .t _ _ (toT_rt hR1 depth args[i] ts[i] us[i] (toT_raise hraise depth _ _ (hel i hi2 hi1)) (fold_all depth args H _ (List.getElem_mem hi2)) ((hv i hi2 hu).mono hE1.stay hE1.grow))
        refine (hcalls w S1 [] us (Rel.none hR1.base hR1.lt) (by simp; omega) hrt).mono ?_
        rintro x w' ⟨uv, S2, β2, rfl, hE2, hR2, hv2⟩
        by_cases hn : noSl u = true
        · -- nothing but numbers comes back
          simp only [hn, if_true]
          have hiu : importV H u = (u, H) := by cases u <;> first | rfl | (simp [noSl] at hn)
          rw [hiu]
          obtain ⟨S3, β3, h1, h2, h3⟩ := import_any hR1 hE2 hR2 hv2 hex
          have hiu2 : ∀ H, importV H u = (u, H) := by intro H; cases u <;> first | rfl | (simp [noSl] at hn)
          rw [hiu2] at h1 h2 h3
          refine ⟨uv, S, β, rfl, ⟨hE2.os, hE2.output, hE2.size, fun b hb _ => hE2.keep b hb (by simp), fun b j hS => ⟨hS, cell_same (hE2.keep b (hR.lt b j hS) (by simp)) j⟩, fun _ _ h => .inl h, Grow.refl _ _, fun id _ c h => .inl ⟨id, c, h⟩⟩,
            ⟨hR.len, hR.inj, fun b j hS => Nat.lt_of_lt_of_le (hR.lt b j hS) hE2.size, fun id o b cap ho hb => ?_, hR.base.trans fun b j hS => ⟨hS, cell_same (hE2.keep b (hR.lt b j hS) (by simp)) j⟩⟩, noSl_rt hn h3⟩
          have hlt := hR.block hb
          exact (hR.obj id o b cap ho hb).mono (fun b j hS => ⟨hS, cell_same (hE2.keep b (hR.lt b j hS) (by simp)) j⟩) (Grow.refl _ _) (hE2.keep b hlt (by simp)) (fun _ => Iff.rfl)
        · simp only [hn, if_false]
          obtain ⟨S3, β3, h1, h2, h3⟩ := import_any hR1 hE2 hR2 hv2 hex
          exact ⟨uv, S3, β3, rfl, hE1.trans h1, h2, h3⟩
      · cases h
    · cases h
  · exact heap_ok hC h
end Go.Sim

namespace Go.Sim
variable [Base]

def Marks (n0 : Nat) (w : World) (ds : List Deferred) : Prop := n0 ≤ w.heap.size ∧ ds.Pairwise (· ≠ ·) ∧ ∀ d ∈ ds, ∃ D : Nat, d = ⟨.collected D, #[]⟩ ∧ n0 ≤ D ∧ w.heap[D]? = some (Go.Obj.deferred (some []))
theorem Marks.mono {n0 : Nat} {w w' : World} {ds : List Deferred} (h : Marks n0 w ds) (hs : w.heap.size ≤ w'.heap.size) (hm : ∀ D : Nat, w.heap[D]? = some (Go.Obj.deferred (some [])) → w'.heap[D]? = some (Go.Obj.deferred (some []))) : Marks n0 w' ds :=
  ⟨Nat.le_trans h.1 hs, h.2.1, fun d hd => by
    obtain ⟨D, h1, h2, h3⟩ := h.2.2 d hd
    exact ⟨D, h1, h2, hm D h3⟩⟩
theorem Rel.other {w : World} {S : Cells} {H : Heap} {β : Bl} (h : Rel w S H β) {b : Nat} {o : Go.Obj} (hb : w.heap[b]? = some o) (hc : told o = false) : ∀ (id c : Nat), β[id]? ≠ some (b, c) := by
  intro id c e
  have hl : id < β.length := by
    rcases Nat.lt_or_ge id β.length with h' | h'
    · exact h'
    · rw [List.getElem?_eq_none h'] at e; cases e
  have : id < H.length := by rw [← h.len]; exact hl
  obtain ⟨g, h1, h2⟩ := (h.obj id H[id] b c (List.getElem?_eq_getElem this) e).blk
  rw [hb] at h1; cases h1; rw [hc] at h2; cases h2
theorem Ext.other {w w' : World} {S S' : Cells} {H H' : Heap} {β β' : Bl} (h : Ext w S H β w' S' H' β') (hR : Rel w S H β) {b : Nat} {o : Go.Obj} (hb : w.heap[b]? = some o) (hc : told o = false) : w'.heap[b]? = some o :=
  (h.keep b (heap_lt hb) (hR.other hb hc)).trans hb
theorem Ext.marks {w w' : World} {S S' : Cells} {H H' : Heap} {β β' : Bl} (h : Ext w S H β w' S' H' β') (hR : Rel w S H β) : w.heap.size ≤ w'.heap.size ∧ ∀ D : Nat, w.heap[D]? = some (Go.Obj.deferred (some [])) → w'.heap[D]? = some (Go.Obj.deferred (some [])) :=
  ⟨h.size, fun D hD => h.other hR hD rfl⟩
def AgreeA (N n0 : Nat) (w : World) (S : Cells) (H : Heap) (β : Bl) (e : Env) (a : Act) : Prop := Marks n0 w a.defers ∧ N ≤ a.tmps.size ∧ Agree w S H β e a.eval

theorem AgreeA.mono {N n0 : Nat} {w w' : World} {S S' : Cells} {H H' : Heap} {β β' : Bl} {e : Env} {a : Act} (h : AgreeA N n0 w S H β e a) (hm : w.heap.size ≤ w'.heap.size ∧ ∀ D : Nat, w.heap[D]? = some (Go.Obj.deferred (some [])) → w'.heap[D]? = some (Go.Obj.deferred (some []))) (hs : Stay w S w' S') (hg : Grow H β H' β') : AgreeA N n0 w' S' H' β' e a :=
  ⟨h.1.mono hm.1 hm.2, h.2.1, h.2.2.mono hs hg⟩

theorem AgreeA.put {N n0 : Nat} {w : World} {S : Cells} {H : Heap} {β : Bl} {e : Env} {a : Act} (h : AgreeA N n0 w S H β e a) {d : Option Tmp} (hd : ∀ t, d = some t → t < N) {v : V} {u : Value} (hv : RV w S H β v u) :
    AgreeA N n0 w S H β (putO e d v) (a.put d u) := by
  cases d with
  | none => exact h
  | some t =>
    have ht := hd t rfl
    refine ⟨h.1, by simpa [Act.put] using h.2.1, fun x y hx => ?_⟩
    cases x with
    | tmp s =>
      simp only [ev, putO, Go.Sim.put, Option.some.injEq] at hx
      by_cases e : s = t
      · subst e
        simp only [if_true] at hx; subst hx
        have : s < a.tmps.size := Nat.lt_of_lt_of_le ht h.2.1
        simpa [Act.put, Act.eval, this] using hv
      · rw [if_neg e] at hx; subst hx
        have := h.2.2 (.tmp s) _ rfl
        simpa [Act.put, Act.eval, Array.getElem?_setIfInBounds_ne (fun h => e h.symm)] using this
    | const c => exact h.2.2 (.const c) y hx
    | func f => exact h.2.2 (.func f) y hx
    | global g => simp [ev] at hx

theorem yield_ok {N n0 : Nat} {w : World} {S : Cells} {H : Heap} {β : Bl} {e : Env} {a : Act} (h : AgreeA N n0 w S H β e a) {ops : Array Oper} {j : Nat} {y : Option Bool} (hy : yieldV ops e j = some y) : yielded ops a.tmps j = y := by
  unfold yieldV at hy
  unfold yielded
  cases hd : (ops[j]?).bind (·.dst) with
  | none => simp [hd] at hy
  | some t =>
    simp only [hd] at hy
    have ht := h.2.2 (.tmp t) (e t) rfl
    simp only [Act.eval] at ht
    simp only [Option.bind_some]
    split at hy
    · rename_i b hb
      cases hy
      rw [hb] at ht
      have := rv_bool ht
      cases hg : a.tmps[t]? with
      | none => simp only [Array.getD_eq_getD_getElem?, hg, Option.getD_none] at this; cases this
      | some q => simp [Array.getD_eq_getD_getElem?, hg] at this; subst this; rfl
    · rename_i hb
      cases hy
      rw [hb] at ht
      cases hg : a.tmps[t]? with
      | none => rfl
      | some q =>
        simp only [Array.getD_eq_getD_getElem?, hg, Option.getD_some] at ht
        cases ht
        rfl
    · cases hy

theorem wanted_ok {N n0 : Nat} {w : World} {S : Cells} {H : Heap} {β : Bl} {e : Env} {a : Act} (h : AgreeA N n0 w S H β e a) {ops : Array Oper} {o : Oper} {b : Bool} (hy : wantedV ops e o = some b) : Region.wanted o (yielded ops a.tmps) = b := by
  unfold wantedV at hy
  unfold Region.wanted
  cases hg : o.guard with
  | none => simp [hg] at hy; simp [hy]
  | some p =>
    obtain ⟨j, want⟩ := p
    simp only [hg] at hy ⊢
    cases hj : yieldV ops e j with
    | none => simp [hj] at hy
    | some y =>
      simp [hj] at hy
      rw [yield_ok h hj]; exact hy


theorem range_lists (ops : Array Oper) : (List.range ops.size).filterMap (fun i => ops[i]?) = ops.toList := by
  have : ∀ l : List Oper, (List.range l.length).filterMap (fun i => l[i]?) = l := by
    intro l
    induction l with
    | nil => rfl
    | cons x l ih =>
      rw [List.length_cons, List.range_succ_eq_map, List.filterMap_cons]
      simp only [List.getElem?_cons_zero, List.filterMap_map]
      congr 1
  have h := this ops.toList
  simpa using h

theorem op_step {P : Program} {call : CallFn} (hC : CallOk P call) {N n0 : Nat} {ops : Array Oper} {Q : Exit → Act → World → Prop} {i : Nat} {o : Oper} (hi : ops[i]? = some o) (hNo : ∀ t, o.dst = some t → t < N) {L : List Oper} {e : Env} {H : Heap} {lg : Log} {e' : Env} {H' : Heap} {lg' : Log}
    (h : opsRun P call ops (o :: L) e H lg = some (e', H', lg')) {w : World} {S : Cells} {β : Bl} {a : Act} (hR : Rel w S H β) (hA : AgreeA N n0 w S H β e a) {K : Act → World → Prop}
    (hK : ∀ u w1 S1 β1 e1 H1 lg1, opsRun P call ops L e1 H1 lg1 = some (e', H', lg') → Ext w S H β w1 S1 H1 β1 → Rel w1 S1 H1 β1 → AgreeA N n0 w1 S1 H1 β1 e1 (a.put o.dst u) → K (a.put o.dst u) w1) : wpOp P ops Q i K a w := by
  unfold Go.wpOp
  simp only [opsRun] at h
  simp only [hi]
  split at h
  · rename_i hw
    rw [wanted_ok hA hw, if_pos rfl]
    left
    split at h
    · rename_i v H1 f0 hrun
      have next : ∀ (u : Value) (w1 : World) (S1 : Cells) (β1 : Bl), Ext w S H β w1 S1 H1 β1 → Rel w1 S1 H1 β1 → RV w1 S1 H1 β1 v u → K (a.put o.dst u) w1 := by
        intro u w1 S1 β1 hE1 hR1 hv1
        exact hK u w1 S1 β1 _ H1 _ h hE1 hR1 ((hA.mono (hE1.marks hR) hE1.stay hE1.grow).put hNo hv1)
      have plain : opRun P o.op e H = some ⟨v, H1, f0⟩ → o.wp P a w (K) Q := by
        intro hop
        obtain ⟨u, w1, S1, β1, hx, hE1, hR1, hv1⟩ := d_op (ρ := a.eval) (dst := o.dst) (ty := o.type) (pos := o.pos) (af := o.after) (g := o.guard) hR hA.2.2 hop
        unfold Oper.wp
        rcases hx with hx | ⟨hx, rfl⟩
        · have hx' : (execOp a.eval o).run P w = .ok (.value u) w1 := hx
          rw [hx', Oper.upon_value]
          exact next u w1 S1 β1 hE1 hR1 hv1
        · have hx' : (execOp a.eval o).run P w = .ok .skip w1 := hx
          rw [hx', Oper.upon_skip]
          exact next undef w1 S1 β1 hE1 hR1 hv1
      have core : ∀ {fid : FuncId} {vs' : List V} {us' : List Value}, callRun P call fid vs' H = some ⟨v, H1, f0⟩ → vs'.length = us'.length → (∀ i (hi : i < vs'.length) (hu : i < us'.length), RV w S H β vs'[i] us'[i]) →
          (execOp a.eval o).run P w = .ok (.enter fid us'.toArray) w → o.wp P a w (K) Q := by
        intro fid vs' us' hcall hl hrv hrun2
        obtain ⟨_, hcalls⟩ := call_ok hC hcall
        unfold Oper.wp
        rw [hrun2, Oper.upon_enter]
        refine (hcalls w S β _ hR hl hrv).mono ?_
        rintro x w1 ⟨u, S1, β1, rfl, hE1, hR1, hv1⟩
        exact next u w1 S1 β1 hE1 hR1 hv1
      have enter : ∀ (f : Operand) (args : Array Operand) (ts : Array TypeId) (fid : FuncId) (fst cap : List V) (vs : List V) (us1 us2 : List Value),
          o.op = .call { callee := .value f, args := args, argTypes := ts } → evs e args.toList = some vs → a.eval f = .func (.func fid) us1.toArray us2.toArray → fst.length = us1.length → cap.length = us2.length →
          (∀ i (hi : i < fst.length) (hu : i < us1.length), RV w S H β fst[i] us1[i]) → (∀ i (hi : i < cap.length) (hu : i < us2.length), RV w S H β cap[i] us2[i]) →
          callRun P call fid (fst ++ vs ++ cap) H = some ⟨v, H1, f0⟩ → o.wp P a w (K) Q := by
        intro f args ts fid fst cap vs us1 us2 hop hvs hf hl1 hl2 h1 h2 hcall
        obtain ⟨⟨fn, hfn, hbody, hname⟩, hcalls⟩ := call_ok hC hcall
        obtain ⟨hvl, hvr⟩ := evs_rv hA.2.2 hvs
        have hrv : ∀ i (hi : i < (fst ++ vs ++ cap).length) (hu : i < (us1 ++ args.toList.map a.eval ++ us2).length), RV w S H β (fst ++ vs ++ cap)[i] (us1 ++ args.toList.map a.eval ++ us2)[i] := by
          intro i hi hu
          rcases Nat.lt_or_ge i fst.length with h3 | h3
          · have e1 : (fst ++ vs ++ cap)[i] = fst[i] := by
              simp only [List.append_assoc]
              rw [List.getElem_append_left h3]
            have e2 : (us1 ++ args.toList.map a.eval ++ us2)[i] = us1[i]'(by omega) := by
              simp only [List.append_assoc]
              rw [List.getElem_append_left (by omega)]
            rw [e1, e2]; exact h1 i h3 (by omega)
          · rcases Nat.lt_or_ge (i - fst.length) vs.length with h4 | h4
            · have e1 : (fst ++ vs ++ cap)[i] = vs[i - fst.length] := by
                simp only [List.append_assoc]
                rw [List.getElem_append_right h3, List.getElem_append_left h4]
              have h5 : i - us1.length < (args.toList.map a.eval).length := by simp at hvl ⊢; omega
              have e2 : (us1 ++ args.toList.map a.eval ++ us2)[i] = (args.toList.map a.eval)[i - us1.length] := by
                simp only [List.append_assoc]
                rw [List.getElem_append_right (by omega), List.getElem_append_left h5]
              rw [e1, e2]
              have := hvr (i - fst.length) h4 (by rw [hl1]; exact h5)
              simpa only [hl1] using this
            · have h6 : i - fst.length - vs.length < cap.length := by simp at hi; omega
              have e1 : (fst ++ vs ++ cap)[i] = cap[i - fst.length - vs.length] := by
                simp only [List.append_assoc]
                rw [List.getElem_append_right h3, List.getElem_append_right h4]
              have hvl' : (args.toList.map a.eval).length = vs.length := by simp at hvl ⊢; omega
              have e2 : (us1 ++ args.toList.map a.eval ++ us2)[i] = us2[i - us1.length - (args.toList.map a.eval).length]'(by omega) := by
                simp only [List.append_assoc]
                rw [List.getElem_append_right (by omega), List.getElem_append_right (by omega)]
              rw [e1, e2]
              have := h2 (i - fst.length - vs.length) h6 (by omega)
              simpa only [hl1, hvl'] using this
        have hrun2 : (execOp a.eval o).run P w = .ok (.enter fid (us1 ++ args.toList.map a.eval ++ us2).toArray) w := by
          have e3 : (us1 ++ args.toList.map a.eval ++ us2).toArray = us1.toArray ++ args.map a.eval ++ us2.toArray := by
            apply Array.ext'; simp
          unfold execOp
          rw [hop]
          simp only [resolve, hf, Deferred.ofValue, Sem.run_bind, Sem.run_pure, Result.andThen_ok, invoke]
          rw [e3]
          unfold callFunc
          have hn : fn.name ≠ "runtime.NumGoroutine" := by simpa using hname
          obtain ⟨c, hc⟩ := Option.isSome_iff_exists.1 hbody
          simp [hfn, hn, hc]
        exact core hcall (by simp at hvl ⊢; omega) hrv hrun2
      unfold opRunC at hrun
      split at hrun
      · rename_i f args ts hop
        split at hrun
        · rename_i fid vs hf hvs
          have hfv := rv_t (hA.2.2 f _ hf)
          have : a.eval f = .func (.func fid) #[] #[] := by
            generalize a.eval f = q at hfv
            cases hfv; rfl
          exact enter f args ts fid [] [] vs [] [] hop hvs this rfl rfl (fun i hi => by simp at hi) (fun i hi => by simp at hi) (by simpa using hrun)
        · rename_i fid fst cap vs hf hvs
          have hfv := hA.2.2 f _ hf
          generalize hq : a.eval f = q at hfv
          cases hfv with
          | fn _ _ _ us1 us2 hl1 hl2 h1 h2 =>
            exact enter f args ts fid fst cap vs us1 us2 hop hvs hq hl1 hl2 h1 h2 hrun
        · cases hrun
      · rename_i x name args ts hop
        split at hrun
        · rename_i rv vs hx hvs
          simp only [Option.bind_eq_some_iff] at hrun
          obtain ⟨⟨fid, y⟩, hrc, hheap⟩ := hrun
          obtain ⟨t, qv, uy, hq, hmeth, hyv⟩ := recv_run hR (hA.2.2 x _ hx) hrc
          obtain ⟨hvl, hvr⟩ := evs_rv hA.2.2 hvs
          obtain ⟨⟨fn, hfn, hbody, hname⟩, hcalls⟩ := heap_ok hC hheap
          have hrun2 : (execOp a.eval o).run P w = .ok (.enter fid (uy :: args.toList.map a.eval).toArray) w := by
            have e3 : (uy :: args.toList.map a.eval).toArray = #[uy] ++ args.map a.eval := by
              apply Array.ext'; simp
            have e4 : (#[a.eval x] ++ args.map a.eval).extract 1 (#[a.eval x] ++ args.map a.eval).size = args.map a.eval := by
              apply Array.ext'
              rw [Array.toList_extract]
              simp [List.extract]
              exact List.take_of_length_le (by simp)
            have e5 : (#[a.eval x] ++ args.map a.eval)[0]? = some (a.eval x) := by
              rw [Array.getElem?_append_left (by simp)]; rfl
            have hn : fn.name ≠ "runtime.NumGoroutine" := by simpa using hname
            obtain ⟨c, hc⟩ := Option.isSome_iff_exists.1 hbody
            unfold execOp
            rw [hop]
            rw [hq] at e4 e5
            simp only [resolve, Sem.run_bind, Sem.run_pure, Result.andThen_ok, invoke, hq, e5, e4, callMethod]
            rw [e3]
            have hp : (program : Sem Program).run P w = .ok P w := by simp
            simp only [Sem.run_bind, hp, Result.andThen_ok, hmeth]
            unfold callFunc
            simp [hfn, hn, hc]
          unfold Oper.wp
          rw [hrun2, Oper.upon_enter]
          refine (hcalls w S β _ hR (by simp at hvl ⊢; omega) ?_).mono ?_
          · intro i hi hu
            cases i with
            | zero => exact hyv
            | succ i => exact hvr i (by simpa using hi) (by simpa using hu)
          · rintro x w1 ⟨u, S1, β1, rfl, hE1, hR1, hv1⟩
            exact next u w1 S1 β1 hE1 hR1 hv1
        · cases hrun
      · exact plain hrun
    · cases h
  · rename_i hw
    rw [wanted_ok hA hw, if_neg (by simp)]
    exact hK undef w S β _ H lg h (Ext.refl _ _ _ _) hR (hA.put hNo .dead)
  · cases h

theorem ops_ok {P : Program} {call : CallFn} (hC : CallOk P call) {N n0 : Nat} {ops : Array Oper} {Q : Exit → Act → World → Prop} : ∀ (idxs : List Nat) (e : Env) (H : Heap) (lg : Log) (e' : Env) (H' : Heap) (lg' : Log),
    opsRun P call ops (idxs.filterMap (fun i => ops[i]?)) e H lg = some (e', H', lg') → (∀ o ∈ ops.toList, ∀ d, o.dst = some d → d < N) →
    ∀ (w : World) (S : Cells) (β : Bl) (a : Act), Rel w S H β → AgreeA N n0 w S H β e a →
    (∀ a' w' S' β', Ext w S H β w' S' H' β' → Rel w' S' H' β' → AgreeA N n0 w' S' H' β' e' a' → Q .normal a' w') → wpOps P ops Q idxs a w := by
  intro idxs
  induction idxs with
  | nil =>
    intro e H lg e' H' lg' h _ w S β a hR hA hQ
    simp [opsRun] at h
    obtain ⟨rfl, rfl, rfl⟩ := h
    exact hQ a w S β (Ext.refl _ _ _ _) hR hA
  | cons i idxs ih =>
    intro e H lg e' H' lg' h hN w S β a hR hA hQ
    rw [wpOps_cons]
    cases hi : ops[i]? with
    | none =>
      simp only [List.filterMap_cons, hi] at h
      unfold Go.wpOp
      simp only [hi]
      exact ih e H lg e' H' lg' h hN w S β a hR hA hQ
    | some o =>
      simp only [List.filterMap_cons, hi] at h
      refine op_step hC hi (fun t ht => hN o (Array.mem_toList_iff.2 (Array.mem_of_getElem? hi)) t ht) h hR hA ?_
      intro u w1 S1 β1 e1 H1 lg1 h1 hE1 hR1 hA1
      exact ih e1 H1 lg1 e' H' lg' h1 hN w1 S1 β1 _ hR1 hA1 fun a' w' S' β' hE hR' hA' => hQ a' w' S' β' (hE1.trans hE) hR' hA'


def Good (N : Nat) (e : Env) (H : Heap) : Prop := ∃ n0 w S β a, Rel w S H β ∧ AgreeA N n0 w S H β e a
end Go.Sim

namespace Go.Sim
variable [Base]

structure Pend (w : World) (S : Cells) (β : Bl) (b : Nat) (cs : Array Value) (T : TypeId) : Prop where
  heap : w.heap[b]? = some (.cells cs T (0, 0))
  own : ∀ (id c : Nat), β[id]? ≠ some (b, c)
  st : ∀ j, ¬ S b j
theorem Pend.mono {w w' : World} {S S' : Cells} {H H' : Heap} {β β' : Bl} {b : Nat} {cs : Array Value} {T : TypeId} (h : Pend w S β b cs T) (hE : Ext w S H β w' S' H' β') : Pend w' S' β' b cs T := by
  have hlt := heap_lt h.heap
  refine ⟨(hE.keep b hlt h.own).trans h.heap, fun id c e => ?_, fun j hs => ?_⟩
  · rcases hE.own id b c e with ⟨id', c', e'⟩ | hge
    · exact h.own id' c' e'
    · omega
  · rcases hE.new b j hs with h1 | h1 | ⟨id, c, h1⟩
    · exact h.st j h1
    · omega
    · exact h.own id c h1
theorem Rel.extra {w : World} {S : Cells} {H : Heap} {β : Bl} (h : Rel w S H β) (cs : Array Value) (T : TypeId) :
    Ext w S H β (w.alloc (.cells cs T)) S H β ∧ Rel (w.alloc (.cells cs T)) S H β ∧ Pend (w.alloc (.cells cs T)) S β w.heap.size cs T := by
  have hs := Stay.alloc h.lt (.cells cs T)
  refine ⟨⟨rfl, rfl, by rw [alloc_size]; omega, fun b hb _ => alloc_old _ _ _ hb, hs, fun _ _ h => .inl h, Grow.refl _ _, fun id _ c e => .inl ⟨id, c, e⟩⟩, ⟨h.len, h.inj, ?_, ?_, h.base.trans hs⟩, alloc_new _ _, fun id c e => ?_, fun j hj => ?_⟩
  · intro b j hS; have := h.lt b j hS; rw [alloc_size]; omega
  · intro id o b c ho e
    have hb := h.block e
    exact (h.obj id o b c ho e).mono hs (Grow.refl _ _) (alloc_old _ _ _ hb) (fun j => Iff.rfl)
  · have := h.block e; omega
  · have := h.lt _ _ hj; omega
theorem Rel.adopt {w : World} {S : Cells} {H : Heap} {β : Bl} (h : Rel w S H β) {b : Nat} {cs : Array Value} {T : TypeId} (hp : Pend w S β b cs T) {v : V} (hst : v.storable = true) (hcs : cs.size = v.cells.length)
    (hv : ∀ j (hj : j < v.cells.length), ∃ u, cs[j]? = some u ∧ RV w S H β v.cells[j] u) :
    (∀ (w0 : World) (S0 : Cells) (H0 : Heap) (β0 : Bl), Ext w0 S0 H0 β0 w S H β → w0.heap.size ≤ b → Ext w0 S0 H0 β0 w S (H ++ [⟨[v], v.cells.length, false⟩]) (β ++ [(b, 1)])) ∧ Grow H β (H ++ [⟨[v], v.cells.length, false⟩]) (β ++ [(b, 1)]) ∧ Rel w S (H ++ [⟨[v], v.cells.length, false⟩]) (β ++ [(b, 1)]) ∧ RV w S (H ++ [⟨[v], v.cells.length, false⟩]) (β ++ [(b, 1)]) (.ptr H.length 1 0 0) (.pointer (some ⟨b, 0, Option.none⟩)) := by
  have hg := Grow.push h.len ⟨[v], v.cells.length, false⟩ (b, 1)
  have hpos : 0 < v.cells.length := by
    cases hcs : v.cells with
    | nil => simp [V.storable, hcs] at hst
    | cons a b => simp
  have hold : ∀ (id b' c : Nat), (β ++ [(b, 1)])[id]? = some (b', c) → (β[id]? = some (b', c) ∧ id < β.length) ∨ (id = β.length ∧ b' = b ∧ c = 1) := by
    intro id b' c e
    rcases Nat.lt_trichotomy id β.length with hlt | heq | hgt
    · rw [List.getElem?_append_left hlt] at e; exact .inl ⟨e, hlt⟩
    · subst heq; simp at e; exact .inr ⟨rfl, e.1.symm, e.2.symm⟩
    · rw [List.getElem?_eq_none (by simp; omega)] at e; cases e
  refine ⟨fun w0 S0 H0 β0 hE hb => ⟨hE.os, hE.output, hE.size, hE.keep, hE.stay, hE.new, hE.grow.trans hg, fun id b' c e => ?_⟩, hg, ⟨by simp [h.len], ?_, h.lt, ?_, h.base⟩, ?_⟩
  · rcases hold id b' c e with ⟨e', _⟩ | ⟨_, rfl, _⟩
    · exact hE.own id b' c e'
    · exact .inr hb
  · intro i j b' c c' oi oj k1 k2 a1 a2 e1 e2
    rcases hold i b' c e1 with ⟨f1, g1⟩ | ⟨f1, g1, _⟩
    · rcases hold j b' c' e2 with ⟨f2, l2⟩ | ⟨f2, g2, _⟩
      · rw [List.getElem?_append_left (by rw [← h.len]; exact g1)] at k1
        rw [List.getElem?_append_left (by rw [← h.len]; exact l2)] at k2
        exact h.inj i j b' c c' oi oj k1 k2 a1 a2 f1 f2
      · subst g2; exact absurd f1 (hp.own _ _)
    · rcases hold j b' c' e2 with ⟨f2, _⟩ | ⟨f2, _, _⟩
      · subst g1; exact absurd f2 (hp.own _ _)
      · rw [f1, f2]
  · intro id o b' c ho e
    rcases hold id b' c e with ⟨f1, g1⟩ | ⟨rfl, rfl, rfl⟩
    · rw [List.getElem?_append_left (by rw [← h.len]; exact g1)] at ho
      exact (h.obj id o b' c ho f1).mono (Stay.refl _ _) hg rfl (fun _ => Iff.rfl)
    · rw [h.len] at ho
      simp at ho
      subst ho
      refine ⟨⟨_, hp.heap, rfl⟩, fun _ => ?_, fun h0 => absurd hpos (by simp only at h0; omega)⟩
      refine ⟨hpos, by simp, fun j => ⟨fun hs => absurd hs (hp.st j), fun hh => by simp at hh⟩, cs, T, hp.heap, by simpa using hcs, fun i hi => ?_⟩
      have hi0 : i = 0 := by simp at hi; omega
      subst hi0
      refine ⟨rfl, fun j hj => ?_⟩
      obtain ⟨u, h1, h2⟩ := hv j hj
      exact ⟨u, by simpa using h1, h2.mono (Stay.refl _ _) hg⟩
  · exact .ptr _ _ _ _ _ ⟨⟨_, _, rfl⟩, ⟨[v], v.cells.length, false⟩, by simp, by simp, fun _ => ⟨hpos, b, 1, by rw [← h.len]; simp, by simp⟩⟩

section
variable {P : Program} {call : CallFn} {N n0 : Nat} {ops : Array Oper}
theorem no_select {op : Op} {e : Env} {H : Heap} {r : Res} (h : opRunC P call op e H = some r) : ∀ cs b, op ≠ .select cs b := by
  rintro cs b rfl
  simp [opRunC, opRun] at h
theorem opsRun_mid : ∀ {L1 : List Oper} {al : Oper} {L2 : List Oper} {e : Env} {H : Heap} {lg : Log} {r : Env × Heap × Log}, opsRun P call ops (L1 ++ al :: L2) e H lg = some r → ∃ e1 H1 lg1, opsRun P call ops (al :: L2) e1 H1 lg1 = some r
  | [], al, L2, e, H, lg, r, h => ⟨e, H, lg, h⟩
  | o :: L1, al, L2, e, H, lg, r, h => by
    simp only [List.cons_append, opsRun] at h
    split at h
    · split at h
      · exact opsRun_mid h
      · cases h
    · exact opsRun_mid h
    · cases h
theorem alloc_run {al : Oper} {t : Tmp} {T : TypeId} (hd : al.dst = some t) (ho : al.op = .alloc T) (hg : al.guard = Option.none) {L : List Oper} {e : Env} {H : Heap} {lg : Log} {r : Env × Heap × Log} (h : opsRun P call ops (al :: L) e H lg = some r) :
    ∃ z, zeroV P T = some z ∧ z.storable = true ∧ ∃ lg1, opsRun P call ops L (putO e (some t) (.ptr H.length 1 0 0)) (H ++ [⟨[z], z.cells.length, false⟩]) lg1 = some r := by
  have hw : wantedV ops e al = some true := by unfold wantedV; rw [hg]
  simp only [opsRun, hw] at h
  rw [ho] at h
  simp only [opRunC, opRun] at h
  cases hz : zeroV P T with
  | none => simp [hz] at h
  | some z =>
    simp only [hz] at h
    by_cases hst : z.storable = true
    · rw [if_pos hst] at h
      simp only [hd] at h
      exact ⟨z, rfl, hst, _, h⟩
    · rw [if_neg hst] at h; simp at h
theorem wpOp_put {i : Nat} {o : Oper} (hi : ops[i]? = some o) (hs : ∀ cs b, o.op ≠ .select cs b) {t : Tmp} {p : Value} (h1 : t ∉ o.looksAt ops) (h2 : o.dst ≠ some t) {Q : Exit → Act → World → Prop} {K : Act → World → Prop} {a : Act} {w : World}
    (h : wpOp P ops (fun _ _ _ => False) i (fun a' w' => K (a'.put (some t) p) w') a w) : wpOp P ops Q i K (a.put (some t) p) w := by
  unfold Go.wpOp at h ⊢
  simp only [hi] at h ⊢
  have hn : ∀ d, some t = some d → d ∉ o.looksAt ops := fun d hd => by cases hd; exact h1
  have hn2 : ∀ d, some t = some d → o.dst ≠ some d := fun d hd => by cases hd; exact h2
  rw [wanted_put o a (some t) p hn]
  have hcomm : ∀ v, (a.put (some t) p).put o.dst v = (a.put o.dst v).put (some t) p := fun v => Act.put_comm a p v hn2
  split
  · rename_i hw
    rw [if_pos hw] at h
    rcases h with h | ⟨_, a', w', hf⟩
    · left
      unfold Oper.wp at h ⊢
      rw [execOp_put o hs a (some t) p hn]
      generalize (execOp a.eval o).run P w = r at h
      cases r with
      | ok nx w' =>
        cases nx <;> simp only [Oper.upon] at h ⊢
        case value v => rw [hcomm]; exact h
        case skip => rw [hcomm]; exact h
        case defer d =>
          have e1 : ({ a.put (some t) p with defers := d :: (a.put (some t) p).defers } : Act).put o.dst undef = (({ a with defers := d :: a.defers } : Act).put o.dst undef).put (some t) p := by
            rw [Act.put_defers]
            exact Act.put_comm _ p undef hn2
          rw [e1]; exact h
        case enter f args =>
          refine h.mono ?_
          intro x w''
          cases x with
          | returned v => intro hh; simp only at hh ⊢; rw [hcomm]; exact hh
          | panicked c => intro hh; exact hh.elim
          | outgrown => rintro ⟨a', w', hh⟩; exact hh.elim
        case row r2 args => exact Rows.mono h fun v w'' hh => by rw [hcomm]; exact hh
        all_goals (first | exact h | exact h.elim)
      | halt st w' => cases st <;> simp only [Oper.upon] at h
    · exact hf.elim
  · rename_i hw
    rw [if_neg hw] at h
    rw [hcomm]; exact h
theorem ops_pend (hC : CallOk P call) (hN : ∀ o ∈ ops.toList, ∀ d, o.dst = some d → d < N) {al : Oper} {t : Tmp} {T : TypeId} (hd : al.dst = some t) (ho : al.op = .alloc T) (hg : al.guard = Option.none) (ht : t < N) {B2 : List Nat} {Q : Exit → Act → World → Prop} {b : Nat} {zv : Value}
    {z : V} (hz : zeroV P T = some z) (hzr : ∀ w S H β, RV w S H β z zv) {w0 : World} {S0 : Cells} {H0 : Heap} {β0 : Bl} (hb0 : w0.heap.size ≤ b) {e' : Env} {H' : Heap} {lg' : Log}
    (hQ : ∀ a' w' S' β', Ext w0 S0 H0 β0 w' S' H' β' → Rel w' S' H' β' → AgreeA N n0 w' S' H' β' e' a' → Q .normal a' w') :
    ∀ (B1 : List Nat) (e : Env) (H : Heap) (lg : Log), opsRun P call ops (B1.filterMap (fun i => ops[i]?) ++ al :: B2.filterMap (fun i => ops[i]?)) e H lg = some (e', H', lg') → (∀ i ∈ B1, ∀ o, ops[i]? = some o → t ∉ o.looksAt ops ∧ o.dst ≠ some t) →
    ∀ (w : World) (S : Cells) (β : Bl) (a : Act), Ext w0 S0 H0 β0 w S H β → Rel w S H β → AgreeA N n0 w S H β e a → Pend w S β b zv.cells T → wpOps P ops Q (B1 ++ B2) (a.put (some t) (.pointer (some ⟨b, 0, Option.none⟩))) w := by
  intro B1
  induction B1 with
  | nil =>
    intro e H lg h _ w S β a hE hR hA hp
    rw [List.filterMap_nil, List.nil_append] at h
    obtain ⟨z', hz', hst, lg1, h1⟩ := alloc_run hd ho hg h
    rw [hz] at hz'; cases hz'
    have hzc := (hzr w S H β).cells
    obtain ⟨hl, hc⟩ := hzc
    obtain ⟨hE2, hgr, hR2, hv2⟩ := hR.adopt hp (v := z) hst (by rw [← hl]) (fun j hj => ⟨zv.cells[j]'(by omega), Array.getElem?_eq_getElem (by omega), hc j hj (by omega)⟩)
    refine ops_ok hC B2 _ _ lg1 e' H' lg' h1 hN w S _ _ hR2 ((hA.mono ⟨Nat.le_refl _, fun _ h => h⟩ (Stay.refl _ _) hgr).put (fun t' ht' => by cases ht'; exact ht) hv2) ?_
    intro a' w' S' β' hE' hR' hA'
    exact hQ a' w' S' β' ((hE2 w0 S0 H0 β0 hE hb0).trans hE') hR' hA'
  | cons i B1 ih =>
    intro e H lg h hap w S β a hE hR hA hp
    rw [List.cons_append, wpOps_cons]
    cases hi : ops[i]? with
    | none =>
      simp only [List.filterMap_cons, hi] at h
      unfold Go.wpOp
      simp only [hi]
      exact ih e H lg h (fun i hi => hap i (by simp [hi])) w S β a hE hR hA hp
    | some o =>
      simp only [List.filterMap_cons, hi, List.cons_append] at h
      obtain ⟨a1, a2⟩ := hap i (by simp) o hi
      have hsel : (∀ cs b, o.op ≠ .select cs b) ∨ wantedV ops e o = some false := by
        simp only [opsRun] at h
        split at h
        · split at h
          · rename_i hrun
            exact .inl (no_select hrun)
          · cases h
        · rename_i hw; exact .inr hw
        · cases h
      have hstep : wpOp P ops (fun _ _ _ => False) i (fun a' w' => wpOps P ops Q (B1 ++ B2) (a'.put (some t) (.pointer (some ⟨b, 0, Option.none⟩))) w') a w := by
        refine op_step hC hi (fun t ht => hN o (Array.mem_toList_iff.2 (Array.mem_of_getElem? hi)) t ht) h hR hA ?_
        intro u w1 S1 β1 e1 H1 lg1 h1 hE1 hR1 hA1
        exact ih e1 H1 lg1 h1 (fun i hi => hap i (by simp [hi])) w1 S1 β1 _ (hE.trans hE1) hR1 hA1 (hp.mono hE1)
      rcases hsel with hsel | hw
      · exact wpOp_put hi hsel a1 a2 hstep
      · unfold Go.wpOp at hstep ⊢
        simp only [hi] at hstep ⊢
        have hw2 := wanted_ok hA hw
        rw [hw2, if_neg (by simp)] at hstep
        have hw3 : Region.wanted o (yielded ops (a.put (some t) (.pointer (some ⟨b, 0, Option.none⟩))).tmps) = false := by
          rw [wanted_put o a (some t) _ (fun d hd => by cases hd; exact a1)]; exact hw2
        rw [hw3, if_neg (by simp), Act.put_comm a _ undef (fun d hd => by cases hd; exact a2)]
        exact hstep
def Later (ops : Array Oper) (σ σ' : List Nat) : Prop := σ' = σ ∨ ∃ A j B1 B2 al t T, σ = A ++ j :: (B1 ++ B2) ∧ σ' = A ++ (B1 ++ j :: B2) ∧ ops[j]? = some al ∧ al.dst = some t ∧ al.op = .alloc T ∧ al.guard = Option.none ∧ ∀ i ∈ B1, ∀ o, ops[i]? = some o → t ∉ o.looksAt ops ∧ o.dst ≠ some t
theorem ops_late (hC : CallOk P call) (hN : ∀ o ∈ ops.toList, ∀ d, o.dst = some d → d < N) {j : Nat} {al : Oper} {t : Tmp} {T : TypeId} (hj : ops[j]? = some al) (hd : al.dst = some t) (ho : al.op = .alloc T) (hg : al.guard = Option.none) {B1 B2 : List Nat}
    (hap : ∀ i ∈ B1, ∀ o, ops[i]? = some o → t ∉ o.looksAt ops ∧ o.dst ≠ some t) {Q : Exit → Act → World → Prop} {e' : Env} {H' : Heap} {lg' : Log} : ∀ (A : List Nat) (e : Env) (H : Heap) (lg : Log),
    opsRun P call ops ((A ++ (B1 ++ j :: B2)).filterMap (fun i => ops[i]?)) e H lg = some (e', H', lg') → ∀ (w : World) (S : Cells) (β : Bl) (a : Act), Rel w S H β → AgreeA N n0 w S H β e a →
    (∀ a' w' S' β', Ext w S H β w' S' H' β' → Rel w' S' H' β' → AgreeA N n0 w' S' H' β' e' a' → Q .normal a' w') → wpOps P ops Q (A ++ j :: (B1 ++ B2)) a w := by
  have ht : t < N := hN al (Array.mem_toList_iff.2 (Array.mem_of_getElem? hj)) t hd
  intro A
  induction A with
  | nil =>
    intro e H lg h w S β a hR hA hQ
    rw [List.nil_append, List.filterMap_append, List.filterMap_cons, hj] at h
    simp only at h
    obtain ⟨e1, H1, lg1, h1⟩ := opsRun_mid h
    obtain ⟨z, hz, hst, _⟩ := alloc_run hd ho hg h1
    obtain ⟨i, zv, hi, hzv, hrv⟩ := zeroV_rv hz
    rw [List.nil_append, wpOps_cons]
    unfold Go.wpOp
    simp only [hj]
    have hw : Region.wanted al (yielded ops a.tmps) = true := by unfold Region.wanted; rw [hg]
    rw [hw, if_pos rfl]
    left
    obtain ⟨hE1, hR1, hp1⟩ := hR.extra zv.cells T
    have hrun : (execOp a.eval al).run P w = .ok (.value (.pointer (some ⟨w.heap.size, 0, Option.none⟩))) (w.alloc (.cells zv.cells T)) := by
      unfold execOp
      rw [ho]
      simp [Instr.alloc, run_zero hi hzv, newVar, run_row]
    unfold Oper.wp
    rw [hrun, Oper.upon_value, hd]
    exact ops_pend hC hN hd ho hg ht hz hrv (Nat.le_refl _) hQ B1 e H lg h hap _ S β a hE1 hR1 (hA.mono (hE1.marks hR) hE1.stay hE1.grow) hp1
  | cons i A ih =>
    intro e H lg h w S β a hR hA hQ
    rw [List.cons_append, wpOps_cons]
    cases hi : ops[i]? with
    | none =>
      simp only [List.cons_append, List.filterMap_cons, hi] at h
      unfold Go.wpOp
      simp only [hi]
      exact ih e H lg h w S β a hR hA hQ
    | some o =>
      simp only [List.cons_append, List.filterMap_cons, hi] at h
      refine op_step hC hi (fun t ht => hN o (Array.mem_toList_iff.2 (Array.mem_of_getElem? hi)) t ht) h hR hA ?_
      intro u w1 S1 β1 e1 H1 lg1 h1 hE1 hR1 hA1
      exact ih e1 H1 lg1 h1 w1 S1 β1 _ hR1 hA1 fun a' w' S' β' hE hR' hA' => hQ a' w' S' β' (hE1.trans hE) hR' hA'
theorem ops_later (hC : CallOk P call) (hN : ∀ o ∈ ops.toList, ∀ d, o.dst = some d → d < N) {σ σ' : List Nat} (hl : Later ops σ σ') {Q : Exit → Act → World → Prop} {e : Env} {H : Heap} {lg : Log} {e' : Env} {H' : Heap} {lg' : Log}
    (h : opsRun P call ops (σ'.filterMap (fun i => ops[i]?)) e H lg = some (e', H', lg')) {w : World} {S : Cells} {β : Bl} {a : Act} (hR : Rel w S H β) (hA : AgreeA N n0 w S H β e a)
    (hQ : ∀ a' w' S' β', Ext w S H β w' S' H' β' → Rel w' S' H' β' → AgreeA N n0 w' S' H' β' e' a' → Q .normal a' w') : wpOps P ops Q σ a w := by
  rcases hl with rfl | ⟨A, j, B1, B2, al, t, T, rfl, rfl, hj, hd, ho, hg, hap⟩
  · exact ops_ok hC _ e H lg e' H' lg' h hN w S β a hR hA hQ
  · exact ops_late hC hN hj hd ho hg hap A e H lg h w S β a hR hA hQ
end
end Go.Sim
