/- A part of the proof of a law of module cupola: SimF. It has no conditions of its own. -/
import Derived.Test.YtocehjbdnhmkfaaGreatSimC
set_option linter.all false
/-! Parts of slices; literals. -/
namespace Go.Sim
section
variable {P : Program} {w : World} {S : Cells} {H : Heap} {β : Bl} {e : Env} {ρ : Operand → Value} {r : Res} {dst : Option Tmp} {ty : TypeId} {pos : String} {af : Array Edge} {g : Option (Nat × Bool)}

theorem bound_rv (hA : Agree w S H β e ρ) {lo : Option Operand} {v : Option V} {d n : Nat} (h : optEv e lo = some v) (hb : bound v d = some n) :
    (lo.map ρ = none ∧ v = none ∧ n = d) ∨ ∃ k m, lo.map ρ = some (.int k m) ∧ v.isSome = true ∧ 0 ≤ m ∧ n = m.toNat := by
  cases lo with
  | none => simp [optEv] at h; subst h; simp [bound] at hb; exact .inl ⟨rfl, rfl, hb.symm⟩
  | some x =>
    simp only [optEv] at h
    cases hx : ev e x with
    | none => simp [hx] at h
    | some q =>
      simp [hx] at h; subst h
      unfold bound at hb
      split at hb
      · contradiction
      · rename_i k m he
        split at hb
        · rename_i h0
          cases hb; cases he
          exact .inr ⟨k, m, by simp [rv_int (hA x _ hx)], rfl, h0, rfl⟩
        · cases hb
      · cases hb

theorem run_sliceBound {k : IntKind} {m : Int} {y : Nat} {c : BoundsCode} (h0 : 0 ≤ m) (h1 : m ≤ y) : (Instr.sliceBound (.int k m) y c).run P w = .ok m.toNat w := by
  simp [Instr.sliceBound, asIntOf, h0, h1]

theorem run_sliceBounds {b : Bool} {len cap l h m : Nat} {lo hi mx : Option Value} (hlo : (lo = none ∧ l = 0) ∨ ∃ k n, lo = some (.int k n) ∧ 0 ≤ n ∧ l = n.toNat)
    (hhi : (hi = none ∧ h = len) ∨ ∃ k n, hi = some (.int k n) ∧ 0 ≤ n ∧ h = n.toNat) (hmx : (mx = none ∧ m = cap) ∨ ∃ k n, mx = some (.int k n) ∧ 0 ≤ n ∧ m = n.toNat)
    (h1 : l ≤ h) (h2 : h ≤ m) (h3 : m ≤ cap) (h4 : mx = none ∨ hi ≠ none) : (Instr.sliceBounds b len cap lo hi mx).run P w = .ok (l, h, m) w := by
  rcases hlo with ⟨rfl, rfl⟩ | ⟨k1, n1, rfl, a1, rfl⟩ <;> rcases hhi with ⟨rfl, rfl⟩ | ⟨k2, n2, rfl, a2, rfl⟩ <;> rcases hmx with ⟨rfl, rfl⟩ | ⟨k3, n3, rfl, a3, rfl⟩ <;>
    first
    | (exfalso; simp at h4; done)
    | (simp only [Instr.sliceBounds, Sem.run_bind, Sem.run_pure, Result.andThen_ok]
       repeat (first | rw [run_sliceBound (by omega) (by omega)] | rw [Result.andThen_ok])
       done)
    | (simp only [Instr.sliceBounds, Sem.run_bind, Sem.run_pure, Result.andThen_ok]
       done)

theorem arr_part {w : World} {S : Cells} {xs : List T} {b o esz l h : Nat} (ha : Arr w S xs b o esz) (h2 : h ≤ xs.length) : Arr w S ((xs.take h).drop l) b (o + l * esz) esz := by
  refine ⟨fun i hi => ?_, fun i hi j hj => ?_⟩
  · simp only [List.getElem_drop, List.getElem_take]
    exact ha.1 _ (by simp at hi; omega)
  · have hlt : l + i < xs.length := by simp at hi; omega
    have e : ((xs.take h).drop l)[i] = xs[l + i] := by simp only [List.getElem_drop, List.getElem_take]
    simp only [e] at hj ⊢
    obtain ⟨h3, u, h4, h5⟩ := ha.2 (l + i) hlt j hj
    have e2 : o + l * esz + i * esz + j = o + (l + i) * esz + j := by rw [Nat.add_mul]; omega
    rw [e2]
    exact ⟨h3, u, h4, h5⟩

theorem d_slice (hR : Rel w S H β) (hA : Agree w S H β e ρ) {t x lo hi mx} (h : opRun P (.slice t x lo hi mx) e H = some r) : Does P w S H β ρ ⟨dst, .slice t x lo hi mx, ty, pos, af, g⟩ r := by
  simp only [opRun] at h
  split at h
  · -- a string
    rename_i s vl vh vm hk hx hl hh hm
    simp only [partS] at h
    split at h
    · rename_i l hn hbl hbh
      split at h
      · rename_i hc
        simp [ret] at h; subst h
        have hmn : mx = none := by
          cases mx with
          | none => rfl
          | some q =>
            simp only [optEv] at hm
            cases hq : ev e q <;> simp [hq] at hm
        subst hmn
        have b1 : (lo.map ρ = none ∧ l = 0) ∨ ∃ k n, lo.map ρ = some (.int k n) ∧ 0 ≤ n ∧ l = n.toNat := by
          rcases bound_rv hA hl hbl with ⟨a, _, b⟩ | ⟨k, n, a, _, b, c⟩
          · exact .inl ⟨a, b⟩
          · exact .inr ⟨k, n, a, b, c⟩
        have b2 : (hi.map ρ = none ∧ hn = s.size) ∨ ∃ k n, hi.map ρ = some (.int k n) ∧ 0 ≤ n ∧ hn = n.toNat := by
          rcases bound_rv hA hh hbh with ⟨a, _, b⟩ | ⟨k, n, a, _, b, c⟩
          · exact .inl ⟨a, b⟩
          · exact .inr ⟨k, n, a, b, c⟩
        have hrun := run_sliceBounds (P := P) (w := w) (b := false) (len := s.size) (cap := s.size) b1 b2 (.inl ⟨rfl, rfl⟩) hc.1 hc.2 (Nat.le_refl _) (.inl rfl)
        refine does_value hR (u := .string (s.extract l hn)) ?_ (.t _ _ (.str _))
        simp only [execOp, rv_str (hA x _ hx), Option.map_none]
        refine run_val ?_
        simp [Instr.sliceAt, Instr.slice, run_und (kd_str hk), hrun]
      · cases h
    · cases h
  · rename_i el v vl vh vm hk hx hl hh hm
    have hv := hA x v hx
    unfold partV at h
    split at h
    · rename_i xel xs hel hto
      split at h
      · rename_i l hn m hbl hbh hbm
        split at h
        · rename_i hc
          obtain ⟨h1, h2, h3, hxl, hsz, hmh, hcell⟩ := hc
          cases h
          obtain ⟨base, cap, hρ, hcap, _⟩ := slOf_rv hR hel hv
          obtain ⟨i, hi1, hi2⟩ := elemSz_sl rfl hsz
          obtain ⟨S', hE, hR', hT⟩ := hR.hold v _ hv
          have hrt := hT _ hto
          rw [hρ] at hrt
          obtain ⟨base', cap', he, hcap', hxs⟩ := sl_row hrt
          simp only [Value.slice.injEq] at he
          obtain ⟨rfl, hlen, rfl⟩ := he
          have b1 : (lo.map ρ = none ∧ l = 0) ∨ ∃ k n, lo.map ρ = some (.int k n) ∧ 0 ≤ n ∧ l = n.toNat := by
            rcases bound_rv hA hl hbl with ⟨a, _, b⟩ | ⟨k, n, a, _, b, c⟩
            · exact .inl ⟨a, b⟩
            · exact .inr ⟨k, n, a, b, c⟩
          have b2 : (hi.map ρ = none ∧ hn = xel.length) ∨ ∃ k n, hi.map ρ = some (.int k n) ∧ 0 ≤ n ∧ hn = n.toNat := by
            rcases bound_rv hA hh hbh with ⟨a, _, b⟩ | ⟨k, n, a, _, b, c⟩
            · exact .inl ⟨a, b⟩
            · exact .inr ⟨k, n, a, b, c⟩
          have hmx : ∃ m', ((mx.map ρ = none ∧ m' = cap) ∨ ∃ k n, mx.map ρ = some (.int k n) ∧ 0 ≤ n ∧ m' = n.toNat) ∧ hn ≤ m' ∧ m' ≤ cap ∧ (vm.isSome = true → m' = m) := by
            rcases bound_rv hA hm hbm with ⟨a, b, _⟩ | ⟨k, n, a, b, c, d⟩
            · exact ⟨cap, .inl ⟨a, rfl⟩, by omega, Nat.le_refl _, fun hh => by simp [b] at hh⟩
            · exact ⟨m, .inr ⟨k, n, a, c, d⟩, h2, by omega, fun _ => rfl⟩
          obtain ⟨m', b3, hm1, hm2, hmm⟩ := hmx
          have b4 : mx.map ρ = none ∨ hi.map ρ ≠ none := by
            rcases bound_rv hA hm hbm with ⟨a, b, _⟩ | ⟨k, n, a, b, c, d⟩
            · exact .inl a
            · right
              simp only [Bool.or_eq_true, Option.isNone_iff_eq_none] at hmh
              rcases hmh with hmh | hmh
              · simp [hmh] at b
              · rcases bound_rv hA hh hbh with ⟨_, b', _⟩ | ⟨k', n', a', _⟩
                · simp [b'] at hmh
                · simp [a']
          have hrun := run_sliceBounds (P := P) (w := w) (b := true) (len := xel.length) (cap := cap) b1 b2 b3 h1 hm1 hm2 b4
          have hrun2 : (execOp ρ ⟨dst, .slice t x lo hi mx, ty, pos, af, g⟩).run P w = .ok (.value (.slice (if m' = l then base else base.map (·.add (l * i.size))) (hn - l) (m' - l))) w := by
            simp only [execOp, hρ]
            refine run_val ?_
            simp [Instr.sliceAt, Instr.slice, run_und (kd_sl hk), hrun, run_size hi1]
          have hlen2 : ((xs.take hn).drop l).length = hn - l := by simp; omega
          have hval : ∀ c, hn - l ≤ c → RT w S' (.sl ((xs.take hn).drop l)) (.slice (if m' = l then base else base.map (·.add (l * i.size))) (hn - l) c) := by
            intro c hc
            by_cases he : hn = l
            · have e1 : (xs.take hn).drop l = [] := List.length_eq_zero_iff.1 (by rw [hlen2]; omega)
              rw [e1, show hn - l = 0 by omega]
              exact .sl0 _ _
            · rw [if_neg (by omega)]
              rcases hxs with rfl | ⟨b, o, esz, rfl, ha⟩
              · simp at hxl; omega
              · have hes : l * esz = l * i.size := by
                  rcases hcell with rfl | hcell
                  · simp
                  · have hlt : l < xs.length := by omega
                    rw [List.getElem?_eq_getElem hlt] at hcell
                    simp at hcell
                    rw [← ha.1 l hlt, hcell, hi2]
                have := RT.of_arr (arr_part (l := l) (h := hn) ha (by omega)) (cap := c) (by rw [hlen2]; exact hc)
                rw [hlen2, hes] at this
                simpa [add0] using this
          refine ⟨_, w, S', β, .inl hrun2, hE, hR', ?_⟩
          show RV w S' _ β (if vm.isSome = true ∧ m = hn then _ else _) _
          split
          · rename_i hcc
            have e := hmm hcc.1
            rw [e, hcc.2]
            have := hval (hn - l) (Nat.le_refl _)
            rw [e, hcc.2] at this
            exact .ex _ _ _ this
          · exact .t _ _ (hval (m' - l) (by omega))
        · cases h
      · cases h
    · cases h
  · cases h
end
end Go.Sim
