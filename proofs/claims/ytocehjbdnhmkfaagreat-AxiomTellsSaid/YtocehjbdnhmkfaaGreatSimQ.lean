/- A part of the proof of a law of module cupola: SimQ. It has no conditions of its own. -/
import Derived.Test.YtocehjbdnhmkfaaGreatSimP
set_option linter.all false
/-! The other operations that change nothing. -/
namespace Go.Sim
section
variable {P : Program} {w : World} {S : Cells} {H : Heap} {β : Bl} {e : Env} {ρ : Operand → Value} {r : Res} {dst : Option Tmp} {ty : TypeId} {pos : String} {af : Array Edge} {g : Option (Nat × Bool)}

theorem d_nilCheck (hR : Rel w S H β) (hA : Agree w S H β e ρ) {x} (h : opRun P (.nilCheck x) e H = some r) : Does P w S H β ρ ⟨dst, .nilCheck x, ty, pos, af, g⟩ r := by
  simp only [opRun] at h
  split at h
  · rename_i id n i off hx
    have hv := hA x _ hx
    simp [ret] at h; subst h
    refine does_value hR (u := ρ x) ?_ hv
    generalize hρ : ρ x = q at hv
    cases hv with
    | ptr _ _ _ _ _ hok =>
      obtain ⟨⟨b, k, rfl⟩, o', ho', hn, hb⟩ := hok
      simp [execOp, hρ]
  · rename_i xs i off hx
    have hv := hA x _ hx
    simp [ret] at h; subst h
    refine does_value hR (u := ρ x) ?_ hv
    generalize hρ : ρ x = q at hv
    cases hv with
    | tp _ _ _ b o esz _ _ => simp [execOp, hρ]
  · rename_i f hx
    have hv := hA x _ hx
    simp [ret] at h; subst h
    refine does_value hR (u := ρ x) ?_ hv
    generalize hρ : ρ x = q at hv
    cases hv with | t _ _ hv => cases hv; simp [execOp, hρ]
  · rename_i f a b hx
    have hv := hA x _ hx
    simp [ret] at h; subst h
    refine does_value hR (u := ρ x) ?_ hv
    generalize hρ : ρ x = q at hv
    cases hv; simp [execOp, hρ]
  · cases h

theorem intBin_run {P : Program} {op : BinOp} {k : IntKind} {a b : Int} {c : T} (h : intBin op k a b = some c) (t : TypeId) (w : World) (hs : op ≠ .shl) (hs' : op ≠ .shr) :
    ∃ u, (binOp op t (.int k a) (.int k b)).run P w = .ok u w ∧ ∀ S, RT w S c u := by
  cases op <;> simp only [intBin] at h <;> first
    | (split at h <;> first
        | (cases h; done)
        | (rename_i hb; cases h; refine ⟨_, ?_, fun S => .int _ _⟩; simp [binOp, Op.intDiv, hb]))
    | (cases h; refine ⟨_, ?_, fun S => by first | exact .int _ _ | exact .bool _⟩; simp [binOp, Op.intArith, Op.intBits, Op.intCmp]; done)
    | (cases h; done)
    | exact absurd rfl hs
    | exact absurd rfl hs'

theorem strBin_run {P : Program} {op : BinOp} {a b : ByteArray} {c : T} (h : strBin op a b = some c) (t : TypeId) (w : World) :
    ∃ u, (binOp op t (.string a) (.string b)).run P w = .ok u w ∧ ∀ S, RT w S c u := by
  cases op <;> simp only [strBin] at h <;> first
    | (split at h <;> first
        | (cases h; done)
        | (rename_i hb; cases h; refine ⟨_, ?_, fun S => .str _⟩; simp only [binOp, Op.stringOp]; rw [if_neg hb]; rfl))
    | (cases h; refine ⟨_, ?_, fun S => .bool _⟩; simp [binOp, Op.stringOp]; done)
    | (cases h; done)

theorem equal_bool {P : Program} {t : TypeId} (hu : P.underlying t = some .bool) (a b : Bool) (w : World) : (Op.equal t (.bool a) (.bool b)).run P w = .ok (a == b) w := by
  have h : ∀ d, (Op.equalIn (d + 1) t (.bool a) (.bool b)).run P w = .ok (a == b) w := by
    intro d
    simp only [Op.equalIn, Sem.run_bind, run_und hu, Result.andThen_ok]
    rfl
  exact h 9999

theorem binT_run {P : Program} {op : BinOp} {t : TypeId} {a b c : T} {ua ub : Value} {w : World} {S : Cells} (h : binT op (boolT P t) a b = some c) (ha : RT w S a ua) (hb : RT w S b ub) (x y : Operand) :
    ∃ u, ((do eqGuard op t x y ua ub; binOp op t ua ub : Sem Value)).run P w = .ok u w ∧ RT w S c u := by
  unfold binT at h
  split at h
  · rename_i k a' k' b'
    cases ha; cases hb
    have hg : (eqGuard op t x y (.int k a') (.int k' b')).run P w = .ok () w := by cases op <;> rfl
    simp only [Sem.run_bind, hg, Result.andThen_ok]
    split at h
    · split at h
      · cases h
      · rename_i hneg; cases h
        exact ⟨_, by simp only [binOp, Op.shift]; rw [if_neg hneg]; rfl, .int _ _⟩
    · split at h
      · cases h
      · rename_i hneg; cases h
        exact ⟨_, by simp only [binOp, Op.shift]; rw [if_neg hneg]; rfl, .int _ _⟩
    · split at h
      · rename_i h1 h2 hk
        subst hk
        obtain ⟨u, h3, h4⟩ := intBin_run (P := P) h t w h1 h2
        exact ⟨u, h3, h4 S⟩
      · cases h
  · rename_i a' b'
    cases ha; cases hb
    have hg : (eqGuard op t x y (.string a') (.string b')).run P w = .ok () w := by cases op <;> rfl
    simp only [Sem.run_bind, hg, Result.andThen_ok]
    obtain ⟨u, h3, h4⟩ := strBin_run (P := P) h t w
    exact ⟨u, h3, h4 S⟩
  · rename_i a' b'
    cases ha; cases hb
    split at h
    · rename_i hbt
      have hu : P.underlying t = some .bool := by
        unfold boolT at hbt
        cases hk : kdOf P t <;> simp [hk] at hbt
        exact kd_bool hk
      have hg : (eqGuard op t x y (.bool a') (.bool b')).run P w = .ok () w := by cases op <;> rfl
      simp only [Sem.run_bind, hg, Result.andThen_ok]
      split at h
      · cases h
        refine ⟨_, ?_, .bool _⟩
        simp only [binOp, Sem.run_bind, equal_bool hu, Result.andThen_ok, Sem.run_pure]
      · cases h
        refine ⟨_, ?_, .bool _⟩
        simp only [binOp, Sem.run_bind, equal_bool hu, Result.andThen_ok, Sem.run_pure]
      · cases h
    · cases h
  · cases h

theorem d_binOp (hR : Rel w S H β) (hA : Agree w S H β e ρ) {op t x y s} (h : opRun P (.binOp op t x y s) e H = some r) : Does P w S H β ρ ⟨dst, .binOp op t x y s, ty, pos, af, g⟩ r := by
  simp only [opRun] at h
  split at h
  · rename_i a b hx hy
    cases hc : binT op (boolT P t) a b with
    | none => simp [hc] at h
    | some c =>
      simp [hc, ret] at h; subst h
      obtain ⟨u, h1, h2⟩ := binT_run hc (rv_t (hA x _ hx)) (rv_t (hA y _ hy)) x y
      refine does_value hR (u := u) ?_ (.t _ _ h2)
      simp only [execOp]
      rw [Sem.run_bind, h1]
      rfl
  · cases h

theorem d_unOp (hR : Rel w S H β) (hA : Agree w S H β e ρ) {op t x} (h : opRun P (.unOp op t x) e H = some r) : Does P w S H β ρ ⟨dst, .unOp op t x, ty, pos, af, g⟩ r := by
  simp only [opRun] at h
  split at h
  · rename_i a hx
    cases hc : unT op a with
    | none => simp [hc] at h
    | some c =>
      simp [hc, ret] at h; subst h
      have hv := rv_t (hA x _ hx)
      unfold unT at hc
      split at hc <;> first
        | (cases hc; generalize hρ : ρ x = q at hv; cases hv
           refine does_value hR (u := _) ?_ (.t _ _ (by first | exact .int _ _ | exact .bool _))
           simp [execOp, hρ, Op.unary, Op.intArith, Op.intBits])
        | (cases hc; done)
  · cases h

theorem d_convert (hR : Rel w S H β) (hA : Agree w S H β e ρ) {s d x} (h : opRun P (.convert s d x) e H = some r) : Does P w S H β ρ ⟨dst, .convert s d x, ty, pos, af, g⟩ r := by
  simp only [opRun] at h
  split at h
  · rename_i k0 k k1 n hs hd hx
    simp [ret] at h; subst h
    refine does_value hR (u := .int k (k.wrap n)) ?_ (.t _ _ (.int _ _))
    have := rv_int (hA x _ hx)
    simp [execOp, convert, run_und (kd_int hs), run_und (kd_int hd), this, Conv.intToInt]
  · rename_i s' hs hd hx
    simp [ret] at h; subst h
    refine does_value hR (u := .string s') ?_ (.t _ _ (.str _))
    have := rv_str (hA x _ hx)
    simp [execOp, convert, run_und (kd_str hs), run_und (kd_str hd), this]
  · cases h

theorem evs_rv (hA : Agree w S H β e ρ) : ∀ {l : List Operand} {vs : List V}, evs e l = some vs → vs.length = l.length ∧ ∀ i (hi : i < vs.length) (hl : i < (l.map ρ).length), RV w S H β vs[i] (l.map ρ)[i] := by
  intro l
  induction l with
  | nil => intro vs h; simp [evs] at h; subst h; exact ⟨rfl, fun i hi => by simp at hi⟩
  | cons x l ih =>
    intro vs h
    simp only [evs] at h
    cases hx : ev e x with
    | none => simp [hx] at h
    | some v =>
      cases hl : evs e l with
      | none => simp [hx, hl] at h
      | some us =>
        simp [hx, hl] at h; subst h
        obtain ⟨h1, h2⟩ := ih hl
        refine ⟨by simp [h1], fun i hi hl' => ?_⟩
        cases i with
        | zero => exact hA x v hx
        | succ i => exact h2 i (by simpa using hi) (by simpa using hl')

theorem d_makeFunc (hR : Rel w S H β) (hA : Agree w S H β e ρ) {f a b} (h : opRun P (.makeFunc (.func f) a b) e H = some r) : Does P w S H β ρ ⟨dst, .makeFunc (.func f) a b, ty, pos, af, g⟩ r := by
  simp only [opRun] at h
  have hrun : (execOp ρ ⟨dst, .makeFunc (.func f) a b, ty, pos, af, g⟩).run P w = .ok (.value (.func (.func f) (a.map ρ) (b.map ρ))) w := by
    simp [execOp, Instr.makeFunc]
  split at h
  · rename_i h1 h2
    simp [ret] at h; subst h
    refine does_value hR hrun (.t _ _ ?_)
    obtain ⟨ha, _⟩ := evs_rv hA h1
    obtain ⟨hb, _⟩ := evs_rv hA h2
    have ea : a = #[] := Array.eq_empty_of_size_eq_zero (by rw [← Array.length_toList]; exact ha.symm)
    have eb : b = #[] := Array.eq_empty_of_size_eq_zero (by rw [← Array.length_toList]; exact hb.symm)
    rw [ea, eb]
    simpa using RT.fn (w := w) (S := S) f
  · rename_i va vb _ h1 h2
    simp [ret] at h; subst h
    refine does_value hR hrun ?_
    obtain ⟨ha, ha'⟩ := evs_rv hA h1
    obtain ⟨hb, hb'⟩ := evs_rv hA h2
    have := RV.fn (w := w) (S := S) (H := H) (β := β) f va vb (a.toList.map ρ) (b.toList.map ρ) (by simp [ha]) (by simp [hb]) ha' hb'
    have em : ∀ a : Array Operand, (List.map ρ a.toList).toArray = a.map ρ := fun a => by rw [← Array.toList_map]
    rw [em, em] at this
    exact this
  · cases h

theorem d_fieldAddr (hR : Rel w S H β) (hA : Agree w S H β e ρ) {s x f} (h : opRun P (.fieldAddr s x f) e H = some r) : Does P w S H β ρ ⟨dst, .fieldAddr s x f, ty, pos, af, g⟩ r := by
  simp only [opRun] at h
  cases hx : ev e x with
  | none => simp [hx] at h
  | some v =>
    simp only [hx, Option.bind_some] at h
    have hv := hA x v hx
    cases hf : fldOf P s f with
    | none => simp [hf, fieldV] at h
    | some p =>
      obtain ⟨off, sz⟩ := p
      have hfld : ∃ fs fd i, P.underlying s = some (.struct fs) ∧ fs[f]? = some fd ∧ P.info? fd.type = some i ∧ fd.offset = off ∧ i.size = sz := by
        unfold fldOf at hf
        split at hf
        · rename_i fs hu
          cases h1 : fs[f]? with
          | none => simp [h1] at hf
          | some fd =>
            cases h2 : P.info? fd.type with
            | none => simp [h1, h2] at hf
            | some i => simp [h1, h2] at hf; exact ⟨fs, fd, i, hu, h1, h2, hf.1, hf.2⟩
        · cases hf
      obtain ⟨fs, fd, i, hu, h1, h2, rfl, rfl⟩ := hfld
      cases hsz : i.size with
      | zero => cases v <;> simp [hf, fieldV, hsz] at h
      | succ m =>
        have hrun : ∀ b o, ρ x = .pointer (some ⟨b, o, none⟩) → (execOp ρ ⟨dst, .fieldAddr s x f, ty, pos, af, g⟩).run P w = .ok (.value (.pointer (some ⟨b, o + fd.offset, none⟩))) w := by
          intro b o hρ
          simp [execOp, Instr.fieldAt, run_und hu, h1, hρ, Instr.sureAddr, fieldPlace, run_size h2, hsz, add0]
        cases v with
        | ptr id n j o =>
          simp [hf, fieldV, hsz, ret] at h; subst h
          generalize hρ : ρ x = q at hv
          cases hv with
          | ptr _ _ _ _ _ hok =>
            obtain ⟨⟨b, k, rfl⟩, ob, ho', hn, hb⟩ := hok
            refine does_value hR (hrun _ _ hρ) (.ptr _ _ _ _ _ ⟨⟨_, _, rfl⟩, ob, ho', hn, fun e => ?_⟩)
            obtain ⟨b', cap, h3, h4⟩ := hb e
            simp only [Value.pointer.injEq, Option.some.injEq, Addr.mk.injEq] at h4
            obtain ⟨rfl, rfl, _⟩ := h4
            exact ⟨b, cap, h3, by rw [Nat.add_assoc]⟩
        | tp xs j o =>
          simp [hf, fieldV, hsz, ret] at h; subst h
          generalize hρ : ρ x = q at hv
          cases hv with
          | tp _ _ _ b o' esz hi harr =>
            refine does_value hR (hrun _ _ hρ) ?_
            have := RV.tp (w := w) (S := S) (H := H) (β := β) xs j (o + fd.offset) b o' esz hi harr
            simpa [Nat.add_assoc] using this
        | _ => simp [hf, fieldV, hsz] at h
end
end Go.Sim
