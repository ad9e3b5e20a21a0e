/- A part of the proof of a law of module cupola: SimQ, SimT, SimA, SimMp, SimB, SimC. It has no conditions of its own. -/
import Derived.Test.YtkfceeaokfdmfaaGreatDoorSimR
import Derived.Laws.StructEq
import Derived.Laws.AppendOwn
import Derived.MapKept
import Derived.WideLaws
set_option linter.all false
namespace Go.Sim
variable [Base]
section
variable {P : Program} {w : World} {S : Cells} {H : Heap} {β : Bl} {e : Env} {ρ : Operand → Value} {r : Res} {dst : Option Tmp} {ty : TypeId} {pos : String} {af : Array Edge} {g : Option (Nat × Bool)}

theorem d_nilCheck (hR : Rel w S H β) (hA : Agree w S H β e ρ) {x} (h : opRun P (.nilCheck x) e H = some r) : Does P w S H β ρ ⟨dst, .nilCheck x, ty, pos, af, g⟩ r := by
  simp only [opRun] at h
  split at h
  · rename_i id n i off hx
    have hv := hA x _ hx
    simp [ret] at h; subst h
    refine does_value hR (u := ρ x) ?_ hv
    generalize hρ : ρ x = q at hv
    cases hv with
    | ptr _ _ _ _ _ hok =>
      obtain ⟨⟨b, k, rfl⟩, o', ho', hn, hb⟩ := hok
      simp [execOp, hρ]
  · rename_i xs i off hx
    have hv := hA x _ hx
    simp [ret] at h; subst h
    refine does_value hR (u := ρ x) ?_ hv
    generalize hρ : ρ x = q at hv
    cases hv with
    | tp _ _ _ b o esz _ _ => simp [execOp, hρ]
  · rename_i f hx
    have hv := hA x _ hx
    simp [ret] at h; subst h
    refine does_value hR (u := ρ x) ?_ hv
    generalize hρ : ρ x = q at hv
    cases hv with | t _ _ hv => cases hv; simp [execOp, hρ]
  · rename_i f a b hx
    have hv := hA x _ hx
    simp [ret] at h; subst h
    refine does_value hR (u := ρ x) ?_ hv
    generalize hρ : ρ x = q at hv
    cases hv; simp [execOp, hρ]
  · cases h

theorem intBin_run {P : Program} {op : BinOp} {k : IntKind} {a b : Int} {c : T} (h : intBin op k a b = some c) (t : TypeId) (w : World) (hs : op ≠ .shl) (hs' : op ≠ .shr) :
    ∃ u, (binOp op t (.int k a) (.int k b)).run P w = .ok u w ∧ ∀ S, RT w S c u := by
  cases op <;> simp only [intBin] at h <;> first
    | (split at h <;> first
        | (cases h; done)
        | (rename_i hb; cases h; refine ⟨_, ?_, fun S => .int _ _⟩; simp [binOp, Op.intDiv, hb]))
    | (cases h; refine ⟨_, ?_, fun S => by first | exact .int _ _ | exact .bool _⟩; simp [binOp, Op.intArith, Op.intBits, Op.intCmp]; done)
    | (cases h; done)
    | exact absurd rfl hs
    | exact absurd rfl hs'

theorem strBin_run {P : Program} {op : BinOp} {a b : ByteArray} {c : T} (h : strBin op a b = some c) (t : TypeId) (w : World) :
    ∃ u, (binOp op t (.string a) (.string b)).run P w = .ok u w ∧ ∀ S, RT w S c u := by
  cases op <;> simp only [strBin] at h <;> first
    | (split at h <;> first
        | (cases h; done)
        | (rename_i hb; cases h; refine ⟨_, ?_, fun S => .str _⟩; simp only [binOp, Op.stringOp]; rw [if_neg hb]; rfl))
    | (cases h; refine ⟨_, ?_, fun S => .bool _⟩; simp [binOp, Op.stringOp]; done)
    | (cases h; done)

theorem equal_bool {P : Program} {t : TypeId} (hu : P.underlying t = some .bool) (a b : Bool) (w : World) : (Op.equal t (.bool a) (.bool b)).run P w = .ok (a == b) w := by
  have h : ∀ d, (Op.equalIn (d + 1) t (.bool a) (.bool b)).run P w = .ok (a == b) w := by
    intro d
    simp only [Op.equalIn, Sem.run_bind, run_und hu, Result.andThen_ok]
    rfl
  exact h 9999

theorem kd_fn {P : Program} {t : TypeId} (h : (kdOf P t).isFn = true) : ∃ a b c, P.underlying t = some (.func a b c) := by
  unfold kdOf at h
  split at h <;> simp [Kd.isFn] at h
  rename_i a b c hu
  exact ⟨a, b, c, hu⟩
theorem equal_fn {P : Program} {t : TypeId} {x y : Value} {p q r} (hu : P.underlying t = some (.func p q r)) {b : Bool} {w : World} (h : ∀ d, (Op.equalIn (d + 1) t x y).run P w = .ok b w) : (Op.equal t x y).run P w = .ok b w := h 9999

theorem kd_ptr {P : Program} {t : TypeId} (h : (kdOf P t).isPtr = true) : ∃ a, P.underlying t = some (.pointer a) := by
  unfold kdOf at h
  split at h <;> simp [Kd.isPtr] at h
  rename_i a hu
  exact ⟨a, hu⟩
theorem kd_map {P : Program} {t : TypeId} (h : (kdOf P t).isMap = true) : ∃ a b, P.underlying t = some (.map a b) := by
  unfold kdOf at h
  split at h <;> simp [Kd.isMap] at h
  rename_i a b hu
  exact ⟨a, b, hu⟩
theorem equal_map {P : Program} {t : TypeId} {x y : Value} {p q} (hu : P.underlying t = some (.map p q)) {b : Bool} {w : World} (h : ∀ d, (Op.equalIn (d + 1) t x y).run P w = .ok b w) : (Op.equal t x y).run P w = .ok b w := h 9999
theorem equal_ptr {P : Program} {t : TypeId} {x y : Value} {p} (hu : P.underlying t = some (.pointer p)) {b : Bool} {w : World} (h : ∀ d, (Op.equalIn (d + 1) t x y).run P w = .ok b w) : (Op.equal t x y).run P w = .ok b w := h 9999
theorem fnil_run {P : Program} {op : BinOp} {t : TypeId} {c : T} {ua ub : Value} {b : Bool} {w : World} {S : Cells} (he : (Op.equal t ua ub).run P w = .ok b w) (hg : ∀ x y, (eqGuard op t x y ua ub).run P w = .ok () w) (h : eqNil op b = some c)
    (h1 : binOp .eql t ua ub = (do pure (.bool (← Op.equal t ua ub)))) (h2 : binOp .neq t ua ub = (do pure (.bool (!(← Op.equal t ua ub))))) (x y : Operand) :
    ∃ u, ((do eqGuard op t x y ua ub; binOp op t ua ub : Sem Value)).run P w = .ok u w ∧ RT w S c u := by
  cases op <;> simp only [eqNil] at h <;> first
    | (cases h; done)
    | (cases h
       refine ⟨.bool b, ?_, .bool _⟩
       simp only [Sem.run_bind, hg, Result.andThen_ok, h1, he, Sem.run_pure]
       done)
    | (cases h
       refine ⟨.bool !b, ?_, .bool _⟩
       simp only [Sem.run_bind, hg, Result.andThen_ok, h2, he, Sem.run_pure]
       done)

theorem binT_run {P : Program} {op : BinOp} {t : TypeId} {a b c : T} {ua ub : Value} {w : World} {S : Cells} (h : binT op (kdOf P t) a b = some c) (ha : RT w S a ua) (hb : RT w S b ub) (x y : Operand) :
    ∃ u, ((do eqGuard op t x y ua ub; binOp op t ua ub : Sem Value)).run P w = .ok u w ∧ RT w S c u := by
  unfold binT at h
  split at h
  · rename_i k a' k' b'
    cases ha; cases hb
    have hg : (eqGuard op t x y (.int k a') (.int k' b')).run P w = .ok () w := by cases op <;> rfl
    simp only [Sem.run_bind, hg, Result.andThen_ok]
    split at h
    · split at h
      · cases h
      · rename_i hneg; cases h
        exact ⟨_, by simp only [binOp, Op.shift]; rw [if_neg hneg]; rfl, .int _ _⟩
    · split at h
      · cases h
      · rename_i hneg; cases h
        exact ⟨_, by simp only [binOp, Op.shift]; rw [if_neg hneg]; rfl, .int _ _⟩
    · split at h
      · rename_i h1 h2 hk
        subst hk
        obtain ⟨u, h3, h4⟩ := intBin_run (P := P) h t w h1 h2
        exact ⟨u, h3, h4 S⟩
      · cases h
  · rename_i a' b'
    cases ha; cases hb
    have hg : (eqGuard op t x y (.string a') (.string b')).run P w = .ok () w := by cases op <;> rfl
    simp only [Sem.run_bind, hg, Result.andThen_ok]
    obtain ⟨u, h3, h4⟩ := strBin_run (P := P) h t w
    exact ⟨u, h3, h4 S⟩
  · rename_i a' b'
    cases ha; cases hb
    split at h
    · rename_i hbt
      have hu : P.underlying t = some .bool := by
        cases hk : kdOf P t <;> simp [hk, Kd.isBool] at hbt
        exact kd_bool hk
      have hg : (eqGuard op t x y (.bool a') (.bool b')).run P w = .ok () w := by cases op <;> rfl
      simp only [Sem.run_bind, hg, Result.andThen_ok]
      split at h
      · cases h
        refine ⟨_, ?_, .bool _⟩
        simp only [binOp, Sem.run_bind, equal_bool hu, Result.andThen_ok, Sem.run_pure]
      · cases h
        refine ⟨_, ?_, .bool _⟩
        simp only [binOp, Sem.run_bind, equal_bool hu, Result.andThen_ok, Sem.run_pure]
      · cases h
    · cases h
  · cases ha; cases hb
    split at h
    · rename_i hk
      obtain ⟨p, q, r, hu⟩ := kd_fn hk
      have he : (Op.equal t .nilFunc .nilFunc).run P w = .ok true w := equal_fn hu (fun d => by simp only [Op.equalIn, Sem.run_bind, run_und hu, Result.andThen_ok]; rfl)
      exact fnil_run he (fun x y => by cases op <;> rfl) h (by rfl) (by rfl) x y
    · cases h
  · rename_i f
    cases ha; cases hb
    split at h
    · rename_i hk
      obtain ⟨p, q, r, hu⟩ := kd_fn hk
      have he : (Op.equal t (.func (.func f) #[] #[]) .nilFunc).run P w = .ok false w := equal_fn hu (fun d => by simp only [Op.equalIn, Sem.run_bind, run_und hu, Result.andThen_ok]; rfl)
      exact fnil_run he (fun x y => by cases op <;> rfl) h (by rfl) (by rfl) x y
    · cases h
  · rename_i f
    cases ha; cases hb
    split at h
    · rename_i hk
      obtain ⟨p, q, r, hu⟩ := kd_fn hk
      have he : (Op.equal t .nilFunc (.func (.func f) #[] #[])).run P w = .ok false w := equal_fn hu (fun d => by simp only [Op.equalIn, Sem.run_bind, run_und hu, Result.andThen_ok]; rfl)
      exact fnil_run he (fun x y => by cases op <;> rfl) h (by rfl) (by rfl) x y
    · cases h
  · cases ha; cases hb
    split at h
    · rename_i hk
      obtain ⟨p, hu⟩ := kd_ptr hk
      have he : (Op.equal t (.pointer none) (.pointer none)).run P w = .ok true w := equal_ptr hu (fun d => by simp only [Op.equalIn, Sem.run_bind, run_und hu, Result.andThen_ok]; rfl)
      exact fnil_run he (fun x y => by cases op <;> rfl) h (by rfl) (by rfl) x y
    · cases h
  · cases ha; cases hb
    split at h
    · rename_i hk
      obtain ⟨p, q, hu⟩ := kd_map hk
      have he : (Op.equal t (.map none) (.map none)).run P w = .ok true w := equal_map hu (fun d => by simp only [Op.equalIn, Sem.run_bind, run_und hu, Result.andThen_ok]; rfl)
      exact fnil_run he (fun x y => by cases op <;> rfl) h (by rfl) (by rfl) x y
    · cases h
  · cases h

theorem run_part {P : Program} {t : TypeId} {d : TypeDesc} (hu : P.underlying t = some d) (ha : isAggT P t = false) (w : World) {cs : Array Value} {i : Nat} {v : Value} (h : cs[i]? = some v) : (part t cs i).run P w = .ok v w := by
  simp only [part, Sem.run_bind, run_agg hu, ha, Result.andThen_ok, Bool.false_eq_true, if_false, h, Sem.run_pure]

theorem leaf_run {P : Program} {t : TypeId} {x y : T} {ux uy : Value} {w : World} {S : Cells} {r : Bool} (h : leafEq P t x y = some r) (hx : RT w S x ux) (hy : RT w S y uy) :
    (∃ d, P.underlying t = some d) ∧ isAggT P t = false ∧ ∀ d, (Op.equalIn (d + 1) t ux uy).run P w = .ok r w := by
  unfold leafEq at h
  split at h
  · rename_i k0 k a k' b hk
    split at h
    · rename_i hkk
      cases h; cases hx; cases hy; subst hkk
      have hu := kd_int hk
      exact ⟨⟨_, hu⟩, by simp [isAggT, hu], fun d => run_equalIn_int w d t k k0 a b hu⟩
    · cases h
  · rename_i a b hk
    cases h; cases hx; cases hy
    have hu := kd_bool hk
    exact ⟨⟨_, hu⟩, by simp [isAggT, hu], fun d => run_equalIn_bool' w d t a b hu⟩
  · cases h

theorem rt_cell {w : World} {S : Cells} {cs : List T} {us : List Value} (hl : cs.length = us.length) (h : ∀ i (hi : i < cs.length) (hu : i < us.length), RT w S cs[i] us[i]) {i : Nat} {x : T} (hx : cs[i]? = some x) :
    ∃ v, us.toArray[i]? = some v ∧ RT w S x v := by
  obtain ⟨hi, he⟩ := List.getElem?_eq_some_iff.1 hx
  refine ⟨us[i], by simp [List.getElem?_eq_getElem (hl ▸ hi)], he ▸ h i hi (hl ▸ hi)⟩

theorem fs_run {P : Program} {w : World} {S : Cells} {xs ys : List T} {us vs : List Value} (h1 : xs.length = us.length) (h2 : ∀ i (hi : i < xs.length) (hu : i < us.length), RT w S xs[i] us[i])
    (h3 : ys.length = vs.length) (h4 : ∀ i (hi : i < ys.length) (hu : i < vs.length), RT w S ys[i] vs[i]) (d : Nat) :
    ∀ (fs : List Field) {r : Bool}, eqFs P xs ys fs = some r → (Op.eqFields (d + 1) us.toArray vs.toArray fs).run P w = .ok r w
  | [], r, h => by cases h; rfl
  | f :: fs, r, h => by
    simp only [eqFs] at h
    split at h
    · rename_i hn
      split at h
      · rename_i x y hx hy
        cases hq : leafEq P f.type x y with
        | none => simp [hq] at h
        | some q =>
          obtain ⟨u, h5, h6⟩ := rt_cell h1 h2 hx
          obtain ⟨v, h7, h8⟩ := rt_cell h3 h4 hy
          obtain ⟨⟨d', hu⟩, ha, hr⟩ := leaf_run hq h6 h8
          simp only [hq, Option.bind_some] at h
          simp only [Op.eqFields, if_pos hn, Sem.run_bind, run_part hu ha w h5, run_part hu ha w h7, Result.andThen_ok, hr d]
          cases q
          · simp at h; subst h; rfl
          · simp only [if_true] at h
            exact fs_run h1 h2 h3 h4 d fs h
      · cases h
    · cases h

theorem agg_run {P : Program} {op : BinOp} {t : TypeId} {xs ys : List T} {c : T} {us vs : List Value} {w : World} {S : Cells} (h : aggEq P op t xs ys = some c) (h1 : xs.length = us.length) (h2 : ∀ i (hi : i < xs.length) (hu : i < us.length), RT w S xs[i] us[i])
    (h3 : ys.length = vs.length) (h4 : ∀ i (hi : i < ys.length) (hu : i < vs.length), RT w S ys[i] vs[i]) (x y : Operand) :
    ∃ u, ((do eqGuard op t x y (.agg us.toArray) (.agg vs.toArray); binOp op t (.agg us.toArray) (.agg vs.toArray) : Sem Value)).run P w = .ok u w ∧ RT w S c u := by
  unfold aggEq at h
  split at h
  · rename_i hk
    obtain ⟨fs, hu⟩ := kd_struct hk
    have hf : P.underlying t = some (.struct (P.fieldsOf t)) := by simp [Program.fieldsOf, hu]
    have hff : fieldsT P t = (P.fieldsOf t).toList := by unfold fieldsT Program.fieldsOf; rw [hu]
    rw [hff] at h
    split at h
    · rename_i hg
      cases hr : eqFs P xs ys (P.fieldsOf t).toList with
      | none => simp [hr] at h
      | some r =>
        simp only [hr, Option.bind_some] at h
        have e1 : (Op.equalIn 10000 t (.agg us.toArray) (.agg vs.toArray)).run P w = .ok r w := (run_equalIn_struct w 9999 t _ _ hf hg.1).trans (fs_run h1 h2 h3 h4 9998 _ hr)
        simp only [Sem.run_bind, run_eqGuard_agg w op t x y _ _ hg.2, Result.andThen_ok]
        split at h
        · cases h; exact ⟨_, by rw [run_eql_struct, e1]; rfl, .bool _⟩
        · cases h; exact ⟨_, by rw [run_neq_struct, e1]; rfl, .bool _⟩
        · cases h
    · cases h
  · cases h

theorem binS_run {P : Program} {op : BinOp} {t : TypeId} {a b c : T} {ua ub : Value} {w : World} {S : Cells} (h : binS P op t a b = some c) (ha : RT w S a ua) (hb : RT w S b ub) (x y : Operand) :
    ∃ u, ((do eqGuard op t x y ua ub; binOp op t ua ub : Sem Value)).run P w = .ok u w ∧ RT w S c u := by
  unfold binS at h
  split at h
  · cases ha with
    | agg _ us h1 h2 => cases hb with
      | agg _ vs h3 h4 => exact agg_run h h1 h2 h3 h4 x y
  · exact binT_run h ha hb x y

theorem binV_run {P : Program} {op : BinOp} {t : TypeId} {a b : V} {c : T} {ua ub : Value} {w : World} {S : Cells} {H : Heap} {β : Bl} (h : binV P op t a b = some c) (ha : RV w S H β a ua) (hb : RV w S H β b ub) (x y : Operand) :
    ∃ u, ((do eqGuard op t x y ua ub; binOp op t ua ub : Sem Value)).run P w = .ok u w ∧ RT w S c u := by
  unfold binV at h
  split at h
  · exact binS_run h (rv_t ha) (rv_t hb) x y
  · split at h
    · rename_i hk
      obtain ⟨p, hu⟩ := kd_ptr hk
      have hb := rv_t hb
      cases hb
      cases ha with
      | ptr _ _ _ _ _ hp =>
        obtain ⟨⟨b0, k0, rfl⟩, _⟩ := hp
        exact fnil_run (equal_ptr hu fun d => by simp only [Op.equalIn, Sem.run_bind, run_und hu, Result.andThen_ok]; rfl) (fun x y => by cases op <;> rfl) h rfl rfl x y
    · cases h
  · split at h
    · rename_i hk
      obtain ⟨p, hu⟩ := kd_ptr hk
      have ha := rv_t ha
      cases ha
      cases hb with
      | ptr _ _ _ _ _ hp =>
        obtain ⟨⟨b0, k0, rfl⟩, _⟩ := hp
        exact fnil_run (equal_ptr hu fun d => by simp only [Op.equalIn, Sem.run_bind, run_und hu, Result.andThen_ok]; rfl) (fun x y => by cases op <;> rfl) h rfl rfl x y
    · cases h
  · split at h
    · rename_i hk
      obtain ⟨p, hu⟩ := kd_ptr hk
      have hb := rv_t hb
      cases hb
      cases ha with
      | tp _ _ _ _ _ _ _ _ =>
        exact fnil_run (equal_ptr hu fun d => by simp only [Op.equalIn, Sem.run_bind, run_und hu, Result.andThen_ok]; rfl) (fun x y => by cases op <;> rfl) h rfl rfl x y
    · cases h
  · split at h
    · rename_i hk
      obtain ⟨p, hu⟩ := kd_ptr hk
      have ha := rv_t ha
      cases ha
      cases hb with
      | tp _ _ _ _ _ _ _ _ =>
        exact fnil_run (equal_ptr hu fun d => by simp only [Op.equalIn, Sem.run_bind, run_und hu, Result.andThen_ok]; rfl) (fun x y => by cases op <;> rfl) h rfl rfl x y
    · cases h
  · split at h
    · rename_i hk
      obtain ⟨p, q, hu⟩ := kd_map hk
      have hb := rv_t hb
      cases hb
      cases ha with
      | mp _ _ hp =>
        obtain ⟨_, _, _, _, b0, _, _, rfl⟩ := hp
        exact fnil_run (equal_map hu fun d => by simp only [Op.equalIn, Sem.run_bind, run_und hu, Result.andThen_ok]; rfl) (fun x y => by cases op <;> rfl) h rfl rfl x y
    · cases h
  · cases h

theorem d_binOp (hR : Rel w S H β) (hA : Agree w S H β e ρ) {op t x y s} (h : opRun P (.binOp op t x y s) e H = some r) : Does P w S H β ρ ⟨dst, .binOp op t x y s, ty, pos, af, g⟩ r := by
  simp only [opRun] at h
  split at h
  · rename_i a b hx hy
    cases hc : binV P op t a b with
    | none => simp [hc] at h
    | some c =>
      simp [hc, ret] at h; subst h
      obtain ⟨u, h1, h2⟩ := binV_run hc (hA x _ hx) (hA y _ hy) x y
      refine does_value hR (u := u) ?_ (.t _ _ h2)
      simp only [execOp]
      rw [Sem.run_bind, h1]
      rfl
  · cases h

theorem d_unOp (hR : Rel w S H β) (hA : Agree w S H β e ρ) {op t x} (h : opRun P (.unOp op t x) e H = some r) : Does P w S H β ρ ⟨dst, .unOp op t x, ty, pos, af, g⟩ r := by
  simp only [opRun] at h
  split at h
  · rename_i a hx
    cases hc : unT op a with
    | none => simp [hc] at h
    | some c =>
      simp [hc, ret] at h; subst h
      have hv := rv_t (hA x _ hx)
      unfold unT at hc
      split at hc <;> first
        | (cases hc; generalize hρ : ρ x = q at hv; cases hv
           refine does_value hR (u := _) ?_ (.t _ _ (by first | exact .int _ _ | exact .bool _))
           simp [execOp, hρ, Op.unary, Op.intArith, Op.intBits])
        | (cases hc; done)
  · cases h

theorem bytes_cells {w : World} {S : Cells} : ∀ {xs : List T} {b : List UInt8}, bytesT xs = some b → ∃ ns : List Int, xs = ns.map (T.int .u8) ∧ b = ns.map fun n => UInt8.ofNat n.toNat
  | [], b, h => by simp [bytesT] at h; subst h; exact ⟨[], rfl, rfl⟩
  | x :: r, b, h => by
    unfold bytesT at h
    split at h
    · rename_i e; cases e
    · rename_i n r' e
      cases e
      obtain ⟨b', h1, rfl⟩ := Option.map_eq_some_iff.1 h
      obtain ⟨ns, rfl, rfl⟩ := bytes_cells (w := w) (S := S) h1
      exact ⟨n :: ns, rfl, rfl⟩
    · cases h
theorem bytes_fold : ∀ (ns : List Int) (s : ByteArray), ns.foldl (fun r n => r.push (UInt8.ofNat n.toNat)) s = ⟨s.data ++ (ns.map fun n => UInt8.ofNat n.toNat).toArray⟩
  | [], s => by simp
  | n :: ns, s => by
    rw [List.foldl_cons, bytes_fold ns]
    simp [ByteArray.push]
theorem bytes_run {P : Program} {w : World} {S : Cells} {ns : List Int} {u : Value} (h : RT w S (.sl (ns.map (T.int .u8))) u) : (Conv.bytesToString u).run P w = .ok (.string ⟨(ns.map fun n => UInt8.ofNat n.toNat).toArray⟩) w := by
  generalize hx : ns.map (T.int .u8) = xs at h
  cases h with
  | sl0 A c =>
    obtain rfl : ns = [] := by simpa using hx
    cases A with
    | none => rfl
    | some a =>
      rw [run_bytesToString w a 0 c [] (run_loadCells_list w a [] (by simp))]
      rfl
  | sl _ b o cap esz c hn hl hs hr =>
    subst hx
    have e : (ns.map (T.int .u8)).length = ns.length := by simp
    rw [run_bytesToString w ⟨b, o, none⟩ _ cap ns ?_]
    · rw [bytes_fold]; simp
    · have key : ∀ j v, (ns.map (Value.int .u8))[j]? = some v → w.cell? (Addr.add ⟨b, o, none⟩ j) = some v := ?_
      · have := run_loadCells_list (P := P) w ⟨b, o, none⟩ (ns.map (Value.int .u8)) key
        rw [List.length_map] at this ⊢
        exact this
      intro j v hj
      have hjl : j < ns.length := by
        have := (List.getElem?_eq_some_iff.1 hj).1
        simpa using this
      have hesz : esz = 1 := by
        have := hl j (by simpa using hjl)
        simp only [List.getElem_map] at this
        exact this.symm
      subst hesz
      have h1 := (hs j 0 (by simpa using hjl) (by omega)).2
      have h2 := hr j (by simpa using hjl) 0 (by simp [T.cells])
      simp only [List.getElem_map] at h2
      have h3 : RT w S (.int .u8 ns[j]) (c j 0) := h2
      rw [show o + j * 1 + 0 = o + j by omega] at h1
      simp [hjl] at hj
      subst hj
      generalize c j 0 = q at h3 h1
      cases h3
      rw [Addr.add_lit]; exact h1
theorem d_convert (hR : Rel w S H β) (hA : Agree w S H β e ρ) {s d x} (h : opRun P (.convert s d x) e H = some r) : Does P w S H β ρ ⟨dst, .convert s d x, ty, pos, af, g⟩ r := by
  simp only [opRun] at h
  cases hx : ev e x with
  | none => simp [hx] at h
  | some v =>
    simp only [hx, Option.bind_some] at h
    unfold convV at h
    split at h
    · rename_i k0 k k1 n hs hd
      simp [ret] at h; subst h
      refine does_value hR (u := .int k (k.wrap n)) ?_ (.t _ _ (.int _ _))
      have := rv_int (hA x _ hx)
      simp [execOp, convert, run_und (kd_int hs), run_und (kd_int hd), this, Conv.intToInt]
    · rename_i s' hs hd
      simp [ret] at h; subst h
      refine does_value hR (u := .string s') ?_ (.t _ _ (.str _))
      have := rv_str (hA x _ hx)
      simp [execOp, convert, run_und (kd_str hs), run_und (kd_str hd), this]
    · rename_i el xs hs hd
      split at h
      · rename_i hu
        cases hb : bytesT xs with
        | none => simp [hb] at h
        | some b =>
          simp [hb, ret] at h; subst h
          obtain ⟨ns, rfl, rfl⟩ := bytes_cells (w := w) (S := S) hb
          refine does_value hR (u := .string ⟨(ns.map fun n => UInt8.ofNat n.toNat).toArray⟩) ?_ (.t _ _ (.str _))
          have hv := hA x _ hx
          have he : P.underlying el = some (.int .u8) := by
            cases hk : kdOf P el <;> simp [hk, Kd.isU8] at hu
            rename_i k
            cases k <;> simp at hu
            exact kd_int hk
          generalize hq : ρ x = q at hv
          cases hv with
          | ex _ A n hrt =>
            have h2 := run_convert_bytes_string (P := P) w s d el A n n (kd_sl hs) he (kd_str hd)
            rw [bytes_run hrt] at h2
            simp [execOp, hq, h2]
      · cases h
    · cases h

theorem evs_rv (hA : Agree w S H β e ρ) : ∀ {l : List Operand} {vs : List V}, evs e l = some vs → vs.length = l.length ∧ ∀ i (hi : i < vs.length) (hl : i < (l.map ρ).length), RV w S H β vs[i] (l.map ρ)[i] := by
  intro l
  induction l with
  | nil => intro vs h; simp [evs] at h; subst h; exact ⟨rfl, fun i hi => by simp at hi⟩
  | cons x l ih =>
    intro vs h
    simp only [evs] at h
    cases hx : ev e x with
    | none => simp [hx] at h
    | some v =>
      cases hl : evs e l with
      | none => simp [hx, hl] at h
      | some us =>
        simp [hx, hl] at h; subst h
        obtain ⟨h1, h2⟩ := ih hl
        refine ⟨by simp [h1], fun i hi hl' => ?_⟩
        cases i with
        | zero => exact hA x v hx
        | succ i => exact h2 i (by simpa using hi) (by simpa using hl')

theorem d_makeFunc (hR : Rel w S H β) (hA : Agree w S H β e ρ) {f a b} (h : opRun P (.makeFunc (.func f) a b) e H = some r) : Does P w S H β ρ ⟨dst, .makeFunc (.func f) a b, ty, pos, af, g⟩ r := by
  simp only [opRun] at h
  have hrun : (execOp ρ ⟨dst, .makeFunc (.func f) a b, ty, pos, af, g⟩).run P w = .ok (.value (.func (.func f) (a.map ρ) (b.map ρ))) w := by
    simp [execOp, Instr.makeFunc]
  split at h
  · rename_i h1 h2
    simp [ret] at h; subst h
    refine does_value hR hrun (.t _ _ ?_)
    obtain ⟨ha, _⟩ := evs_rv hA h1
    obtain ⟨hb, _⟩ := evs_rv hA h2
    have ea : a = #[] := Array.eq_empty_of_size_eq_zero (by rw [← Array.length_toList]; exact ha.symm)
    have eb : b = #[] := Array.eq_empty_of_size_eq_zero (by rw [← Array.length_toList]; exact hb.symm)
    rw [ea, eb]
    simpa using RT.fn (w := w) (S := S) f
  · rename_i va vb _ h1 h2
    simp [ret] at h; subst h
    refine does_value hR hrun ?_
    obtain ⟨ha, ha'⟩ := evs_rv hA h1
    obtain ⟨hb, hb'⟩ := evs_rv hA h2
    have := RV.fn (w := w) (S := S) (H := H) (β := β) f va vb (a.toList.map ρ) (b.toList.map ρ) (by simp [ha]) (by simp [hb]) ha' hb'
    have em : ∀ a : Array Operand, (List.map ρ a.toList).toArray = a.map ρ := fun a => by rw [← Array.toList_map]
    rw [em, em] at this
    exact this
  · cases h

theorem d_field (hR : Rel w S H β) (hA : Agree w S H β e ρ) {s x f} (h : opRun P (.field s x f) e H = some r) : Does P w S H β ρ ⟨dst, .field s x f, ty, pos, af, g⟩ r := by
  simp only [opRun] at h
  cases hx : ev e x with
  | none => simp [hx] at h
  | some v =>
    simp only [hx, Option.bind_some] at h
    have hv := hA x v hx
    unfold fieldC at h
    cases hf : fld1 P s f with
    | none => simp [hf] at h
    | some off =>
      simp only [hf, Option.bind_some] at h
      split at h
      · rename_i hagg
        cases hc : v.cells[off]? with
        | none => simp [hc] at h
        | some u =>
          simp [hc, ret] at h; subst h
          unfold fld1 at hf
          split at hf
          · rename_i fs hu
            cases h1 : fs[f]? with
            | none => simp [h1] at hf
            | some fd =>
              simp only [h1, Option.bind_some] at hf
              split at hf
              · rename_i hty
                simp only [Option.some.injEq] at hf
                subst hf
                obtain ⟨d, i, g1, g2, g3, g4⟩ := ty_of hty
                obtain ⟨hl, hcell⟩ := hv.cells
                obtain ⟨hlt, hget⟩ := List.getElem?_eq_some_iff.1 hc
                have hq : ∃ us, ρ x = .agg us := by
                  generalize ρ x = q at hv
                  cases hv with
                  | t y _ hy => cases hy with
                    | agg _ us _ _ => exact ⟨_, rfl⟩
                    | _ => cases hagg
                  | agg _ us _ _ => exact ⟨_, rfl⟩
                  | _ => cases hagg
                obtain ⟨us, hq⟩ := hq
                rw [hq] at hl hcell
                have hlt' : fd.offset < us.size := by
                  have : (Value.agg us).cells.size = us.size := rfl
                  omega
                refine does_value hR (u := us[fd.offset]) ?_ (by rw [← hget]; exact hcell _ hlt hlt')
                simp only [execOp, Instr.field, run_und hu, Sem.run_bind, Result.andThen_ok, h1, hq, asAgg, Sem.run_pure, run_part g1 g3 w (Array.getElem?_eq_getElem hlt')]
              · cases hf
          · cases hf
      · cases h

theorem d_fieldAddr (hR : Rel w S H β) (hA : Agree w S H β e ρ) {s x f} (h : opRun P (.fieldAddr s x f) e H = some r) : Does P w S H β ρ ⟨dst, .fieldAddr s x f, ty, pos, af, g⟩ r := by
  simp only [opRun] at h
  cases hx : ev e x with
  | none => simp [hx] at h
  | some v =>
    simp only [hx, Option.bind_some] at h
    have hv := hA x v hx
    cases hf : fldOf P s f with
    | none => simp [hf, fieldV] at h
    | some p =>
      obtain ⟨off, sz⟩ := p
      have hfld : ∃ fs fd i, P.underlying s = some (.struct fs) ∧ fs[f]? = some fd ∧ P.info? fd.type = some i ∧ fd.offset = off ∧ i.size = sz := by
        unfold fldOf at hf
        split at hf
        · rename_i fs hu
          cases h1 : fs[f]? with
          | none => simp [h1] at hf
          | some fd =>
            cases h2 : P.info? fd.type with
            | none => simp [h1, h2] at hf
            | some i => simp [h1, h2] at hf; exact ⟨fs, fd, i, hu, h1, h2, hf.1, hf.2⟩
        · cases hf
      obtain ⟨fs, fd, i, hu, h1, h2, rfl, rfl⟩ := hfld
      cases hsz : i.size with
      | zero => cases v <;> simp [hf, fieldV, hsz] at h
      | succ m =>
        have hrun : ∀ b o, ρ x = .pointer (some ⟨b, o, none⟩) → (execOp ρ ⟨dst, .fieldAddr s x f, ty, pos, af, g⟩).run P w = .ok (.value (.pointer (some ⟨b, o + fd.offset, none⟩))) w := by
          intro b o hρ
          simp [execOp, Instr.fieldAt, run_und hu, h1, hρ, Instr.sureAddr, fieldPlace, run_size h2, hsz, add0]
        cases v with
        | ptr id n j o =>
          simp [hf, fieldV, hsz, ret] at h; subst h
          generalize hρ : ρ x = q at hv
          cases hv with
          | ptr _ _ _ _ _ hok =>
            obtain ⟨⟨b, k, rfl⟩, ob, ho', hn, hb⟩ := hok
            refine does_value hR (hrun _ _ hρ) (.ptr _ _ _ _ _ ⟨⟨_, _, rfl⟩, ob, ho', hn, fun e => ?_⟩)
            obtain ⟨hp, b', cap, h3, h4⟩ := hb e
            simp only [Value.pointer.injEq, Option.some.injEq, Addr.mk.injEq] at h4
            obtain ⟨rfl, rfl, _⟩ := h4
            exact ⟨hp, b, cap, h3, by rw [Nat.add_assoc]⟩
        | tp xs j o =>
          simp [hf, fieldV, hsz, ret] at h; subst h
          generalize hρ : ρ x = q at hv
          cases hv with
          | tp _ _ _ b o' esz hi harr =>
            refine does_value hR (hrun _ _ hρ) ?_
            have := RV.tp (w := w) (S := S) (H := H) (β := β) xs j (o + fd.offset) b o' esz hi harr
            simpa [Nat.add_assoc] using this
        | _ => simp [hf, fieldV, hsz] at h
end
end Go.Sim

namespace Go.Sim
variable [Base]

structure RowAt (w : World) (S : Cells) (H : Heap) (β : Bl) (el : List V) (b o esz : Nat) : Prop where
  len : ∀ i (hi : i < el.length), (el[i]).cells.length = esz
  cell : ∀ i (hi : i < el.length) j (hj : j < (el[i]).cells.length), ∃ x, w.cell? ⟨b, o + i * esz + j, none⟩ = some x ∧ RV w S H β (el[i]).cells[j] x

theorem Tcells (x : T) : (V.t x).cells = x.cells.map V.t := by cases x <;> rfl

theorem RowAt.of_arr {w S H β} {xs : List T} {b o esz : Nat} (h : Arr w S xs b o esz) : RowAt w S H β (xs.map V.t) b o esz := by
  refine ⟨fun i hi => ?_, fun i hi j hj => ?_⟩
  · have hi' : i < xs.length := by simpa using hi
    simp only [List.getElem_map, Tcells, List.length_map]
    exact h.1 i hi'
  · have hi' : i < xs.length := by simpa using hi
    simp only [List.getElem_map, Tcells, List.length_map] at hj
    obtain ⟨_, x, h1, h2⟩ := h.2 i hi' j hj
    refine ⟨x, h1, ?_⟩
    simp only [List.getElem_map, Tcells]
    exact .t _ _ h2

theorem sl_row {w S} {xs : List T} {u : Value} (h : RT w S (.sl xs) u) : ∃ base cap, u = .slice base xs.length cap ∧ xs.length ≤ cap ∧ (xs = [] ∨ ∃ b o esz, base = some ⟨b, o, none⟩ ∧ Arr w S xs b o esz) := by
  rcases h.arr with ⟨rfl, A, c, rfl⟩ | ⟨b, o, cap, esz, rfl, hc, ha⟩
  · exact ⟨A, c, rfl, Nat.zero_le _, .inl rfl⟩
  · exact ⟨_, cap, rfl, hc, .inr ⟨b, o, esz, rfl, ha⟩⟩

theorem slOf_rv {w S H β} (hR : Rel w S H β) {v : V} {u : Value} {el : List V} (h : slOf H v = some el) (hv : RV w S H β v u) :
    ∃ base cap, u = .slice base el.length cap ∧ el.length ≤ cap ∧ (el = [] ∨ ∃ b o esz, base = some ⟨b, o, none⟩ ∧ RowAt w S H β el b o esz) := by
  cases v with
  | t x =>
    cases x with
    | sl xs =>
      simp [slOf] at h; subst h
      obtain ⟨base, cap, rfl, hc, hh⟩ := sl_row (rv_t hv)
      refine ⟨base, cap, by simp, by simpa using hc, ?_⟩
      rcases hh with rfl | ⟨b, o, esz, rfl, ha⟩
      · exact .inl rfl
      · exact .inr ⟨b, o, esz, rfl, .of_arr ha⟩
    | _ => simp [slOf] at h
  | ex xs =>
    simp [slOf] at h; subst h
    cases hv with
    | ex _ A n hv =>
      obtain ⟨base, cap, he, hc, hh⟩ := sl_row hv
      simp only [Value.slice.injEq] at he
      obtain ⟨rfl, rfl, rfl⟩ := he
      refine ⟨A, xs.length, by simp, by simp, ?_⟩
      rcases hh with rfl | ⟨b, o, esz, rfl, ha⟩
      · exact .inl rfl
      · exact .inr ⟨b, o, esz, rfl, .of_arr ha⟩
  | ref id n =>
    cases hc : cur H id n with
    | none => simp [slOf, hc] at h
    | some o =>
      simp [slOf, hc] at h; subst h
      obtain ⟨h1, rfl⟩ := cur_at hc
      cases hv with
      | ref _ _ _ hok =>
        obtain ⟨_, o', ho', hn, hb⟩ := hok
        rw [h1] at ho'; cases ho'
        obtain ⟨hp, b, cap, hβ, rfl, hcap⟩ := hb rfl
        refine ⟨_, cap, rfl, hcap, .inr ⟨b, 0, o.esz, rfl, ?_⟩⟩
        obtain ⟨cs, Ty, hh, hsz, hcells⟩ := ((hR.obj id o b cap h1 hβ).live hp).row
        refine ⟨fun i hi => (hcells i hi).1, fun i hi j hj => ?_⟩
        obtain ⟨q, h2, h3⟩ := (hcells i hi).2 j hj
        exact ⟨q, by rw [cell_of_heap hh, Nat.zero_add]; exact h2, h3⟩
  | _ => simp [slOf] at h

theorem asInt_rv {w S H β} {v : V} {n : Int} {u : Value} (h : asInt v = some n) (hv : RV w S H β v u) : ∃ k, u = .int k n := by
  unfold asInt at h
  split at h
  · cases h; exact ⟨_, rv_int hv⟩
  · cases h

theorem elemSz_sl {P : Program} {e : TypeId} {n : Nat} (h : elemSz P (.sl e) = n) (h0 : 0 < n) : ∃ i, P.info? e = some i ∧ i.size = n := by
  cases hi : infoOf P e with
  | none => simp [elemSz, hi] at h; omega
  | some p => obtain ⟨i, h1, h2, _⟩ := info_of hi; exact ⟨i, h1, by rw [h2, ← h]; simp [elemSz, hi]⟩
theorem elemSz_arr {P : Program} {e : TypeId} {k n : Nat} (h : elemSz P (.arr k e) = n) (h0 : 0 < n) : ∃ i, P.info? e = some i ∧ i.size = n := by
  cases hi : infoOf P e with
  | none => simp [elemSz, hi] at h; omega
  | some p => obtain ⟨i, h1, h2, _⟩ := info_of hi; exact ⟨i, h1, by rw [h2, ← h]; simp [elemSz, hi]⟩

section
variable {P : Program} {w : World} {S : Cells} {H : Heap} {β : Bl} {e : Env} {ρ : Operand → Value} {r : Res} {dst : Option Tmp} {ty : TypeId} {pos : String} {af : Array Edge} {g : Option (Nat × Bool)}

theorem run_indexAt_sl {t el : TypeId} {i : TypeInfo} (hk : kdOf P t = .sl el) (hi : P.info? el = some i) {b o len cap : Nat} {k : IntKind} {n : Int} (h0 : 0 ≤ n) (h1 : n < len) :
    (Instr.indexAt t (.slice (some ⟨b, o, none⟩) len cap) (.int k n)).run P w = .ok (.pointer (some ⟨b, o + n.toNat * i.size, none⟩)) w := by
  simp [Instr.indexAt, asIntOf, run_und (kd_sl hk), h0, h1, run_size hi, add0]
theorem run_indexAt_arr {t el : TypeId} {i : TypeInfo} {len : Nat} (hk : kdOf P t = .arr len el) (hi : P.info? el = some i) {b o : Nat} {k : IntKind} {n : Int} (h0 : 0 ≤ n) (h1 : n < len) :
    (Instr.indexAt t (.pointer (some ⟨b, o, none⟩)) (.int k n)).run P w = .ok (.pointer (some ⟨b, o + n.toNat * i.size, none⟩)) w := by
  simp [Instr.indexAt, asIntOf, run_und (kd_arr hk), h0, h1, run_size hi, add0, Instr.sureAddr]


theorem d_indexAddr (hR : Rel w S H β) (hA : Agree w S H β e ρ) {t x ix} (h : opRun P (.indexAddr t x ix) e H = some r) : Does P w S H β ρ ⟨dst, .indexAddr t x ix, ty, pos, af, g⟩ r := by
  simp only [opRun] at h
  cases hx : ev e x with
  | none => simp [hx] at h
  | some v =>
    cases hi : ev e ix with
    | none => simp [hx, hi] at h
    | some vi =>
      cases hn : asInt vi with
      | none => simp [hx, hi, hn] at h
      | some n =>
        simp only [hx, hi, hn, Option.bind_some] at h
        have hv := hA x v hx
        obtain ⟨k, hρi⟩ := asInt_rv hn (hA ix vi hi)
        cases hq : indexV H (kdOf P t) (elemSz P (kdOf P t)) v n with
        | none => simp [hq] at h
        | some v' =>
          simp [hq] at h; subst h
          unfold indexV at hq
          generalize hkd : kdOf P t = kd at hq
          have hsl : ∀ (el : TypeId) (xs : List T) (A cap) (hk : kd = .sl el) (hρ : ρ x = .slice A xs.length cap) (hrt : RT w S (.sl xs) (.slice A xs.length cap)) (y : T) (hy : xs[n.toNat]? = some y) (h0 : 0 ≤ n) (hsz : y.cells.length = elemSz P kd) (hpos : 0 < elemSz P kd),
              Does P w S H β ρ ⟨dst, .indexAddr t x ix, ty, pos, af, g⟩ ⟨.tp xs n.toNat 0, H, effP (.tp xs n.toNat 0)⟩ := by
            intro el xs A cap hk hρ hrt y hy h0 hsz hpos
            subst hk
            obtain ⟨i, hi1, hi2⟩ := elemSz_sl rfl hpos
            have hlt : n.toNat < xs.length := by
              rcases Nat.lt_or_ge n.toNat xs.length with h' | h'
              · exact h'
              · rw [List.getElem?_eq_none h'] at hy; cases hy
            rw [List.getElem?_eq_getElem hlt] at hy; cases hy
            obtain ⟨base, cap', he, _, hh⟩ := sl_row hrt
            simp only [Value.slice.injEq, true_and] at he
            obtain ⟨rfl, rfl⟩ := he
            rcases hh with rfl | ⟨b, o, esz, rfl, ha⟩
            · simp at hlt
            · have he : esz = i.size := by rw [hi2, ← hsz]; exact (ha.1 _ hlt).symm
              refine does_value' hR (u := .pointer (some ⟨b, o + n.toNat * i.size, none⟩)) ?_ ?_
              · simp only [execOp, hρ, hρi]
                rw [Sem.run_bind, run_indexAt_sl hkd hi1 h0 (by omega)]
                rfl
              · rw [← he]
                simpa using RV.tp (w := w) (S := S) (H := H) (β := β) xs n.toNat 0 b o esz hlt ha
          split at hq
          · rename_i el xs
            cases hy : xs[n.toNat]? with
            | none => simp [hy] at hq
            | some y =>
              simp only [hy, Option.bind_some] at hq
              split at hq
              · rename_i hh
                cases hq
                have hrt := rv_t hv
                obtain ⟨base, cap', he, _, _⟩ := sl_row hrt
                rw [he] at hrt
                exact hsl el xs base cap' rfl he hrt y hy hh.1 hh.2.1 hh.2.2
              · cases hq
          · rename_i el xs
            cases hy : xs[n.toNat]? with
            | none => simp [hy] at hq
            | some y =>
              simp only [hy, Option.bind_some] at hq
              split at hq
              · rename_i hh
                cases hq
                generalize hρ : ρ x = q at hv
                cases hv with
                | ex _ A m hrt =>
                  obtain ⟨base, cap', he, _, _⟩ := sl_row hrt
                  simp only [Value.slice.injEq] at he
                  obtain ⟨rfl, rfl, rfl⟩ := he
                  exact hsl el xs _ _ rfl hρ hrt y hy hh.1 hh.2.1 hh.2.2
              · cases hq
          · rename_i el id m
            cases hc : cur H id m with
            | none => simp [hc] at hq
            | some o =>
              simp only [hc, Option.bind_some] at hq
              split at hq
              · rename_i hh
                obtain ⟨h0, h1, h2, h3⟩ := hh
                cases hq
                generalize hρ : ρ x = q at hv
                cases hv with
                | ref _ _ _ hok =>
                  obtain ⟨hc1, hc2⟩ := cur_at hc
                  obtain ⟨_, o', ho', hn', hb⟩ := hok
                  rw [hc1] at ho'; cases ho'
                  obtain ⟨hp, b, cap, hβ, rfl, hcap⟩ := hb hc2
                  obtain ⟨i, hi1, hi2⟩ := elemSz_sl rfl h3
                  refine does_value' hR (u := .pointer (some ⟨b, 0 + n.toNat * i.size, none⟩)) ?_ (.ptr _ _ _ _ _ ⟨⟨_, _, rfl⟩, o, hc1, hn', fun _ => ⟨hp, b, cap, hβ, ?_⟩⟩)
                  · simp only [execOp, hρ, hρi]
                    rw [Sem.run_bind, run_indexAt_sl hkd hi1 h0 h1]
                    rfl
                  · rw [hi2, ← h2]; simp
              · cases hq
          · rename_i len el id m j off
            split at hq
            · rename_i hh
              obtain ⟨h0, h1, h3⟩ := hh
              cases hq
              generalize hρ : ρ x = q at hv
              cases hv with
              | ptr _ _ _ _ _ hok =>
                obtain ⟨⟨b, k', rfl⟩, o', ho', hn', hb⟩ := hok
                obtain ⟨i, hi1, hi2⟩ := elemSz_arr rfl h3
                refine does_value' hR (u := .pointer (some ⟨b, k' + n.toNat * i.size, none⟩)) ?_ (.ptr _ _ _ _ _ ⟨⟨_, _, rfl⟩, o', ho', hn', fun e' => ?_⟩)
                · simp only [execOp, hρ, hρi]
                  rw [Sem.run_bind, run_indexAt_arr hkd hi1 h0 h1]
                  rfl
                · obtain ⟨hp, b', cap, h4, h5⟩ := hb e'
                  simp only [Value.pointer.injEq, Option.some.injEq, Addr.mk.injEq] at h5
                  obtain ⟨rfl, rfl, _⟩ := h5
                  exact ⟨hp, b, cap, h4, by rw [hi2, Nat.add_assoc]⟩
            · cases hq
          · rename_i len el xs j off
            split at hq
            · rename_i hh
              obtain ⟨h0, h1, h3⟩ := hh
              cases hq
              generalize hρ : ρ x = q at hv
              cases hv with
              | tp _ _ _ b o' esz hj harr =>
                obtain ⟨i, hi1, hi2⟩ := elemSz_arr rfl h3
                refine does_value' hR (u := .pointer (some ⟨b, o' + j * esz + off + n.toNat * i.size, none⟩)) ?_ ?_
                · simp only [execOp, hρ, hρi]
                  rw [Sem.run_bind, run_indexAt_arr hkd hi1 h0 h1]
                  rfl
                · have := RV.tp (w := w) (S := S) (H := H) (β := β) xs j (off + n.toNat * i.size) b o' esz hj harr
                  rw [← hi2]
                  simpa [Nat.add_assoc] using this
            · cases hq
          · cases hq

theorem d_index (hR : Rel w S H β) (hA : Agree w S H β e ρ) {t x ix} (h : opRun P (.index t x ix) e H = some r) : Does P w S H β ρ ⟨dst, .index t x ix, ty, pos, af, g⟩ r := by
  simp only [opRun] at h
  split at h
  · rename_i s n hk hx hi
    cases hvi : ev e ix with
    | none => simp [hvi] at hi
    | some vi =>
      simp only [hvi, Option.bind_some] at hi
      split at h
      · rename_i hh
        simp [ret] at h; subst h
        obtain ⟨k, hρi⟩ := asInt_rv hi (hA ix vi hvi)
        have hρ := rv_str (hA x _ hx)
        refine does_value hR (u := .int .u8 (s.get! n.toNat).toNat) ?_ (.t _ _ (.int _ _))
        have hlt : n.toNat < s.size := by omega
        have hget : s[n.toNat]? = some (s.get! n.toNat) := by
          rw [getElem?_pos s n.toNat hlt]
          congr 1
          cases s with
          | mk d =>
            have hd : n.toNat < d.size := hlt
            show d[n.toNat] = d[n.toNat]!
            exact (getElem!_pos d n.toNat hd).symm
        simp [execOp, Instr.index, asIntOf, hρ, hρi, run_und (kd_str hk), hh.1, hget]
      · cases h
  · rename_i len el cs n hk hx hi
    cases hvi : ev e ix with
    | none => simp [hvi] at hi
    | some vi =>
      simp only [hvi, Option.bind_some] at hi
      split at h
      · rename_i hh
        cases hc : cs[n.toNat]? with
        | none => simp [hc] at h
        | some y =>
          simp [hc, ret] at h; subst h
          obtain ⟨k, hρi⟩ := asInt_rv hi (hA ix vi hvi)
          have hv := rv_t (hA x _ hx)
          obtain ⟨d, inf, h1, h2, h3, h4⟩ := ty_of (eq_of_beq hh.2.2)
          generalize hu : ρ x = u at hv
          cases hv with
          | agg _ us hl hall =>
            obtain ⟨hlt, hget⟩ := List.getElem?_eq_some_iff.1 hc
            refine does_value hR (u := us[n.toNat]'(by omega)) ?_ (.t _ _ (by rw [← hget]; exact hall _ hlt (by omega)))
            have hsz : inf.size = 1 := h4
            simp only [execOp, Instr.index, asIntOf, hu, hρi, run_und (kd_arr hk), Sem.run_bind, Result.andThen_ok, Sem.run_pure, hh.1, hh.2.1, and_self, if_true, run_size h2, hsz, Nat.mul_one, part, run_agg h1, h3, Bool.false_eq_true, if_false, List.getElem?_toArray, List.getElem?_eq_getElem (show n.toNat < us.length by omega)]
      · cases h
  · rename_i len el cs n hk hx hi
    cases hvi : ev e ix with
    | none => simp [hvi] at hi
    | some vi =>
      simp only [hvi, Option.bind_some] at hi
      split at h
      · rename_i hh
        cases hc : cs[n.toNat]? with
        | none => simp [hc] at h
        | some y =>
          simp [hc, ret] at h; subst h
          obtain ⟨k, hρi⟩ := asInt_rv hi (hA ix vi hvi)
          have hv := hA x _ hx
          obtain ⟨d, inf, h1, h2, h3, h4⟩ := ty_of (eq_of_beq hh.2.2)
          generalize hu : ρ x = u at hv
          cases hv with
          | agg _ us hl hall =>
            obtain ⟨hlt, hget⟩ := List.getElem?_eq_some_iff.1 hc
            refine does_value hR (u := us[n.toNat]'(by omega)) ?_ (by rw [← hget]; exact hall _ hlt (by omega))
            have hsz : inf.size = 1 := h4
            simp only [execOp, Instr.index, asIntOf, hu, hρi, run_und (kd_arr hk), Sem.run_bind, Result.andThen_ok, Sem.run_pure, hh.1, hh.2.1, and_self, if_true, run_size h2, hsz, Nat.mul_one, part, run_agg h1, h3, Bool.false_eq_true, if_false, List.getElem?_toArray, List.getElem?_eq_getElem (show n.toNat < us.length by omega)]
      · cases h
  · cases h

theorem d_extract (hR : Rel w S H β) (hA : Agree w S H β e ρ) {x i} (h : opRun P (.extract x i) e H = some r) : Does P w S H β ρ ⟨dst, .extract x i, ty, pos, af, g⟩ r := by
  simp only [opRun] at h
  split at h
  · rename_i vs hx
    cases hi : vs[i]? with
    | none => simp [hi] at h
    | some v =>
      simp [hi, ret] at h; subst h
      have hv := hA x _ hx
      generalize hρ : ρ x = q at hv
      cases hv with
      | tup _ us hl hh =>
        have hlt : i < vs.length := by
          rcases Nat.lt_or_ge i vs.length with h' | h'
          · exact h'
          · rw [List.getElem?_eq_none h'] at hi; cases hi
        rw [List.getElem?_eq_getElem hlt] at hi; cases hi
        refine does_value hR (u := us[i]'(by omega)) ?_ (hh i hlt (by omega))
        have hlt' : i < us.length := by omega
        simp [execOp, Instr.extract, hρ, hlt']
  · rename_i vs hx
    cases hi : vs[i]? with
    | none => simp [hi] at h
    | some v =>
      simp [hi, ret] at h; subst h
      have hv := rv_t (hA x _ hx)
      generalize hρ : ρ x = q at hv
      cases hv with
      | tup _ us hl hh =>
        have hlt : i < vs.length := by
          rcases Nat.lt_or_ge i vs.length with h' | h'
          · exact h'
          · rw [List.getElem?_eq_none h'] at hi; cases hi
        rw [List.getElem?_eq_getElem hlt] at hi; cases hi
        refine does_value hR (u := us[i]'(by omega)) ?_ (.t _ _ (hh i hlt (by omega)))
        have hlt' : i < us.length := by omega
        simp [execOp, Instr.extract, hρ, hlt']
  · cases h
end
end Go.Sim

namespace Go.Sim
variable [Base]

theorem row_of {P : Program} {e : TypeId} {p : Nat × Nat} (h : rowOf P e = some p) : ∃ i zv, P.info? e = some i ∧ i.size = p.1 ∧ i.bytes = p.2 ∧ i.zero = some zv ∧ zv.cells.size = p.1 ∧ 0 < p.1 ∧ 0 < p.2 := by
  unfold rowOf row1 at h
  split at h
  · rename_i i z hi hz
    split at h
    · rename_i hh
      cases h
      obtain ⟨inf, h1, h2, h3⟩ := info_of hi
      obtain ⟨inf', zv, h4, h5, h6⟩ := zeroV_rv hz
      rw [h1] at h4; cases h4
      refine ⟨inf, zv, h1, h2, h3, h5, ?_, hh.2.1, hh.2.2⟩
      rw [← (h6 default (fun _ _ => False) [] []).cells.1]; exact hh.1
    · cases h
  · cases h

theorem first_row {P : Program} {w : World} {S : Cells} {H : Heap} {β : Bl} {el : List V} {base : Option Addr} {cap size : Nat}
    (h : el = [] ∨ ∃ b o esz, base = some ⟨b, o, none⟩ ∧ RowAt w S H β el b o esz) (hs : ∀ i (hi : i < el.length), (el[i]).cells.length = size) (hp : 0 < size) :
    ∃ news : List Value, news.length = el.length * size ∧ (∀ w' : World, w'.heap = w.heap → (Builtin.firstCells size el.length (.slice base el.length cap)).run P w' = .ok news.toArray w') ∧
      (∀ i (hi : i < el.length) j (hj : j < (el[i]).cells.length), ∃ x, news[i * size + j]? = some x ∧ RV w S H β (el[i]).cells[j] x) ∧
      ((el.all (fun y => y.storable)) = true → ∀ u ∈ news, u.oneCell' = true) := by
  by_cases he : el = []
  · subst he
    refine ⟨[], by simp, fun w' _ => ?_, fun i hi => by simp at hi, fun _ u hu => by simp at hu⟩
    cases base with
    | none => rfl
    | some a =>
      simp only [Builtin.firstCells, List.length_nil, Nat.zero_mul]
      have := run_loadCells_list (P := P) w' a [] (fun j v hj => by simp at hj)
      simpa using this
  · obtain ⟨b, o, esz, rfl, hr⟩ := h.resolve_left he
    have hpos : 0 < el.length := List.length_pos_iff.2 he
    have hesz : esz = size := by rw [← hr.len 0 hpos, hs 0 hpos]
    subst hesz
    have hcell : ∀ k, k < el.length * esz → ∃ (hi : k / esz < el.length) (hj : k % esz < (el[k / esz]).cells.length) (x : Value), w.cell? ⟨b, o + k, none⟩ = some x ∧ RV w S H β (el[k / esz]).cells[k % esz] x := by
      intro k hk
      have hi : k / esz < el.length := (Nat.div_lt_iff_lt_mul hp).2 hk
      have hj : k % esz < (el[k / esz]).cells.length := by rw [hs _ hi]; exact Nat.mod_lt _ hp
      obtain ⟨x, h1, h2⟩ := hr.cell _ hi _ hj
      refine ⟨hi, hj, x, ?_, h2⟩
      have e : o + k / esz * esz + k % esz = o + k := by have := Nat.div_add_mod k esz; rw [Nat.mul_comm] at this; omega
      rw [e] at h1; exact h1
    have hget : ∀ k, k < el.length * esz → (((List.range (el.length * esz)).map fun k => (w.cell? ⟨b, o + k, none⟩).getD undef))[k]? = w.cell? ⟨b, o + k, none⟩ := by
      intro k hk
      obtain ⟨_, _, x, h1, _⟩ := hcell k hk
      simp [hk, h1]
    refine ⟨(List.range (el.length * esz)).map fun k => (w.cell? ⟨b, o + k, none⟩).getD undef, by simp, fun w' hw => ?_, fun i hi j hj => ?_, fun hall u hu => ?_⟩
    · have := run_loadCells_list (P := P) w' ⟨b, o, none⟩ ((List.range (el.length * esz)).map fun k => (w.cell? ⟨b, o + k, none⟩).getD undef) (fun j v hj => by
        have hlt : j < el.length * esz := by
          rcases Nat.lt_or_ge j (el.length * esz) with h' | h'
          · exact h'
          · rw [List.getElem?_eq_none (by simpa using h')] at hj; cases hj
        rw [hget j hlt] at hj
        rw [add0, ← hj]
        exact cell_same (by rw [hw]) _)
      simpa [Builtin.firstCells] using this
    · have hj' : j < esz := by rw [← hs i hi]; exact hj
      have hk : i * esz + j < el.length * esz := by
        have : (i + 1) * esz ≤ el.length * esz := Nat.mul_le_mul_right _ hi
        rw [Nat.succ_mul] at this; omega
      obtain ⟨x, h1, h2⟩ := hr.cell i hi j hj
      refine ⟨x, ?_, h2⟩
      rw [hget _ hk, ← Nat.add_assoc]; exact h1
    · simp only [List.mem_map, List.mem_range] at hu
      obtain ⟨k, hk, rfl⟩ := hu
      obtain ⟨hi, hj, x, h1, h2⟩ := hcell k hk
      rw [h1]
      simp only [Option.getD_some]
      refine cell1_one h2 ?_
      have := List.all_eq_true.1 hall _ (List.getElem_mem hi)
      simp only [V.storable, Bool.and_eq_true, List.all_eq_true] at this
      exact this.2 _ (List.getElem_mem hj)

theorem Rel.more {w : World} {S : Cells} {H : Heap} {β : Bl} (hR : Rel w S H β) {id : Nat} {o : Obj} {b cap : Nat} (ho : H[id]? = some o) (hp : 0 < o.esz) (hβ : β[id]? = some (b, cap))
    {ys : List V} (hcap : o.el.length + ys.length ≤ cap) {cs : Array Value} {T : TypeId} (hcs : w.heap[b]? = some (.cells cs T (0, 0))) {cs' : Array Value} (hsz : cs'.size = cs.size)
    (hold : ∀ j, j < o.el.length * o.esz → cs'[j]? = cs[j]?)
    (hc : ∀ i (hi : i < ys.length), (ys[i]).cells.length = o.esz ∧ ∀ j (hj : j < (ys[i]).cells.length), ∃ u, cs'[(o.el.length + i) * o.esz + j]? = some u ∧ RV w S H β (ys[i]).cells[j] u) :
    ∃ S', Ext w S H β (w.setRow b cs') S' (H.set id { o with el := o.el ++ ys }) β ∧ Rel (w.setRow b cs') S' (H.set id { o with el := o.el ++ ys }) β := by
  have hO := (hR.obj id o b cap ho hβ).live hp
  have hid : id < H.length := by
    rcases Nat.lt_or_ge id H.length with h' | h'
    · exact h'
    · rw [List.getElem?_eq_none h'] at ho; cases ho
  have hlt : b < w.heap.size := heap_lt hcs
  have hbc : (w.setRow b cs').heap[b]? = some (.cells cs' T (0, 0)) := setRow_heap w b cs cs' T (0, 0) hcs
  let S' : Cells := fun b' j => S b' j ∨ (b' = b ∧ o.st = true ∧ j < (o.el.length + ys.length) * o.esz)
  have hs : Stay w S (w.setRow b cs') S' := fun b' j hS => ⟨.inl hS, by
    by_cases e : b' = b
    · subst e
      rw [cell_of_heap hbc, cell_of_heap hcs]
      exact hold j ((hO.st j).1 hS).2
    · exact cell_same (setRow_other w b b' cs' e) j⟩
  have hg : Grow H β (H.set id { o with el := o.el ++ ys }) β := by
    intro id' o' ho'
    by_cases e : id = id'
    · subst e
      rw [ho] at ho'; cases ho'
      exact ⟨{ o with el := o.el ++ ys }, by simp [hid], by simp, fun _ => ⟨rfl, rfl⟩, fun h0 => by omega⟩
    · exact ⟨o', by rw [List.getElem?_set_ne e]; exact ho', Nat.le_refl _, fun _ => ⟨rfl, rfl⟩, fun h1 h2 => ⟨h1, h2, rfl⟩⟩
  refine ⟨S', ⟨rfl, rfl, by simp, fun b' _ hn => setRow_other w b b' cs' (fun e => hn id cap (e ▸ hβ)), hs, ?_, hg, fun id _ c e => .inl ⟨id, c, e⟩⟩,
    ⟨by simp [hR.len], hR.injSet ho (.inl hp), ?_, ?_, hR.base.trans hs⟩⟩
  · rintro b' j (h | ⟨rfl, _, _⟩)
    · exact .inl h
    · exact .inr (.inr ⟨id, cap, hβ⟩)
  · rintro b' j (h | ⟨rfl, _, _⟩)
    · simpa using hR.lt b' j h
    · simpa using hlt
  · intro id' o' b' c' ho' hβ'
    by_cases e : id = id'
    · subst e
      rw [hβ] at hβ'; cases hβ'
      simp [hid] at ho'
      subst ho'
      refine ⟨⟨_, hbc, rfl⟩, fun _ => ?_, fun h0 => absurd hp (by simp only at h0; omega)⟩
      refine ⟨hO.pos, by simpa using hcap, fun j => ?_, cs', T, hbc, ?_, fun i hi => ?_⟩
      · simp only [List.length_append]
        constructor
        · rintro (h | ⟨_, h1, h2⟩)
          · obtain ⟨h1, h2⟩ := (hO.st j).1 h
            refine ⟨h1, Nat.lt_of_lt_of_le h2 (Nat.mul_le_mul_right _ (by omega))⟩
          · exact ⟨h1, h2⟩
        · rintro ⟨h1, h2⟩; exact .inr ⟨rfl, h1, h2⟩
      · obtain ⟨cs2, T2, h1, h2, _⟩ := hO.row
        rw [hcs] at h1; cases h1
        rw [hsz]; exact h2
      · obtain ⟨cs2, T2, h1, h2, h3⟩ := hO.row
        rw [hcs] at h1; cases h1
        simp only at hi ⊢
        by_cases hlo : i < o.el.length
        · rw [List.getElem_append_left hlo]
          refine ⟨(h3 i hlo).1, fun j hj => ?_⟩
          obtain ⟨u, h4, h5⟩ := (h3 i hlo).2 j hj
          refine ⟨u, ?_, h5.mono hs hg⟩
          rw [hold]
          · exact h4
          · have h6 : (i + 1) * o.esz ≤ o.el.length * o.esz := Nat.mul_le_mul_right _ hlo
            rw [Nat.succ_mul] at h6
            have := (h3 i hlo).1
            omega
        · have hi' : i - o.el.length < ys.length := by simp at hi; omega
          rw [List.getElem_append_right (by omega)]
          refine ⟨(hc _ hi').1, fun j hj => ?_⟩
          obtain ⟨u, h4, h5⟩ := (hc _ hi').2 j hj
          refine ⟨u, ?_, h5.mono hs hg⟩
          rw [show o.el.length + (i - o.el.length) = i by omega] at h4
          exact h4
    · rw [List.getElem?_set_ne e] at ho'
      have hne : o'.alive → b' ≠ b := fun ha e' => e (hR.inj id id' b cap c' o o' ho ho' (.inl hp) ha hβ (e' ▸ hβ'))
      refine (hR.obj id' o' b' c' ho' hβ').other hs hg (told_row hcs) (fun ha => setRow_other w b b' cs' (hne ha)) (fun ha j => ⟨?_, .inl⟩)
      rintro (h | ⟨h, _⟩)
      · exact h
      · exact absurd h (hne ha)

theorem Rel.moved {w w0 : World} {S : Cells} {H : Heap} {β : Bl} (hR : Rel w S H β) (hw : w0 = w.drew) {id : Nat} {o : Obj} {b cap cap' : Nat} (ho : H[id]? = some o) (hp : 0 < o.esz) (hβ : β[id]? = some (b, cap))
    {ys : List V} (hcap : o.el.length + ys.length ≤ cap') {T : TypeId} {cs' : Array Value} (hsz : cs'.size = cap' * o.esz)
    (hc : ∀ i (hi : i < (o.el ++ ys).length), ((o.el ++ ys)[i]).cells.length = o.esz ∧ ∀ j (hj : j < ((o.el ++ ys)[i]).cells.length), ∃ u, cs'[i * o.esz + j]? = some u ∧ RV w S H β ((o.el ++ ys)[i]).cells[j] u) (hy : ys ≠ []) :
    ∃ S', Ext w S H β (w0.alloc (.cells cs' T)) S' (H.set id { o with el := o.el ++ ys }) (β.set id (w.heap.size, cap')) ∧ Rel (w0.alloc (.cells cs' T)) S' (H.set id { o with el := o.el ++ ys }) (β.set id (w.heap.size, cap')) := by
  subst hw
  have hO := (hR.obj id o b cap ho hβ).live hp
  have hid : id < H.length := by
    rcases Nat.lt_or_ge id H.length with h' | h'
    · exact h'
    · rw [List.getElem?_eq_none h'] at ho; cases ho
  have hidβ : id < β.length := by rw [hR.len]; exact hid
  have hold : ∀ b', b' < w.heap.size → (w.drew.alloc (.cells cs' T)).heap[b']? = w.heap[b']? := fun b' hb' => alloc_old w.drew (.cells cs' T) b' hb'
  have hnew : (w.drew.alloc (.cells cs' T)).heap[w.heap.size]? = some (.cells cs' T) := alloc_new w.drew (.cells cs' T)
  have hsize : (w.drew.alloc (.cells cs' T)).heap.size = w.heap.size + 1 := alloc_size w.drew _
  let S' : Cells := fun b' j => S b' j ∨ (b' = w.heap.size ∧ o.st = true ∧ j < (o.el.length + ys.length) * o.esz)
  have hs : Stay w S (w.drew.alloc (.cells cs' T)) S' := fun b' j hS => ⟨.inl hS, cell_same (hold b' (hR.lt b' j hS)) j⟩
  have hypos : 0 < ys.length := List.length_pos_iff.2 hy
  have hg : Grow H β (H.set id { o with el := o.el ++ ys }) (β.set id (w.heap.size, cap')) := by
    intro id' o' ho'
    by_cases e : id = id'
    · subst e
      rw [ho] at ho'; cases ho'
      refine ⟨{ o with el := o.el ++ ys }, by simp [hid], by simp, fun h => ?_, fun h0 => by omega⟩
      simp at h; exact absurd h hy
    · exact ⟨o', by rw [List.getElem?_set_ne e]; exact ho', Nat.le_refl _, fun _ => ⟨rfl, by rw [List.getElem?_set_ne e]⟩, fun h1 h2 => ⟨h1, h2, by rw [List.getElem?_set_ne e]⟩⟩
  have hβ' : ∀ (i b' c' : Nat), (β.set id (w.heap.size, cap'))[i]? = some (b', c') → (i = id ∧ b' = w.heap.size ∧ c' = cap') ∨ (i ≠ id ∧ β[i]? = some (b', c')) := by
    intro i b' c' h
    by_cases e : id = i
    · subst e
      simp [hidβ] at h
      exact .inl ⟨rfl, h.1.symm, h.2.symm⟩
    · rw [List.getElem?_set_ne e] at h
      exact .inr ⟨fun h' => e h'.symm, h⟩
  refine ⟨S', ⟨rfl, rfl, by rw [hsize]; omega, fun b' hb' _ => hold b' hb', hs, ?_, hg, ?_⟩,
    ⟨by simp [hR.len], ?_, ?_, ?_, hR.base.trans hs⟩⟩
  · rintro b' j (h | ⟨rfl, _, _⟩)
    · exact .inl h
    · exact .inr (.inl (Nat.le_refl _))
  · intro i b' c' h
    rcases hβ' i b' c' h with ⟨_, rfl, _⟩ | ⟨_, h⟩
    · exact .inr (Nat.le_refl _)
    · exact .inl ⟨i, c', h⟩
  · intro i j b' c' c'' oi oj g1 g2 a1 a2 h1 h2
    rcases hβ' i b' c' h1 with ⟨e1, hb1, _⟩ | ⟨hn1, h3⟩ <;> rcases hβ' j b' c'' h2 with ⟨e2, hb2, _⟩ | ⟨hn2, h4⟩
    · rw [e1, e2]
    · have := hR.block h4; omega
    · have := hR.block h3; omega
    · rw [List.getElem?_set_ne (fun e => hn1 e.symm)] at g1
      rw [List.getElem?_set_ne (fun e => hn2 e.symm)] at g2
      exact hR.inj i j b' c' c'' oi oj g1 g2 a1 a2 h3 h4
  · rintro b' j (h | ⟨rfl, _, _⟩)
    · have := hR.lt b' j h; rw [hsize]; omega
    · rw [hsize]; omega
  · intro id' o' b' c' ho' hb'
    rcases hβ' id' b' c' hb' with ⟨rfl, rfl, rfl⟩ | ⟨hn, h⟩
    · simp [hid] at ho'
      subst ho'
      refine ⟨⟨_, hnew, rfl⟩, fun _ => ?_, fun h0 => absurd hp (by simp only at h0; omega)⟩
      refine ⟨hO.pos, by simpa using hcap, fun j => ?_, cs', T, hnew, hsz, fun i hi => ⟨(hc i hi).1, fun j hj => ?_⟩⟩
      · simp only [List.length_append]
        constructor
        · rintro (h | ⟨_, h1, h2⟩)
          · exact absurd (hR.lt _ _ h) (by omega)
          · exact ⟨h1, h2⟩
        · rintro ⟨h1, h2⟩; exact .inr ⟨rfl, h1, h2⟩
      · obtain ⟨u, h4, h5⟩ := (hc i hi).2 j hj
        exact ⟨u, h4, h5.mono hs hg⟩
    · rw [List.getElem?_set_ne (fun e => hn e.symm)] at ho'
      have hlt := hR.block h
      refine (hR.obj id' o' b' c' ho' h).mono hs hg (hold b' hlt) (fun j => ⟨?_, .inl⟩)
      rintro (h | ⟨rfl, _⟩)
      · exact h
      · omega
end Go.Sim

namespace Go.Sim
variable [Base]
theorem run_getM {P : Program} {w : World} {b : Nat} {es : Array MapEntry} {clock : Nat} (h : w.heap[b]? = some (.map es clock)) : (getObj b).run P w = .ok (.map es clock) w := by simp [getObj, Sem.run, h]
def putM (w : World) (b : Nat) (o : Go.Obj) : World := { w with heap := w.heap.setIfInBounds b o }
theorem run_setM {P : Program} {w : World} {b : Nat} {es : Array MapEntry} {clock : Nat} (o : Go.Obj) (h : w.heap[b]? = some (.map es clock)) : (setObj b o).run P w = .ok () (putM w b o) := by simp [setObj, Sem.run, h, putM]
theorem putM_size (w : World) (b : Nat) (o : Go.Obj) : (putM w b o).heap.size = w.heap.size := by simp [putM]
theorem putM_at {w : World} {b : Nat} (o : Go.Obj) (h : b < w.heap.size) : (putM w b o).heap[b]? = some o := by simp [putM, h]
theorem putM_other {w : World} {b b' : Nat} (o : Go.Obj) (h : b' ≠ b) : (putM w b o).heap[b']? = w.heap[b']? := by
  unfold putM
  simp only
  rw [Array.getElem?_setIfInBounds_ne (Ne.symm h)]
theorem putM_same {w : World} {b : Nat} {o : Go.Obj} (h : w.heap[b]? = some o) : putM w b o = w := by
  have hl := heap_lt h
  unfold putM
  have : w.heap.setIfInBounds b o = w.heap := by
    apply Array.ext
    · simp
    · intro i h1 h2
      by_cases e : b = i
      · subst e
        rw [Array.getElem?_eq_getElem hl] at h
        simp only [Option.some.injEq] at h
        simp [h]
      · rw [Array.getElem_setIfInBounds_ne (by simpa using h1) e]
  rw [this]
theorem mapM_strK : ∀ {l : List V} {ks : List ByteArray}, l.mapM strK = some ks → l = keysV ks
  | [], ks, h => by simp at h; subst h; rfl
  | v :: l, ks, h => by
    rw [List.mapM_cons] at h
    cases hv : strK v with
    | none => simp [hv] at h
    | some s =>
      cases hl : l.mapM strK with
      | none => simp [hv, hl] at h
      | some r =>
        simp [hv, hl] at h
        subst h
        have hvs : v = .t (.str s) := by
          unfold strK at hv
          split at hv
          · cases hv; rfl
          · cases hv
        rw [hvs, mapM_strK hl]; rfl
theorem keysV_gone (ks : List ByteArray) (n : Nat) (st : Bool) : (⟨keysV ks, n, st⟩ : Obj).gone = false := by
  cases ks <;> rfl
theorem keysV_inj : ∀ {a b : List ByteArray}, keysV a = keysV b → a = b
  | [], [], _ => rfl
  | [], _ :: _, h => by cases h
  | _ :: _, [], h => by cases h
  | x :: a, y :: b, h => by
    have h1 : V.t (.str x) :: keysV a = V.t (.str y) :: keysV b := h
    simp only [List.cons.injEq, V.t.injEq, T.str.injEq] at h1
    rw [h1.1, keysV_inj h1.2]
theorem Rel.mapAt {w : World} {S : Cells} {H : Heap} {β : Bl} (hR : Rel w S H β) {id : Nat} {o : Obj} {ks : List ByteArray} {u : Value} (hv : RV w S H β (.mp id) u) (ho : H[id]? = some o) (hk : keysOf o = some ks) :
    o.esz = 0 ∧ o.el = keysV ks ∧ o.gone = false ∧ ∃ (b cap : Nat) (es : Array MapEntry) (clock : Nat), u = .map (some b) ∧ β[id]? = some (b, cap) ∧ w.heap[b]? = some (.map es clock) ∧ es.toList.map (fun e => (e.key, e.val)) = ks.map fun k => (Value.string k, Value.bool true) := by
  unfold keysOf at hk
  split at hk
  · rename_i h0
    have hel := mapM_strK hk
    have hg : o.gone = false := by
      have := keysV_gone ks 0 false
      unfold Obj.gone at this ⊢
      rw [hel]; exact this
    cases hv with
    | mp _ _ h =>
      obtain ⟨o', ho', _, _, b, cap, hβ, rfl⟩ := h
      obtain ⟨ks', es, clock, h1, h2, h3⟩ := ((hR.obj id o b cap ho hβ).map h0 hg).row
      have : ks' = ks := keysV_inj (h1.symm.trans hel)
      subst this
      exact ⟨h0, hel, hg, b, cap, es, clock, rfl, hβ, h2, h3⟩
  · cases hk
theorem ba_eq {a b : ByteArray} : (a == b) = true ↔ a = b := by
  cases a with
  | mk x => cases b with
    | mk y =>
      show (x == y) = true ↔ _
      rw [beq_iff_eq]
      exact ⟨fun h => by rw [h], fun h => by cases h; rfl⟩
theorem find_no {s : ByteArray} : ∀ {es : List MapEntry} {ks : List ByteArray} {i : Nat}, es.map (fun e => (e.key, e.val)) = ks.map (fun k => (Value.string k, Value.bool true)) → ks.contains s = false → Instr.findNow .string (.string s) es i = some none
  | [], ks, i, _, _ => rfl
  | e :: es, [], i, h, _ => by simp at h
  | e :: es, k :: ks, i, h, hc => by
    simp only [List.map_cons, List.cons.injEq, Prod.mk.injEq] at h
    obtain ⟨⟨h1, h2⟩, h3⟩ := h
    simp only [List.contains_cons, Bool.or_eq_false_iff] at hc
    unfold Instr.findNow
    rw [h1]
    simp only [Instr.sameNow, hc.1]
    exact find_no h3 hc.2
theorem find_yes {s : ByteArray} : ∀ {es : List MapEntry} {ks : List ByteArray} {i : Nat}, es.map (fun e => (e.key, e.val)) = ks.map (fun k => (Value.string k, Value.bool true)) → ks.contains s = true → ∃ (j : Nat) (e : MapEntry), Instr.findNow .string (.string s) es i = some (some (i + j, .bool true)) ∧ es[j]? = some e ∧ e.key = .string s ∧ e.val = .bool true
  | [], [], i, _, h => by simp at h
  | [], _ :: _, i, h, _ => by simp at h
  | e :: es, [], i, h, _ => by simp at h
  | e :: es, k :: ks, i, h, hc => by
    simp only [List.map_cons, List.cons.injEq, Prod.mk.injEq] at h
    obtain ⟨⟨h1, h2⟩, h3⟩ := h
    by_cases hs : (s == k) = true
    · refine ⟨0, e, ?_, rfl, ?_, h2⟩
      · unfold Instr.findNow
        rw [h1]
        simp only [Instr.sameNow, hs, h2]; rfl
      · rw [h1, ba_eq.1 hs]
    · have hs' : (s == k) = false := by simpa using hs
      simp only [List.contains_cons, hs', Bool.false_or] at hc
      obtain ⟨j, e', h4, h5, h6, h7⟩ := find_yes (i := i + 1) h3 hc
      refine ⟨j + 1, e', ?_, by simpa using h5, h6, h7⟩
      unfold Instr.findNow
      rw [h1]
      simp only [Instr.sameNow, hs']
      rw [h4]; congr 3; omega
theorem Rel.mapGrow {w : World} {S : Cells} {H : Heap} {β : Bl} (hR : Rel w S H β) {id : Nat} {o : Obj} {b cap : Nat} {ks : List ByteArray} {es : Array MapEntry} {clock clock' : Nat} {e' : MapEntry} {s : ByteArray}
    (ho : H[id]? = some o) (h0 : o.esz = 0) (hel : o.el = keysV ks) (hgn : o.gone = false) (hβ : β[id]? = some (b, cap)) (hh : w.heap[b]? = some (.map es clock)) (he : es.toList.map (fun e => (e.key, e.val)) = ks.map fun k => (Value.string k, Value.bool true))
    (hk : e'.key = .string s) (hv : e'.val = .bool true) :
    Ext w S H β (putM w b (.map (es.push e') clock')) S (H.set id { o with el := o.el ++ [.t (.str s)] }) β ∧ Rel (putM w b (.map (es.push e') clock')) S (H.set id { o with el := o.el ++ [.t (.str s)] }) β := by
  have hb := heap_lt hh
  have hM := (hR.obj id o b cap ho hβ).map h0 hgn
  have hid : id < H.length := by
    rcases Nat.lt_or_ge id H.length with h' | h'
    · exact h'
    · rw [List.getElem?_eq_none h'] at ho; cases ho
  have hs : Stay w S (putM w b (.map (es.push e') clock')) S := fun b' j hS => ⟨hS, cell_same (putM_other _ fun e => hM.st j (by rw [← e]; exact hS)) j⟩
  have hgn2 : ({ o with el := o.el ++ [.t (.str s)] } : Obj).gone = false := by
    have := keysV_gone (ks ++ [s]) 0 false
    unfold Obj.gone at this ⊢
    simp only [hel]
    simpa [keysV] using this
  have hg : Grow H β (H.set id { o with el := o.el ++ [.t (.str s)] }) β := by
    intro id' o' ho'
    by_cases e : id = id'
    · subst e
      rw [ho] at ho'; cases ho'
      exact ⟨{ o with el := o.el ++ [.t (.str s)] }, by simp [hid], by simp, fun h => by simp at h, fun h1 h2 => ⟨h1, hgn2, rfl⟩⟩
    · exact ⟨o', by rw [List.getElem?_set_ne e]; exact ho', Nat.le_refl _, fun _ => ⟨rfl, rfl⟩, fun h1 h2 => ⟨h1, h2, rfl⟩⟩
  have ht : ∀ (b' : Nat) (g : Go.Obj), w.heap[b']? = some g → told g = true → ∃ g', (putM w b (.map (es.push e') clock')).heap[b']? = some g' ∧ told g' = true := by
    intro b' g h1 h2
    by_cases e : b' = b
    · subst e; exact ⟨_, putM_at _ hb, rfl⟩
    · exact ⟨g, by rw [putM_other _ e]; exact h1, h2⟩
  refine ⟨⟨rfl, rfl, by rw [putM_size]; exact Nat.le_refl _, fun b' _ hn => putM_other _ (fun e => hn id cap (e ▸ hβ)), hs, fun _ _ h => .inl h, hg, fun id _ c e => .inl ⟨id, c, e⟩⟩,
    ⟨by simp [hR.len], hR.injSet ho (.inr hgn), fun b' j hS => by rw [putM_size]; exact hR.lt b' j hS, ?_, hR.base.trans hs⟩⟩
  intro id' o' b' c' ho' hβ'
  by_cases e : id = id'
  · subst e
    rw [hβ] at hβ'; cases hβ'
    simp [hid] at ho'
    subst ho'
    refine ⟨⟨_, putM_at _ hb, rfl⟩, fun hp => absurd hp (by simp only; omega), fun _ _ => ⟨hM.st, ks ++ [s], es.push e', clock', by simp [hel, keysV], putM_at _ hb, by simp [he, hk, hv]⟩⟩
  · rw [List.getElem?_set_ne e] at ho'
    have hne : o'.alive → b' ≠ b := fun ha e' => e (hR.inj id id' b cap c' o o' ho ho' (.inr hgn) ha hβ (e' ▸ hβ'))
    exact (hR.obj id' o' b' c' ho' hβ').other hs hg ht (fun ha => putM_other _ (hne ha)) (fun _ _ => Iff.rfl)
end Go.Sim

namespace Go.Sim
variable [Base]
section
variable {P : Program} {w : World} {S : Cells} {H : Heap} {β : Bl} {e : Env} {ρ : Operand → Value} {r : Res} {dst : Option Tmp} {ty : TypeId} {pos : String} {af : Array Edge} {g : Option (Nat × Bool)}

theorem run_builtin {b : Builtin} {c : Call} (hc : c.callee = .builtin b) (w : World) : ∃ cs, (execOp ρ ⟨dst, .call c, ty, pos, af, g⟩).run P w = (builtin b c.argTypes ty cs (c.args.map ρ)).run P w := by
  exact ⟨_, by simp [execOp, resolve, hc, invoke]; rfl⟩

theorem args2 {a : Array Operand} {l : List Operand} (h : a.toList = l) : a.map ρ = (l.map ρ).toArray := by
  rw [← h, ← Array.toList_map]

theorem evs_one {l : List Operand} {v : V} (h : evs e l = some [v]) : ∃ x, l = [x] ∧ ev e x = some v := by
  cases l with
  | nil => simp [evs] at h
  | cons x l =>
    simp only [evs] at h
    cases hx : ev e x with
    | none => simp [hx] at h
    | some v' =>
      cases hl : evs e l with
      | none => simp [hx, hl] at h
      | some vs =>
        simp [hx, hl] at h
        obtain ⟨rfl, rfl⟩ := h
        cases l with
        | nil => exact ⟨x, rfl, hx⟩
        | cons y l => 
          simp only [evs] at hl
          cases hy : ev e y <;> cases hl' : evs e l <;> simp [hy, hl'] at hl

theorem evs_two {l : List Operand} {v u : V} (h : evs e l = some [v, u]) : ∃ x y, l = [x, y] ∧ ev e x = some v ∧ ev e y = some u := by
  cases l with
  | nil => simp [evs] at h
  | cons x l =>
    simp only [evs] at h
    cases hx : ev e x with
    | none => simp [hx] at h
    | some v' =>
      cases hl : evs e l with
      | none => simp [hx, hl] at h
      | some vs =>
        simp [hx, hl] at h
        obtain ⟨rfl, rfl⟩ := h
        obtain ⟨y, rfl, hy⟩ := evs_one hl
        exact ⟨x, y, rfl, hx, hy⟩

theorem len_run {t : TypeId} {rt : Array TypeId} {v : V} {u : Value} (ht : rt[0]? = some t) (h : lenT H (kdOf P t) v = some r) (hR : Rel w S H β) (hv : RV w S H β v u) :
    ∃ x, (Builtin.len_ rt ty #[u]).run P w = .ok x w ∧ RV w S H β r.v x ∧ r.H = H := by
  unfold lenT at h
  generalize hk : kdOf P t = kd at h
  split at h
  · simp at h; subst h
    have hv := rv_t hv
    cases hv
    obtain ⟨p, q, hu⟩ := kd_map (t := t) (P := P) (by rw [hk]; rfl)
    exact ⟨_, by simp [Builtin.len_, ht, run_und hu]; rfl, .t _ _ (.int _ _), rfl⟩
  · rename_i id
    cases ho : H[id]? with
    | none => simp [ho] at h
    | some o =>
      cases hks : keysOf o with
      | none => simp [ho, hks] at h
      | some ks =>
        simp [ho, hks] at h; subst h
        obtain ⟨p, q, hu⟩ := kd_map (t := t) (P := P) (by rw [hk]; rfl)
        obtain ⟨_, _, _, b, cap, es, clock, rfl, _, hh, he⟩ := hR.mapAt hv ho hks
        have hsz : es.size = ks.length := by have := congrArg List.length he; simpa using this
        refine ⟨.int .i64 ks.length, ?_, .t _ _ (.int _ _), rfl⟩
        simp [Builtin.len_, ht, run_und hu, run_getM hh, hsz, goInt]
  · rename_i s
    simp [ret] at h; subst h
    have := rv_str hv; subst this
    exact ⟨_, by simp [Builtin.len_, ht, run_und (kd_str hk)]; rfl, .t _ _ (.int _ _), rfl⟩
  · cases h
  · rename_i el hns
    cases hn : lenOf H v with
    | none => simp [hn] at h
    | some n =>
      simp [hn] at h; subst h
      have hu : ∃ A c, u = .slice A n c := by
        cases v with
        | t x =>
          cases x with
          | str s => exact (hns _ rfl).elim
          | sl xs =>
            simp [lenOf] at hn; subst hn
            obtain ⟨base, cap, he, _, _⟩ := sl_row (rv_t hv)
            exact ⟨_, _, he⟩
          | _ => simp [lenOf] at hn
        | ex xs =>
          simp [lenOf] at hn; subst hn
          cases hv with
          | ex _ A m hrt =>
            obtain ⟨base, cap, he, _, _⟩ := sl_row hrt
            simp only [Value.slice.injEq] at he
            exact ⟨A, m, by rw [he.2.1]⟩
        | ref id m =>
          cases hc : cur H id m with
          | none => simp [lenOf, hc] at hn
          | some o =>
            simp [lenOf, hc] at hn; subst hn
            cases hv with | ref _ _ _ hok => exact hok.1
        | _ => simp [lenOf] at hn
      obtain ⟨A, c, rfl⟩ := hu
      exact ⟨_, by simp [Builtin.len_, ht, run_und (kd_sl hk)]; rfl, .t _ _ (.int _ _), rfl⟩
  · cases h

theorem run_val {s : Sem Value} {x : Value} {w w' : World} (h : s.run P w = .ok x w') : ((do pure (Next.value (← s))) : Sem Next).run P w = .ok (.value x) w' := by
  rw [Sem.run_bind, h]; rfl

theorem appended_run {t xt el : TypeId} {i : TypeInfo} (hk : P.underlying t = some (.slice el)) (hx : ∃ f, P.underlying xt = some (.slice f)) (hi : P.info? el = some i)
    {base xb : Option Addr} {n cap m mc : Nat} {news : List Value} (hf : ∀ w' : World, w'.heap = w.heap → (Builtin.firstCells i.size m (.slice xb m mc)).run P w' = .ok news.toArray w') (hroom : n + m ≤ cap) :
    (Builtin.append_ #[t, xt] ty #[.slice base n cap, .slice xb m mc]).run P w = match base with
      | some a => ((storeCells (a.add (n * i.size)) news).run P w).andThen fun _ w' => .ok (.slice base (n + m) cap) w'
      | none => .ok (.slice none (n + m) cap) w := by
  obtain ⟨f, hx⟩ := hx
  have h1 := hf w rfl
  cases base <;> simp [Builtin.append_, run_und hk, run_und hx, run_size hi, Builtin.lenOf, hroom, h1]

theorem regrown_run {t xt el : TypeId} {i : TypeInfo} {z : Value} (hk : P.underlying t = some (.slice el)) (hx : ∃ f, P.underlying xt = some (.slice f)) (hi : P.info? el = some i) (hz : i.zero = some z)
    {base xb : Option Addr} {n cap m mc : Nat} {olds news : List Value} (hfo : ∀ w' : World, w'.heap = w.heap → (Builtin.firstCells i.size n (.slice base n cap)).run P w' = .ok olds.toArray w')
    (hf : ∀ w' : World, w'.heap = w.heap → (Builtin.firstCells i.size m (.slice xb m mc)).run P w' = .ok news.toArray w') (hroom : cap < n + m)
    (hb : (n + m) * i.bytes ≤ 2 ^ 46) (hp : 0 < i.bytes) :
    (Builtin.append_ #[t, xt] ty #[.slice base n cap, .slice xb m mc]).run P w =
      .ok (.slice (some ⟨w.heap.size, 0, none⟩) (n + m) (grownCap w (n + m) cap el))
        (w.drew.alloc (.cells (olds.toArray ++ news.toArray ++ Builtin.zeroCells z.cells (grownCap w (n + m) cap el - (n + m))) el)) := by
  obtain ⟨f, hx⟩ := hx
  have h1 := hf w.drew rfl
  have h2 := hfo w.drew rfl
  have hnr : ¬ (n + m ≤ cap) := by omega
  have hle : n + m ≤ (n + m) * i.bytes := Nat.le_mul_of_pos_right _ hp
  have h63 : ¬ (9223372036854775807 < ((n : Int) + (m : Int))) := by omega
  have hfit := growslice_fits (bytes := i.bytes) hroom (by omega)
  have h48 : ¬ (281474976710656 < Builtin.nextslicecap (n + m) cap * i.bytes) := by omega
  simp [Builtin.append_, run_und hk, run_und hx, sizeOf, typeInfo, zeroValue, hi, hz, Builtin.lenOf, hnr, h63, h48, Question.forced, h1, h2, newRow, grownCap]
  congr 2
  apply Array.ext'
  simp [List.append_assoc]

theorem zeroCells_size {z : Array Value} {n : Nat} : (Builtin.zeroCells z n).size = n * z.size := by simp [Builtin.zeroCells]

theorem fits_len {sz : Nat} {ys : List V} (h : ys.all (fits sz) = true) : (∀ i (hi : i < ys.length), (ys[i]).cells.length = sz) ∧ ys.all (fun y => y.storable) = true := by
  rw [List.all_eq_true] at h
  refine ⟨fun i hi => ?_, List.all_eq_true.2 fun y hy => ?_⟩
  · have := h _ (List.getElem_mem hi)
    simp [fits] at this; exact this.2
  · have := h y hy
    simp [fits] at this; exact this.1

theorem rows_two {w S H β} {xs ys : List V} {olds news rest : List Value} {sz : Nat} (hlo : olds.length = xs.length * sz) (hx : ∀ i (hi : i < xs.length), (xs[i]).cells.length = sz) (hy : ∀ i (hi : i < ys.length), (ys[i]).cells.length = sz)
    (hln : news.length = ys.length * sz)
    (ho : ∀ i (hi : i < xs.length) j (hj : j < (xs[i]).cells.length), ∃ x, olds[i * sz + j]? = some x ∧ RV w S H β (xs[i]).cells[j] x)
    (hn : ∀ i (hi : i < ys.length) j (hj : j < (ys[i]).cells.length), ∃ x, news[i * sz + j]? = some x ∧ RV w S H β (ys[i]).cells[j] x) :
    ∀ i (hi : i < (xs ++ ys).length), ((xs ++ ys)[i]).cells.length = sz ∧ ∀ j (hj : j < ((xs ++ ys)[i]).cells.length), ∃ u, (olds ++ news ++ rest)[i * sz + j]? = some u ∧ RV w S H β ((xs ++ ys)[i]).cells[j] u := by
  intro i hi
  by_cases h : i < xs.length
  · rw [List.getElem_append_left h]
    refine ⟨hx i h, fun j hj => ?_⟩
    obtain ⟨x, h1, h2⟩ := ho i h j hj
    refine ⟨x, ?_, h2⟩
    have h3 : i * sz + j < olds.length := by
      rcases Nat.lt_or_ge (i * sz + j) olds.length with h' | h'
      · exact h'
      · rw [List.getElem?_eq_none h'] at h1; cases h1
    rw [List.append_assoc, List.getElem?_append_left h3]; exact h1
  · have hi' : i - xs.length < ys.length := by simp at hi; omega
    rw [List.getElem_append_right (by omega)]
    refine ⟨hy _ hi', fun j hj => ?_⟩
    obtain ⟨x, h1, h2⟩ := hn _ hi' j hj
    refine ⟨x, ?_, h2⟩
    have h3 : (i - xs.length) * sz + j < news.length := by
      rcases Nat.lt_or_ge ((i - xs.length) * sz + j) news.length with h' | h'
      · exact h'
      · rw [List.getElem?_eq_none h'] at h1; cases h1
    have h4 : i * sz + j = olds.length + ((i - xs.length) * sz + j) := by
      have : i * sz = xs.length * sz + (i - xs.length) * sz := by rw [← Nat.add_mul]; congr 1; omega
      omega
    rw [h4, List.append_assoc, List.getElem?_append_right (by omega), Nat.add_sub_cancel_left, List.getElem?_append_left h3]; exact h1

theorem append_does {t xt el xel : TypeId} {s x : V} {us ux : Value} {ys : List V} (hk : kdOf P t = .sl el) (hkx : kdOf P xt = .sl xel) (hR : Rel w S H β) (hs : RV w S H β s us) (hx : RV w S H β x ux) (hys : slOf H x = some ys)
    (h : appendV (rowOf P el) H s ys = some r) : ∃ u w' S' β', (Builtin.append_ #[t, xt] ty #[us, ux]).run P w = .ok u w' ∧ Ext w S H β w' S' r.H β' ∧ Rel w' S' r.H β' ∧ RV w' S' r.H β' r.v u := by
  unfold appendV at h
  cases hrow : rowOf P el with
  | none => simp [hrow] at h
  | some p =>
    simp only [hrow, Option.bind_some] at h
    obtain ⟨i, zv, hi, hisz, hib, hiz, hzsz, hp1, hp2⟩ := row_of hrow
    obtain ⟨xb, xc, rfl, hxc, hxrow⟩ := slOf_rv hR hys hx
    split at h
    · rename_i hfit
      obtain ⟨hfl, hfs⟩ := fits_len hfit
      obtain ⟨news, hnl, hnf, hncell, hnone⟩ := first_row (P := P) (w := w) (S := S) (H := H) (β := β) (base := xb) (cap := xc) hxrow hfl hp1
      rw [← hisz] at hnf
      split at h
      · -- exact
        rename_i xs
        cases hs with
        | ex _ A n hrt =>
          obtain ⟨base, cap, he, _, hxs⟩ := sl_row hrt
          simp only [Value.slice.injEq] at he
          obtain ⟨rfl, rfl, rfl⟩ := he
          split at h
          · rename_i hemp
            have hy0 : ys = [] := by simpa using hemp
            subst hy0
            have hn0 : news = [] := List.length_eq_zero_iff.1 (by simpa using hnl)
            subst hn0
            simp [ret] at h; subst h
            have hrun := appended_run (ty := ty) (P := P) (w := w) (kd_sl hk) ⟨_, kd_sl hkx⟩ hi (base := A) (xb := xb) (n := xs.length) (cap := xs.length) (m := 0) (mc := xc) hnf (by omega)
            refine ⟨.slice A xs.length xs.length, w, S, β, ?_, Ext.refl _ _ _ _, hR, .ex _ _ _ hrt⟩
            simp only [List.length_nil]
            rw [hrun]
            cases A <;> simp [storeCells]
          · rename_i hemp
            have hyne : ys ≠ [] := by simpa using hemp
            have hypos : 0 < ys.length := List.length_pos_iff.2 hyne
            split at h
            · rename_i hh
              obtain ⟨hroom, hxfit⟩ := hh
              simp at h; subst h
              obtain ⟨hxl, hxs1⟩ := fits_len hxfit
              have hrow1 : (xs.map V.t) = [] ∨ ∃ b o esz, A = some ⟨b, o, none⟩ ∧ RowAt w S H β (xs.map V.t) b o esz := by
                rcases hxs with rfl | ⟨b, o, esz, rfl, ha⟩
                · exact .inl rfl
                · exact .inr ⟨b, o, esz, rfl, .of_arr ha⟩
              obtain ⟨olds, hol, hof, hocell, _⟩ := first_row (P := P) (w := w) (S := S) (H := H) (β := β) (base := A) (cap := xs.length) hrow1 hxl hp1
              simp only [List.length_map] at hol hof
              rw [← hisz] at hof
              have hbyt : (xs.length + ys.length) * i.bytes ≤ 2 ^ 46 := by rw [hib]; simpa [roomOk] using hroom
              have hrun := regrown_run (ty := ty) (P := P) (w := w) (kd_sl hk) ⟨_, kd_sl hkx⟩ hi hiz (base := A) (xb := xb) (n := xs.length) (cap := xs.length) (m := ys.length) (mc := xc) hof hnf (by omega) hbyt (by omega)
              have hge := grownCap_ge w (xs.length + ys.length) xs.length el
              have hpush := hR.push (w := w) (cs := (olds.toArray ++ news.toArray ++ Builtin.zeroCells zv.cells (grownCap w (xs.length + ys.length) xs.length el - (xs.length + ys.length)))) (T := el) (o := ⟨xs.map .t ++ ys, p.1, false⟩) (cap := grownCap w (xs.length + ys.length) xs.length el) rfl hp1
                (by simpa using hge) (by
                  simp only [Array.size_append, List.size_toArray, zeroCells_size, hol, hnl, hzsz]
                  rw [← Nat.add_mul, ← Nat.add_mul]; congr 1; omega) (by
                  have := rows_two (w := w) (S := S) (H := H) (β := β) (xs := xs.map V.t) (ys := ys) (olds := olds) (news := news) (rest := (Builtin.zeroCells zv.cells (grownCap w (xs.length + ys.length) xs.length el - (xs.length + ys.length))).toList) (by simpa using hol) hxl hfl hnl hocell hncell
                  intro k hk'
                  refine ⟨(this k hk').1, fun j hj => ?_⟩
                  obtain ⟨u, h1, h2⟩ := (this k hk').2 j hj
                  refine ⟨u, ?_, h2⟩
                  rw [← Array.getElem?_toList]
                  simpa [List.append_assoc] using h1)
              obtain ⟨hE, hR'⟩ := hpush
              refine ⟨_, _, S, _, hrun, ⟨hE.os, hE.output, hE.size, hE.keep, hE.stay, hE.new, hE.grow, hE.own⟩, ⟨hR'.len, hR'.inj, hR'.lt, fun id o b cap h1 h2 => ?_, hR'.base⟩, .ref _ _ _ ⟨⟨_, _, rfl⟩, ⟨xs.map .t ++ ys, p.1, false⟩, by simp, by simp, fun _ => ⟨hp1, w.heap.size, grownCap w (xs.length + ys.length) xs.length el, ?_, rfl, hge⟩⟩⟩
              · exact (hR'.obj id o b cap h1 h2).mono (fun _ _ h => ⟨h, rfl⟩) (Grow.refl _ _) rfl (fun _ => Iff.rfl)
              · rw [← hR.len]; simp
            · cases h
      · -- one's own
        rename_i id n
        cases hc : cur H id n with
        | none => simp [hc] at h
        | some o =>
          simp only [hc, Option.bind_some] at h
          obtain ⟨ho, rfl⟩ := cur_at hc
          have hs' := hs
          cases hs with
          | ref _ _ _ hok =>
            obtain ⟨_, o', ho', _, hb⟩ := hok
            rw [ho] at ho'; cases ho'
            obtain ⟨hpo, b, cap, hβ, rfl, hcap⟩ := hb rfl
            split at h
            · rename_i hemp
              have hy0 : ys = [] := by simpa using hemp
              subst hy0
              have hn0 : news = [] := List.length_eq_zero_iff.1 (by simpa using hnl)
              subst hn0
              simp [ret] at h; subst h
              have hrun := appended_run (ty := ty) (P := P) (w := w) (kd_sl hk) ⟨_, kd_sl hkx⟩ hi (base := some ⟨b, 0, none⟩) (xb := xb) (n := o.el.length) (cap := cap) (m := 0) (mc := xc) hnf (by omega)
              refine ⟨.slice (some ⟨b, 0, none⟩) o.el.length cap, w, S, β, ?_, Ext.refl _ _ _ _, hR, hs'⟩
              simp only [List.length_nil]
              rw [hrun]
              simp [storeCells]
            · rename_i hemp
              have hyne : ys ≠ [] := by simpa using hemp
              have hypos : 0 < ys.length := List.length_pos_iff.2 hyne
              split at h
              · rename_i hh
                obtain ⟨hroom, hoe⟩ := hh
                simp at h; subst h
                have hO := (hR.obj id o b cap ho hβ).live hpo
                obtain ⟨cs, Ty, hcs, hcsz, hcells⟩ := hO.row
                have hbyt : (o.el.length + ys.length) * i.bytes ≤ 2 ^ 46 := by rw [hib]; simpa [roomOk] using hroom
                have hol1 : ∀ k (hk : k < o.el.length), (o.el[k]).cells.length = p.1 := fun k hk => by rw [← hoe]; exact (hcells k hk).1
                rcases Nat.lt_or_ge cap (o.el.length + ys.length) with hlt | hge
                · -- moved
                  have hrow1 : o.el = [] ∨ ∃ b' o' esz, (some ⟨b, 0, none⟩ : Option Addr) = some ⟨b', o', none⟩ ∧ RowAt w S H β o.el b' o' esz := by
                    refine .inr ⟨b, 0, o.esz, rfl, fun k hk => (hcells k hk).1, fun k hk j hj => ?_⟩
                    obtain ⟨q, h2, h3⟩ := (hcells k hk).2 j hj
                    exact ⟨q, by rw [cell_of_heap hcs, Nat.zero_add]; exact h2, h3⟩
                  obtain ⟨olds, hol, hof, hocell, _⟩ := first_row (P := P) (w := w) (S := S) (H := H) (β := β) (base := some ⟨b, 0, none⟩) (cap := cap) hrow1 hol1 hp1
                  rw [← hisz] at hof
                  have hrun := regrown_run (ty := ty) (P := P) (w := w) (kd_sl hk) ⟨_, kd_sl hkx⟩ hi hiz (base := some ⟨b, 0, none⟩) (xb := xb) (n := o.el.length) (cap := cap) (m := ys.length) (mc := xc) hof hnf hlt hbyt (by omega)
                  have hge := grownCap_ge w (o.el.length + ys.length) cap el
                  obtain ⟨S', hE, hR'⟩ := hR.moved (w0 := w.drew) rfl ho hpo hβ (ys := ys) (cap' := grownCap w (o.el.length + ys.length) cap el) hge (T := el)
                    (cs' := (olds.toArray ++ news.toArray ++ Builtin.zeroCells zv.cells (grownCap w (o.el.length + ys.length) cap el - (o.el.length + ys.length)))) (by
                      simp only [Array.size_append, List.size_toArray, zeroCells_size, hol, hnl, hzsz, hoe]
                      rw [← Nat.add_mul, ← Nat.add_mul]; congr 1; omega) (by
                      rw [hoe]
                      have := rows_two (w := w) (S := S) (H := H) (β := β) (xs := o.el) (ys := ys) (olds := olds) (news := news) (rest := (Builtin.zeroCells zv.cells (grownCap w (o.el.length + ys.length) cap el - (o.el.length + ys.length))).toList) hol hol1 hfl hnl hocell hncell
                      intro k hk'
                      refine ⟨(this k hk').1, fun j hj => ?_⟩
                      obtain ⟨u, h1, h2⟩ := (this k hk').2 j hj
                      refine ⟨u, ?_, h2⟩
                      rw [← Array.getElem?_toList]
                      simpa [List.append_assoc] using h1) hyne
                  have hidH : id < H.length := by
                    rcases Nat.lt_or_ge id H.length with h' | h'
                    · exact h'
                    · rw [List.getElem?_eq_none h'] at ho; cases ho
                  refine ⟨_, _, S', _, hrun, hE, hR', .ref _ _ _ ⟨⟨_, _, rfl⟩, { o with el := o.el ++ ys }, by simp [hidH], by simp, fun _ => ⟨hpo, w.heap.size, _, ?_, rfl, hge⟩⟩⟩
                  have : id < β.length := by rw [hR.len]; exact hidH
                  simp [this]
                · -- in place
                  have hrun := appended_run (ty := ty) (P := P) (w := w) (kd_sl hk) ⟨_, kd_sl hkx⟩ hi (base := some ⟨b, 0, none⟩) (xb := xb) (n := o.el.length) (cap := cap) (m := ys.length) (mc := xc) hnf hge
                  have hfit2 : o.el.length * p.1 + news.length ≤ cs.size := by
                    rw [hcsz, hnl, hoe, ← Nat.add_mul]; exact Nat.mul_le_mul_right _ hge
                  have hst := run_storeCells_at P b (o.el.length * p.1) Ty news 0 cs w hcs (by simpa using hfit2) (hnone hfs)
                  simp only [Nat.add_zero] at hst
                  have hget := splice_get cs.toList (o.el.length * p.1) news (by simpa using hfit2)
                  obtain ⟨S', hE, hR'⟩ := hR.more ho hpo hβ (ys := ys) hge hcs (cs' := (cs.toList.take (o.el.length * p.1) ++ news ++ cs.toList.drop (o.el.length * p.1 + news.length)).toArray) (by
                      have := splice_len cs.toList (o.el.length * p.1) news (by simpa using hfit2)
                      simpa [splice] using this) (by
                      intro j hj
                      have := hget j
                      rw [← hoe, if_pos hj] at this
                      rw [List.getElem?_toArray, ← hoe]
                      rw [show (cs.toList.take (o.el.length * o.esz) ++ news ++ cs.toList.drop (o.el.length * o.esz + news.length)) = splice cs.toList (o.el.length * o.esz) news from rfl, this]
                      simp) (by
                      intro k hk'
                      refine ⟨by rw [hoe]; exact hfl k hk', fun j hj => ?_⟩
                      obtain ⟨u, h1, h2⟩ := hncell k hk' j hj
                      refine ⟨u, ?_, h2⟩
                      have h3 : k * p.1 + j < news.length := by
                        rcases Nat.lt_or_ge (k * p.1 + j) news.length with h' | h'
                        · exact h'
                        · rw [List.getElem?_eq_none h'] at h1; cases h1
                      have h4 := hget ((o.el.length + k) * o.esz + j)
                      have h5 : (o.el.length + k) * o.esz + j = o.el.length * p.1 + (k * p.1 + j) := by rw [hoe, Nat.add_mul]; omega
                      rw [h5, if_neg (by omega), if_pos (by omega), Nat.add_sub_cancel_left] at h4
                      rw [h5, List.getElem?_toArray]
                      exact h4.trans h1)
                  refine ⟨_, _, S', β, ?_, hE, hR', .ref _ _ _ ⟨⟨some ⟨b, 0, none⟩, cap, rfl⟩, { o with el := o.el ++ ys }, ?_, by simp, fun _ => ⟨hpo, b, cap, hβ, rfl, hge⟩⟩⟩
                  · rw [hrun]
                    simp only [add0, Nat.zero_add]
                    rw [hisz, hst]
                    rfl
                  · have hidH : id < H.length := by
                      rcases Nat.lt_or_ge id H.length with h' | h'
                      · exact h'
                      · rw [List.getElem?_eq_none h'] at ho; cases ho
                    simp [hidH]
              · cases h
      · cases h
    · cases h
end
end Go.Sim

namespace Go.Sim
variable [Base]
section
variable {P : Program} {w : World} {S : Cells} {H : Heap} {β : Bl} {e : Env} {ρ : Operand → Value} {r : Res} {dst : Option Tmp} {ty : TypeId} {pos : String} {af : Array Edge} {g : Option (Nat × Bool)}

theorem rowAt_take {el : List V} {b o esz n : Nat} (h : RowAt w S H β el b o esz) : RowAt w S H β (el.take n) b o esz := by
  refine ⟨fun i hi => ?_, fun i hi j hj => ?_⟩
  · rw [List.getElem_take]; exact h.len i (by simp at hi; omega)
  · have hi' : i < el.length := by simp at hi; omega
    have e : (el.take n)[i] = el[i] := List.getElem_take
    simp only [e] at hj ⊢
    exact h.cell i hi' j hj

theorem firstCells_base {size n : Nat} {base : Option Addr} {m m' c c' : Nat} : Builtin.firstCells size n (.slice base m c) = Builtin.firstCells size n (.slice base m' c') := by
  cases base <;> rfl

theorem copy_does {t xt el : TypeId} {d x : V} {ud ux : Value} (hk : kdOf P t = .sl el) (hR : Rel w S H β) (hd : RV w S H β d ud) (hx : RV w S H β x ux)
    (h : copyV (elemSz P (.sl el)) H d x = some r) : ∃ u w' S' β', (Builtin.copy_ #[t, xt] ty #[ud, ux]).run P w = .ok u w' ∧ Ext w S H β w' S' r.H β' ∧ Rel w' S' r.H β' ∧ RV w' S' r.H β' r.v u := by
  unfold copyV at h
  split at h
  · rename_i id n ys hys
    cases hc : cur H id n with
    | none => simp [hc] at h
    | some o =>
      simp only [hc] at h
      split at h
      · rename_i hh
        obtain ⟨hst, hoe, hfit⟩ := hh
        cases h
        obtain ⟨ho, rfl⟩ := cur_at hc
        obtain ⟨xb, xc, rfl, hxc, hxrow⟩ := slOf_rv hR hys hx
        cases hd with
        | ref _ _ _ hok =>
          obtain ⟨_, o', ho', _, hb⟩ := hok
          rw [ho] at ho'; cases ho'
          obtain ⟨hp, b, cap, hβ, rfl, hcap⟩ := hb rfl
          have hO := (hR.obj id o b cap ho hβ).live hp
          obtain ⟨cs, Ty, hcs, hcsz, hcells⟩ := hO.row
          obtain ⟨i, hi, hisz⟩ := elemSz_sl (P := P) (e := el) hoe.symm hO.pos
          have hyl : ys.all (fits o.esz) = true := by simpa [fits] using hfit
          obtain ⟨hfl, hfs⟩ := fits_len hyl
          have htake : ∀ k (hk : k < (ys.take o.el.length).length), ((ys.take o.el.length)[k]).cells.length = o.esz := by
            intro k hk; rw [List.getElem_take]; exact hfl k (by simp at hk; omega)
          have htrow : (ys.take o.el.length) = [] ∨ ∃ b' o' esz, xb = some ⟨b', o', none⟩ ∧ RowAt w S H β (ys.take o.el.length) b' o' esz := by
            rcases hxrow with rfl | ⟨b', o', esz, rfl, hr⟩
            · simp
            · exact .inr ⟨b', o', esz, rfl, rowAt_take hr⟩
          obtain ⟨news, hnl, hnf, hncell, hnone⟩ := first_row (P := P) (w := w) (S := S) (H := H) (β := β) (base := xb) (cap := xc) htrow htake hO.pos
          have hmin : (ys.take o.el.length).length = Nat.min ys.length o.el.length := by simp [Nat.min_comm]
          have hle : (ys.take o.el.length).length ≤ o.el.length := by simp; omega
          have hfit2 : 0 + news.length ≤ cs.size := by
            rw [hcsz, hnl, Nat.zero_add]; exact Nat.mul_le_mul_right _ (Nat.le_trans hle hcap)
          have hall1 : ∀ u ∈ news, u.oneCell' = true := hnone (List.all_eq_true.2 fun y hy => List.all_eq_true.1 hfs y (List.mem_of_mem_take hy))
          have hstc := run_storeCells_at P b 0 Ty news 0 cs w hcs (by simpa using hfit2) hall1
          simp only [Nat.add_zero, Nat.zero_add] at hstc
          have hget := splice_get cs.toList 0 news (by simpa using hfit2)
          have hf1 := hnf w rfl
          have hel : (ys.take o.el.length ++ o.el.drop ys.length).length = o.el.length := by simp; omega
          obtain ⟨hE, hR'⟩ := hR.write ho hp hβ hst (el := ys.take o.el.length ++ o.el.drop ys.length) hel hcs (cs' := (cs.toList.take 0 ++ news ++ cs.toList.drop news.length).toArray) (by
              have := splice_len cs.toList 0 news (by simpa using hfit2)
              simpa [splice] using this) (by
              intro k hk
              by_cases hlo : k < (ys.take o.el.length).length
              · rw [List.getElem_append_left hlo]
                refine ⟨htake k hlo, fun j hj => ?_⟩
                obtain ⟨u, h1, h2⟩ := hncell k hlo j hj
                refine ⟨u, ?_, h2⟩
                have h3 : k * o.esz + j < news.length := by
                  rcases Nat.lt_or_ge (k * o.esz + j) news.length with h' | h'
                  · exact h'
                  · rw [List.getElem?_eq_none h'] at h1; cases h1
                have h4 := hget (k * o.esz + j)
                rw [if_neg (by omega), if_pos (by omega), Nat.sub_zero] at h4
                rw [List.getElem?_toArray]
                rw [show (cs.toList.take 0 ++ news ++ cs.toList.drop news.length) = splice cs.toList 0 news from by simp [splice], h4]
                exact h1
              · have hge : (ys.take o.el.length).length ≤ k := by omega
                have hk' : k < o.el.length := by omega
                have e1 : (ys.take o.el.length ++ o.el.drop ys.length)[k] = o.el[k] := by
                  rw [List.getElem_append_right hge]
                  simp only [List.getElem_drop]
                  congr 1
                  simp at hge ⊢; omega
                rw [e1]
                refine ⟨(hcells k hk').1, fun j hj => ?_⟩
                obtain ⟨u, h1, h2⟩ := (hcells k hk').2 j hj
                refine ⟨u, ?_, h2⟩
                have h3 : news.length ≤ k * o.esz + j := by
                  rw [hnl]; exact Nat.le_trans (Nat.mul_le_mul_right _ hge) (by omega)
                have h4 := hget (k * o.esz + j)
                rw [if_neg (by omega), if_neg (by omega)] at h4
                rw [List.getElem?_toArray]
                rw [show (cs.toList.take 0 ++ news ++ cs.toList.drop news.length) = splice cs.toList 0 news from by simp [splice], h4]
                simpa using h1)
          refine ⟨goInt (Nat.min ys.length o.el.length), _, S, β, ?_, hE, hR', ?_⟩
          · rw [hmin, firstCells_base (m' := ys.length) (c' := xc)] at hf1
            simp [Builtin.copy_, run_und (kd_sl hk), Builtin.lenOf, run_size hi, hisz, hf1, hstc]
          · have : (Min.min o.el.length ys.length) = Nat.min ys.length o.el.length := Nat.min_comm _ _
            rw [this]
            exact .t _ _ (.int _ _)
      · cases h
  · cases h

theorem d_builtin (hR : Rel w S H β) (hA : Agree w S H β e ρ) {b : Builtin} {as : Array Operand} {ts : Array TypeId} (h : opRun P (.call { callee := .builtin b, args := as, argTypes := ts }) e H = some r) :
    Does P w S H β ρ ⟨dst, .call { callee := .builtin b, args := as, argTypes := ts }, ty, pos, af, g⟩ r := by
  obtain ⟨cs, hrun⟩ := run_builtin (P := P) (ρ := ρ) (dst := dst) (ty := ty) (pos := pos) (af := af) (g := g) (c := { callee := .builtin b, args := as, argTypes := ts }) rfl w
  simp only at hrun
  simp only [opRun] at h
  split at h
  · -- len
    rename_i x hx
    obtain ⟨o, ho, hv⟩ := evs_one hx
    cases ht : ts[0]? with
    | none => simp [ht] at h
    | some t =>
      simp only [ht, Option.bind_some] at h
      obtain ⟨u, h1, h2, h3⟩ := len_run (ty := ty) ht h hR (hA o x hv)
      obtain ⟨v, H', eff⟩ := r
      simp only at h2 h3; subst h3
      refine does_value' hR (u := u) ?_ h2
      rw [hrun, args2 ho]
      exact run_val h1
  · -- append
    rename_i s x hx
    obtain ⟨o1, o2, ho, hv1, hv2⟩ := evs_two hx
    cases ht : ts[0]? with
    | none => simp [ht] at h
    | some t =>
      cases hxt : ts[1]? with
      | none => simp [ht, hxt] at h
      | some xt =>
        simp only [ht, hxt, Option.bind_some] at h
        split at h
        · rename_i el xel hk hkx
          cases hys : slOf H x with
          | none => simp [hys] at h
          | some ys =>
            simp only [hys, Option.bind_some] at h
            obtain ⟨u, w', S', β', h1, hE, hR', hv⟩ := append_does (ty := ty) hk hkx hR (hA o1 s hv1) (hA o2 x hv2) hys h
            refine ⟨u, w', S', β', .inl ?_, hE, hR', hv⟩
            rw [hrun, args2 ho]
            refine run_val ?_
            rw [← h1]
            have e : ∀ a : Array Value, Builtin.append_ ts ty a = Builtin.append_ #[t, xt] ty a := fun a => by
              unfold Builtin.append_; simp [ht, hxt]
            rw [e]
            rfl
        · cases h
  · -- copy
    rename_i d s hx
    obtain ⟨o1, o2, ho, hv1, hv2⟩ := evs_two hx
    cases ht : ts[0]? with
    | none => simp [ht] at h
    | some t =>
      simp only [ht, Option.bind_some] at h
      split at h
      · rename_i el hk
        obtain ⟨u, w', S', β', h1, hE, hR', hv⟩ := copy_does (ty := ty) (xt := 0) hk hR (hA o1 d hv1) (hA o2 s hv2) h
        refine ⟨u, w', S', β', .inl ?_, hE, hR', hv⟩
        rw [hrun, args2 ho]
        refine run_val ?_
        rw [← h1]
        have e : ∀ a : Array Value, Builtin.copy_ ts ty a = Builtin.copy_ #[t, 0] ty a := fun a => by
          unfold Builtin.copy_; simp [ht]
        rw [e]
        rfl
      · cases h
  · rename_i k a k' b' hx
    obtain ⟨o1, o2, ho, hv1, hv2⟩ := evs_two hx
    split at h
    · rename_i hk
      subst hk
      simp [ret] at h; subst h
      refine does_value hR (u := .int k (min a b')) ?_ (.t _ _ (.int _ _))
      rw [hrun, args2 ho]
      refine run_val ?_
      simp only [Builtin.min_, List.map_cons, List.map_nil, rv_int (hA o1 _ hv1), rv_int (hA o2 _ hv2), Builtin.min2, List.foldlM_cons, List.foldlM_nil, Sem.run_bind, Sem.run_pure, Result.andThen_ok]
      congr 2
      split <;> omega
    · cases h
  · rename_i k a k' b' hx
    obtain ⟨o1, o2, ho, hv1, hv2⟩ := evs_two hx
    split at h
    · rename_i hk
      subst hk
      simp [ret] at h; subst h
      refine does_value hR (u := .int k (max a b')) ?_ (.t _ _ (.int _ _))
      rw [hrun, args2 ho]
      refine run_val ?_
      simp only [Builtin.max_, List.map_cons, List.map_nil, rv_int (hA o1 _ hv1), rv_int (hA o2 _ hv2), Builtin.max2, List.foldlM_cons, List.foldlM_nil, Sem.run_bind, Sem.run_pure, Result.andThen_ok]
      congr 2
      split <;> omega
    · cases h
  · cases h

theorem d_makeSlice (hR : Rel w S H β) (hA : Agree w S H β e ρ) {t l c} (h : opRun P (.makeSlice t l c) e H = some r) : Does P w S H β ρ ⟨dst, .makeSlice t l c, ty, pos, af, g⟩ r := by
  simp only [opRun] at h
  split at h
  · rename_i k1 n1 k2 n2 hl hc
    unfold makeV at h
    split at h
    · rename_i el hk
      cases hi : infoOf P el with
      | none => simp [hi] at h
      | some p =>
        cases hz : zeroV P el with
        | none => simp [hi, hz] at h
        | some z =>
          simp only [hi, hz, Option.bind_some] at h
          split at h
          · rename_i hh
            obtain ⟨h0, h1, hroom, hzl, hzs, hp1, hp2⟩ := hh
            cases h
            obtain ⟨i, hi1, hi2, hi3⟩ := info_of hi
            obtain ⟨i', zv, hi', hzv, hrv⟩ := zeroV_rv hz
            rw [hi1] at hi'; cases hi'
            have hρl := rv_int (hA l _ hl)
            have hρc := rv_int (hA c _ hc)
            have hroom' : n2.toNat * i.bytes ≤ 2 ^ 46 := by rw [hi3]; simpa [roomOk] using hroom
            have hle : n2.toNat ≤ n2.toNat * i.bytes := Nat.le_mul_of_pos_right _ (by omega)
            have hw1 : IntKind.i64.wrap n1 = n1 := by unfold IntKind.wrap; simp [IntKind.bits, IntKind.signed]; omega
            have hw2 : IntKind.i64.wrap n2 = n2 := by unfold IntKind.wrap; simp [IntKind.bits, IntKind.signed]; omega
            obtain ⟨hzl', hzc⟩ := (hrv w S H β).cells
            have hzsz : zv.cells.size = i.size := by rw [← hzl', hzl, hi2]
            have hbi : ¬ (281474976710656 < (i.bytes : Int) * n2) := by
              have e1 : (i.bytes : Int) * n2 = ((n2.toNat * i.bytes : Nat) : Int) := by
                rw [Int.natCast_mul, Int.toNat_of_nonneg (by omega), Int.mul_comm]
              rw [e1]
              have : (2 : Nat) ^ 46 = 70368744177664 := by decide
              omega
            have hrun : (Instr.makeSlice t (.int k1 n1) (.int k2 n2)).run P w = .ok (.slice (some ⟨w.heap.size, 0, none⟩) n1.toNat n2.toNat) (w.alloc (.cells ((Array.range (n2.toNat * i.size)).map (zv.cells[· % zv.cells.size]!)) el)) := by
              have hn2 : ¬ n2 < 0 := by omega
              have hn1 : ¬ n1 < 0 := by omega
              have hn12 : ¬ n2 < n1 := by omega
              by_cases hn0 : n2.toNat = 0
              · simp [Instr.makeSlice, run_und (kd_sl hk), Go.asInt, asIntOf, run_info hi1, hw1, hw2, hbi, hn1, hn2, hn12, run_size hi1, run_row, hn0]
                congr 2
                apply Array.ext' ; simp
              · have : ¬ (n2.toNat * i.size = 0) := by rw [Nat.mul_eq_zero]; omega
                have : n2.toNat ≠ 0 ∧ i.size ≠ 0 := by omega
                simp [Instr.makeSlice, run_und (kd_sl hk), Go.asInt, asIntOf, run_info hi1, hw1, hw2, hbi, hn1, hn2, hn12, run_size hi1, run_row, run_zero hi1 hzv]
                intro h0; exact absurd h0 (by rw [Nat.mul_eq_zero]; omega)
            obtain ⟨hE, hR'⟩ := hR.push (cs := ((Array.range (n2.toNat * i.size)).map (zv.cells[· % zv.cells.size]!))) (T := el) (o := ⟨List.replicate n1.toNat z, p.1, false⟩) (cap := n2.toNat) rfl hp1 (by simp; omega) (by simp [hi2]) (by
              intro k hk'
              have hk2 : k < n1.toNat := by simpa using hk'
              simp only [List.getElem_replicate]
              refine ⟨hzl, fun j hj => ?_⟩
              have hj' : j < zv.cells.size := by omega
              refine ⟨zv.cells[j], ?_, hzc j hj hj'⟩
              have hjp : j < p.1 := by omega
              have hlt : k * p.1 + j < n2.toNat * i.size := by
                have h3 : (k + 1) * p.1 ≤ n2.toNat * p.1 := Nat.mul_le_mul_right _ (by omega)
                rw [Nat.succ_mul] at h3
                rw [hi2]; omega
              have hmod : (k * p.1 + j) % zv.cells.size = j := by
                rw [hzsz, hi2, Nat.mul_comm, Nat.mul_add_mod]; exact Nat.mod_eq_of_lt hjp
              simp [hlt, hmod, hj'])
            refine ⟨_, _, S, _, .inl ?_, hE, hR', .ref _ _ _ ⟨⟨_, _, rfl⟩, ⟨List.replicate n1.toNat z, p.1, false⟩, by simp, by simp, fun _ => ⟨hp1, w.heap.size, n2.toNat, ?_, rfl, by omega⟩⟩⟩
            · simp only [execOp, hρl, hρc]
              exact run_val hrun
            · rw [← hR.len]; simp
          · cases h
    · cases h
  · cases h
end
end Go.Sim
