/- A part of the proof of a law of module cupola: SimO. It has no conditions of its own. -/
import Derived.Test.YtocehjbdnhmkfaaGreatSimH
import Derived.Laws.Cells
import Derived.Laws.CopyRow
set_option linter.all false
/-! Operations: what they tell holds of the model's. -/
namespace Go.Sim

/-- The model's operation does what was told. -/
def Does (P : Program) (w : World) (S : Cells) (H : Heap) (β : Bl) (ρ : Operand → Value) (o : Oper) (r : Res) : Prop :=
  ∃ u w' S' β', ((execOp ρ o).run P w = .ok (.value u) w' ∨ ((execOp ρ o).run P w = .ok .skip w' ∧ u = undef)) ∧
    Ext w S H β w' S' r.H β' ∧ Rel w' S' r.H β' ∧ RV w' S' r.H β' r.v u

/-- Temporaries, told and true. -/
def Agree (w : World) (S : Cells) (H : Heap) (β : Bl) (e : Env) (ρ : Operand → Value) : Prop := ∀ x v, ev e x = some v → RV w S H β v (ρ x)

theorem Agree.mono {w w' : World} {S S' : Cells} {H H' : Heap} {β β' : Bl} {e : Env} {ρ : Operand → Value} (h : Agree w S H β e ρ) (hs : Stay w S w' S') (hg : Grow H β H' β') : Agree w' S' H' β' e ρ :=
  fun x v hv => (h x v hv).mono hs hg

theorem does_value {P w S H β ρ o v u} (hR : Rel w S H β) (hrun : (execOp ρ o).run P w = .ok (.value u) w) (hv : RV w S H β v u) : Does P w S H β ρ o ⟨v, H, .none⟩ :=
  ⟨u, w, S, β, .inl hrun, Ext.refl _ _ _ _, hR, hv⟩
theorem does_value' {P w S H β ρ o v u eff} (hR : Rel w S H β) (hrun : (execOp ρ o).run P w = .ok (.value u) w) (hv : RV w S H β v u) : Does P w S H β ρ o ⟨v, H, eff⟩ :=
  ⟨u, w, S, β, .inl hrun, Ext.refl _ _ _ _, hR, hv⟩

/-! ### Constants -/
theorem allT_some : ∀ {cs : List V} {ts : List T}, allT cs = some ts → cs = ts.map V.t := by
  intro cs
  induction cs with
  | nil => intro ts h; simp [allT] at h; subst h; rfl
  | cons c cs ih =>
    intro ts h
    cases c <;> simp [allT] at h
    obtain ⟨ts', h1, rfl⟩ := h
    rw [ih h1]; rfl

theorem RV.mkAgg {w S H β} {cs : List V} {us : List Value} (hl : cs.length = us.length) (h : ∀ i (hi : i < cs.length) (hu : i < us.length), RV w S H β cs[i] us[i]) : RV w S H β (Go.Sim.mkAgg cs) (.agg us.toArray) := by
  unfold Go.Sim.mkAgg
  cases ha : allT cs with
  | none => exact .agg cs us hl h
  | some ts =>
    have e := allT_some ha
    subst e
    refine .t _ _ (.agg ts us (by simpa using hl) fun i hi hu => ?_)
    have := h i (by simpa using hi) hu
    rw [List.getElem_map] at this
    cases this; assumption

theorem ofScalar_rv {w S H β} {v : Value} {x : V} (h : ofScalar v = some x) : RV w S H β x v := by
  unfold ofScalar at h
  split at h
  · cases h; exact .t _ _ (.bool _)
  · cases h; exact .t _ _ (.int _ _)
  · cases h; exact .t _ _ (.str _)
  · cases h; exact .ex _ _ _ (.sl0 _ _)
  · cases h; exact .t _ _ .nilp
  · cases h; exact .t _ _ .nilf
  · cases h; exact .t _ _ .nili
  · split at h
    · rename_i hh; obtain ⟨rfl, rfl⟩ := hh; cases h; exact .t _ _ (.fn _)
    · cases h
  · cases h

theorem ofVal_rv {w S H β} {v : Value} {x : V} (h : ofVal v = some x) : RV w S H β x v := by
  unfold ofVal at h
  split at h
  · rename_i cs
    cases hm : cs.toList.mapM ofScalar with
    | none => simp [hm] at h
    | some l =>
      simp [hm] at h
      subst h
      obtain ⟨h1, h2⟩ := mapM_some hm
      have := RV.mkAgg (w := w) (S := S) (H := H) (β := β) (cs := l) (us := cs.toList) h1.symm (fun i hi hu => ofScalar_rv (h2 i hu hi))
      simpa using this
  · exact ofScalar_rv h

theorem zeroV_rv {P : Program} {t : TypeId} {z : V} (h : zeroV P t = some z) : ∃ i zv, P.info? t = some i ∧ i.zero = some zv ∧ ∀ w S H β, RV w S H β z zv := by
  unfold zeroV at h
  cases hi : P.info? t with
  | none => simp [hi] at h
  | some i =>
    simp only [hi] at h
    cases hz : i.zero with
    | none => simp [hz] at h
    | some zv => simp only [hz, Option.bind_some] at h; exact ⟨i, zv, rfl, hz, fun _ _ _ _ => ofVal_rv h⟩

/-! ### What a value is -/
theorem rv_bool {w S H β b u} (h : RV w S H β (.t (.bool b)) u) : u = .bool b := by cases h with | t _ _ h => cases h; rfl
theorem rv_int {w S H β k n u} (h : RV w S H β (.t (.int k n)) u) : u = .int k n := by cases h with | t _ _ h => cases h; rfl
theorem rv_str {w S H β s u} (h : RV w S H β (.t (.str s)) u) : u = .string s := by cases h with | t _ _ h => cases h; rfl
theorem rv_t {w S H β x u} (h : RV w S H β (.t x) u) : RT w S x u := by cases h; assumption

/-! ### The model's words -/
theorem run_info {P : Program} {t : TypeId} {i : TypeInfo} (h : P.info? t = some i) (w : World) : (typeInfo t).run P w = .ok i w := by
  simp [typeInfo, h]
theorem run_size {P : Program} {t : TypeId} {i : TypeInfo} (h : P.info? t = some i) (w : World) : (sizeOf t).run P w = .ok i.size w := by
  simp [sizeOf, run_info h]
theorem run_zero {P : Program} {t : TypeId} {i : TypeInfo} {z : Value} (h : P.info? t = some i) (hz : i.zero = some z) (w : World) : (zeroValue t).run P w = .ok z w := by
  simp [zeroValue, run_info h, hz]
theorem run_und {P : Program} {t : TypeId} {d : TypeDesc} (h : P.underlying t = some d) (w : World) : (underlying t).run P w = .ok d w := run_underlying h w
theorem run_new (P : Program) (o : Go.Obj) (w : World) : (newObj o).run P w = .ok w.heap.size (w.alloc o) := rfl
theorem run_row (P : Program) (t : TypeId) (cs : Array Value) (w : World) : (newRow t cs).run P w = .ok ⟨w.heap.size, 0, none⟩ (w.alloc (.cells cs t)) := by
  simp [newRow, run_new]
theorem run_agg {P : Program} {t : TypeId} {d : TypeDesc} (h : P.underlying t = some d) (w : World) : (isAgg t).run P w = .ok (isAggT P t) w := by
  simp only [isAgg, Sem.run_bind, run_und h, Result.andThen_ok, isAggT, h]
  cases d <;> rfl

theorem kd_sl {P : Program} {t e : TypeId} (h : kdOf P t = .sl e) : P.underlying t = some (.slice e) := by
  unfold kdOf at h; split at h <;> simp_all
theorem kd_arr {P : Program} {t e : TypeId} {n : Nat} (h : kdOf P t = .arr n e) : P.underlying t = some (.array n e) := by
  unfold kdOf at h; split at h <;> simp_all
theorem kd_str {P : Program} {t : TypeId} (h : kdOf P t = .str) : P.underlying t = some .string := by
  unfold kdOf at h; split at h <;> simp_all
theorem kd_int {P : Program} {t : TypeId} {k : IntKind} (h : kdOf P t = .int k) : P.underlying t = some (.int k) := by
  unfold kdOf at h; split at h <;> simp_all
theorem kd_bool {P : Program} {t : TypeId} (h : kdOf P t = .bool) : P.underlying t = some .bool := by
  unfold kdOf at h; split at h <;> simp_all
theorem kd_struct {P : Program} {t : TypeId} (h : kdOf P t = .struct) : ∃ fs, P.underlying t = some (.struct fs) := by
  unfold kdOf at h; split at h <;> simp_all
theorem info_of {P : Program} {t : TypeId} {p : Nat × Nat} (h : infoOf P t = some p) : ∃ i, P.info? t = some i ∧ i.size = p.1 ∧ i.bytes = p.2 := by
  unfold infoOf at h
  cases hi : P.info? t with
  | none => simp [hi] at h
  | some i => simp [hi] at h; subst h; exact ⟨i, rfl, rfl, rfl⟩
theorem ty_of {P : Program} {t : TypeId} {p : Bool × Nat} (h : tyOf P t = some p) : ∃ d i, P.underlying t = some d ∧ P.info? t = some i ∧ isAggT P t = p.1 ∧ i.size = p.2 := by
  unfold tyOf at h
  cases hd : P.underlying t with
  | none => simp [hd] at h
  | some d =>
    cases hi : P.info? t with
    | none => simp [hd, hi] at h
    | some i => simp [hd, hi] at h; subst h; exact ⟨d, i, rfl, rfl, rfl, rfl⟩

/-- A variable is made. -/
theorem does_var {P w S H β ρ o v u T} (hR : Rel w S H β) (hst : v.storable = true) (hv : RV w S H β v u)
    (hrun : (execOp ρ o).run P w = .ok (.value (.pointer (some ⟨w.heap.size, 0, none⟩))) (w.alloc (.cells u.cells T))) :
    Does P w S H β ρ o ⟨.ptr H.length 1 0 0, H ++ [⟨[v], v.cells.length, false⟩], .none⟩ := by
  obtain ⟨hl, hc⟩ := hv.cells
  have hpos : 0 < v.cells.length := by
    cases hcs : v.cells with
    | nil => simp [V.storable, hcs] at hst
    | cons a b => simp
  obtain ⟨hE, hR'⟩ := hR.push (cs := u.cells) (T := T) (o := ⟨[v], v.cells.length, false⟩) (cap := 1) rfl hpos (by simp) (by simp [hl]) (by
    intro i hi
    have : i = 0 := by simp at hi; omega
    subst this
    refine ⟨rfl, fun j hj => ?_⟩
    have hj' : j < v.cells.length := hj
    refine ⟨u.cells[j]'(by omega), ?_, hc j hj' (by omega)⟩
    simp)
  refine ⟨_, _, S, _, .inl hrun, hE, hR', .ptr _ _ _ _ _ ⟨⟨_, _, rfl⟩, ⟨[v], v.cells.length, false⟩, by simp, by simp, fun _ => ⟨w.heap.size, 1, ?_, by simp⟩⟩⟩
  rw [← hR.len]; simp

section
variable {P : Program} {w : World} {S : Cells} {H : Heap} {β : Bl} {e : Env} {ρ : Operand → Value} {r : Res} {dst : Option Tmp} {ty : TypeId} {pos : String} {af : Array Edge} {g : Option (Nat × Bool)}

theorem d_move (hR : Rel w S H β) (hA : Agree w S H β e ρ) {x} (h : opRun P (.move x) e H = some r) : Does P w S H β ρ ⟨dst, .move x, ty, pos, af, g⟩ r := by
  simp only [opRun] at h
  cases hx : ev e x with
  | none => simp [hx] at h
  | some v => simp [hx, ret] at h; subst h; exact does_value hR (by simp [execOp]) (hA x v hx)
theorem d_assign (hR : Rel w S H β) (hA : Agree w S H β e ρ) {x} (h : opRun P (.assign x) e H = some r) : Does P w S H β ρ ⟨dst, .assign x, ty, pos, af, g⟩ r := by
  simp only [opRun] at h
  cases hx : ev e x with
  | none => simp [hx] at h
  | some v => simp [hx, ret] at h; subst h; exact does_value hR (by simp [execOp]) (hA x v hx)
theorem d_pick (hR : Rel w S H β) (hA : Agree w S H β e ρ) {c a b} (h : opRun P (.pick c a b) e H = some r) : Does P w S H β ρ ⟨dst, .pick c a b, ty, pos, af, g⟩ r := by
  simp only [opRun] at h
  split at h
  · rename_i hc
    have hρ := rv_bool (hA c _ hc)
    cases hx : ev e a with
    | none => simp [hx] at h
    | some v =>
      simp [hx, ret] at h; subst h
      refine does_value hR (u := ρ a) ?_ (hA a v hx)
      simp [execOp, asBool, hρ]
  · rename_i hc
    have hρ := rv_bool (hA c _ hc)
    cases hx : ev e b with
    | none => simp [hx] at h
    | some v =>
      simp [hx, ret] at h; subst h
      refine does_value hR (u := ρ b) ?_ (hA b v hx)
      simp [execOp, asBool, hρ]
  · cases h
theorem d_alloc (hR : Rel w S H β) {t} (h : opRun P (.alloc t) e H = some r) : Does P w S H β ρ ⟨dst, .alloc t, ty, pos, af, g⟩ r := by
  simp only [opRun] at h
  cases hz : zeroV P t with
  | none => simp [hz] at h
  | some z =>
    simp only [hz] at h
    split at h
    · rename_i hst
      cases h
      obtain ⟨i, zv, hi, hzv, hrv⟩ := zeroV_rv hz
      exact does_var (T := t) hR hst (hrv w S H β) (by simp [execOp, Instr.alloc, run_zero hi hzv, newVar, run_row])
    · cases h
theorem d_box (hR : Rel w S H β) (hA : Agree w S H β e ρ) {t x} (h : opRun P (.box t x) e H = some r) : Does P w S H β ρ ⟨dst, .box t x, ty, pos, af, g⟩ r := by
  simp only [opRun] at h
  cases hx : ev e x with
  | none => simp [hx] at h
  | some v =>
    simp only [hx] at h
    split at h
    · rename_i hst
      cases h
      exact does_var (T := t) hR hst (hA x v hx) (by simp [execOp, Instr.box, newVar, run_row])
    · cases h
/-! #### Places -/
theorem add0 (b o n : Nat) : (⟨b, o, none⟩ : Addr).add n = ⟨b, o + n, none⟩ := by unfold Addr.add; split <;> simp_all

theorem rdV_rv {w S H β} {v : V} {esz off sz : Nat} {a : Bool} {u : V} {cs : Nat → Option Value} (hl : v.cells.length = esz)
    (hc : ∀ j (hj : j < v.cells.length), ∃ x, cs j = some x ∧ RV w S H β v.cells[j] x) (h : rdV v esz off a sz = some u) :
    (a = true → ∃ us : List Value, us.length = sz ∧ (∀ j x, us[j]? = some x → cs (off + j) = some x) ∧ RV w S H β u (.agg us.toArray)) ∧
    (a = false → ∃ x, cs off = some x ∧ RV w S H β u x) := by
  have mk : ∀ (n k : Nat), k + n ≤ v.cells.length → ∃ us : List Value, us.length = n ∧ ∀ j (hj : j < us.length) (hj' : k + j < v.cells.length), cs (k + j) = some us[j] ∧ RV w S H β v.cells[k + j] us[j] := by
    intro n
    induction n with
    | zero => intro k _; exact ⟨[], rfl, fun j hj => by simp at hj⟩
    | succ n ih =>
      intro k hk
      obtain ⟨us, h1, h2⟩ := ih (k + 1) (by omega)
      obtain ⟨x, hx, hv⟩ := hc k (by omega)
      refine ⟨x :: us, by simp [h1], fun j hj hj' => ?_⟩
      cases j with
      | zero => exact ⟨hx, hv⟩
      | succ j =>
        have := h2 j (by simpa using hj) (by omega)
        have e : k + 1 + j = k + (j + 1) := by omega
        simp only [e] at this
        exact this
  unfold rdV at h
  cases a with
  | true =>
    refine ⟨fun _ => ?_, fun h => (by cases h)⟩
    simp only [if_true] at h
    split at h
    · rename_i hh
      obtain ⟨rfl, rfl, hag⟩ := hh
      cases h
      obtain ⟨us, h1, h2⟩ := mk v.cells.length 0 (by omega)
      refine ⟨us, by omega, fun j x hj => ?_, ?_⟩
      · have hlt : j < us.length := by
          rcases Nat.lt_or_ge j us.length with h' | h'
          · exact h'
          · rw [List.getElem?_eq_none h'] at hj; cases hj
        rw [List.getElem?_eq_getElem hlt] at hj; cases hj
        exact (h2 j hlt (by omega)).1
      · cases v with
        | agg cs' =>
          refine .agg cs' us (by simpa [V.cells] using h1.symm) fun i hi hu => ?_
          have := (h2 i hu (by simpa [V.cells] using hi)).2
          simpa [V.cells] using this
        | t x =>
          cases x with
          | agg cs' =>
            refine .t _ _ (.agg cs' us (by simpa [V.cells] using h1.symm) fun i hi hu => ?_)
            have := (h2 i hu (by simpa [V.cells] using hi)).2
            exact rv_t (by simpa [V.cells] using this)
          | _ => simp [V.isAgg, T.isAgg] at hag
        | _ => simp [V.isAgg] at hag
    · split at h
      · rename_i hb
        cases h
        obtain ⟨us, h1, h2⟩ := mk sz off hb
        refine ⟨us, h1, fun j x hj => ?_, ?_⟩
        · have hlt : j < us.length := by
            rcases Nat.lt_or_ge j us.length with h' | h'
            · exact h'
            · rw [List.getElem?_eq_none h'] at hj; cases hj
          rw [List.getElem?_eq_getElem hlt] at hj; cases hj
          exact (h2 j hlt (by omega)).1
        · refine RV.mkAgg (by simp [h1]; omega) fun i hi hu => ?_
          have := (h2 i hu (by simp at hi; omega)).2
          simpa using this
      · cases h
  | false =>
    refine ⟨fun h => (by cases h), fun _ => ?_⟩
    simp only [Bool.false_eq_true, if_false] at h
    have hlt : off < v.cells.length := by
      rcases Nat.lt_or_ge off v.cells.length with h' | h'
      · exact h'
      · rw [List.getElem?_eq_none h'] at h; cases h
    rw [List.getElem?_eq_getElem hlt] at h; cases h
    exact hc off hlt

theorem run_loadVar {P : Program} {t : TypeId} {d : TypeDesc} {i : TypeInfo} (hd : P.underlying t = some d) (hi : P.info? t = some i) (w : World) (b o : Nat) :
    (loadVar t ⟨b, o, none⟩).run P w = if isAggT P t = true then ((loadCells ⟨b, o, none⟩ i.size).run P w).andThen fun cs w' => .ok (.agg cs) w' else (load ⟨b, o, none⟩).run P w := by
  simp only [loadVar, Sem.run_bind, run_agg hd, Result.andThen_ok]
  cases isAggT P t <;> simp [run_size hi]

theorem load_at {P : Program} {w : World} {S H β} {t : TypeId} {a : Bool} {sz : Nat} (hty : tyOf P t = some (a, sz)) {v u : V} {esz off b o : Nat} (hl : v.cells.length = esz)
    (hc : ∀ j (hj : j < v.cells.length), ∃ x, w.cell? ⟨b, o + j, none⟩ = some x ∧ RV w S H β v.cells[j] x) (h : rdV v esz off a sz = some u) :
    ∃ x, (loadVar t ⟨b, o + off, none⟩).run P w = .ok x w ∧ RV w S H β u x := by
  obtain ⟨d, i, hd, hi, rfl, rfl⟩ := ty_of hty
  obtain ⟨h1, h2⟩ := rdV_rv (cs := fun j => w.cell? ⟨b, o + j, none⟩) hl hc h
  rw [run_loadVar hd hi]
  cases ha : isAggT P t with
  | true =>
    obtain ⟨us, h3, h4, h5⟩ := h1 ha
    refine ⟨_, ?_, h5⟩
    have := run_loadCells_list (P := P) w ⟨b, o + off, none⟩ us (fun j x hj => by rw [add0, Nat.add_assoc]; exact h4 j x hj)
    rw [h3] at this
    simp [this]
  | false =>
    obtain ⟨x, h3, h4⟩ := h2 ha
    refine ⟨x, ?_, h4⟩
    simp only [Bool.false_eq_true, if_false, run_load]
    rw [h3]

theorem d_load (hR : Rel w S H β) (hA : Agree w S H β e ρ) {t x} (h : opRun P (.load t x) e H = some r) : Does P w S H β ρ ⟨dst, .load t x, ty, pos, af, g⟩ r := by
  simp only [opRun] at h
  cases hx : ev e x with
  | none => simp [hx] at h
  | some v =>
    simp only [hx, Option.bind_some] at h
    have hv := hA x v hx
    unfold loadV at h
    split at h
    · rename_i a sz id n i off hty
      cases hc : cur H id n with
      | none => simp [hc] at h
      | some o =>
        simp only [hc, Option.bind_some] at h
        cases hi : o.el[i]? with
        | none => simp [hi] at h
        | some y =>
          simp only [hi, Option.bind_some] at h
          cases hr : rdV y o.esz off a sz with
          | none => simp [hr] at h
          | some u =>
            simp [hr] at h; subst h
            obtain ⟨h1, h2⟩ := cur_at hc
            cases hv with
            | ptr _ _ _ _ _ hok =>
              obtain ⟨_, o', ho', _, hb⟩ := hok
              rw [h1] at ho'; cases ho'
              obtain ⟨b, cap, hβ, hu⟩ := hb h2
              obtain ⟨cs, Ty, hh, hsz, hcells⟩ := (hR.obj id o b cap h1 hβ).row
              have hil : i < o.el.length := by
                rcases Nat.lt_or_ge i o.el.length with h' | h'
                · exact h'
                · rw [List.getElem?_eq_none h'] at hi; cases hi
              rw [List.getElem?_eq_getElem hil] at hi; cases hi
              obtain ⟨hl, hcs⟩ := hcells i hil
              obtain ⟨x', h3, h4⟩ := load_at (P := P) (w := w) (b := b) (o := i * o.esz) hty hl (fun j hj => by
                obtain ⟨q, hq1, hq2⟩ := hcs j hj
                exact ⟨q, by rw [cell_of_heap hh]; exact hq1, hq2⟩) hr
              exact does_value' hR (by simp [execOp, Instr.loadAt, Instr.sureAddr, hu, h3]) h4
    · rename_i a sz xs i off hty
      cases hi : xs[i]? with
      | none => simp [hi] at h
      | some y =>
        simp only [hi, Option.bind_some] at h
        cases hr : rdV (.t y) y.cells.length off a sz with
        | none => simp [hr] at h
        | some u =>
          simp [hr] at h; subst h
          have hil : i < xs.length := by
            rcases Nat.lt_or_ge i xs.length with h' | h'
            · exact h'
            · rw [List.getElem?_eq_none h'] at hi; cases hi
          rw [List.getElem?_eq_getElem hil] at hi; cases hi
          generalize hρ : ρ x = q at hv
          cases hv with
          | tp _ _ _ b o esz _ harr =>
            have hcl : ∀ (z : T), (V.t z).cells.length = z.cells.length ∧ ∀ j (hj : j < (V.t z).cells.length) (hj' : j < z.cells.length), (V.t z).cells[j] = V.t z.cells[j] := by
              intro z; cases z <;> simp [V.cells, T.cells]
            obtain ⟨hl, hcs⟩ := hcl xs[i]
            obtain ⟨x', h3, h4⟩ := load_at (P := P) (w := w) (S := S) (H := H) (β := β) (b := b) (o := o + i * esz) hty hl (fun j hj => by
              obtain ⟨_, q, hq1, hq2⟩ := harr.2 i hil j (by omega)
              exact ⟨q, hq1, by rw [hcs j hj (by omega)]; exact .t _ _ hq2⟩) hr
            exact does_value hR (by simp [execOp, Instr.loadAt, Instr.sureAddr, hρ, h3]) h4
    · cases h
end
end Go.Sim
