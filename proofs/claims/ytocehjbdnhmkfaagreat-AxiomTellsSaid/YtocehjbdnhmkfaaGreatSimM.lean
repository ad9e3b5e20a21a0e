/- A part of the proof of a law of module cupola: SimM. It has no conditions of its own. -/
import Derived.Test.YtocehjbdnhmkfaaGreatSimN
set_option linter.all false
/-! In a region that draws: what stands apart may change places. -/
namespace Go.Sim

theorem evs_congr {e e' : Env} : ∀ {l : List Operand}, (∀ x ∈ l, ev e x = ev e' x) → evs e l = evs e' l := by
  intro l
  induction l with
  | nil => intro _; rfl
  | cons x l ih =>
    intro h
    simp only [evs]
    rw [h x (by simp), ih fun y hy => h y (by simp [hy])]
theorem evParts_congr {e e' : Env} : ∀ {l : List (Nat × Operand)}, (∀ x ∈ l.map (·.2), ev e x = ev e' x) → evParts e l = evParts e' l := by
  intro l
  induction l with
  | nil => intro _; rfl
  | cons p l ih =>
    intro h
    obtain ⟨i, x⟩ := p
    simp only [evParts]
    rw [h x (by simp), ih fun y hy => h y (by simp only [List.map_cons, List.mem_cons]; exact .inr hy)]
theorem optEv_congr {e e' : Env} {o : Option Operand} (h : ∀ x, o = some x → ev e x = ev e' x) : optEv e o = optEv e' o := by
  cases o with
  | none => rfl
  | some x => simp [optEv, h x rfl]

theorem opC_congr {P : Program} {call : CallFn} {op : Op} {e e' : Env} {H : Heap} (h : ∀ x ∈ op.operands, ev e x = ev e' x) : opRunC P call op e H = opRunC P call op e' H := by
  cases op with
  | call c =>
    obtain ⟨callee, as, ts⟩ := c
    have ha : evs e as.toList = evs e' as.toList := evs_congr fun x hx => h x (by simp [Op.operands, Call.operands] at hx ⊢; exact .inr hx)
    cases callee with
    | value f =>
      have hf : ev e f = ev e' f := h f (by simp [Op.operands, Call.operands])
      simp only [opRunC, hf, ha]
    | builtin b => simp only [opRunC, opRun, ha]
    | invoke r n => simp only [opRunC, opRun]
  | build t p =>
    have := evParts_congr (e := e) (e' := e') (l := p.toList) fun x hx => h x (by simpa [Op.operands] using hx)
    simp only [opRunC, opRun, this]
  | buildSlice t n p =>
    have := evParts_congr (e := e) (e' := e') (l := p.toList) fun x hx => h x (by simpa [Op.operands] using hx)
    simp only [opRunC, opRun, this]
  | makeFunc f a b =>
    have h1 := evs_congr (e := e) (e' := e') (l := a.toList) fun x hx => h x (by simp [Op.operands] at hx ⊢; exact .inl hx)
    have h2 := evs_congr (e := e) (e' := e') (l := b.toList) fun x hx => h x (by simp [Op.operands] at hx ⊢; exact .inr hx)
    cases f <;> simp only [opRunC, opRun, h1, h2]
  | slice t x lo hi mx =>
    have h0 : ev e x = ev e' x := h x (by simp [Op.operands])
    have h1 := optEv_congr (e := e) (e' := e') (o := lo) fun y hy => h y (by simp [Op.operands, hy])
    have h2 := optEv_congr (e := e) (e' := e') (o := hi) fun y hy => h y (by simp [Op.operands, hy])
    have h3 := optEv_congr (e := e) (e' := e') (o := mx) fun y hy => h y (by simp [Op.operands, hy])
    simp only [opRunC, opRun, h0, h1, h2, h3]
  | pick c a b =>
    simp only [opRunC, opRun, h c (by simp [Op.operands]), h a (by simp [Op.operands]), h b (by simp [Op.operands])]
  | move x => simp only [opRunC, opRun, h x (by simp [Op.operands])]
  | assign x => simp only [opRunC, opRun, h x (by simp [Op.operands])]
  | box t x => simp only [opRunC, opRun, h x (by simp [Op.operands])]
  | load t x => simp only [opRunC, opRun, h x (by simp [Op.operands])]
  | nilCheck x => simp only [opRunC, opRun, h x (by simp [Op.operands])]
  | unOp o t x => simp only [opRunC, opRun, h x (by simp [Op.operands])]
  | convert s d x => simp only [opRunC, opRun, h x (by simp [Op.operands])]
  | fieldAddr s x f => simp only [opRunC, opRun, h x (by simp [Op.operands])]
  | extract x i => simp only [opRunC, opRun, h x (by simp [Op.operands])]
  | store t x y => simp only [opRunC, opRun, h x (by simp [Op.operands]), h y (by simp [Op.operands])]
  | binOp o t x y s => simp only [opRunC, opRun, h x (by simp [Op.operands]), h y (by simp [Op.operands])]
  | makeSlice t x y => simp only [opRunC, opRun, h x (by simp [Op.operands]), h y (by simp [Op.operands])]
  | indexAddr t x y => simp only [opRunC, opRun, h x (by simp [Op.operands]), h y (by simp [Op.operands])]
  | index t x y => simp only [opRunC, opRun, h x (by simp [Op.operands]), h y (by simp [Op.operands])]
  | _ => rfl

/-- The object is the same. -/
def Same (H H' : Heap) (id : Nat) : Prop := ∀ o : Obj, H[id]? = some o → ∃ o' : Obj, H'[id]? = some o' ∧ o'.el = o.el ∧ o'.esz = o.esz

theorem Same.cur {H H' : Heap} {id n : Nat} {o : Obj} (h : Same H H' id) (hc : cur H id n = some o) : ∃ o', Go.Sim.cur H' id n = some o' ∧ o'.el = o.el ∧ o'.esz = o.esz := by
  obtain ⟨h1, h2⟩ := cur_at hc
  obtain ⟨o', h3, h4, h5⟩ := h o h1
  exact ⟨o', by simp [Go.Sim.cur, h3, h4, h2], h4, h5⟩

/-- What a light operation told, it tells in another heap too. -/
def Light (P : Program) (op : Op) (e : Env) (H : Heap) (r : Res) : Prop :=
  r.eff = .bad ∨ (r.H = H ∧ (∀ H', (r.eff = .none ∨ ∃ id, r.eff = .load id ∧ Same H H' id) → opRun P op e H' = some ⟨r.v, H', r.eff⟩) ∧
    (r.eff = .none ∨ ∃ id, r.eff = .load id ∧ ∃ x v, ev e x = some v ∧ ((∃ n, v = .ref id n) ∨ ∃ n i off, v = .ptr id n i off)))

theorem Light.none {P : Program} {op : Op} {e : Env} {H : Heap} {v : V} (h : ∀ H', opRun P op e H' = some ⟨v, H', .none⟩) : Light P op e H ⟨v, H, .none⟩ := .inr ⟨rfl, fun H' _ => h H', .inl rfl⟩

theorem toT_0 {v : V} (h : (∃ x, v = .t x) ∨ ∃ xs, v = .ex xs) : ∃ x, ∀ (H : Heap) (d : Nat), toT H d v = some x ∧ hold d H v = H := by
  rcases h with ⟨x, rfl⟩ | ⟨xs, rfl⟩
  · exact ⟨x, fun H d => by cases d <;> exact ⟨rfl, rfl⟩⟩
  · exact ⟨.sl xs, fun H d => by cases d <;> exact ⟨rfl, rfl⟩⟩

theorem zero_toT {P : Program} {t : TypeId} {z : V} (h : zeroV P t = some z) (H H' : Heap) (d : Nat) : toT H d z = toT H' d z := by
  have sc : ∀ (v : Value) (x : V), ofScalar v = some x → ∀ d, toT H d x = toT H' d x := by
    intro v x hx d
    have : (∃ y, x = .t y) ∨ ∃ ys, x = .ex ys := by
      unfold ofScalar at hx
      split at hx <;> first
        | (cases hx; exact .inl ⟨_, rfl⟩)
        | (cases hx; exact .inr ⟨_, rfl⟩)
        | (split at hx <;> first | (cases hx; exact .inl ⟨_, rfl⟩) | cases hx)
        | cases hx
    obtain ⟨y, hy⟩ := toT_0 this
    rw [(hy H d).1, (hy H' d).1]
  unfold zeroV at h
  cases hi : P.info? t with
  | none => simp [hi] at h
  | some i =>
    simp only [hi] at h
    cases hz : i.zero with
    | none => simp [hz] at h
    | some zv =>
      simp only [hz, Option.bind_some] at h
      unfold ofVal at h
      split at h
      · rename_i cs
        cases hm : cs.toList.mapM ofScalar with
        | none => simp [hm] at h
        | some l =>
          simp [hm] at h
          subst h
          obtain ⟨h1, h2⟩ := mapM_some hm
          unfold mkAgg
          split
          · cases d <;> rfl
          · cases d with
            | zero => rfl
            | succ d =>
              simp only [toT]
              have : l.mapM (toT H d) = l.mapM (toT H' d) := by
                have hall : ∀ x ∈ l, toT H d x = toT H' d x := by
                  intro x hx
                  obtain ⟨i, hi, rfl⟩ := List.mem_iff_getElem.1 hx
                  exact sc _ _ (h2 i (by omega) hi) d
                clear h2 hm h1
                rename_i hnone; clear hnone
                induction l with
                | nil => rfl
                | cons x l ih =>
                  rw [List.mapM_cons, List.mapM_cons, hall x (by simp), ih fun y hy => hall y (by simp [hy])]
              rw [this]
      · exact sc _ _ h d

theorem lenT_light {H : Heap} {kd : Kd} {x : V} {r : Res} (h : lenT H kd x = some r) : r.H = H ∧ ((r.eff = .none ∧ ∀ H', lenT H' kd x = some ⟨r.v, H', .none⟩) ∨ ∃ id, r.eff = .load id ∧ (∃ n, x = .ref id n) ∧ ∀ H', Same H H' id → lenT H' kd x = some ⟨r.v, H', .load id⟩) := by
  cases kd with
  | str =>
    cases x with
    | t x =>
      cases x with
      | str s => simp only [lenT, ret, Option.some.injEq] at h; subst h; exact ⟨rfl, .inl ⟨rfl, fun H' => rfl⟩⟩
      | _ => simp [lenT] at h
    | _ => simp [lenT] at h
  | sl el =>
    cases x with
    | t x =>
      cases x with
      | sl xs => simp only [lenT, lenOf, effL, Option.bind_some, Option.some.injEq] at h; subst h; exact ⟨rfl, .inl ⟨rfl, fun H' => rfl⟩⟩
      | _ => simp [lenT, lenOf] at h
    | ex x => simp only [lenT, lenOf, effL, Option.bind_some, Option.some.injEq] at h; subst h; exact ⟨rfl, .inl ⟨rfl, fun H' => rfl⟩⟩
    | ref id m =>
      simp only [lenT, lenOf, effL] at h
      cases hc : cur H id m with
      | none => simp [hc] at h
      | some o =>
        simp [hc] at h; subst h
        refine ⟨rfl, .inr ⟨id, rfl, ⟨_, rfl⟩, fun H' hs => ?_⟩⟩
        obtain ⟨o', h1, _, _⟩ := hs.cur hc
        simp [lenT, lenOf, effL, h1]
    | _ => simp [lenT, lenOf] at h
  | _ => simp [lenT] at h

theorem light_ok {P : Program} {op : Op} {e : Env} {H : Heap} {r : Res} (hl : lightOp op = true) (h : opRun P op e H = some r) : Light P op e H r := by
  cases op with
  | move x =>
    cases hx : ev e x with
    | none => simp [opRun, hx] at h
    | some v => simp [opRun, hx, ret] at h; subst h; exact .none fun H' => by simp [opRun, hx, ret]
  | assign x =>
    cases hx : ev e x with
    | none => simp [opRun, hx] at h
    | some v => simp [opRun, hx, ret] at h; subst h; exact .none fun H' => by simp [opRun, hx, ret]
  | pick c a b =>
    simp only [opRun] at h
    split at h
    · rename_i hc
      cases hx : ev e a with
      | none => simp [hx] at h
      | some v => simp [hx, ret] at h; subst h; exact .none fun H' => by simp [opRun, hc, hx, ret]
    · rename_i hc
      cases hx : ev e b with
      | none => simp [hx] at h
      | some v => simp [hx, ret] at h; subst h; exact .none fun H' => by simp [opRun, hc, hx, ret]
    · cases h
  | load t x =>
    simp only [opRun] at h
    cases hx : ev e x with
    | none => simp [hx] at h
    | some v =>
      simp only [hx, Option.bind_some] at h
      unfold loadV at h
      split at h
      · rename_i a sz id n i off hty
        cases hc : cur H id n with
        | none => simp [hc] at h
        | some o =>
          simp only [hc, Option.bind_some] at h
          cases hi : o.el[i]? with
          | none => simp [hi] at h
          | some y =>
            cases hr : rdV y o.esz off a sz with
            | none => simp [hi, hr] at h
            | some u =>
              simp [hi, hr] at h; subst h
              refine .inr ⟨rfl, fun H' hh => ?_, .inr ⟨id, rfl, x, _, hx, .inr ⟨_, _, _, rfl⟩⟩⟩
              rcases hh with hh | ⟨id', hid, hs⟩
              · cases hh
              · cases hid
                obtain ⟨o', h1, h2, h3⟩ := hs.cur hc
                simp [opRun, hx, loadV, hty, h1, h2, h3, hi, hr]
      · rename_i a sz xs i off hty
        cases hi : xs[i]? with
        | none => simp [hi] at h
        | some y =>
          cases hr : rdV (.t y) y.cells.length off a sz with
          | none => simp [hi, hr] at h
          | some u =>
            simp [hi, hr] at h; subst h
            exact .none fun H' => by simp [opRun, hx, loadV, hty, hi, hr]
      · cases h
  | nilCheck x =>
    simp only [opRun] at h
    split at h <;> first
      | (rename_i hx; simp [ret] at h; subst h; exact .none fun H' => by simp [opRun, hx, ret])
      | cases h
  | binOp o t x y s =>
    simp only [opRun] at h
    split at h
    · rename_i a b hx hy
      cases hc : binT o (boolT P t) a b with
      | none => simp [hc] at h
      | some c => simp [hc, ret] at h; subst h; exact .none fun H' => by simp [opRun, hx, hy, hc, ret]
    · cases h
  | unOp o t x =>
    simp only [opRun] at h
    split at h
    · rename_i a hx
      cases hc : unT o a with
      | none => simp [hc] at h
      | some c => simp [hc, ret] at h; subst h; exact .none fun H' => by simp [opRun, hx, hc, ret]
    · cases h
  | convert s d x =>
    simp only [opRun] at h
    split at h
    · rename_i h1 h2 h3; simp [ret] at h; subst h; exact .none fun H' => by simp [opRun, h1, h2, h3, ret]
    · rename_i h1 h2 h3; simp [ret] at h; subst h; exact .none fun H' => by simp [opRun, h1, h2, h3, ret]
    · cases h
  | makeFunc f a b =>
    cases f with
    | func f =>
      simp only [opRun] at h
      split at h
      · rename_i h1 h2; simp [ret] at h; subst h; exact .none fun H' => by simp [opRun, h1, h2, ret]
      · rename_i va vb hn h1 h2
        simp [ret] at h; subst h
        refine .none fun H' => ?_
        simp only [opRun, h1, h2]
        rfl
      · cases h
    | _ => simp [opRun] at h
  | build t p =>
    simp only [opRun] at h
    split at h
    · rename_i l hl
      cases hb : buildV P t l with
      | none => simp [hb] at h
      | some v => simp [hb, ret] at h; subst h; exact .none fun H' => by simp [opRun, hl, hb, ret]
    · cases h
  | fieldAddr s x f =>
    simp only [opRun] at h
    cases hx : ev e x with
    | none => simp [hx] at h
    | some v =>
      cases hf : fieldV (fldOf P s f) v with
      | none => simp [hx, hf] at h
      | some u => simp [hx, hf, ret] at h; subst h; exact .none fun H' => by simp [opRun, hx, hf, ret]
  | index t x i =>
    simp only [opRun] at h
    split at h
    · rename_i h1 h2 h3
      split at h
      · rename_i hh; simp [ret] at h; subst h; exact .none fun H' => by simp [opRun, h1, h2, h3, hh, ret]
      · cases h
    · rename_i len el cs n h1 h2 h3
      split at h
      · rename_i hh
        cases hc : cs[n.toNat]? with
        | none => simp [hc] at h
        | some y => simp [hc, ret] at h; subst h; exact .none fun H' => by simp only [opRun, h1, h2, h3]; rw [if_pos hh, hc]; rfl
      · cases h
    · cases h
  | extract x i =>
    simp only [opRun] at h
    split at h
    · rename_i vs hx
      cases hi : vs[i]? with
      | none => simp [hi] at h
      | some v => simp [hi, ret] at h; subst h; exact .none fun H' => by simp [opRun, hx, hi, ret]
    · rename_i vs hx
      cases hi : vs[i]? with
      | none => simp [hi] at h
      | some v => simp [hi, ret] at h; subst h; exact .none fun H' => by simp [opRun, hx, hi, ret]
    · cases h
  | indexAddr t x i =>
    simp only [opRun] at h
    cases hx : ev e x with
    | none => simp [hx] at h
    | some v =>
      cases hn : (ev e i).bind asInt with
      | none => simp [hx, hn] at h
      | some n =>
        simp only [hx, hn, Option.bind_some] at h
        cases hq : indexV H (kdOf P t) (elemSz P (kdOf P t)) v n with
        | none => simp [hq] at h
        | some u =>
          simp [hq] at h; subst h
          have from_ : effP u = .none ∨ ∃ id, effP u = .load id ∧ ∃ x v, ev e x = some v ∧ ((∃ n, v = .ref id n) ∨ ∃ n i off, v = .ptr id n i off) := by
            unfold indexV at hq
            split at hq
            · simp only [Option.bind_eq_some_iff] at hq
              obtain ⟨_, _, hq⟩ := hq
              split at hq
              · cases hq; exact .inl rfl
              · cases hq
            · simp only [Option.bind_eq_some_iff] at hq
              obtain ⟨_, _, hq⟩ := hq
              split at hq
              · cases hq; exact .inl rfl
              · cases hq
            · simp only [Option.bind_eq_some_iff] at hq
              obtain ⟨_, _, hq⟩ := hq
              split at hq
              · cases hq; exact .inr ⟨_, rfl, x, _, hx, .inl ⟨_, rfl⟩⟩
              · cases hq
            · split at hq
              · cases hq; exact .inr ⟨_, rfl, x, _, hx, .inr ⟨_, _, _, rfl⟩⟩
              · cases hq
            · split at hq
              · cases hq; exact .inl rfl
              · cases hq
            · cases hq
          refine .inr ⟨rfl, fun H' hh => ?_, from_⟩
          have key : indexV H' (kdOf P t) (elemSz P (kdOf P t)) v n = some u := by
            unfold indexV at hq ⊢
            generalize hkd : kdOf P t = kd at hq ⊢
            cases kd with
            | sl el =>
              cases v with
              | ref id m =>
                simp only at hq ⊢
                cases hc : cur H id m with
                | none => simp [hc] at hq
                | some o =>
                  simp only [hc, Option.bind_some] at hq
                  split at hq
                  · rename_i hcond
                    cases hq
                    rcases hh with hh | ⟨id', hid, hs⟩
                    · simp [effP] at hh
                    · simp only [effP, Eff.load.injEq] at hid
                      subst hid
                      obtain ⟨o', h1, h2, h3⟩ := hs.cur hc
                      simp [h1, h3, hcond]
                  · cases hq
              | t x => cases x <;> exact hq
              | _ => exact hq
            | arr k el => cases v <;> exact hq
            | _ => cases v <;> exact hq
          simp [opRun, hx, hn, key]
  | slice t x lo hi mx =>
    simp only [opRun] at h
    split at h
    · rename_i s vl vh vm hk hx hl' hh hm
      unfold partS at h
      split at h
      · rename_i l hn hbl hbh
        split at h
        · rename_i hc
          simp [ret] at h; subst h
          exact .none fun H' => by simp [opRun, hk, hx, hl', hh, hm, partS, hbl, hbh, hc, ret]
        · cases h
      · cases h
    · rename_i el v vl vh vm hk hx hl' hh hm
      have hr : r.eff = effS v := by
        unfold partV at h
        split at h
        · split at h
          · split at h
            · cases h; rfl
            · cases h
          · cases h
        · cases h
      by_cases hd : (∃ x, v = .t x) ∨ ∃ xs, v = .ex xs
      · obtain ⟨x0, h0⟩ := toT_0 hd
        have hsl : ∀ H', slOf H' v = slOf H v := by
          intro H'
          rcases hd with ⟨x1, rfl⟩ | ⟨xs, rfl⟩
          · cases x1 <;> rfl
          · rfl
        have hre : r.H = H := by
          unfold partV at h
          split at h
          · split at h
            · split at h
              · cases h; exact (h0 H depth).2
              · cases h
            · cases h
          · cases h
        refine .inr ⟨hre, fun H' _ => ?_, .inl (by rw [hr]; rcases hd with ⟨x, rfl⟩ | ⟨x, rfl⟩ <;> rfl)⟩
        have hp : partV H' (elemSz P (.sl el)) v vl vh vm = some ⟨r.v, H', r.eff⟩ := by
          unfold partV at h ⊢
          rw [hsl H', (h0 H' depth).1, (h0 H' depth).2]
          rw [(h0 H depth).1, (h0 H depth).2] at h
          generalize slOf H v = sv at h ⊢
          cases sv with
          | none => simp at h
          | some a =>
            cases x0 with
            | sl xs0 =>
              simp only at h ⊢
              generalize bound vl 0 = b1 at h ⊢
              generalize bound vh a.length = b2 at h ⊢
              generalize bound vm a.length = b3 at h ⊢
              cases b1 <;> cases b2 <;> cases b3 <;> simp only at h ⊢ <;> first
                | (cases h; done)
                | (split at h
                   · rename_i hc
                     rw [if_pos hc]
                     cases h; rfl
                   · cases h)
            | _ => simp at h
        simp only [opRun, hk, hx, hl', hh, hm]
        exact hp
      · left
        rw [hr]
        cases v with
        | t x => exact absurd (.inl ⟨x, rfl⟩) hd
        | ex x => exact absurd (.inr ⟨x, rfl⟩) hd
        | _ => rfl
    · cases h
  | buildSlice t n p =>
    simp only [opRun] at h
    split at h
    · rename_i el hk
      cases hl' : evParts e p.toList with
      | none => simp [hl'] at h
      | some l =>
        cases hz : zeroV P el with
        | none => simp [hl', hz] at h
        | some z =>
          cases hie : infoOf P el with
          | none => simp [hl', hz, hie] at h
          | some i =>
            cases hz' : toT H depth z with
            | none => simp [hl', hz, hie, hz'] at h
            | some z' =>
              simp only [hl', hz, hie, hz', Option.bind_some] at h
              split at h
              · rename_i hc
                cases hlit : litV H (List.replicate n z') l with
                | none => simp [hlit] at h
                | some xs =>
                  simp only [hlit, Option.bind_some, Option.some.injEq] at h
                  subst h
                  by_cases hd : ∀ q ∈ l, (∃ x, q.2 = .t x) ∨ ∃ xs, q.2 = .ex xs
                  · have hfold : ∀ H, (l.map (·.2)).foldl (hold depth) H = H := by
                      intro H
                      clear hlit hc hl'
                      induction l generalizing H with
                      | nil => rfl
                      | cons q l ih =>
                        simp only [List.map_cons, List.foldl_cons]
                        obtain ⟨x, hx⟩ := toT_0 (hd q (by simp))
                        rw [(hx H depth).2]
                        exact ih (fun q hq => hd q (by simp [hq])) H
                    have heff : effB (l.map (·.2)) = .none := by
                      clear hlit hc hl' hfold
                      induction l with
                      | nil => rfl
                      | cons q l ih =>
                        have := ih (fun q hq => hd q (by simp [hq]))
                        rcases hd q (by simp) with ⟨x, hx⟩ | ⟨x, hx⟩ <;> simp only [List.map_cons, hx, effB] <;> exact this
                    have hlit2 : ∀ H', litV H' (List.replicate n z') l = litV H (List.replicate n z') l := by
                      intro H'
                      clear hlit hc hl' hfold heff
                      generalize List.replicate n z' = acc
                      induction l generalizing acc with
                      | nil => rfl
                      | cons q l ih =>
                        obtain ⟨i, v⟩ := q
                        obtain ⟨x, hx⟩ := toT_0 (hd (i, v) (by simp))
                        simp only at hx
                        simp only [litV, (hx H' depth).1, (hx H depth).1, Option.bind_some]
                        split
                        · exact ih (fun q hq => hd q (by simp [hq])) _
                        · rfl
                    have hz2 : ∀ H', toT H' depth z = some z' := fun H' => by rw [← hz']; exact zero_toT hz H' H depth
                    refine .inr ⟨hfold H, fun H' _ => ?_, .inl heff⟩
                    simp only [opRun, hk, hl', hz, hie, hz2 H', Option.bind_some]
                    rw [if_pos hc, hlit2 H', hlit, hfold H']
                    rfl
                  · left
                    show effB (l.map (·.2)) = .bad
                    clear hlit hc hl'
                    induction l with
                    | nil => exact absurd (fun q hq => by cases hq) hd
                    | cons q l ih =>
                      by_cases hq : (∃ x, q.2 = .t x) ∨ ∃ xs, q.2 = .ex xs
                      · have h1 : ¬ ∀ q ∈ l, (∃ x, q.2 = .t x) ∨ ∃ xs, q.2 = .ex xs := fun hh => hd fun q' hq' => by
                          rcases List.mem_cons.1 hq' with rfl | h2
                          · exact hq
                          · exact hh q' h2
                        have := ih h1
                        rcases hq with ⟨x, hx⟩ | ⟨x, hx⟩ <;> simp only [List.map_cons, hx, effB] <;> exact this
                      · obtain ⟨i, v⟩ := q
                        simp only [List.map_cons]
                        cases v with
                        | t x => exact absurd (.inl ⟨x, rfl⟩) hq
                        | ex x => exact absurd (.inr ⟨x, rfl⟩) hq
                        | _ => rfl
              · cases h
    · cases h
  | call c =>
    obtain ⟨callee, as, ts⟩ := c
    cases callee with
    | builtin b =>
      cases b with
      | len =>
        simp only [opRun] at h
        generalize hev : evs e as.toList = q at h
        split at h
        · rename_i x hb
          cases ht : ts[0]? with
          | none => simp [ht] at h
          | some t =>
            simp only [ht, Option.bind_some] at h
            have := lenT_light h
            obtain ⟨o, ho, hv⟩ := evs_one hev
            rcases this with ⟨h1, ⟨h2, h3⟩ | ⟨id, h2, h4, h3⟩⟩
            · refine .inr ⟨h1, fun H' _ => ?_, .inl h2⟩
              simp only [opRun, hev, ht, Option.bind_some, h3 H', h2]
            · refine .inr ⟨h1, fun H' hh => ?_, .inr ⟨id, h2, o, x, hv, .inl h4⟩⟩
              rcases hh with hh | ⟨id', hid, hs⟩
              · rw [h2] at hh; cases hh
              · rw [h2] at hid; cases hid
                simp only [opRun, hev, ht, Option.bind_some, h3 H' hs, h2]
        all_goals first | (rename_i hb; cases hb; done) | cases h
      | min =>
        simp only [opRun] at h
        generalize hev : evs e as.toList = q at h
        split at h <;> first | (cases h; done) | (rename_i hb; cases hb; done) | skip
        split at h
        · rename_i hk
          simp [ret] at h; subst h
          exact .none fun H' => by simp [opRun, hev, hk, ret]
        · cases h
      | max =>
        simp only [opRun] at h
        generalize hev : evs e as.toList = q at h
        split at h <;> first | (cases h; done) | (rename_i hb; cases hb; done) | skip
        split at h
        · rename_i hk
          simp [ret] at h; subst h
          exact .none fun H' => by simp [opRun, hev, hk, ret]
        · cases h
      | _ => simp [lightOp] at hl
    | _ => simp [lightOp] at hl
  | _ => simp [lightOp] at hl
end Go.Sim
