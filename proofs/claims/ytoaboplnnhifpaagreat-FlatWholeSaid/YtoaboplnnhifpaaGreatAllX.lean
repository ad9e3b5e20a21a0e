/- A part of the proof of a law of module cupola: AllX, Wf2. It has no conditions of its own. -/
import Derived.Test.YtoaboplnnhifpaaGreatExec3
set_option linter.all false
namespace Go.Sim
open Enc (enc)
open Go.Proofs

@[go_sem] theorem fits_Ex (e : Ex) : fits 7 (.t (enc e)) = true := rfl
@[go_sem] theorem cellsT_Ex (e : Ex) : (enc e : T).cells.length = 7 := rfl
@[go_sem] theorem noSl_Ex (e : Ex) : noSl (.t (enc e)) = false := rfl
@[go_sem] theorem noSl1_Ex (e : Ex) : noSl1 (.t (enc e)) = false := rfl
@[go_sem] theorem sz_Ex : Enc.sz Ex = 7 := rfl
@[go_sem] theorem fitsl_Ex (l : List Ex) : (vs l).all (fits 7) = true := by
  rw [List.all_eq_true]; intro v hv; obtain ⟨p, _, rfl⟩ := List.mem_map.1 hv; rfl
@[go_sem] theorem ixex_Ex {H : Heap} {e : Nat} {l : List Ex} {i : Int} (h0 : 0 ≤ i) (h1 : i < l.length) : indexV H (.sl e) 7 (.ex (l.map enc)) i = some (.tp (l.map enc) i.toNat 0) := ix_enc (H := H) (e := e) (l := l) rfl h0 h1
@[go_sem] theorem load1_Ex {H : Heap} {id i off sz : Nat} {a : Bool} {l : List Ex} {st : Bool} (hi : i < l.length) : load1 H id ⟨vs l, 7, st⟩ i off a sz = (rdV (.t (enc (gd l i))) 7 off a sz).bind fun u => some ⟨u, H, .load id⟩ := load1_vsc hi
def WaysAt (R : Heap) (wv : V) (ws : List (List Tr)) (nv : V) (nl : List (List Tr)) : Prop :=
  (wv = .ex (ws.map enc) ∧ ((nv = .ex [] ∧ nl = []) ∨ ∃ k, nv = .ref (k + 1) nl.length ∧ R[k]? = some ⟨vs nl, 1, false⟩)) ∨
  ∃ m, wv = .ref (m + 1) ws.length ∧ R[m]? = some ⟨vs ws, 1, false⟩ ∧ ((nv = .ex [] ∧ nl = []) ∨ ∃ k, k ≠ m ∧ nv = .ref (k + 1) nl.length ∧ R[k]? = some ⟨vs nl, 1, false⟩)
theorem WaysAt.ext {R : Heap} {wv nv : V} {ws nl : List (List Tr)} (h : WaysAt R wv ws nv nl) (X : Heap) : WaysAt (R ++ X) wv ws nv nl := by
  rcases h with ⟨h1, h2 | ⟨k, h2, h3⟩⟩ | ⟨m, h1, h1', h2 | ⟨k, hk, h2, h3⟩⟩
  · exact .inl ⟨h1, .inl h2⟩
  · exact .inl ⟨h1, .inr ⟨k, h2, at_all h3 X⟩⟩
  · exact .inr ⟨m, h1, at_all h1' X, .inl h2⟩
  · exact .inr ⟨m, h1, at_all h1' X, .inr ⟨k, hk, h2, at_all h3 X⟩⟩
theorem WaysAt.set0 {R : Heap} {wv : V} {ws : List (List Tr)} (h : WaysAt R wv ws (.ex []) []) {k : Nat} {o o' : Obj} (hk : R[k]? = some o) (ho : o.esz ≠ 1) : WaysAt (R.set k o') wv ws (.ex []) [] := by
  rcases h with ⟨h1, _⟩ | ⟨m, h1, h1', _⟩
  · exact .inl ⟨h1, .inl ⟨rfl, rfl⟩⟩
  · refine .inr ⟨m, h1, ?_, .inl ⟨rfl, rfl⟩⟩
    have : k ≠ m := fun e => by subst e; rw [hk] at h1'; cases h1'; exact ho rfl
    rw [List.getElem?_set_ne this]; exact h1'
theorem WaysAt.begin {R : Heap} {wv nv : V} {ws nl : List (List Tr)} (h : WaysAt R wv ws nv nl) : WaysAt R wv ws (.ex []) [] := by
  rcases h with ⟨h1, _⟩ | ⟨m, h1, h1', _⟩
  · exact .inl ⟨h1, .inl ⟨rfl, rfl⟩⟩
  · exact .inr ⟨m, h1, h1', .inl ⟨rfl, rfl⟩⟩
theorem WaysAt.turn {R : Heap} {wv nv : V} {ws nl : List (List Tr)} (h : WaysAt R wv ws nv nl) : WaysAt R nv nl (.ex []) [] := by
  rcases h with ⟨_, ⟨rfl, rfl⟩ | ⟨k, h2, h3⟩⟩ | ⟨m, _, _, ⟨rfl, rfl⟩ | ⟨k, hk, h2, h3⟩⟩
  · exact .inl ⟨rfl, .inl ⟨rfl, rfl⟩⟩
  · exact .inr ⟨k, h2, h3, .inl ⟨rfl, rfl⟩⟩
  · exact .inl ⟨rfl, .inl ⟨rfl, rfl⟩⟩
  · exact .inr ⟨k, h2, h3, .inl ⟨rfl, rfl⟩⟩
theorem WaysAt.new {R : Heap} {wv : V} {ws : List (List Tr)} (h : WaysAt R wv ws (.ex []) []) (w : List Tr) (X : Heap) : WaysAt (R ++ (X ++ [⟨vs [w], 1, false⟩])) wv ws (.ref (R.length + X.length + 1) 1) [w] := by
  have hg : (R ++ (X ++ [⟨vs [w], 1, false⟩]))[R.length + X.length]? = some ⟨vs [w], 1, false⟩ := by rw [gxk]; simp
  rcases h with ⟨h1, _⟩ | ⟨m, h1, h1', _⟩
  · exact .inl ⟨h1, .inr ⟨_, rfl, hg⟩⟩
  · refine .inr ⟨m, h1, at_all h1' _, .inr ⟨R.length + X.length, ?_, rfl, hg⟩⟩
    have := at_lt h1'; omega
theorem WaysAt.grow {R : Heap} {wv : V} {ws nl : List (List Tr)} {k : Nat} (h : WaysAt R wv ws (.ref (k + 1) nl.length) nl) (w : List Tr) : WaysAt (R.set k ⟨vs (nl ++ [w]), 1, false⟩) wv ws (.ref (k + 1) (nl.length + 1)) (nl ++ [w]) := by
  have hs : ∀ j, R[j]? = some ⟨vs nl, 1, false⟩ → (R.set j ⟨vs (nl ++ [w]), 1, false⟩)[j]? = some ⟨vs (nl ++ [w]), 1, false⟩ := fun j hj => by rw [List.getElem?_set_self (at_lt hj)]
  rcases h with ⟨h1, ⟨h2, _⟩ | ⟨j, h2, h3⟩⟩ | ⟨m, h1, h1', ⟨h2, _⟩ | ⟨j, hj, h2, h3⟩⟩
  · cases h2
  · cases h2; exact .inl ⟨h1, .inr ⟨k, by simp, hs _ h3⟩⟩
  · cases h2
  · cases h2
    exact .inr ⟨m, h1, by rw [List.getElem?_set_ne hj]; exact h1', .inr ⟨k, hj, by simp, hs _ h3⟩⟩

theorem ways_none {t : Te} {vals : List Int} {k : Nat} (h : waysTo t vals k = none) : ∀ j, k ≤ j → waysTo t vals j = none
  | 0, hj => by have : k = 0 := by omega
                subst this; exact h
  | j + 1, hj => by
    by_cases e : k = j + 1
    · subst e; exact h
    · rw [waysTo, ways_none h j (by omega)]; rfl
def pvW (wv : V) (ws : List (List Tr)) (a : Nat) : V :=
  match wv with
  | .ref id n => .ptr id n a 0
  | _ => .tp (ws.map enc) a 0
theorem WaysAt.len {R : Heap} {wv nv : V} {ws nl : List (List Tr)} (h : WaysAt R wv ws nv nl) (o : Obj) (e : Nat) : lenT (o :: R) (.sl e) wv = some ⟨.t (.int .i64 ws.length), o :: R, effL wv⟩ := by
  rcases h with ⟨rfl, _⟩ | ⟨m, rfl, h, _⟩
  · rw [lenT_exl]; rfl
  · rw [lenT_ref, cur_some (o := ⟨vs ws, 1, false⟩) (by simpa using h) (vs_len ws)]; rfl
theorem WaysAt.ix {R : Heap} {wv nv : V} {ws nl : List (List Tr)} (h : WaysAt R wv ws nv nl) (o : Obj) (e : Nat) {a : Nat} (ha : a < ws.length) : indexV (o :: R) (.sl e) 1 wv (a : Int) = some (pvW wv ws a) := by
  rcases h with ⟨rfl, _⟩ | ⟨m, rfl, h, _⟩
  · rw [ix_ex1 (by omega) (by omega)]; rfl
  · rw [ix_ref', cur_some (o := ⟨vs ws, 1, false⟩) (by simpa using h) (vs_len ws), Option.bind_some, ix1_go (by omega) (by omega) (by omega)]; rfl
theorem WaysAt.ld {R : Heap} {wv nv : V} {ws nl : List (List Tr)} (h : WaysAt R wv ws nv nl) (o : Obj) {a : Nat} (ha : a < ws.length) : ∃ f, loadV (o :: R) (some (false, 1)) (pvW wv ws a) = some ⟨.t (enc (gd ws a)), o :: R, f⟩ := by
  rcases h with ⟨rfl, _⟩ | ⟨m, rfl, h, _⟩
  · exact ⟨_, load_tp1 ha⟩
  · refine ⟨.load (m + 1), ?_⟩
    unfold pvW
    rw [load_ptr, cur_some (o := ⟨vs ws, 1, false⟩) (by simpa using h) (vs_len ws), Option.bind_some, load1_vs ha]
theorem valsR_len {t : Te} : ∀ (k : Nat) (l r : List Int), l.length ≤ 8 → valsR t k l = some r → r.length ≤ 8
  | 0, l, r, h, e => by simp [valsR] at e; subst e; exact h
  | k + 1, l, r, h, e => by
    rw [valsR] at e
    split at e
    · cases e
    · exact valsR_len k _ r (by omega) e

@[go_sem] theorem lit_zEx {H : Heap} {len by_ : Nat} {l : List (Nat × V)} (h2 : 0 < by_) (h3 : len * 7 ≤ 16777216) (h4 : allC 7 l = true) :
    lit1 H len (.agg [.ex [], .ex [], .ex [], .ex [], .ex [], .ex [], .ex []]) (7, by_) l = (litV H (List.replicate len (enc (⟨[], [], [], [], [], [], []⟩ : Ex))) l).bind fun xs => some ⟨.ex xs, foldH H l, effC l⟩ := lit1_go (z' := enc (⟨[], [], [], [], [], [], []⟩ : Ex)) rfl rfl (by decide) h2 h3 h4
set_option maxRecDepth 100000 in
theorem exec_All (t : Te) (hl : t.init.length ≤ 1000000) (hl2 : t.th.length ≤ 1000000) (hl3 : ∀ x ∈ t.th, x.length ≤ 1000000) : Fun Tryz.prog 48 [enc t] (.tup [.t (enc (allR t)), .t (.int .i64 (allE t))]) := by
  refine Fun.go (b := false) Tryz.func48 rfl rfl (by kernel_rfl) (by kernel_rfl) ?_
  unfold allR allE
  by_cases he : ofE t = 0
  · rw [if_neg (by omega), if_neg (by omega)]
    have hch : checkE t = 0 := by
      unfold ofE at he
      split at he
      · rename_i h; exact absurd he h
      · rename_i h; omega
    obtain ⟨hs, hz, n1, n2⟩ := check_0 hch
    obtain ⟨s1, s2, s3, s4⟩ := sized_len hs
    have hmay := check_may hch
    have hv8 : (ofR t).length ≤ 8 := by
      unfold ofR
      rw [if_neg (by omega)]
      have o1 := onceR_len t.init
      cases hv : valsR t (min (cntT 2 t) 6) (onceR t.init) with
      | none => simp
      | some r => exact valsR_len _ _ r (by omega) hv
    have hb : ∀ x ∈ t.th, x.length ≤ 1000 := fun x hx => by
      obtain ⟨k, hk, rfl⟩ := List.mem_iff_getElem.1 hx
      rw [gd_get hk]; have := (thE_0 (hz k hk)).2.1; omega
    simp -implicitDefEqProofs (disch := first | exact dsch | fail) only [go_sem, ↓reduceIte, Nat.reduceEqDiff, he]
    refine loop_k (n := t.th.length) [1, 4, 30, 31] (by kernel_rfl) (fun i e H => e 32 = .t (.int .i64 i) ∧ ∃ wv ws R, e 6 = wv ∧ H = ⟨[.t (enc t)], 2, false⟩ :: R ∧ WaysAt R wv ws (.ex []) [] ∧ waysTo t (ofR t) i = some ws) ?_ ?_
    · rintro i e H hi hk ⟨hc, wv, ws, R, h6, rfl, hW, hws⟩
      simp only [keepP, go_sem, ↓reduceIte, Nat.reduceEqDiff, and_true] at hk
      have wlen := ways_len hws
      have wmem := ways_mem hws
      by_cases hlt : i < t.th.length
      · have hbt := hb _ (gd_mem hlt)
        have tlen := traces_len (th := gd t.th i) (locs := t.init.length) hv8
        have hW1 := hW.len
        have hstep : waysTo t (ofR t) (i + 1) = if 20000 < ws.length * (tracesR (gd t.th i) t.init.length (ofR t)).length then none else some (ws.flatMap fun w => (tracesR (gd t.th i) t.init.length (ofR t)).map fun x => w ++ [x]) := by
          rw [waysTo, hws]; rfl
        have hmul : ws.length * (tracesR (gd t.th i) t.init.length (ofR t)).length ≤ 20000 * 1048576 := Nat.mul_le_mul wlen tlen
        have hcast : (ws.length : Int) * ((tracesR (gd t.th i) t.init.length (ofR t)).length : Int) = ((ws.length * (tracesR (gd t.th i) t.init.length (ofR t)).length : Nat) : Int) := by simp
        by_cases hbig : 20000 < ws.length * (tracesR (gd t.th i) t.init.length (ofR t)).length
        · have hnone : waysTo t (ofR t) t.th.length = none := ways_none (k := i + 1) (by rw [hstep, if_pos hbig]) _ (by omega)
          rw [hnone]
          simp -implicitDefEqProofs (disch := first | exact dsch | fail) only [go_sem, ↓reduceIte, Nat.reduceEqDiff, hk, hc, h6, hW1, hcast, hbig]
          rfl
        · rw [if_neg hbig] at hstep
          have hbnd : (ws.flatMap fun w => (tracesR (gd t.th i) t.init.length (ofR t)).map fun x => w ++ [x]).length ≤ 20000 := by
            have := flat_len (l := ws) (f := fun w => (tracesR (gd t.th i) t.init.length (ofR t)).map fun x => w ++ [x]) (m := (tracesR (gd t.th i) t.init.length (ofR t)).length) fun w _ => by simp
            omega
          obtain ⟨trs, htrs⟩ : ∃ trs, trs = tracesR (gd t.th i) t.init.length (ofR t) := ⟨_, rfl⟩
          simp -implicitDefEqProofs (disch := first | exact dsch | fail) only [go_sem, ↓reduceIte, Nat.reduceEqDiff, hk, hc, h6, hW1, hcast, hbig]
          rw [← htrs] at tlen hstep hbig hbnd
          rw [← htrs]
          refine loop_k (n := ws.length) [2, 3, 6, 9, 32, 48, 49] (by kernel_rfl) (fun j e H => e 50 = .t (.int .i64 j) ∧ ∃ nv R, e 10 = nv ∧ H = ⟨[.t (enc t)], 2, false⟩ :: R ∧ WaysAt R wv ws nv ((ws.take j).flatMap fun w => trs.map fun x => w ++ [x])) ?_ ?_
          · rintro j e2 H2 hj hk2 ⟨hc2, nv, R2, h10, rfl, hW⟩
            simp only [keepP, go_sem, ↓reduceIte, Nat.reduceEqDiff, and_true] at hk2
            have hst2 : ∀ h : j < ws.length, _ := fun h => flat_take (f := fun w => trs.map fun x => w ++ [x]) h
            by_cases hlt2 : j < ws.length
            · have hst := hst2 hlt2
              have ix := fun o e => hW.ix o e hlt2
              obtain ⟨f0, ld⟩ := hW.ld ⟨[.t (enc t)], 2, false⟩ hlt2
              simp -implicitDefEqProofs (disch := first | exact dsch | fail) only [go_sem, ↓reduceIte, Nat.reduceEqDiff, hk, hc, hk2, hc2, h6, h10, ix, ld]
              have hwl := (wmem _ (gd_mem hlt2)).1
              refine loop_k (n := trs.length) [2, 3, 1, 4, 6, 8, 9, 12, 30, 31, 32, 48, 49, 50, 54, 55] (by kernel_rfl) (fun m e H => e 56 = .t (.int .i64 m) ∧ ∃ nv R, e 10 = nv ∧ H = ⟨[.t (enc t)], 2, false⟩ :: R ∧ WaysAt R wv ws nv (((ws.take j).flatMap fun w => trs.map fun x => w ++ [x]) ++ ((trs.take m).map fun x => gd ws j ++ [x]))) ?_ ?_
              · rintro m e3 H3 hm hk3 ⟨hc3, nv, R3, h10', rfl, hW⟩
                simp only [keepP, go_sem, ↓reduceIte, Nat.reduceEqDiff, and_true] at hk3
                by_cases hlt3 : m < trs.length
                · have hmm : (trs.take (m + 1)).map (fun x => gd ws j ++ [x]) = (trs.take m).map (fun x => gd ws j ++ [x]) ++ [gd ws j ++ [gd trs m]] := by rw [← take_gd hlt3, List.map_append]; rfl
                  rw [hmm, ← List.append_assoc]
                  obtain ⟨nl, hnl⟩ : ∃ nl, nl = ((ws.take j).flatMap fun w => trs.map fun x => w ++ [x]) ++ ((trs.take m).map fun x => gd ws j ++ [x]) := ⟨_, rfl⟩
                  have hnlen : nl.length ≤ 20000 := by
                    have q1 := flat_len (l := ws.take j) (f := fun w => trs.map fun x => w ++ [x]) (m := trs.length) fun w _ => by simp
                    have q2 : (ws.take j).length * trs.length + trs.length ≤ ws.length * trs.length := by
                      rw [List.length_take]
                      have : min j ws.length + 1 ≤ ws.length := by omega
                      have := Nat.mul_le_mul_right trs.length this
                      rw [Nat.add_mul] at this; omega
                    rw [hnl, List.length_append, List.length_map, List.length_take]
                    omega
                  rw [← hnl] at hW
                  rw [← hnl]
                  have hWb := hW.begin
                  have hcases : (nv = .ex [] ∧ nl = []) ∨ ∃ k, nv = .ref (k + 1) nl.length ∧ R3[k]? = some ⟨vs nl, 1, false⟩ := by
                    rcases hW with ⟨_, h | h⟩ | ⟨_, _, _, h | ⟨k, _, h⟩⟩
                    · exact .inl h
                    · exact .inr h
                    · exact .inl h
                    · exact .inr ⟨k, h⟩
                  rcases hcases with ⟨rfl, rfl⟩ | ⟨k, rfl, hg⟩
                  · simp -implicitDefEqProofs (disch := first | exact dsch | fail) only [go_sem, ↓reduceIte, Nat.reduceEqDiff, hk, hc, hk2, hc2, hk3, hc3, h6, h10', gx0, gxk, sx0, sxk, List.append_assoc, hwl]
                    exact ⟨hlt3, _, _, rfl, rfl, hWb.new (gd ws j ++ [gd trs m]) [⟨[.t (enc (gd trs m))], 16, false⟩, ⟨vs (gd ws j ++ [gd trs m]), 16, true⟩]⟩
                  · simp -implicitDefEqProofs (disch := first | exact dsch | fail) only [go_sem, ↓reduceIte, Nat.reduceEqDiff, hk, hc, hk2, hc2, hk3, hc3, h6, h10', gx0, gxk, sx0, sxk, List.append_assoc, hwl, at_all hg]
                    exact ⟨hlt3, _, _, rfl, rfl, (hW.ext [⟨[.t (enc (gd trs m))], 16, false⟩, ⟨vs (gd ws j ++ [gd trs m]), 16, true⟩]).grow _⟩
                · obtain rfl : m = trs.length := by omega
                  simp -implicitDefEqProofs (disch := first | exact dsch | fail) only [go_sem, ↓reduceIte, Nat.reduceEqDiff, hk, hc, hk2, hc2, hk3, hc3, h6, h10']
                  refine ⟨hlt2, _, _, rfl, rfl, ?_⟩
                  rw [hst]
                  rw [List.take_length] at hW
                  exact hW
              · simp -implicitDefEqProofs (disch := first | exact dsch | fail) only [go_sem, ↓reduceIte, Nat.reduceEqDiff, h10]
                refine ⟨_, _, rfl, rfl, ?_⟩
                simpa using hW
            · obtain rfl : j = ws.length := by omega
              rw [List.take_length] at hW
              simp -implicitDefEqProofs (disch := first | exact dsch | fail) only [go_sem, ↓reduceIte, Nat.reduceEqDiff, hk, hc, hk2, hc2, h6, h10]
              exact ⟨hlt, _, _, _, rfl, rfl, hW.turn, hstep⟩
          · simp -implicitDefEqProofs (disch := first | exact dsch | fail) only [go_sem, ↓reduceIte, Nat.reduceEqDiff]
            refine ⟨_, _, rfl, rfl, ?_⟩
            rw [List.flatMap_nil]; exact hW
      · obtain rfl : i = t.th.length := by omega
        rw [hws]
        have hW1 := hW.len
        have hjoin : ∀ w ∈ ws, (∀ x ∈ w, FineT x) ∧ w.length ≤ 3 ∧ nEv w ≤ 24 := by
          intro w hw
          obtain ⟨g1, g2⟩ := wmem w hw
          have hx : ∀ x ∈ w, WfT t.init.length x ∧ x.ev.length ≤ 8 := fun x hx => by
            obtain ⟨k, hk, rfl⟩ := List.mem_iff_getElem.1 hx
            rw [gd_get hk]
            have := g2 k (by omega)
            exact ⟨traces_wf (hmay _ (gd_mem (by omega))) _ this, traces_ev _ this⟩
          refine ⟨fun x h => fine_wf (hx x h).1 (hx x h).2, by omega, ?_⟩
          have : ∀ l : List Tr, (∀ x ∈ l, x.ev.length ≤ 8) → nEv l ≤ l.length * 8 := by
            intro l
            induction l with
            | nil => intro _; simp [nEv]
            | cons a l ih =>
              intro h
              have h1 := h a (by simp)
              have h2 := ih fun x hx => h x (by simp [hx])
              unfold nEv at h2 ⊢
              simp only [List.map_cons, List.sum_cons, List.length_cons]
              omega
          have := this w fun x h => (hx x h).2
          omega
        simp -implicitDefEqProofs (disch := first | exact dsch | fail) only [go_sem, ↓reduceIte, Nat.reduceEqDiff, hk, hc, h6, hW1]
        refine loop_k (n := ws.length) [2, 3, 76, 77] (by kernel_rfl) (fun j e H => e 78 = .t (.int .i64 j) ∧ ∃ ov R, e 15 = ov ∧ H = ⟨[.t (enc t)], 2, false⟩ :: R ∧ WaysAt R wv ws (.ex []) [] ∧ ((ov = .ex [] ∧ j = 0) ∨ ∃ k, ov = .ref (k + 1) j ∧ R[k]? = some ⟨vs ((ws.take j).map joinR), 7, false⟩)) ?_ ?_
        · rintro j e2 H2 hj hk2 ⟨hc2, ov, R2, h15, rfl, hW, hO⟩
          simp only [keepP, go_sem, ↓reduceIte, Nat.reduceEqDiff, and_true] at hk2
          by_cases hlt2 : j < ws.length
          · have ix := fun o e => hW.ix o e hlt2
            obtain ⟨f0, ld⟩ := hW.ld ⟨[.t (enc t)], 2, false⟩ hlt2
            obtain ⟨j1, j2, j3⟩ := hjoin _ (gd_mem hlt2)
            have hj1 := fun K => pu_Join (K := K) j1 j2 j3
            have hmm : (ws.take (j + 1)).map joinR = (ws.take j).map joinR ++ [joinR (gd ws j)] := by rw [← take_gd hlt2, List.map_append]; rfl
            rcases hO with ⟨rfl, rfl⟩ | ⟨k, rfl, hg⟩
            · have ix0 : ∀ o e, indexV (o :: R2) (.sl e) 1 wv 0 = some (pvW wv ws 0) := fun o e => ix o e
              simp -implicitDefEqProofs (disch := first | exact dsch | fail) only [go_sem, ↓reduceIte, Nat.reduceEqDiff, hk, hc, hk2, hc2, h6, h15, ix0, ld, hj1, gx0, gxk, sx0, sxk, List.append_assoc]
              refine ⟨hlt2, _, _, rfl, rfl, hW.ext _, .inr ⟨R2.length + 1, rfl, ?_⟩⟩
              rw [gxk, show List.take 1 ws = List.take (0 + 1) ws from rfl, hmm]; rfl
            · have hlen : ((ws.take j).map joinR).length = j := by rw [List.length_map, List.length_take]; omega
              simp -implicitDefEqProofs (disch := first | exact dsch | (simp only [go_sem, hk, hc, hk2, hc2, h6, h15, ix, ld, hj1, gx0, gxk, sx0, sxk, List.append_assoc, at_all hg, hlen]; omega) | (refine of_eq_true ?_; simp (disch := first | omega | (refine of_eq_true ?_; simp only [go_sem, hk, hc, hk2, hc2, h6, h15, ix, ld, hj1, gx0, gxk, sx0, sxk, List.append_assoc, at_all hg, hlen]; done) | (simp only [go_sem, hk, hc, hk2, hc2, h6, h15, ix, ld, hj1, gx0, gxk, sx0, sxk, List.append_assoc, at_all hg, hlen]; omega)) only [go_sem, hk, hc, hk2, hc2, h6, h15, ix, ld, hj1, gx0, gxk, sx0, sxk, List.append_assoc, at_all hg, hlen]; done) | fail) only [go_sem, ↓reduceIte, Nat.reduceEqDiff, hk, hc, hk2, hc2, h6, h15, ix, ld, hj1, gx0, gxk, sx0, sxk, List.append_assoc, at_all hg, hlen]
              refine ⟨hlt2, _, _, rfl, rfl, (hW.ext _).set0 (at_all hg _) (by simp), .inr ⟨k, rfl, ?_⟩⟩
              rw [List.getElem?_set_self (at_lt (at_all hg _)), hmm]
          · obtain rfl : j = ws.length := by omega
            rcases hO with ⟨rfl, h0⟩ | ⟨k, rfl, hg⟩
            · simp -implicitDefEqProofs (disch := first | exact dsch | fail) only [go_sem, ↓reduceIte, Nat.reduceEqDiff, hk, hc, hk2, hc2, h15]
              rw [show ws = [] from List.length_eq_zero_iff.1 h0]; rfl
            · rw [List.take_length] at hg
              simp -implicitDefEqProofs (disch := first | exact dsch | (simp only [go_sem, hk, hc, hk2, hc2, h15, hg, List.length_map]; omega) | (refine of_eq_true ?_; simp (disch := first | omega | (refine of_eq_true ?_; simp only [go_sem, hk, hc, hk2, hc2, h15, hg, List.length_map]; done) | (simp only [go_sem, hk, hc, hk2, hc2, h15, hg, List.length_map]; omega)) only [go_sem, hk, hc, hk2, hc2, h15, hg, List.length_map]; done) | fail) only [go_sem, ↓reduceIte, Nat.reduceEqDiff, hk, hc, hk2, hc2, h15, hg, List.length_map]
        · simp -implicitDefEqProofs (disch := first | exact dsch | fail) only [go_sem, ↓reduceIte, Nat.reduceEqDiff]
          exact ⟨_, _, rfl, rfl, hW, .inl rfl⟩
    · simp -implicitDefEqProofs (disch := first | exact dsch | fail) only [go_sem, ↓reduceIte, Nat.reduceEqDiff]
      exact ⟨_, [[]], [], rfl, rfl, .inl ⟨rfl, .inl ⟨rfl, rfl⟩⟩, rfl⟩
  · rw [if_pos he, if_pos he]
    simp -implicitDefEqProofs (disch := first | exact dsch | fail) only [go_sem, ↓reduceIte, Nat.reduceEqDiff, he]
    rfl
theorem pu_All {t : Te} (hl : t.init.length ≤ 1000000) (hl2 : t.th.length ≤ 1000000) (hl3 : ∀ x ∈ t.th, x.length ≤ 1000000) {K : Kp} : @Pu _ Tryz.prog 48 [enc t] K = K.k (.tup [.t (enc (allR t)), .t (.int .i64 (allE t))]) := (exec_All t hl hl2 hl3).pu
end Go.Sim

namespace Go.Sim
open Enc (enc)

def th (l : List Ev) (i : Nat) : Int := (gd l i).thread
structure WfP (locs : Int) (K : Int) (x : ExP) : Prop where
  evs : ∀ i, i < x.ev.length → EvOk locs (gd x.ev i) ∧ 0 ≤ th x.ev i ∧ th x.ev i < K
  mono : ∀ i k, i ≤ k → k < x.ev.length → th x.ev i ≤ th x.ev k
  po : ∀ i k, x.pp i k = true ↔ i < k ∧ k < x.ev.length ∧ th x.ev i = th x.ev k
  addr : ∀ i k, x.pa i k = true → x.pp i k = true ∧ (gd x.ev i).kind = 1 ∧ (gd x.ev k).kind ≤ 2
  data : ∀ i k, x.pd i k = true → x.pp i k = true ∧ (gd x.ev i).kind = 1 ∧ (gd x.ev k).kind = 2
  ctrl : ∀ i k, x.pc i k = true → x.pp i k = true ∧ (gd x.ev i).kind = 1
  ctrlM : ∀ i k m, x.pc i k = true → x.pp k m = true → x.pc i m = true
  rmw : ∀ i k, x.pr i k = true → x.pp i k = true ∧ (gd x.ev i).kind = 1 ∧ (gd x.ev k).kind = 2 ∧ (gd x.ev i).excl = true ∧ (gd x.ev k).excl = true ∧ (gd x.ev i).loc = (gd x.ev k).loc
  rmwL : ∀ i j k, x.pr i k = true → x.pr j k = true → i = j
  rmwR : ∀ i j k, x.pr i j = true → x.pr i k = true → j = k
  rmwE : ∀ k, k < x.ev.length → (gd x.ev k).kind = 2 → (gd x.ev k).excl = true → ∃ i, x.pr i k = true

theorem wfP_zero (locs : Int) : WfP locs 0 zeroP :=
  ⟨fun i hi => by simp [zeroP] at hi, fun i k _ hk => by simp [zeroP] at hk, fun i k => by simp [zeroP], fun i k h => by simp [zeroP] at h, fun i k h => by simp [zeroP] at h, fun i k h => by simp [zeroP] at h, fun i k m h => by simp [zeroP] at h, fun i k h => by simp [zeroP] at h, fun i j k h => by simp [zeroP] at h, fun i j k h => by simp [zeroP] at h, fun k hk => by simp [zeroP] at hk⟩

theorem bits_iff {b k : Nat} {l : List U32} {i j : Nat} : bitsP b k l i j = true ↔ b ≤ i ∧ i < j ∧ j < b + k ∧ (gd l (j - b)).getLsbD (i - b) = true := by
  unfold bitsP; simp
theorem wfP_add {locs K : Int} {x : ExP} {t : Tr} (h : WfP locs K x) (hK : 0 ≤ K) (ht : WfT locs t) : WfP locs (K + 1) (addP x K t) := by
  obtain ⟨b, hb⟩ : ∃ b, b = x.ev.length := ⟨_, rfl⟩
  obtain ⟨m, hm⟩ : ∃ m, m = t.ev.length := ⟨_, rfl⟩
  have len : (addP x K t).ev.length = b + m := by simp [addP, addTo, hb, hm]
  have evO : ∀ i, i < b → gd (addP x K t).ev i = gd x.ev i := fun i hi => by
    show gd (x.ev ++ _) i = _
    rw [gd_app_l (by omega)]
  have evN : ∀ i, b ≤ i → i < b + m → gd (addP x K t).ev i = { gd t.ev (i - b) with thread := K } := fun i h1 h2 => by
    show gd (x.ev ++ (t.ev.take t.ev.length).map _) i = _
    rw [gd_app_r (by omega), List.take_length, gd_map _ (by omega), hb]
  have ppI : ∀ i j, (addP x K t).pp i j = true ↔ x.pp i j = true ∨ (b ≤ i ∧ i < j ∧ j < b + m) := fun i j => by
    show (x.pp i j || (decide (x.ev.length ≤ i) && (decide (i < j) && decide (j < x.ev.length + t.ev.length)))) = true ↔ _
    rw [← hb, ← hm]; simp
  have bI : ∀ (p : Nat → Nat → Bool) (l : List U32) i j, (p i j || bitsP x.ev.length t.ev.length l i j) = true ↔ p i j = true ∨ (b ≤ i ∧ i < j ∧ j < b + m ∧ (gd l (j - b)).getLsbD (i - b) = true) := fun p l i j => by
    rw [Bool.or_eq_true, bits_iff, ← hb, ← hm]
  have paI : ∀ i j, (addP x K t).pa i j = true ↔ _ := bI x.pa t.addr
  have pdI : ∀ i j, (addP x K t).pd i j = true ↔ _ := bI x.pd t.data
  have pcI : ∀ i j, (addP x K t).pc i j = true ↔ _ := bI x.pc t.ctrl
  have prI : ∀ i j, (addP x K t).pr i j = true ↔ x.pr i j = true ∨ (b ≤ i ∧ b ≤ j ∧ j < b + m ∧ gd t.pair (j - b) = ((i - b : Nat) : Int)) := fun i j => by
    show (x.pr i j || (decide (x.ev.length ≤ i) && (decide (x.ev.length ≤ j) && (decide (j < x.ev.length + t.ev.length) && decide (gd t.pair (j - x.ev.length) = ((i - x.ev.length : Nat) : Int)))))) = true ↔ _
    rw [← hb, ← hm]; simp
  have thO : ∀ i, i < b → th (addP x K t).ev i = th x.ev i := fun i hi => by unfold th; rw [evO i hi]
  have thN : ∀ i, b ≤ i → i < b + m → th (addP x K t).ev i = K := fun i h1 h2 => by unfold th; rw [evN i h1 h2]
  have xlt : ∀ i k, x.pp i k = true → i < k ∧ k < b := fun i k hp => by have := (h.po i k).1 hp; omega
  refine ⟨?_, ?_, ?_, ?_, ?_, ?_, ?_, ?_, ?_, ?_, ?_⟩
  · intro i hi
    rw [len] at hi
    by_cases h1 : i < b
    · rw [evO i h1, thO i h1]
      obtain ⟨g1, g2, g3⟩ := h.evs i (by omega)
      exact ⟨g1, g2, by omega⟩
    · rw [evN i (by omega) hi, thN i (by omega) hi]
      obtain ⟨g1, _⟩ := ht.evs (i - b) (by omega)
      exact ⟨⟨g1.kind, g1.loc, g1.bar, g1.acq, g1.rel⟩, hK, by omega⟩
  · intro i k hik hk
    rw [len] at hk
    by_cases h1 : k < b
    · rw [thO i (by omega), thO k h1]; exact h.mono i k hik (by omega)
    · rw [thN k (by omega) hk]
      by_cases h2 : i < b
      · rw [thO i h2]; have := (h.evs i (by omega)).2.2; omega
      · rw [thN i (by omega) (by omega)]; exact Int.le_refl _
  · intro i k
    rw [ppI, len]
    constructor
    · rintro (hp | ⟨h1, h2, h3⟩)
      · obtain ⟨g1, g2, g3⟩ := (h.po i k).1 hp
        exact ⟨g1, by omega, by rw [thO i (by omega), thO k (by omega)]; exact g3⟩
      · exact ⟨h2, h3, by rw [thN i h1 (by omega), thN k (by omega) h3]⟩
    · rintro ⟨h1, h2, h3⟩
      by_cases h4 : k < b
      · rw [thO i (by omega), thO k h4] at h3
        exact .inl ((h.po i k).2 ⟨h1, by omega, h3⟩)
      · by_cases h5 : i < b
        · rw [thO i h5, thN k (by omega) h2] at h3
          have := (h.evs i (by omega)).2.2; omega
        · exact .inr ⟨by omega, h1, h2⟩
  · intro i k hp
    rcases (paI i k).1 hp with hp | ⟨h1, h2, h3, h4⟩
    · obtain ⟨g1, g2, g3⟩ := h.addr i k hp
      have := xlt i k g1
      rw [evO i (by omega), evO k (by omega)]
      exact ⟨(ppI i k).2 (.inl g1), g2, g3⟩
    · obtain ⟨g1, g2⟩ := ht.addrB (k - b) (by omega) _ h4
      rw [evN i h1 (by omega), evN k (by omega) h3]
      refine ⟨(ppI i k).2 (.inr ⟨h1, h2, h3⟩), g2, ?_⟩
      show (gd t.ev (k - b)).kind ≤ 2
      by_cases h5 : 3 ≤ (gd t.ev (k - b)).kind
      · rw [ht.addrK (k - b) (by omega) h5] at h4; simp at h4
      · omega
  · intro i k hp
    rcases (pdI i k).1 hp with hp | ⟨h1, h2, h3, h4⟩
    · obtain ⟨g1, g2, g3⟩ := h.data i k hp
      have := xlt i k g1
      rw [evO i (by omega), evO k (by omega)]
      exact ⟨(ppI i k).2 (.inl g1), g2, g3⟩
    · obtain ⟨g1, g2⟩ := ht.dataB (k - b) (by omega) _ h4
      rw [evN i h1 (by omega), evN k (by omega) h3]
      refine ⟨(ppI i k).2 (.inr ⟨h1, h2, h3⟩), g2, ?_⟩
      show (gd t.ev (k - b)).kind = 2
      by_cases h5 : (gd t.ev (k - b)).kind = 2
      · exact h5
      · rw [ht.dataK (k - b) (by omega) h5] at h4; simp at h4
  · intro i k hp
    rcases (pcI i k).1 hp with hp | ⟨h1, h2, h3, h4⟩
    · obtain ⟨g1, g2⟩ := h.ctrl i k hp
      have := xlt i k g1
      rw [evO i (by omega)]
      exact ⟨(ppI i k).2 (.inl g1), g2⟩
    · obtain ⟨g1, g2⟩ := ht.ctrlB (k - b) (by omega) _ h4
      rw [evN i h1 (by omega)]
      exact ⟨(ppI i k).2 (.inr ⟨h1, h2, h3⟩), g2⟩
  · intro i k m' hp hq
    rcases (pcI i k).1 hp with hp | ⟨h1, h2, h3, h4⟩
    · rcases (ppI k m').1 hq with hq | ⟨h5, _⟩
      · exact (pcI i m').2 (.inl (h.ctrlM i k m' hp hq))
      · have := xlt i k (h.ctrl i k hp).1; omega
    · rcases (ppI k m').1 hq with hq | ⟨h5, h6, h7⟩
      · have := xlt k m' hq; omega
      · exact (pcI i m').2 (.inr ⟨h1, by omega, h7, ht.ctrlM (k - b) (m' - b) (by omega) (by omega) _ h4⟩)
  · intro i k hp
    rcases (prI i k).1 hp with hp | ⟨h1, h2, h3, h4⟩
    · obtain ⟨g1, g2⟩ := h.rmw i k hp
      have := xlt i k g1
      rw [evO i (by omega), evO k (by omega)]
      exact ⟨(ppI i k).2 (.inl g1), g2⟩
    · obtain ⟨g1, g2, g3, g4, g5, g6⟩ := ht.prYes (k - b) (by omega) (by omega)
      rw [h4] at g1 g4 g5 g6
      simp only [Int.toNat_natCast] at g4 g5 g6
      rw [evN i h1 (by omega), evN k (by omega) h3]
      exact ⟨(ppI i k).2 (.inr ⟨h1, by omega, h3⟩), g4, g2, g5, g3, g6⟩
  · intro i j k hp hq
    rcases (prI i k).1 hp with hp | ⟨h1, h2, h3, h4⟩ <;> rcases (prI j k).1 hq with hq | ⟨k1, k2, k3, k4⟩
    · exact h.rmwL i j k hp hq
    · have := xlt i k (h.rmw i k hp).1; omega
    · have := xlt j k (h.rmw j k hq).1; omega
    · omega
  · intro i j k hp hq
    rcases (prI i j).1 hp with hp | ⟨h1, h2, h3, h4⟩ <;> rcases (prI i k).1 hq with hq | ⟨k1, k2, k3, k4⟩
    · exact h.rmwR i j k hp hq
    · have := xlt i j (h.rmw i j hp).1; omega
    · have := xlt i k (h.rmw i k hq).1; omega
    · rcases Nat.lt_trichotomy j k with h5 | h5 | h5
      · exact absurd (k4.trans h4.symm) (ht.prInj (j - b) (k - b) (by omega) (by omega) (by omega))
      · exact h5
      · exact absurd (h4.trans k4.symm) (ht.prInj (k - b) (j - b) (by omega) (by omega) (by omega))
  · intro k hk h1 h2
    rw [len] at hk
    by_cases h3 : k < b
    · rw [evO k h3] at h1 h2
      obtain ⟨i, hi⟩ := h.rmwE k (by omega) h1 h2
      exact ⟨i, (prI i k).2 (.inl hi)⟩
    · rw [evN k (by omega) hk] at h1 h2
      by_cases h4 : gd t.pair (k - b) < 0
      · have := ht.prNo (k - b) (by omega) h4 h1
        rw [this] at h2; cases h2
      · refine ⟨b + (gd t.pair (k - b)).toNat, (prI _ k).2 (.inr ⟨by omega, by omega, hk, ?_⟩)⟩
        have : b + (gd t.pair (k - b)).toNat - b = (gd t.pair (k - b)).toNat := by omega
        rw [this]; omega
theorem wfP_join {locs : Int} {l : List Tr} : ∀ (k : Nat), (∀ j, j < k → WfT locs (gd l j)) → WfP locs k (joinTo l k)
  | 0, _ => wfP_zero locs
  | k + 1, h => by
    rw [joinTo]
    have := wfP_add (wfP_join k fun j hj => h j (by omega)) (by omega) (h k (by omega))
    simpa using this

structure WfE (locs : Int) (x : Ex) : Prop where
  n : x.ev.length ≤ 24
  lpo : x.po.length = x.ev.length
  laddr : x.addr.length = x.ev.length
  ldata : x.data.length = x.ev.length
  lctrl : x.ctrl.length = x.ev.length
  lrmw : x.rmw.length = x.ev.length
  evs : ∀ i, i < x.ev.length → EvOk locs (gd x.ev i) ∧ 0 ≤ th x.ev i
  mono : ∀ i k, i ≤ k → k < x.ev.length → th x.ev i ≤ th x.ev k
  po : ∀ i k, has x.po i k = true ↔ i < k ∧ k < x.ev.length ∧ th x.ev i = th x.ev k
  addr : ∀ i k, has x.addr i k = true → has x.po i k = true ∧ (gd x.ev i).kind = 1 ∧ (gd x.ev k).kind ≤ 2
  data : ∀ i k, has x.data i k = true → has x.po i k = true ∧ (gd x.ev i).kind = 1 ∧ (gd x.ev k).kind = 2
  ctrl : ∀ i k, has x.ctrl i k = true → has x.po i k = true ∧ (gd x.ev i).kind = 1
  ctrlM : ∀ i k m, has x.ctrl i k = true → has x.po k m = true → has x.ctrl i m = true
  rmw : ∀ i k, has x.rmw i k = true → has x.po i k = true ∧ (gd x.ev i).kind = 1 ∧ (gd x.ev k).kind = 2 ∧ (gd x.ev i).excl = true ∧ (gd x.ev k).excl = true ∧ (gd x.ev i).loc = (gd x.ev k).loc
  rmwL : ∀ i j k, has x.rmw i k = true → has x.rmw j k = true → i = j
  rmwR : ∀ i j k, has x.rmw i j = true → has x.rmw i k = true → j = k
  rmwE : ∀ k, k < x.ev.length → (gd x.ev k).kind = 2 → (gd x.ev k).excl = true → ∃ i, has x.rmw i k = true
theorem wfE_of {locs K : Int} {x : ExP} {n : Nat} (h : WfP locs K x) (hn : x.ev.length = n) (h24 : n ≤ 24) : WfE locs (x.ex n) := by
  subst hn
  have hm : ∀ (p : Nat → Nat → Bool) i k, has (mk x.ev.length p) i k = true ↔ i < x.ev.length ∧ k < x.ev.length ∧ p i k = true := fun p i k => by
    rw [has_mk (by omega)]; simp
  have lt : ∀ i k, x.pp i k = true → i < x.ev.length ∧ k < x.ev.length := fun i k hp => by have := (h.po i k).1 hp; omega
  have go : ∀ (p : Nat → Nat → Bool), (∀ i k, p i k = true → x.pp i k = true) → ∀ i k, has (mk x.ev.length p) i k = true ↔ p i k = true := fun p hp i k => by
    rw [hm]
    exact ⟨fun h => h.2.2, fun h => ⟨(lt i k (hp i k h)).1, (lt i k (hp i k h)).2, h⟩⟩
  have gpo := go x.pp fun _ _ h => h
  have ga := go x.pa fun i k hh => (h.addr i k hh).1
  have gd' := go x.pd fun i k hh => (h.data i k hh).1
  have gc := go x.pc fun i k hh => (h.ctrl i k hh).1
  have gr := go x.pr fun i k hh => (h.rmw i k hh).1
  refine ⟨h24, mk_len _ _, mk_len _ _, mk_len _ _, mk_len _ _, mk_len _ _, fun i hi => ⟨(h.evs i hi).1, (h.evs i hi).2.1⟩, h.mono, fun i k => ?_, fun i k hh => ?_, fun i k hh => ?_, fun i k hh => ?_, fun i k m h1 h2 => ?_, fun i k hh => ?_, fun i j k h1 h2 => ?_, fun i j k h1 h2 => ?_, fun k hk h1 h2 => ?_⟩
  · exact (gpo i k).trans (h.po i k)
  · have := h.addr i k ((ga i k).1 hh); exact ⟨(gpo i k).2 this.1, this.2⟩
  · have := h.data i k ((gd' i k).1 hh); exact ⟨(gpo i k).2 this.1, this.2⟩
  · have := h.ctrl i k ((gc i k).1 hh); exact ⟨(gpo i k).2 this.1, this.2⟩
  · exact (gc i m).2 (h.ctrlM i k m ((gc i k).1 h1) ((gpo k m).1 h2))
  · have := h.rmw i k ((gr i k).1 hh); exact ⟨(gpo i k).2 this.1, this.2⟩
  · exact h.rmwL i j k ((gr i k).1 h1) ((gr j k).1 h2)
  · exact h.rmwR i j k ((gr i j).1 h1) ((gr i k).1 h2)
  · obtain ⟨i, hi⟩ := h.rmwE k hk h1 h2; exact ⟨i, (gr i k).2 hi⟩
theorem of_0 {t : Te} (h : ofE t = 0) : checkE t = 0 := by
  unfold ofE at h
  split at h
  · rename_i hh; exact absurd h hh
  · rename_i hh; omega
theorem allE_0 {t : Te} (h : allE t = 0) : ofE t = 0 := by
  unfold allE at h
  split at h
  · rename_i hh; exact absurd h hh
  · rename_i hh; omega
theorem ofR_8 {t : Te} (h : ofE t = 0) : (ofR t).length ≤ 8 := by
  have hch := of_0 h
  obtain ⟨hs, _⟩ := check_0 hch
  obtain ⟨s1, s2, s3, s4⟩ := sized_len hs
  unfold ofR
  rw [if_neg (by omega)]
  have o1 := onceR_len t.init
  cases hv : valsR t (min (cntT 2 t) 6) (onceR t.init) with
  | none => simp
  | some r => exact valsR_len _ _ r (by omega) hv
theorem all_wf {t : Te} {x : Ex} (hx : x ∈ allR t) : WfE t.init.length x ∧ checkE t = 0 := by
  unfold allR at hx
  split at hx
  · cases hx
  rename_i ho
  have ho : ofE t = 0 := by omega
  have hch := of_0 ho
  have hmay := check_may hch
  have hv8 := ofR_8 ho
  obtain ⟨hs, hz, _⟩ := check_0 hch
  obtain ⟨s1, s2, s3, s4⟩ := sized_len hs
  cases hw : waysTo t (ofR t) t.th.length with
  | none => rw [hw] at hx; simp at hx
  | some ws =>
    rw [hw] at hx
    obtain ⟨w, hw1, rfl⟩ := List.mem_map.1 hx
    simp only [Option.getD_some] at hw1
    obtain ⟨g1, g2⟩ := ways_mem hw w hw1
    have hwf : ∀ j, j < w.length → WfT t.init.length (gd w j) ∧ (gd w j).ev.length ≤ 8 := fun j hj => by
      have := g2 j (by omega)
      exact ⟨traces_wf (hmay _ (gd_mem (by omega))) _ this, traces_ev _ this⟩
    have hn : nEv w ≤ 24 := by
      have : ∀ l : List Tr, (∀ x ∈ l, x.ev.length ≤ 8) → nEv l ≤ l.length * 8 := by
        intro l
        induction l with
        | nil => intro _; simp [nEv]
        | cons a l ih =>
          intro h
          have h1 := h a (by simp)
          have h2 := ih fun x hx => h x (by simp [hx])
          unfold nEv at h2 ⊢
          simp only [List.map_cons, List.sum_cons, List.length_cons]
          omega
      have := this w fun x hx => by
        obtain ⟨k, hk, rfl⟩ := List.mem_iff_getElem.1 hx
        rw [gd_get hk]; exact (hwf k hk).2
      omega
    refine ⟨wfE_of (K := w.length) (wfP_join w.length fun j hj => (hwf j hj).1) ?_ hn, hch⟩
    have := (joinTo_ev (l := w) (k := w.length) (Nat.le_refl _)).1
    rw [List.take_length] at this
    exact this
end Go.Sim
