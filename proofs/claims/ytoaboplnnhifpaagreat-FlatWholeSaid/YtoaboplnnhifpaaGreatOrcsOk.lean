/- A part of the proof of a law of module cupola: OrcsOk, OrcsOk2, OrcsOk3. It has no conditions of its own. -/
import Derived.Test.YtoaboplnnhifpaaGreatSimN
import Derived.Test.YtoaboplnnhifpaaGreatEv
import Derived.Test.YtoaboplnnhifpaaGreatOrcs
import Derived.Test.YtoaboplnnhifpaaGreatKVals
import Derived.Test.YtoaboplnnhifpaaGreatKMakes
import Derived.Test.YtoaboplnnhifpaaGreatKWrote
import Derived.Test.YtoaboplnnhifpaaGreatKSort
set_option linter.all false
namespace Go.Sim
open Enc (enc)
open Go.Proofs Go.RowKit

theorem ints_of_rt {w : World} {S : Cells} (hS : ∀ b j, S b j → b < w.heap.size) {l : List Int} {u : Value} (h : RT w S (.sl (l.map intT)) u) : IntsAt w u l := by
  generalize hx : l.map intT = xs at h
  cases h with
  | sl0 A c => exact .inl ⟨A, c, rfl, by simpa using hx⟩
  | sl _ b o cap esz c hn hl hs hr =>
    subst hx
    by_cases h0 : l = []
    · subst h0; exact .inl ⟨_, _, rfl, rfl⟩
    · have hp : 0 < l.length := List.length_pos_iff.2 h0
      have hesz : esz = 1 := by
        have := hl 0 (by simpa using hp)
        simp only [List.getElem_map] at this
        exact this.symm
      subst hesz
      refine .inr ⟨b, o, cap, by simp, ?_, fun j hj => ?_⟩
      · exact hS _ _ (hs 0 0 (by simpa using hp) (by omega)).1
      · have h1 := (hs j 0 (by simpa using hj) (by omega)).2
        have h2 := hr j (by simpa using hj) 0 (by simp [intT, T.cells])
        simp only [List.getElem_map] at h2
        have h3 : RT w S (.int .i64 l[j]) (c j 0) := h2
        rw [show o + j * 1 + 0 = o + j by omega] at h1
        rw [h1]
        generalize c j 0 = u at h3 ⊢
        cases h3
        simp [hj]
theorem rt_of_new {w w' : World} {S : Cells} {l : List Int} {v : Value} (h : NewInts w.heap.size w' v l) : RT w' (fun b j => S b j ∨ (w.heap.size ≤ b ∧ b < w'.heap.size)) (.sl (l.map intT)) v := by
  rcases h with ⟨rfl, rfl⟩ | ⟨b, cap, rfl, hcap, hb, hlt, hc⟩
  · exact .sl0 _ _
  · have key : Arr w' (fun b j => S b j ∨ (w.heap.size ≤ b ∧ b < w'.heap.size)) (l.map intT) b 0 1 := by
      refine ⟨fun i hi => by simp [intT, T.cells], fun i hi j hj => ?_⟩
      have hi' : i < l.length := by simpa using hi
      have hj0 : j = 0 := by simp [intT, T.cells] at hj; omega
      subst hj0
      refine ⟨.inr ⟨hb, hlt⟩, _, by rw [show 0 + i * 1 + 0 = i by omega]; exact hc i hi', ?_⟩
      simp only [List.getElem_map, List.getElem?_eq_getElem hi', Option.getD_some]
      exact .int _ _
    have := RT.of_arr (cap := cap) key (by simpa using hcap)
    simpa using this
theorem intsT_eq : ∀ {xs : List T} {l : List Int}, intsT xs = some l → xs = l.map intT
  | [], l, h => by simp [intsT] at h; subst h; rfl
  | .int .i64 n :: r, l, h => by
    rw [intsT] at h
    obtain ⟨l', h1, rfl⟩ := Option.map_eq_some_iff.1 h
    rw [intsT_eq h1]; rfl
  | x :: r, l, h => by
    unfold intsT at h
    split at h
    · rename_i e; cases e
    · rename_i n r' e
      cases e
      obtain ⟨l', h1, rfl⟩ := Option.map_eq_some_iff.1 h
      rw [intsT_eq h1]; rfl
    · cases h
theorem cpt_eq : ∀ l : List Int, compactR l = cpt l
  | [] => rfl
  | [_] => rfl
  | x :: y :: r => by rw [compactR, cpt, cpt_eq (y :: r)]
theorem isFn {f : FuncId} {fn : Func} (h : Tryz.prog.funcs[f]? = some fn) (hb : fn.body.isSome = true) (hn : (fn.name == "runtime.NumGoroutine") = false) :
    ∃ fn, Tryz.prog.funcs[f]? = some fn ∧ fn.body.isSome = true ∧ (fn.name == "runtime.NumGoroutine") = false := ⟨fn, h, hb, hn⟩

theorem wf_of {n : Int} (h0 : -9223372036854775808 ≤ n) (h1 : n ≤ 9223372036854775807) : (Lit.int .i64 n).wf = true := by
  have a : IntKind.i64.min = -9223372036854775808 := by decide
  have b : IntKind.i64.max = 9223372036854775807 := by decide
  simp [Lit.wf, a, b, h0, h1]
theorem once_data : DataOk Tryz.prog 89 onceT := by
  intro ts x h
  refine ⟨isFn Tryz.func89 (by kernel_rfl) (by kernel_rfl), ?_⟩
  intro w S us hS hl hv
  unfold onceT at h
  split at h
  · rename_i xs
    obtain ⟨l, h1, h2⟩ := Option.bind_eq_some_iff.1 h
    split at h2
    · rename_i hle
      simp only [Option.some.injEq] at h2
      subst h2
      have := intsT_eq h1
      subst this
      match us, hl with
      | [u], _ =>
        have hu := hv 0 (by simp) (by simp)
        simp only [List.getElem_cons_zero] at hu
        refine (Tryz.once_in u l hle w (ints_of_rt hS hu)).mono ?_
        rintro e w' ⟨v, rfl, hv, hb⟩
        refine ⟨v, _, rfl, ?_, fun b j hs => hs, hb.os, hb.output, hb.size, hb.block⟩
        have := rt_of_new (S := S) hv
        rw [lib_cpt, ← cpt_eq] at this
        exact this
    · cases h2
  · cases h
theorem makes_data : DataOk Tryz.prog 339 makesT := by
  intro ts x h
  refine ⟨isFn Tryz.func339 (by kernel_rfl) (by kernel_rfl), ?_⟩
  intro w S us hS hl hv
  unfold makesT at h
  split at h
  · rename_i op
    split at h
    · rename_i hop
      simp only [Option.some.injEq] at h
      subst h
      match us, hl with
      | [u], _ =>
        have hu := hv 0 (by simp) (by simp)
        simp only [List.getElem_cons_zero] at hu
        cases hu
        refine (Tryz.makes_in op (wf_of hop.1 hop.2) w).mono ?_
        rintro e w' ⟨rfl, hb⟩
        refine ⟨_, S, rfl, ?_, fun b j hs => .inl hs, hb.os, hb.output, hb.size, hb.block⟩
        unfold makesV
        split
        · exact .fn _
        split
        · exact .fn _
        split
        · exact .fn _
        · exact .nilf
    · cases h
  · cases h

def pairE : T → Int × Int
  | .agg (_ :: .int _ k :: _ :: .int _ v :: _) => (k, v)
  | _ => (0, 0)
def evsOf : T → List (Int × Int)
  | .agg (.sl xs :: _) => xs.map pairE
  | _ => []
theorem evVals_eq : ∀ {xs : List T} {l : List Int}, evVals xs = some l → l = wrE (xs.map pairE) ∧ ∀ x ∈ xs, ∃ a k b v c d e, x = .agg [.int .i64 a, .int .i64 k, .int .i64 b, .int .i64 v, .bool c, .bool d, .bool e]
  | [], l, h => by simp [evVals] at h; subst h; exact ⟨rfl, by simp⟩
  | x :: r, l, h => by
    rw [evVals] at h
    cases h1 : evVal x with
    | none => simp [h1] at h
    | some a =>
      cases h2 : evVals r with
      | none => simp [h1, h2] at h
      | some b =>
        simp only [h1, h2, Option.some.injEq] at h
        subst h
        obtain ⟨e1, e2⟩ := evVals_eq h2
        unfold evVal at h1
        split at h1
        · rename_i a0 k b0 v c0 d0 e0
          simp only [Option.some.injEq] at h1
          subst h1
          refine ⟨?_, fun y hy => ?_⟩
          · rw [e1, List.map_cons]
            unfold wrE
            by_cases hk : k = 2 <;> simp [pairE, hk]
          · rcases List.mem_cons.1 hy with rfl | hy
            · exact ⟨_, _, _, _, _, _, _, rfl⟩
            · exact e2 y hy
        · cases h1
theorem trVals_eq : ∀ {xs : List T} {l : List Int}, trVals xs = some l → l = (xs.map evsOf).flatMap wrE ∧ ∀ x ∈ xs, ∃ es cs, x = .agg (.sl es :: cs) ∧ cs.length = 15 ∧ es.length ≤ 1000000000 ∧ cs.all oneT = true ∧ ∃ l', evVals es = some l'
  | [], l, h => by simp [trVals] at h; subst h; exact ⟨rfl, by simp⟩
  | x :: r, l, h => by
    unfold trVals at h
    split at h
    · rename_i e; cases e
    · rename_i es cs r' e
      cases e
      split at h
      · rename_i hg
        split at h
        · rename_i a b h1 h2
          simp only [Option.some.injEq] at h
          subst h
          obtain ⟨e1, e2⟩ := trVals_eq h2
          refine ⟨?_, fun y hy => ?_⟩
          · rw [List.map_cons, List.flatMap_cons, ← e1, (evVals_eq h1).1]; rfl
          · rcases List.mem_cons.1 hy with rfl | hy
            · exact ⟨es, cs, rfl, hg.1, hg.2.1, hg.2.2, a, h1⟩
            · exact e2 y hy
        · cases h
      · cases h
    · cases h
theorem one_rt {w : World} {S : Cells} {x : T} {u : Value} (h : RT w S x u) (ho : oneT x = true) : u.oneCell' = true := by
  cases h <;> first | rfl | (simp [oneT] at ho)
theorem evs_of_rt {w : World} {S : Cells} (hS : ∀ b j, S b j → b < w.heap.size) {es : List T} {l : List Int} (he : evVals es = some l) {u : Value} (h : RT w S (.sl es) u) : EvsAt w u (es.map pairE) := by
  obtain ⟨_, hx⟩ := evVals_eq he
  cases h with
  | sl0 A c => exact .inl ⟨A, c, rfl, rfl⟩
  | sl _ b o cap esz c hn hl hs hr =>
    by_cases h0 : es = []
    · subst h0; exact .inl ⟨_, _, rfl, rfl⟩
    · have hp : 0 < es.length := List.length_pos_iff.2 h0
      have hesz : esz = 7 := by
        have h7 := hl 0 hp
        obtain ⟨a, k, b', v, c', d, e, hh⟩ := hx _ (List.getElem_mem hp)
        rw [hh] at h7; exact h7.symm
      subst hesz
      refine .inr ⟨b, o, cap, c, by simp, hS _ _ (hs 0 0 hp (by omega)).1, fun j hj => ?_⟩
      have hj : j < es.length := by simpa using hj
      obtain ⟨a, k, b', v, c', d, e, hh⟩ := hx _ (List.getElem_mem hj)
      have hcl : (es[j]).cells = [.int .i64 a, .int .i64 k, .int .i64 b', .int .i64 v, .bool c', .bool d, .bool e] := by rw [hh]; rfl
      have hrt : ∀ m (hm : m < 7), RT w S ([.int .i64 a, .int .i64 k, .int .i64 b', .int .i64 v, .bool c', .bool d, .bool e] : List T)[m] (c j m) := fun m hm => by
        have := hr j hj m (by rw [hcl]; exact hm)
        simpa [hcl] using this
      refine ⟨fun m hm => ⟨?_, ?_⟩, ?_, ?_⟩
      · have := (hs j m hj hm).2
        exact this
      · refine one_rt (hrt m hm) ?_
        match m, hm with
        | 0, _ => rfl
        | 1, _ => rfl
        | 2, _ => rfl
        | 3, _ => rfl
        | 4, _ => rfl
        | 5, _ => rfl
        | 6, _ => rfl
      · have := hrt 1 (by omega)
        simp only [List.getElem_cons_succ, List.getElem_cons_zero] at this
        generalize c j 1 = z at this ⊢
        cases this
        simp [hj, hh, pairE]
      · have := hrt 3 (by omega)
        simp only [List.getElem_cons_succ, List.getElem_cons_zero] at this
        generalize c j 3 = z at this ⊢
        cases this
        simp [hj, hh, pairE]
theorem trs_of_rt {w : World} {S : Cells} (hS : ∀ b j, S b j → b < w.heap.size) {xs : List T} {l : List Int} (he : trVals xs = some l) {u : Value} (h : RT w S (.sl xs) u) : TrsAt w u (xs.map evsOf) := by
  obtain ⟨_, hx⟩ := trVals_eq he
  cases h with
  | sl0 A c => exact .inl ⟨A, c, rfl, rfl⟩
  | sl _ b o cap esz c hn hl hs hr =>
    by_cases h0 : xs = []
    · subst h0; exact .inl ⟨_, _, rfl, rfl⟩
    · have hp : 0 < xs.length := List.length_pos_iff.2 h0
      have hesz : esz = 16 := by
        have h7 := hl 0 hp
        obtain ⟨es, cs, hh, h15, _⟩ := hx _ (List.getElem_mem hp)
        rw [hh] at h7
        have : (T.agg (.sl es :: cs)).cells.length = cs.length + 1 := rfl
        omega
      subst hesz
      refine .inr ⟨b, o, cap, c, by simp, hS _ _ (hs 0 0 hp (by omega)).1, fun j hj => ?_⟩
      have hj : j < xs.length := by simpa using hj
      obtain ⟨es, cs, hh, h15, h9, ho, l', hl'⟩ := hx _ (List.getElem_mem hj)
      have hcl : (xs[j]).cells = .sl es :: cs := by rw [hh]; rfl
      have hrt : ∀ m (hm : m < (T.sl es :: cs).length), RT w S (T.sl es :: cs)[m] (c j m) := fun m hm => by
        have := hr j hj m (by rw [hcl]; exact hm)
        simpa [hcl] using this
      refine ⟨fun m hm => ⟨(hs j m hj hm).2, ?_⟩, ?_⟩
      · refine one_rt (hrt m (by simp; omega)) ?_
        cases m with
        | zero => rfl
        | succ m =>
          rw [List.getElem_cons_succ]
          exact List.all_eq_true.1 ho _ (List.getElem_mem _)
      · have h0' := hrt 0 (by simp)
        have := evs_of_rt hS hl' h0'
        simpa [hj, hh, evsOf] using this
theorem wrote_data : DataOk Tryz.prog 91 wroteT := by
  intro ts x h
  refine ⟨isFn Tryz.func91 (by kernel_rfl) (by kernel_rfl), ?_⟩
  intro w S us hS hl hv
  unfold wroteT at h
  split at h
  · rename_i xs
    obtain ⟨l, h1, h2⟩ := Option.bind_eq_some_iff.1 h
    split at h2
    · rename_i hle
      simp only [Option.some.injEq] at h2
      subst h2
      obtain ⟨e1, e2⟩ := trVals_eq h1
      match us, hl with
      | [u], _ =>
        have hu := hv 0 (by simp) (by simp)
        simp only [List.getElem_cons_zero] at hu
        have hls : ∀ es ∈ xs.map evsOf, es.length ≤ 1000000000 := by
          intro es hes
          obtain ⟨y, hy, rfl⟩ := List.mem_map.1 hes
          obtain ⟨es, cs, rfl, _, h9, _⟩ := e2 y hy
          simpa [evsOf] using h9
        refine (Tryz.wrote_in u (xs.map evsOf) w (trs_of_rt hS h1 hu) (by simpa using hle.1) hls ?_ (by rw [← e1]; exact hle.2.1)).mono ?_
        · rw [← e1]
          intro y hy
          have := List.all_eq_true.1 hle.2.2 y hy
          simp only [inRB, Bool.and_eq_true, decide_eq_true_eq] at this
          exact wf_of this.1 this.2
        rintro e w' ⟨v, rfl, hv, hb⟩
        refine ⟨v, _, rfl, ?_, fun b j hs => hs, hb.os, hb.output, hb.size, hb.block⟩
        have := rt_of_new (S := S) hv
        rw [← e1, ← cpt_eq] at this
        exact this
    · cases h2
  · cases h

theorem ext_alloc {w : World} {S : Cells} (hS : ∀ b j, S b j → b < w.heap.size) (o : Go.Obj) : Ext w S [] [] (w.alloc o) S [] [] := by
  have hb : Below w.heap.size w (w.alloc o) := (Below.refl _ w).alloc (Nat.le_refl _) o
  refine ⟨hb.os, hb.output, hb.size, fun b hb' _ => hb.block b hb', fun b j hs => ⟨hs, ?_⟩, fun b j hs => .inl hs, Grow.refl _ _, fun id b c h => by simp at h⟩
  unfold World.cell?
  rw [show (w.alloc o).heap[(⟨b, j, Option.none⟩ : Addr).block]? = w.heap[(⟨b, j, Option.none⟩ : Addr).block]? from hb.block b (hS b j hs)]
theorem clone_ok {f : FuncId} {E : TypeId} {ok : List T → Bool} (hok : ∀ xs, ok xs = true → ∀ x ∈ xs, x.cells = [x] ∧ oneT x = true)
    (hfn : ∃ fn, Tryz.prog.funcs[f]? = some fn ∧ fn.body.isSome = true ∧ (fn.name == "runtime.NumGoroutine") = false)
    (c1 : ∀ (ad : Addr) (n c : Nat) (zs : List Value) (w : World), zs.length = n → (∀ u ∈ zs, u.oneCell' = true) → n * 24 ≤ 140737488355328 → (∀ j u, zs[j]? = some u → w.cell? (ad.add j) = some u) →
      Calls Tryz.prog f #[.slice (some ad) n c] w fun e w' => ∃ v', e = .returned v' ∧ w'.ownsRow w.heap.size E 1 v' n zs ∧ Below w.heap.size w w')
    (c2 : ∀ (ad : Addr) (c : Nat) (w : World), Calls Tryz.prog f #[.slice (some ad) 0 c] w fun e w' => e = .returned (.slice (some ⟨w.heap.size, 0, Option.none⟩) 0 0) ∧ w' = w.alloc (.cells #[] E))
    (c0 : ∀ (n c : Nat) (w : World), Calls Tryz.prog f #[.slice none n c] w fun e w' => e = .returned (.slice none 0 0) ∧ w' = w)
    {args : List V} {H : Heap} {v : V} {H' : Heap} (h : cloneRun ok args H = some (v, H')) :
    (∃ fn, Tryz.prog.funcs[f]? = some fn ∧ fn.body.isSome = true ∧ (fn.name == "runtime.NumGoroutine") = false) ∧
    ∀ (w : World) (S : Cells) (β : Bl) (us : List Value), Rel w S H β → args.length = us.length → (∀ i (hi : i < args.length) (hu : i < us.length), RV w S H β args[i] us[i]) →
      Calls Tryz.prog f us.toArray w (Back w S H β v H') := by
  refine ⟨hfn, ?_⟩
  intro w S β us hR hl hv
  unfold cloneRun at h
  split at h
  · rename_i xs
    split at h
    · rename_i hg
      have hb : β = [] := List.eq_nil_of_length_eq_zero (by rw [hR.len]; rfl)
      subst hb
      match us, hl with
      | [u], _ =>
        have hu := rv_t (by simpa using hv 0 (by simp) (by simp))
        have hS := hR.lt
        cases hx : xs.isEmpty with
        | true =>
          rw [if_pos hx] at h
          simp only [Option.some.injEq, Prod.mk.injEq] at h
          obtain ⟨rfl, rfl⟩ := h
          obtain rfl : xs = [] := by simpa using hx
          have hA : ∃ A c, u = .slice A 0 c := by
            cases hu with
            | sl0 A c => exact ⟨A, c, rfl⟩
            | sl _ b o cap esz c => exact ⟨_, _, rfl⟩
          obtain ⟨A, c, rfl⟩ := hA
          cases A with
          | none =>
            refine (c0 0 c w).mono ?_
            rintro e w' ⟨rfl, rfl⟩
            exact ⟨_, S, [], rfl, Ext.refl _ _ _ _, hR, .ex [] none 0 (.sl0 none 0)⟩
          | some ad =>
            refine (c2 ad c w).mono ?_
            rintro e w' ⟨rfl, rfl⟩
            exact ⟨_, S, [], rfl, ext_alloc hS _, Rel.none fun b j hs => Nat.lt_of_lt_of_le (hS b j hs) (by simp), .ex [] _ 0 (.sl0 _ 0)⟩
        | false =>
          rw [if_neg (by simp [hx])] at h
          simp only [Option.some.injEq, Prod.mk.injEq] at h
          obtain ⟨rfl, rfl⟩ := h
          have hone := hok xs hg.1
          have hpos : 0 < xs.length := by
            cases xs with
            | nil => simp at hx
            | cons a r => simp
          cases hu with
          | sl0 A c => simp at hpos
          | sl _ b o cap esz c hn hcl hs hr =>
            have hesz : esz = 1 := by
              have h7 := hcl 0 hpos
              rw [(hone _ (List.getElem_mem hpos)).1] at h7; exact h7.symm
            subst hesz
            have hrt : ∀ i (hi : i < xs.length), RT w S xs[i] (c i 0) := fun i hi => by
              have h1 := (hone _ (List.getElem_mem hi)).1
              have := hr i hi 0 (by rw [h1]; simp)
              simpa [h1] using this
            refine (c1 ⟨b, o, none⟩ xs.length cap ((List.range xs.length).map fun i => c i 0) w (by simp) ?_ (by have := hg.2; omega) ?_).mono ?_
            · intro u hu
              obtain ⟨i, hi, rfl⟩ := List.mem_map.1 hu
              have hi := List.mem_range.1 hi
              exact one_rt (hrt i hi) (hone _ (List.getElem_mem hi)).2
            · intro j u hj
              have hjl : j < xs.length := by
                have := (List.getElem?_eq_some_iff.1 hj).1
                simpa using this
              have e1 : u = c j 0 := by
                simp [hjl] at hj; exact hj.symm
              subst e1
              rw [Addr.add_lit]
              have := (hs j 0 hjl (by omega)).2
              simpa using this
            · rintro e w' ⟨v', rfl, hrow, hB⟩
              have hst : Stay w S w' S := fun b j hs => ⟨hs, by
                unfold World.cell?
                rw [show w'.heap[(⟨b, j, Option.none⟩ : Addr).block]? = w.heap[(⟨b, j, Option.none⟩ : Addr).block]? from hB.block b (hS b j hs)]⟩
              rcases hrow.2 with ⟨rfl, hz0⟩ | ⟨g, cap2, cur, rfl, hbase, hgb, r1, r2, r3, r4⟩
              · omega
              have hgl : g < w'.heap.size := (Array.getElem?_eq_some_iff.1 hgb).1
              refine ⟨_, S, [(g, cap2)], rfl, ⟨hB.os, hB.output, hB.size, fun b hb _ => hB.block b hb, hst, fun b j hs => .inl hs, fun id o ho => by simp at ho, fun id b c hbc => ?_⟩, ⟨rfl, fun i j b c c' h1 h2 => ?_, fun b j hs => Nat.lt_of_lt_of_le (hS b j hs) hB.size, fun id o b cap h1 h2 => ?_⟩, .ref _ _ _ ⟨⟨_, _, rfl⟩, _, rfl, by simp, fun _ => ⟨g, cap2, rfl, rfl, r1⟩⟩⟩
              · cases id with
                | zero => simp at hbc; exact .inr (by omega)
                | succ n => simp at hbc
              · cases i with
                | zero =>
                  cases j with
                  | zero => rfl
                  | succ n => simp at h2
                | succ n => simp at h1
              · cases id with
                | succ n => simp at h1
                | zero =>
                  simp at h1 h2
                  subst h1
                  obtain ⟨rfl, rfl⟩ := h2
                  refine ⟨by simp, by simpa using r1, fun j => ⟨fun hs => absurd (hS _ _ hs) (by omega), fun hh => by simp at hh⟩, cur, E, hgb, by simpa using r3, fun i hi => ?_⟩
                  have hi' : i < xs.length := by simpa using hi
                  have h1 := (hone _ (List.getElem_mem hi')).1
                  have hc1 : ((xs.map V.t)[i]).cells = [V.t xs[i]] := by
                    rw [List.getElem_map]
                    have ho := (hone _ (List.getElem_mem hi')).2
                    generalize xs[i] = x at ho
                    cases x <;> first | rfl | (simp [oneT] at ho)
                  refine ⟨by rw [hc1]; rfl, fun j hj => ?_⟩
                  have hj0 : j = 0 := by rw [hc1] at hj; simpa using hj
                  subst hj0
                  refine ⟨c i 0, ?_, ?_⟩
                  · have e2 : (cur.toList.take (xs.length * 1))[i]? = some (c i 0) := by rw [r4]; simp [hi']
                    rw [List.getElem?_take] at e2
                    simp [hi'] at e2
                    simpa using e2
                  · simp only [hc1, List.getElem_cons_zero]
                    exact .t _ _ ((hrt i hi').mono hst)
    · cases h
  · cases h
theorem ok_ints : ∀ xs : List T, (intsT xs).isSome = true → ∀ x ∈ xs, x.cells = [x] ∧ oneT x = true := by
  intro xs h x hx
  obtain ⟨l, hl⟩ := Option.isSome_iff_exists.1 h
  have := intsT_eq hl
  subst this
  obtain ⟨n, _, rfl⟩ := List.mem_map.1 hx
  exact ⟨rfl, rfl⟩
theorem ok_bools : ∀ xs : List T, (boolsT xs).isSome = true → ∀ x ∈ xs, x.cells = [x] ∧ oneT x = true
  | [], _, x, hx => by cases hx
  | y :: r, h, x, hx => by
    unfold boolsT at h
    split at h
    · rename_i e; cases e
    · rename_i n r' e
      cases e
      rcases List.mem_cons.1 hx with rfl | hx
      · exact ⟨rfl, rfl⟩
      · exact ok_bools r (by simpa using h) x hx
    · cases h
end Go.Sim

namespace Go.Sim
open Enc (enc)
open Go.Proofs Go.RowKit Go.Sort

theorem Rel.rewrite {w w' : World} {S : Cells} {H : Heap} {β : Bl} (hR : Rel w S H β) {id : Nat} {o : Obj} {b cap : Nat} (ho : H[id]? = some o) (hβ : β[id]? = some (b, cap)) (hst : o.st = false) (hes : o.esz = 1)
    (hos : w'.os = w.os) (hout : w'.output = w.output) (hsz : w.heap.size ≤ w'.heap.size) (hoth : ∀ k, k < w.heap.size → k ≠ b → w'.heap[k]? = w.heap[k]?)
    {cs' : Array Value} {T : TypeId} (hcs : w'.heap[b]? = some (.cells cs' T (0, 0))) (hcz : cs'.size = cap)
    {l' : List Int} (hl : l'.length = o.el.length) (hc : ∀ i (hi : i < l'.length), cs'[i]? = some (.int .i64 l'[i])) (st : Bool) :
    ∃ S', Ext w S H β w' S' (H.set id ⟨l'.map fun n => .t (intT n), 1, st⟩) β ∧ Rel w' S' (H.set id ⟨l'.map fun n => .t (intT n), 1, st⟩) β ∧ (st = true → ∀ j, j < l'.length → S' b j) := by
  have hO := hR.obj id o b cap ho hβ
  have hid : id < H.length := by
    rcases Nat.lt_or_ge id H.length with h' | h'
    · exact h'
    · rw [List.getElem?_eq_none h'] at ho; cases ho
  have hno : ∀ j, ¬ S b j := fun j hS => by have := (hO.st j).1 hS; rw [hst] at this; exact absurd this.1 (by simp)
  have hblt : b < w.heap.size := hR.block hβ
  let S' : Cells := fun b' j => S b' j ∨ (b' = b ∧ st = true ∧ j < l'.length)
  have hs : Stay w S w' S' := fun b' j hS => ⟨.inl hS, cell_same (hoth b' (hR.lt b' j hS) (fun e => hno j (e ▸ hS))) j⟩
  have hg : Grow H β (H.set id ⟨l'.map fun n => .t (intT n), 1, st⟩) β := by
    intro id' o' ho'
    by_cases e : id = id'
    · subst e
      rw [ho] at ho'; cases ho'
      exact ⟨_, by rw [List.getElem?_set_self hid], hes.symm, by simp [hl], fun _ => rfl⟩
    · exact ⟨o', by rw [List.getElem?_set_ne e]; exact ho', rfl, Nat.le_refl _, fun _ => rfl⟩
  refine ⟨S', ⟨hos, hout, hsz, fun b' hb' hn => hoth b' hb' (fun e => hn id cap (e ▸ hβ)), hs, ?_, hg, fun id _ c e => .inl ⟨id, c, e⟩⟩, ⟨by simp [hR.len], hR.inj, ?_, ?_⟩, fun h j hj => .inr ⟨rfl, h, hj⟩⟩
  · rintro b' j (h | ⟨rfl, _, _⟩)
    · exact .inl h
    · exact .inr (.inr ⟨id, cap, hβ⟩)
  · rintro b' j (h | ⟨rfl, _, _⟩)
    · exact Nat.lt_of_lt_of_le (hR.lt b' j h) hsz
    · exact Nat.lt_of_lt_of_le hblt hsz
  · intro id' o' b' c' ho' hβ'
    by_cases e : id = id'
    · subst e
      rw [hβ] at hβ'; cases hβ'
      rw [List.getElem?_set_self hid] at ho'
      cases ho'
      refine ⟨by simp, by simpa [hl] using hO.room, fun j => ?_, cs', T, hcs, by simpa using hcz, fun i hi => ?_⟩
      · simp only [List.length_map, Nat.mul_one]
        constructor
        · rintro (h | ⟨_, h1, h2⟩)
          · exact absurd h (hno j)
          · exact ⟨h1, h2⟩
        · rintro ⟨h1, h2⟩; exact .inr ⟨rfl, h1, h2⟩
      · have hi' : i < l'.length := by simpa using hi
        have hc1 : ((l'.map fun n => V.t (intT n))[i]).cells = [V.t (intT l'[i])] := by rw [List.getElem_map]; rfl
        refine ⟨by rw [hc1]; rfl, fun j hj => ?_⟩
        have hj0 : j = 0 := by rw [hc1] at hj; simpa using hj
        subst hj0
        refine ⟨.int .i64 l'[i], by simpa using hc i hi', ?_⟩
        simp only [hc1, List.getElem_cons_zero]
        exact .t _ _ (.int _ _)
    · rw [List.getElem?_set_ne e] at ho'
      have hne : b' ≠ b := fun e' => e (hR.inj id id' b cap c' hβ (e' ▸ hβ'))
      have hb' := hR.block hβ'
      exact (hR.obj id' o' b' c' ho' hβ').mono hs hg (hoth b' hb' hne) fun j => ⟨fun h => h.resolve_right (fun h => hne h.1), .inl⟩

theorem allT_eq : ∀ {l : List V} {xs : List T}, allT l = some xs → l = xs.map .t
  | [], xs, h => by simp [allT] at h; subst h; rfl
  | v :: r, xs, h => by
    unfold allT at h
    split at h
    · rename_i e; cases e
    · rename_i x r' e
      cases e
      obtain ⟨xs', h1, rfl⟩ := Option.map_eq_some_iff.1 h
      rw [allT_eq h1]; rfl
    · cases h
theorem ints_row {w : World} {S : Cells} {H : Heap} {β : Bl} (hR : Rel w S H β) {id n : Nat} {l : List Int} (h : intsAt H id n = some l) :
    ∃ (o : Obj) (b cap : Nat) (cs : Array Value) (T : TypeId), H[id]? = some o ∧ β[id]? = some (b, cap) ∧ o.st = false ∧ o.esz = 1 ∧ o.el.length = n ∧ l.length = n ∧ n ≤ cap ∧ w.heap[b]? = some (.cells cs T (0, 0)) ∧ cs.size = cap ∧ ∀ i (hi : i < l.length), cs[i]? = some (.int .i64 l[i]) := by
  unfold intsAt at h
  obtain ⟨o, h1, h2⟩ := Option.bind_eq_some_iff.1 h
  have ho : H[id]? = some o ∧ o.el.length = n := by
    unfold cur at h1
    split at h1
    · rename_i o' ho'
      split at h1
      · rename_i hl; cases h1; exact ⟨ho', hl⟩
      · cases h1
    · cases h1
  split at h2
  · rename_i hst
    obtain ⟨xs, h3, h4⟩ := Option.bind_eq_some_iff.1 h2
    have e1 := allT_eq h3
    have e2 := intsT_eq h4
    have e3 : o.el = l.map fun n => V.t (intT n) := by rw [e1, e2, List.map_map]; rfl
    obtain ⟨b, cap, hβ⟩ := hR.at ho.1
    have hO := hR.obj id o b cap ho.1 hβ
    obtain ⟨cs, T, r1, r2, r3⟩ := hO.row
    have hll : l.length = n := by rw [← ho.2, e3, List.length_map]
    refine ⟨o, b, cap, cs, T, ho.1, hβ, hst.1, hst.2, ho.2, hll, by have := hO.room; omega, r1, by rw [r2, hst.2, Nat.mul_one], fun i hi => ?_⟩
    have hi' : i < o.el.length := by omega
    have hc1 : (o.el[i]).cells = [V.t (intT l[i])] := by simp only [e3, List.getElem_map]; rfl
    obtain ⟨u, h5, h6⟩ := (r3 i hi').2 0 (by rw [hc1]; simp)
    rw [hst.2, Nat.mul_one, Nat.add_zero] at h5
    simp only [hc1, List.getElem_cons_zero] at h6
    have h7 := rv_t h6
    have h8 : u = .int .i64 l[i] := by
      generalize hx : intT l[i] = x at h7
      unfold intT at hx
      subst hx
      cases h7; rfl
    rw [h5, h8]
  · cases h2
theorem map_heap {w : World} {b : Nat} {f : Array Value → Array Value} {cs : Array Value} {T : TypeId} {fr : Nat × Nat} (h : w.heap[b]? = some (.cells cs T fr)) : (mapBlock w b f).heap[b]? = some (.cells (f cs) T fr) := by
  simp [mapBlock, Array.getElem?_modify, h, onCells]
theorem map_other {w : World} {b k : Nat} {f : Array Value → Array Value} (h : k ≠ b) : (mapBlock w b f).heap[k]? = w.heap[k]? := by
  have : ¬ b = k := fun e => h e.symm
  simp [mapBlock, Array.getElem?_modify, this]
theorem map_size {w : World} {b : Nat} {f : Array Value → Array Value} : (mapBlock w b f).heap.size = w.heap.size := by simp [mapBlock]
theorem put_cells {d : List Int} {cs : Array Value} (h : d.length ≤ cs.size) : (putCells (Value.int .i64) 0 d.toArray cs).size = cs.size ∧ ∀ i (hi : i < d.length), (putCells (Value.int .i64) 0 d.toArray cs)[i]? = some (.int .i64 d[i]) := by
  refine ⟨by simp [putCells], fun i hi => ?_⟩
  unfold putCells
  rw [Array.getElem?_mapIdx, Array.getElem?_eq_getElem (by omega), Option.map_some, if_pos ⟨by omega, by simpa using hi⟩]
  simp [hi]
theorem ref_slice {H : Heap} {β : Bl} {w : World} {S : Cells} {id n : Nat} {u : Value} {o : Obj} {b cap : Nat} (h : RV w S H β (.ref id n) u) (ho : H[id]? = some o) (hl : o.el.length = n) (hβ : β[id]? = some (b, cap)) : u = .slice (some ⟨b, 0, none⟩) n cap := by
  cases h with
  | ref _ _ _ h =>
    obtain ⟨_, o', ho', _, hf⟩ := h
    rw [ho] at ho'; cases ho'
    obtain ⟨b', cap', e1, e2, _⟩ := hf hl
    rw [hβ] at e1; cases e1
    exact e2
theorem data_row {w : World} {S : Cells} {l : List Int} {b cap : Nat} {cs : Array Value} {Ty : TypeId} (hcs : w.heap[b]? = some (.cells cs Ty (0, 0))) (hS : ∀ j, j < l.length → S b j) (hc : ∀ i (hi : i < l.length), cs[i]? = some (.int .i64 l[i])) (hcap : l.length ≤ cap) :
    RT w S (.sl (l.map intT)) (.slice (some ⟨b, 0, none⟩) l.length cap) := by
  have key : Arr w S (l.map intT) b 0 1 := by
    refine ⟨fun i hi => by simp [intT, T.cells], fun i hi j hj => ?_⟩
    have hi' : i < l.length := by simpa using hi
    have hj0 : j = 0 := by simp [intT, T.cells] at hj; omega
    subst hj0
    refine ⟨hS _ (by omega), _, by rw [show 0 + i * 1 + 0 = i by omega, cell_of_heap hcs]; exact hc i hi', ?_⟩
    have e : ((l.map intT)[i]).cells = [intT l[i]] := by simp [intT, T.cells]
    simp only [e, List.getElem_cons_zero]
    exact .int _ _
  have := RT.of_arr (cap := cap) key (by simpa using hcap)
  simpa using this
theorem holds_row {w : World} {b : Nat} {cs : Array Value} {T : TypeId} {l : List Int} (hcs : w.heap[b]? = some (.cells cs T (0, 0))) (hc : ∀ i (hi : i < l.length), cs[i]? = some (.int .i64 l[i])) : Holds (Value.int .i64) w b 0 l.toArray := by
  intro j hj
  have hj' : j < l.length := by simpa using hj
  refine ⟨?_, by simp [World.frozen?, hcs]⟩
  rw [Nat.zero_add, cell_of_heap hcs, hc j hj']
  simp [hj']
theorem compactL_len : ∀ l : List Int, (compactR l).length ≤ l.length
  | [] => Nat.le_refl _
  | [_] => Nat.le_refl _
  | x :: y :: r => by
    rw [compactR]
    have := compactL_len (y :: r)
    split
    · simp at this ⊢; omega
    · simp at this ⊢; omega
theorem sort_ok {args : List V} {H : Heap} {v : V} {H' : Heap} (h : sortRun args H = some (v, H')) (hd : v.isDead = false) :
    (∃ fn, Tryz.prog.funcs[148]? = some fn ∧ fn.body.isSome = true ∧ (fn.name == "runtime.NumGoroutine") = false) ∧
    ∀ (w : World) (S : Cells) (β : Bl) (us : List Value), Rel w S H β → args.length = us.length → (∀ i (hi : i < args.length) (hu : i < us.length), RV w S H β args[i] us[i]) →
      Calls Tryz.prog 148 us.toArray w (Back w S H β v H') := by
  refine ⟨isFn Tryz.func148 (by kernel_rfl) (by kernel_rfl), fun w S β us hR hl hv => ?_⟩
  unfold sortRun at h
  split at h
  · cases h; cases hd
  · simp only [Option.some.injEq, Prod.mk.injEq] at h
    obtain ⟨rfl, rfl⟩ := h
    match us, hl with
    | [u], _ =>
      have hu := hv 0 (by simp) (by simp)
      simp only [List.getElem_cons_zero] at hu
      have hu2 : ∃ A n, u = .slice A 0 n := by
        cases hu with
        | ex _ A n h => 
          cases h with
          | sl0 A c => exact ⟨A, 0, rfl⟩
          | sl _ b o cap esz c => exact ⟨_, _, rfl⟩
      obtain ⟨A, n, rfl⟩ := hu2
      refine (AnyM.slices_Sort_int_none Tryz.sortI A n w).mono ?_
      rintro e w' ⟨rfl, rfl⟩
      exact ⟨_, S, β, rfl, Ext.refl _ _ _ _, hR, .tup [] [] rfl fun i hi => absurd hi (by simp)⟩
  · rename_i id n H0
    obtain ⟨l, h1, h2⟩ := Option.bind_eq_some_iff.1 h
    split at h2
    · rename_i hle
      simp only [Option.some.injEq, Prod.mk.injEq] at h2
      obtain ⟨rfl, rfl⟩ := h2
      match us, hl with
      | [u], _ =>
        have hu := hv 0 (by simp) (by simp)
        simp only [List.getElem_cons_zero] at hu
        obtain ⟨o, b, cap, cs, T, ho, hβ, hst, hes, hol, hll, hcap, hcs, hcz, hc⟩ := ints_row hR h1
        have := ref_slice hu ho hol hβ
        subst this
        have hb := hR.block hβ
        have hH := holds_row hcs hc
        subst hll
        refine (AnyM.slices_Sort_int Tryz.sortI b 0 cap l w hH hb (by omega)).mono ?_
        rintro e w' ⟨rfl, q, os, rfl⟩
        have hsl : (sortR l).length = l.length := List.length_mergeSort l
        have hcs' : (Sort.ahead w q).heap[b]? = some (.cells cs T (0, 0)) := hcs
        obtain ⟨p1, p2⟩ := put_cells (d := sortR l) (cs := cs) (by omega)
        obtain ⟨S', hE, hR', _⟩ := hR.rewrite (w' := grow (putRow (Value.int .i64) (Sort.ahead w q) b 0 (sortR l).toArray) os) ho hβ hst hes rfl rfl (by simp [putRow, mapBlock, Sort.ahead]) (fun k hk hne => by
            rw [heap_grow_old _ _ (by simpa [putRow, mapBlock, Sort.ahead] using hk)]
            exact map_other hne) (by
            rw [heap_grow_old _ _ (by simpa [putRow, mapBlock, Sort.ahead] using hb)]
            exact map_heap hcs') (by rw [p1]; exact hcz) (l' := sortR l) (by omega) p2 false
        exact ⟨_, S', β, rfl, hE, hR', .tup [] [] rfl fun i hi => absurd hi (by simp)⟩
    · cases h2
  · cases h
theorem compact_ok {args : List V} {H : Heap} {v : V} {H' : Heap} (h : compactRun args H = some (v, H')) (hd : v.isDead = false) :
    (∃ fn, Tryz.prog.funcs[149]? = some fn ∧ fn.body.isSome = true ∧ (fn.name == "runtime.NumGoroutine") = false) ∧
    ∀ (w : World) (S : Cells) (β : Bl) (us : List Value), Rel w S H β → args.length = us.length → (∀ i (hi : i < args.length) (hu : i < us.length), RV w S H β args[i] us[i]) →
      Calls Tryz.prog 149 us.toArray w (Back w S H β v H') := by
  refine ⟨isFn Tryz.func149 (by kernel_rfl) (by kernel_rfl), fun w S β us hR hl hv => ?_⟩
  unfold compactRun at h
  split at h
  · cases h; cases hd
  · simp only [Option.some.injEq, Prod.mk.injEq] at h
    obtain ⟨rfl, rfl⟩ := h
    match us, hl with
    | [u], _ =>
      have hu := hv 0 (by simp) (by simp)
      simp only [List.getElem_cons_zero] at hu
      have hu2 : ∃ A, u = .slice A 0 0 := by
        cases hu with
        | ex _ A n h =>
          cases h with
          | sl0 A c => exact ⟨A, rfl⟩
          | sl _ b o cap esz c => exact ⟨_, rfl⟩
      obtain ⟨A, rfl⟩ := hu2
      refine (AnyG.slices_Compact_int_empty Tryz.compactI A 0 w).mono ?_
      rintro e w' ⟨rfl, rfl⟩
      exact ⟨_, S, β, rfl, Ext.refl _ _ _ _, hR, hu⟩
  · rename_i id n H0
    obtain ⟨l, h1, h2⟩ := Option.bind_eq_some_iff.1 h
    split at h2
    · rename_i hle
      simp only [Option.some.injEq, Prod.mk.injEq] at h2
      obtain ⟨rfl, rfl⟩ := h2
      match us, hl with
      | [u], _ =>
        have hu := hv 0 (by simp) (by simp)
        simp only [List.getElem_cons_zero] at hu
        obtain ⟨o, b, cap, cs, Ty, ho, hβ, hst, hes, hol, hll, hcap, hcs, hcz, hc⟩ := ints_row hR h1
        have := ref_slice hu ho hol hβ
        subst this
        have hb := hR.block hβ
        have hH := holds_row hcs hc
        subst hll
        have ecp : Lib.compact l = compactR l := by rw [lib_cpt, cpt_eq]
        refine (AnyG.slices_Compact_int Tryz.compactI b 0 cap l w hH (by omega) hcap).mono ?_
        rintro e w' ⟨rfl, q, rfl⟩
        rw [ecp]
        have hcl := compactL_len l
        generalize hzl : compactR l ++ List.replicate (l.length - (compactR l).length) 0 = zl
        have hzn : zl.length = l.length := by rw [← hzl]; simp; omega
        have hcs' : (Sort.ahead w q).heap[b]? = some (.cells cs Ty (0, 0)) := hcs
        obtain ⟨p1, p2⟩ := put_cells (d := zl) (cs := cs) (by omega)
        obtain ⟨S', hE, hR', hS'⟩ := hR.rewrite (w' := putRow (Value.int .i64) (Sort.ahead w q) b 0 zl.toArray) ho hβ hst hes rfl rfl (by simp [putRow, mapBlock, Sort.ahead]) (fun k hk hne => map_other hne) (map_heap hcs') (by rw [p1]; exact hcz) (l' := zl) (by omega) p2 true
        refine ⟨_, S', β, rfl, hE, hR', .t _ _ ?_⟩
        refine data_row (map_heap hcs') (fun j hj => hS' rfl j (by omega)) (fun i hi => ?_) (by omega)
        have hi2 : i < zl.length := by omega
        have e1 : putCells (Value.int .i64) 0 zl.toArray cs = putCells (Value.int .i64) 0 zl.toArray cs := rfl
        rw [p2 i hi2]
        congr 2
        subst hzl
        rw [List.getElem_append_left hi]
    · cases h2
  · cases h
theorem cells_facts {b : Nat} {Ty : TypeId} {fr : Nat × Nat} : ∀ (vs : List Value) (o : Nat) (w : World) (cs : Array Value), w.heap[b]? = some (.cells cs Ty fr) →
    ∃ cs', (w.setCells b o vs).heap[b]? = some (.cells cs' Ty fr) ∧ cs'.size = cs.size ∧ (w.setCells b o vs).os = w.os ∧ (w.setCells b o vs).output = w.output ∧ (w.setCells b o vs).heap.size = w.heap.size ∧ ∀ k, k ≠ b → (w.setCells b o vs).heap[k]? = w.heap[k]?
  | [], o, w, cs, h => ⟨cs, h, rfl, rfl, rfl, rfl, fun _ _ => rfl⟩
  | v :: r, o, w, cs, h => by
    have h1 : (w.setCell ⟨b, o, none⟩ v).heap[b]? = some (.cells (cs.setIfInBounds o v) Ty fr) := by
      rw [setCell_eq]; exact map_heap h
    obtain ⟨cs', e1, e2, e3, e4, e5, e6⟩ := cells_facts r (o + 1) (w.setCell ⟨b, o, none⟩ v) _ h1
    rw [World.setCells]
    refine ⟨cs', e1, by rw [e2]; simp, e3.trans ?_, e4.trans ?_, e5.trans ?_, fun k hk => (e6 k hk).trans ?_⟩
    · rw [setCell_eq]; rfl
    · rw [setCell_eq]; rfl
    · rw [setCell_eq]; exact map_size
    · rw [setCell_eq]; exact map_other hk
theorem delete_ok {args : List V} {H : Heap} {v : V} {H' : Heap} (h : deleteRun args H = some (v, H')) (hd : v.isDead = false) :
    (∃ fn, Tryz.prog.funcs[150]? = some fn ∧ fn.body.isSome = true ∧ (fn.name == "runtime.NumGoroutine") = false) ∧
    ∀ (w : World) (S : Cells) (β : Bl) (us : List Value), Rel w S H β → args.length = us.length → (∀ i (hi : i < args.length) (hu : i < us.length), RV w S H β args[i] us[i]) →
      Calls Tryz.prog 150 us.toArray w (Back w S H β v H') := by
  refine ⟨isFn Tryz.func150 (by kernel_rfl) (by kernel_rfl), fun w S β us hR hl hv => ?_⟩
  unfold deleteRun at h
  split at h
  · cases h; cases hd
  · rename_i id n i k H0
    obtain ⟨l, h1, h2⟩ := Option.bind_eq_some_iff.1 h
    split at h2
    · rename_i hle
      obtain ⟨hi0, rfl, hkl, hbig⟩ := hle
      obtain ⟨i, rfl⟩ := Int.eq_ofNat_of_zero_le hi0
      simp only [Option.some.injEq, Prod.mk.injEq, Int.toNat_natCast] at h2
      obtain ⟨rfl, rfl⟩ := h2
      match us, hl with
      | [u, u1, u2], _ =>
        have hu := hv 0 (by simp) (by simp)
        have hu1 := hv 1 (by simp) (by simp)
        have hu2 := hv 2 (by simp) (by simp)
        simp only [List.getElem_cons_zero, List.getElem_cons_succ] at hu hu1 hu2
        have e1 : u1 = .int .i64 (i : Int) := by have := rv_t hu1; cases this; rfl
        have e2 : u2 = .int .i64 ((i : Int) + 1) := by have := rv_t hu2; cases this; rfl
        subst e1; subst e2
        obtain ⟨o, b, cap, cs, Ty, ho, hβ, hst, hes, hol, hll, hcap, hcs, hcz, hc⟩ := ints_row hR h1
        have := ref_slice hu ho hol hβ
        subst this
        have hb := hR.block hβ
        subst hll
        have hil : i < l.length := by omega
        have hH := holds_row hcs hc
        have hlen : (l.eraseIdx i ++ [0]).length = l.length := by rw [List.length_append, List.length_eraseIdx, if_pos hil]; simp; omega
        have hcell : ∀ j (hj : j < l.length), w.cell? ⟨b, 0 + j, none⟩ = some (.int .i64 l[j]) := fun j hj => by rw [Nat.zero_add, cell_of_heap hcs]; exact hc j hj
        refine (Tryz.delete156 b cap i l w hil hcap (by omega) (fun j hj => by rw [hcell j hj]; simp [hj]) (fun j hj => (hH j (by simpa using hj)).2)).mono ?_
        rintro e w' ⟨rfl, rfl⟩
        have hcs' : w.drew.heap[b]? = some (.cells cs Ty (0, 0)) := hcs
        obtain ⟨c1, a1, a2, a3, a4, a5, a6⟩ := cells_facts (movedL l i) (0 + i * 1) w.drew cs hcs'
        obtain ⟨c2, b1, b2, b3, b4, b5, b6⟩ := cells_facts [.int .i64 0] (0 + (l.length - 1)) _ c1 a1
        have hml := movedL_length l i
        have hin : ∀ j, j < l.length → (w.drew.cell? ⟨b, j, none⟩).isSome = true := fun j hj => by
          show (w.cell? _).isSome = true
          have := hcell j hj
          rw [Nat.zero_add] at this
          rw [this]; rfl
        have h1 : ∀ j, j < l.length → ((w.drew.setCells b (0 + i * 1) (movedL l i)).cell? ⟨b, j, none⟩).isSome = true ∧ (j < l.length - 1 → (w.drew.setCells b (0 + i * 1) (movedL l i)).cell? ⟨b, j, none⟩ = some (.int .i64 ((l.eraseIdx i ++ [0]).getD j 0))) := by
          intro j hj
          by_cases h : i ≤ j ∧ j < l.length - 1
          · have e : (⟨b, j, none⟩ : Addr) = ⟨b, (0 + i * 1) + (j - i), none⟩ := by rw [show 0 + i * 1 + (j - i) = j by omega]
            have := World.cell?_setCells_in b (movedL l i) (0 + i * 1) w.drew (fun k hk => hin _ (by omega)) (j - i) (by omega)
            rw [e, this]
            refine ⟨rfl, fun _ => ?_⟩
            congr 2
            have hj2 : j < (l.eraseIdx i ++ [0]).length := by omega
            have hj3 : j < (l.eraseIdx i).length := by rw [List.length_eraseIdx, if_pos hil]; omega
            rw [List.getD_eq_getElem?_getD, List.getElem?_eq_getElem hj2, Option.getD_some, List.getElem_append_left hj3, List.getElem_eraseIdx, dif_neg (by omega)]
            simp only [movedL, List.getElem_map, List.getElem_drop]
            congr 2; omega
          · have := World.cell?_setCells_out b (movedL l i) (0 + i * 1) w.drew ⟨b, j, none⟩ (fun _ _ => by simp only; omega)
            rw [this]
            refine ⟨hin j hj, fun hjn => ?_⟩
            have hji : j < i := by omega
            have e0 : w.drew.cell? ⟨b, j, none⟩ = some (.int .i64 l[j]) := by
              have := hcell j hj
              rw [Nat.zero_add] at this
              exact this
            rw [e0]
            have hj2 : j < (l.eraseIdx i ++ [0]).length := by omega
            have hj3 : j < (l.eraseIdx i).length := by rw [List.length_eraseIdx, if_pos hil]; omega
            rw [List.getD_eq_getElem?_getD, List.getElem?_eq_getElem hj2, Option.getD_some, List.getElem_append_left hj3, List.getElem_eraseIdx, dif_pos hji]
        have h2 : ∀ j (hj : j < (l.eraseIdx i ++ [0]).length), c2[j]? = some (.int .i64 (l.eraseIdx i ++ [0])[j]) := by
          intro j hj
          rw [← cell_of_heap b1]
          by_cases h : j < l.length - 1
          · rw [World.cell?_setCells_out b _ _ _ _ (fun _ _ => by simp only; omega), (h1 j (by omega)).2 h, List.getD_eq_getElem?_getD, List.getElem?_eq_getElem hj, Option.getD_some]
          · have hj' : j = 0 + (l.length - 1) + 0 := by omega
            subst hj'
            have := World.cell?_setCells_in b [.int .i64 0] (0 + (l.length - 1)) _ (fun k hk => (h1 _ (by simp at hk; omega)).1) 0 (by simp)
            rw [this]
            have e0 : (l.eraseIdx i ++ [0])[0 + (l.length - 1) + 0] = (0 : Int) := by
              rw [List.getElem_append_right (by rw [List.length_eraseIdx, if_pos hil]; omega)]
              simp
            rw [e0]; rfl
        obtain ⟨S', hE, hR', hS'⟩ := hR.rewrite (w' := ((w.drew.setCells b (0 + i * 1) (movedL l i)).setCells b (0 + (l.length - 1)) [.int .i64 0])) ho hβ hst hes (b3.trans a3) (b4.trans a4) (by rw [b5, a5]; exact Nat.le_refl _) (fun k hk hne => (b6 k hne).trans (a6 k hne)) b1 (by rw [b2, a2]; exact hcz) (l' := l.eraseIdx i ++ [0]) (by omega) h2 true
        refine ⟨_, S', β, rfl, hE, hR', .t _ _ ?_⟩
        have hel : l.length - 1 = (l.eraseIdx i).length := by rw [List.length_eraseIdx, if_pos hil]
        have hdr := data_row (cap := cap) b1 (S := S') (l := l.eraseIdx i) (fun j hj => hS' rfl j (by omega)) (fun j hj => by rw [h2 j (by omega), List.getElem_append_left hj]) (by omega)
        rw [← hel] at hdr
        exact hdr
    · cases h2
  · cases h
end Go.Sim

namespace Go.Sim
open Enc (enc)
open Go.Proofs Go.RowKit Go.Sort

theorem ok_rows : ∀ xs : List T, xs.all isSl = true → ∀ x ∈ xs, x.cells = [x] ∧ oneT x = true := by
  intro xs h x hx
  have h1 := List.all_eq_true.1 h x hx
  cases x <;> first | exact ⟨rfl, rfl⟩ | simp [isSl] at h1

theorem info_z {P : Program} {e : TypeId} {z : Value} {s b : Nat} (h : ((P.info? e).bind fun i => i.zero.map fun z => (z, i.size, i.bytes)) = some (z, s, b)) : ∃ i, P.info? e = some i ∧ i.zero = some z ∧ i.size = s ∧ i.bytes = b := by
  cases hi : P.info? e with
  | none => simp [hi] at h
  | some i =>
    cases hz : i.zero with
    | none => simp [hi, hz] at h
    | some z' =>
      simp [hi, hz] at h
      exact ⟨i, rfl, by rw [hz, h.1], h.2.1, h.2.2⟩
theorem grow_ok {args : List V} {H : Heap} {v : V} {H' : Heap} (h : growRun args H = some (v, H')) (hd : v.isDead = false) :
    (∃ fn, Tryz.prog.funcs[207]? = some fn ∧ fn.body.isSome = true ∧ (fn.name == "runtime.NumGoroutine") = false) ∧
    ∀ (w : World) (S : Cells) (β : Bl) (us : List Value), Rel w S H β → args.length = us.length → (∀ i (hi : i < args.length) (hu : i < us.length), RV w S H β args[i] us[i]) →
      Calls Tryz.prog 207 us.toArray w (Back w S H β v H') := by
  refine ⟨isFn Tryz.func207 (by kernel_rfl) (by kernel_rfl), ?_⟩
  intro w S β us hR hl hv
  unfold growRun at h
  split at h
  · simp only [Option.some.injEq, Prod.mk.injEq] at h
    obtain ⟨rfl, _⟩ := h
    cases hd
  · rename_i n
    split at h
    · rename_i hg
      simp only [Option.some.injEq, Prod.mk.injEq] at h
      obtain ⟨rfl, rfl⟩ := h
      match us, hl with
      | [u, m], _ =>
        have h0 : RV w S H β (.ex []) u := by simpa using hv 0 (by simp) (by simp)
        have h1 : RV w S H β (.t (.int .i64 n)) m := by simpa using hv 1 (by simp) (by simp)
        have h1' := rv_t h1
        obtain ⟨k, rfl⟩ := Int.eq_ofNat_of_zero_le (Int.le_of_lt hg.1)
        have hm : m = .int .i64 (k : Int) := by cases h1'; rfl
        subst hm
        have hu : ∃ A, u = .slice A 0 0 := by
          cases h0 with
          | ex _ A n hrt => cases hrt with
            | sl0 A c => exact ⟨A, rfl⟩
            | sl _ b o cap esz c => exact ⟨_, rfl⟩
        obtain ⟨A, rfl⟩ := hu
        obtain ⟨i0, z0, hi0, hz0, hs0, hb0⟩ : ∃ i0 z0, Tryz.prog.info? 3 = some i0 ∧ i0.zero = some z0 ∧ i0.size = 1 ∧ i0.bytes = 8 ∧ z0.cells.size = 1 := by
          obtain ⟨i, h1, h2, h3, h4⟩ := Go.Sim.info_z (P := Tryz.prog) (e := 3) (z := .int .i64 0) (s := 1) (b := 8) (by kernel_rfl)
          exact ⟨i, _, h1, h2, h3, h4, rfl⟩
        have hc := Any8.slices_Grow_grow Tryz.growI i0 z0 hi0 hz0 (by omega) A 0 0 k [] w (by omega) (by omega) (by rw [hb0.1]; omega) (by omega) (by simp) (fun _ => rfl) (fun _ _ j v hj => by simp at hj)
        refine hc.mono ?_
        rintro e w' ⟨rfl, rfl⟩
        have hge := grownCap_ge w (0 + k) 0 3
        have hpush := hR.push (w := w) (cs := (([] : List Value).toArray ++ Builtin.zeroCells z0.cells (0 + k - 0) ++ Builtin.zeroCells z0.cells (grownCap w (0 + k) 0 3 - (0 + k)))) (T := 3) (o := ⟨[], 1, false⟩) (cap := grownCap w (0 + k) 0 3) rfl (by decide)
          (by simp) (by
            simp only [Array.size_append, List.size_toArray, zeroCells_size, hb0.2, List.length_nil]
            omega) (by intro i hi; simp at hi)
        obtain ⟨hE, hR'⟩ := hpush
        refine ⟨_, S, _, rfl, ⟨hE.os, hE.output, hE.size, hE.keep, hE.stay, hE.new, hE.grow, hE.own⟩, ⟨hR'.len, hR'.inj, hR'.lt, fun id o b cap h1 h2 => ?_⟩, .ref _ _ _ ⟨⟨_, _, rfl⟩, ⟨[], 1, false⟩, by simp, by simp, fun _ => ⟨w.heap.size, grownCap w (0 + k) 0 3, ?_, rfl, ?_⟩⟩⟩
        · exact (hR'.obj id o b cap h1 h2).mono (fun _ _ h => ⟨h, rfl⟩) (Grow.refl _ _) rfl (fun _ => Iff.rfl)
        · rw [← hR.len]; simp
        · omega
    · cases h
  · cases h

theorem orcOk : OrcOk Tryz.prog := by
  intro f args H v H' hf hr hd
  have hf' : f ∈ [89, 91, 339, 90, 173, 128, 148, 149, 150, 129, 207] := by simpa [Orc.has] using hf
  simp only [List.mem_cons, List.not_mem_nil, or_false] at hf'
  rcases hf' with rfl | rfl | rfl | rfl | rfl | rfl | rfl | rfl | rfl | rfl | rfl
  · exact data_ok once_data hr
  · exact data_ok wrote_data hr
  · exact data_ok makes_data hr
  · exact clone_ok ok_ints (isFn Tryz.func90 (by kernel_rfl) (by kernel_rfl)) Tryz.clone134 Tryz.clone_e134 Tryz.clone_nil134 hr
  · exact clone_ok ok_bools (isFn Tryz.func173 (by kernel_rfl) (by kernel_rfl)) Tryz.clone139 Tryz.clone_e139 Tryz.clone_nil139 hr
  · exact clone_ok ok_ints (isFn Tryz.func128 (by kernel_rfl) (by kernel_rfl)) Tryz.clone157 Tryz.clone_e157 Tryz.clone_nil157 hr
  · exact sort_ok hr hd
  · exact compact_ok hr hd
  · exact delete_ok hr hd
  · exact clone_ok ok_rows (isFn Tryz.func129 (by kernel_rfl) (by kernel_rfl)) Tryz.cloneSl Tryz.clone_eSl Tryz.clone_nilSl hr
  · exact grow_ok hr hd
end Go.Sim
