/- A part of the proof of a law of module cupola: Bridge, Bridge2. It has no conditions of its own. -/
import Derived.Test.YtkfceeaokfdmfaaGreatDoorSimN
import Derived.Test.YtkfceeaokfdmfaaGreatDoorEv
import Derived.WalkKit
import Derived.ProofKit
import Derived.OpenShut
import Derived.WideKeyArgs
import Derived.Deep.Slices
import Derived.ChangeSame
import Derived.RowKit3
set_option linter.all false
namespace Go.Sim
open Enc (enc)
open Go.ChangeShapes Go.WideShapes Go.ChangeAt Go.RowKit Go.Deep

def old (w : World) : Cells := fun b _ => b < w.heap.size
theorem old_cell {w : World} {b o : Nat} {sp : Option Nat} {u : Value} (h : w.cell? ⟨b, o, sp⟩ = some u) : old w b o := by
  unfold World.cell? at h
  split at h
  · rename_i hb; exact (Array.getElem?_eq_some_iff.1 hb).1
  · cases h
theorem spot_none {w : World} {a : Addr} {u : Value} (h : w.cell? a = some u) : a.spot = none := by
  unfold World.cell? at h
  split at h
  · split at h
    · cases h
    · rename_i hs; simpa using hs
  · cases h

def CellsRT (w : World) (x : T) (cs : List Value) : Prop := x.cells.length = cs.length ∧ ∀ i (h1 : i < x.cells.length) (h2 : i < cs.length), RT w (old w) x.cells[i] cs[i]

def Reads (P : Program) (t : TypeId) (α : Type) [Enc α] : Prop :=
  ∀ (X : Type) (ec : TypeId × Value → X) (w : World) (base : Nat) (spare : Nat → Bool) (held : Bool) (fuel : Nat) (cs : List Value) (x : DataW X × List MemPlace),
    DataW.trod ec P w base spare held fuel t cs = some x → ∃ a : α, CellsRT w (Enc.enc a) cs

theorem cells_one {w : World} {α : Type} [Enc α] [One α] {a : α} {u : Value} (h : RT w (old w) (Enc.enc a) u) : CellsRT w (Enc.enc a) [u] := by
  have hc : (Enc.enc a : T).cells = [Enc.enc a] := by
    have := One.cells1 a; revert this; cases Enc.enc a <;> simp [T.cells, V.cells]
  refine ⟨by rw [hc]; rfl, fun i h1 h2 => ?_⟩
  have hi : i = 0 := by simp at h2; omega
  subst hi
  simpa [hc] using h
theorem one_cells {w : World} {α : Type} [Enc α] [One α] {a : α} {cs : List Value} (h : CellsRT w (Enc.enc a) cs) : ∃ u, cs = [u] ∧ RT w (old w) (Enc.enc a) u := by
  have hc : (Enc.enc a : T).cells = [Enc.enc a] := by
    have := One.cells1 a; revert this; cases Enc.enc a <;> simp [T.cells, V.cells]
  obtain ⟨h1, h2⟩ := h
  rw [hc] at h1
  match cs, h1 with
  | [u], _ =>
    refine ⟨u, rfl, ?_⟩
    have := h2 0 (by rw [hc]; simp) (by simp)
    simpa [hc] using this

theorem reads_int {P : Program} {t : TypeId} (ht : P.underlying t = some (.int .i64)) : Reads P t Int := by
  intro X ec w base spare held fuel cs x h
  obtain ⟨n, rfl, _, _⟩ := DataW.trod_int ht h
  exact ⟨n, cells_one (.int _ _)⟩
theorem reads_u32 {P : Program} {t : TypeId} (ht : P.underlying t = some (.int .u32)) : Reads P t U32 := by
  intro X ec w base spare held fuel cs x h
  obtain ⟨n, rfl, _, hw⟩ := DataW.trod_int ht h
  have hn : 0 ≤ n ∧ n ≤ 4294967295 := by simpa [Lit.wf, IntKind.min, IntKind.max, IntKind.signed, IntKind.bits] using hw
  refine ⟨BitVec.ofNat 32 n.toNat, cells_one ?_⟩
  have e : (((BitVec.ofNat 32 n.toNat).toNat : Nat) : Int) = n := by rw [BitVec.toNat_ofNat, Nat.mod_eq_of_lt (by omega)]; omega
  show RT w (old w) (.int .u32 (((BitVec.ofNat 32 n.toNat).toNat : Nat) : Int)) _
  rw [e]; exact .int _ _
theorem reads_bool {P : Program} {t : TypeId} (ht : P.underlying t = some .bool) : Reads P t Bool := by
  intro X ec w base spare held fuel cs x h
  obtain ⟨b, rfl, _⟩ := DataW.trod_bool ht h
  exact ⟨b, cells_one (.bool _)⟩
theorem reads_str {P : Program} {t : TypeId} (ht : P.underlying t = some .string) : Reads P t ByteArray := by
  intro X ec w base spare held fuel cs x h
  obtain ⟨s, rfl, _, _⟩ := DataW.trod_string ht h
  exact ⟨s, cells_one (.str _)⟩
theorem reads_list {P : Program} {t e : TypeId} {α : Type} [Enc α] (ht : P.underlying t = some (.slice e)) (hc : P.cellsOf e = Enc.sz α) (h : Reads P e α) : Reads P t (List α) := by
  intro X ec w base spare held fuel cs x hx
  rcases open_slice ht hx with ⟨rfl, _⟩ | ⟨a, len, cap, m, n, D, Pl, rfl, _, hl, _, hm, _, hel⟩
  · exact ⟨[], cells_one (.sl0 _ _)⟩
  · have hlm : len ≤ m := by rw [hm]; split <;> omega
    haveI : Inhabited α := ⟨Enc.dflt⟩
    obtain ⟨f, hf⟩ := choose_lt (α := α) (n := len) (p := fun i y => ∃ cs', w.cells? base (a.add (i * P.cellsOf e)) (P.cellsOf e) = some cs' ∧ CellsRT w (Enc.enc y) cs') (fun i hi => by
      obtain ⟨cs', h1, h2⟩ := hel i (by omega)
      obtain ⟨y, hy⟩ := h X ec w base spare held n cs' _ h2
      exact ⟨y, cs', h1, hy⟩)
    refine ⟨(List.range len).map f, cells_one ?_⟩
    rcases Nat.eq_zero_or_pos len with h0 | hp
    · subst h0; exact .sl0 _ _
    · have hsp : a.spot = none := by
        obtain ⟨cs', h1, h2⟩ := hf 0 hp
        obtain ⟨_, h3, h4⟩ := World.cells?_some h1
        have hz : 0 < P.cellsOf e := by rw [hc]; exact Enc.pos
        have := h4 0 hz
        rw [Nat.zero_mul] at this
        have e0 : (a.add 0).add 0 = a := rfl
        rw [e0, List.getElem?_eq_getElem (by omega)] at this
        exact spot_none this
      have hlen : ((List.range len).map f).length = len := by simp
      have hgl : (Enc.enc ((List.range len).map f) : T) = .sl (((List.range len).map f).map Enc.enc) := rfl
      rw [hgl]
      have key : Arr w (old w) (((List.range len).map f).map Enc.enc) a.block a.off (Enc.sz α) := by
        refine ⟨fun i hi => by simp [Enc.cells], fun i hi j hj => ?_⟩
        simp only [List.length_map, List.length_range] at hi
        simp only [List.getElem_map, List.getElem_range] at hj ⊢
        obtain ⟨cs', h1, h2, h3⟩ := hf i hi
        obtain ⟨_, h4, h5⟩ := World.cells?_some h1
        have hjl : j < cs'.length := by rw [← h2]; exact hj
        have hcell := h5 j (by omega)
        rw [add_add, List.getElem?_eq_getElem hjl, hc] at hcell
        have ea : a.add (i * Enc.sz α + j) = ⟨a.block, a.off + i * Enc.sz α + j, none⟩ := by
          unfold Addr.add
          split
          · rename_i h0
            obtain ⟨b, o, s⟩ := a
            simp only at hsp
            subst hsp
            have e1 : i * Enc.sz α = 0 := by omega
            have e2 : j = 0 := by omega
            rw [e1, e2]; rfl
          · simp [Nat.add_assoc]
        rw [ea] at hcell
        exact ⟨old_cell hcell, _, hcell, h3 j hj hjl⟩
      have := RT.of_arr (cap := cap) key (by simp; exact hl)
      have ha : a = ⟨a.block, a.off, none⟩ := by cases a; simp only at hsp; subst hsp; rfl
      rw [ha]
      simpa using this

theorem read_field {P : Program} {t : TypeId} {α : Type} [Enc α] [One α] (h : Reads P t α) (hc : P.cellsOf t = 1) {X : Type} {ec : TypeId × Value → X} {w : World} {base : Nat} {spare : Nat → Bool} {held : Bool} {fuel : Nat} {cs : List Value} {i : Nat} (hi : i < cs.length)
    {x : DataW X × List MemPlace} (hx : DataW.trod ec P w base spare held fuel t ((cs.drop i).take (P.cellsOf t)) = some x) : ∃ a : α, RT w (old w) (Enc.enc a) cs[i] := by
  rw [hc, List.drop_eq_getElem_cons hi] at hx
  simp only [List.take_succ_cons, List.take_zero] at hx
  obtain ⟨a, ha⟩ := h X ec w base spare held fuel _ _ hx
  obtain ⟨u, hu, hr⟩ := one_cells ha
  simp only [List.cons.injEq, and_true] at hu
  rw [hu]; exact ⟨a, hr⟩
theorem read_struct {P : Program} {t : TypeId} {fs : Array Field} (ht : P.underlying t = some (.struct fs)) {X : Type} {ec : TypeId × Value → X} {w : World} {base : Nat} {spare : Nat → Bool} {held : Bool} {fuel : Nat} {cs : List Value} {x : DataW X × List MemPlace}
    (hx : DataW.trod ec P w base spare held fuel t cs = some x) (hsz : P.cellsOf t = fs.size) :
    cs.length = fs.size ∧ ∀ (i : Nat) (f : Field), fs[i]? = some f → f.offset = i → P.cellsOf f.type = 1 → ∀ (α : Type) [Enc α] [One α], Reads P f.type α → ∀ hi : i < cs.length, ∃ a : α, RT w (old w) (Enc.enc a) cs[i] := by
  obtain ⟨xs, n, _, _, hl, hxl, hall⟩ := DataW.trod_struct ht hx
  refine ⟨by omega, fun i f hf ho hc α _ _ hr hi => ?_⟩
  have := hall i f hf
  have hi2 : i < xs.length := by rw [hxl]; exact (Array.getElem?_eq_some_iff.1 hf).1
  rw [List.getElem?_eq_getElem hi2, ho] at this
  exact read_field hr hc hi this
end Go.Sim

namespace Go.Sim
open Enc (enc)
open Go.ChangeShapes Go.WideShapes Go.ChangeAt Go.RowKit Go.Deep Go.WideElems

section
variable {H : Type} {enc : TypeId × Value → H} {P : Program}

theorem same_old {W W' : World} (hs : ∀ k, k < W.heap.size → W'.heap[k]? = W.heap[k]?) {p : MemPlace} (hp : p.block < W.heap.size) : W.sameAt W' p := by
  cases p with
  | cell b off =>
    show W'.cell? ⟨b, off, none⟩ = W.cell? ⟨b, off, none⟩
    unfold World.cell?
    rw [hs b hp]
  | map b => exact hs b hp
theorem kept_old {W W' : World} (ho : W'.os = W.os) (hu : W'.output = W.output) (hs : ∀ k, k < W.heap.size → W'.heap[k]? = W.heap[k]?) (may : MemPlace → Prop) : W.keptBut W' may := by
  refine ⟨ho, hu, fun i hi => ?_⟩
  rw [hs i hi]
  split
  · rename_i c t fr c' t' fr' h1 h2
    rw [h1] at h2; cases h2
    exact ⟨rfl, rfl, rfl, fun _ _ => rfl⟩
  · rename_i es ck es' ck' h1 h2
    rw [h1] at h2; cases h2
    exact .inr ⟨rfl, rfl⟩
  · rfl
theorem post_same {f : Func} {s : ChangeSpec} {apart fresh handsOn again : Bool} {W W' : World} {args : Array Value} {v : Value} {ds gs : List (DataW H)} {before pa pv : List MemPlace}
    (hW : DataW.Whole enc P f.params.toList s.vars apart W args.toList ds gs before)
    (hres : ∀ (b : Nat) (sp : Nat → Bool) (hd : Bool), DataW.TrodAll enc P W' b sp hd f.resultTypes.toList (v.resultList f.resultTypes.size) (s.fn H (ds ++ gs)).results [])
    (hargs : ∀ sp : Nat → Bool, (∀ p ∈ before, sp p.block = true) → DataW.TrodAll enc P W' 0 sp true f.params.toList args.toList (s.fn H (ds ++ gs)).args pa)
    (hvars : ∀ sp : Nat → Bool, (∀ p ∈ before, sp p.block = true) → DataW.TrodVars enc P W' sp s.vars (s.fn H (ds ++ gs)).vars pv)
    (hps : before = pa ++ pv) (hk : W.keptBut W' (· ∈ before)) (hs : ∀ k, k < W.heap.size → W'.heap[k]? = W.heap[k]?)
    (hok : ∀ (j : Nat) (t : TypeId) (r : Value), f.resultTypes[j]? = some t → (v.resultList f.resultTypes.size)[j]? = some r → Value.okWide P W' .any 0 t r) :
    s.post enc P f apart fresh handsOn again W args v W' := by
  have hlt := hW.lt
  have hold : ∀ p ∈ before, (fun b => decide (b < W.heap.size)) p.block = true := fun p hp => by simpa using hlt p hp
  refine ⟨ds, gs, before, [], pa, pv, hW, hres _ _ _, hargs _ hold, hvars _ hold, World.keptBut_mono (fun p hp => ⟨hp, ?_⟩) hk, fun _ => ?_⟩
  · rw [hps, List.mem_append] at hp
    exact Or.inr hp
  · obtain ⟨_, _, _, _, _, hz, hn⟩ := hW
    refine ⟨hok, _, _, ([] ++ pa) ++ pv, ⟨[] ++ pa, pv, trodAll_append (hargs _ (fun _ _ => rfl)) (hres _ _ _), hvars _ (fun _ _ => rfl), rfl, ?_, ?_⟩, ?_⟩
    · intro b off hp
      have hp' : MemPlace.cell b off ∈ before := by rw [hps]; simpa using hp
      have hb : b < W.heap.size := hlt _ hp'
      have e : W'.frozen? ⟨b, off, none⟩ = W.frozen? ⟨b, off, none⟩ := by unfold World.frozen?; rw [hs b hb]
      rw [e]
      exact hz b off hp'
    · intro ha
      have := hn ha
      rw [hps] at this
      simpa using this
    · intro p hp _
      rw [hps]
      simpa using hp

theorem args_again {W W' : World} (hl : laidOutB P = true) (hs : ∀ k, k < W.heap.size → W'.heap[k]? = W.heap[k]?) {sp : Nat → Bool} :
    ∀ {ts : List TypeId} {vs : List Value} {ds : List (DataW H)} {ps : List MemPlace}, (∀ t ∈ ts, P.readableRec t = true ∧ t < P.types.size) → DataW.TrodAll enc P W 0 (fun _ => true) true ts vs ds ps → (∀ p ∈ ps, p.block < W.heap.size) → (∀ p ∈ ps, sp p.block = true) →
    DataW.TrodAll enc P W' 0 sp true ts vs ds ps
  | [], vs, ds, ps, _, h, _, _ => by obtain ⟨rfl, rfl, rfl⟩ := trodAll_nil h; exact trodAll_mk0
  | t :: ts, vs, ds, ps, ht, h, hb, hsp => by
    obtain ⟨v, vs', d, ds', p, q, rfl, rfl, rfl, h1, h2⟩ := trodAll_cons h
    refine ⟨p, q, Trod_stays hl (ht t (by simp)).1 (ht t (by simp)).2 h1 (fun x hx => same_old hs (hb x (by simp [hx]))) (fun x hx => hsp x (by simp [hx])), ?_, rfl⟩
    exact args_again hl hs (fun t' ht' => ht t' (by simp [ht'])) h2 (fun x hx => hb x (by simp [hx])) (fun x hx => hsp x (by simp [hx]))
end

theorem law_calls [Orc] {P : Program} (hm : P.follows .mixedOrders = true) (hlaid : laidOutB P = true) {f : FuncId} {fn : Func} {s : ChangeSpec} {apart fresh handsOn again : Bool} {H : Type} {enc : TypeId × Value → H} {W : World} {args : Array Value} {ds gs : List (DataW H)} {before : List MemPlace} {tb : TypeId} (ho : @OrcOk ⟨W, old W⟩ _ P) (hq : @SeqOk ⟨W, old W⟩ _ P)
    (hvars : s.vars = []) (hfn : (s.fn H ds).results = [.lit (.bool true)] ∧ (s.fn H ds).args = ds ∧ (s.fn H ds).vars = [])
    (hread : ∀ t ∈ fn.params.toList, P.readableRec t = true ∧ t < P.types.size) (hrt : fn.resultTypes = #[tb]) (hb : P.underlying tb = some .bool)
    (hW : DataW.Whole enc P fn.params.toList s.vars apart W args.toList ds gs before)
    {ts : List T} (hlen : ts.length = args.toList.length) (hv : ∀ i (hi : i < ts.length) (hu : i < args.toList.length), RT W (old W) ts[i] args.toList[i])
    (hf : Fun P f ts (.t (.bool true))) :
    Calls P f args W fun e W' => ∃ v, e = .returned v ∧ s.post enc P fn apart fresh handsOn again W args v W' := by
  have hc := Fun.calls hm hf (w := W) (S := old W) ho hq (us := args.toList) (fun _ _ h => h) hlen hv
  have ea : args.toList.toArray = args := by simp
  rw [ea] at hc
  refine hc.mono ?_
  rintro e W' ⟨v, S', rfl, hrt', ho, hu, hsz, hs⟩
  cases hrt'
  refine ⟨_, rfl, ?_⟩
  have hW' := hW
  obtain ⟨p, q, hA, hV, rfl, hz, hn⟩ := hW
  rw [hvars] at hV
  obtain ⟨rfl, rfl⟩ := trodVars_none hV
  have hlt : ∀ x ∈ p, x.block < W.heap.size := fun x hx => hW'.lt x (by simp [hx])
  refine post_same (pa := p) (pv := []) hW' ?_ ?_ ?_ rfl (kept_old ho hu hs _) hs ?_
  · intro b sp hd
    rw [List.append_nil, hfn.1, hrt]
    exact trodAll_mk1 (shut_bool hb _)
  · intro sp hsp
    rw [List.append_nil, hfn.2.1]
    exact args_again hlaid hs hread hA hlt (fun x hx => hsp x (by simp [hx]))
  · intro sp _
    rw [List.append_nil, hfn.2.2, hvars]
    rfl
  · intro j t r h1 h2
    rw [hrt] at h1 h2
    exact ok_one (by rw [hrt]) rfl (okWide_bool_mk hb _) j t r (by rw [hrt]; exact h1) (by rw [hrt]; exact h2)

theorem var_stays {P : Program} {W w : World} {S : Cells} (hs : Stay W (old W) w S) {n : String} {cs : Array Value} (h0 : 0 < cs.size) (h : W.var? P n = some cs) : w.var? P n = some cs := by
  unfold World.var? at h ⊢
  cases hg : P.globalNamed n with
  | none => simp [hg] at h
  | some g =>
    simp only [hg, Option.bind_some] at h ⊢
    cases hw : W.heap[g]? with
    | none => simp [hw] at h
    | some o =>
      have hlt : g < W.heap.size := (Array.getElem?_eq_some_iff.1 hw).1
      cases o with
      | cells c t f =>
        simp [hw] at h
        subst h
        have hc : ∀ j, w.cell? ⟨g, j, none⟩ = c[j]? := fun j => by
          rw [(hs g j hlt).2]
          simp [World.cell?, hw]
        cases hw' : w.heap[g]? with
        | none =>
          have := hc 0
          simp [World.cell?, hw', h0] at this
        | some o' =>
          cases o' with
          | cells c' t' f' =>
            have e : c' = c := by
              apply Array.ext_getElem?
              intro j
              have := hc j
              simpa [World.cell?, hw'] using this
            rw [e]
          | _ =>
            have := hc 0
            simp [World.cell?, hw', h0] at this
      | _ => simp [hw] at h
end Go.Sim
