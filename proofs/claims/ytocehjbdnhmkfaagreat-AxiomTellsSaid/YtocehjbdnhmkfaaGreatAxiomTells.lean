/- Proved: whatever the input, the call of cupolalaw16.AxiomTells returns true, and each argument reads behind it as it read before. Conditions: none beyond the row's own (recurses, unfollowed). -/
import Derived.Test.YtocehjbdnhmkfaaGreatRows
import Derived.JoinedOf
import Derived.Handed
import Derived.Test.YtocehjbdnhmkfaaGreatLaw16
import Derived.Test.YtocehjbdnhmkfaaGreatBridge2
set_option linter.all false
namespace Go.Proofs.YtocehjbdnhmkfaaGreat.axiomTells
open Go.ChangeShapes Go.WideShapes Go.ChangeAt Go.RowKit Go.Deep Go.Sim

theorem own : ownKnob Tryz.prog.godebug = none := by kernel_rfl
theorem mixed : Tryz.prog.follows .mixedOrders = true := by kernel_rfl
theorem laid : laidOutB Tryz.prog = true := by kernel_rfl
theorem cells51 : Tryz.prog.cellsOf 51 = 7 := by kernel_rfl
theorem cells26 : Tryz.prog.cellsOf 26 = 7 := by kernel_rfl
theorem one3 : Tryz.prog.cellsOf 3 = 1 := by kernel_rfl
theorem one2 : Tryz.prog.cellsOf 2 = 1 := by kernel_rfl
theorem one4 : Tryz.prog.cellsOf 4 = 1 := by kernel_rfl
theorem one22 : Tryz.prog.cellsOf 22 = 1 := by kernel_rfl
theorem one23 : Tryz.prog.cellsOf 23 = 1 := by kernel_rfl
theorem one24 : Tryz.prog.cellsOf 24 = 1 := by kernel_rfl
theorem one39 : Tryz.prog.cellsOf 39 = 1 := by kernel_rfl
theorem one60 : Tryz.prog.cellsOf 60 = 1 := by kernel_rfl
theorem can26 : Tryz.prog.readableRec 26 = true ∧ 26 < Tryz.prog.types.size := ⟨by kernel_rfl, of_decide_eq_true (by kernel_rfl)⟩
theorem can27 : Tryz.prog.readableRec 27 = true ∧ 27 < Tryz.prog.types.size := ⟨by kernel_rfl, of_decide_eq_true (by kernel_rfl)⟩
theorem can23 : Tryz.prog.readableRec 23 = true ∧ 23 < Tryz.prog.types.size := ⟨by kernel_rfl, of_decide_eq_true (by kernel_rfl)⟩

theorem reads_ev : Reads Tryz.prog 51 Ev := by
  intro X ec w base spare held fuel cs x h
  obtain ⟨hl, hf⟩ := read_struct Tryz.underlying51 h (by rw [cells51]; rfl)
  have hl7 : cs.length = 7 := hl
  obtain ⟨a0, h0⟩ := hf 0 _ rfl rfl one3 Int (reads_int Tryz.underlying3) (by omega)
  obtain ⟨a1, h1⟩ := hf 1 _ rfl rfl one3 Int (reads_int Tryz.underlying3) (by omega)
  obtain ⟨a2, h2⟩ := hf 2 _ rfl rfl one3 Int (reads_int Tryz.underlying3) (by omega)
  obtain ⟨a3, h3⟩ := hf 3 _ rfl rfl one2 Int (reads_int Tryz.underlying2) (by omega)
  obtain ⟨a4, h4⟩ := hf 4 _ rfl rfl one4 Bool (reads_bool Tryz.underlying4) (by omega)
  obtain ⟨a5, h5⟩ := hf 5 _ rfl rfl one4 Bool (reads_bool Tryz.underlying4) (by omega)
  obtain ⟨a6, h6⟩ := hf 6 _ rfl rfl one4 Bool (reads_bool Tryz.underlying4) (by omega)
  refine ⟨⟨a0, a1, a2, a3, a4, a5, a6⟩, hl7.symm, ?_⟩
  intro i k1 k2
  match i, k1, k2 with
  | 0, _, _ => exact h0
  | 1, _, _ => exact h1
  | 2, _, _ => exact h2
  | 3, _, _ => exact h3
  | 4, _, _ => exact h4
  | 5, _, _ => exact h5
  | 6, _, _ => exact h6
  | n + 7, _, k2 => exact absurd k2 (by omega)
theorem reads_rel : Reads Tryz.prog 23 (List U32) := reads_list Tryz.underlying23 one60 (reads_u32 Tryz.underlying60)
theorem reads_ex : Reads Tryz.prog 26 Ex := by
  intro X ec w base spare held fuel cs x h
  obtain ⟨hl, hf⟩ := read_struct Tryz.underlying26 h (by rw [cells26]; rfl)
  have hl7 : cs.length = 7 := hl
  obtain ⟨a0, h0⟩ := hf 0 _ rfl rfl one22 (List Ev) (reads_list Tryz.underlying22 cells51 reads_ev) (by omega)
  obtain ⟨a1, h1⟩ := hf 1 _ rfl rfl one23 (List U32) reads_rel (by omega)
  obtain ⟨a2, h2⟩ := hf 2 _ rfl rfl one23 (List U32) reads_rel (by omega)
  obtain ⟨a3, h3⟩ := hf 3 _ rfl rfl one23 (List U32) reads_rel (by omega)
  obtain ⟨a4, h4⟩ := hf 4 _ rfl rfl one23 (List U32) reads_rel (by omega)
  obtain ⟨a5, h5⟩ := hf 5 _ rfl rfl one23 (List U32) reads_rel (by omega)
  obtain ⟨a6, h6⟩ := hf 6 _ rfl rfl one24 (List (List Int)) (reads_list Tryz.underlying24 one39 (reads_list Tryz.underlying39 one2 (reads_int Tryz.underlying2))) (by omega)
  refine ⟨⟨a0, a1, a2, a3, a4, a5, a6⟩, hl7.symm, ?_⟩
  intro i k1 k2
  match i, k1, k2 with
  | 0, _, _ => exact h0
  | 1, _, _ => exact h1
  | 2, _, _ => exact h2
  | 3, _, _ => exact h3
  | 4, _, _ => exact h4
  | 5, _, _ => exact h5
  | 6, _, _ => exact h6
  | n + 7, _, k2 => exact absurd k2 (by omega)

set_option maxRecDepth 100000 in
/-- What the run gives, for every argument. -/
theorem contract (H : Type) (enc : TypeId × Value → H) (W : World) (base : Nat) (args : Array Value) (ds gs : List (DataW H)) (before : List MemPlace)
    (hval : ∀ (j : Nat) t v, Tryz.f3.params[j]? = some t → args[j]? = some v → Value.okWide Tryz.prog W .any base t v)
    (hW : DataW.Whole enc Tryz.prog Tryz.f3.params.toList Rows.axiomTellsSpec.vars false W args.toList ds gs before) :
    Calls Tryz.prog 3 args W fun e W' => ∃ v, e = .returned v ∧ Rows.axiomTellsSpec.post enc Tryz.prog Tryz.f3 false true false false W args v W' := by
  have hW' := hW
  obtain ⟨p, q, hA0, hV, rfl, hfz, hnd⟩ := hW
  have hA : DataW.TrodAll enc Tryz.prog W 0 (fun _ => true) true Tryz.f3.params.toList args.toList ds p := hA0
  rw [Tryz.params3] at hA hval
  obtain ⟨v0, v1, v2, d0, d1, d2, p0, p1, p2, rfl, rfl, rfl, ⟨n0, h0⟩, ⟨n1, h1⟩, ⟨n2, h2⟩⟩ := trodAll_three hA
  obtain ⟨cs, rfl, _⟩ := okWide_struct Tryz.underlying26 (hval 0 26 v0 rfl rfl)
  obtain ⟨_, _, _, rfl⟩ := okWide_slice Tryz.underlying27 (hval 1 27 v1 rfl rfl)
  obtain ⟨_, _, _, rfl⟩ := okWide_slice Tryz.underlying23 (hval 2 23 v2 rfl rfl)
  obtain ⟨x, hx⟩ := reads_ex _ _ _ _ _ _ _ _ _ h0
  obtain ⟨fr, hfr⟩ := reads_list (α := Int) Tryz.underlying27 one3 (reads_int Tryz.underlying3) _ _ _ _ _ _ _ _ _ h1
  obtain ⟨co, hco⟩ := reads_rel _ _ _ _ _ _ _ _ _ h2
  obtain ⟨u1, e1, r1⟩ := one_cells hfr
  obtain ⟨u2, e2, r2⟩ := one_cells hco
  have r0 : RT W (old W) (Enc.enc x) (.agg cs) := RT.agg _ cs.toList hx.1 hx.2
  simp only [Value.cells, List.cons.injEq, and_true] at e1 e2
  rw [← e1] at r1
  rw [← e2] at r2
  refine law_calls mixed laid (tb := 4) rfl ⟨rfl, rfl, rfl⟩ ?_ (by kernel_rfl) Tryz.underlying4 hW' (ts := [Enc.enc x, Enc.enc fr, Enc.enc co]) rfl ?_ (axiomTells_run x fr co)
  · intro t ht
    rw [Tryz.params3] at ht
    simp only [List.mem_cons, List.not_mem_nil, or_false] at ht
    rcases ht with rfl | rfl | rfl
    · exact can26
    · exact can27
    · exact can23
  · intro i k1 k2
    match i, k1, k2 with
    | 0, _, _ => exact r0
    | 1, _, _ => exact r1
    | 2, _, _ => exact r2
    | n + 3, k1, _ => exact absurd k1 (by simp)

set_option maxRecDepth 100000 in
theorem lifted (os : Os) (started : os.Started) (H : Type) (enc : TypeId × Value → H) :
    ReturnsInHanded Rows.axiomTellsRow.assume Tryz.checked os 3 .any (Rows.axiomTellsRow.pre enc Tryz.prog Tryz.f3 (OpenSpec.ofChange Rows.axiomTellsSpec)) (Rows.axiomTellsSpec.post enc Tryz.prog Tryz.f3 false true false false) := by
  refine returnsInHanded_of_change (C := Tryz.checked) (s := Rows.axiomTellsSpec) own started (by kernel_rfl) Tryz.func3
    (ChangeSpec.witness6 (enc := enc) (C := Tryz.checked) (s := Rows.axiomTellsSpec) false ⟨#[], #[.agg #[.slice none 0 0, .slice none 0 0, .slice none 0 0, .slice none 0 0, .slice none 0 0, .slice none 0 0, .slice none 0 0], .slice none 0 0, .slice none 0 0], []⟩ 8 (by kernel_rfl) (by kernel_rfl) (by kernel_rfl) (by kernel_rfl)) ?_
  intro W base args ds gs before hval hW _ _
  exact contract H enc W base args ds gs before hval hW

theorem over : Rows.axiomTellsRow.holds Tryz.pinned (OpenSpec.ofChange Rows.axiomTellsSpec) :=
  OpenClaim.holds_of_wide 3 Tryz.f3 rfl rfl rfl rfl rfl rfl rfl ⟨rfl, rfl, rfl, rfl, rfl⟩ rfl rfl rfl rfl rfl (by kernel_rfl) Tryz.func3 (by kernel_rfl)
    (of_decide_eq_true (by kernel_rfl)) (by unfold Func.isWrapper; first | (rw [if_pos (by decide +kernel)]; kernel_rfl) | (rw [if_neg (by decide +kernel)]; exact ⟨rfl, rfl⟩))
    (fun os started H enc _ => lifted os started H enc)

theorem proved : Rows.AxiomTellsSaid := over
end Go.Proofs.YtocehjbdnhmkfaaGreat.axiomTells
