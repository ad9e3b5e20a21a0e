/- Proved: AxiomRegs (cupolalaw16): for every test, every choice of a way and every value, the law returns true; it has no conditions beyond the statement's own. -/
import Derived.Test.YtocehjbdnhmkfaaGreatRows
import Derived.JoinedOf
import Derived.Handed
import Derived.Test.YtocehjbdnhmkfaaGreatLRegs
import Derived.Test.YtocehjbdnhmkfaaGreatReadsT
import Derived.Test.YtocehjbdnhmkfaaGreatOrcsOk
import Derived.Test.YtocehjbdnhmkfaaGreatBridge
set_option linter.all false
namespace Go.Proofs.YtocehjbdnhmkfaaGreat.axiomRegs
open Go.ChangeShapes Go.WideShapes Go.ChangeAt Go.RowKit Go.Deep Go.Sim

theorem can2 : Tryz.prog.readableRec 2 = true ∧ 2 < Tryz.prog.types.size := ⟨by kernel_rfl, of_decide_eq_true (by kernel_rfl)⟩
theorem own : ownKnob Tryz.prog.godebug = none := by kernel_rfl
theorem mixed : Tryz.prog.follows .mixedOrders = true := by kernel_rfl
theorem laid : laidOutB Tryz.prog = true := by kernel_rfl

set_option maxRecDepth 100000 in
/-- What the run gives, for every argument. -/
theorem contract (H : Type) (enc : TypeId × Value → H) (W : World) (base : Nat) (args : Array Value) (ds gs : List (DataW H)) (before : List MemPlace)
    (hval : ∀ (j : Nat) t v, Tryz.f12.params[j]? = some t → args[j]? = some v → Value.okWide Tryz.prog W .any base t v)
    (hW : DataW.Whole enc Tryz.prog Tryz.f12.params.toList Rows.axiomRegsSpec.vars false W args.toList ds gs before) :
    Calls Tryz.prog 12 args W fun e W' => ∃ v, e = .returned v ∧ Rows.axiomRegsSpec.post enc Tryz.prog Tryz.f12 false true false false W args v W' := by
  have hW' := hW
  obtain ⟨p, q, hA0, hV, rfl, hfz, hnd⟩ := hW
  have hA : DataW.TrodAll enc Tryz.prog W 0 (fun _ => true) true Tryz.f12.params.toList args.toList ds p := hA0
  rw [Tryz.params12] at hA hval
  obtain ⟨v0, v1, v2, d0, d1, d2, p0, p1, p2, rfl, rfl, rfl, ⟨n0, h0⟩, ⟨n1, h1⟩, ⟨n2, h2⟩⟩ := trodAll_three hA
  obtain ⟨cs, rfl, _⟩ := okWide_struct Tryz.underlying42 (hval 0 42 v0 rfl rfl)
  have h64 := hval 1 64 v1 rfl rfl
  simp only [Value.okWide, Tryz.underlying64] at h64
  obtain ⟨ks, rfl, _⟩ := h64
  obtain ⟨x, hx⟩ := reads_te _ _ _ _ _ _ _ _ _ h0
  obtain ⟨a, b, c, hk, ha, hb, hc⟩ := reads_a3 h1
  have hks : ks = #[.int .u16 a, .int .u16 b, .int .u16 c] := by
    apply Array.toList_inj.1
    simpa [Value.cells] using hk
  subst hks
  obtain ⟨v, rfl⟩ := okWide_int Tryz.underlying2 (hval 2 2 v2 rfl rfl)
  have r0 : RT W (old W) (Enc.enc x) (.agg cs) := RT.agg _ cs.toList hx.1 hx.2
  refine law_calls orcOk mixed laid (tb := 4) rfl ⟨rfl, rfl, rfl⟩ ?_ (by kernel_rfl) Tryz.underlying4 hW' (ts := [Enc.enc x, arr3 a b c, .int .i64 v]) rfl ?_ (axiomRegs_run x ha hb hc)
  · intro t ht
    rw [Tryz.params12] at ht
    simp only [List.mem_cons, List.not_mem_nil, or_false] at ht
    rcases ht with rfl | rfl | rfl
    · exact can42
    · exact can64
    · exact can2
  · intro i k1 k2
    match i, k1, k2 with
    | 0, _, _ => exact r0
    | 1, _, _ => exact rt_a3 a b c
    | 2, _, _ => exact RT.int _ _
    | n + 3, k1, _ => exact absurd k1 (by simp)

set_option maxRecDepth 100000 in
theorem lifted (os : Os) (started : os.Started) (H : Type) (enc : TypeId × Value → H) :
    ReturnsInHanded Rows.axiomRegsRow.assume Tryz.checked os 12 .any (Rows.axiomRegsRow.pre enc Tryz.prog Tryz.f12 (OpenSpec.ofChange Rows.axiomRegsSpec)) (Rows.axiomRegsSpec.post enc Tryz.prog Tryz.f12 false true false false) := by
  refine returnsInHanded_of_change (C := Tryz.checked) (s := Rows.axiomRegsSpec) own started (by kernel_rfl) Tryz.func12
    (ChangeSpec.witness6 (enc := enc) (C := Tryz.checked) (s := Rows.axiomRegsSpec) false ⟨#[], #[.agg #[.slice none 0 0, .slice none 0 0], .agg #[.int .u16 0, .int .u16 0, .int .u16 0], .int .i64 0], []⟩ 8 (by kernel_rfl) (by kernel_rfl) (by kernel_rfl) (by kernel_rfl)) ?_
  intro W base args ds gs before hval hW _ _
  exact contract H enc W base args ds gs before hval hW

theorem over : Rows.axiomRegsRow.holds Tryz.pinned (OpenSpec.ofChange Rows.axiomRegsSpec) :=
  OpenClaim.holds_of_wide 12 Tryz.f12 rfl rfl rfl rfl rfl rfl rfl ⟨rfl, rfl, rfl, rfl, rfl⟩ rfl rfl rfl rfl rfl (by kernel_rfl) Tryz.func12 (by kernel_rfl)
    (of_decide_eq_true (by kernel_rfl)) (by unfold Func.isWrapper; first | (rw [if_pos (by decide +kernel)]; kernel_rfl) | (rw [if_neg (by decide +kernel)]; exact ⟨rfl, rfl⟩))
    (fun os started H enc _ => lifted os started H enc)

theorem proved : Rows.AxiomRegsSaid := over
end Go.Proofs.YtocehjbdnhmkfaaGreat.axiomRegs
