/- Proved: AxiomAlone (cupolalaw16): for every test and every choice, the law returns true; it has no conditions beyond the statement's own. -/
import Derived.Test.YtocehjbdnhmkfaaGreatRows
import Derived.JoinedOf
import Derived.Handed
import Derived.Test.YtocehjbdnhmkfaaGreatLAlone
import Derived.Test.YtocehjbdnhmkfaaGreatReadsT
import Derived.Test.YtocehjbdnhmkfaaGreatOrcsOk
import Derived.Test.YtocehjbdnhmkfaaGreatBridge
set_option linter.all false
namespace Go.Proofs.YtocehjbdnhmkfaaGreat.axiomAlone
open Go.ChangeShapes Go.WideShapes Go.ChangeAt Go.RowKit Go.Deep Go.Sim

theorem own : ownKnob Tryz.prog.godebug = none := by kernel_rfl
theorem mixed : Tryz.prog.follows .mixedOrders = true := by kernel_rfl
theorem laid : laidOutB Tryz.prog = true := by kernel_rfl

set_option maxRecDepth 100000 in
/-- What the run gives, for every argument. -/
theorem contract (H : Type) (enc : TypeId × Value → H) (W : World) (base : Nat) (args : Array Value) (ds gs : List (DataW H)) (before : List MemPlace)
    (hval : ∀ (j : Nat) t v, Tryz.f7.params[j]? = some t → args[j]? = some v → Value.okWide Tryz.prog W .any base t v)
    (hW : DataW.Whole enc Tryz.prog Tryz.f7.params.toList Rows.axiomAloneSpec.vars false W args.toList ds gs before) :
    Calls Tryz.prog 7 args W fun e W' => ∃ v, e = .returned v ∧ Rows.axiomAloneSpec.post enc Tryz.prog Tryz.f7 false true false false W args v W' := by
  have hW' := hW
  obtain ⟨p, q, hA0, hV, rfl, hfz, hnd⟩ := hW
  have hA : DataW.TrodAll enc Tryz.prog W 0 (fun _ => true) true Tryz.f7.params.toList args.toList ds p := hA0
  rw [Tryz.params7] at hA hval
  obtain ⟨v0, v1, d0, d1, p0, p1, rfl, rfl, rfl, ⟨n0, h0⟩, ⟨n1, h1⟩⟩ := trodAll_two hA
  obtain ⟨cs, rfl, _⟩ := okWide_struct Tryz.underlying42 (hval 0 42 v0 rfl rfl)
  obtain ⟨n, rfl⟩ := okWide_int Tryz.underlying43 (hval 1 43 v1 rfl rfl)
  obtain ⟨x, hx⟩ := reads_te _ _ _ _ _ _ _ _ _ h0
  obtain ⟨n', hn', _, hw⟩ := DataW.trod_int Tryz.underlying43 h1
  have hnn : n' = n := by simpa [Value.cells] using hn'.symm
  subst hnn
  have hn : 0 ≤ n' ∧ n' ≤ 65535 := by simpa [Lit.wf, IntKind.min, IntKind.max, IntKind.signed, IntKind.bits] using hw
  have r0 : RT W (old W) (Enc.enc x) (.agg cs) := RT.agg _ cs.toList hx.1 hx.2
  refine law_calls orcOk mixed laid (tb := 4) rfl ⟨rfl, rfl, rfl⟩ ?_ (by kernel_rfl) Tryz.underlying4 hW' (ts := [Enc.enc x, .int .u16 n']) rfl ?_ (axiomAlone_run x hn.1 (by omega))
  · intro t ht
    rw [Tryz.params7] at ht
    simp only [List.mem_cons, List.not_mem_nil, or_false] at ht
    rcases ht with rfl | rfl
    · exact can42
    · exact can43
  · intro i k1 k2
    match i, k1, k2 with
    | 0, _, _ => exact r0
    | 1, _, _ => exact RT.int _ _
    | n + 2, k1, _ => exact absurd k1 (by simp)

set_option maxRecDepth 100000 in
theorem lifted (os : Os) (started : os.Started) (H : Type) (enc : TypeId × Value → H) :
    ReturnsInHanded Rows.axiomAloneRow.assume Tryz.checked os 7 .any (Rows.axiomAloneRow.pre enc Tryz.prog Tryz.f7 (OpenSpec.ofChange Rows.axiomAloneSpec)) (Rows.axiomAloneSpec.post enc Tryz.prog Tryz.f7 false true false false) := by
  refine returnsInHanded_of_change (C := Tryz.checked) (s := Rows.axiomAloneSpec) own started (by kernel_rfl) Tryz.func7
    (ChangeSpec.witness6 (enc := enc) (C := Tryz.checked) (s := Rows.axiomAloneSpec) false ⟨#[], #[.agg #[.slice none 0 0, .slice none 0 0], .int .u16 0], []⟩ 8 (by kernel_rfl) (by kernel_rfl) (by kernel_rfl) (by kernel_rfl)) ?_
  intro W base args ds gs before hval hW _ _
  exact contract H enc W base args ds gs before hval hW

theorem over : Rows.axiomAloneRow.holds Tryz.pinned (OpenSpec.ofChange Rows.axiomAloneSpec) :=
  OpenClaim.holds_of_wide 7 Tryz.f7 rfl rfl rfl rfl rfl rfl rfl ⟨rfl, rfl, rfl, rfl, rfl⟩ rfl rfl rfl rfl rfl (by kernel_rfl) Tryz.func7 (by kernel_rfl)
    (of_decide_eq_true (by kernel_rfl)) (by unfold Func.isWrapper; first | (rw [if_pos (by decide +kernel)]; kernel_rfl) | (rw [if_neg (by decide +kernel)]; exact ⟨rfl, rfl⟩))
    (fun os started H enc _ => lifted os started H enc)

theorem proved : Rows.AxiomAloneSaid := over
end Go.Proofs.YtocehjbdnhmkfaaGreat.axiomAlone
