/- FlatWhole: whatever is Good is followed to its end -/
import Derived.Test.YtoaboplnnhifpaaGreatRows
import Derived.JoinedOf
import Derived.Handed
import Derived.Test.YtoaboplnnhifpaaGreatFlatV
import Derived.Test.YtoaboplnnhifpaaGreatReadsT
import Derived.Test.YtoaboplnnhifpaaGreatOrcsOk
import Derived.Test.YtoaboplnnhifpaaGreatBridge
set_option linter.all false
namespace Go.Proofs.YtoaboplnnhifpaaGreat.flatWhole
open Go.ChangeShapes Go.WideShapes Go.ChangeAt Go.RowKit Go.Deep Go.Sim

theorem own : ownKnob Tryz.prog.godebug = none := by kernel_rfl
theorem mixed : Tryz.prog.follows .mixedOrders = true := by kernel_rfl
theorem laid : laidOutB Tryz.prog = true := by kernel_rfl

set_option maxRecDepth 100000 in
/-- What the run gives, for every argument. -/
theorem contract (H : Type) (enc : TypeId × Value → H) (W : World) (base : Nat) (args : Array Value) (ds gs : List (DataW H)) (before : List MemPlace)
    (hval : ∀ (j : Nat) t v, Tryz.f7.params[j]? = some t → args[j]? = some v → Value.okWide Tryz.prog W .any base t v)
    (hW : DataW.Whole enc Tryz.prog Tryz.f7.params.toList Rows.flatWholeSpec.vars false W args.toList ds gs before) :
    Calls Tryz.prog 7 args W fun e W' => ∃ v, e = .returned v ∧ Rows.flatWholeSpec.post enc Tryz.prog Tryz.f7 false true false false W args v W' := by
  have hW' := hW
  obtain ⟨p, q, hA0, hV, rfl, hfz, hnd⟩ := hW
  have hA : DataW.TrodAll enc Tryz.prog W 0 (fun _ => true) true Tryz.f7.params.toList args.toList ds p := hA0
  rw [Tryz.params7] at hA hval
  obtain ⟨v0, v1, d0, d1, p0, p1, rfl, rfl, rfl, ⟨n0, h0⟩, ⟨n1, h1⟩⟩ := trodAll_two hA
  obtain ⟨cs, rfl, _⟩ := okWide_struct Tryz.underlying25 (hval 0 25 v0 rfl rfl)
  have h64 := hval 1 67 v1 rfl rfl
  simp only [Value.okWide, Tryz.underlying67] at h64
  obtain ⟨ks, rfl, _⟩ := h64
  obtain ⟨x, hx⟩ := reads_te _ _ _ _ _ _ _ _ _ h0
  obtain ⟨a, b, c, hk, ha, hb, hc⟩ := reads_a3 h1
  have hks : ks = #[.int .u16 a, .int .u16 b, .int .u16 c] := by
    apply Array.toList_inj.1
    simpa [Value.cells] using hk
  subst hks
  have r0 : RT W (old W) (Enc.enc x) (.agg cs) := RT.agg _ cs.toList hx.1 hx.2
  refine law_calls orcOk mixed laid (tb := 4) rfl ⟨rfl, rfl, rfl⟩ ?_ (by kernel_rfl) Tryz.underlying4 hW' (ts := [Enc.enc x, arr3 a b c]) rfl ?_ (flatWhole_run x ha hb hc)
  · intro t ht
    rw [Tryz.params7] at ht
    simp only [List.mem_cons, List.not_mem_nil, or_false] at ht
    rcases ht with rfl | rfl
    · exact can25
    · exact can67
  · intro i k1 k2
    match i, k1, k2 with
    | 0, _, _ => exact r0
    | 1, _, _ => exact rt_a3 a b c
    | n + 2, k1, _ => exact absurd k1 (by simp)

set_option maxRecDepth 100000 in
theorem lifted (os : Os) (started : os.Started) (H : Type) (enc : TypeId × Value → H) :
    ReturnsInHanded Rows.flatWholeRow.assume Tryz.checked os 7 .any (Rows.flatWholeRow.pre enc Tryz.prog Tryz.f7 (OpenSpec.ofChange Rows.flatWholeSpec)) (Rows.flatWholeSpec.post enc Tryz.prog Tryz.f7 false true false false) := by
  refine returnsInHanded_of_change (C := Tryz.checked) (s := Rows.flatWholeSpec) own started (by kernel_rfl) Tryz.func7
    (ChangeSpec.witness6 (enc := enc) (C := Tryz.checked) (s := Rows.flatWholeSpec) false ⟨#[], #[.agg #[.slice none 0 0, .slice none 0 0], .agg #[.int .u16 0, .int .u16 0, .int .u16 0]], []⟩ 8 (by kernel_rfl) (by kernel_rfl) (by kernel_rfl) (by kernel_rfl)) ?_
  intro W base args ds gs before hval hW _ _
  exact contract H enc W base args ds gs before hval hW

theorem andT {a b : Bool} (h : a = true) (k : b = true) : (a && b) = true := by rw [h, k]; rfl
theorem jf0 : (Rows.flatWholeRow.wf (OpenSpec.ofChange Rows.flatWholeSpec)) = true := by kernel_rfl
theorem jf1 : (laidOutB Tryz.prog) = true := by kernel_rfl
theorem jf2 : (mapsRowed Tryz.prog) = true := by kernel_rfl
theorem jf3 : (Tryz.f7.params.all (Tryz.prog.readableRec ·)) = true := by kernel_rfl
theorem jf4 : (namedTie Tryz.prog Rows.flatWholeRow.named Rows.flatWholeSpec.vars) = true := by kernel_rfl
theorem jf5 : ((Rows.flatWholeRow.stops == [])) = true := by kernel_rfl
theorem jf6 : ((Tryz.prog.stops == [])) = true := by kernel_rfl
theorem jf7 : ((Rows.flatWholeRow.knobs == [])) = true := by kernel_rfl
theorem jf8 : ((Tryz.prog.stopKnobs == [])) = true := by kernel_rfl
theorem jf9 : ((Rows.flatWholeRow.inPlace == Tryz.prog.inPlace 7)) = true := by kernel_rfl
theorem jf10 : ((Rows.flatWholeRow.unfollowed == Tryz.prog.unfollowed 7)) = true := by kernel_rfl
theorem jf11 : ((Rows.flatWholeRow.recurses == Tryz.prog.recurses 7)) = true := by kernel_rfl
theorem jf12 : ((Rows.flatWholeRow.named == Tryz.prog.varsNamed 7)) = true := by kernel_rfl
theorem jf13 : ((Rows.flatWholeRow.maps == (Tryz.f7.params.toList ++ Rows.flatWholeSpec.plain.varTypes Tryz.prog).any (Tryz.prog.mapsRec ·))) = true := by kernel_rfl
theorem jf14 : ((Rows.flatWholeRow.ifaces == (Tryz.f7.params.toList ++ Rows.flatWholeSpec.plain.varTypes Tryz.prog).any (Tryz.prog.ifacesRec ·))) = true := by kernel_rfl
theorem jf15 : ((Rows.flatWholeRow.mapsOut == Tryz.prog.mapsAmong Tryz.f7.resultTypes.toList)) = true := by kernel_rfl
theorem jf16 : ((Rows.flatWholeRow.loops == (Tryz.f7.params.toList ++ Rows.flatWholeSpec.plain.varTypes Tryz.prog).any (Tryz.prog.loopsFrom ·))) = true := by kernel_rfl
theorem jf17 : ((Rows.flatWholeRow.wideKeys == (Tryz.f7.params.toList ++ Rows.flatWholeSpec.plain.varTypes Tryz.prog ++ Tryz.f7.resultTypes.toList).any (Tryz.prog.wideKeysFrom ·))) = true := by kernel_rfl
theorem jf18 : (Rows.flatWholeSpec.vars.all (Tryz.prog.varReadable ·)) = true := by kernel_rfl
theorem jf19 : (Tryz.f7.resultTypes.all (fun t => Tryz.prog.readableRec t && decide (t < Tryz.prog.types.size))) = true := by kernel_rfl
theorem jf20 : ((Rows.flatWholeRow.ifacesOut == Tryz.f7.resultTypes.toList.any (Tryz.prog.ifacesRec ·))) = true := by kernel_rfl
theorem jf21 : ((Rows.flatWholeRow.loopsOut == Tryz.f7.resultTypes.toList.any (Tryz.prog.loopsFrom ·))) = true := by kernel_rfl
theorem jf22 : ((Rows.flatWholeRow.plainKeys == Tryz.prog.plainKeys)) = true := by kernel_rfl
theorem jf23 : (Rows.flatWholeRow.shortTexts.isNone) = true := by kernel_rfl
theorem jf24 : (Tryz.prog.stopsHeard) = true := by kernel_rfl
theorem jf25 : (Tryz.prog.mayEnter) = true := by kernel_rfl
theorem jf26 : ((Rows.flatWholeRow.lifted == Tryz.prog.liftsFinal)) = true := by kernel_rfl
theorem jf27 : ((Tryz.prog.make == some Rows.flatWholeRow.make)) = true := by kernel_rfl
theorem jf28 : ((Rows.flatWholeRow.kinds == (if Rows.flatWholeRow.domain.isEmpty then [] else Tryz.f7.params.toList.map fun t => match Tryz.prog.underlying t with | some (.int k) => some k | _ => none))) = true := by kernel_rfl
theorem jf29 : ((Rows.flatWholeRow.pinned == Rows.flatWholeRow.pinnedBy)) = true := by kernel_rfl
theorem jf30 : ((Rows.flatWholeRow.veiled == (Tryz.f7.params.toList ++ Rows.flatWholeSpec.plain.varTypes Tryz.prog ++ Tryz.f7.resultTypes.toList).any (Tryz.prog.veiledRec ·))) = true := by kernel_rfl
theorem jf31 : (Rows.flatWholeRow.veiledFits Tryz.prog Tryz.f7.params.toList (Tryz.f7.params.toList ++ Rows.flatWholeSpec.plain.varTypes Tryz.prog ++ Tryz.f7.resultTypes.toList)) = true := by kernel_rfl
set_option maxRecDepth 100000 in
theorem joined : joinedFacts Tryz.prog 7 Tryz.f7 Rows.flatWholeSpec Rows.flatWholeRow = true := by
  unfold joinedFacts
  exact (andT (andT (andT (andT (andT (andT (andT (andT (andT (andT (andT (andT (andT (andT (andT (andT (andT (andT (andT (andT (andT (andT (andT (andT (andT (andT (andT (andT (andT (andT (andT jf0 jf1) jf2) jf3) jf4) jf5) jf6) jf7) jf8) jf9) jf10) jf11) jf12) jf13) jf14) jf15) jf16) jf17) jf18) jf19) jf20) jf21) jf22) jf23) jf24) jf25) jf26) jf27) jf28) jf29) jf30) jf31)

theorem over : Rows.flatWholeRow.holds Tryz.pinned (OpenSpec.ofChange Rows.flatWholeSpec) :=
  OpenClaim.holds_of_wide 7 Tryz.f7 rfl rfl rfl rfl rfl rfl rfl ⟨rfl, rfl, rfl, rfl, rfl⟩ rfl rfl rfl rfl rfl (by kernel_rfl) Tryz.func7 joined
    (of_decide_eq_true (by kernel_rfl)) (by unfold Func.isWrapper; first | (rw [if_pos (by decide +kernel)]; kernel_rfl) | (rw [if_neg (by decide +kernel)]; exact ⟨rfl, rfl⟩))
    (fun os started H enc _ => lifted os started H enc)

theorem proved : Rows.FlatWholeSaid := over
end Go.Proofs.YtoaboplnnhifpaaGreat.flatWhole
