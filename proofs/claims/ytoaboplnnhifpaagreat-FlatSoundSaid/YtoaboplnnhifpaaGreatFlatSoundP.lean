/- FlatSound: what the machine comes to is Good -/
import Derived.Test.YtoaboplnnhifpaaGreatRows
import Derived.JoinedOf
import Derived.Handed
import Derived.Test.YtoaboplnnhifpaaGreatFlatJ
import Derived.Test.YtoaboplnnhifpaaGreatReadsT
import Derived.Test.YtoaboplnnhifpaaGreatReadsU
import Derived.Test.YtoaboplnnhifpaaGreatOrcsOk
import Derived.Test.YtoaboplnnhifpaaGreatBridge
set_option linter.all false
namespace Go.Proofs.YtoaboplnnhifpaaGreat.flatSound
open Go.ChangeShapes Go.WideShapes Go.ChangeAt Go.RowKit Go.Deep Go.Sim

theorem own : ownKnob Tryz.prog.godebug = none := by kernel_rfl
theorem mixed : Tryz.prog.follows .mixedOrders = true := by kernel_rfl
theorem laid : laidOutB Tryz.prog = true := by kernel_rfl

set_option maxRecDepth 100000 in
/-- What the run gives, for every argument. -/
theorem contract (H : Type) (enc : TypeId × Value → H) (W : World) (base : Nat) (args : Array Value) (ds gs : List (DataW H)) (before : List MemPlace)
    (hval : ∀ (j : Nat) t v, Tryz.f6.params[j]? = some t → args[j]? = some v → Value.okWide Tryz.prog W .any base t v)
    (hW : DataW.Whole enc Tryz.prog Tryz.f6.params.toList Rows.flatSoundSpec.vars false W args.toList ds gs before) :
    Calls Tryz.prog 6 args W fun e W' => ∃ v, e = .returned v ∧ Rows.flatSoundSpec.post enc Tryz.prog Tryz.f6 false true false false W args v W' := by
  have hW' := hW
  obtain ⟨p, q, hA0, hV, rfl, hfz, hnd⟩ := hW
  have hA : DataW.TrodAll enc Tryz.prog W 0 (fun _ => true) true Tryz.f6.params.toList args.toList ds p := hA0
  rw [Tryz.params6] at hA hval
  obtain ⟨v0, v1, v2, d0, d1, d2, p0, p1, p2, rfl, rfl, rfl, ⟨n0, h0⟩, ⟨n1, h1⟩, ⟨n2, h2⟩⟩ := trodAll_three hA
  obtain ⟨cs, rfl, _⟩ := okWide_struct Tryz.underlying25 (hval 0 25 v0 rfl rfl)
  obtain ⟨n, rfl⟩ := okWide_int Tryz.underlying26 (hval 1 26 v1 rfl rfl)
  obtain ⟨_, _, _, rfl⟩ := okWide_slice Tryz.underlying27 (hval 2 27 v2 rfl rfl)
  obtain ⟨pk, hpk⟩ := reads_pk _ _ _ _ _ _ _ _ _ h2
  obtain ⟨u2, e2, r2⟩ := one_cells hpk
  simp only [Value.cells, List.cons.injEq, and_true] at e2
  rw [← e2] at r2
  obtain ⟨x, hx⟩ := reads_te _ _ _ _ _ _ _ _ _ h0
  obtain ⟨n', hn', _, hw⟩ := DataW.trod_int Tryz.underlying26 h1
  have hnn : n' = n := by simpa [Value.cells] using hn'.symm
  subst hnn
  have hn : 0 ≤ n' ∧ n' ≤ 65535 := by simpa [Lit.wf, IntKind.min, IntKind.max, IntKind.signed, IntKind.bits] using hw
  have r0 : RT W (old W) (Enc.enc x) (.agg cs) := RT.agg _ cs.toList hx.1 hx.2
  refine law_calls orcOk mixed laid (tb := 4) rfl ⟨rfl, rfl, rfl⟩ ?_ (by kernel_rfl) Tryz.underlying4 hW' (ts := [Enc.enc x, .int .u16 n', Enc.enc pk]) rfl ?_ (flatSound_run x ⟨hn.1, by omega⟩ pk)
  · intro t ht
    rw [Tryz.params6] at ht
    simp only [List.mem_cons, List.not_mem_nil, or_false] at ht
    rcases ht with rfl | rfl | rfl
    · exact can25
    · exact can26
    · exact can27
  · intro i k1 k2
    match i, k1, k2 with
    | 0, _, _ => exact r0
    | 1, _, _ => exact RT.int _ _
    | 2, _, _ => exact r2
    | n + 3, k1, _ => exact absurd k1 (by simp)

set_option maxRecDepth 100000 in
theorem lifted (os : Os) (started : os.Started) (H : Type) (enc : TypeId × Value → H) :
    ReturnsInHanded Rows.flatSoundRow.assume Tryz.checked os 6 .any (Rows.flatSoundRow.pre enc Tryz.prog Tryz.f6 (OpenSpec.ofChange Rows.flatSoundSpec)) (Rows.flatSoundSpec.post enc Tryz.prog Tryz.f6 false true false false) := by
  refine returnsInHanded_of_change (C := Tryz.checked) (s := Rows.flatSoundSpec) own started (by kernel_rfl) Tryz.func6
    (ChangeSpec.witness6 (enc := enc) (C := Tryz.checked) (s := Rows.flatSoundSpec) false ⟨#[], #[.agg #[.slice none 0 0, .slice none 0 0], .int .u16 0, .slice none 0 0], []⟩ 8 (by kernel_rfl) (by kernel_rfl) (by kernel_rfl) (by kernel_rfl)) ?_
  intro W base args ds gs before hval hW _ _
  exact contract H enc W base args ds gs before hval hW

theorem andT {a b : Bool} (h : a = true) (k : b = true) : (a && b) = true := by rw [h, k]; rfl
theorem jf0 : (Rows.flatSoundRow.wf (OpenSpec.ofChange Rows.flatSoundSpec)) = true := by kernel_rfl
theorem jf1 : (laidOutB Tryz.prog) = true := by kernel_rfl
theorem jf2 : (mapsRowed Tryz.prog) = true := by kernel_rfl
theorem jf3 : (Tryz.f6.params.all (Tryz.prog.readableRec ·)) = true := by kernel_rfl
theorem jf4 : (namedTie Tryz.prog Rows.flatSoundRow.named Rows.flatSoundSpec.vars) = true := by kernel_rfl
theorem jf5 : ((Rows.flatSoundRow.stops == [])) = true := by kernel_rfl
theorem jf6 : ((Tryz.prog.stops == [])) = true := by kernel_rfl
theorem jf7 : ((Rows.flatSoundRow.knobs == [])) = true := by kernel_rfl
theorem jf8 : ((Tryz.prog.stopKnobs == [])) = true := by kernel_rfl
theorem jf9 : ((Rows.flatSoundRow.inPlace == Tryz.prog.inPlace 6)) = true := by kernel_rfl
theorem jf10 : ((Rows.flatSoundRow.unfollowed == Tryz.prog.unfollowed 6)) = true := by kernel_rfl
theorem jf11 : ((Rows.flatSoundRow.recurses == Tryz.prog.recurses 6)) = true := by kernel_rfl
theorem jf12 : ((Rows.flatSoundRow.named == Tryz.prog.varsNamed 6)) = true := by kernel_rfl
theorem jf13 : ((Rows.flatSoundRow.maps == (Tryz.f6.params.toList ++ Rows.flatSoundSpec.plain.varTypes Tryz.prog).any (Tryz.prog.mapsRec ·))) = true := by kernel_rfl
theorem jf14 : ((Rows.flatSoundRow.ifaces == (Tryz.f6.params.toList ++ Rows.flatSoundSpec.plain.varTypes Tryz.prog).any (Tryz.prog.ifacesRec ·))) = true := by kernel_rfl
theorem jf15 : ((Rows.flatSoundRow.mapsOut == Tryz.prog.mapsAmong Tryz.f6.resultTypes.toList)) = true := by kernel_rfl
theorem jf16 : ((Rows.flatSoundRow.loops == (Tryz.f6.params.toList ++ Rows.flatSoundSpec.plain.varTypes Tryz.prog).any (Tryz.prog.loopsFrom ·))) = true := by kernel_rfl
theorem jf17 : ((Rows.flatSoundRow.wideKeys == (Tryz.f6.params.toList ++ Rows.flatSoundSpec.plain.varTypes Tryz.prog ++ Tryz.f6.resultTypes.toList).any (Tryz.prog.wideKeysFrom ·))) = true := by kernel_rfl
theorem jf18 : (Rows.flatSoundSpec.vars.all (Tryz.prog.varReadable ·)) = true := by kernel_rfl
theorem jf19 : (Tryz.f6.resultTypes.all (fun t => Tryz.prog.readableRec t && decide (t < Tryz.prog.types.size))) = true := by kernel_rfl
theorem jf20 : ((Rows.flatSoundRow.ifacesOut == Tryz.f6.resultTypes.toList.any (Tryz.prog.ifacesRec ·))) = true := by kernel_rfl
theorem jf21 : ((Rows.flatSoundRow.loopsOut == Tryz.f6.resultTypes.toList.any (Tryz.prog.loopsFrom ·))) = true := by kernel_rfl
theorem jf22 : ((Rows.flatSoundRow.plainKeys == Tryz.prog.plainKeys)) = true := by kernel_rfl
theorem jf23 : (Rows.flatSoundRow.shortTexts.isNone) = true := by kernel_rfl
theorem jf24 : (Tryz.prog.stopsHeard) = true := by kernel_rfl
theorem jf25 : (Tryz.prog.mayEnter) = true := by kernel_rfl
theorem jf26 : ((Rows.flatSoundRow.lifted == Tryz.prog.liftsFinal)) = true := by kernel_rfl
theorem jf27 : ((Tryz.prog.make == some Rows.flatSoundRow.make)) = true := by kernel_rfl
theorem jf28 : ((Rows.flatSoundRow.kinds == (if Rows.flatSoundRow.domain.isEmpty then [] else Tryz.f6.params.toList.map fun t => match Tryz.prog.underlying t with | some (.int k) => some k | _ => none))) = true := by kernel_rfl
theorem jf29 : ((Rows.flatSoundRow.pinned == Rows.flatSoundRow.pinnedBy)) = true := by kernel_rfl
theorem jf30 : ((Rows.flatSoundRow.veiled == (Tryz.f6.params.toList ++ Rows.flatSoundSpec.plain.varTypes Tryz.prog ++ Tryz.f6.resultTypes.toList).any (Tryz.prog.veiledRec ·))) = true := by kernel_rfl
theorem jf31 : (Rows.flatSoundRow.veiledFits Tryz.prog Tryz.f6.params.toList (Tryz.f6.params.toList ++ Rows.flatSoundSpec.plain.varTypes Tryz.prog ++ Tryz.f6.resultTypes.toList)) = true := by kernel_rfl
set_option maxRecDepth 100000 in
theorem joined : joinedFacts Tryz.prog 6 Tryz.f6 Rows.flatSoundSpec Rows.flatSoundRow = true := by
  unfold joinedFacts
  exact (andT (andT (andT (andT (andT (andT (andT (andT (andT (andT (andT (andT (andT (andT (andT (andT (andT (andT (andT (andT (andT (andT (andT (andT (andT (andT (andT (andT (andT (andT (andT jf0 jf1) jf2) jf3) jf4) jf5) jf6) jf7) jf8) jf9) jf10) jf11) jf12) jf13) jf14) jf15) jf16) jf17) jf18) jf19) jf20) jf21) jf22) jf23) jf24) jf25) jf26) jf27) jf28) jf29) jf30) jf31)

theorem over : Rows.flatSoundRow.holds Tryz.pinned (OpenSpec.ofChange Rows.flatSoundSpec) :=
  OpenClaim.holds_of_wide 6 Tryz.f6 rfl rfl rfl rfl rfl rfl rfl ⟨rfl, rfl, rfl, rfl, rfl⟩ rfl rfl rfl rfl rfl (by kernel_rfl) Tryz.func6 joined
    (of_decide_eq_true (by kernel_rfl)) (by unfold Func.isWrapper; first | (rw [if_pos (by decide +kernel)]; kernel_rfl) | (rw [if_neg (by decide +kernel)]; exact ⟨rfl, rfl⟩))
    (fun os started H enc _ => lifted os started H enc)

theorem proved : Rows.FlatSoundSaid := over
end Go.Proofs.YtoaboplnnhifpaaGreat.flatSound
