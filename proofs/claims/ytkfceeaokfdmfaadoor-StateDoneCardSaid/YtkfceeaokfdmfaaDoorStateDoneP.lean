/- StateDone: code and order hang on what is done, whence was read, and rows; with one bit more done a state is behind: for every input. -/
import Derived.Test.YtkfceeaokfdmfaaDoorRows
import Derived.Test.YtkfceeaokfdmfaaDoorCards
import Derived.Test.YtkfceeaokfdmfaaDoorTie
import Derived.JoinedOf
import Derived.Handed
import Derived.LaidMore
import Derived.Stop.Joined
import Derived.SevenTiedAt
import Derived.Stop.LaidErr
import Derived.Test.YtkfceeaokfdmfaaDoorStN
import Derived.Test.YtkfceeaokfdmfaaDoorReadsS
import Derived.Test.YtkfceeaokfdmfaaDoorOrcsOk
import Derived.Test.YtkfceeaokfdmfaaDoorBridge
set_option linter.all false
namespace Go.Proofs.YtkfceeaokfdmfaaDoor.stateDone
open Go.ChangeShapes Go.WideShapes Go.ChangeAt Go.RowKit Go.Deep Go.Sim

theorem own : ownKnob Tryd.prog.godebug = none := by kernel_rfl
theorem mixed : Tryd.prog.follows .mixedOrders = true := by kernel_rfl
theorem laid : laidOutB Tryd.prog = true := by kernel_rfl
abbrev L := Rows.stateDoneRow.laid
theorem door_met (os : Os) (args : Array Value) : laidMetH Tryd.prog L ((World.doorLaid Tryd.prog 400 os).forCall (fun _ _ => 0) ⟨#[], args, []⟩).memory :=
  laidMetH_of_parts3 (fuel := 8) (laidMet_of_run' 8 (by kernel_rfl) (by kernel_rfl)) (by kernel_rfl) (by kernel_rfl)
theorem gTab : Tryd.prog.globalNamed "internal/strconv.uint64pow10" = some 0 := by kernel_rfl
theorem tabs {W : World} (h : laidMetH Tryd.prog L W) : @TabOk ⟨W, old W⟩ := by
  rw [MakeChecks.laidMetH_plain _ _ _ (by kernel_rfl)] at h
  have h2 := Go.laidMet.tail (Go.laidMet.tail h)
  have hT := Lib.tabIs_of_head (zs := Go.Lib.pow10Tab) gTab (by kernel_rfl) Tryd.underlying172 Tryd.underlying67 (by kernel_rfl) (by kernel_rfl) h2
  intro w S hs
  exact var_stays hs (by decide) hT

set_option maxRecDepth 100000 in
/-- What the run gives, for every argument. -/
theorem contract (H : Type) (enc : TypeId × Value → H) (W : World) (base : Nat) (args : Array Value) (ds gs : List (DataW H)) (before : List MemPlace)
    (hval : ∀ (j : Nat) t v, Tryd.f5.params[j]? = some t → args[j]? = some v → Value.okWide Tryd.prog W .any base t v)
    (hW : DataW.Whole enc Tryd.prog Tryd.f5.params.toList Rows.stateDoneSpec.vars false W args.toList ds gs before) (hL : laidMetH Tryd.prog L W) :
    Calls Tryd.prog 5 args W fun e W' => ∃ v, e = .returned v ∧ Rows.stateDoneSpec.post enc Tryd.prog Tryd.f5 false true false false W args v W' := by
  have hW' := hW
  obtain ⟨p, q, hA0, hV, rfl, hfz, hnd⟩ := hW
  have hA : DataW.TrodAll enc Tryd.prog W 0 (fun _ => true) true Tryd.f5.params.toList args.toList ds p := hA0
  rw [Tryd.params5] at hA hval
  obtain ⟨v0, v1, d0, d1, p0, p1, rfl, rfl, rfl, ⟨n0, h0⟩, ⟨n1, h1⟩⟩ := trodAll_two hA
  obtain ⟨c0, rfl, _⟩ := okWide_struct Tryd.underlying26 (hval 0 26 v0 rfl rfl)
  obtain ⟨x0, wx0, hx0⟩ := read_fs h0
  have r0 : RT W (old W) (Enc.enc x0) (.agg c0) := RT.agg _ c0.toList hx0.1 hx0.2
  obtain ⟨m1, rfl⟩ := okWide_int Tryd.underlying5 (hval 1 5 v1 rfl rfl)
  obtain ⟨k1, e1, _, w1⟩ := DataW.trod_int Tryd.underlying5 h1
  have q1 : k1 = m1 := by simpa [Value.cells] using e1.symm
  subst q1
  have b1 : 0 ≤ k1 ∧ k1 ≤ 255 := by simpa [Lit.wf, IntKind.min, IntKind.max, IntKind.signed, IntKind.bits] using w1
  refine law_calls mixed laid (tb := 4) (@orcOk ⟨W, old W⟩ (tabs hL)) rfl ⟨rfl, rfl, rfl⟩ ?_ (by kernel_rfl) Tryd.underlying4 hW' (ts := [Enc.enc x0, .int .u8 k1]) rfl ?_ (stateDone_run x0 wx0 k1 b1.1 b1.2)
  · intro t ht
    rw [Tryd.params5] at ht
    simp only [List.mem_cons, List.not_mem_nil, or_false] at ht
    rcases ht with rfl | rfl
    · exact can26
    · exact can5
  · intro i k1 k2
    match i, k1, k2 with
    | 0, _, _ => exact r0
    | 1, _, _ => exact RT.int _ _
    | n + 2, k1, _ => exact absurd k1 (by simp)

set_option maxRecDepth 100000 in
theorem lifted (os : Os) (started : os.Started) (H : Type) (enc : TypeId × Value → H) :
    ReturnsInHanded Rows.stateDoneRow.assume Tryd.checked os 5 .any (fun w args => (Rows.stateDoneSpec.pre enc Tryd.prog Tryd.f5 [] false w args ∧ laidMetH Tryd.prog L w) ∧ sizedMet enc Tryd.prog Tryd.f5 (OpenSpec.ofChange Rows.stateDoneSpec) false w args)
      (Rows.stateDoneSpec.post enc Tryd.prog Tryd.f5 false true false false) := by
  refine returnsInHanded_of_change_and (C := Tryd.checked) (X := fun w _ => laidMetH Tryd.prog L w) (fun _ _ _ hh h => h.of_heap hh) own started (by kernel_rfl) Tryd.func5
    (ChangeSpec.witness_shaped (enc := enc) (C := Tryd.checked) (os := os) (X := fun w _ => laidMetH Tryd.prog L w) false (World.doorLaid Tryd.prog 400 os) #[.agg #[.int .u32 0, .slice none 0 0, .slice none 0 0], .int .u8 0] 8 rfl (World.shaped_of_RefB (by kernel_rfl) (by kernel_rfl)) (by kernel_rfl) (by kernel_rfl) (by kernel_rfl) (door_met os _)) ?_
  intro W base args ds gs before hval hW _ _ hL _
  exact contract H enc W base args ds gs before hval hW hL

theorem andT {a b : Bool} (h : a = true) (k : b = true) : (a && b) = true := by rw [h, k]; rfl
theorem jf0 : (Rows.stateDoneRow.wf (OpenSpec.ofChange Rows.stateDoneSpec)) = true := by kernel_rfl
theorem jf1 : (laidOutB Tryd.prog) = true := by kernel_rfl
theorem jf2 : (mapsRowed Tryd.prog) = true := by kernel_rfl
theorem jf3 : (Tryd.f5.params.all (Tryd.prog.readableRec ·)) = true := by kernel_rfl
theorem jf4 : (namedTie Tryd.prog Rows.stateDoneRow.named Rows.stateDoneSpec.vars) = true := by kernel_rfl
theorem jf5 : ((Rows.stateDoneRow.stops == [])) = true := by kernel_rfl
theorem jf6 : ((Tryd.prog.stops == [])) = true := by kernel_rfl
theorem jf7 : ((Rows.stateDoneRow.knobs == [])) = true := by kernel_rfl
theorem jf8 : ((Tryd.prog.stopKnobs == [])) = true := by kernel_rfl
theorem jf9 : ((Rows.stateDoneRow.inPlace == Tryd.prog.inPlace 5)) = true := by kernel_rfl
theorem jf10 : ((Rows.stateDoneRow.unfollowed == Tryd.prog.unfollowed 5)) = true := by kernel_rfl
theorem jf11 : ((Rows.stateDoneRow.recurses == Tryd.prog.recurses 5)) = true := by kernel_rfl
theorem jf12 : ((Rows.stateDoneRow.named == Tryd.prog.varsNamed 5)) = true := by kernel_rfl
theorem jf13 : ((Rows.stateDoneRow.maps == (Tryd.f5.params.toList ++ Rows.stateDoneSpec.plain.varTypes Tryd.prog).any (Tryd.prog.mapsRec ·))) = true := by kernel_rfl
theorem jf14 : ((Rows.stateDoneRow.ifaces == (Tryd.f5.params.toList ++ Rows.stateDoneSpec.plain.varTypes Tryd.prog).any (Tryd.prog.ifacesRec ·))) = true := by kernel_rfl
theorem jf15 : ((Rows.stateDoneRow.mapsOut == Tryd.prog.mapsAmong Tryd.f5.resultTypes.toList)) = true := by kernel_rfl
theorem jf16 : ((Rows.stateDoneRow.loops == (Tryd.f5.params.toList ++ Rows.stateDoneSpec.plain.varTypes Tryd.prog).any (Tryd.prog.loopsFrom ·))) = true := by kernel_rfl
theorem jf17 : ((Rows.stateDoneRow.wideKeys == (Tryd.f5.params.toList ++ Rows.stateDoneSpec.plain.varTypes Tryd.prog ++ Tryd.f5.resultTypes.toList).any (Tryd.prog.wideKeysFrom ·))) = true := by kernel_rfl
theorem jf18 : (Rows.stateDoneSpec.vars.all (Tryd.prog.varReadable ·)) = true := by kernel_rfl
theorem jf19 : (Tryd.f5.resultTypes.all (fun t => Tryd.prog.readableRec t && decide (t < Tryd.prog.types.size))) = true := by kernel_rfl
theorem jf20 : ((Rows.stateDoneRow.ifacesOut == Tryd.f5.resultTypes.toList.any (Tryd.prog.ifacesRec ·))) = true := by kernel_rfl
theorem jf21 : ((Rows.stateDoneRow.loopsOut == Tryd.f5.resultTypes.toList.any (Tryd.prog.loopsFrom ·))) = true := by kernel_rfl
theorem jf22 : ((Rows.stateDoneRow.plainKeys == Tryd.prog.plainKeys)) = true := by kernel_rfl
theorem jf23 : (Rows.stateDoneRow.shortTexts.isNone) = true := by kernel_rfl
theorem jf24 : (Tryd.prog.stopsHeard) = true := by kernel_rfl
theorem jf25 : (Tryd.prog.mayEnter) = true := by kernel_rfl
theorem jf26 : ((Rows.stateDoneRow.lifted == Tryd.prog.liftsFinal)) = true := by kernel_rfl
theorem jf27 : ((Tryd.prog.make == some Rows.stateDoneRow.make)) = true := by kernel_rfl
theorem jf28 : ((Rows.stateDoneRow.kinds == (if Rows.stateDoneRow.domain.isEmpty then [] else Tryd.f5.params.toList.map fun t => match Tryd.prog.underlying t with | some (.int k) => some k | _ => none))) = true := by kernel_rfl
theorem jf29 : ((Rows.stateDoneRow.pinned == Rows.stateDoneRow.pinnedBy)) = true := by kernel_rfl
theorem jf30 : ((Rows.stateDoneRow.veiled == (Tryd.f5.params.toList ++ Rows.stateDoneSpec.plain.varTypes Tryd.prog ++ Tryd.f5.resultTypes.toList).any (Tryd.prog.veiledRec ·))) = true := by kernel_rfl
theorem jf31 : (Rows.stateDoneRow.veiledFits Tryd.prog Tryd.f5.params.toList (Tryd.f5.params.toList ++ Rows.stateDoneSpec.plain.varTypes Tryd.prog ++ Tryd.f5.resultTypes.toList)) = true := by kernel_rfl
set_option maxRecDepth 100000 in
theorem joined : joinedFacts Tryd.prog 5 Tryd.f5 Rows.stateDoneSpec Rows.stateDoneRow = true := by
  unfold joinedFacts
  exact (andT (andT (andT (andT (andT (andT (andT (andT (andT (andT (andT (andT (andT (andT (andT (andT (andT (andT (andT (andT (andT (andT (andT (andT (andT (andT (andT (andT (andT (andT (andT jf0 jf1) jf2) jf3) jf4) jf5) jf6) jf7) jf8) jf9) jf10) jf11) jf12) jf13) jf14) jf15) jf16) jf17) jf18) jf19) jf20) jf21) jf22) jf23) jf24) jf25) jf26) jf27) jf28) jf29) jf30) jf31)

theorem over : Rows.stateDoneRow.holds Tryd.pinned (OpenSpec.ofChange Rows.stateDoneSpec) :=
  OpenClaim.holds_of_wide 5 Tryd.f5 rfl rfl rfl rfl rfl rfl rfl ⟨rfl, rfl, rfl, rfl, rfl⟩ rfl rfl rfl rfl rfl (by kernel_rfl) Tryd.func5 joined
    (of_decide_eq_true (by kernel_rfl)) (by unfold Func.isWrapper; first | (rw [if_pos (by decide +kernel)]; kernel_rfl) | (rw [if_neg (by decide +kernel)]; exact ⟨rfl, rfl⟩))
    (fun os started H enc _ => lifted os started H enc)

theorem proved : Rows.StateDoneCardSaid :=
  Claim7.holds_tied_plain_at .later [] [.data, .data, .data] true (true, "dac14d0c4976cdcfc2b6a59c8e79b3722fb2cf1d04b9a7da2ffc1d0b34e9b43f") true
    over (fun _ h => by cases h) (by kernel_rfl) (fun _ h => by cases h) stateDone_row_tie rfl ⟨rfl, rfl⟩ (by kernel_rfl) rfl
    (fun f fn hf hfn => by
      obtain rfl : f = 5 := Option.some.inj ((show Tryd.prog.funcNamed "cupola/cupolalaw20.StateDone" = some 5 by kernel_rfl).symm.trans hf) |>.symm
      obtain rfl : fn = Tryd.f5 := (Option.some.inj (Tryd.func5.symm.trans hfn)).symm
      exact ⟨by kernel_rfl, fun j t ht => by
        rw [Tryd.params5] at ht
        have hm : t ∈ [26, 5] := by simpa using Array.mem_of_getElem? ht
        have hall : ([26, 5].all fun u => !Tryd.prog.wantsStandIn u) = true := by kernel_rfl
        exact (show Tryd.prog.wantsStandIn t = false by simpa using List.all_eq_true.1 hall t hm)⟩)
    (by kernel_rfl)
end Go.Proofs.YtkfceeaokfdmfaaDoor.stateDone
