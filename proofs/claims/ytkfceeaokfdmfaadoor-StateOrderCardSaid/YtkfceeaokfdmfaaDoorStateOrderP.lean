/- StateOrder: two states have the same code just if they are the same; of two that are not just one is first: for every input. -/
import Derived.Test.YtkfceeaokfdmfaaDoorRows
import Derived.Test.YtkfceeaokfdmfaaDoorCards
import Derived.Test.YtkfceeaokfdmfaaDoorTie
import Derived.JoinedOf
import Derived.Handed
import Derived.LaidMore
import Derived.Stop.Joined
import Derived.SevenTiedAt
import Derived.Stop.LaidErr
import Derived.Test.YtkfceeaokfdmfaaDoorStM
import Derived.Test.YtkfceeaokfdmfaaDoorReadsS
import Derived.Test.YtkfceeaokfdmfaaDoorOrcsOk
import Derived.Test.YtkfceeaokfdmfaaDoorBridge
set_option linter.all false
namespace Go.Proofs.YtkfceeaokfdmfaaDoor.stateOrder
open Go.ChangeShapes Go.WideShapes Go.ChangeAt Go.RowKit Go.Deep Go.Sim

theorem own : ownKnob Tryd.prog.godebug = none := by kernel_rfl
theorem mixed : Tryd.prog.follows .mixedOrders = true := by kernel_rfl
theorem laid : laidOutB Tryd.prog = true := by kernel_rfl
abbrev L := Rows.stateOrderRow.laid
theorem door_met (os : Os) (args : Array Value) : laidMetH Tryd.prog L ((World.doorLaid Tryd.prog 400 os).forCall (fun _ _ => 0) ⟨#[], args, []⟩).memory :=
  laidMetH_of_parts3 (fuel := 8) (laidMet_of_run' 8 (by kernel_rfl) (by kernel_rfl)) (by kernel_rfl) (by kernel_rfl)
theorem gTab : Tryd.prog.globalNamed "internal/strconv.uint64pow10" = some 0 := by kernel_rfl
theorem tabs {W : World} (h : laidMetH Tryd.prog L W) : @TabOk ⟨W, old W⟩ := by
  rw [MakeChecks.laidMetH_plain _ _ _ (by kernel_rfl)] at h
  have h2 := Go.laidMet.tail (Go.laidMet.tail h)
  have hT := Lib.tabIs_of_head (zs := Go.Lib.pow10Tab) gTab (by kernel_rfl) Tryd.underlying172 Tryd.underlying67 (by kernel_rfl) (by kernel_rfl) h2
  intro w S hs
  exact var_stays hs (by decide) hT

set_option maxRecDepth 100000 in
/-- What the run gives, for every argument. -/
theorem contract (H : Type) (enc : TypeId × Value → H) (W : World) (base : Nat) (args : Array Value) (ds gs : List (DataW H)) (before : List MemPlace)
    (hval : ∀ (j : Nat) t v, Tryd.f4.params[j]? = some t → args[j]? = some v → Value.okWide Tryd.prog W .any base t v)
    (hW : DataW.Whole enc Tryd.prog Tryd.f4.params.toList Rows.stateOrderSpec.vars false W args.toList ds gs before) (hL : laidMetH Tryd.prog L W) :
    Calls Tryd.prog 4 args W fun e W' => ∃ v, e = .returned v ∧ Rows.stateOrderSpec.post enc Tryd.prog Tryd.f4 false true false false W args v W' := by
  have hW' := hW
  obtain ⟨p, q, hA0, hV, rfl, hfz, hnd⟩ := hW
  have hA : DataW.TrodAll enc Tryd.prog W 0 (fun _ => true) true Tryd.f4.params.toList args.toList ds p := hA0
  rw [Tryd.params4] at hA hval
  obtain ⟨v0, v1, v2, d0, d1, d2, p0, p1, p2, rfl, rfl, rfl, ⟨n0, h0⟩, ⟨n1, h1⟩, ⟨n2, h2⟩⟩ := trodAll_three hA
  obtain ⟨c0, rfl, _⟩ := okWide_struct Tryd.underlying26 (hval 0 26 v0 rfl rfl)
  obtain ⟨x0, wx0, hx0⟩ := read_fs h0
  have r0 : RT W (old W) (Enc.enc x0) (.agg c0) := RT.agg _ c0.toList hx0.1 hx0.2
  obtain ⟨c1, rfl, _⟩ := okWide_struct Tryd.underlying26 (hval 1 26 v1 rfl rfl)
  obtain ⟨x1, wx1, hx1⟩ := read_fs h1
  have r1 : RT W (old W) (Enc.enc x1) (.agg c1) := RT.agg _ c1.toList hx1.1 hx1.2
  obtain ⟨c2, rfl, _⟩ := okWide_struct Tryd.underlying26 (hval 2 26 v2 rfl rfl)
  obtain ⟨x2, wx2, hx2⟩ := read_fs h2
  have r2 : RT W (old W) (Enc.enc x2) (.agg c2) := RT.agg _ c2.toList hx2.1 hx2.2
  refine law_calls mixed laid (tb := 4) (@orcOk ⟨W, old W⟩ (tabs hL)) rfl ⟨rfl, rfl, rfl⟩ ?_ (by kernel_rfl) Tryd.underlying4 hW' (ts := [Enc.enc x0, Enc.enc x1, Enc.enc x2]) rfl ?_ (stateOrder_run x0 x1 x2 wx0 wx1 wx2)
  · intro t ht
    rw [Tryd.params4] at ht
    simp only [List.mem_cons, List.not_mem_nil, or_false] at ht
    rcases ht with rfl | rfl | rfl
    · exact can26
    · exact can26
    · exact can26
  · intro i k1 k2
    match i, k1, k2 with
    | 0, _, _ => exact r0
    | 1, _, _ => exact r1
    | 2, _, _ => exact r2
    | n + 3, k1, _ => exact absurd k1 (by simp)

set_option maxRecDepth 100000 in
theorem lifted (os : Os) (started : os.Started) (H : Type) (enc : TypeId × Value → H) :
    ReturnsInHanded Rows.stateOrderRow.assume Tryd.checked os 4 .any (fun w args => (Rows.stateOrderSpec.pre enc Tryd.prog Tryd.f4 [] false w args ∧ laidMetH Tryd.prog L w) ∧ sizedMet enc Tryd.prog Tryd.f4 (OpenSpec.ofChange Rows.stateOrderSpec) false w args)
      (Rows.stateOrderSpec.post enc Tryd.prog Tryd.f4 false true false false) := by
  refine returnsInHanded_of_change_and (C := Tryd.checked) (X := fun w _ => laidMetH Tryd.prog L w) (fun _ _ _ hh h => h.of_heap hh) own started (by kernel_rfl) Tryd.func4
    (ChangeSpec.witness_shaped (enc := enc) (C := Tryd.checked) (os := os) (X := fun w _ => laidMetH Tryd.prog L w) false (World.doorLaid Tryd.prog 400 os) #[.agg #[.int .u32 0, .slice none 0 0, .slice none 0 0], .agg #[.int .u32 0, .slice none 0 0, .slice none 0 0], .agg #[.int .u32 0, .slice none 0 0, .slice none 0 0]] 8 rfl (World.shaped_of_RefB (by kernel_rfl) (by kernel_rfl)) (by kernel_rfl) (by kernel_rfl) (by kernel_rfl) (door_met os _)) ?_
  intro W base args ds gs before hval hW _ _ hL _
  exact contract H enc W base args ds gs before hval hW hL

theorem andT {a b : Bool} (h : a = true) (k : b = true) : (a && b) = true := by rw [h, k]; rfl
theorem jf0 : (Rows.stateOrderRow.wf (OpenSpec.ofChange Rows.stateOrderSpec)) = true := by kernel_rfl
theorem jf1 : (laidOutB Tryd.prog) = true := by kernel_rfl
theorem jf2 : (mapsRowed Tryd.prog) = true := by kernel_rfl
theorem jf3 : (Tryd.f4.params.all (Tryd.prog.readableRec ·)) = true := by kernel_rfl
theorem jf4 : (namedTie Tryd.prog Rows.stateOrderRow.named Rows.stateOrderSpec.vars) = true := by kernel_rfl
theorem jf5 : ((Rows.stateOrderRow.stops == [])) = true := by kernel_rfl
theorem jf6 : ((Tryd.prog.stops == [])) = true := by kernel_rfl
theorem jf7 : ((Rows.stateOrderRow.knobs == [])) = true := by kernel_rfl
theorem jf8 : ((Tryd.prog.stopKnobs == [])) = true := by kernel_rfl
theorem jf9 : ((Rows.stateOrderRow.inPlace == Tryd.prog.inPlace 4)) = true := by kernel_rfl
theorem jf10 : ((Rows.stateOrderRow.unfollowed == Tryd.prog.unfollowed 4)) = true := by kernel_rfl
theorem jf11 : ((Rows.stateOrderRow.recurses == Tryd.prog.recurses 4)) = true := by kernel_rfl
theorem jf12 : ((Rows.stateOrderRow.named == Tryd.prog.varsNamed 4)) = true := by kernel_rfl
theorem jf13 : ((Rows.stateOrderRow.maps == (Tryd.f4.params.toList ++ Rows.stateOrderSpec.plain.varTypes Tryd.prog).any (Tryd.prog.mapsRec ·))) = true := by kernel_rfl
theorem jf14 : ((Rows.stateOrderRow.ifaces == (Tryd.f4.params.toList ++ Rows.stateOrderSpec.plain.varTypes Tryd.prog).any (Tryd.prog.ifacesRec ·))) = true := by kernel_rfl
theorem jf15 : ((Rows.stateOrderRow.mapsOut == Tryd.prog.mapsAmong Tryd.f4.resultTypes.toList)) = true := by kernel_rfl
theorem jf16 : ((Rows.stateOrderRow.loops == (Tryd.f4.params.toList ++ Rows.stateOrderSpec.plain.varTypes Tryd.prog).any (Tryd.prog.loopsFrom ·))) = true := by kernel_rfl
theorem jf17 : ((Rows.stateOrderRow.wideKeys == (Tryd.f4.params.toList ++ Rows.stateOrderSpec.plain.varTypes Tryd.prog ++ Tryd.f4.resultTypes.toList).any (Tryd.prog.wideKeysFrom ·))) = true := by kernel_rfl
theorem jf18 : (Rows.stateOrderSpec.vars.all (Tryd.prog.varReadable ·)) = true := by kernel_rfl
theorem jf19 : (Tryd.f4.resultTypes.all (fun t => Tryd.prog.readableRec t && decide (t < Tryd.prog.types.size))) = true := by kernel_rfl
theorem jf20 : ((Rows.stateOrderRow.ifacesOut == Tryd.f4.resultTypes.toList.any (Tryd.prog.ifacesRec ·))) = true := by kernel_rfl
theorem jf21 : ((Rows.stateOrderRow.loopsOut == Tryd.f4.resultTypes.toList.any (Tryd.prog.loopsFrom ·))) = true := by kernel_rfl
theorem jf22 : ((Rows.stateOrderRow.plainKeys == Tryd.prog.plainKeys)) = true := by kernel_rfl
theorem jf23 : (Rows.stateOrderRow.shortTexts.isNone) = true := by kernel_rfl
theorem jf24 : (Tryd.prog.stopsHeard) = true := by kernel_rfl
theorem jf25 : (Tryd.prog.mayEnter) = true := by kernel_rfl
theorem jf26 : ((Rows.stateOrderRow.lifted == Tryd.prog.liftsFinal)) = true := by kernel_rfl
theorem jf27 : ((Tryd.prog.make == some Rows.stateOrderRow.make)) = true := by kernel_rfl
theorem jf28 : ((Rows.stateOrderRow.kinds == (if Rows.stateOrderRow.domain.isEmpty then [] else Tryd.f4.params.toList.map fun t => match Tryd.prog.underlying t with | some (.int k) => some k | _ => none))) = true := by kernel_rfl
theorem jf29 : ((Rows.stateOrderRow.pinned == Rows.stateOrderRow.pinnedBy)) = true := by kernel_rfl
theorem jf30 : ((Rows.stateOrderRow.veiled == (Tryd.f4.params.toList ++ Rows.stateOrderSpec.plain.varTypes Tryd.prog ++ Tryd.f4.resultTypes.toList).any (Tryd.prog.veiledRec ·))) = true := by kernel_rfl
theorem jf31 : (Rows.stateOrderRow.veiledFits Tryd.prog Tryd.f4.params.toList (Tryd.f4.params.toList ++ Rows.stateOrderSpec.plain.varTypes Tryd.prog ++ Tryd.f4.resultTypes.toList)) = true := by kernel_rfl
set_option maxRecDepth 100000 in
theorem joined : joinedFacts Tryd.prog 4 Tryd.f4 Rows.stateOrderSpec Rows.stateOrderRow = true := by
  unfold joinedFacts
  exact (andT (andT (andT (andT (andT (andT (andT (andT (andT (andT (andT (andT (andT (andT (andT (andT (andT (andT (andT (andT (andT (andT (andT (andT (andT (andT (andT (andT (andT (andT (andT jf0 jf1) jf2) jf3) jf4) jf5) jf6) jf7) jf8) jf9) jf10) jf11) jf12) jf13) jf14) jf15) jf16) jf17) jf18) jf19) jf20) jf21) jf22) jf23) jf24) jf25) jf26) jf27) jf28) jf29) jf30) jf31)

theorem over : Rows.stateOrderRow.holds Tryd.pinned (OpenSpec.ofChange Rows.stateOrderSpec) :=
  OpenClaim.holds_of_wide 4 Tryd.f4 rfl rfl rfl rfl rfl rfl rfl ⟨rfl, rfl, rfl, rfl, rfl⟩ rfl rfl rfl rfl rfl (by kernel_rfl) Tryd.func4 joined
    (of_decide_eq_true (by kernel_rfl)) (by unfold Func.isWrapper; first | (rw [if_pos (by decide +kernel)]; kernel_rfl) | (rw [if_neg (by decide +kernel)]; exact ⟨rfl, rfl⟩))
    (fun os started H enc _ => lifted os started H enc)

theorem proved : Rows.StateOrderCardSaid :=
  Claim7.holds_tied_plain_at .later [] [.data, .data, .data] true (true, "dac14d0c4976cdcfc2b6a59c8e79b3722fb2cf1d04b9a7da2ffc1d0b34e9b43f") true
    over (fun _ h => by cases h) (by kernel_rfl) (fun _ h => by cases h) stateOrder_row_tie rfl ⟨rfl, rfl⟩ (by kernel_rfl) rfl
    (fun f fn hf hfn => by
      obtain rfl : f = 4 := Option.some.inj ((show Tryd.prog.funcNamed "cupola/cupolalaw20.StateOrder" = some 4 by kernel_rfl).symm.trans hf) |>.symm
      obtain rfl : fn = Tryd.f4 := (Option.some.inj (Tryd.func4.symm.trans hfn)).symm
      exact ⟨by kernel_rfl, fun j t ht => by
        rw [Tryd.params4] at ht
        have hm : t ∈ [26, 26, 26] := by simpa using Array.mem_of_getElem? ht
        have hall : ([26, 26, 26].all fun u => !Tryd.prog.wantsStandIn u) = true := by kernel_rfl
        exact (show Tryd.prog.wantsStandIn t = false by simpa using List.all_eq_true.1 hall t hm)⟩)
    (by kernel_rfl)
end Go.Proofs.YtkfceeaokfdmfaaDoor.stateOrder
