/- A state that is turned behind its push turns nothing, and a queue that is nil, or new, has nothing: the statement QueueOwn, as given, for every argument; it has no further conditions. -/
import Derived.Test.YtkfceeaokfdmfaaGreatDoorRows
import Derived.Test.YtkfceeaokfdmfaaGreatDoorCards
import Derived.Test.YtkfceeaokfdmfaaGreatDoorTie
import Derived.JoinedOf
import Derived.Handed
import Derived.LaidMore
import Derived.Stop.Joined
import Derived.SevenTiedAt
import Derived.Stop.LaidErr
import Derived.Test.YtkfceeaokfdmfaaGreatDoorQuG
import Derived.Test.YtkfceeaokfdmfaaGreatDoorReadsS
import Derived.Test.YtkfceeaokfdmfaaGreatDoorOrcsOk
import Derived.Test.YtkfceeaokfdmfaaGreatDoorSeqs
import Derived.Lay
import Derived.Test.YtkfceeaokfdmfaaGreatDoorBridge
set_option linter.all false
namespace Go.Proofs.YtkfceeaokfdmfaaGreatDoor.queueOwn
open Go.ChangeShapes Go.WideShapes Go.ChangeAt Go.RowKit Go.Deep Go.Sim

theorem own : ownKnob Tryz.prog.godebug = none := by kernel_rfl
theorem mixed : Tryz.prog.follows .mixedOrders = true := by kernel_rfl
theorem laid : laidOutB Tryz.prog = true := by kernel_rfl
abbrev L := Rows.queueOwnRow.laid
theorem door_met (os : Os) (args : Array Value) : laidMetH Tryz.prog L ((World.laidAll Tryz.prog os L).forCall (fun _ _ => 0) ⟨#[], args, []⟩).memory := by
  rw [MakeChecks.laidMetH_plain _ _ _ (by kernel_rfl)]
  exact laidMet_laidAll _ (by kernel_rfl) (by kernel_rfl)
theorem gTab : Tryz.prog.globalNamed "internal/strconv.uint64pow10" = some 0 := by kernel_rfl
theorem tabs {W : World} (h : laidMetH Tryz.prog L W) : @TabOk ⟨W, old W⟩ := by
  rw [MakeChecks.laidMetH_plain _ _ _ (by kernel_rfl)] at h
  have h2 := Go.laidMet.tail (Go.laidMet.tail h)
  have hT := Lib.tabIs_of_head (zs := Go.Lib.pow10Tab) gTab (by kernel_rfl) Tryz.underlying120 Tryz.underlying64 (by kernel_rfl) (by kernel_rfl) h2
  intro w S hs
  exact var_stays hs (by decide) hT

theorem gSyn : Tryz.prog.globalNamed "strconv.ErrSyntax" = some 1 := by kernel_rfl
theorem gRan : Tryz.prog.globalNamed "strconv.ErrRange" = some 2 := by kernel_rfl
theorem gSynT : (Tryz.prog.globals[1]?).map (·.type) = some 69 := by kernel_rfl
theorem gRanT : (Tryz.prog.globals[2]?).map (·.type) = some 69 := by kernel_rfl
theorem eStar : "*" ++ "errors.errorString" = "*errors.errorString" := by decide
theorem eRow (u : TypeId) (h : Tryz.prog.typeName? 3 u = some "*errors.errorString") : u = 138 :=
  typeName_ptr_named (nm := "errors.errorString") (by rw [eStar]; kernel_rfl) (by kernel_rfl) (by decide) u (by rw [eStar]; exact h)
theorem errs {W : World} (h : laidMetH Tryz.prog L W) : @ErrOk ⟨W, old W⟩ := by
  rw [MakeChecks.laidMetH_plain _ _ _ (by kernel_rfl)] at h
  have h2 := Go.laidMet.tail (Go.laidMet.tail (Go.laidMet.tail (Go.laidMet.tail h)))
  obtain ⟨a2, _, v2, _, _, _⟩ := laid_sentinel h2 gRan gRanT (by kernel_rfl : Tryz.prog.underlying 69 = some (.interface #[("Error", 104)])) eRow (by kernel_rfl : Tryz.prog.underlying 138 = some (.pointer 140)) (by kernel_rfl : Tryz.prog.underlying 140 = some (.struct #[{ name := "s", type := 9, offset := 0, embedded := false, tag := "", pkgPath := "errors", byteOffset := 0 }])) rfl rfl Tryz.underlying9 (by kernel_rfl) (by kernel_rfl)
  obtain ⟨a1, _, v1, _, _, _⟩ := laid_sentinel (Go.laidMet.tail h2) gSyn gSynT (by kernel_rfl : Tryz.prog.underlying 69 = some (.interface #[("Error", 104)])) eRow (by kernel_rfl : Tryz.prog.underlying 138 = some (.pointer 140)) (by kernel_rfl : Tryz.prog.underlying 140 = some (.struct #[{ name := "s", type := 9, offset := 0, embedded := false, tag := "", pkgPath := "errors", byteOffset := 0 }])) rfl rfl Tryz.underlying9 (by kernel_rfl) (by kernel_rfl)
  intro w S hs
  have w1 := var_stays hs (by simp) v1
  have w2 := var_stays hs (by simp) v2
  exact ⟨⟨_, _, by simpa using World.var?_cell gSyn w1 0⟩, _, _, by simpa using World.var?_cell gRan w2 0⟩

set_option maxRecDepth 100000 in
/-- What the run gives, for every argument. -/
theorem contract (H : Type) (enc : TypeId × Value → H) (W : World) (base : Nat) (args : Array Value) (ds gs : List (DataW H)) (before : List MemPlace)
    (hval : ∀ (j : Nat) t v, Tryz.f4.params[j]? = some t → args[j]? = some v → Value.okWide Tryz.prog W .any base t v)
    (hW : DataW.Whole enc Tryz.prog Tryz.f4.params.toList Rows.queueOwnSpec.vars false W args.toList ds gs before) (hL : laidMetH Tryz.prog L W) :
    Calls Tryz.prog 4 args W fun e W' => ∃ v, e = .returned v ∧ Rows.queueOwnSpec.post enc Tryz.prog Tryz.f4 false true false false W args v W' := by
  have hW' := hW
  obtain ⟨p, q, hA0, hV, rfl, hfz, hnd⟩ := hW
  have hA : DataW.TrodAll enc Tryz.prog W 0 (fun _ => true) true Tryz.f4.params.toList args.toList ds p := hA0
  rw [Tryz.params4] at hA hval
  obtain ⟨v0, v1, d0, d1, p0, p1, rfl, rfl, rfl, ⟨n0, h0⟩, ⟨n1, h1⟩⟩ := trodAll_two hA
  obtain ⟨c0, rfl, _⟩ := okWide_struct Tryz.underlying43 (hval 0 43 v0 rfl rfl)
  obtain ⟨x0, hx0⟩ := reads_fsI _ _ _ _ _ _ _ _ _ h0
  have r0 : RT W (old W) (Enc.enc (toFs x0)) (.agg c0) := RT.agg _ c0.toList hx0.1 hx0.2
  obtain ⟨m1, rfl⟩ := okWide_int Tryz.underlying3 (hval 1 3 v1 rfl rfl)
  obtain ⟨k1, e1, _, w1⟩ := DataW.trod_int Tryz.underlying3 h1
  have q1 : k1 = m1 := by simpa [Value.cells] using e1.symm
  subst q1
  have b1 : -9223372036854775808 ≤ k1 ∧ k1 ≤ 9223372036854775807 := by simpa [Lit.wf, IntKind.min, IntKind.max, IntKind.signed, IntKind.bits] using w1
  refine law_calls mixed laid (tb := 4) (@orcOk ⟨W, old W⟩ (tabs hL) (errs hL)) (@seqOk ⟨W, old W⟩) rfl ⟨rfl, rfl, rfl⟩ ?_ (by kernel_rfl) Tryz.underlying4 hW' (ts := [Enc.enc (toFs x0), .int .i64 k1]) rfl ?_ (queueOwn_run (toFs x0) (wfI x0) k1 b1)
  · intro t ht
    rw [Tryz.params4] at ht
    simp only [List.mem_cons, List.not_mem_nil, or_false] at ht
    rcases ht with rfl | rfl
    · exact can43
    · exact can3
  · intro i k1 k2
    match i, k1, k2 with
    | 0, _, _ => exact r0
    | 1, _, _ => exact RT.int _ _
    | n + 2, k1, _ => exact absurd k1 (by simp)

set_option maxRecDepth 100000 in
theorem lifted (os : Os) (started : os.Started) (H : Type) (enc : TypeId × Value → H) :
    ReturnsInHanded Rows.queueOwnRow.assume Tryz.checked os 4 .any (fun w args => (Rows.queueOwnSpec.pre enc Tryz.prog Tryz.f4 [] false w args ∧ laidMetH Tryz.prog L w) ∧ sizedMet enc Tryz.prog Tryz.f4 (OpenSpec.ofChange Rows.queueOwnSpec) false w args)
      (Rows.queueOwnSpec.post enc Tryz.prog Tryz.f4 false true false false) := by
  refine returnsInHanded_of_change_and (C := Tryz.checked) (X := fun w _ => laidMetH Tryz.prog L w) (fun _ _ _ hh h => h.of_heap hh) own started (by kernel_rfl) Tryz.func4
    (ChangeSpec.witness_shaped (enc := enc) (C := Tryz.checked) (os := os) (X := fun w _ => laidMetH Tryz.prog L w) false (World.laidAll Tryz.prog os L) #[.agg #[.int .u32 0, .slice none 0 0, .slice none 0 0], .int .i64 0] 8 (World.laidAll_os _ _ _) (World.shaped_of_ZipB (by kernel_rfl) (by kernel_rfl)) (by kernel_rfl) (by kernel_rfl) (by kernel_rfl) (door_met os _)) ?_
  intro W base args ds gs before hval hW _ _ hL _
  exact contract H enc W base args ds gs before hval hW hL

theorem andT {a b : Bool} (h : a = true) (k : b = true) : (a && b) = true := by rw [h, k]; rfl
theorem jf0 : (Rows.queueOwnRow.wf (OpenSpec.ofChange Rows.queueOwnSpec)) = true := by kernel_rfl
theorem jf1 : (laidOutB Tryz.prog) = true := by kernel_rfl
theorem jf2 : (mapsRowed Tryz.prog) = true := by kernel_rfl
theorem jf3 : (Tryz.f4.params.all (Tryz.prog.readableRec ·)) = true := by kernel_rfl
theorem jf4 : (namedTie Tryz.prog Rows.queueOwnRow.named Rows.queueOwnSpec.vars) = true := by kernel_rfl
theorem jf5 : ((Rows.queueOwnRow.stops == [])) = true := by kernel_rfl
theorem jf6 : ((Tryz.prog.stops == [])) = true := by kernel_rfl
theorem jf7 : ((Rows.queueOwnRow.knobs == [])) = true := by kernel_rfl
theorem jf8 : ((Tryz.prog.stopKnobs == [])) = true := by kernel_rfl
theorem jf9 : ((Rows.queueOwnRow.inPlace == Tryz.prog.inPlace 4)) = true := by kernel_rfl
theorem jf10 : ((Rows.queueOwnRow.unfollowed == Tryz.prog.unfollowed 4)) = true := by kernel_rfl
theorem jf11 : ((Rows.queueOwnRow.recurses == Tryz.prog.recurses 4)) = true := by kernel_rfl
theorem jf12 : ((Rows.queueOwnRow.named == Tryz.prog.varsNamed 4)) = true := by kernel_rfl
theorem jf13 : ((Rows.queueOwnRow.maps == (Tryz.f4.params.toList ++ Rows.queueOwnSpec.plain.varTypes Tryz.prog).any (Tryz.prog.mapsRec ·))) = true := by kernel_rfl
theorem jf14 : ((Rows.queueOwnRow.ifaces == (Tryz.f4.params.toList ++ Rows.queueOwnSpec.plain.varTypes Tryz.prog).any (Tryz.prog.ifacesRec ·))) = true := by kernel_rfl
theorem jf15 : ((Rows.queueOwnRow.mapsOut == Tryz.prog.mapsAmong Tryz.f4.resultTypes.toList)) = true := by kernel_rfl
theorem jf16 : ((Rows.queueOwnRow.loops == (Tryz.f4.params.toList ++ Rows.queueOwnSpec.plain.varTypes Tryz.prog).any (Tryz.prog.loopsFrom ·))) = true := by kernel_rfl
theorem jf17 : ((Rows.queueOwnRow.wideKeys == (Tryz.f4.params.toList ++ Rows.queueOwnSpec.plain.varTypes Tryz.prog ++ Tryz.f4.resultTypes.toList).any (Tryz.prog.wideKeysFrom ·))) = true := by kernel_rfl
theorem jf18 : (Rows.queueOwnSpec.vars.all (Tryz.prog.varReadable ·)) = true := by kernel_rfl
theorem jf19 : (Tryz.f4.resultTypes.all (fun t => Tryz.prog.readableRec t && decide (t < Tryz.prog.types.size))) = true := by kernel_rfl
theorem jf20 : ((Rows.queueOwnRow.ifacesOut == Tryz.f4.resultTypes.toList.any (Tryz.prog.ifacesRec ·))) = true := by kernel_rfl
theorem jf21 : ((Rows.queueOwnRow.loopsOut == Tryz.f4.resultTypes.toList.any (Tryz.prog.loopsFrom ·))) = true := by kernel_rfl
theorem jf22 : ((Rows.queueOwnRow.plainKeys == Tryz.prog.plainKeys)) = true := by kernel_rfl
theorem jf23 : (Rows.queueOwnRow.shortTexts.isNone) = true := by kernel_rfl
theorem jf24 : (Tryz.prog.stopsHeard) = true := by kernel_rfl
theorem jf25 : (Tryz.prog.mayEnter) = true := by kernel_rfl
theorem jf26 : ((Rows.queueOwnRow.lifted == Tryz.prog.liftsFinal)) = true := by kernel_rfl
theorem jf27 : ((Tryz.prog.make == some Rows.queueOwnRow.make)) = true := by kernel_rfl
theorem jf28 : ((Rows.queueOwnRow.kinds == (if Rows.queueOwnRow.domain.isEmpty then [] else Tryz.f4.params.toList.map fun t => match Tryz.prog.underlying t with | some (.int k) => some k | _ => none))) = true := by kernel_rfl
theorem jf29 : ((Rows.queueOwnRow.pinned == Rows.queueOwnRow.pinnedBy)) = true := by kernel_rfl
theorem jf30 : ((Rows.queueOwnRow.veiled == (Tryz.f4.params.toList ++ Rows.queueOwnSpec.plain.varTypes Tryz.prog ++ Tryz.f4.resultTypes.toList).any (Tryz.prog.veiledRec ·))) = true := by kernel_rfl
theorem jf31 : (Rows.queueOwnRow.veiledFits Tryz.prog Tryz.f4.params.toList (Tryz.f4.params.toList ++ Rows.queueOwnSpec.plain.varTypes Tryz.prog ++ Tryz.f4.resultTypes.toList)) = true := by kernel_rfl
set_option maxRecDepth 100000 in
theorem joined : joinedFacts Tryz.prog 4 Tryz.f4 Rows.queueOwnSpec Rows.queueOwnRow = true := by
  unfold joinedFacts
  exact (andT (andT (andT (andT (andT (andT (andT (andT (andT (andT (andT (andT (andT (andT (andT (andT (andT (andT (andT (andT (andT (andT (andT (andT (andT (andT (andT (andT (andT (andT (andT jf0 jf1) jf2) jf3) jf4) jf5) jf6) jf7) jf8) jf9) jf10) jf11) jf12) jf13) jf14) jf15) jf16) jf17) jf18) jf19) jf20) jf21) jf22) jf23) jf24) jf25) jf26) jf27) jf28) jf29) jf30) jf31)

theorem over : Rows.queueOwnRow.holds Tryz.pinned (OpenSpec.ofChange Rows.queueOwnSpec) :=
  OpenClaim.holds_of_wide 4 Tryz.f4 rfl rfl rfl rfl rfl rfl rfl ⟨rfl, rfl, rfl, rfl, rfl⟩ rfl rfl rfl rfl rfl (by kernel_rfl) Tryz.func4 joined
    (of_decide_eq_true (by kernel_rfl)) (by unfold Func.isWrapper; first | (rw [if_pos (by decide +kernel)]; kernel_rfl) | (rw [if_neg (by decide +kernel)]; exact ⟨rfl, rfl⟩))
    (fun os started H enc _ => lifted os started H enc)

theorem proved : Rows.QueueOwnCardSaid :=
  Claim7.holds_tied_plain_at .later [] [.data, .data, .data, .data, .sentinel, .sentinel, .pinned] true (true, "1eb33533f77c8f1ff7d7d631189701dbd91f1a78ef0c7da8a882294a1c0c3568") true
    over (fun _ h => by cases h) (by kernel_rfl) (fun _ h => by cases h) queueOwn_row_tie rfl ⟨rfl, rfl⟩ (by kernel_rfl) rfl
    (fun f fn hf hfn => by
      obtain rfl : f = 4 := Option.some.inj ((show Tryz.prog.funcNamed "cupola/cupolalaw21.QueueOwn" = some 4 by kernel_rfl).symm.trans hf) |>.symm
      obtain rfl : fn = Tryz.f4 := (Option.some.inj (Tryz.func4.symm.trans hfn)).symm
      exact ⟨by kernel_rfl, fun j t ht => by
        rw [Tryz.params4] at ht
        have hm : t ∈ [43, 3] := by simpa using Array.mem_of_getElem? ht
        have hall : ([43, 3].all fun u => !Tryz.prog.wantsStandIn u) = true := by kernel_rfl
        exact (show Tryz.prog.wantsStandIn t = false by simpa using List.all_eq_true.1 hall t hm)⟩)
    (by kernel_rfl)
end Go.Proofs.YtkfceeaokfdmfaaGreatDoor.queueOwn
