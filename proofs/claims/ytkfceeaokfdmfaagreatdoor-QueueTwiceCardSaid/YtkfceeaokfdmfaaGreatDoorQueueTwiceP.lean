/- What was popped cannot be pushed again, and whatever order states are pushed in, they are popped in the same: the statement QueueTwice, as given, for every argument; it has no further conditions. -/
import Derived.Test.YtkfceeaokfdmfaaGreatDoorRows
import Derived.Test.YtkfceeaokfdmfaaGreatDoorCards
import Derived.Test.YtkfceeaokfdmfaaGreatDoorTie
import Derived.JoinedOf
import Derived.Handed
import Derived.LaidMore
import Derived.Stop.Joined
import Derived.SevenTiedAt
import Derived.Stop.LaidErr
import Derived.Test.YtkfceeaokfdmfaaGreatDoorQuF
import Derived.Test.YtkfceeaokfdmfaaGreatDoorReadsS
import Derived.Test.YtkfceeaokfdmfaaGreatDoorOrcsOk
import Derived.Test.YtkfceeaokfdmfaaGreatDoorSeqs
import Derived.Lay
import Derived.Test.YtkfceeaokfdmfaaGreatDoorBridge
set_option linter.all false
namespace Go.Proofs.YtkfceeaokfdmfaaGreatDoor.queueTwice
open Go.ChangeShapes Go.WideShapes Go.ChangeAt Go.RowKit Go.Deep Go.Sim

theorem own : ownKnob Tryz.prog.godebug = none := by kernel_rfl
theorem mixed : Tryz.prog.follows .mixedOrders = true := by kernel_rfl
theorem laid : laidOutB Tryz.prog = true := by kernel_rfl
abbrev L := Rows.queueTwiceRow.laid
theorem door_met (os : Os) (args : Array Value) : laidMetH Tryz.prog L ((World.laidAll Tryz.prog os L).forCall (fun _ _ => 0) ⟨#[], args, []⟩).memory := by
  rw [MakeChecks.laidMetH_plain _ _ _ (by kernel_rfl)]
  exact laidMet_laidAll _ (by kernel_rfl) (by kernel_rfl)
theorem gTab : Tryz.prog.globalNamed "internal/strconv.uint64pow10" = some 0 := by kernel_rfl
theorem tabs {W : World} (h : laidMetH Tryz.prog L W) : @TabOk ⟨W, old W⟩ := by
  rw [MakeChecks.laidMetH_plain _ _ _ (by kernel_rfl)] at h
  have h2 := Go.laidMet.tail (Go.laidMet.tail h)
  have hT := Lib.tabIs_of_head (zs := Go.Lib.pow10Tab) gTab (by kernel_rfl) Tryz.underlying120 Tryz.underlying64 (by kernel_rfl) (by kernel_rfl) h2
  intro w S hs
  exact var_stays hs (by decide) hT

theorem gSyn : Tryz.prog.globalNamed "strconv.ErrSyntax" = some 1 := by kernel_rfl
theorem gRan : Tryz.prog.globalNamed "strconv.ErrRange" = some 2 := by kernel_rfl
theorem gSynT : (Tryz.prog.globals[1]?).map (·.type) = some 69 := by kernel_rfl
theorem gRanT : (Tryz.prog.globals[2]?).map (·.type) = some 69 := by kernel_rfl
theorem eStar : "*" ++ "errors.errorString" = "*errors.errorString" := by decide
theorem eRow (u : TypeId) (h : Tryz.prog.typeName? 3 u = some "*errors.errorString") : u = 138 :=
  typeName_ptr_named (nm := "errors.errorString") (by rw [eStar]; kernel_rfl) (by kernel_rfl) (by decide) u (by rw [eStar]; exact h)
theorem errs {W : World} (h : laidMetH Tryz.prog L W) : @ErrOk ⟨W, old W⟩ := by
  rw [MakeChecks.laidMetH_plain _ _ _ (by kernel_rfl)] at h
  have h2 := Go.laidMet.tail (Go.laidMet.tail (Go.laidMet.tail (Go.laidMet.tail h)))
  obtain ⟨a2, _, v2, _, _, _⟩ := laid_sentinel h2 gRan gRanT (by kernel_rfl : Tryz.prog.underlying 69 = some (.interface #[("Error", 104)])) eRow (by kernel_rfl : Tryz.prog.underlying 138 = some (.pointer 140)) (by kernel_rfl : Tryz.prog.underlying 140 = some (.struct #[{ name := "s", type := 9, offset := 0, embedded := false, tag := "", pkgPath := "errors", byteOffset := 0 }])) rfl rfl Tryz.underlying9 (by kernel_rfl) (by kernel_rfl)
  obtain ⟨a1, _, v1, _, _, _⟩ := laid_sentinel (Go.laidMet.tail h2) gSyn gSynT (by kernel_rfl : Tryz.prog.underlying 69 = some (.interface #[("Error", 104)])) eRow (by kernel_rfl : Tryz.prog.underlying 138 = some (.pointer 140)) (by kernel_rfl : Tryz.prog.underlying 140 = some (.struct #[{ name := "s", type := 9, offset := 0, embedded := false, tag := "", pkgPath := "errors", byteOffset := 0 }])) rfl rfl Tryz.underlying9 (by kernel_rfl) (by kernel_rfl)
  intro w S hs
  have w1 := var_stays hs (by simp) v1
  have w2 := var_stays hs (by simp) v2
  exact ⟨⟨_, _, by simpa using World.var?_cell gSyn w1 0⟩, _, _, by simpa using World.var?_cell gRan w2 0⟩

set_option maxRecDepth 100000 in
/-- What the run gives, for every argument. -/
theorem contract (H : Type) (enc : TypeId × Value → H) (W : World) (base : Nat) (args : Array Value) (ds gs : List (DataW H)) (before : List MemPlace)
    (hval : ∀ (j : Nat) t v, Tryz.f5.params[j]? = some t → args[j]? = some v → Value.okWide Tryz.prog W .any base t v)
    (hW : DataW.Whole enc Tryz.prog Tryz.f5.params.toList Rows.queueTwiceSpec.vars false W args.toList ds gs before) (hL : laidMetH Tryz.prog L W) :
    Calls Tryz.prog 5 args W fun e W' => ∃ v, e = .returned v ∧ Rows.queueTwiceSpec.post enc Tryz.prog Tryz.f5 false true false false W args v W' := by
  have hW' := hW
  obtain ⟨p, q, hA0, hV, rfl, hfz, hnd⟩ := hW
  have hA : DataW.TrodAll enc Tryz.prog W 0 (fun _ => true) true Tryz.f5.params.toList args.toList ds p := hA0
  rw [Tryz.params5] at hA hval
  obtain ⟨v0, v1, d0, d1, p0, p1, rfl, rfl, rfl, ⟨n0, h0⟩, ⟨n1, h1⟩⟩ := trodAll_two hA
  obtain ⟨_, _, _, rfl⟩ := okWide_slice Tryz.underlying22 (hval 0 22 v0 rfl rfl)
  obtain ⟨x0, hx0⟩ := reads_lst _ _ _ _ _ _ _ _ _ h0
  obtain ⟨u0, e0, r0⟩ := one_cells hx0
  simp only [Value.cells, List.cons.injEq, and_true] at e0
  rw [← e0] at r0
  rw [enc_lst] at r0
  obtain ⟨m1, rfl⟩ := okWide_int Tryz.underlying5 (hval 1 5 v1 rfl rfl)
  obtain ⟨k1, e1, _, w1⟩ := DataW.trod_int Tryz.underlying5 h1
  have q1 : k1 = m1 := by simpa [Value.cells] using e1.symm
  subst q1
  have b1 : 0 ≤ k1 ∧ k1 ≤ 255 := by simpa [Lit.wf, IntKind.min, IntKind.max, IntKind.signed, IntKind.bits] using w1
  refine law_calls mixed laid (tb := 4) (@orcOk ⟨W, old W⟩ (tabs hL) (errs hL)) (@seqOk ⟨W, old W⟩) rfl ⟨rfl, rfl, rfl⟩ ?_ (by kernel_rfl) Tryz.underlying4 hW' (ts := [Enc.enc (x0.map toFs), .int .u8 k1]) rfl ?_ (queueTwice_run (x0.map toFs) (wf_lst x0) k1 b1)
  · intro t ht
    rw [Tryz.params5] at ht
    simp only [List.mem_cons, List.not_mem_nil, or_false] at ht
    rcases ht with rfl | rfl
    · exact can22
    · exact can5
  · intro i k1 k2
    match i, k1, k2 with
    | 0, _, _ => exact r0
    | 1, _, _ => exact RT.int _ _
    | n + 2, k1, _ => exact absurd k1 (by simp)

set_option maxRecDepth 100000 in
theorem lifted (os : Os) (started : os.Started) (H : Type) (enc : TypeId × Value → H) :
    ReturnsInHanded Rows.queueTwiceRow.assume Tryz.checked os 5 .any (fun w args => (Rows.queueTwiceSpec.pre enc Tryz.prog Tryz.f5 [] false w args ∧ laidMetH Tryz.prog L w) ∧ sizedMet enc Tryz.prog Tryz.f5 (OpenSpec.ofChange Rows.queueTwiceSpec) false w args)
      (Rows.queueTwiceSpec.post enc Tryz.prog Tryz.f5 false true false false) := by
  refine returnsInHanded_of_change_and (C := Tryz.checked) (X := fun w _ => laidMetH Tryz.prog L w) (fun _ _ _ hh h => h.of_heap hh) own started (by kernel_rfl) Tryz.func5
    (ChangeSpec.witness_shaped (enc := enc) (C := Tryz.checked) (os := os) (X := fun w _ => laidMetH Tryz.prog L w) false (World.laidAll Tryz.prog os L) #[.slice none 0 0, .int .u8 0] 8 (World.laidAll_os _ _ _) (World.shaped_of_ZipB (by kernel_rfl) (by kernel_rfl)) (by kernel_rfl) (by kernel_rfl) (by kernel_rfl) (door_met os _)) ?_
  intro W base args ds gs before hval hW _ _ hL _
  exact contract H enc W base args ds gs before hval hW hL

theorem andT {a b : Bool} (h : a = true) (k : b = true) : (a && b) = true := by rw [h, k]; rfl
theorem jf0 : (Rows.queueTwiceRow.wf (OpenSpec.ofChange Rows.queueTwiceSpec)) = true := by kernel_rfl
theorem jf1 : (laidOutB Tryz.prog) = true := by kernel_rfl
theorem jf2 : (mapsRowed Tryz.prog) = true := by kernel_rfl
theorem jf3 : (Tryz.f5.params.all (Tryz.prog.readableRec ·)) = true := by kernel_rfl
theorem jf4 : (namedTie Tryz.prog Rows.queueTwiceRow.named Rows.queueTwiceSpec.vars) = true := by kernel_rfl
theorem jf5 : ((Rows.queueTwiceRow.stops == [])) = true := by kernel_rfl
theorem jf6 : ((Tryz.prog.stops == [])) = true := by kernel_rfl
theorem jf7 : ((Rows.queueTwiceRow.knobs == [])) = true := by kernel_rfl
theorem jf8 : ((Tryz.prog.stopKnobs == [])) = true := by kernel_rfl
theorem jf9 : ((Rows.queueTwiceRow.inPlace == Tryz.prog.inPlace 5)) = true := by kernel_rfl
theorem jf10 : ((Rows.queueTwiceRow.unfollowed == Tryz.prog.unfollowed 5)) = true := by kernel_rfl
theorem jf11 : ((Rows.queueTwiceRow.recurses == Tryz.prog.recurses 5)) = true := by kernel_rfl
theorem jf12 : ((Rows.queueTwiceRow.named == Tryz.prog.varsNamed 5)) = true := by kernel_rfl
theorem jf13 : ((Rows.queueTwiceRow.maps == (Tryz.f5.params.toList ++ Rows.queueTwiceSpec.plain.varTypes Tryz.prog).any (Tryz.prog.mapsRec ·))) = true := by kernel_rfl
theorem jf14 : ((Rows.queueTwiceRow.ifaces == (Tryz.f5.params.toList ++ Rows.queueTwiceSpec.plain.varTypes Tryz.prog).any (Tryz.prog.ifacesRec ·))) = true := by kernel_rfl
theorem jf15 : ((Rows.queueTwiceRow.mapsOut == Tryz.prog.mapsAmong Tryz.f5.resultTypes.toList)) = true := by kernel_rfl
theorem jf16 : ((Rows.queueTwiceRow.loops == (Tryz.f5.params.toList ++ Rows.queueTwiceSpec.plain.varTypes Tryz.prog).any (Tryz.prog.loopsFrom ·))) = true := by kernel_rfl
theorem jf17 : ((Rows.queueTwiceRow.wideKeys == (Tryz.f5.params.toList ++ Rows.queueTwiceSpec.plain.varTypes Tryz.prog ++ Tryz.f5.resultTypes.toList).any (Tryz.prog.wideKeysFrom ·))) = true := by kernel_rfl
theorem jf18 : (Rows.queueTwiceSpec.vars.all (Tryz.prog.varReadable ·)) = true := by kernel_rfl
theorem jf19 : (Tryz.f5.resultTypes.all (fun t => Tryz.prog.readableRec t && decide (t < Tryz.prog.types.size))) = true := by kernel_rfl
theorem jf20 : ((Rows.queueTwiceRow.ifacesOut == Tryz.f5.resultTypes.toList.any (Tryz.prog.ifacesRec ·))) = true := by kernel_rfl
theorem jf21 : ((Rows.queueTwiceRow.loopsOut == Tryz.f5.resultTypes.toList.any (Tryz.prog.loopsFrom ·))) = true := by kernel_rfl
theorem jf22 : ((Rows.queueTwiceRow.plainKeys == Tryz.prog.plainKeys)) = true := by kernel_rfl
theorem jf23 : (Rows.queueTwiceRow.shortTexts.isNone) = true := by kernel_rfl
theorem jf24 : (Tryz.prog.stopsHeard) = true := by kernel_rfl
theorem jf25 : (Tryz.prog.mayEnter) = true := by kernel_rfl
theorem jf26 : ((Rows.queueTwiceRow.lifted == Tryz.prog.liftsFinal)) = true := by kernel_rfl
theorem jf27 : ((Tryz.prog.make == some Rows.queueTwiceRow.make)) = true := by kernel_rfl
theorem jf28 : ((Rows.queueTwiceRow.kinds == (if Rows.queueTwiceRow.domain.isEmpty then [] else Tryz.f5.params.toList.map fun t => match Tryz.prog.underlying t with | some (.int k) => some k | _ => none))) = true := by kernel_rfl
theorem jf29 : ((Rows.queueTwiceRow.pinned == Rows.queueTwiceRow.pinnedBy)) = true := by kernel_rfl
theorem jf30 : ((Rows.queueTwiceRow.veiled == (Tryz.f5.params.toList ++ Rows.queueTwiceSpec.plain.varTypes Tryz.prog ++ Tryz.f5.resultTypes.toList).any (Tryz.prog.veiledRec ·))) = true := by kernel_rfl
theorem jf31 : (Rows.queueTwiceRow.veiledFits Tryz.prog Tryz.f5.params.toList (Tryz.f5.params.toList ++ Rows.queueTwiceSpec.plain.varTypes Tryz.prog ++ Tryz.f5.resultTypes.toList)) = true := by kernel_rfl
set_option maxRecDepth 100000 in
theorem joined : joinedFacts Tryz.prog 5 Tryz.f5 Rows.queueTwiceSpec Rows.queueTwiceRow = true := by
  unfold joinedFacts
  exact (andT (andT (andT (andT (andT (andT (andT (andT (andT (andT (andT (andT (andT (andT (andT (andT (andT (andT (andT (andT (andT (andT (andT (andT (andT (andT (andT (andT (andT (andT (andT jf0 jf1) jf2) jf3) jf4) jf5) jf6) jf7) jf8) jf9) jf10) jf11) jf12) jf13) jf14) jf15) jf16) jf17) jf18) jf19) jf20) jf21) jf22) jf23) jf24) jf25) jf26) jf27) jf28) jf29) jf30) jf31)

theorem over : Rows.queueTwiceRow.holds Tryz.pinned (OpenSpec.ofChange Rows.queueTwiceSpec) :=
  OpenClaim.holds_of_wide 5 Tryz.f5 rfl rfl rfl rfl rfl rfl rfl ⟨rfl, rfl, rfl, rfl, rfl⟩ rfl rfl rfl rfl rfl (by kernel_rfl) Tryz.func5 joined
    (of_decide_eq_true (by kernel_rfl)) (by unfold Func.isWrapper; first | (rw [if_pos (by decide +kernel)]; kernel_rfl) | (rw [if_neg (by decide +kernel)]; exact ⟨rfl, rfl⟩))
    (fun os started H enc _ => lifted os started H enc)

theorem proved : Rows.QueueTwiceCardSaid :=
  Claim7.holds_tied_plain_at .later [] [.data, .data, .data, .data, .sentinel, .sentinel, .pinned] true (true, "1eb33533f77c8f1ff7d7d631189701dbd91f1a78ef0c7da8a882294a1c0c3568") true
    over (fun _ h => by cases h) (by kernel_rfl) (fun _ h => by cases h) queueTwice_row_tie rfl ⟨rfl, rfl⟩ (by kernel_rfl) rfl
    (fun f fn hf hfn => by
      obtain rfl : f = 5 := Option.some.inj ((show Tryz.prog.funcNamed "cupola/cupolalaw21.QueueTwice" = some 5 by kernel_rfl).symm.trans hf) |>.symm
      obtain rfl : fn = Tryz.f5 := (Option.some.inj (Tryz.func5.symm.trans hfn)).symm
      exact ⟨by kernel_rfl, fun j t ht => by
        rw [Tryz.params5] at ht
        have hm : t ∈ [22, 5] := by simpa using Array.mem_of_getElem? ht
        have hall : ([22, 5].all fun u => !Tryz.prog.wantsStandIn u) = true := by kernel_rfl
        exact (show Tryz.prog.wantsStandIn t = false by simpa using List.all_eq_true.1 hall t hm)⟩)
    (by kernel_rfl)
end Go.Proofs.YtkfceeaokfdmfaaGreatDoor.queueTwice
