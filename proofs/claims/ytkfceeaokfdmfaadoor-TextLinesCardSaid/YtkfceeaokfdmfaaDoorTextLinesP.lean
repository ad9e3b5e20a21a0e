/- TextLines, a law of module cupola: for every input its run returns true. -/
import Derived.Test.YtkfceeaokfdmfaaDoorRows
import Derived.Test.YtkfceeaokfdmfaaDoorCards
import Derived.Test.YtkfceeaokfdmfaaDoorTie
import Derived.JoinedOf
import Derived.Handed
import Derived.LaidMore
import Derived.Stop.Joined
import Derived.SevenTiedAt
import Derived.Stop.LaidErr
import Derived.Test.YtkfceeaokfdmfaaDoorTxT
import Derived.Test.YtkfceeaokfdmfaaDoorReadsS
import Derived.Test.YtkfceeaokfdmfaaDoorOrcsOk
import Derived.Test.YtkfceeaokfdmfaaDoorSeqs
import Derived.Lay
import Derived.Test.YtkfceeaokfdmfaaDoorBridge
set_option linter.all false
namespace Go.Proofs.YtkfceeaokfdmfaaDoor.textLines
open Go.ChangeShapes Go.WideShapes Go.ChangeAt Go.RowKit Go.Deep Go.Sim

theorem own : ownKnob Tryd.prog.godebug = none := by kernel_rfl
theorem mixed : Tryd.prog.follows .mixedOrders = true := by kernel_rfl
theorem laid : laidOutB Tryd.prog = true := by kernel_rfl
abbrev L := Rows.textLinesRow.laid
theorem door_met (os : Os) (args : Array Value) : laidMetH Tryd.prog L ((World.laidAll Tryd.prog os L).forCall (fun _ _ => 0) ⟨#[], args, []⟩).memory := by
  rw [MakeChecks.laidMetH_plain _ _ _ (by kernel_rfl)]
  exact laidMet_laidAll _ (by kernel_rfl) (by kernel_rfl)
theorem gTab : Tryd.prog.globalNamed "internal/strconv.uint64pow10" = some 0 := by kernel_rfl
theorem tabs {W : World} (h : laidMetH Tryd.prog L W) : @TabOk ⟨W, old W⟩ := by
  rw [MakeChecks.laidMetH_plain _ _ _ (by kernel_rfl)] at h
  have h2 := Go.laidMet.tail (Go.laidMet.tail h)
  have hT := Lib.tabIs_of_head (zs := Go.Lib.pow10Tab) gTab (by kernel_rfl) Tryd.underlying172 Tryd.underlying67 (by kernel_rfl) (by kernel_rfl) h2
  intro w S hs
  exact var_stays hs (by decide) hT

theorem gSyn : Tryd.prog.globalNamed "strconv.ErrSyntax" = some 1 := by kernel_rfl
theorem gRan : Tryd.prog.globalNamed "strconv.ErrRange" = some 2 := by kernel_rfl
theorem gSynT : (Tryd.prog.globals[1]?).map (·.type) = some 77 := by kernel_rfl
theorem gRanT : (Tryd.prog.globals[2]?).map (·.type) = some 77 := by kernel_rfl
theorem eStar : "*" ++ "errors.errorString" = "*errors.errorString" := by decide
theorem eRow (u : TypeId) (h : Tryd.prog.typeName? 3 u = some "*errors.errorString") : u = 189 :=
  typeName_ptr_named (nm := "errors.errorString") (by rw [eStar]; kernel_rfl) (by kernel_rfl) (by decide) u (by rw [eStar]; exact h)
theorem errs {W : World} (h : laidMetH Tryd.prog L W) : @ErrOk ⟨W, old W⟩ := by
  rw [MakeChecks.laidMetH_plain _ _ _ (by kernel_rfl)] at h
  have h2 := Go.laidMet.tail (Go.laidMet.tail (Go.laidMet.tail (Go.laidMet.tail h)))
  obtain ⟨a2, _, v2, _, _, _⟩ := laid_sentinel h2 gRan gRanT (by kernel_rfl : Tryd.prog.underlying 77 = some (.interface #[("Error", 152)])) eRow (by kernel_rfl : Tryd.prog.underlying 189 = some (.pointer 191)) (by kernel_rfl : Tryd.prog.underlying 191 = some (.struct #[{ name := "s", type := 9, offset := 0, embedded := false, tag := "", pkgPath := "errors", byteOffset := 0 }])) rfl rfl Tryd.underlying9 (by kernel_rfl) (by kernel_rfl)
  obtain ⟨a1, _, v1, _, _, _⟩ := laid_sentinel (Go.laidMet.tail h2) gSyn gSynT (by kernel_rfl : Tryd.prog.underlying 77 = some (.interface #[("Error", 152)])) eRow (by kernel_rfl : Tryd.prog.underlying 189 = some (.pointer 191)) (by kernel_rfl : Tryd.prog.underlying 191 = some (.struct #[{ name := "s", type := 9, offset := 0, embedded := false, tag := "", pkgPath := "errors", byteOffset := 0 }])) rfl rfl Tryd.underlying9 (by kernel_rfl) (by kernel_rfl)
  intro w S hs
  have w1 := var_stays hs (by simp) v1
  have w2 := var_stays hs (by simp) v2
  exact ⟨⟨_, _, by simpa using World.var?_cell gSyn w1 0⟩, _, _, by simpa using World.var?_cell gRan w2 0⟩

set_option maxRecDepth 100000 in
/-- What the run gives, for every argument. -/
theorem contract (H : Type) (enc : TypeId × Value → H) (W : World) (base : Nat) (args : Array Value) (ds gs : List (DataW H)) (before : List MemPlace)
    (hval : ∀ (j : Nat) t v, Tryd.f8.params[j]? = some t → args[j]? = some v → Value.okWide Tryd.prog W .any base t v)
    (hW : DataW.Whole enc Tryd.prog Tryd.f8.params.toList Rows.textLinesSpec.vars false W args.toList ds gs before) (hL : laidMetH Tryd.prog L W) :
    Calls Tryd.prog 8 args W fun e W' => ∃ v, e = .returned v ∧ Rows.textLinesSpec.post enc Tryd.prog Tryd.f8 false true false false W args v W' := by
  have hW' := hW
  obtain ⟨p, q, hA0, hV, rfl, hfz, hnd⟩ := hW
  have hA : DataW.TrodAll enc Tryd.prog W 0 (fun _ => true) true Tryd.f8.params.toList args.toList ds p := hA0
  rw [Tryd.params8] at hA hval
  obtain ⟨v0, v1, d0, d1, p0, p1, rfl, rfl, rfl, ⟨n0, h0⟩, ⟨n1, h1⟩⟩ := trodAll_two hA
  obtain ⟨c0, rfl, _⟩ := okWide_struct Tryd.underlying49 (hval 0 49 v0 rfl rfl)
  obtain ⟨x0, wx0, hx0⟩ := read_in h0
  have r0 : RT W (old W) (Enc.enc x0) (.agg c0) := RT.agg _ c0.toList hx0.1 hx0.2
  obtain ⟨s1, rfl⟩ := okWide_string Tryd.underlying9 (hval 1 9 v1 rfl rfl)
  refine law_calls mixed laid (tb := 4) (@orcOk ⟨W, old W⟩ (tabs hL) (errs hL)) (@seqOk ⟨W, old W⟩) rfl ⟨rfl, rfl, rfl⟩ ?_ (by kernel_rfl) Tryd.underlying4 hW' (ts := [Enc.enc x0, .str s1]) rfl ?_ (textLines_run x0 wx0 s1)
  · intro t ht
    rw [Tryd.params8] at ht
    simp only [List.mem_cons, List.not_mem_nil, or_false] at ht
    rcases ht with rfl | rfl
    · exact can49
    · exact can9
  · intro i k1 k2
    match i, k1, k2 with
    | 0, _, _ => exact r0
    | 1, _, _ => exact RT.str _
    | n + 2, k1, _ => exact absurd k1 (by simp)

set_option maxRecDepth 100000 in
theorem lifted (os : Os) (started : os.Started) (H : Type) (enc : TypeId × Value → H) :
    ReturnsInHanded Rows.textLinesRow.assume Tryd.checked os 8 .any (fun w args => (Rows.textLinesSpec.pre enc Tryd.prog Tryd.f8 [] false w args ∧ laidMetH Tryd.prog L w) ∧ sizedMet enc Tryd.prog Tryd.f8 (OpenSpec.ofChange Rows.textLinesSpec) false w args)
      (Rows.textLinesSpec.post enc Tryd.prog Tryd.f8 false true false false) := by
  refine returnsInHanded_of_change_and (C := Tryd.checked) (X := fun w _ => laidMetH Tryd.prog L w) (fun _ _ _ hh h => h.of_heap hh) own started (by kernel_rfl) Tryd.func8
    (ChangeSpec.witness_shaped (enc := enc) (C := Tryd.checked) (os := os) (X := fun w _ => laidMetH Tryd.prog L w) false (World.laidAll Tryd.prog os L) #[.agg #[.int .i64 0, .int .i64 0, .int .i64 0, .int .i64 0, .int .i64 0, .int .i64 0], .string ⟨#[]⟩] 8 (World.laidAll_os _ _ _) (World.shaped_of_ZipB (by kernel_rfl) (by kernel_rfl)) (by kernel_rfl) (by kernel_rfl) (by kernel_rfl) (door_met os _)) ?_
  intro W base args ds gs before hval hW _ _ hL _
  exact contract H enc W base args ds gs before hval hW hL

theorem andT {a b : Bool} (h : a = true) (k : b = true) : (a && b) = true := by rw [h, k]; rfl
theorem jf0 : (Rows.textLinesRow.wf (OpenSpec.ofChange Rows.textLinesSpec)) = true := by kernel_rfl
theorem jf1 : (laidOutB Tryd.prog) = true := by kernel_rfl
theorem jf2 : (mapsRowed Tryd.prog) = true := by kernel_rfl
theorem jf3 : (Tryd.f8.params.all (Tryd.prog.readableRec ·)) = true := by kernel_rfl
theorem jf4 : (namedTie Tryd.prog Rows.textLinesRow.named Rows.textLinesSpec.vars) = true := by kernel_rfl
theorem jf5 : ((Rows.textLinesRow.stops == [])) = true := by kernel_rfl
theorem jf6 : ((Tryd.prog.stops == [])) = true := by kernel_rfl
theorem jf7 : ((Rows.textLinesRow.knobs == [])) = true := by kernel_rfl
theorem jf8 : ((Tryd.prog.stopKnobs == [])) = true := by kernel_rfl
theorem jf9 : ((Rows.textLinesRow.inPlace == Tryd.prog.inPlace 8)) = true := by kernel_rfl
theorem jf10 : ((Rows.textLinesRow.unfollowed == Tryd.prog.unfollowed 8)) = true := by kernel_rfl
theorem jf11 : ((Rows.textLinesRow.recurses == Tryd.prog.recurses 8)) = true := by kernel_rfl
theorem jf12 : ((Rows.textLinesRow.named == Tryd.prog.varsNamed 8)) = true := by kernel_rfl
theorem jf13 : ((Rows.textLinesRow.maps == (Tryd.f8.params.toList ++ Rows.textLinesSpec.plain.varTypes Tryd.prog).any (Tryd.prog.mapsRec ·))) = true := by kernel_rfl
theorem jf14 : ((Rows.textLinesRow.ifaces == (Tryd.f8.params.toList ++ Rows.textLinesSpec.plain.varTypes Tryd.prog).any (Tryd.prog.ifacesRec ·))) = true := by kernel_rfl
theorem jf15 : ((Rows.textLinesRow.mapsOut == Tryd.prog.mapsAmong Tryd.f8.resultTypes.toList)) = true := by kernel_rfl
theorem jf16 : ((Rows.textLinesRow.loops == (Tryd.f8.params.toList ++ Rows.textLinesSpec.plain.varTypes Tryd.prog).any (Tryd.prog.loopsFrom ·))) = true := by kernel_rfl
theorem jf17 : ((Rows.textLinesRow.wideKeys == (Tryd.f8.params.toList ++ Rows.textLinesSpec.plain.varTypes Tryd.prog ++ Tryd.f8.resultTypes.toList).any (Tryd.prog.wideKeysFrom ·))) = true := by kernel_rfl
theorem jf18 : (Rows.textLinesSpec.vars.all (Tryd.prog.varReadable ·)) = true := by kernel_rfl
theorem jf19 : (Tryd.f8.resultTypes.all (fun t => Tryd.prog.readableRec t && decide (t < Tryd.prog.types.size))) = true := by kernel_rfl
theorem jf20 : ((Rows.textLinesRow.ifacesOut == Tryd.f8.resultTypes.toList.any (Tryd.prog.ifacesRec ·))) = true := by kernel_rfl
theorem jf21 : ((Rows.textLinesRow.loopsOut == Tryd.f8.resultTypes.toList.any (Tryd.prog.loopsFrom ·))) = true := by kernel_rfl
theorem jf22 : ((Rows.textLinesRow.plainKeys == Tryd.prog.plainKeys)) = true := by kernel_rfl
theorem jf23 : (Rows.textLinesRow.shortTexts.isNone) = true := by kernel_rfl
theorem jf24 : (Tryd.prog.stopsHeard) = true := by kernel_rfl
theorem jf25 : (Tryd.prog.mayEnter) = true := by kernel_rfl
theorem jf26 : ((Rows.textLinesRow.lifted == Tryd.prog.liftsFinal)) = true := by kernel_rfl
theorem jf27 : ((Tryd.prog.make == some Rows.textLinesRow.make)) = true := by kernel_rfl
theorem jf28 : ((Rows.textLinesRow.kinds == (if Rows.textLinesRow.domain.isEmpty then [] else Tryd.f8.params.toList.map fun t => match Tryd.prog.underlying t with | some (.int k) => some k | _ => none))) = true := by kernel_rfl
theorem jf29 : ((Rows.textLinesRow.pinned == Rows.textLinesRow.pinnedBy)) = true := by kernel_rfl
theorem jf30 : ((Rows.textLinesRow.veiled == (Tryd.f8.params.toList ++ Rows.textLinesSpec.plain.varTypes Tryd.prog ++ Tryd.f8.resultTypes.toList).any (Tryd.prog.veiledRec ·))) = true := by kernel_rfl
theorem jf31 : (Rows.textLinesRow.veiledFits Tryd.prog Tryd.f8.params.toList (Tryd.f8.params.toList ++ Rows.textLinesSpec.plain.varTypes Tryd.prog ++ Tryd.f8.resultTypes.toList)) = true := by kernel_rfl
set_option maxRecDepth 100000 in
theorem joined : joinedFacts Tryd.prog 8 Tryd.f8 Rows.textLinesSpec Rows.textLinesRow = true := by
  unfold joinedFacts
  exact (andT (andT (andT (andT (andT (andT (andT (andT (andT (andT (andT (andT (andT (andT (andT (andT (andT (andT (andT (andT (andT (andT (andT (andT (andT (andT (andT (andT (andT (andT (andT jf0 jf1) jf2) jf3) jf4) jf5) jf6) jf7) jf8) jf9) jf10) jf11) jf12) jf13) jf14) jf15) jf16) jf17) jf18) jf19) jf20) jf21) jf22) jf23) jf24) jf25) jf26) jf27) jf28) jf29) jf30) jf31)

theorem over : Rows.textLinesRow.holds Tryd.pinned (OpenSpec.ofChange Rows.textLinesSpec) :=
  OpenClaim.holds_of_wide 8 Tryd.f8 rfl rfl rfl rfl rfl rfl rfl ⟨rfl, rfl, rfl, rfl, rfl⟩ rfl rfl rfl rfl rfl (by kernel_rfl) Tryd.func8 joined
    (of_decide_eq_true (by kernel_rfl)) (by unfold Func.isWrapper; first | (rw [if_pos (by decide +kernel)]; kernel_rfl) | (rw [if_neg (by decide +kernel)]; exact ⟨rfl, rfl⟩))
    (fun os started H enc _ => lifted os started H enc)

theorem proved : Rows.TextLinesCardSaid :=
  Claim7.holds_tied_plain_at .later [] [.data, .data, .data, .data, .sentinel, .sentinel, .pinned] true (true, "dac14d0c4976cdcfc2b6a59c8e79b3722fb2cf1d04b9a7da2ffc1d0b34e9b43f") true
    over (fun _ h => by cases h) (by kernel_rfl) (fun _ h => by cases h) textLines_row_tie rfl ⟨rfl, rfl⟩ (by kernel_rfl) rfl
    (fun f fn hf hfn => by
      obtain rfl : f = 8 := Option.some.inj ((show Tryd.prog.funcNamed "cupola/cupolalaw03.TextLines" = some 8 by kernel_rfl).symm.trans hf) |>.symm
      obtain rfl : fn = Tryd.f8 := (Option.some.inj (Tryd.func8.symm.trans hfn)).symm
      exact ⟨by kernel_rfl, fun j t ht => by
        rw [Tryd.params8] at ht
        have hm : t ∈ [49, 9] := by simpa using Array.mem_of_getElem? ht
        have hall : ([49, 9].all fun u => !Tryd.prog.wantsStandIn u) = true := by kernel_rfl
        exact (show Tryd.prog.wantsStandIn t = false by simpa using List.all_eq_true.1 hall t hm)⟩)
    (by kernel_rfl)
end Go.Proofs.YtkfceeaokfdmfaaDoor.textLines
