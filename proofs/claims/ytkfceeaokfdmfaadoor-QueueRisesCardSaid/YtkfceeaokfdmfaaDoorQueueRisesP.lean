/- Whatever states are pushed, popped without pushing between they rise, each once, as many as were unlike, and then there is none: the statement QueueRises, as given, for every argument; it has no further conditions. -/
import Derived.Test.YtkfceeaokfdmfaaDoorRows
import Derived.Test.YtkfceeaokfdmfaaDoorCards
import Derived.Test.YtkfceeaokfdmfaaDoorTie
import Derived.JoinedOf
import Derived.Handed
import Derived.LaidMore
import Derived.Stop.Joined
import Derived.SevenTiedAt
import Derived.Stop.LaidErr
import Derived.Test.YtkfceeaokfdmfaaDoorQuD
import Derived.Test.YtkfceeaokfdmfaaDoorReadsS
import Derived.Test.YtkfceeaokfdmfaaDoorOrcsOk
import Derived.Test.YtkfceeaokfdmfaaDoorSeqs
import Derived.Lay
import Derived.Test.YtkfceeaokfdmfaaDoorBridge
set_option linter.all false
namespace Go.Proofs.YtkfceeaokfdmfaaDoor.queueRises
open Go.ChangeShapes Go.WideShapes Go.ChangeAt Go.RowKit Go.Deep Go.Sim

theorem own : ownKnob Tryd.prog.godebug = none := by kernel_rfl
theorem mixed : Tryd.prog.follows .mixedOrders = true := by kernel_rfl
theorem laid : laidOutB Tryd.prog = true := by kernel_rfl
abbrev L := Rows.queueRisesRow.laid
theorem door_met (os : Os) (args : Array Value) : laidMetH Tryd.prog L ((World.laidAll Tryd.prog os L).forCall (fun _ _ => 0) ⟨#[], args, []⟩).memory := by
  rw [MakeChecks.laidMetH_plain _ _ _ (by kernel_rfl)]
  exact laidMet_laidAll _ (by kernel_rfl) (by kernel_rfl)
theorem gTab : Tryd.prog.globalNamed "internal/strconv.uint64pow10" = some 0 := by kernel_rfl
theorem tabs {W : World} (h : laidMetH Tryd.prog L W) : @TabOk ⟨W, old W⟩ := by
  rw [MakeChecks.laidMetH_plain _ _ _ (by kernel_rfl)] at h
  have h2 := Go.laidMet.tail (Go.laidMet.tail h)
  have hT := Lib.tabIs_of_head (zs := Go.Lib.pow10Tab) gTab (by kernel_rfl) Tryd.underlying172 Tryd.underlying67 (by kernel_rfl) (by kernel_rfl) h2
  intro w S hs
  exact var_stays hs (by decide) hT

theorem gSyn : Tryd.prog.globalNamed "strconv.ErrSyntax" = some 1 := by kernel_rfl
theorem gRan : Tryd.prog.globalNamed "strconv.ErrRange" = some 2 := by kernel_rfl
theorem gSynT : (Tryd.prog.globals[1]?).map (·.type) = some 77 := by kernel_rfl
theorem gRanT : (Tryd.prog.globals[2]?).map (·.type) = some 77 := by kernel_rfl
theorem eStar : "*" ++ "errors.errorString" = "*errors.errorString" := by decide
theorem eRow (u : TypeId) (h : Tryd.prog.typeName? 3 u = some "*errors.errorString") : u = 189 :=
  typeName_ptr_named (nm := "errors.errorString") (by rw [eStar]; kernel_rfl) (by kernel_rfl) (by decide) u (by rw [eStar]; exact h)
theorem errs {W : World} (h : laidMetH Tryd.prog L W) : @ErrOk ⟨W, old W⟩ := by
  rw [MakeChecks.laidMetH_plain _ _ _ (by kernel_rfl)] at h
  have h2 := Go.laidMet.tail (Go.laidMet.tail (Go.laidMet.tail (Go.laidMet.tail h)))
  obtain ⟨a2, _, v2, _, _, _⟩ := laid_sentinel h2 gRan gRanT (by kernel_rfl : Tryd.prog.underlying 77 = some (.interface #[("Error", 152)])) eRow (by kernel_rfl : Tryd.prog.underlying 189 = some (.pointer 191)) (by kernel_rfl : Tryd.prog.underlying 191 = some (.struct #[{ name := "s", type := 9, offset := 0, embedded := false, tag := "", pkgPath := "errors", byteOffset := 0 }])) rfl rfl Tryd.underlying9 (by kernel_rfl) (by kernel_rfl)
  obtain ⟨a1, _, v1, _, _, _⟩ := laid_sentinel (Go.laidMet.tail h2) gSyn gSynT (by kernel_rfl : Tryd.prog.underlying 77 = some (.interface #[("Error", 152)])) eRow (by kernel_rfl : Tryd.prog.underlying 189 = some (.pointer 191)) (by kernel_rfl : Tryd.prog.underlying 191 = some (.struct #[{ name := "s", type := 9, offset := 0, embedded := false, tag := "", pkgPath := "errors", byteOffset := 0 }])) rfl rfl Tryd.underlying9 (by kernel_rfl) (by kernel_rfl)
  intro w S hs
  have w1 := var_stays hs (by simp) v1
  have w2 := var_stays hs (by simp) v2
  exact ⟨⟨_, _, by simpa using World.var?_cell gSyn w1 0⟩, _, _, by simpa using World.var?_cell gRan w2 0⟩

set_option maxRecDepth 100000 in
/-- What the run gives, for every argument. -/
theorem contract (H : Type) (enc : TypeId × Value → H) (W : World) (base : Nat) (args : Array Value) (ds gs : List (DataW H)) (before : List MemPlace)
    (hval : ∀ (j : Nat) t v, Tryd.f9.params[j]? = some t → args[j]? = some v → Value.okWide Tryd.prog W .any base t v)
    (hW : DataW.Whole enc Tryd.prog Tryd.f9.params.toList Rows.queueRisesSpec.vars false W args.toList ds gs before) (hL : laidMetH Tryd.prog L W) :
    Calls Tryd.prog 9 args W fun e W' => ∃ v, e = .returned v ∧ Rows.queueRisesSpec.post enc Tryd.prog Tryd.f9 false true false false W args v W' := by
  have hW' := hW
  obtain ⟨p, q, hA0, hV, rfl, hfz, hnd⟩ := hW
  have hA : DataW.TrodAll enc Tryd.prog W 0 (fun _ => true) true Tryd.f9.params.toList args.toList ds p := hA0
  rw [Tryd.params9] at hA hval
  obtain ⟨v0, d0, rfl, rfl, ⟨n0, h0⟩⟩ := trodAll_one hA
  obtain ⟨_, _, _, rfl⟩ := okWide_slice Tryd.underlying54 (hval 0 54 v0 rfl rfl)
  obtain ⟨x0, hx0⟩ := reads_lst _ _ _ _ _ _ _ _ _ h0
  obtain ⟨u0, e0, r0⟩ := one_cells hx0
  simp only [Value.cells, List.cons.injEq, and_true] at e0
  rw [← e0] at r0
  rw [enc_lst] at r0
  refine law_calls mixed laid (tb := 4) (@orcOk ⟨W, old W⟩ (tabs hL) (errs hL)) (@seqOk ⟨W, old W⟩) rfl ⟨rfl, rfl, rfl⟩ ?_ (by kernel_rfl) Tryd.underlying4 hW' (ts := [Enc.enc (x0.map toFs)]) rfl ?_ (queueRises_run (x0.map toFs) (wf_lst x0))
  · intro t ht
    rw [Tryd.params9] at ht
    simp only [List.mem_cons, List.not_mem_nil, or_false] at ht
    rcases ht with rfl
    · exact can54
  · intro i k1 k2
    match i, k1, k2 with
    | 0, _, _ => exact r0
    | n + 1, k1, _ => exact absurd k1 (by simp)

set_option maxRecDepth 100000 in
theorem lifted (os : Os) (started : os.Started) (H : Type) (enc : TypeId × Value → H) :
    ReturnsInHanded Rows.queueRisesRow.assume Tryd.checked os 9 .any (fun w args => (Rows.queueRisesSpec.pre enc Tryd.prog Tryd.f9 [] false w args ∧ laidMetH Tryd.prog L w) ∧ sizedMet enc Tryd.prog Tryd.f9 (OpenSpec.ofChange Rows.queueRisesSpec) false w args)
      (Rows.queueRisesSpec.post enc Tryd.prog Tryd.f9 false true false false) := by
  refine returnsInHanded_of_change_and (C := Tryd.checked) (X := fun w _ => laidMetH Tryd.prog L w) (fun _ _ _ hh h => h.of_heap hh) own started (by kernel_rfl) Tryd.func9
    (ChangeSpec.witness_shaped (enc := enc) (C := Tryd.checked) (os := os) (X := fun w _ => laidMetH Tryd.prog L w) false (World.laidAll Tryd.prog os L) #[.slice none 0 0] 8 (World.laidAll_os _ _ _) (World.shaped_of_ZipB (by kernel_rfl) (by kernel_rfl)) (by kernel_rfl) (by kernel_rfl) (by kernel_rfl) (door_met os _)) ?_
  intro W base args ds gs before hval hW _ _ hL _
  exact contract H enc W base args ds gs before hval hW hL

theorem andT {a b : Bool} (h : a = true) (k : b = true) : (a && b) = true := by rw [h, k]; rfl
theorem jf0 : (Rows.queueRisesRow.wf (OpenSpec.ofChange Rows.queueRisesSpec)) = true := by kernel_rfl
theorem jf1 : (laidOutB Tryd.prog) = true := by kernel_rfl
theorem jf2 : (mapsRowed Tryd.prog) = true := by kernel_rfl
theorem jf3 : (Tryd.f9.params.all (Tryd.prog.readableRec ·)) = true := by kernel_rfl
theorem jf4 : (namedTie Tryd.prog Rows.queueRisesRow.named Rows.queueRisesSpec.vars) = true := by kernel_rfl
theorem jf5 : ((Rows.queueRisesRow.stops == [])) = true := by kernel_rfl
theorem jf6 : ((Tryd.prog.stops == [])) = true := by kernel_rfl
theorem jf7 : ((Rows.queueRisesRow.knobs == [])) = true := by kernel_rfl
theorem jf8 : ((Tryd.prog.stopKnobs == [])) = true := by kernel_rfl
theorem jf9 : ((Rows.queueRisesRow.inPlace == Tryd.prog.inPlace 9)) = true := by kernel_rfl
theorem jf10 : ((Rows.queueRisesRow.unfollowed == Tryd.prog.unfollowed 9)) = true := by kernel_rfl
theorem jf11 : ((Rows.queueRisesRow.recurses == Tryd.prog.recurses 9)) = true := by kernel_rfl
theorem jf12 : ((Rows.queueRisesRow.named == Tryd.prog.varsNamed 9)) = true := by kernel_rfl
theorem jf13 : ((Rows.queueRisesRow.maps == (Tryd.f9.params.toList ++ Rows.queueRisesSpec.plain.varTypes Tryd.prog).any (Tryd.prog.mapsRec ·))) = true := by kernel_rfl
theorem jf14 : ((Rows.queueRisesRow.ifaces == (Tryd.f9.params.toList ++ Rows.queueRisesSpec.plain.varTypes Tryd.prog).any (Tryd.prog.ifacesRec ·))) = true := by kernel_rfl
theorem jf15 : ((Rows.queueRisesRow.mapsOut == Tryd.prog.mapsAmong Tryd.f9.resultTypes.toList)) = true := by kernel_rfl
theorem jf16 : ((Rows.queueRisesRow.loops == (Tryd.f9.params.toList ++ Rows.queueRisesSpec.plain.varTypes Tryd.prog).any (Tryd.prog.loopsFrom ·))) = true := by kernel_rfl
theorem jf17 : ((Rows.queueRisesRow.wideKeys == (Tryd.f9.params.toList ++ Rows.queueRisesSpec.plain.varTypes Tryd.prog ++ Tryd.f9.resultTypes.toList).any (Tryd.prog.wideKeysFrom ·))) = true := by kernel_rfl
theorem jf18 : (Rows.queueRisesSpec.vars.all (Tryd.prog.varReadable ·)) = true := by kernel_rfl
theorem jf19 : (Tryd.f9.resultTypes.all (fun t => Tryd.prog.readableRec t && decide (t < Tryd.prog.types.size))) = true := by kernel_rfl
theorem jf20 : ((Rows.queueRisesRow.ifacesOut == Tryd.f9.resultTypes.toList.any (Tryd.prog.ifacesRec ·))) = true := by kernel_rfl
theorem jf21 : ((Rows.queueRisesRow.loopsOut == Tryd.f9.resultTypes.toList.any (Tryd.prog.loopsFrom ·))) = true := by kernel_rfl
theorem jf22 : ((Rows.queueRisesRow.plainKeys == Tryd.prog.plainKeys)) = true := by kernel_rfl
theorem jf23 : (Rows.queueRisesRow.shortTexts.isNone) = true := by kernel_rfl
theorem jf24 : (Tryd.prog.stopsHeard) = true := by kernel_rfl
theorem jf25 : (Tryd.prog.mayEnter) = true := by kernel_rfl
theorem jf26 : ((Rows.queueRisesRow.lifted == Tryd.prog.liftsFinal)) = true := by kernel_rfl
theorem jf27 : ((Tryd.prog.make == some Rows.queueRisesRow.make)) = true := by kernel_rfl
theorem jf28 : ((Rows.queueRisesRow.kinds == (if Rows.queueRisesRow.domain.isEmpty then [] else Tryd.f9.params.toList.map fun t => match Tryd.prog.underlying t with | some (.int k) => some k | _ => none))) = true := by kernel_rfl
theorem jf29 : ((Rows.queueRisesRow.pinned == Rows.queueRisesRow.pinnedBy)) = true := by kernel_rfl
theorem jf30 : ((Rows.queueRisesRow.veiled == (Tryd.f9.params.toList ++ Rows.queueRisesSpec.plain.varTypes Tryd.prog ++ Tryd.f9.resultTypes.toList).any (Tryd.prog.veiledRec ·))) = true := by kernel_rfl
theorem jf31 : (Rows.queueRisesRow.veiledFits Tryd.prog Tryd.f9.params.toList (Tryd.f9.params.toList ++ Rows.queueRisesSpec.plain.varTypes Tryd.prog ++ Tryd.f9.resultTypes.toList)) = true := by kernel_rfl
set_option maxRecDepth 100000 in
theorem joined : joinedFacts Tryd.prog 9 Tryd.f9 Rows.queueRisesSpec Rows.queueRisesRow = true := by
  unfold joinedFacts
  exact (andT (andT (andT (andT (andT (andT (andT (andT (andT (andT (andT (andT (andT (andT (andT (andT (andT (andT (andT (andT (andT (andT (andT (andT (andT (andT (andT (andT (andT (andT (andT jf0 jf1) jf2) jf3) jf4) jf5) jf6) jf7) jf8) jf9) jf10) jf11) jf12) jf13) jf14) jf15) jf16) jf17) jf18) jf19) jf20) jf21) jf22) jf23) jf24) jf25) jf26) jf27) jf28) jf29) jf30) jf31)

theorem over : Rows.queueRisesRow.holds Tryd.pinned (OpenSpec.ofChange Rows.queueRisesSpec) :=
  OpenClaim.holds_of_wide 9 Tryd.f9 rfl rfl rfl rfl rfl rfl rfl ⟨rfl, rfl, rfl, rfl, rfl⟩ rfl rfl rfl rfl rfl (by kernel_rfl) Tryd.func9 joined
    (of_decide_eq_true (by kernel_rfl)) (by unfold Func.isWrapper; first | (rw [if_pos (by decide +kernel)]; kernel_rfl) | (rw [if_neg (by decide +kernel)]; exact ⟨rfl, rfl⟩))
    (fun os started H enc _ => lifted os started H enc)

theorem proved : Rows.QueueRisesCardSaid :=
  Claim7.holds_tied_plain_at .later [] [.data, .data, .data, .data, .sentinel, .sentinel, .pinned] true (true, "dac14d0c4976cdcfc2b6a59c8e79b3722fb2cf1d04b9a7da2ffc1d0b34e9b43f") true
    over (fun _ h => by cases h) (by kernel_rfl) (fun _ h => by cases h) queueRises_row_tie rfl ⟨rfl, rfl⟩ (by kernel_rfl) rfl
    (fun f fn hf hfn => by
      obtain rfl : f = 9 := Option.some.inj ((show Tryd.prog.funcNamed "cupola/cupolalaw21.QueueRises" = some 9 by kernel_rfl).symm.trans hf) |>.symm
      obtain rfl : fn = Tryd.f9 := (Option.some.inj (Tryd.func9.symm.trans hfn)).symm
      exact ⟨by kernel_rfl, fun j t ht => by
        rw [Tryd.params9] at ht
        have hm : t ∈ [54] := by simpa using Array.mem_of_getElem? ht
        have hall : ([54].all fun u => !Tryd.prog.wantsStandIn u) = true := by kernel_rfl
        exact (show Tryd.prog.wantsStandIn t = false by simpa using List.all_eq_true.1 hall t hm)⟩)
    (by kernel_rfl)
end Go.Proofs.YtkfceeaokfdmfaaDoor.queueRises
