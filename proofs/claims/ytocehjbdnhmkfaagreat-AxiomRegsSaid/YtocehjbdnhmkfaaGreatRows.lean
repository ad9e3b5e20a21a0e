/-
  No cell of these rows narrows 'for every input' (looked for: loops, veiled, ifaces, maps, wideKeys, modest, calm, conditions, laid).
  DERIVED. THE GIVEN ROWS OF THIS SEAT. 11 by the template 'for every input the law returns true; each argument reads behind the call as it read before'; 0 by the template 'total and deterministic' (their statements: YtocehjbdnhmkfaaGreatTotals.lean).
  GIVEN WITH THE SEED: the statements are not yours to turn. If you find one false, say at which input.
  Laid BY PROGRAM, IN A SANDBOX (cutbox-rows.mjs): the forced cells as the released guide's own fill.sh prints them over the translation eaf4387bf01b3cfe… (all of the seat's roots in one cut). By AI agents, Wed Nov 11 2026. No macro, syntax, notation, axiom, sorry.
-/
import Derived.Test.YtocehjbdnhmkfaaGreatChecked
import GoSem.Claim
import GoSem.ClaimJoined
import GoSem.ClaimMapViews
import Derived.JoinedTies
import Derived.KernelRfl
namespace Go.Proofs.YtocehjbdnhmkfaaGreat
/- THE CELL 'sum', in the pinned program and in every row, IS THE sha256 OF THE DUMP (.gsa) THAT YtocehjbdnhmkfaaGreatProg.lean LOADS. Nothing in Lean hashes anything: it is a label: what it is worth is what the hold of that sum in a sandbox is worth. -/
noncomputable def Tryz.pinned : Pinned := { name := "ytocehjbdnhmkfaagreat", sum := "eaf4387bf01b3cfe5775d456e61967a6aa8acf10bd8b8f1adeca8d801a46d2be", checked := Tryz.checked }
namespace Rows
def none {H : Type} : Left H := { results := [], args := [] }

/-- 'cupolalaw16.AxiomTells': WHATEVER THE INPUT: true; the input reads as it did. -/
def axiomTellsSpec : ChangeSpec := { name := "axiomTells", fn := fun _ => fun
  | [d1, d2, d3] => { results := [.lit (.bool true)], args := [d1, d2, d3] }
  | _ => none }
def axiomTellsRow : OpenClaim := { program := "ytocehjbdnhmkfaagreat", sum := "eaf4387bf01b3cfe5775d456e61967a6aa8acf10bd8b8f1adeca8d801a46d2be", func := "cupola/cupolalaw16.AxiomTells", spec := "axiomTells", unfollowed := true, recurses := true, apart := false }
def AxiomTellsSaid : Prop := axiomTellsRow.holds Tryz.pinned (OpenSpec.ofChange axiomTellsSpec)

/-- ITS FALSE NEIGHBOUR: 'it returns false'. Refute it at one input. -/
def axiomTellsWrong : ChangeSpec := { name := "axiomTells", fn := fun _ => fun
  | [d1, d2, d3] => { results := [.lit (.bool false)], args := [d1, d2, d3] }
  | _ => none }
def AxiomTellsWrongFalsely : Prop := axiomTellsRow.holds Tryz.pinned (OpenSpec.ofChange axiomTellsWrong)

/-- 'cupolalaw18.LocalLate': WHATEVER THE INPUT: true; the input reads as it did. -/
def localLateSpec : ChangeSpec := { name := "localLate", fn := fun _ => fun
  | [d1, d2] => { results := [.lit (.bool true)], args := [d1, d2] }
  | _ => none }
def localLateRow : OpenClaim := { program := "ytocehjbdnhmkfaagreat", sum := "eaf4387bf01b3cfe5775d456e61967a6aa8acf10bd8b8f1adeca8d801a46d2be", func := "cupola/cupolalaw18.LocalLate", spec := "localLate", unfollowed := true, recurses := true, apart := false }
def LocalLateSaid : Prop := localLateRow.holds Tryz.pinned (OpenSpec.ofChange localLateSpec)

/-- ITS FALSE NEIGHBOUR: 'it returns false'. Refute it at one input. -/
def localLateWrong : ChangeSpec := { name := "localLate", fn := fun _ => fun
  | [d1, d2] => { results := [.lit (.bool false)], args := [d1, d2] }
  | _ => none }
def LocalLateWrongFalsely : Prop := localLateRow.holds Tryz.pinned (OpenSpec.ofChange localLateWrong)

/-- 'cupolalaw18.LocalAlong': WHATEVER THE INPUT: true; the input reads as it did. -/
def localAlongSpec : ChangeSpec := { name := "localAlong", fn := fun _ => fun
  | [d1, d2] => { results := [.lit (.bool true)], args := [d1, d2] }
  | _ => none }
def localAlongRow : OpenClaim := { program := "ytocehjbdnhmkfaagreat", sum := "eaf4387bf01b3cfe5775d456e61967a6aa8acf10bd8b8f1adeca8d801a46d2be", func := "cupola/cupolalaw18.LocalAlong", spec := "localAlong", unfollowed := true, recurses := true, apart := false }
def LocalAlongSaid : Prop := localAlongRow.holds Tryz.pinned (OpenSpec.ofChange localAlongSpec)

/-- ITS FALSE NEIGHBOUR: 'it returns false'. Refute it at one input. -/
def localAlongWrong : ChangeSpec := { name := "localAlong", fn := fun _ => fun
  | [d1, d2] => { results := [.lit (.bool false)], args := [d1, d2] }
  | _ => none }
def LocalAlongWrongFalsely : Prop := localAlongRow.holds Tryz.pinned (OpenSpec.ofChange localAlongWrong)

/-- 'cupolalaw18.LocalOwn': WHATEVER THE INPUT: true; the input reads as it did. -/
def localOwnSpec : ChangeSpec := { name := "localOwn", fn := fun _ => fun
  | [d1, d2] => { results := [.lit (.bool true)], args := [d1, d2] }
  | _ => none }
def localOwnRow : OpenClaim := { program := "ytocehjbdnhmkfaagreat", sum := "eaf4387bf01b3cfe5775d456e61967a6aa8acf10bd8b8f1adeca8d801a46d2be", func := "cupola/cupolalaw18.LocalOwn", spec := "localOwn", unfollowed := true, recurses := true, apart := false }
def LocalOwnSaid : Prop := localOwnRow.holds Tryz.pinned (OpenSpec.ofChange localOwnSpec)

/-- ITS FALSE NEIGHBOUR: 'it returns false'. Refute it at one input. -/
def localOwnWrong : ChangeSpec := { name := "localOwn", fn := fun _ => fun
  | [d1, d2] => { results := [.lit (.bool false)], args := [d1, d2] }
  | _ => none }
def LocalOwnWrongFalsely : Prop := localOwnRow.holds Tryz.pinned (OpenSpec.ofChange localOwnWrong)

/-- 'cupolalaw16.AxiomAlone': WHATEVER THE INPUT: true; the input reads as it did. -/
def axiomAloneSpec : ChangeSpec := { name := "axiomAlone", fn := fun _ => fun
  | [d1, d2] => { results := [.lit (.bool true)], args := [d1, d2] }
  | _ => none }
def axiomAloneRow : OpenClaim := { program := "ytocehjbdnhmkfaagreat", sum := "eaf4387bf01b3cfe5775d456e61967a6aa8acf10bd8b8f1adeca8d801a46d2be", func := "cupola/cupolalaw16.AxiomAlone", spec := "axiomAlone", unfollowed := true, recurses := true, apart := false }
def AxiomAloneSaid : Prop := axiomAloneRow.holds Tryz.pinned (OpenSpec.ofChange axiomAloneSpec)

/-- ITS FALSE NEIGHBOUR: 'it returns false'. Refute it at one input. -/
def axiomAloneWrong : ChangeSpec := { name := "axiomAlone", fn := fun _ => fun
  | [d1, d2] => { results := [.lit (.bool false)], args := [d1, d2] }
  | _ => none }
def AxiomAloneWrongFalsely : Prop := axiomAloneRow.holds Tryz.pinned (OpenSpec.ofChange axiomAloneWrong)

/-- 'cupolalaw16.AxiomLine': WHATEVER THE INPUT: true; the input reads as it did. -/
def axiomLineSpec : ChangeSpec := { name := "axiomLine", fn := fun _ => fun
  | [d1, d2] => { results := [.lit (.bool true)], args := [d1, d2] }
  | _ => none }
def axiomLineRow : OpenClaim := { program := "ytocehjbdnhmkfaagreat", sum := "eaf4387bf01b3cfe5775d456e61967a6aa8acf10bd8b8f1adeca8d801a46d2be", func := "cupola/cupolalaw16.AxiomLine", spec := "axiomLine", unfollowed := true, recurses := true, apart := false }
def AxiomLineSaid : Prop := axiomLineRow.holds Tryz.pinned (OpenSpec.ofChange axiomLineSpec)

/-- ITS FALSE NEIGHBOUR: 'it returns false'. Refute it at one input. -/
def axiomLineWrong : ChangeSpec := { name := "axiomLine", fn := fun _ => fun
  | [d1, d2] => { results := [.lit (.bool false)], args := [d1, d2] }
  | _ => none }
def AxiomLineWrongFalsely : Prop := axiomLineRow.holds Tryz.pinned (OpenSpec.ofChange axiomLineWrong)

/-- 'cupolalaw16.AxiomOwn': WHATEVER THE INPUT: true; the input reads as it did. -/
def axiomOwnSpec : ChangeSpec := { name := "axiomOwn", fn := fun _ => fun
  | [d1, d2] => { results := [.lit (.bool true)], args := [d1, d2] }
  | _ => none }
def axiomOwnRow : OpenClaim := { program := "ytocehjbdnhmkfaagreat", sum := "eaf4387bf01b3cfe5775d456e61967a6aa8acf10bd8b8f1adeca8d801a46d2be", func := "cupola/cupolalaw16.AxiomOwn", spec := "axiomOwn", unfollowed := true, recurses := true, apart := false }
def AxiomOwnSaid : Prop := axiomOwnRow.holds Tryz.pinned (OpenSpec.ofChange axiomOwnSpec)

/-- ITS FALSE NEIGHBOUR: 'it returns false'. Refute it at one input. -/
def axiomOwnWrong : ChangeSpec := { name := "axiomOwn", fn := fun _ => fun
  | [d1, d2] => { results := [.lit (.bool false)], args := [d1, d2] }
  | _ => none }
def AxiomOwnWrongFalsely : Prop := axiomOwnRow.holds Tryz.pinned (OpenSpec.ofChange axiomOwnWrong)

/-- 'cupolalaw16.AxiomWide': WHATEVER THE INPUT: true; the input reads as it did. -/
def axiomWideSpec : ChangeSpec := { name := "axiomWide", fn := fun _ => fun
  | [d1, d2] => { results := [.lit (.bool true)], args := [d1, d2] }
  | _ => none }
def axiomWideRow : OpenClaim := { program := "ytocehjbdnhmkfaagreat", sum := "eaf4387bf01b3cfe5775d456e61967a6aa8acf10bd8b8f1adeca8d801a46d2be", func := "cupola/cupolalaw16.AxiomWide", spec := "axiomWide", unfollowed := true, recurses := true, apart := false }
def AxiomWideSaid : Prop := axiomWideRow.holds Tryz.pinned (OpenSpec.ofChange axiomWideSpec)

/-- ITS FALSE NEIGHBOUR: 'it returns false'. Refute it at one input. -/
def axiomWideWrong : ChangeSpec := { name := "axiomWide", fn := fun _ => fun
  | [d1, d2] => { results := [.lit (.bool false)], args := [d1, d2] }
  | _ => none }
def AxiomWideWrongFalsely : Prop := axiomWideRow.holds Tryz.pinned (OpenSpec.ofChange axiomWideWrong)

/-- 'cupolalaw16.AxiomFew': WHATEVER THE INPUT: true; the input reads as it did. -/
def axiomFewSpec : ChangeSpec := { name := "axiomFew", fn := fun _ => fun
  | [d1, d2] => { results := [.lit (.bool true)], args := [d1, d2] }
  | _ => none }
def axiomFewRow : OpenClaim := { program := "ytocehjbdnhmkfaagreat", sum := "eaf4387bf01b3cfe5775d456e61967a6aa8acf10bd8b8f1adeca8d801a46d2be", func := "cupola/cupolalaw16.AxiomFew", spec := "axiomFew", unfollowed := true, recurses := true, apart := false }
def AxiomFewSaid : Prop := axiomFewRow.holds Tryz.pinned (OpenSpec.ofChange axiomFewSpec)

/-- ITS FALSE NEIGHBOUR: 'it returns false'. Refute it at one input. -/
def axiomFewWrong : ChangeSpec := { name := "axiomFew", fn := fun _ => fun
  | [d1, d2] => { results := [.lit (.bool false)], args := [d1, d2] }
  | _ => none }
def AxiomFewWrongFalsely : Prop := axiomFewRow.holds Tryz.pinned (OpenSpec.ofChange axiomFewWrong)

/-- 'cupolalaw16.AxiomRegs': WHATEVER THE INPUT: true; the input reads as it did. -/
def axiomRegsSpec : ChangeSpec := { name := "axiomRegs", fn := fun _ => fun
  | [d1, d2, d3] => { results := [.lit (.bool true)], args := [d1, d2, d3] }
  | _ => none }
def axiomRegsRow : OpenClaim := { program := "ytocehjbdnhmkfaagreat", sum := "eaf4387bf01b3cfe5775d456e61967a6aa8acf10bd8b8f1adeca8d801a46d2be", func := "cupola/cupolalaw16.AxiomRegs", spec := "axiomRegs", unfollowed := true, recurses := true, apart := false }
def AxiomRegsSaid : Prop := axiomRegsRow.holds Tryz.pinned (OpenSpec.ofChange axiomRegsSpec)

/-- ITS FALSE NEIGHBOUR: 'it returns false'. Refute it at one input. -/
def axiomRegsWrong : ChangeSpec := { name := "axiomRegs", fn := fun _ => fun
  | [d1, d2, d3] => { results := [.lit (.bool false)], args := [d1, d2, d3] }
  | _ => none }
def AxiomRegsWrongFalsely : Prop := axiomRegsRow.holds Tryz.pinned (OpenSpec.ofChange axiomRegsWrong)

/-- 'cupolalaw18.LocalIs': WHATEVER THE INPUT: true; the input reads as it did. -/
def localIsSpec : ChangeSpec := { name := "localIs", fn := fun _ => fun
  | [d1, d2] => { results := [.lit (.bool true)], args := [d1, d2] }
  | _ => none }
def localIsRow : OpenClaim := { program := "ytocehjbdnhmkfaagreat", sum := "eaf4387bf01b3cfe5775d456e61967a6aa8acf10bd8b8f1adeca8d801a46d2be", func := "cupola/cupolalaw18.LocalIs", spec := "localIs", unfollowed := true, recurses := true, apart := false }
def LocalIsSaid : Prop := localIsRow.holds Tryz.pinned (OpenSpec.ofChange localIsSpec)

/-- ITS FALSE NEIGHBOUR: 'it returns false'. Refute it at one input. -/
def localIsWrong : ChangeSpec := { name := "localIs", fn := fun _ => fun
  | [d1, d2] => { results := [.lit (.bool false)], args := [d1, d2] }
  | _ => none }
def LocalIsWrongFalsely : Prop := localIsRow.holds Tryz.pinned (OpenSpec.ofChange localIsWrong)

/- THE SECOND FORM. 'bulk': how many values and letters a reading holds, each counted each time it is reached (what is shared counts as often as it is met; a slice's spare places count too). A statement '..UptoSaid' is the law's where the arguments, and the package variables that the reading takes, are together of bulk at most 1048576: NARROWER than '..Said'. Prove '..Said' where nothing that the law and all that it calls make is longer than what came in: it says more and counts as full. Else prove '..UptoSaid'. A law counts once. -/
mutual
def uptoBulk {H : Type} : DataW H → Nat
  | .lit (.string bytes) => bytes.length + 1
  | .lit _ => 1
  | .nil => 1
  | .ptr d => uptoBulk d + 1
  | .slice elems spare => uptoBulkAll elems + uptoBulkAll spare + 1
  | .agg parts => uptoBulkAll parts + 1
  | .iface _ d => uptoBulk d + 1
  | .map entries => uptoBulkEntries entries + 1
  | .held _ => 1
def uptoBulkAll {H : Type} : List (DataW H) → Nat
  | [] => 0
  | d :: r => uptoBulk d + uptoBulkAll r
def uptoBulkEntries {H : Type} : List (Lit × DataW H) → Nat
  | [] => 0
  | x :: r => uptoBulkEntry x + uptoBulkEntries r
def uptoBulkEntry {H : Type} : Lit × DataW H → Nat
  | (.string bytes, d) => bytes.length + uptoBulk d + 1
  | (_, d) => uptoBulk d + 1
 end
def uptoSmall : (H : Type) → List (DataW H) → Bool := fun _ ds => decide (uptoBulkAll ds ≤ 1048576)
def OpenSpec.upto (s : _root_.Go.ChangeSpec) : _root_.Go.OpenSpec := { _root_.Go.OpenSpec.ofChange s with cond := some uptoSmall }

/-- 'cupolalaw16.AxiomTells', WHERE WHAT IT READS IS OF BULK AT MOST 1048576: true; the input reads as it did. -/
def axiomTellsUptoRow : OpenClaim := { program := "ytocehjbdnhmkfaagreat", sum := "eaf4387bf01b3cfe5775d456e61967a6aa8acf10bd8b8f1adeca8d801a46d2be", func := "cupola/cupolalaw16.AxiomTells", spec := "axiomTells", unfollowed := true, recurses := true, apart := false, narrowed := true }
def AxiomTellsUptoSaid : Prop := axiomTellsUptoRow.holds Tryz.pinned (OpenSpec.upto axiomTellsSpec)

/-- 'cupolalaw18.LocalLate', WHERE WHAT IT READS IS OF BULK AT MOST 1048576: true; the input reads as it did. -/
def localLateUptoRow : OpenClaim := { program := "ytocehjbdnhmkfaagreat", sum := "eaf4387bf01b3cfe5775d456e61967a6aa8acf10bd8b8f1adeca8d801a46d2be", func := "cupola/cupolalaw18.LocalLate", spec := "localLate", unfollowed := true, recurses := true, apart := false, narrowed := true }
def LocalLateUptoSaid : Prop := localLateUptoRow.holds Tryz.pinned (OpenSpec.upto localLateSpec)

/-- 'cupolalaw18.LocalAlong', WHERE WHAT IT READS IS OF BULK AT MOST 1048576: true; the input reads as it did. -/
def localAlongUptoRow : OpenClaim := { program := "ytocehjbdnhmkfaagreat", sum := "eaf4387bf01b3cfe5775d456e61967a6aa8acf10bd8b8f1adeca8d801a46d2be", func := "cupola/cupolalaw18.LocalAlong", spec := "localAlong", unfollowed := true, recurses := true, apart := false, narrowed := true }
def LocalAlongUptoSaid : Prop := localAlongUptoRow.holds Tryz.pinned (OpenSpec.upto localAlongSpec)

/-- 'cupolalaw18.LocalOwn', WHERE WHAT IT READS IS OF BULK AT MOST 1048576: true; the input reads as it did. -/
def localOwnUptoRow : OpenClaim := { program := "ytocehjbdnhmkfaagreat", sum := "eaf4387bf01b3cfe5775d456e61967a6aa8acf10bd8b8f1adeca8d801a46d2be", func := "cupola/cupolalaw18.LocalOwn", spec := "localOwn", unfollowed := true, recurses := true, apart := false, narrowed := true }
def LocalOwnUptoSaid : Prop := localOwnUptoRow.holds Tryz.pinned (OpenSpec.upto localOwnSpec)

/-- 'cupolalaw16.AxiomAlone', WHERE WHAT IT READS IS OF BULK AT MOST 1048576: true; the input reads as it did. -/
def axiomAloneUptoRow : OpenClaim := { program := "ytocehjbdnhmkfaagreat", sum := "eaf4387bf01b3cfe5775d456e61967a6aa8acf10bd8b8f1adeca8d801a46d2be", func := "cupola/cupolalaw16.AxiomAlone", spec := "axiomAlone", unfollowed := true, recurses := true, apart := false, narrowed := true }
def AxiomAloneUptoSaid : Prop := axiomAloneUptoRow.holds Tryz.pinned (OpenSpec.upto axiomAloneSpec)

/-- 'cupolalaw16.AxiomLine', WHERE WHAT IT READS IS OF BULK AT MOST 1048576: true; the input reads as it did. -/
def axiomLineUptoRow : OpenClaim := { program := "ytocehjbdnhmkfaagreat", sum := "eaf4387bf01b3cfe5775d456e61967a6aa8acf10bd8b8f1adeca8d801a46d2be", func := "cupola/cupolalaw16.AxiomLine", spec := "axiomLine", unfollowed := true, recurses := true, apart := false, narrowed := true }
def AxiomLineUptoSaid : Prop := axiomLineUptoRow.holds Tryz.pinned (OpenSpec.upto axiomLineSpec)

/-- 'cupolalaw16.AxiomOwn', WHERE WHAT IT READS IS OF BULK AT MOST 1048576: true; the input reads as it did. -/
def axiomOwnUptoRow : OpenClaim := { program := "ytocehjbdnhmkfaagreat", sum := "eaf4387bf01b3cfe5775d456e61967a6aa8acf10bd8b8f1adeca8d801a46d2be", func := "cupola/cupolalaw16.AxiomOwn", spec := "axiomOwn", unfollowed := true, recurses := true, apart := false, narrowed := true }
def AxiomOwnUptoSaid : Prop := axiomOwnUptoRow.holds Tryz.pinned (OpenSpec.upto axiomOwnSpec)

/-- 'cupolalaw16.AxiomWide', WHERE WHAT IT READS IS OF BULK AT MOST 1048576: true; the input reads as it did. -/
def axiomWideUptoRow : OpenClaim := { program := "ytocehjbdnhmkfaagreat", sum := "eaf4387bf01b3cfe5775d456e61967a6aa8acf10bd8b8f1adeca8d801a46d2be", func := "cupola/cupolalaw16.AxiomWide", spec := "axiomWide", unfollowed := true, recurses := true, apart := false, narrowed := true }
def AxiomWideUptoSaid : Prop := axiomWideUptoRow.holds Tryz.pinned (OpenSpec.upto axiomWideSpec)

/-- 'cupolalaw16.AxiomFew', WHERE WHAT IT READS IS OF BULK AT MOST 1048576: true; the input reads as it did. -/
def axiomFewUptoRow : OpenClaim := { program := "ytocehjbdnhmkfaagreat", sum := "eaf4387bf01b3cfe5775d456e61967a6aa8acf10bd8b8f1adeca8d801a46d2be", func := "cupola/cupolalaw16.AxiomFew", spec := "axiomFew", unfollowed := true, recurses := true, apart := false, narrowed := true }
def AxiomFewUptoSaid : Prop := axiomFewUptoRow.holds Tryz.pinned (OpenSpec.upto axiomFewSpec)

/-- 'cupolalaw16.AxiomRegs', WHERE WHAT IT READS IS OF BULK AT MOST 1048576: true; the input reads as it did. -/
def axiomRegsUptoRow : OpenClaim := { program := "ytocehjbdnhmkfaagreat", sum := "eaf4387bf01b3cfe5775d456e61967a6aa8acf10bd8b8f1adeca8d801a46d2be", func := "cupola/cupolalaw16.AxiomRegs", spec := "axiomRegs", unfollowed := true, recurses := true, apart := false, narrowed := true }
def AxiomRegsUptoSaid : Prop := axiomRegsUptoRow.holds Tryz.pinned (OpenSpec.upto axiomRegsSpec)

/-- 'cupolalaw18.LocalIs', WHERE WHAT IT READS IS OF BULK AT MOST 1048576: true; the input reads as it did. -/
def localIsUptoRow : OpenClaim := { program := "ytocehjbdnhmkfaagreat", sum := "eaf4387bf01b3cfe5775d456e61967a6aa8acf10bd8b8f1adeca8d801a46d2be", func := "cupola/cupolalaw18.LocalIs", spec := "localIs", unfollowed := true, recurses := true, apart := false, narrowed := true }
def LocalIsUptoSaid : Prop := localIsUptoRow.holds Tryz.pinned (OpenSpec.upto localIsSpec)

end Rows
end Go.Proofs.YtocehjbdnhmkfaaGreat
