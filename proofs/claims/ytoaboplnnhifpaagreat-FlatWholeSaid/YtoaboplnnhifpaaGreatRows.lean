/-
  No cell of these rows narrows 'for every input' (looked for: loops, veiled, ifaces, maps, wideKeys, modest, calm, conditions, laid).
  DERIVED. THE GIVEN ROWS OF THIS SEAT. 12 by the template 'for every input the law returns true; each argument reads behind the call as it read before'; 0 by the template 'total and deterministic' (their statements: YtoaboplnnhifpaaGreatTotals.lean).
  GIVEN WITH THE SEED: the statements are not yours to turn. If you find one false, say at which input.
  Laid BY PROGRAM, IN A SANDBOX (cutbox-rows.mjs): the forced cells as the released guide's own fill.sh prints them over the translation 77d98c1d522ce483… (all of the seat's roots in one cut). By AI agents, Wed Nov 11 2026. No macro, syntax, notation, axiom, sorry.
-/
import Derived.Test.YtoaboplnnhifpaaGreatChecked
import GoSem.Claim
import GoSem.ClaimJoined
import GoSem.ClaimMapViews
import Derived.JoinedTies
import Derived.KernelRfl
namespace Go.Proofs.YtoaboplnnhifpaaGreat
/- THE CELL 'sum', in the pinned program and in every row, IS THE sha256 OF THE DUMP (.gsa) THAT YtoaboplnnhifpaaGreatProg.lean LOADS. Nothing in Lean hashes anything: it is a label: what it is worth is what the hold of that sum in a sandbox is worth. -/
noncomputable def Tryz.pinned : Pinned := { name := "ytoaboplnnhifpaagreat", sum := "77d98c1d522ce483e6cae821660bfe6043aead6c00b72189760e20c3437bc027", checked := Tryz.checked }
namespace Rows
def none {H : Type} : Left H := { results := [], args := [] }

/-- 'cupolalaw19.FlatSteps': WHATEVER THE INPUT: true; the input reads as it did. -/
def flatStepsSpec : ChangeSpec := { name := "flatSteps", fn := fun _ => fun
  | [d1, d2, d3] => { results := [.lit (.bool true)], args := [d1, d2, d3] }
  | _ => none }
def flatStepsRow : OpenClaim := { program := "ytoaboplnnhifpaagreat", sum := "77d98c1d522ce483e6cae821660bfe6043aead6c00b72189760e20c3437bc027", func := "cupola/cupolalaw19.FlatSteps", spec := "flatSteps", unfollowed := true, recurses := true, apart := false }
def FlatStepsSaid : Prop := flatStepsRow.holds Tryz.pinned (OpenSpec.ofChange flatStepsSpec)

/-- ITS FALSE NEIGHBOUR: 'it returns false'. Refute it at one input. -/
def flatStepsWrong : ChangeSpec := { name := "flatSteps", fn := fun _ => fun
  | [d1, d2, d3] => { results := [.lit (.bool false)], args := [d1, d2, d3] }
  | _ => none }
def FlatStepsWrongFalsely : Prop := flatStepsRow.holds Tryz.pinned (OpenSpec.ofChange flatStepsWrong)

/-- 'cupolalaw19.FlatLines': WHATEVER THE INPUT: true; the input reads as it did. -/
def flatLinesSpec : ChangeSpec := { name := "flatLines", fn := fun _ => fun
  | [d1, d2, d3] => { results := [.lit (.bool true)], args := [d1, d2, d3] }
  | _ => none }
def flatLinesRow : OpenClaim := { program := "ytoaboplnnhifpaagreat", sum := "77d98c1d522ce483e6cae821660bfe6043aead6c00b72189760e20c3437bc027", func := "cupola/cupolalaw19.FlatLines", spec := "flatLines", unfollowed := true, recurses := true, apart := false }
def FlatLinesSaid : Prop := flatLinesRow.holds Tryz.pinned (OpenSpec.ofChange flatLinesSpec)

/-- ITS FALSE NEIGHBOUR: 'it returns false'. Refute it at one input. -/
def flatLinesWrong : ChangeSpec := { name := "flatLines", fn := fun _ => fun
  | [d1, d2, d3] => { results := [.lit (.bool false)], args := [d1, d2, d3] }
  | _ => none }
def FlatLinesWrongFalsely : Prop := flatLinesRow.holds Tryz.pinned (OpenSpec.ofChange flatLinesWrong)

/-- 'cupolalaw19.FlatFirst': WHATEVER THE INPUT: true; the input reads as it did. -/
def flatFirstSpec : ChangeSpec := { name := "flatFirst", fn := fun _ => fun
  | [d1, d2] => { results := [.lit (.bool true)], args := [d1, d2] }
  | _ => none }
def flatFirstRow : OpenClaim := { program := "ytoaboplnnhifpaagreat", sum := "77d98c1d522ce483e6cae821660bfe6043aead6c00b72189760e20c3437bc027", func := "cupola/cupolalaw19.FlatFirst", spec := "flatFirst", unfollowed := true, recurses := true, apart := false }
def FlatFirstSaid : Prop := flatFirstRow.holds Tryz.pinned (OpenSpec.ofChange flatFirstSpec)

/-- ITS FALSE NEIGHBOUR: 'it returns false'. Refute it at one input. -/
def flatFirstWrong : ChangeSpec := { name := "flatFirst", fn := fun _ => fun
  | [d1, d2] => { results := [.lit (.bool false)], args := [d1, d2] }
  | _ => none }
def FlatFirstWrongFalsely : Prop := flatFirstRow.holds Tryz.pinned (OpenSpec.ofChange flatFirstWrong)

/-- 'cupolalaw19.FlatSound': WHATEVER THE INPUT: true; the input reads as it did. -/
def flatSoundSpec : ChangeSpec := { name := "flatSound", fn := fun _ => fun
  | [d1, d2, d3] => { results := [.lit (.bool true)], args := [d1, d2, d3] }
  | _ => none }
def flatSoundRow : OpenClaim := { program := "ytoaboplnnhifpaagreat", sum := "77d98c1d522ce483e6cae821660bfe6043aead6c00b72189760e20c3437bc027", func := "cupola/cupolalaw19.FlatSound", spec := "flatSound", unfollowed := true, recurses := true, apart := false }
def FlatSoundSaid : Prop := flatSoundRow.holds Tryz.pinned (OpenSpec.ofChange flatSoundSpec)

/-- ITS FALSE NEIGHBOUR: 'it returns false'. Refute it at one input. -/
def flatSoundWrong : ChangeSpec := { name := "flatSound", fn := fun _ => fun
  | [d1, d2, d3] => { results := [.lit (.bool false)], args := [d1, d2, d3] }
  | _ => none }
def FlatSoundWrongFalsely : Prop := flatSoundRow.holds Tryz.pinned (OpenSpec.ofChange flatSoundWrong)

/-- 'cupolalaw19.FlatWhole': WHATEVER THE INPUT: true; the input reads as it did. -/
def flatWholeSpec : ChangeSpec := { name := "flatWhole", fn := fun _ => fun
  | [d1, d2] => { results := [.lit (.bool true)], args := [d1, d2] }
  | _ => none }
def flatWholeRow : OpenClaim := { program := "ytoaboplnnhifpaagreat", sum := "77d98c1d522ce483e6cae821660bfe6043aead6c00b72189760e20c3437bc027", func := "cupola/cupolalaw19.FlatWhole", spec := "flatWhole", unfollowed := true, recurses := true, apart := false }
def FlatWholeSaid : Prop := flatWholeRow.holds Tryz.pinned (OpenSpec.ofChange flatWholeSpec)

/-- ITS FALSE NEIGHBOUR: 'it returns false'. Refute it at one input. -/
def flatWholeWrong : ChangeSpec := { name := "flatWhole", fn := fun _ => fun
  | [d1, d2] => { results := [.lit (.bool false)], args := [d1, d2] }
  | _ => none }
def FlatWholeWrongFalsely : Prop := flatWholeRow.holds Tryz.pinned (OpenSpec.ofChange flatWholeWrong)

/-- 'cupolalaw17.AllowedSome': WHATEVER THE INPUT: true; the input reads as it did. -/
def allowedSomeSpec : ChangeSpec := { name := "allowedSome", fn := fun _ => fun
  | [d] => { results := [.lit (.bool true)], args := [d] }
  | _ => none }
def allowedSomeRow : OpenClaim := { program := "ytoaboplnnhifpaagreat", sum := "77d98c1d522ce483e6cae821660bfe6043aead6c00b72189760e20c3437bc027", func := "cupola/cupolalaw17.AllowedSome", spec := "allowedSome", unfollowed := true, recurses := true, apart := false }
def AllowedSomeSaid : Prop := allowedSomeRow.holds Tryz.pinned (OpenSpec.ofChange allowedSomeSpec)

/-- ITS FALSE NEIGHBOUR: 'it returns false'. Refute it at one input. -/
def allowedSomeWrong : ChangeSpec := { name := "allowedSome", fn := fun _ => fun
  | [d] => { results := [.lit (.bool false)], args := [d] }
  | _ => none }
def AllowedSomeWrongFalsely : Prop := allowedSomeRow.holds Tryz.pinned (OpenSpec.ofChange allowedSomeWrong)

/-- 'cupolalaw17.AllowedVals': WHATEVER THE INPUT: true; the input reads as it did. -/
def allowedValsSpec : ChangeSpec := { name := "allowedVals", fn := fun _ => fun
  | [d] => { results := [.lit (.bool true)], args := [d] }
  | _ => none }
def allowedValsRow : OpenClaim := { program := "ytoaboplnnhifpaagreat", sum := "77d98c1d522ce483e6cae821660bfe6043aead6c00b72189760e20c3437bc027", func := "cupola/cupolalaw17.AllowedVals", spec := "allowedVals", unfollowed := true, recurses := true, apart := false }
def AllowedValsSaid : Prop := allowedValsRow.holds Tryz.pinned (OpenSpec.ofChange allowedValsSpec)

/-- ITS FALSE NEIGHBOUR: 'it returns false'. Refute it at one input. -/
def allowedValsWrong : ChangeSpec := { name := "allowedVals", fn := fun _ => fun
  | [d] => { results := [.lit (.bool false)], args := [d] }
  | _ => none }
def AllowedValsWrongFalsely : Prop := allowedValsRow.holds Tryz.pinned (OpenSpec.ofChange allowedValsWrong)

/-- 'cupolalaw17.AllowedAlone': WHATEVER THE INPUT: true; the input reads as it did. -/
def allowedAloneSpec : ChangeSpec := { name := "allowedAlone", fn := fun _ => fun
  | [d1, d2] => { results := [.lit (.bool true)], args := [d1, d2] }
  | _ => none }
def allowedAloneRow : OpenClaim := { program := "ytoaboplnnhifpaagreat", sum := "77d98c1d522ce483e6cae821660bfe6043aead6c00b72189760e20c3437bc027", func := "cupola/cupolalaw17.AllowedAlone", spec := "allowedAlone", unfollowed := true, recurses := true, apart := false }
def AllowedAloneSaid : Prop := allowedAloneRow.holds Tryz.pinned (OpenSpec.ofChange allowedAloneSpec)

/-- ITS FALSE NEIGHBOUR: 'it returns false'. Refute it at one input. -/
def allowedAloneWrong : ChangeSpec := { name := "allowedAlone", fn := fun _ => fun
  | [d1, d2] => { results := [.lit (.bool false)], args := [d1, d2] }
  | _ => none }
def AllowedAloneWrongFalsely : Prop := allowedAloneRow.holds Tryz.pinned (OpenSpec.ofChange allowedAloneWrong)

/-- 'cupolalaw17.AllowedTurned': WHATEVER THE INPUT: true; the input reads as it did. -/
def allowedTurnedSpec : ChangeSpec := { name := "allowedTurned", fn := fun _ => fun
  | [d] => { results := [.lit (.bool true)], args := [d] }
  | _ => none }
def allowedTurnedRow : OpenClaim := { program := "ytoaboplnnhifpaagreat", sum := "77d98c1d522ce483e6cae821660bfe6043aead6c00b72189760e20c3437bc027", func := "cupola/cupolalaw17.AllowedTurned", spec := "allowedTurned", unfollowed := true, recurses := true, apart := false }
def AllowedTurnedSaid : Prop := allowedTurnedRow.holds Tryz.pinned (OpenSpec.ofChange allowedTurnedSpec)

/-- ITS FALSE NEIGHBOUR: 'it returns false'. Refute it at one input. -/
def allowedTurnedWrong : ChangeSpec := { name := "allowedTurned", fn := fun _ => fun
  | [d] => { results := [.lit (.bool false)], args := [d] }
  | _ => none }
def AllowedTurnedWrongFalsely : Prop := allowedTurnedRow.holds Tryz.pinned (OpenSpec.ofChange allowedTurnedWrong)

/-- 'cupolalaw17.AllowedFenced': WHATEVER THE INPUT: true; the input reads as it did. -/
def allowedFencedSpec : ChangeSpec := { name := "allowedFenced", fn := fun _ => fun
  | [d] => { results := [.lit (.bool true)], args := [d] }
  | _ => none }
def allowedFencedRow : OpenClaim := { program := "ytoaboplnnhifpaagreat", sum := "77d98c1d522ce483e6cae821660bfe6043aead6c00b72189760e20c3437bc027", func := "cupola/cupolalaw17.AllowedFenced", spec := "allowedFenced", unfollowed := true, recurses := true, apart := false }
def AllowedFencedSaid : Prop := allowedFencedRow.holds Tryz.pinned (OpenSpec.ofChange allowedFencedSpec)

/-- ITS FALSE NEIGHBOUR: 'it returns false'. Refute it at one input. -/
def allowedFencedWrong : ChangeSpec := { name := "allowedFenced", fn := fun _ => fun
  | [d] => { results := [.lit (.bool false)], args := [d] }
  | _ => none }
def AllowedFencedWrongFalsely : Prop := allowedFencedRow.holds Tryz.pinned (OpenSpec.ofChange allowedFencedWrong)

/-- 'cupolalaw17.AllowedWays': WHATEVER THE INPUT: true; the input reads as it did. -/
def allowedWaysSpec : ChangeSpec := { name := "allowedWays", fn := fun _ => fun
  | [d1, d2] => { results := [.lit (.bool true)], args := [d1, d2] }
  | _ => none }
def allowedWaysRow : OpenClaim := { program := "ytoaboplnnhifpaagreat", sum := "77d98c1d522ce483e6cae821660bfe6043aead6c00b72189760e20c3437bc027", func := "cupola/cupolalaw17.AllowedWays", spec := "allowedWays", unfollowed := true, recurses := true, apart := false }
def AllowedWaysSaid : Prop := allowedWaysRow.holds Tryz.pinned (OpenSpec.ofChange allowedWaysSpec)

/-- ITS FALSE NEIGHBOUR: 'it returns false'. Refute it at one input. -/
def allowedWaysWrong : ChangeSpec := { name := "allowedWays", fn := fun _ => fun
  | [d1, d2] => { results := [.lit (.bool false)], args := [d1, d2] }
  | _ => none }
def AllowedWaysWrongFalsely : Prop := allowedWaysRow.holds Tryz.pinned (OpenSpec.ofChange allowedWaysWrong)

/-- 'cupolalaw17.AllowedTells': WHATEVER THE INPUT: true; the input reads as it did. -/
def allowedTellsSpec : ChangeSpec := { name := "allowedTells", fn := fun _ => fun
  | [d] => { results := [.lit (.bool true)], args := [d] }
  | _ => none }
def allowedTellsRow : OpenClaim := { program := "ytoaboplnnhifpaagreat", sum := "77d98c1d522ce483e6cae821660bfe6043aead6c00b72189760e20c3437bc027", func := "cupola/cupolalaw17.AllowedTells", spec := "allowedTells", unfollowed := true, recurses := true, apart := false }
def AllowedTellsSaid : Prop := allowedTellsRow.holds Tryz.pinned (OpenSpec.ofChange allowedTellsSpec)

/-- ITS FALSE NEIGHBOUR: 'it returns false'. Refute it at one input. -/
def allowedTellsWrong : ChangeSpec := { name := "allowedTells", fn := fun _ => fun
  | [d] => { results := [.lit (.bool false)], args := [d] }
  | _ => none }
def AllowedTellsWrongFalsely : Prop := allowedTellsRow.holds Tryz.pinned (OpenSpec.ofChange allowedTellsWrong)

/- THE SECOND FORM. 'bulk': how many values and letters a reading holds, each counted each time it is reached (what is shared counts as often as it is met; a slice's spare places count too). A statement '..UptoSaid' is the law's where the arguments, and the package variables that the reading takes, are together of bulk at most 1048576: NARROWER than '..Said'. Prove '..Said' where nothing that the law and all that it calls make is longer than what came in: it says more and counts as full. Else prove '..UptoSaid'. A law counts once. -/
mutual
def uptoBulk {H : Type} : DataW H → Nat
  | .lit (.string bytes) => bytes.length + 1
  | .lit _ => 1
  | .nil => 1
  | .ptr d => uptoBulk d + 1
  | .slice elems spare => uptoBulkAll elems + uptoBulkAll spare + 1
  | .agg parts => uptoBulkAll parts + 1
  | .iface _ d => uptoBulk d + 1
  | .map entries => uptoBulkEntries entries + 1
  | .held _ => 1
def uptoBulkAll {H : Type} : List (DataW H) → Nat
  | [] => 0
  | d :: r => uptoBulk d + uptoBulkAll r
def uptoBulkEntries {H : Type} : List (Lit × DataW H) → Nat
  | [] => 0
  | x :: r => uptoBulkEntry x + uptoBulkEntries r
def uptoBulkEntry {H : Type} : Lit × DataW H → Nat
  | (.string bytes, d) => bytes.length + uptoBulk d + 1
  | (_, d) => uptoBulk d + 1
 end
def uptoSmall : (H : Type) → List (DataW H) → Bool := fun _ ds => decide (uptoBulkAll ds ≤ 1048576)
def OpenSpec.upto (s : _root_.Go.ChangeSpec) : _root_.Go.OpenSpec := { _root_.Go.OpenSpec.ofChange s with cond := some uptoSmall }

/-- 'cupolalaw19.FlatSteps', WHERE WHAT IT READS IS OF BULK AT MOST 1048576: true; the input reads as it did. -/
def flatStepsUptoRow : OpenClaim := { program := "ytoaboplnnhifpaagreat", sum := "77d98c1d522ce483e6cae821660bfe6043aead6c00b72189760e20c3437bc027", func := "cupola/cupolalaw19.FlatSteps", spec := "flatSteps", unfollowed := true, recurses := true, apart := false, narrowed := true }
def FlatStepsUptoSaid : Prop := flatStepsUptoRow.holds Tryz.pinned (OpenSpec.upto flatStepsSpec)

/-- 'cupolalaw19.FlatLines', WHERE WHAT IT READS IS OF BULK AT MOST 1048576: true; the input reads as it did. -/
def flatLinesUptoRow : OpenClaim := { program := "ytoaboplnnhifpaagreat", sum := "77d98c1d522ce483e6cae821660bfe6043aead6c00b72189760e20c3437bc027", func := "cupola/cupolalaw19.FlatLines", spec := "flatLines", unfollowed := true, recurses := true, apart := false, narrowed := true }
def FlatLinesUptoSaid : Prop := flatLinesUptoRow.holds Tryz.pinned (OpenSpec.upto flatLinesSpec)

/-- 'cupolalaw19.FlatFirst', WHERE WHAT IT READS IS OF BULK AT MOST 1048576: true; the input reads as it did. -/
def flatFirstUptoRow : OpenClaim := { program := "ytoaboplnnhifpaagreat", sum := "77d98c1d522ce483e6cae821660bfe6043aead6c00b72189760e20c3437bc027", func := "cupola/cupolalaw19.FlatFirst", spec := "flatFirst", unfollowed := true, recurses := true, apart := false, narrowed := true }
def FlatFirstUptoSaid : Prop := flatFirstUptoRow.holds Tryz.pinned (OpenSpec.upto flatFirstSpec)

/-- 'cupolalaw19.FlatSound', WHERE WHAT IT READS IS OF BULK AT MOST 1048576: true; the input reads as it did. -/
def flatSoundUptoRow : OpenClaim := { program := "ytoaboplnnhifpaagreat", sum := "77d98c1d522ce483e6cae821660bfe6043aead6c00b72189760e20c3437bc027", func := "cupola/cupolalaw19.FlatSound", spec := "flatSound", unfollowed := true, recurses := true, apart := false, narrowed := true }
def FlatSoundUptoSaid : Prop := flatSoundUptoRow.holds Tryz.pinned (OpenSpec.upto flatSoundSpec)

/-- 'cupolalaw19.FlatWhole', WHERE WHAT IT READS IS OF BULK AT MOST 1048576: true; the input reads as it did. -/
def flatWholeUptoRow : OpenClaim := { program := "ytoaboplnnhifpaagreat", sum := "77d98c1d522ce483e6cae821660bfe6043aead6c00b72189760e20c3437bc027", func := "cupola/cupolalaw19.FlatWhole", spec := "flatWhole", unfollowed := true, recurses := true, apart := false, narrowed := true }
def FlatWholeUptoSaid : Prop := flatWholeUptoRow.holds Tryz.pinned (OpenSpec.upto flatWholeSpec)

/-- 'cupolalaw17.AllowedSome', WHERE WHAT IT READS IS OF BULK AT MOST 1048576: true; the input reads as it did. -/
def allowedSomeUptoRow : OpenClaim := { program := "ytoaboplnnhifpaagreat", sum := "77d98c1d522ce483e6cae821660bfe6043aead6c00b72189760e20c3437bc027", func := "cupola/cupolalaw17.AllowedSome", spec := "allowedSome", unfollowed := true, recurses := true, apart := false, narrowed := true }
def AllowedSomeUptoSaid : Prop := allowedSomeUptoRow.holds Tryz.pinned (OpenSpec.upto allowedSomeSpec)

/-- 'cupolalaw17.AllowedVals', WHERE WHAT IT READS IS OF BULK AT MOST 1048576: true; the input reads as it did. -/
def allowedValsUptoRow : OpenClaim := { program := "ytoaboplnnhifpaagreat", sum := "77d98c1d522ce483e6cae821660bfe6043aead6c00b72189760e20c3437bc027", func := "cupola/cupolalaw17.AllowedVals", spec := "allowedVals", unfollowed := true, recurses := true, apart := false, narrowed := true }
def AllowedValsUptoSaid : Prop := allowedValsUptoRow.holds Tryz.pinned (OpenSpec.upto allowedValsSpec)

/-- 'cupolalaw17.AllowedAlone', WHERE WHAT IT READS IS OF BULK AT MOST 1048576: true; the input reads as it did. -/
def allowedAloneUptoRow : OpenClaim := { program := "ytoaboplnnhifpaagreat", sum := "77d98c1d522ce483e6cae821660bfe6043aead6c00b72189760e20c3437bc027", func := "cupola/cupolalaw17.AllowedAlone", spec := "allowedAlone", unfollowed := true, recurses := true, apart := false, narrowed := true }
def AllowedAloneUptoSaid : Prop := allowedAloneUptoRow.holds Tryz.pinned (OpenSpec.upto allowedAloneSpec)

/-- 'cupolalaw17.AllowedTurned', WHERE WHAT IT READS IS OF BULK AT MOST 1048576: true; the input reads as it did. -/
def allowedTurnedUptoRow : OpenClaim := { program := "ytoaboplnnhifpaagreat", sum := "77d98c1d522ce483e6cae821660bfe6043aead6c00b72189760e20c3437bc027", func := "cupola/cupolalaw17.AllowedTurned", spec := "allowedTurned", unfollowed := true, recurses := true, apart := false, narrowed := true }
def AllowedTurnedUptoSaid : Prop := allowedTurnedUptoRow.holds Tryz.pinned (OpenSpec.upto allowedTurnedSpec)

/-- 'cupolalaw17.AllowedFenced', WHERE WHAT IT READS IS OF BULK AT MOST 1048576: true; the input reads as it did. -/
def allowedFencedUptoRow : OpenClaim := { program := "ytoaboplnnhifpaagreat", sum := "77d98c1d522ce483e6cae821660bfe6043aead6c00b72189760e20c3437bc027", func := "cupola/cupolalaw17.AllowedFenced", spec := "allowedFenced", unfollowed := true, recurses := true, apart := false, narrowed := true }
def AllowedFencedUptoSaid : Prop := allowedFencedUptoRow.holds Tryz.pinned (OpenSpec.upto allowedFencedSpec)

/-- 'cupolalaw17.AllowedWays', WHERE WHAT IT READS IS OF BULK AT MOST 1048576: true; the input reads as it did. -/
def allowedWaysUptoRow : OpenClaim := { program := "ytoaboplnnhifpaagreat", sum := "77d98c1d522ce483e6cae821660bfe6043aead6c00b72189760e20c3437bc027", func := "cupola/cupolalaw17.AllowedWays", spec := "allowedWays", unfollowed := true, recurses := true, apart := false, narrowed := true }
def AllowedWaysUptoSaid : Prop := allowedWaysUptoRow.holds Tryz.pinned (OpenSpec.upto allowedWaysSpec)

/-- 'cupolalaw17.AllowedTells', WHERE WHAT IT READS IS OF BULK AT MOST 1048576: true; the input reads as it did. -/
def allowedTellsUptoRow : OpenClaim := { program := "ytoaboplnnhifpaagreat", sum := "77d98c1d522ce483e6cae821660bfe6043aead6c00b72189760e20c3437bc027", func := "cupola/cupolalaw17.AllowedTells", spec := "allowedTells", unfollowed := true, recurses := true, apart := false, narrowed := true }
def AllowedTellsUptoSaid : Prop := allowedTellsUptoRow.holds Tryz.pinned (OpenSpec.upto allowedTellsSpec)

end Rows
end Go.Proofs.YtoaboplnnhifpaaGreat
