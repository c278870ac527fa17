/-
  No cell of these rows narrows 'for every input' (looked for: loops, veiled, ifaces, maps, wideKeys, modest, calm, conditions, laid).
  DERIVED. THE GIVEN ROWS OF THIS SEAT. 12 by the template 'for every input the law returns true; each argument reads behind the call as it read before'; 0 by the template 'total and deterministic' (their statements: YtmadelflnjhibaaTotals.lean).
  GIVEN WITH THE SEED: the statements are not yours to turn. If you find one false, say at which input.
  Laid BY PROGRAM, IN A SANDBOX (cutbox-rows.mjs): the forced cells as the released guide's own fill.sh prints them over the translation 23d8bcda0ffa3970… (all of the seat's roots in one cut). By AI agents, Wed Nov 11 2026. No macro, syntax, notation, axiom, sorry.
-/
import Derived.Test.YtmadelflnjhibaaChecked
import GoSem.Claim
import GoSem.ClaimJoined
import GoSem.ClaimMapViews
import Derived.JoinedTies
import Derived.KernelRfl
namespace Go.Proofs.Ytmadelflnjhibaa
/- THE CELL 'sum', in the pinned program and in every row, IS THE sha256 OF THE DUMP (.gsa) THAT YtmadelflnjhibaaProg.lean LOADS. Nothing in Lean hashes anything: it is a label: what it is worth is what the hold of that sum in a sandbox is worth. -/
noncomputable def Try.pinned : Pinned := { name := "ytmadelflnjhibaa", sum := "23d8bcda0ffa3970975531f432f4725e5a7fbfcdcfc0025567e27712149be53e", checked := Try.checked }
namespace Rows
def none {H : Type} : Left H := { results := [], args := [] }

/-- 'beaglelaw11.SymbMarks': WHATEVER THE INPUT: true; the input reads as it did. -/
def symbMarksSpec : ChangeSpec := { name := "symbMarks", fn := fun _ => fun
  | [d1, d2, d3] => { results := [.lit (.bool true)], args := [d1, d2, d3] }
  | _ => none }
def symbMarksRow : OpenClaim := { program := "ytmadelflnjhibaa", sum := "23d8bcda0ffa3970975531f432f4725e5a7fbfcdcfc0025567e27712149be53e", func := "beagle/beaglelaw11.SymbMarks", spec := "symbMarks", unfollowed := true, recurses := true, plainKeys := false, apart := false }
def SymbMarksSaid : Prop := symbMarksRow.holds Try.pinned (OpenSpec.ofChange symbMarksSpec)

/-- ITS FALSE NEIGHBOUR: 'it returns false'. Refute it at one input. -/
def symbMarksWrong : ChangeSpec := { name := "symbMarks", fn := fun _ => fun
  | [d1, d2, d3] => { results := [.lit (.bool false)], args := [d1, d2, d3] }
  | _ => none }
def SymbMarksWrongFalsely : Prop := symbMarksRow.holds Try.pinned (OpenSpec.ofChange symbMarksWrong)

/-- 'beaglelaw11.SymbCounts': WHATEVER THE INPUT: true; the input reads as it did. -/
def symbCountsSpec : ChangeSpec := { name := "symbCounts", fn := fun _ => fun
  | [d1, d2, d3] => { results := [.lit (.bool true)], args := [d1, d2, d3] }
  | _ => none }
def symbCountsRow : OpenClaim := { program := "ytmadelflnjhibaa", sum := "23d8bcda0ffa3970975531f432f4725e5a7fbfcdcfc0025567e27712149be53e", func := "beagle/beaglelaw11.SymbCounts", spec := "symbCounts", unfollowed := true, recurses := true, plainKeys := false, apart := false }
def SymbCountsSaid : Prop := symbCountsRow.holds Try.pinned (OpenSpec.ofChange symbCountsSpec)

/-- ITS FALSE NEIGHBOUR: 'it returns false'. Refute it at one input. -/
def symbCountsWrong : ChangeSpec := { name := "symbCounts", fn := fun _ => fun
  | [d1, d2, d3] => { results := [.lit (.bool false)], args := [d1, d2, d3] }
  | _ => none }
def SymbCountsWrongFalsely : Prop := symbCountsRow.holds Try.pinned (OpenSpec.ofChange symbCountsWrong)

/-- 'beaglelaw11.SymbFinds': WHATEVER THE INPUT: true; the input reads as it did. -/
def symbFindsSpec : ChangeSpec := { name := "symbFinds", fn := fun _ => fun
  | [d1, d2, d3] => { results := [.lit (.bool true)], args := [d1, d2, d3] }
  | _ => none }
def symbFindsRow : OpenClaim := { program := "ytmadelflnjhibaa", sum := "23d8bcda0ffa3970975531f432f4725e5a7fbfcdcfc0025567e27712149be53e", func := "beagle/beaglelaw11.SymbFinds", spec := "symbFinds", unfollowed := true, recurses := true, plainKeys := false, apart := false }
def SymbFindsSaid : Prop := symbFindsRow.holds Try.pinned (OpenSpec.ofChange symbFindsSpec)

/-- ITS FALSE NEIGHBOUR: 'it returns false'. Refute it at one input. -/
def symbFindsWrong : ChangeSpec := { name := "symbFinds", fn := fun _ => fun
  | [d1, d2, d3] => { results := [.lit (.bool false)], args := [d1, d2, d3] }
  | _ => none }
def SymbFindsWrongFalsely : Prop := symbFindsRow.holds Try.pinned (OpenSpec.ofChange symbFindsWrong)

/-- 'beaglelaw11.SymbKinds': WHATEVER THE INPUT: true; the input reads as it did. -/
def symbKindsSpec : ChangeSpec := { name := "symbKinds", fn := fun _ => fun
  | [d1, d2, d3] => { results := [.lit (.bool true)], args := [d1, d2, d3] }
  | _ => none }
def symbKindsRow : OpenClaim := { program := "ytmadelflnjhibaa", sum := "23d8bcda0ffa3970975531f432f4725e5a7fbfcdcfc0025567e27712149be53e", func := "beagle/beaglelaw11.SymbKinds", spec := "symbKinds", unfollowed := true, recurses := true, plainKeys := false, apart := false }
def SymbKindsSaid : Prop := symbKindsRow.holds Try.pinned (OpenSpec.ofChange symbKindsSpec)

/-- ITS FALSE NEIGHBOUR: 'it returns false'. Refute it at one input. -/
def symbKindsWrong : ChangeSpec := { name := "symbKinds", fn := fun _ => fun
  | [d1, d2, d3] => { results := [.lit (.bool false)], args := [d1, d2, d3] }
  | _ => none }
def SymbKindsWrongFalsely : Prop := symbKindsRow.holds Try.pinned (OpenSpec.ofChange symbKindsWrong)

/-- 'beaglelaw11.SymbSizes': WHATEVER THE INPUT: true; the input reads as it did. -/
def symbSizesSpec : ChangeSpec := { name := "symbSizes", fn := fun _ => fun
  | [d1, d2, d3] => { results := [.lit (.bool true)], args := [d1, d2, d3] }
  | _ => none }
def symbSizesRow : OpenClaim := { program := "ytmadelflnjhibaa", sum := "23d8bcda0ffa3970975531f432f4725e5a7fbfcdcfc0025567e27712149be53e", func := "beagle/beaglelaw11.SymbSizes", spec := "symbSizes", unfollowed := true, recurses := true, plainKeys := false, apart := false }
def SymbSizesSaid : Prop := symbSizesRow.holds Try.pinned (OpenSpec.ofChange symbSizesSpec)

/-- ITS FALSE NEIGHBOUR: 'it returns false'. Refute it at one input. -/
def symbSizesWrong : ChangeSpec := { name := "symbSizes", fn := fun _ => fun
  | [d1, d2, d3] => { results := [.lit (.bool false)], args := [d1, d2, d3] }
  | _ => none }
def SymbSizesWrongFalsely : Prop := symbSizesRow.holds Try.pinned (OpenSpec.ofChange symbSizesWrong)

/-- 'beaglelaw11.SymbTurned': WHATEVER THE INPUT: true; the input reads as it did. -/
def symbTurnedSpec : ChangeSpec := { name := "symbTurned", fn := fun _ => fun
  | [d1, d2, d3] => { results := [.lit (.bool true)], args := [d1, d2, d3] }
  | _ => none }
def symbTurnedRow : OpenClaim := { program := "ytmadelflnjhibaa", sum := "23d8bcda0ffa3970975531f432f4725e5a7fbfcdcfc0025567e27712149be53e", func := "beagle/beaglelaw11.SymbTurned", spec := "symbTurned", unfollowed := true, recurses := true, plainKeys := false, apart := false }
def SymbTurnedSaid : Prop := symbTurnedRow.holds Try.pinned (OpenSpec.ofChange symbTurnedSpec)

/-- ITS FALSE NEIGHBOUR: 'it returns false'. Refute it at one input. -/
def symbTurnedWrong : ChangeSpec := { name := "symbTurned", fn := fun _ => fun
  | [d1, d2, d3] => { results := [.lit (.bool false)], args := [d1, d2, d3] }
  | _ => none }
def SymbTurnedWrongFalsely : Prop := symbTurnedRow.holds Try.pinned (OpenSpec.ofChange symbTurnedWrong)

/-- 'beaglelaw12.SplitParts': WHATEVER THE INPUT: true; the input reads as it did. -/
def splitPartsSpec : ChangeSpec := { name := "splitParts", fn := fun _ => fun
  | [d1, d2] => { results := [.lit (.bool true)], args := [d1, d2] }
  | _ => none }
def splitPartsRow : OpenClaim := { program := "ytmadelflnjhibaa", sum := "23d8bcda0ffa3970975531f432f4725e5a7fbfcdcfc0025567e27712149be53e", func := "beagle/beaglelaw12.SplitParts", spec := "splitParts", unfollowed := true, recurses := true, plainKeys := false, apart := false }
def SplitPartsSaid : Prop := splitPartsRow.holds Try.pinned (OpenSpec.ofChange splitPartsSpec)

/-- ITS FALSE NEIGHBOUR: 'it returns false'. Refute it at one input. -/
def splitPartsWrong : ChangeSpec := { name := "splitParts", fn := fun _ => fun
  | [d1, d2] => { results := [.lit (.bool false)], args := [d1, d2] }
  | _ => none }
def SplitPartsWrongFalsely : Prop := splitPartsRow.holds Try.pinned (OpenSpec.ofChange splitPartsWrong)

/-- 'beaglelaw12.SplitRare': WHATEVER THE INPUT: true; the input reads as it did. -/
def splitRareSpec : ChangeSpec := { name := "splitRare", fn := fun _ => fun
  | [d1, d2, d3] => { results := [.lit (.bool true)], args := [d1, d2, d3] }
  | _ => none }
def splitRareRow : OpenClaim := { program := "ytmadelflnjhibaa", sum := "23d8bcda0ffa3970975531f432f4725e5a7fbfcdcfc0025567e27712149be53e", func := "beagle/beaglelaw12.SplitRare", spec := "splitRare", unfollowed := true, recurses := true, plainKeys := false, apart := false }
def SplitRareSaid : Prop := splitRareRow.holds Try.pinned (OpenSpec.ofChange splitRareSpec)

/-- ITS FALSE NEIGHBOUR: 'it returns false'. Refute it at one input. -/
def splitRareWrong : ChangeSpec := { name := "splitRare", fn := fun _ => fun
  | [d1, d2, d3] => { results := [.lit (.bool false)], args := [d1, d2, d3] }
  | _ => none }
def SplitRareWrongFalsely : Prop := splitRareRow.holds Try.pinned (OpenSpec.ofChange splitRareWrong)

/-- 'beaglelaw12.SplitCounts': WHATEVER THE INPUT: true; the input reads as it did. -/
def splitCountsSpec : ChangeSpec := { name := "splitCounts", fn := fun _ => fun
  | [d1, d2, d3] => { results := [.lit (.bool true)], args := [d1, d2, d3] }
  | _ => none }
def splitCountsRow : OpenClaim := { program := "ytmadelflnjhibaa", sum := "23d8bcda0ffa3970975531f432f4725e5a7fbfcdcfc0025567e27712149be53e", func := "beagle/beaglelaw12.SplitCounts", spec := "splitCounts", unfollowed := true, recurses := true, plainKeys := false, apart := false }
def SplitCountsSaid : Prop := splitCountsRow.holds Try.pinned (OpenSpec.ofChange splitCountsSpec)

/-- ITS FALSE NEIGHBOUR: 'it returns false'. Refute it at one input. -/
def splitCountsWrong : ChangeSpec := { name := "splitCounts", fn := fun _ => fun
  | [d1, d2, d3] => { results := [.lit (.bool false)], args := [d1, d2, d3] }
  | _ => none }
def SplitCountsWrongFalsely : Prop := splitCountsRow.holds Try.pinned (OpenSpec.ofChange splitCountsWrong)

/-- 'beaglelaw12.SplitFinds': WHATEVER THE INPUT: true; the input reads as it did. -/
def splitFindsSpec : ChangeSpec := { name := "splitFinds", fn := fun _ => fun
  | [d1, d2, d3] => { results := [.lit (.bool true)], args := [d1, d2, d3] }
  | _ => none }
def splitFindsRow : OpenClaim := { program := "ytmadelflnjhibaa", sum := "23d8bcda0ffa3970975531f432f4725e5a7fbfcdcfc0025567e27712149be53e", func := "beagle/beaglelaw12.SplitFinds", spec := "splitFinds", unfollowed := true, recurses := true, plainKeys := false, apart := false }
def SplitFindsSaid : Prop := splitFindsRow.holds Try.pinned (OpenSpec.ofChange splitFindsSpec)

/-- ITS FALSE NEIGHBOUR: 'it returns false'. Refute it at one input. -/
def splitFindsWrong : ChangeSpec := { name := "splitFinds", fn := fun _ => fun
  | [d1, d2, d3] => { results := [.lit (.bool false)], args := [d1, d2, d3] }
  | _ => none }
def SplitFindsWrongFalsely : Prop := splitFindsRow.holds Try.pinned (OpenSpec.ofChange splitFindsWrong)

/-- 'beaglelaw12.SplitLeast': WHATEVER THE INPUT: true; the input reads as it did. -/
def splitLeastSpec : ChangeSpec := { name := "splitLeast", fn := fun _ => fun
  | [d1, d2, d3] => { results := [.lit (.bool true)], args := [d1, d2, d3] }
  | _ => none }
def splitLeastRow : OpenClaim := { program := "ytmadelflnjhibaa", sum := "23d8bcda0ffa3970975531f432f4725e5a7fbfcdcfc0025567e27712149be53e", func := "beagle/beaglelaw12.SplitLeast", spec := "splitLeast", unfollowed := true, recurses := true, plainKeys := false, apart := false }
def SplitLeastSaid : Prop := splitLeastRow.holds Try.pinned (OpenSpec.ofChange splitLeastSpec)

/-- ITS FALSE NEIGHBOUR: 'it returns false'. Refute it at one input. -/
def splitLeastWrong : ChangeSpec := { name := "splitLeast", fn := fun _ => fun
  | [d1, d2, d3] => { results := [.lit (.bool false)], args := [d1, d2, d3] }
  | _ => none }
def SplitLeastWrongFalsely : Prop := splitLeastRow.holds Try.pinned (OpenSpec.ofChange splitLeastWrong)

/-- 'beaglelaw12.SplitText': WHATEVER THE INPUT: true; the input reads as it did. -/
def splitTextSpec : ChangeSpec := { name := "splitText", fn := fun _ => fun
  | [d1, d2, d3] => { results := [.lit (.bool true)], args := [d1, d2, d3] }
  | _ => none }
def splitTextRow : OpenClaim := { program := "ytmadelflnjhibaa", sum := "23d8bcda0ffa3970975531f432f4725e5a7fbfcdcfc0025567e27712149be53e", func := "beagle/beaglelaw12.SplitText", spec := "splitText", unfollowed := true, recurses := true, plainKeys := false, apart := false }
def SplitTextSaid : Prop := splitTextRow.holds Try.pinned (OpenSpec.ofChange splitTextSpec)

/-- ITS FALSE NEIGHBOUR: 'it returns false'. Refute it at one input. -/
def splitTextWrong : ChangeSpec := { name := "splitText", fn := fun _ => fun
  | [d1, d2, d3] => { results := [.lit (.bool false)], args := [d1, d2, d3] }
  | _ => none }
def SplitTextWrongFalsely : Prop := splitTextRow.holds Try.pinned (OpenSpec.ofChange splitTextWrong)

/- THE SECOND FORM. 'bulk': how many values and letters a reading holds, each counted each time it is reached (what is shared counts as often as it is met; a slice's spare places count too). A statement '..UptoSaid' is the law's where the arguments, and the package variables that the reading takes, are together of bulk at most 1048576: NARROWER than '..Said'. Prove '..Said' where nothing that the law and all that it calls make is longer than what came in: it says more and counts as full. Else prove '..UptoSaid'. A law counts once. -/
mutual
def uptoBulk {H : Type} : DataW H → Nat
  | .lit (.string bytes) => bytes.length + 1
  | .lit _ => 1
  | .nil => 1
  | .ptr d => uptoBulk d + 1
  | .slice elems spare => uptoBulkAll elems + uptoBulkAll spare + 1
  | .agg parts => uptoBulkAll parts + 1
  | .iface _ d => uptoBulk d + 1
  | .map entries => uptoBulkEntries entries + 1
  | .held _ => 1
def uptoBulkAll {H : Type} : List (DataW H) → Nat
  | [] => 0
  | d :: r => uptoBulk d + uptoBulkAll r
def uptoBulkEntries {H : Type} : List (Lit × DataW H) → Nat
  | [] => 0
  | x :: r => uptoBulkEntry x + uptoBulkEntries r
def uptoBulkEntry {H : Type} : Lit × DataW H → Nat
  | (.string bytes, d) => bytes.length + uptoBulk d + 1
  | (_, d) => uptoBulk d + 1
 end
def uptoSmall : (H : Type) → List (DataW H) → Bool := fun _ ds => decide (uptoBulkAll ds ≤ 1048576)
def OpenSpec.upto (s : _root_.Go.ChangeSpec) : _root_.Go.OpenSpec := { _root_.Go.OpenSpec.ofChange s with cond := some uptoSmall }

/-- 'beaglelaw11.SymbMarks', WHERE WHAT IT READS IS OF BULK AT MOST 1048576: true; the input reads as it did. -/
def symbMarksUptoRow : OpenClaim := { program := "ytmadelflnjhibaa", sum := "23d8bcda0ffa3970975531f432f4725e5a7fbfcdcfc0025567e27712149be53e", func := "beagle/beaglelaw11.SymbMarks", spec := "symbMarks", unfollowed := true, recurses := true, plainKeys := false, apart := false, narrowed := true }
def SymbMarksUptoSaid : Prop := symbMarksUptoRow.holds Try.pinned (OpenSpec.upto symbMarksSpec)

/-- 'beaglelaw11.SymbCounts', WHERE WHAT IT READS IS OF BULK AT MOST 1048576: true; the input reads as it did. -/
def symbCountsUptoRow : OpenClaim := { program := "ytmadelflnjhibaa", sum := "23d8bcda0ffa3970975531f432f4725e5a7fbfcdcfc0025567e27712149be53e", func := "beagle/beaglelaw11.SymbCounts", spec := "symbCounts", unfollowed := true, recurses := true, plainKeys := false, apart := false, narrowed := true }
def SymbCountsUptoSaid : Prop := symbCountsUptoRow.holds Try.pinned (OpenSpec.upto symbCountsSpec)

/-- 'beaglelaw11.SymbFinds', WHERE WHAT IT READS IS OF BULK AT MOST 1048576: true; the input reads as it did. -/
def symbFindsUptoRow : OpenClaim := { program := "ytmadelflnjhibaa", sum := "23d8bcda0ffa3970975531f432f4725e5a7fbfcdcfc0025567e27712149be53e", func := "beagle/beaglelaw11.SymbFinds", spec := "symbFinds", unfollowed := true, recurses := true, plainKeys := false, apart := false, narrowed := true }
def SymbFindsUptoSaid : Prop := symbFindsUptoRow.holds Try.pinned (OpenSpec.upto symbFindsSpec)

/-- 'beaglelaw11.SymbKinds', WHERE WHAT IT READS IS OF BULK AT MOST 1048576: true; the input reads as it did. -/
def symbKindsUptoRow : OpenClaim := { program := "ytmadelflnjhibaa", sum := "23d8bcda0ffa3970975531f432f4725e5a7fbfcdcfc0025567e27712149be53e", func := "beagle/beaglelaw11.SymbKinds", spec := "symbKinds", unfollowed := true, recurses := true, plainKeys := false, apart := false, narrowed := true }
def SymbKindsUptoSaid : Prop := symbKindsUptoRow.holds Try.pinned (OpenSpec.upto symbKindsSpec)

/-- 'beaglelaw11.SymbSizes', WHERE WHAT IT READS IS OF BULK AT MOST 1048576: true; the input reads as it did. -/
def symbSizesUptoRow : OpenClaim := { program := "ytmadelflnjhibaa", sum := "23d8bcda0ffa3970975531f432f4725e5a7fbfcdcfc0025567e27712149be53e", func := "beagle/beaglelaw11.SymbSizes", spec := "symbSizes", unfollowed := true, recurses := true, plainKeys := false, apart := false, narrowed := true }
def SymbSizesUptoSaid : Prop := symbSizesUptoRow.holds Try.pinned (OpenSpec.upto symbSizesSpec)

/-- 'beaglelaw11.SymbTurned', WHERE WHAT IT READS IS OF BULK AT MOST 1048576: true; the input reads as it did. -/
def symbTurnedUptoRow : OpenClaim := { program := "ytmadelflnjhibaa", sum := "23d8bcda0ffa3970975531f432f4725e5a7fbfcdcfc0025567e27712149be53e", func := "beagle/beaglelaw11.SymbTurned", spec := "symbTurned", unfollowed := true, recurses := true, plainKeys := false, apart := false, narrowed := true }
def SymbTurnedUptoSaid : Prop := symbTurnedUptoRow.holds Try.pinned (OpenSpec.upto symbTurnedSpec)

/-- 'beaglelaw12.SplitParts', WHERE WHAT IT READS IS OF BULK AT MOST 1048576: true; the input reads as it did. -/
def splitPartsUptoRow : OpenClaim := { program := "ytmadelflnjhibaa", sum := "23d8bcda0ffa3970975531f432f4725e5a7fbfcdcfc0025567e27712149be53e", func := "beagle/beaglelaw12.SplitParts", spec := "splitParts", unfollowed := true, recurses := true, plainKeys := false, apart := false, narrowed := true }
def SplitPartsUptoSaid : Prop := splitPartsUptoRow.holds Try.pinned (OpenSpec.upto splitPartsSpec)

/-- 'beaglelaw12.SplitRare', WHERE WHAT IT READS IS OF BULK AT MOST 1048576: true; the input reads as it did. -/
def splitRareUptoRow : OpenClaim := { program := "ytmadelflnjhibaa", sum := "23d8bcda0ffa3970975531f432f4725e5a7fbfcdcfc0025567e27712149be53e", func := "beagle/beaglelaw12.SplitRare", spec := "splitRare", unfollowed := true, recurses := true, plainKeys := false, apart := false, narrowed := true }
def SplitRareUptoSaid : Prop := splitRareUptoRow.holds Try.pinned (OpenSpec.upto splitRareSpec)

/-- 'beaglelaw12.SplitCounts', WHERE WHAT IT READS IS OF BULK AT MOST 1048576: true; the input reads as it did. -/
def splitCountsUptoRow : OpenClaim := { program := "ytmadelflnjhibaa", sum := "23d8bcda0ffa3970975531f432f4725e5a7fbfcdcfc0025567e27712149be53e", func := "beagle/beaglelaw12.SplitCounts", spec := "splitCounts", unfollowed := true, recurses := true, plainKeys := false, apart := false, narrowed := true }
def SplitCountsUptoSaid : Prop := splitCountsUptoRow.holds Try.pinned (OpenSpec.upto splitCountsSpec)

/-- 'beaglelaw12.SplitFinds', WHERE WHAT IT READS IS OF BULK AT MOST 1048576: true; the input reads as it did. -/
def splitFindsUptoRow : OpenClaim := { program := "ytmadelflnjhibaa", sum := "23d8bcda0ffa3970975531f432f4725e5a7fbfcdcfc0025567e27712149be53e", func := "beagle/beaglelaw12.SplitFinds", spec := "splitFinds", unfollowed := true, recurses := true, plainKeys := false, apart := false, narrowed := true }
def SplitFindsUptoSaid : Prop := splitFindsUptoRow.holds Try.pinned (OpenSpec.upto splitFindsSpec)

/-- 'beaglelaw12.SplitLeast', WHERE WHAT IT READS IS OF BULK AT MOST 1048576: true; the input reads as it did. -/
def splitLeastUptoRow : OpenClaim := { program := "ytmadelflnjhibaa", sum := "23d8bcda0ffa3970975531f432f4725e5a7fbfcdcfc0025567e27712149be53e", func := "beagle/beaglelaw12.SplitLeast", spec := "splitLeast", unfollowed := true, recurses := true, plainKeys := false, apart := false, narrowed := true }
def SplitLeastUptoSaid : Prop := splitLeastUptoRow.holds Try.pinned (OpenSpec.upto splitLeastSpec)

/-- 'beaglelaw12.SplitText', WHERE WHAT IT READS IS OF BULK AT MOST 1048576: true; the input reads as it did. -/
def splitTextUptoRow : OpenClaim := { program := "ytmadelflnjhibaa", sum := "23d8bcda0ffa3970975531f432f4725e5a7fbfcdcfc0025567e27712149be53e", func := "beagle/beaglelaw12.SplitText", spec := "splitText", unfollowed := true, recurses := true, plainKeys := false, apart := false, narrowed := true }
def SplitTextUptoSaid : Prop := splitTextUptoRow.holds Try.pinned (OpenSpec.upto splitTextSpec)

end Rows
end Go.Proofs.Ytmadelflnjhibaa
