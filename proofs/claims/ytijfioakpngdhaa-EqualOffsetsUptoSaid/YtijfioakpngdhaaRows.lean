/-
  NARROWER THAN 'FOR EVERY INPUT', by the rows' own cells (each row's printed sentence says how): EqualUnfolds: loops · EqualOffsets: loops · EqualClasses: loops · EqualChains: loops · ContextSplits: loops · ContextDrops: loops · ContextParts: loops · GraphMatchesReference: loops · GraphReaches: loops · GraphCounts: loops · GraphUnites: loops · HeadRaises: loops.
  DERIVED. THE GIVEN ROWS OF THIS SEAT. 12 by the template 'for every input the law returns true; each argument reads behind the call as it read before'; 0 by the template 'total and deterministic' (their statements: YtijfioakpngdhaaTotals.lean).
  GIVEN WITH THE SEED: the statements are not yours to turn. If you find one false, say at which input.
  Laid BY PROGRAM, IN A SANDBOX (cutbox-rows.mjs): the forced cells as the released guide's own fill.sh prints them over the translation 176226706b333952… (all of the seat's roots in one cut). By AI agents, Wed Nov 11 2026. No macro, syntax, notation, axiom, sorry.
-/
import Derived.Test.YtijfioakpngdhaaChecked
import GoSem.Claim
import GoSem.ClaimJoined
import GoSem.ClaimMapViews
import Derived.JoinedTies
import Derived.KernelRfl
namespace Go.Proofs.Ytijfioakpngdhaa
/- THE CELL 'sum', in the pinned program and in every row, IS THE sha256 OF THE DUMP (.gsa) THAT YtijfioakpngdhaaProg.lean LOADS. Nothing in Lean hashes anything: it is a label: what it is worth is what the hold of that sum in a sandbox is worth. -/
noncomputable def Try.pinned : Pinned := { name := "ytijfioakpngdhaa", sum := "176226706b333952864124d29c10ce0bf27aefa716e9e852d3fdf731ba6353d1", checked := Try.checked }
namespace Rows
def none {H : Type} : Left H := { results := [], args := [] }

/-- 'duologuelaw10.EqualUnfolds': WHATEVER THE INPUT: true; the input reads as it did. -/
def equalUnfoldsSpec : ChangeSpec := { name := "equalUnfolds", fn := fun _ => fun
  | [d1, d2] => { results := [.lit (.bool true)], args := [d1, d2] }
  | _ => none }
def equalUnfoldsRow : OpenClaim := { program := "ytijfioakpngdhaa", sum := "176226706b333952864124d29c10ce0bf27aefa716e9e852d3fdf731ba6353d1", func := "duologue/duologuelaw10.EqualUnfolds", spec := "equalUnfolds", unfollowed := true, recurses := true, loops := true, plainKeys := false, apart := false }
def EqualUnfoldsSaid : Prop := equalUnfoldsRow.holds Try.pinned (OpenSpec.ofChange equalUnfoldsSpec)

/-- ITS FALSE NEIGHBOUR: 'it returns false'. Refute it at one input. -/
def equalUnfoldsWrong : ChangeSpec := { name := "equalUnfolds", fn := fun _ => fun
  | [d1, d2] => { results := [.lit (.bool false)], args := [d1, d2] }
  | _ => none }
def EqualUnfoldsWrongFalsely : Prop := equalUnfoldsRow.holds Try.pinned (OpenSpec.ofChange equalUnfoldsWrong)

/-- 'duologuelaw10.EqualOffsets': WHATEVER THE INPUT: true; the input reads as it did. -/
def equalOffsetsSpec : ChangeSpec := { name := "equalOffsets", fn := fun _ => fun
  | [d1, d2, d3] => { results := [.lit (.bool true)], args := [d1, d2, d3] }
  | _ => none }
def equalOffsetsRow : OpenClaim := { program := "ytijfioakpngdhaa", sum := "176226706b333952864124d29c10ce0bf27aefa716e9e852d3fdf731ba6353d1", func := "duologue/duologuelaw10.EqualOffsets", spec := "equalOffsets", unfollowed := true, recurses := true, loops := true, plainKeys := false, apart := false }
def EqualOffsetsSaid : Prop := equalOffsetsRow.holds Try.pinned (OpenSpec.ofChange equalOffsetsSpec)

/-- ITS FALSE NEIGHBOUR: 'it returns false'. Refute it at one input. -/
def equalOffsetsWrong : ChangeSpec := { name := "equalOffsets", fn := fun _ => fun
  | [d1, d2, d3] => { results := [.lit (.bool false)], args := [d1, d2, d3] }
  | _ => none }
def EqualOffsetsWrongFalsely : Prop := equalOffsetsRow.holds Try.pinned (OpenSpec.ofChange equalOffsetsWrong)

/-- 'duologuelaw10.EqualClasses': WHATEVER THE INPUT: true; the input reads as it did. -/
def equalClassesSpec : ChangeSpec := { name := "equalClasses", fn := fun _ => fun
  | [d] => { results := [.lit (.bool true)], args := [d] }
  | _ => none }
def equalClassesRow : OpenClaim := { program := "ytijfioakpngdhaa", sum := "176226706b333952864124d29c10ce0bf27aefa716e9e852d3fdf731ba6353d1", func := "duologue/duologuelaw10.EqualClasses", spec := "equalClasses", unfollowed := true, recurses := true, loops := true, plainKeys := false, apart := false }
def EqualClassesSaid : Prop := equalClassesRow.holds Try.pinned (OpenSpec.ofChange equalClassesSpec)

/-- ITS FALSE NEIGHBOUR: 'it returns false'. Refute it at one input. -/
def equalClassesWrong : ChangeSpec := { name := "equalClasses", fn := fun _ => fun
  | [d] => { results := [.lit (.bool false)], args := [d] }
  | _ => none }
def EqualClassesWrongFalsely : Prop := equalClassesRow.holds Try.pinned (OpenSpec.ofChange equalClassesWrong)

/-- 'duologuelaw10.EqualChains': WHATEVER THE INPUT: true; the input reads as it did. -/
def equalChainsSpec : ChangeSpec := { name := "equalChains", fn := fun _ => fun
  | [d1, d2, d3] => { results := [.lit (.bool true)], args := [d1, d2, d3] }
  | _ => none }
def equalChainsRow : OpenClaim := { program := "ytijfioakpngdhaa", sum := "176226706b333952864124d29c10ce0bf27aefa716e9e852d3fdf731ba6353d1", func := "duologue/duologuelaw10.EqualChains", spec := "equalChains", unfollowed := true, recurses := true, loops := true, plainKeys := false, apart := false }
def EqualChainsSaid : Prop := equalChainsRow.holds Try.pinned (OpenSpec.ofChange equalChainsSpec)

/-- ITS FALSE NEIGHBOUR: 'it returns false'. Refute it at one input. -/
def equalChainsWrong : ChangeSpec := { name := "equalChains", fn := fun _ => fun
  | [d1, d2, d3] => { results := [.lit (.bool false)], args := [d1, d2, d3] }
  | _ => none }
def EqualChainsWrongFalsely : Prop := equalChainsRow.holds Try.pinned (OpenSpec.ofChange equalChainsWrong)

/-- 'duologuelaw13.ContextSplits': WHATEVER THE INPUT: true; the input reads as it did. -/
def contextSplitsSpec : ChangeSpec := { name := "contextSplits", fn := fun _ => fun
  | [d1, d2] => { results := [.lit (.bool true)], args := [d1, d2] }
  | _ => none }
def contextSplitsRow : OpenClaim := { program := "ytijfioakpngdhaa", sum := "176226706b333952864124d29c10ce0bf27aefa716e9e852d3fdf731ba6353d1", func := "duologue/duologuelaw13.ContextSplits", spec := "contextSplits", unfollowed := true, recurses := true, loops := true, plainKeys := false, apart := false }
def ContextSplitsSaid : Prop := contextSplitsRow.holds Try.pinned (OpenSpec.ofChange contextSplitsSpec)

/-- ITS FALSE NEIGHBOUR: 'it returns false'. Refute it at one input. -/
def contextSplitsWrong : ChangeSpec := { name := "contextSplits", fn := fun _ => fun
  | [d1, d2] => { results := [.lit (.bool false)], args := [d1, d2] }
  | _ => none }
def ContextSplitsWrongFalsely : Prop := contextSplitsRow.holds Try.pinned (OpenSpec.ofChange contextSplitsWrong)

/-- 'duologuelaw13.ContextDrops': WHATEVER THE INPUT: true; the input reads as it did. -/
def contextDropsSpec : ChangeSpec := { name := "contextDrops", fn := fun _ => fun
  | [d1, d2] => { results := [.lit (.bool true)], args := [d1, d2] }
  | _ => none }
def contextDropsRow : OpenClaim := { program := "ytijfioakpngdhaa", sum := "176226706b333952864124d29c10ce0bf27aefa716e9e852d3fdf731ba6353d1", func := "duologue/duologuelaw13.ContextDrops", spec := "contextDrops", unfollowed := true, recurses := true, loops := true, plainKeys := false, apart := false }
def ContextDropsSaid : Prop := contextDropsRow.holds Try.pinned (OpenSpec.ofChange contextDropsSpec)

/-- ITS FALSE NEIGHBOUR: 'it returns false'. Refute it at one input. -/
def contextDropsWrong : ChangeSpec := { name := "contextDrops", fn := fun _ => fun
  | [d1, d2] => { results := [.lit (.bool false)], args := [d1, d2] }
  | _ => none }
def ContextDropsWrongFalsely : Prop := contextDropsRow.holds Try.pinned (OpenSpec.ofChange contextDropsWrong)

/-- 'duologuelaw13.ContextParts': WHATEVER THE INPUT: true; the input reads as it did. -/
def contextPartsSpec : ChangeSpec := { name := "contextParts", fn := fun _ => fun
  | [d1, d2] => { results := [.lit (.bool true)], args := [d1, d2] }
  | _ => none }
def contextPartsRow : OpenClaim := { program := "ytijfioakpngdhaa", sum := "176226706b333952864124d29c10ce0bf27aefa716e9e852d3fdf731ba6353d1", func := "duologue/duologuelaw13.ContextParts", spec := "contextParts", unfollowed := true, recurses := true, loops := true, plainKeys := false, apart := false }
def ContextPartsSaid : Prop := contextPartsRow.holds Try.pinned (OpenSpec.ofChange contextPartsSpec)

/-- ITS FALSE NEIGHBOUR: 'it returns false'. Refute it at one input. -/
def contextPartsWrong : ChangeSpec := { name := "contextParts", fn := fun _ => fun
  | [d1, d2] => { results := [.lit (.bool false)], args := [d1, d2] }
  | _ => none }
def ContextPartsWrongFalsely : Prop := contextPartsRow.holds Try.pinned (OpenSpec.ofChange contextPartsWrong)

/-- 'duologuelaw07.GraphMatchesReference': WHATEVER THE INPUT: true; the input reads as it did. -/
def graphMatchesReferenceSpec : ChangeSpec := { name := "graphMatchesReference", fn := fun _ => fun
  | [d] => { results := [.lit (.bool true)], args := [d] }
  | _ => none }
def graphMatchesReferenceRow : OpenClaim := { program := "ytijfioakpngdhaa", sum := "176226706b333952864124d29c10ce0bf27aefa716e9e852d3fdf731ba6353d1", func := "duologue/duologuelaw07.GraphMatchesReference", spec := "graphMatchesReference", inPlace := ["maps.clone"], recurses := true, loops := true, plainKeys := false, apart := false }
def GraphMatchesReferenceSaid : Prop := graphMatchesReferenceRow.holds Try.pinned (OpenSpec.ofChange graphMatchesReferenceSpec)

/-- ITS FALSE NEIGHBOUR: 'it returns false'. Refute it at one input. -/
def graphMatchesReferenceWrong : ChangeSpec := { name := "graphMatchesReference", fn := fun _ => fun
  | [d] => { results := [.lit (.bool false)], args := [d] }
  | _ => none }
def GraphMatchesReferenceWrongFalsely : Prop := graphMatchesReferenceRow.holds Try.pinned (OpenSpec.ofChange graphMatchesReferenceWrong)

/-- 'duologuelaw07.GraphReaches': WHATEVER THE INPUT: true; the input reads as it did. -/
def graphReachesSpec : ChangeSpec := { name := "graphReaches", fn := fun _ => fun
  | [d1, d2] => { results := [.lit (.bool true)], args := [d1, d2] }
  | _ => none }
def graphReachesRow : OpenClaim := { program := "ytijfioakpngdhaa", sum := "176226706b333952864124d29c10ce0bf27aefa716e9e852d3fdf731ba6353d1", func := "duologue/duologuelaw07.GraphReaches", spec := "graphReaches", inPlace := ["maps.clone"], recurses := true, loops := true, plainKeys := false, apart := false }
def GraphReachesSaid : Prop := graphReachesRow.holds Try.pinned (OpenSpec.ofChange graphReachesSpec)

/-- ITS FALSE NEIGHBOUR: 'it returns false'. Refute it at one input. -/
def graphReachesWrong : ChangeSpec := { name := "graphReaches", fn := fun _ => fun
  | [d1, d2] => { results := [.lit (.bool false)], args := [d1, d2] }
  | _ => none }
def GraphReachesWrongFalsely : Prop := graphReachesRow.holds Try.pinned (OpenSpec.ofChange graphReachesWrong)

/-- 'duologuelaw07.GraphCounts': WHATEVER THE INPUT: true; the input reads as it did. -/
def graphCountsSpec : ChangeSpec := { name := "graphCounts", fn := fun _ => fun
  | [d1, d2, d3] => { results := [.lit (.bool true)], args := [d1, d2, d3] }
  | _ => none }
def graphCountsRow : OpenClaim := { program := "ytijfioakpngdhaa", sum := "176226706b333952864124d29c10ce0bf27aefa716e9e852d3fdf731ba6353d1", func := "duologue/duologuelaw07.GraphCounts", spec := "graphCounts", inPlace := ["maps.clone"], recurses := true, loops := true, plainKeys := false, apart := false }
def GraphCountsSaid : Prop := graphCountsRow.holds Try.pinned (OpenSpec.ofChange graphCountsSpec)

/-- ITS FALSE NEIGHBOUR: 'it returns false'. Refute it at one input. -/
def graphCountsWrong : ChangeSpec := { name := "graphCounts", fn := fun _ => fun
  | [d1, d2, d3] => { results := [.lit (.bool false)], args := [d1, d2, d3] }
  | _ => none }
def GraphCountsWrongFalsely : Prop := graphCountsRow.holds Try.pinned (OpenSpec.ofChange graphCountsWrong)

/-- 'duologuelaw07.GraphUnites': WHATEVER THE INPUT: true; the input reads as it did. -/
def graphUnitesSpec : ChangeSpec := { name := "graphUnites", fn := fun _ => fun
  | [d1, d2] => { results := [.lit (.bool true)], args := [d1, d2] }
  | _ => none }
def graphUnitesRow : OpenClaim := { program := "ytijfioakpngdhaa", sum := "176226706b333952864124d29c10ce0bf27aefa716e9e852d3fdf731ba6353d1", func := "duologue/duologuelaw07.GraphUnites", spec := "graphUnites", inPlace := ["maps.clone"], recurses := true, loops := true, plainKeys := false, apart := false }
def GraphUnitesSaid : Prop := graphUnitesRow.holds Try.pinned (OpenSpec.ofChange graphUnitesSpec)

/-- ITS FALSE NEIGHBOUR: 'it returns false'. Refute it at one input. -/
def graphUnitesWrong : ChangeSpec := { name := "graphUnites", fn := fun _ => fun
  | [d1, d2] => { results := [.lit (.bool false)], args := [d1, d2] }
  | _ => none }
def GraphUnitesWrongFalsely : Prop := graphUnitesRow.holds Try.pinned (OpenSpec.ofChange graphUnitesWrong)

/-- 'duologuelaw08.HeadRaises': WHATEVER THE INPUT: true; the input reads as it did. -/
def headRaisesSpec : ChangeSpec := { name := "headRaises", fn := fun _ => fun
  | [d1, d2, d3] => { results := [.lit (.bool true)], args := [d1, d2, d3] }
  | _ => none }
def headRaisesRow : OpenClaim := { program := "ytijfioakpngdhaa", sum := "176226706b333952864124d29c10ce0bf27aefa716e9e852d3fdf731ba6353d1", func := "duologue/duologuelaw08.HeadRaises", spec := "headRaises", unfollowed := true, recurses := true, loops := true, plainKeys := false, apart := false }
def HeadRaisesSaid : Prop := headRaisesRow.holds Try.pinned (OpenSpec.ofChange headRaisesSpec)

/-- ITS FALSE NEIGHBOUR: 'it returns false'. Refute it at one input. -/
def headRaisesWrong : ChangeSpec := { name := "headRaises", fn := fun _ => fun
  | [d1, d2, d3] => { results := [.lit (.bool false)], args := [d1, d2, d3] }
  | _ => none }
def HeadRaisesWrongFalsely : Prop := headRaisesRow.holds Try.pinned (OpenSpec.ofChange headRaisesWrong)

/- THE SECOND FORM. 'bulk': how many values and letters a reading holds, each counted each time it is reached (what is shared counts as often as it is met; a slice's spare places count too). A statement '..UptoSaid' is the law's where the arguments, and the package variables that the reading takes, are together of bulk at most 1048576: NARROWER than '..Said'. Prove '..Said' where nothing that the law and all that it calls make is longer than what came in: it says more and counts as full. Else prove '..UptoSaid'. A law counts once. -/
mutual
def uptoBulk {H : Type} : DataW H → Nat
  | .lit (.string bytes) => bytes.length + 1
  | .lit _ => 1
  | .nil => 1
  | .ptr d => uptoBulk d + 1
  | .slice elems spare => uptoBulkAll elems + uptoBulkAll spare + 1
  | .agg parts => uptoBulkAll parts + 1
  | .iface _ d => uptoBulk d + 1
  | .map entries => uptoBulkEntries entries + 1
  | .held _ => 1
def uptoBulkAll {H : Type} : List (DataW H) → Nat
  | [] => 0
  | d :: r => uptoBulk d + uptoBulkAll r
def uptoBulkEntries {H : Type} : List (Lit × DataW H) → Nat
  | [] => 0
  | x :: r => uptoBulkEntry x + uptoBulkEntries r
def uptoBulkEntry {H : Type} : Lit × DataW H → Nat
  | (.string bytes, d) => bytes.length + uptoBulk d + 1
  | (_, d) => uptoBulk d + 1
 end
def uptoSmall : (H : Type) → List (DataW H) → Bool := fun _ ds => decide (uptoBulkAll ds ≤ 1048576)
def OpenSpec.upto (s : _root_.Go.ChangeSpec) : _root_.Go.OpenSpec := { _root_.Go.OpenSpec.ofChange s with cond := some uptoSmall }

/-- 'duologuelaw10.EqualUnfolds', WHERE WHAT IT READS IS OF BULK AT MOST 1048576: true; the input reads as it did. -/
def equalUnfoldsUptoRow : OpenClaim := { program := "ytijfioakpngdhaa", sum := "176226706b333952864124d29c10ce0bf27aefa716e9e852d3fdf731ba6353d1", func := "duologue/duologuelaw10.EqualUnfolds", spec := "equalUnfolds", unfollowed := true, recurses := true, loops := true, plainKeys := false, apart := false, narrowed := true }
def EqualUnfoldsUptoSaid : Prop := equalUnfoldsUptoRow.holds Try.pinned (OpenSpec.upto equalUnfoldsSpec)

/-- 'duologuelaw10.EqualOffsets', WHERE WHAT IT READS IS OF BULK AT MOST 1048576: true; the input reads as it did. -/
def equalOffsetsUptoRow : OpenClaim := { program := "ytijfioakpngdhaa", sum := "176226706b333952864124d29c10ce0bf27aefa716e9e852d3fdf731ba6353d1", func := "duologue/duologuelaw10.EqualOffsets", spec := "equalOffsets", unfollowed := true, recurses := true, loops := true, plainKeys := false, apart := false, narrowed := true }
def EqualOffsetsUptoSaid : Prop := equalOffsetsUptoRow.holds Try.pinned (OpenSpec.upto equalOffsetsSpec)

/-- 'duologuelaw10.EqualClasses', WHERE WHAT IT READS IS OF BULK AT MOST 1048576: true; the input reads as it did. -/
def equalClassesUptoRow : OpenClaim := { program := "ytijfioakpngdhaa", sum := "176226706b333952864124d29c10ce0bf27aefa716e9e852d3fdf731ba6353d1", func := "duologue/duologuelaw10.EqualClasses", spec := "equalClasses", unfollowed := true, recurses := true, loops := true, plainKeys := false, apart := false, narrowed := true }
def EqualClassesUptoSaid : Prop := equalClassesUptoRow.holds Try.pinned (OpenSpec.upto equalClassesSpec)

/-- 'duologuelaw10.EqualChains', WHERE WHAT IT READS IS OF BULK AT MOST 1048576: true; the input reads as it did. -/
def equalChainsUptoRow : OpenClaim := { program := "ytijfioakpngdhaa", sum := "176226706b333952864124d29c10ce0bf27aefa716e9e852d3fdf731ba6353d1", func := "duologue/duologuelaw10.EqualChains", spec := "equalChains", unfollowed := true, recurses := true, loops := true, plainKeys := false, apart := false, narrowed := true }
def EqualChainsUptoSaid : Prop := equalChainsUptoRow.holds Try.pinned (OpenSpec.upto equalChainsSpec)

/-- 'duologuelaw13.ContextSplits', WHERE WHAT IT READS IS OF BULK AT MOST 1048576: true; the input reads as it did. -/
def contextSplitsUptoRow : OpenClaim := { program := "ytijfioakpngdhaa", sum := "176226706b333952864124d29c10ce0bf27aefa716e9e852d3fdf731ba6353d1", func := "duologue/duologuelaw13.ContextSplits", spec := "contextSplits", unfollowed := true, recurses := true, loops := true, plainKeys := false, apart := false, narrowed := true }
def ContextSplitsUptoSaid : Prop := contextSplitsUptoRow.holds Try.pinned (OpenSpec.upto contextSplitsSpec)

/-- 'duologuelaw13.ContextDrops', WHERE WHAT IT READS IS OF BULK AT MOST 1048576: true; the input reads as it did. -/
def contextDropsUptoRow : OpenClaim := { program := "ytijfioakpngdhaa", sum := "176226706b333952864124d29c10ce0bf27aefa716e9e852d3fdf731ba6353d1", func := "duologue/duologuelaw13.ContextDrops", spec := "contextDrops", unfollowed := true, recurses := true, loops := true, plainKeys := false, apart := false, narrowed := true }
def ContextDropsUptoSaid : Prop := contextDropsUptoRow.holds Try.pinned (OpenSpec.upto contextDropsSpec)

/-- 'duologuelaw13.ContextParts', WHERE WHAT IT READS IS OF BULK AT MOST 1048576: true; the input reads as it did. -/
def contextPartsUptoRow : OpenClaim := { program := "ytijfioakpngdhaa", sum := "176226706b333952864124d29c10ce0bf27aefa716e9e852d3fdf731ba6353d1", func := "duologue/duologuelaw13.ContextParts", spec := "contextParts", unfollowed := true, recurses := true, loops := true, plainKeys := false, apart := false, narrowed := true }
def ContextPartsUptoSaid : Prop := contextPartsUptoRow.holds Try.pinned (OpenSpec.upto contextPartsSpec)

/-- 'duologuelaw07.GraphMatchesReference', WHERE WHAT IT READS IS OF BULK AT MOST 1048576: true; the input reads as it did. -/
def graphMatchesReferenceUptoRow : OpenClaim := { program := "ytijfioakpngdhaa", sum := "176226706b333952864124d29c10ce0bf27aefa716e9e852d3fdf731ba6353d1", func := "duologue/duologuelaw07.GraphMatchesReference", spec := "graphMatchesReference", inPlace := ["maps.clone"], recurses := true, loops := true, plainKeys := false, apart := false, narrowed := true }
def GraphMatchesReferenceUptoSaid : Prop := graphMatchesReferenceUptoRow.holds Try.pinned (OpenSpec.upto graphMatchesReferenceSpec)

/-- 'duologuelaw07.GraphReaches', WHERE WHAT IT READS IS OF BULK AT MOST 1048576: true; the input reads as it did. -/
def graphReachesUptoRow : OpenClaim := { program := "ytijfioakpngdhaa", sum := "176226706b333952864124d29c10ce0bf27aefa716e9e852d3fdf731ba6353d1", func := "duologue/duologuelaw07.GraphReaches", spec := "graphReaches", inPlace := ["maps.clone"], recurses := true, loops := true, plainKeys := false, apart := false, narrowed := true }
def GraphReachesUptoSaid : Prop := graphReachesUptoRow.holds Try.pinned (OpenSpec.upto graphReachesSpec)

/-- 'duologuelaw07.GraphCounts', WHERE WHAT IT READS IS OF BULK AT MOST 1048576: true; the input reads as it did. -/
def graphCountsUptoRow : OpenClaim := { program := "ytijfioakpngdhaa", sum := "176226706b333952864124d29c10ce0bf27aefa716e9e852d3fdf731ba6353d1", func := "duologue/duologuelaw07.GraphCounts", spec := "graphCounts", inPlace := ["maps.clone"], recurses := true, loops := true, plainKeys := false, apart := false, narrowed := true }
def GraphCountsUptoSaid : Prop := graphCountsUptoRow.holds Try.pinned (OpenSpec.upto graphCountsSpec)

/-- 'duologuelaw07.GraphUnites', WHERE WHAT IT READS IS OF BULK AT MOST 1048576: true; the input reads as it did. -/
def graphUnitesUptoRow : OpenClaim := { program := "ytijfioakpngdhaa", sum := "176226706b333952864124d29c10ce0bf27aefa716e9e852d3fdf731ba6353d1", func := "duologue/duologuelaw07.GraphUnites", spec := "graphUnites", inPlace := ["maps.clone"], recurses := true, loops := true, plainKeys := false, apart := false, narrowed := true }
def GraphUnitesUptoSaid : Prop := graphUnitesUptoRow.holds Try.pinned (OpenSpec.upto graphUnitesSpec)

/-- 'duologuelaw08.HeadRaises', WHERE WHAT IT READS IS OF BULK AT MOST 1048576: true; the input reads as it did. -/
def headRaisesUptoRow : OpenClaim := { program := "ytijfioakpngdhaa", sum := "176226706b333952864124d29c10ce0bf27aefa716e9e852d3fdf731ba6353d1", func := "duologue/duologuelaw08.HeadRaises", spec := "headRaises", unfollowed := true, recurses := true, loops := true, plainKeys := false, apart := false, narrowed := true }
def HeadRaisesUptoSaid : Prop := headRaisesUptoRow.holds Try.pinned (OpenSpec.upto headRaisesSpec)

end Rows
end Go.Proofs.Ytijfioakpngdhaa
