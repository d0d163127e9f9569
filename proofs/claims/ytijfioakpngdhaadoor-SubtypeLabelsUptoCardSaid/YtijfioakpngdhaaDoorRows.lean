/-
  NARROWER THAN 'FOR EVERY INPUT', by the rows' own cells (each row's printed sentence says how): DualMatchesReference: loops, laid · DualInvolution: loops, laid · DualPaths: loops, laid · SubtypeDuals: loops, laid · SubtypeFits: loops, laid · SubtypeLabels: loops, laid · SubtypeOrders: loops, laid.
  DERIVED. THE GIVEN ROWS OF THIS SEAT. 7 by the template 'for every input the law returns true; each argument reads behind the call as it read before'; 0 by the template 'total and deterministic' (their statements: YtijfioakpngdhaaDoorTotals.lean).
  GIVEN WITH THE SEED: the statements are not yours to turn. If you find one false, say at which input.
  Laid BY PROGRAM, IN A SANDBOX (cutbox-rows.mjs): the forced cells as the released guide's own fill.sh prints them over the translation 23ad297f83dfefcf… (all of the seat's roots in one cut). By AI agents, Wed Nov 11 2026. No macro, syntax, notation, axiom, sorry.
-/
import Derived.Test.YtijfioakpngdhaaDoorChecked
import GoSem.Claim
import GoSem.ClaimJoined
import GoSem.ClaimMapViews
import Derived.JoinedTies
import Derived.KernelRfl
namespace Go.Proofs.YtijfioakpngdhaaDoor
/- THE CELL 'sum', in the pinned program and in every row, IS THE sha256 OF THE DUMP (.gsa) THAT YtijfioakpngdhaaDoorProg.lean LOADS. Nothing in Lean hashes anything: it is a label: what it is worth is what the hold of that sum in a sandbox is worth. -/
noncomputable def Tryd.pinned : Pinned := { name := "ytijfioakpngdhaadoor", sum := "23ad297f83dfefcf22327705917b4620dc9f4fb04cdbf7d09e70608e4da8f139", checked := Tryd.checked }
namespace Rows
def none {H : Type} : Left H := { results := [], args := [] }

/- WHAT THE LISTED PACKAGE-LEVEL VARIABLES READ AS WHEN THE CALL BEGINS. Each datum BY PROGRAM (the guide's laid-datum.mjs) off the statement by which the dump's own 'gosem.cut.vars' lays the variable. In a bare row this is a premise. The card (YtijfioakpngdhaaDoorCards.lean) ties it to the program's text. -/
def laid_duologue_dual_duals {H : Type} : DataW H := .agg [.lit (.int .i64 0), .lit (.int .i64 1), .lit (.int .i64 2), .lit (.int .i64 3), .lit (.int .i64 5), .lit (.int .i64 4), .lit (.int .i64 7), .lit (.int .i64 6)]

/-- 'duologuelaw09.DualMatchesReference': WHATEVER THE INPUT: true; the input reads as it did. -/
def dualMatchesReferenceSpec : ChangeSpec := { name := "dualMatchesReference", fn := fun _ => fun
  | [d1, d2] => { results := [.lit (.bool true)], args := [d1, d2] }
  | _ => none }
def dualMatchesReferenceRow : OpenClaim := { program := "ytijfioakpngdhaadoor", sum := "23ad297f83dfefcf22327705917b4620dc9f4fb04cdbf7d09e70608e4da8f139", func := "duologue/duologuelaw09.DualMatchesReference", spec := "dualMatchesReference", unfollowed := true, recurses := true, named := ["duologue/dual.duals"], loops := true, plainKeys := false, apart := false, laid := [("duologue/dual.duals", laid_duologue_dual_duals)] }
def DualMatchesReferenceSaid : Prop := dualMatchesReferenceRow.holds Tryd.pinned (OpenSpec.ofChange dualMatchesReferenceSpec)

/-- ITS FALSE NEIGHBOUR: 'it returns false'. Refute it at one input. -/
def dualMatchesReferenceWrong : ChangeSpec := { name := "dualMatchesReference", fn := fun _ => fun
  | [d1, d2] => { results := [.lit (.bool false)], args := [d1, d2] }
  | _ => none }
def DualMatchesReferenceWrongFalsely : Prop := dualMatchesReferenceRow.holds Tryd.pinned (OpenSpec.ofChange dualMatchesReferenceWrong)

/-- 'duologuelaw09.DualInvolution': WHATEVER THE INPUT: true; the input reads as it did. -/
def dualInvolutionSpec : ChangeSpec := { name := "dualInvolution", fn := fun _ => fun
  | [d1, d2, d3] => { results := [.lit (.bool true)], args := [d1, d2, d3] }
  | _ => none }
def dualInvolutionRow : OpenClaim := { program := "ytijfioakpngdhaadoor", sum := "23ad297f83dfefcf22327705917b4620dc9f4fb04cdbf7d09e70608e4da8f139", func := "duologue/duologuelaw09.DualInvolution", spec := "dualInvolution", unfollowed := true, recurses := true, named := ["duologue/dual.duals"], loops := true, plainKeys := false, apart := false, laid := [("duologue/dual.duals", laid_duologue_dual_duals)] }
def DualInvolutionSaid : Prop := dualInvolutionRow.holds Tryd.pinned (OpenSpec.ofChange dualInvolutionSpec)

/-- ITS FALSE NEIGHBOUR: 'it returns false'. Refute it at one input. -/
def dualInvolutionWrong : ChangeSpec := { name := "dualInvolution", fn := fun _ => fun
  | [d1, d2, d3] => { results := [.lit (.bool false)], args := [d1, d2, d3] }
  | _ => none }
def DualInvolutionWrongFalsely : Prop := dualInvolutionRow.holds Tryd.pinned (OpenSpec.ofChange dualInvolutionWrong)

/-- 'duologuelaw09.DualPaths': WHATEVER THE INPUT: true; the input reads as it did. -/
def dualPathsSpec : ChangeSpec := { name := "dualPaths", fn := fun _ => fun
  | [d1, d2] => { results := [.lit (.bool true)], args := [d1, d2] }
  | _ => none }
def dualPathsRow : OpenClaim := { program := "ytijfioakpngdhaadoor", sum := "23ad297f83dfefcf22327705917b4620dc9f4fb04cdbf7d09e70608e4da8f139", func := "duologue/duologuelaw09.DualPaths", spec := "dualPaths", unfollowed := true, recurses := true, named := ["duologue/dual.duals"], loops := true, plainKeys := false, apart := false, laid := [("duologue/dual.duals", laid_duologue_dual_duals)] }
def DualPathsSaid : Prop := dualPathsRow.holds Tryd.pinned (OpenSpec.ofChange dualPathsSpec)

/-- ITS FALSE NEIGHBOUR: 'it returns false'. Refute it at one input. -/
def dualPathsWrong : ChangeSpec := { name := "dualPaths", fn := fun _ => fun
  | [d1, d2] => { results := [.lit (.bool false)], args := [d1, d2] }
  | _ => none }
def DualPathsWrongFalsely : Prop := dualPathsRow.holds Tryd.pinned (OpenSpec.ofChange dualPathsWrong)

/-- 'duologuelaw11.SubtypeDuals': WHATEVER THE INPUT: true; the input reads as it did. -/
def subtypeDualsSpec : ChangeSpec := { name := "subtypeDuals", fn := fun _ => fun
  | [d1, d2] => { results := [.lit (.bool true)], args := [d1, d2] }
  | _ => none }
def subtypeDualsRow : OpenClaim := { program := "ytijfioakpngdhaadoor", sum := "23ad297f83dfefcf22327705917b4620dc9f4fb04cdbf7d09e70608e4da8f139", func := "duologue/duologuelaw11.SubtypeDuals", spec := "subtypeDuals", unfollowed := true, recurses := true, named := ["duologue/dual.duals"], loops := true, plainKeys := false, apart := false, laid := [("duologue/dual.duals", laid_duologue_dual_duals)] }
def SubtypeDualsSaid : Prop := subtypeDualsRow.holds Tryd.pinned (OpenSpec.ofChange subtypeDualsSpec)

/-- ITS FALSE NEIGHBOUR: 'it returns false'. Refute it at one input. -/
def subtypeDualsWrong : ChangeSpec := { name := "subtypeDuals", fn := fun _ => fun
  | [d1, d2] => { results := [.lit (.bool false)], args := [d1, d2] }
  | _ => none }
def SubtypeDualsWrongFalsely : Prop := subtypeDualsRow.holds Tryd.pinned (OpenSpec.ofChange subtypeDualsWrong)

/-- 'duologuelaw11.SubtypeFits': WHATEVER THE INPUT: true; the input reads as it did. -/
def subtypeFitsSpec : ChangeSpec := { name := "subtypeFits", fn := fun _ => fun
  | [d1, d2] => { results := [.lit (.bool true)], args := [d1, d2] }
  | _ => none }
def subtypeFitsRow : OpenClaim := { program := "ytijfioakpngdhaadoor", sum := "23ad297f83dfefcf22327705917b4620dc9f4fb04cdbf7d09e70608e4da8f139", func := "duologue/duologuelaw11.SubtypeFits", spec := "subtypeFits", unfollowed := true, recurses := true, named := ["duologue/dual.duals"], loops := true, plainKeys := false, apart := false, laid := [("duologue/dual.duals", laid_duologue_dual_duals)] }
def SubtypeFitsSaid : Prop := subtypeFitsRow.holds Tryd.pinned (OpenSpec.ofChange subtypeFitsSpec)

/-- ITS FALSE NEIGHBOUR: 'it returns false'. Refute it at one input. -/
def subtypeFitsWrong : ChangeSpec := { name := "subtypeFits", fn := fun _ => fun
  | [d1, d2] => { results := [.lit (.bool false)], args := [d1, d2] }
  | _ => none }
def SubtypeFitsWrongFalsely : Prop := subtypeFitsRow.holds Tryd.pinned (OpenSpec.ofChange subtypeFitsWrong)

/-- 'duologuelaw11.SubtypeLabels': WHATEVER THE INPUT: true; the input reads as it did. -/
def subtypeLabelsSpec : ChangeSpec := { name := "subtypeLabels", fn := fun _ => fun
  | [d1, d2, d3] => { results := [.lit (.bool true)], args := [d1, d2, d3] }
  | _ => none }
def subtypeLabelsRow : OpenClaim := { program := "ytijfioakpngdhaadoor", sum := "23ad297f83dfefcf22327705917b4620dc9f4fb04cdbf7d09e70608e4da8f139", func := "duologue/duologuelaw11.SubtypeLabels", spec := "subtypeLabels", unfollowed := true, recurses := true, named := ["duologue/dual.duals"], loops := true, plainKeys := false, apart := false, laid := [("duologue/dual.duals", laid_duologue_dual_duals)] }
def SubtypeLabelsSaid : Prop := subtypeLabelsRow.holds Tryd.pinned (OpenSpec.ofChange subtypeLabelsSpec)

/-- ITS FALSE NEIGHBOUR: 'it returns false'. Refute it at one input. -/
def subtypeLabelsWrong : ChangeSpec := { name := "subtypeLabels", fn := fun _ => fun
  | [d1, d2, d3] => { results := [.lit (.bool false)], args := [d1, d2, d3] }
  | _ => none }
def SubtypeLabelsWrongFalsely : Prop := subtypeLabelsRow.holds Tryd.pinned (OpenSpec.ofChange subtypeLabelsWrong)

/-- 'duologuelaw11.SubtypeOrders': WHATEVER THE INPUT: true; the input reads as it did. -/
def subtypeOrdersSpec : ChangeSpec := { name := "subtypeOrders", fn := fun _ => fun
  | [d1, d2, d3, d4] => { results := [.lit (.bool true)], args := [d1, d2, d3, d4] }
  | _ => none }
def subtypeOrdersRow : OpenClaim := { program := "ytijfioakpngdhaadoor", sum := "23ad297f83dfefcf22327705917b4620dc9f4fb04cdbf7d09e70608e4da8f139", func := "duologue/duologuelaw11.SubtypeOrders", spec := "subtypeOrders", unfollowed := true, recurses := true, named := ["duologue/dual.duals"], loops := true, plainKeys := false, apart := false, laid := [("duologue/dual.duals", laid_duologue_dual_duals)] }
def SubtypeOrdersSaid : Prop := subtypeOrdersRow.holds Tryd.pinned (OpenSpec.ofChange subtypeOrdersSpec)

/-- ITS FALSE NEIGHBOUR: 'it returns false'. Refute it at one input. -/
def subtypeOrdersWrong : ChangeSpec := { name := "subtypeOrders", fn := fun _ => fun
  | [d1, d2, d3, d4] => { results := [.lit (.bool false)], args := [d1, d2, d3, d4] }
  | _ => none }
def SubtypeOrdersWrongFalsely : Prop := subtypeOrdersRow.holds Tryd.pinned (OpenSpec.ofChange subtypeOrdersWrong)

/- THE SECOND FORM. 'bulk': how many values and letters a reading holds, each counted each time it is reached (what is shared counts as often as it is met; a slice's spare places count too). A statement '..UptoSaid' is the law's where the arguments, and the package variables that the reading takes, are together of bulk at most 1048576: NARROWER than '..Said'. Prove '..Said' where nothing that the law and all that it calls make is longer than what came in: it says more and counts as full. Else prove '..UptoSaid'. A law counts once. -/
mutual
def uptoBulk {H : Type} : DataW H → Nat
  | .lit (.string bytes) => bytes.length + 1
  | .lit _ => 1
  | .nil => 1
  | .ptr d => uptoBulk d + 1
  | .slice elems spare => uptoBulkAll elems + uptoBulkAll spare + 1
  | .agg parts => uptoBulkAll parts + 1
  | .iface _ d => uptoBulk d + 1
  | .map entries => uptoBulkEntries entries + 1
  | .held _ => 1
def uptoBulkAll {H : Type} : List (DataW H) → Nat
  | [] => 0
  | d :: r => uptoBulk d + uptoBulkAll r
def uptoBulkEntries {H : Type} : List (Lit × DataW H) → Nat
  | [] => 0
  | x :: r => uptoBulkEntry x + uptoBulkEntries r
def uptoBulkEntry {H : Type} : Lit × DataW H → Nat
  | (.string bytes, d) => bytes.length + uptoBulk d + 1
  | (_, d) => uptoBulk d + 1
 end
def uptoSmall : (H : Type) → List (DataW H) → Bool := fun _ ds => decide (uptoBulkAll ds ≤ 1048576)
def OpenSpec.upto (s : _root_.Go.ChangeSpec) : _root_.Go.OpenSpec := { _root_.Go.OpenSpec.ofChange s with cond := some uptoSmall }

/-- 'duologuelaw09.DualMatchesReference', WHERE WHAT IT READS IS OF BULK AT MOST 1048576: true; the input reads as it did. -/
def dualMatchesReferenceUptoRow : OpenClaim := { program := "ytijfioakpngdhaadoor", sum := "23ad297f83dfefcf22327705917b4620dc9f4fb04cdbf7d09e70608e4da8f139", func := "duologue/duologuelaw09.DualMatchesReference", spec := "dualMatchesReference", unfollowed := true, recurses := true, named := ["duologue/dual.duals"], loops := true, plainKeys := false, apart := false, laid := [("duologue/dual.duals", laid_duologue_dual_duals)], narrowed := true }
def DualMatchesReferenceUptoSaid : Prop := dualMatchesReferenceUptoRow.holds Tryd.pinned (OpenSpec.upto dualMatchesReferenceSpec)

/-- 'duologuelaw09.DualInvolution', WHERE WHAT IT READS IS OF BULK AT MOST 1048576: true; the input reads as it did. -/
def dualInvolutionUptoRow : OpenClaim := { program := "ytijfioakpngdhaadoor", sum := "23ad297f83dfefcf22327705917b4620dc9f4fb04cdbf7d09e70608e4da8f139", func := "duologue/duologuelaw09.DualInvolution", spec := "dualInvolution", unfollowed := true, recurses := true, named := ["duologue/dual.duals"], loops := true, plainKeys := false, apart := false, laid := [("duologue/dual.duals", laid_duologue_dual_duals)], narrowed := true }
def DualInvolutionUptoSaid : Prop := dualInvolutionUptoRow.holds Tryd.pinned (OpenSpec.upto dualInvolutionSpec)

/-- 'duologuelaw09.DualPaths', WHERE WHAT IT READS IS OF BULK AT MOST 1048576: true; the input reads as it did. -/
def dualPathsUptoRow : OpenClaim := { program := "ytijfioakpngdhaadoor", sum := "23ad297f83dfefcf22327705917b4620dc9f4fb04cdbf7d09e70608e4da8f139", func := "duologue/duologuelaw09.DualPaths", spec := "dualPaths", unfollowed := true, recurses := true, named := ["duologue/dual.duals"], loops := true, plainKeys := false, apart := false, laid := [("duologue/dual.duals", laid_duologue_dual_duals)], narrowed := true }
def DualPathsUptoSaid : Prop := dualPathsUptoRow.holds Tryd.pinned (OpenSpec.upto dualPathsSpec)

/-- 'duologuelaw11.SubtypeDuals', WHERE WHAT IT READS IS OF BULK AT MOST 1048576: true; the input reads as it did. -/
def subtypeDualsUptoRow : OpenClaim := { program := "ytijfioakpngdhaadoor", sum := "23ad297f83dfefcf22327705917b4620dc9f4fb04cdbf7d09e70608e4da8f139", func := "duologue/duologuelaw11.SubtypeDuals", spec := "subtypeDuals", unfollowed := true, recurses := true, named := ["duologue/dual.duals"], loops := true, plainKeys := false, apart := false, laid := [("duologue/dual.duals", laid_duologue_dual_duals)], narrowed := true }
def SubtypeDualsUptoSaid : Prop := subtypeDualsUptoRow.holds Tryd.pinned (OpenSpec.upto subtypeDualsSpec)

/-- 'duologuelaw11.SubtypeFits', WHERE WHAT IT READS IS OF BULK AT MOST 1048576: true; the input reads as it did. -/
def subtypeFitsUptoRow : OpenClaim := { program := "ytijfioakpngdhaadoor", sum := "23ad297f83dfefcf22327705917b4620dc9f4fb04cdbf7d09e70608e4da8f139", func := "duologue/duologuelaw11.SubtypeFits", spec := "subtypeFits", unfollowed := true, recurses := true, named := ["duologue/dual.duals"], loops := true, plainKeys := false, apart := false, laid := [("duologue/dual.duals", laid_duologue_dual_duals)], narrowed := true }
def SubtypeFitsUptoSaid : Prop := subtypeFitsUptoRow.holds Tryd.pinned (OpenSpec.upto subtypeFitsSpec)

/-- 'duologuelaw11.SubtypeLabels', WHERE WHAT IT READS IS OF BULK AT MOST 1048576: true; the input reads as it did. -/
def subtypeLabelsUptoRow : OpenClaim := { program := "ytijfioakpngdhaadoor", sum := "23ad297f83dfefcf22327705917b4620dc9f4fb04cdbf7d09e70608e4da8f139", func := "duologue/duologuelaw11.SubtypeLabels", spec := "subtypeLabels", unfollowed := true, recurses := true, named := ["duologue/dual.duals"], loops := true, plainKeys := false, apart := false, laid := [("duologue/dual.duals", laid_duologue_dual_duals)], narrowed := true }
def SubtypeLabelsUptoSaid : Prop := subtypeLabelsUptoRow.holds Tryd.pinned (OpenSpec.upto subtypeLabelsSpec)

/-- 'duologuelaw11.SubtypeOrders', WHERE WHAT IT READS IS OF BULK AT MOST 1048576: true; the input reads as it did. -/
def subtypeOrdersUptoRow : OpenClaim := { program := "ytijfioakpngdhaadoor", sum := "23ad297f83dfefcf22327705917b4620dc9f4fb04cdbf7d09e70608e4da8f139", func := "duologue/duologuelaw11.SubtypeOrders", spec := "subtypeOrders", unfollowed := true, recurses := true, named := ["duologue/dual.duals"], loops := true, plainKeys := false, apart := false, laid := [("duologue/dual.duals", laid_duologue_dual_duals)], narrowed := true }
def SubtypeOrdersUptoSaid : Prop := subtypeOrdersUptoRow.holds Tryd.pinned (OpenSpec.upto subtypeOrdersSpec)

end Rows
end Go.Proofs.YtijfioakpngdhaaDoor
