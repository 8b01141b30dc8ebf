/-
  NARROWER THAN 'FOR EVERY INPUT', by the rows' own cells (each row's printed sentence says how): FnExactNeededMacros: loops, laid · FnExactHeadsOf: loops, laid · FnExactOpenNames: loops, laid.
  DERIVED. THE GIVEN ROWS OF THIS SEAT. 3 by the template 'for every input the law returns true; each argument reads behind the call as it read before'; 0 by the template 'total and deterministic' (their statements: YtnooeebefhfjcaaDoorTotals.lean).
  GIVEN WITH THE SEED: the statements are not yours to turn. If you find one false, say at which input.
  Laid BY PROGRAM, IN A SANDBOX (cutbox-rows.mjs): the forced cells as the released guide's own fill.sh prints them over the translation 592218b350ae352f… (all of the seat's roots in one cut). By AI agents, Wed Nov 11 2026. No macro, syntax, notation, axiom, sorry.
-/
import Derived.Test.YtnooeebefhfjcaaDoorChecked
import GoSem.Claim
import GoSem.ClaimJoined
import GoSem.ClaimMapViews
import Derived.JoinedTies
import Derived.KernelRfl
namespace Go.Proofs.YtnooeebefhfjcaaDoor
/- THE CELL 'sum', in the pinned program and in every row, IS THE sha256 OF THE DUMP (.gsa) THAT YtnooeebefhfjcaaDoorProg.lean LOADS. Nothing in Lean hashes anything: it is a label: what it is worth is what the hold of that sum in a sandbox is worth. -/
noncomputable def Tryd.pinned : Pinned := { name := "ytnooeebefhfjcaadoor", sum := "592218b350ae352fd610128e0d2ebca5befa2147c56ffe0cabaaf1b78952d199", checked := Tryd.checked }
namespace Rows
def none {H : Type} : Left H := { results := [], args := [] }

/- WHAT THE LISTED PACKAGE-LEVEL VARIABLES READ AS WHEN THE CALL BEGINS. Each datum BY PROGRAM (the guide's laid-datum.mjs) off the statement by which the dump's own 'gosem.cut.vars' lays the variable. In a bare row this is a premise. The card (YtnooeebefhfjcaaDoorCards.lean) ties it to the program's text. -/
def laid_loop_example_macroexpander_impl_libraryNames {H : Type} : DataW H := .agg [.lit (.string [97, 110, 100]), .lit (.string [111, 114]), .lit (.string [110, 111, 116]), .lit (.string [119, 104, 101, 110]), .lit (.string [99, 111, 110, 100]), .lit (.string [108, 101, 116, 42]), .lit (.string [115, 119, 97, 112])]
def laid_loop_example_macroexpander_impl_primitives {H : Type} : DataW H := .agg [.lit (.string [108, 105, 115, 116]), .lit (.string [43]), .lit (.string [60]), .lit (.string [61]), .lit (.string [104, 101, 97, 100]), .lit (.string [116, 97, 105, 108])]

/-- 'laws.FnExactNeededMacros': WHATEVER THE INPUT: true; the input reads as it did. -/
def fnExactNeededMacrosSpec : ChangeSpec := { name := "fnExactNeededMacros", vars := ["loop.example/macroexpander/impl.libraryNames"], fn := fun _ => fun
  | [d, g1] => { results := [.lit (.bool true)], args := [d], vars := [g1] }
  | _ => none }
def fnExactNeededMacrosRow : OpenClaim := { program := "ytnooeebefhfjcaadoor", sum := "592218b350ae352fd610128e0d2ebca5befa2147c56ffe0cabaaf1b78952d199", func := "loop.example/macroexpander/laws.FnExactNeededMacros", spec := "fnExactNeededMacros", unfollowed := true, recurses := true, named := ["loop.example/macroexpander/impl.libraryNames"], loops := true, apart := false, laid := [("loop.example/macroexpander/impl.libraryNames", laid_loop_example_macroexpander_impl_libraryNames)] }
def FnExactNeededMacrosSaid : Prop := fnExactNeededMacrosRow.holds Tryd.pinned (OpenSpec.ofChange fnExactNeededMacrosSpec)

/-- ITS FALSE NEIGHBOUR: 'it returns false'. Refute it at one input. -/
def fnExactNeededMacrosWrong : ChangeSpec := { name := "fnExactNeededMacros", vars := ["loop.example/macroexpander/impl.libraryNames"], fn := fun _ => fun
  | [d, g1] => { results := [.lit (.bool false)], args := [d], vars := [g1] }
  | _ => none }
def FnExactNeededMacrosWrongFalsely : Prop := fnExactNeededMacrosRow.holds Tryd.pinned (OpenSpec.ofChange fnExactNeededMacrosWrong)

/-- 'laws.FnExactHeadsOf': WHATEVER THE INPUT: true; the input reads as it did. -/
def fnExactHeadsOfSpec : ChangeSpec := { name := "fnExactHeadsOf", vars := ["loop.example/macroexpander/impl.primitives"], fn := fun _ => fun
  | [d, g1] => { results := [.lit (.bool true)], args := [d], vars := [g1] }
  | _ => none }
def fnExactHeadsOfRow : OpenClaim := { program := "ytnooeebefhfjcaadoor", sum := "592218b350ae352fd610128e0d2ebca5befa2147c56ffe0cabaaf1b78952d199", func := "loop.example/macroexpander/laws.FnExactHeadsOf", spec := "fnExactHeadsOf", unfollowed := true, recurses := true, named := ["loop.example/macroexpander/impl.primitives"], loops := true, apart := false, laid := [("loop.example/macroexpander/impl.primitives", laid_loop_example_macroexpander_impl_primitives)] }
def FnExactHeadsOfSaid : Prop := fnExactHeadsOfRow.holds Tryd.pinned (OpenSpec.ofChange fnExactHeadsOfSpec)

/-- ITS FALSE NEIGHBOUR: 'it returns false'. Refute it at one input. -/
def fnExactHeadsOfWrong : ChangeSpec := { name := "fnExactHeadsOf", vars := ["loop.example/macroexpander/impl.primitives"], fn := fun _ => fun
  | [d, g1] => { results := [.lit (.bool false)], args := [d], vars := [g1] }
  | _ => none }
def FnExactHeadsOfWrongFalsely : Prop := fnExactHeadsOfRow.holds Tryd.pinned (OpenSpec.ofChange fnExactHeadsOfWrong)

/-- 'laws.FnExactOpenNames': WHATEVER THE INPUT: true; the input reads as it did. -/
def fnExactOpenNamesSpec : ChangeSpec := { name := "fnExactOpenNames", vars := ["loop.example/macroexpander/impl.primitives"], fn := fun _ => fun
  | [d, g1] => { results := [.lit (.bool true)], args := [d], vars := [g1] }
  | _ => none }
def fnExactOpenNamesRow : OpenClaim := { program := "ytnooeebefhfjcaadoor", sum := "592218b350ae352fd610128e0d2ebca5befa2147c56ffe0cabaaf1b78952d199", func := "loop.example/macroexpander/laws.FnExactOpenNames", spec := "fnExactOpenNames", unfollowed := true, recurses := true, named := ["loop.example/macroexpander/impl.primitives"], loops := true, apart := false, laid := [("loop.example/macroexpander/impl.primitives", laid_loop_example_macroexpander_impl_primitives)] }
def FnExactOpenNamesSaid : Prop := fnExactOpenNamesRow.holds Tryd.pinned (OpenSpec.ofChange fnExactOpenNamesSpec)

/-- ITS FALSE NEIGHBOUR: 'it returns false'. Refute it at one input. -/
def fnExactOpenNamesWrong : ChangeSpec := { name := "fnExactOpenNames", vars := ["loop.example/macroexpander/impl.primitives"], fn := fun _ => fun
  | [d, g1] => { results := [.lit (.bool false)], args := [d], vars := [g1] }
  | _ => none }
def FnExactOpenNamesWrongFalsely : Prop := fnExactOpenNamesRow.holds Tryd.pinned (OpenSpec.ofChange fnExactOpenNamesWrong)

/- THE SECOND FORM. 'bulk': how many values and letters a reading holds, each counted each time it is reached (what is shared counts as often as it is met; a slice's spare places count too). A statement '..UptoSaid' is the law's where the arguments, and the package variables that the reading takes, are together of bulk at most 1048576: NARROWER than '..Said'. Prove '..Said' where nothing that the law and all that it calls make is longer than what came in: it says more and counts as full. Else prove '..UptoSaid'. A law counts once. -/
mutual
def uptoBulk {H : Type} : DataW H → Nat
  | .lit (.string bytes) => bytes.length + 1
  | .lit _ => 1
  | .nil => 1
  | .ptr d => uptoBulk d + 1
  | .slice elems spare => uptoBulkAll elems + uptoBulkAll spare + 1
  | .agg parts => uptoBulkAll parts + 1
  | .iface _ d => uptoBulk d + 1
  | .map entries => uptoBulkEntries entries + 1
  | .held _ => 1
def uptoBulkAll {H : Type} : List (DataW H) → Nat
  | [] => 0
  | d :: r => uptoBulk d + uptoBulkAll r
def uptoBulkEntries {H : Type} : List (Lit × DataW H) → Nat
  | [] => 0
  | x :: r => uptoBulkEntry x + uptoBulkEntries r
def uptoBulkEntry {H : Type} : Lit × DataW H → Nat
  | (.string bytes, d) => bytes.length + uptoBulk d + 1
  | (_, d) => uptoBulk d + 1
 end
def uptoSmall : (H : Type) → List (DataW H) → Bool := fun _ ds => decide (uptoBulkAll ds ≤ 1048576)
def OpenSpec.upto (s : _root_.Go.ChangeSpec) : _root_.Go.OpenSpec := { _root_.Go.OpenSpec.ofChange s with cond := some uptoSmall }

/-- 'laws.FnExactNeededMacros', WHERE WHAT IT READS IS OF BULK AT MOST 1048576: true; the input reads as it did. -/
def fnExactNeededMacrosUptoRow : OpenClaim := { program := "ytnooeebefhfjcaadoor", sum := "592218b350ae352fd610128e0d2ebca5befa2147c56ffe0cabaaf1b78952d199", func := "loop.example/macroexpander/laws.FnExactNeededMacros", spec := "fnExactNeededMacros", unfollowed := true, recurses := true, named := ["loop.example/macroexpander/impl.libraryNames"], loops := true, apart := false, laid := [("loop.example/macroexpander/impl.libraryNames", laid_loop_example_macroexpander_impl_libraryNames)], narrowed := true }
def FnExactNeededMacrosUptoSaid : Prop := fnExactNeededMacrosUptoRow.holds Tryd.pinned (OpenSpec.upto fnExactNeededMacrosSpec)

/-- 'laws.FnExactHeadsOf', WHERE WHAT IT READS IS OF BULK AT MOST 1048576: true; the input reads as it did. -/
def fnExactHeadsOfUptoRow : OpenClaim := { program := "ytnooeebefhfjcaadoor", sum := "592218b350ae352fd610128e0d2ebca5befa2147c56ffe0cabaaf1b78952d199", func := "loop.example/macroexpander/laws.FnExactHeadsOf", spec := "fnExactHeadsOf", unfollowed := true, recurses := true, named := ["loop.example/macroexpander/impl.primitives"], loops := true, apart := false, laid := [("loop.example/macroexpander/impl.primitives", laid_loop_example_macroexpander_impl_primitives)], narrowed := true }
def FnExactHeadsOfUptoSaid : Prop := fnExactHeadsOfUptoRow.holds Tryd.pinned (OpenSpec.upto fnExactHeadsOfSpec)

/-- 'laws.FnExactOpenNames', WHERE WHAT IT READS IS OF BULK AT MOST 1048576: true; the input reads as it did. -/
def fnExactOpenNamesUptoRow : OpenClaim := { program := "ytnooeebefhfjcaadoor", sum := "592218b350ae352fd610128e0d2ebca5befa2147c56ffe0cabaaf1b78952d199", func := "loop.example/macroexpander/laws.FnExactOpenNames", spec := "fnExactOpenNames", unfollowed := true, recurses := true, named := ["loop.example/macroexpander/impl.primitives"], loops := true, apart := false, laid := [("loop.example/macroexpander/impl.primitives", laid_loop_example_macroexpander_impl_primitives)], narrowed := true }
def FnExactOpenNamesUptoSaid : Prop := fnExactOpenNamesUptoRow.holds Tryd.pinned (OpenSpec.upto fnExactOpenNamesSpec)

end Rows
end Go.Proofs.YtnooeebefhfjcaaDoor
