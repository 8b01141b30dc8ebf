/-
  DERIVED. GIVEN WITH THE SEED: THE PROGRAM's TIES (one call each: nine closed facts by the kernel) AND EACH ROW's TIE, after the 31st guide's Derived/Test/Toyas{Tie, Card}.lean. No idea stands in it: it is a product of the set-up. Laid BY PROGRAM, IN A SANDBOX (cutbox-door.mjs). By AI agents, Wed Nov 11 2026. No macro, syntax, notation, axiom, sorry.
-/
import Derived.Test.YtnooeebefhfjcaaDoorRows
import Derived.LaidByTextLater
import Derived.SevenTiedAt
import Derived.LaidSub
import Derived.LaidOnce
namespace Go.Proofs.YtnooeebefhfjcaaDoor
open Go
set_option maxRecDepth 100000
theorem seatTie1 : Tryd.prog.laidByTextLater [("loop.example/macroexpander/impl.libraryNames", Rows.laid_loop_example_macroexpander_impl_libraryNames), ("loop.example/macroexpander/impl.primitives", Rows.laid_loop_example_macroexpander_impl_primitives)] [.widerDeep, .widerDeep] true :=
  Program.laidByTextLater_by_one 19 8 8 (by kernel_rfl) (by kernel_rfl) (by kernel_rfl) (by kernel_rfl) (by kernel_rfl) (by kernel_rfl) (fun _ _ => by kernel_rfl)
theorem noOwnUnsafe : Tryd.pinned.checked.prog.headLifts.contains "ownunsafe" = false := by kernel_rfl
theorem tie : Tryd.prog.laidByTextLater [("loop.example/macroexpander/impl.libraryNames", Rows.laid_loop_example_macroexpander_impl_libraryNames)] [.widerDeep] true :=
  Program.laidByTextLater.sub seatTie1 ["loop.example/macroexpander/impl.libraryNames"] (by kernel_rfl) (by kernel_rfl)
theorem fnExactNeededMacros_row_tie : Rows.fnExactNeededMacrosRow.laidByTextAt .later Tryd.pinned [.widerDeep] true :=
  OpenClaim.laidByTextAt_later rfl rfl tie noOwnUnsafe
theorem tie2 : Tryd.prog.laidByTextLater [("loop.example/macroexpander/impl.primitives", Rows.laid_loop_example_macroexpander_impl_primitives)] [.widerDeep] true :=
  Program.laidByTextLater.sub seatTie1 ["loop.example/macroexpander/impl.primitives"] (by kernel_rfl) (by kernel_rfl)
theorem fnExactHeadsOf_row_tie : Rows.fnExactHeadsOfRow.laidByTextAt .later Tryd.pinned [.widerDeep] true :=
  OpenClaim.laidByTextAt_later rfl rfl tie2 noOwnUnsafe
theorem fnExactOpenNames_row_tie : Rows.fnExactOpenNamesRow.laidByTextAt .later Tryd.pinned [.widerDeep] true :=
  OpenClaim.laidByTextAt_later rfl rfl tie2 noOwnUnsafe
theorem fnExactNeededMacrosUpto_row_tie : Rows.fnExactNeededMacrosUptoRow.laidByTextAt .later Tryd.pinned [.widerDeep] true :=
  OpenClaim.laidByTextAt_later rfl rfl tie noOwnUnsafe
theorem fnExactHeadsOfUpto_row_tie : Rows.fnExactHeadsOfUptoRow.laidByTextAt .later Tryd.pinned [.widerDeep] true :=
  OpenClaim.laidByTextAt_later rfl rfl tie2 noOwnUnsafe
theorem fnExactOpenNamesUpto_row_tie : Rows.fnExactOpenNamesUptoRow.laidByTextAt .later Tryd.pinned [.widerDeep] true :=
  OpenClaim.laidByTextAt_later rfl rfl tie2 noOwnUnsafe
end Go.Proofs.YtnooeebefhfjcaaDoor
