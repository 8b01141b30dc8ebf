/-
  DERIVED. GIVEN WITH THE SEED: THE CARDS: each row of YtnooeebefhfjcaaDoorRows.lean that lists a variable, with what it lists TIED to the program's text (the seventh form; the later family's looks); each row that meets fmt, with fmt's text TOLD by the authors' own Lean function (tested against real Go, not proved from fmt's source: count such statements apart). THE CARD IS WHAT COUNTS. Prove the row's statement (the work); the ties are given (YtnooeebefhfjcaaDoorTie.lean); close each card by the builder's one call (the guide's Derived/Test/ToyasCard.lean, 'card_holds'). Laid BY PROGRAM, IN A SANDBOX (cutbox-door.mjs). By AI agents, Wed Nov 11 2026. No macro, syntax, notation, axiom, sorry.
-/
import Derived.Test.YtnooeebefhfjcaaDoorRows
import GoSem.ClaimSeven
namespace Go.Proofs.YtnooeebefhfjcaaDoor
namespace Rows

/-- THE TIED CARD OF 'laws.FnExactNeededMacros'. -/
def fnExactNeededMacrosCard : Claim7 := { stood := { row := fnExactNeededMacrosRow, standIns := [], harness := (true, "f761c00d093f9c439024932ab0405c8a2f20f3a404904bc446d90ac931439d10"), looks := false }, kinds := [], alts := [], laidByText := true, laidKinds := [.widerDeep], laidTests := true, laidLooks := .later }
def FnExactNeededMacrosCardSaid : Prop := Claim7.holds Tryd.pinned (.plain (OpenSpec.ofChange fnExactNeededMacrosSpec)) fnExactNeededMacrosCard

/-- THE TIED CARD OF 'laws.FnExactHeadsOf'. -/
def fnExactHeadsOfCard : Claim7 := { stood := { row := fnExactHeadsOfRow, standIns := [], harness := (true, "f761c00d093f9c439024932ab0405c8a2f20f3a404904bc446d90ac931439d10"), looks := false }, kinds := [], alts := [], laidByText := true, laidKinds := [.widerDeep], laidTests := true, laidLooks := .later }
def FnExactHeadsOfCardSaid : Prop := Claim7.holds Tryd.pinned (.plain (OpenSpec.ofChange fnExactHeadsOfSpec)) fnExactHeadsOfCard

/-- THE TIED CARD OF 'laws.FnExactOpenNames'. -/
def fnExactOpenNamesCard : Claim7 := { stood := { row := fnExactOpenNamesRow, standIns := [], harness := (true, "f761c00d093f9c439024932ab0405c8a2f20f3a404904bc446d90ac931439d10"), looks := false }, kinds := [], alts := [], laidByText := true, laidKinds := [.widerDeep], laidTests := true, laidLooks := .later }
def FnExactOpenNamesCardSaid : Prop := Claim7.holds Tryd.pinned (.plain (OpenSpec.ofChange fnExactOpenNamesSpec)) fnExactOpenNamesCard

/-- THE SECOND FORM's CARD OF 'laws.FnExactNeededMacros'. -/
def fnExactNeededMacrosUptoCard : Claim7 := { stood := { row := fnExactNeededMacrosUptoRow, standIns := [], harness := (true, "f761c00d093f9c439024932ab0405c8a2f20f3a404904bc446d90ac931439d10"), looks := false }, kinds := [], alts := [], laidByText := true, laidKinds := [.widerDeep], laidTests := true, laidLooks := .later }
def FnExactNeededMacrosUptoCardSaid : Prop := Claim7.holds Tryd.pinned (.plain (OpenSpec.upto fnExactNeededMacrosSpec)) fnExactNeededMacrosUptoCard

/-- THE SECOND FORM's CARD OF 'laws.FnExactHeadsOf'. -/
def fnExactHeadsOfUptoCard : Claim7 := { stood := { row := fnExactHeadsOfUptoRow, standIns := [], harness := (true, "f761c00d093f9c439024932ab0405c8a2f20f3a404904bc446d90ac931439d10"), looks := false }, kinds := [], alts := [], laidByText := true, laidKinds := [.widerDeep], laidTests := true, laidLooks := .later }
def FnExactHeadsOfUptoCardSaid : Prop := Claim7.holds Tryd.pinned (.plain (OpenSpec.upto fnExactHeadsOfSpec)) fnExactHeadsOfUptoCard

/-- THE SECOND FORM's CARD OF 'laws.FnExactOpenNames'. -/
def fnExactOpenNamesUptoCard : Claim7 := { stood := { row := fnExactOpenNamesUptoRow, standIns := [], harness := (true, "f761c00d093f9c439024932ab0405c8a2f20f3a404904bc446d90ac931439d10"), looks := false }, kinds := [], alts := [], laidByText := true, laidKinds := [.widerDeep], laidTests := true, laidLooks := .later }
def FnExactOpenNamesUptoCardSaid : Prop := Claim7.holds Tryd.pinned (.plain (OpenSpec.upto fnExactOpenNamesSpec)) fnExactOpenNamesUptoCard
end Rows
end Go.Proofs.YtnooeebefhfjcaaDoor
