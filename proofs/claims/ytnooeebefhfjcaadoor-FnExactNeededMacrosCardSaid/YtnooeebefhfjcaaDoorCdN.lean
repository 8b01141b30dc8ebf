/- For every form, the program's NeededMacros returns what the reference's returns: the tied card; the table of the library's names is as the program's text lays it. -/
import Derived.Test.YtnooeebefhfjcaaDoorRwN
namespace Go.Proofs.YtnooeebefhfjcaaDoor
open Go
set_option maxRecDepth 100000
theorem needed_card_holds : Rows.FnExactNeededMacrosCardSaid :=
  Claim7.holds_tied_plain_at .later [] [.widerDeep] true (true, "f761c00d093f9c439024932ab0405c8a2f20f3a404904bc446d90ac931439d10") false
    needed_holds (fun _ h => by cases h) (by kernel_rfl) (fun _ h => by cases h) fnExactNeededMacros_row_tie rfl ⟨rfl, rfl⟩ (by kernel_rfl) rfl
    (fun f fn hf hfn => by
      obtain rfl : f = 3 := Option.some.inj ((show Tryd.prog.funcNamed "loop.example/macroexpander/laws.FnExactNeededMacros" = some 3 by kernel_rfl).symm.trans hf) |>.symm
      obtain rfl : fn = Tryd.f3 := (Option.some.inj (Tryd.func3.symm.trans hfn)).symm
      exact ⟨by kernel_rfl, fun j t ht => by
        rw [Tryd.params3] at ht
        have h3 : t = 25 := by
          rcases j with _ | j
          · simpa using ht.symm
          · simp at ht
        subst h3
        exact (show Tryd.prog.wantsStandIn 25 = false by kernel_rfl)⟩)
    (by kernel_rfl)
#print axioms needed_card_holds
end Go.Proofs.YtnooeebefhfjcaaDoor
