/- For every core program, the program's OpenNames returns what the reference's returns. The tied card: the table is as the program's text lays it. -/
import Derived.Test.YtnooeebefhfjcaaDoorRwO
namespace Go.Proofs.YtnooeebefhfjcaaDoor
open Go
set_option maxRecDepth 100000
theorem open_card_holds : Rows.FnExactOpenNamesCardSaid :=
  Claim7.holds_tied_plain_at .later [] [.widerDeep] true (true, "f761c00d093f9c439024932ab0405c8a2f20f3a404904bc446d90ac931439d10") false
    open_holds (fun _ h => by cases h) (by kernel_rfl) (fun _ h => by cases h) fnExactOpenNames_row_tie rfl ⟨rfl, rfl⟩ (by kernel_rfl) rfl
    (fun f fn hf hfn => by
      obtain rfl : f = 5 := Option.some.inj ((show Tryd.prog.funcNamed "loop.example/macroexpander/laws.FnExactOpenNames" = some 5 by kernel_rfl).symm.trans hf) |>.symm
      obtain rfl : fn = Tryd.f5 := (Option.some.inj (Tryd.func5.symm.trans hfn)).symm
      exact ⟨by kernel_rfl, fun j t ht => by
        rw [Tryd.params5] at ht
        have h3 : t = 40 := by
          rcases j with _ | j
          · simpa using ht.symm
          · simp at ht
        subst h3
        exact (show Tryd.prog.wantsStandIn 40 = false by kernel_rfl)⟩)
    (by kernel_rfl)
#print axioms open_card_holds
end Go.Proofs.YtnooeebefhfjcaaDoor
