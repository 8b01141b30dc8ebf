/- For every core program, the program's OpenNames returns what the reference's returns. -/
import Derived.Test.YtnooeebefhfjcaaDoorRows
import Derived.Test.YtnooeebefhfjcaaDoorCards
import Derived.Test.YtnooeebefhfjcaaDoorTie
import Derived.Test.YtnooeebefhfjcaaDoorOnL
import Derived.Test.YtnooeebefhfjcaaDoorLay
import Derived.Test.YtnooeebefhfjcaaDoorOpC
import Derived.ChangeVars
import Derived.OpenVars
import Derived.LaidMore
import Derived.Stop.Joined
import Derived.MakeChecks
namespace Go.Proofs.YtnooeebefhfjcaaDoor
open Go Go.ChangeShapes Go.WideShapes Go.ChangeAt Go.RowKit
theorem ownopen : ownKnob Tryd.prog.godebug = none := by kernel_rfl
theorem laidOutopen : laidOutB Tryd.prog = true := by kernel_rfl
theorem open_met (os : Os) (args : Array Value) : laidMetH Tryd.prog [("loop.example/macroexpander/impl.primitives", Rows.laid_loop_example_macroexpander_impl_primitives)] ((World.doorLaid Tryd.prog 400 os).forCall (fun _ _ => 0) ⟨#[], args, []⟩).memory :=
  laidMetH_of_parts3 (fuel := 8) (laidMet_of_run' 8 (by kernel_rfl) (by kernel_rfl)) (by kernel_rfl) (by kernel_rfl)
theorem laidopen_of {W : World} (h : laidMetH Tryd.prog [("loop.example/macroexpander/impl.primitives", Rows.laid_loop_example_macroexpander_impl_primitives)] W) : PrimLaid W ∧ 0 < W.heap.size := by
  rw [MakeChecks.laidMetH_plain _ _ _ (by kernel_rfl)] at h
  obtain ⟨ps, ⟨g0, t0, cs0, f0, p0, q0, hg0, ht0, hv0, hd0, _, _⟩, _, _⟩ := h
  obtain rfl := Option.some.inj ((show Tryd.prog.globalNamed "loop.example/macroexpander/impl.primitives" = some 0 by kernel_rfl).symm.trans hg0)
  obtain rfl := Option.some.inj ((show (Tryd.prog.globals[0]?).map (·.type) = some 71 by kernel_rfl).symm.trans ht0)
  exact strs_laid primNames (by simp [primNames]) (by decide) hg0 hv0 Tryd.underlying71 (by kernel_rfl) hd0
set_option maxRecDepth 100000 in
theorem open_lifted (os : Os) (started : os.Started) (H : Type) (enc : TypeId × Value → H) :
    ReturnsInHanded {} Tryd.checked os 5 .any (fun w args => (Rows.fnExactOpenNamesSpec.pre enc Tryd.prog Tryd.f5 [] false w args ∧ laidMetH Tryd.prog [("loop.example/macroexpander/impl.primitives", Rows.laid_loop_example_macroexpander_impl_primitives)] w) ∧ sizedMet enc Tryd.prog Tryd.f5 (OpenSpec.ofChange Rows.fnExactOpenNamesSpec) false w args)
      (Rows.fnExactOpenNamesSpec.post enc Tryd.prog Tryd.f5 false true false false) := by
  refine returnsInHanded_of_change_and (C := Tryd.checked) (X := fun w _ => laidMetH Tryd.prog [("loop.example/macroexpander/impl.primitives", Rows.laid_loop_example_macroexpander_impl_primitives)] w) (fun _ _ _ hh h => h.of_heap hh) ownopen started (by kernel_rfl) Tryd.func5
    (ChangeSpec.witness_shaped (enc := enc) (C := Tryd.checked) (os := os) (X := fun w _ => laidMetH Tryd.prog [("loop.example/macroexpander/impl.primitives", Rows.laid_loop_example_macroexpander_impl_primitives)] w) false (World.doorLaid Tryd.prog 400 os) #[.agg #[.int .i64 0, .int .i64 0, .string ⟨#[]⟩, .int .i64 0, .slice none 0 0, .int .i64 0, .string ⟨#[]⟩, .int .i64 0, .slice none 0 0, .slice none 0 0, .slice none 0 0]] 8 rfl (World.shaped_of_RefB (by kernel_rfl) (by kernel_rfl)) (by kernel_rfl) (by kernel_rfl) (by kernel_rfl) (open_met os _)) ?_
  intro W base args ds gs before hval0 hW _ _ hL _
  have hW' := hW
  obtain ⟨p, q, hA0, hV, rfl, hfz, hnd⟩ := hW
  have hA : DataW.TrodAll enc Tryd.prog W 0 (fun _ => true) true Tryd.f5.params.toList args.toList ds p := hA0
  rw [Tryd.params5] at hA
  obtain ⟨v0, d0, rfl, rfl, h0⟩ := trodAll_one hA
  obtain ⟨g1, t1, cs1, fu1, d1, p1, rfl, _, _, _, _, _⟩ := trodVars_one hV
  obtain ⟨vs, f, rfl, hr⟩ := agg_of_core (fun _ => True) (fun _ => trivial) h0
  obtain ⟨hlib, hgl⟩ := laidopen_of hL
  have hlt : ∀ x ∈ p, x.block < W.heap.size := fun x hx => by simpa using hW'.lt x (by simp [hx])
  refine (lawOpen_any f _ vs W hr hlib hgl).mono fun e W' ⟨he, hb⟩ => ?_
  subst he
  exact ⟨_, rfl, _, _, _, [], p, q, hW', trodAll_mk1 (shut_bool Tryd.underlying4 _), trodAll_mk1 (Below.trod laidOutopen (by kernel_rfl) (of_decide_eq_true (by kernel_rfl)) h0 hb hlt), hb.trodVars laidOutopen (by kernel_rfl) hV, hb.frame _, fun h => by cases h⟩
theorem open_holds : Rows.FnExactOpenNamesSaid :=
  OpenClaim.holds_of_wide 5 Tryd.f5 rfl rfl rfl rfl rfl rfl rfl ⟨rfl, rfl, rfl, rfl, rfl⟩ rfl rfl rfl rfl rfl (by kernel_rfl) Tryd.func5 (by kernel_rfl)
    (of_decide_eq_true (by kernel_rfl)) (by unfold Func.isWrapper; first | (rw [if_pos (by decide +kernel)]; kernel_rfl) | (rw [if_neg (by decide +kernel)]; exact ⟨rfl, rfl⟩))
    (fun os started H enc _ => open_lifted os started H enc)
end Go.Proofs.YtnooeebefhfjcaaDoor
