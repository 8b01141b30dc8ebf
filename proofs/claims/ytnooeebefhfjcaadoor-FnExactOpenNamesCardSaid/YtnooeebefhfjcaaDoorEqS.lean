/- eqStringS answers true where both read as one list. -/
import Derived.Test.YtnooeebefhfjcaaDoorEqI
set_option linter.unusedVariables false
set_option linter.unusedSimpArgs false
namespace Go.Proofs.YtnooeebefhfjcaaDoor
open Go Go.RowKit
set_option maxHeartbeats 1000000 in
theorem eqStringS_any (xs : List ByteArray) (S S' : Nat → Prop) (A B : Option Addr) (n c d : Nat) (w : World) (hn : n = xs.length) (hr : Reads w S [.slice A n c] [.r 9 1 (xs.map D.s)]) (hr' : Reads w S' [.slice B n d] [.r 9 1 (xs.map D.s)]) :
    Calls Tryd.prog 10 #[.slice A n c, .slice B n d] w fun e w' => e = .returned (.bool true) ∧ Below w.heap.size w w' := by
  have hm := hr.sl_le.2
  unfold maxLen at hm
  have HR := Lib.hid hr
  have HR' := Lib.hid hr'
  have HN := Lib.hid hn
  clear hr hr' hn
  go_enter Tryd.func10, Tryd.ntmps10
  go_wp2_with fail
  go_loopw [5] (fun i wr => ∃ j : Nat, j ≤ n ∧ i = .int .i64 j ∧ Hid (Below w.heap.size w wr)) (fun i _ => n - (intOf i).toNat)
  case atStart => exact ⟨0, Nat.zero_le _, rfl, Below.refl _ _⟩
  case round =>
    obtain ⟨j, hj, rfl, HB⟩ := hrel
    by_cases hlt : j < n
    · obtain ⟨ad, rfl, hc0, hb0⟩ := Reads.elemS (HR.out.belAll HB.out) (show j < xs.length by have := HN.out; omega)
      obtain ⟨bd, rfl, hd0, hb1⟩ := Reads.elemS (HR'.out.belAll HB.out) (show j < xs.length by have := HN.out; omega)
      clear hb0 hb1
      go_wp2_with fail
      go_quiet (fail)
      go_wp2_with fail
      go_roundw
      case rel => exact ⟨j + 1, by omega, by go_num, HB.out.trans ((drewN_below _ _).mono HB.out.size)⟩
      case measure => simp [intOf]; omega
    · go_wp2_with fail
      go_ret
      exact ⟨rfl, HB.out⟩
end Go.Proofs.YtnooeebefhfjcaaDoor
