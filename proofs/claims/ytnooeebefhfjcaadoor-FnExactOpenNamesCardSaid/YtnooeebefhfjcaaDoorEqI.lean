/- eqIntS answers true where both read as one list. -/
import Derived.Test.YtnooeebefhfjcaaDoorProg
import Derived.Test.YtnooeebefhfjcaaDoorTo
import Derived.Deep.QuietTactic
import Derived.BigQuiet
set_option linter.unusedVariables false
set_option linter.unusedSimpArgs false
namespace Go.Proofs.YtnooeebefhfjcaaDoor
open Go Go.RowKit

theorem Reads.elemS {w : World} {S : Nat → Prop} {A : Option Addr} {n c : Nat} {t : TypeId} {xs : List ByteArray} {j : Nat} (h : Reads w S [.slice A n c] [.r t 1 (xs.map D.s)]) (hj : j < xs.length) :
    ∃ ad, A = some ad ∧ w.cell? (ad.add j) = some (.string (xs[j]'hj)) ∧ (xs[j]'hj).size ≤ maxLen := by
  have e : xs.map D.s = (xs.take j).map D.s ++ ([D.s (xs[j]'hj)] ++ (xs.drop (j + 1)).map D.s) := by
    rw [List.singleton_append, ← List.map_cons, ← List.drop_eq_getElem_cons hj, ← List.map_append, List.take_append_drop]
  obtain ⟨ad, us, rfl, h1, hr, hc⟩ := h.elem (j := j) e (by simp; omega) (by simp)
  match us, h1 with
  | [u], _ =>
    obtain ⟨rfl, hb⟩ := hr.str_inv
    exact ⟨ad, rfl, by simpa using hc 0 _ rfl, hb⟩
theorem drewN_below (w : World) (n : Nat) : Below w.heap.size w (w.drewN n) := ⟨rfl, rfl, rfl, Nat.le_refl _, fun _ _ => rfl⟩

set_option maxHeartbeats 1000000 in
theorem eqIntS_any (xs : List Int) (S S' : Nat → Prop) (A B : Option Addr) (n c d : Nat) (w : World) (hn : n = xs.length) (hr : Reads w S [.slice A n c] [.r 3 1 (xs.map D.i)]) (hr' : Reads w S' [.slice B n d] [.r 3 1 (xs.map D.i)]) :
    Calls Tryd.prog 19 #[.slice A n c, .slice B n d] w fun e w' => e = .returned (.bool true) ∧ Below w.heap.size w w' := by
  have hm := hr.sl_le.2
  unfold maxLen at hm
  have HR := Lib.hid hr
  have HR' := Lib.hid hr'
  have HN := Lib.hid hn
  clear hr hr' hn
  go_enter Tryd.func19, Tryd.ntmps19
  go_wp2_with fail
  go_loopw [5] (fun i wr => ∃ j : Nat, j ≤ n ∧ i = .int .i64 j ∧ Hid (Below w.heap.size w wr)) (fun i _ => n - (intOf i).toNat)
  case atStart => exact ⟨0, Nat.zero_le _, rfl, Below.refl _ _⟩
  case round =>
    obtain ⟨j, hj, rfl, HB⟩ := hrel
    by_cases hlt : j < n
    · obtain ⟨ad, rfl, hc0⟩ := Reads.elemI (HR.out.belAll HB.out) (show j < xs.length by have := HN.out; omega)
      obtain ⟨bd, rfl, hd0⟩ := Reads.elemI (HR'.out.belAll HB.out) (show j < xs.length by have := HN.out; omega)
      go_wp2_with fail
      go_quiet (fail)
      go_wp2_with fail
      go_roundw
      case rel => exact ⟨j + 1, by omega, by go_num, HB.out.trans ((drewN_below _ _).mono HB.out.size)⟩
      case measure => simp [intOf]; omega
    · go_wp2_with fail
      go_ret
      exact ⟨rfl, HB.out⟩
end Go.Proofs.YtnooeebefhfjcaaDoor
