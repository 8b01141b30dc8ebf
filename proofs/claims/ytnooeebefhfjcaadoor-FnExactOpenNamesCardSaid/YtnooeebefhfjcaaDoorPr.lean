/- l1In, l8Prims, heldIntS; the table of the primitives. -/
import Derived.Test.YtnooeebefhfjcaaDoorSlS
import Derived.Test.YtnooeebefhfjcaaDoorMk
set_option linter.unusedVariables false
set_option linter.unusedSimpArgs false
namespace Go.Proofs.YtnooeebefhfjcaaDoor
open Go Go.RowKit
def specPrims : List ByteArray := [⟨#[43]⟩, ⟨#[60]⟩, ⟨#[61]⟩, ⟨#[108, 105, 115, 116]⟩, ⟨#[104, 101, 97, 100]⟩, ⟨#[116, 97, 105, 108]⟩]
def primNames : List ByteArray := [⟨#[108, 105, 115, 116]⟩, ⟨#[43]⟩, ⟨#[60]⟩, ⟨#[61]⟩, ⟨#[104, 101, 97, 100]⟩, ⟨#[116, 97, 105, 108]⟩]
theorem hasS_prims (s : ByteArray) : hasS s specPrims = hasS s primNames := by
  rw [Bool.eq_iff_iff, hasS_iff, hasS_iff]
  simp only [specPrims, primNames, List.mem_cons, List.not_mem_nil, or_false]
  grind
/-- The table of the primitives, as the program's start lays it. -/
def PrimLaid (w : World) : Prop := Reads w (fun b => b = 0) [.slice (some ⟨0, 0, none⟩) 6 6] [.r 9 1 (primNames.map D.s)]
theorem PrimLaid.only {w w' : World} {bs : List Nat} (h : PrimLaid w) (ho : Only w w' bs) (hb : 0 ∉ bs) : PrimLaid w' := ho.reads h (fun b e => e ▸ hb)
theorem PrimLaid.belAll {w w' : World} (h : PrimLaid w) (hb : Below w.heap.size w w') : PrimLaid w' := Reads.belAll h hb
set_option maxHeartbeats 1000000 in
theorem l1In_any (xs : List ByteArray) (s : ByteArray) (S : Nat → Prop) (A : Option Addr) (n c : Nat) (w : World) (hn : n = xs.length) (hr : Reads w S [.slice A n c] [.r 9 1 (xs.map D.s)]) :
    Calls Tryd.prog 48 #[.slice A n c, .string s] w fun e w' => e = .returned (.bool (hasS s xs)) ∧ w = w' := by
  have hm := hr.sl_le.2
  unfold maxLen at hm
  have HR := Lib.hid hr
  have HN := Lib.hid hn
  clear hr hn
  go_enter Tryd.func48, Tryd.ntmps48
  go_wp2_with fail
  go_loop [5] (fun i => ∃ j : Nat, j ≤ n ∧ i = .int .i64 j ∧ Hid (∀ i, (hi : i < j) → (hx : i < xs.length) → xs[i]'hx ≠ s)) (fun i => n - (intOf i).toNat)
  case atStart => exact ⟨0, Nat.zero_le _, rfl, fun i hi => by omega⟩
  case round =>
    obtain ⟨j, hj, rfl, HI⟩ := hrel
    by_cases hlt : j < n
    · have hjl : j < xs.length := by have := HN.out; omega
      obtain ⟨ad, rfl, hc0, hns⟩ := HR.out.elemS hjl
      by_cases he : xs[j]'hjl = s
      · have heb : ((xs[j]'hjl).toList == s.toList) = true := by rw [bytes_eq]; simpa using he
        have HE := Lib.hid he
        clear he hns
        go_wp2_with fail
        go_ret
        refine ⟨?_, rfl⟩
        rw [(hasS_iff s xs).2 (HE.out ▸ List.getElem_mem hjl)]
        rfl
      · have heb : ((xs[j]'hjl).toList == s.toList) = false := by rw [bytes_eq]; simpa using he
        have HE := Lib.hid he
        clear he hns
        go_wp2_with fail
        go_round
        case rel =>
          refine ⟨j + 1, by omega, by go_num, fun i hi hx => ?_⟩
          rcases Nat.lt_or_ge i j with h | h
          · exact HI.out i h hx
          · obtain rfl : i = j := by omega
            exact HE.out
        case measure => simp [intOf]; omega
    · go_wp2_with fail
      go_ret
      have h1 := HN.out
      refine ⟨?_, rfl⟩
      unfold hasS
      rw [idxS_none fun i hi => HI.out i (by omega) hi]
      rfl
set_option maxHeartbeats 1000000 in
theorem l8Prims_any (w : World) : Calls Tryd.prog 49 #[] w fun e w' => ∃ g, e = .returned (.slice (some ⟨g, 0, none⟩) 6 6) ∧ Owns w' [.slice (some ⟨g, 0, none⟩) 6 6] [.r 9 1 (specPrims.map D.s)] [g] ∧ w.heap.size ≤ g ∧ Below w.heap.size w w' := by
  go_enter Tryd.func49, Tryd.ntmps49
  go_wp2_with fail
  go_ret
  refine ⟨_, rfl, ?_, Nat.le_refl _, (Below.refl _ _).alloc (Nat.le_refl _) _⟩
  refine Owns.row_mk (blk_new _ _) (Nat.le_refl 6) (by unfold maxLen; omega) rfl ?_
  exact Owns.strs_mk _ specPrims (by intro x hx; simp only [specPrims, List.mem_cons, List.not_mem_nil, or_false] at hx; rcases hx with rfl | rfl | rfl | rfl | rfl | rfl <;> decide)
set_option maxHeartbeats 1000000 in
theorem heldIntS_any (n : Nat) (S : Nat → Prop) (A : Option Addr) (c : Nat) (k : Nat) (q : Int) (hq : q = k) (w : World) (hr : Reads w S [.slice A n c] [.r 3 1 ((upFrom k n).map D.i)]) (hl : n ≤ 1000000000000) (hk : k ≤ 1000000000000) :
    Calls Tryd.prog 23 #[.slice A n c, .int .i64 q] w fun e w' => e = .returned (.int .i64 ((k + n : Nat) : Int)) ∧ w = w' := by
  subst hq
  have HR := Lib.hid hr
  clear hr
  go_enter Tryd.func23, Tryd.ntmps23
  go_wp2_with fail
  go_loop [1, 5] (fun q i => ∃ j : Nat, ∃ p : Nat, j ≤ n ∧ p ≤ 2000000000000 ∧ i = .int .i64 j ∧ q = .int .i64 p ∧ Hid (p = k + j)) (fun _ i => n - (intOf i).toNat)
  case atStart => exact ⟨0, k, Nat.zero_le _, by omega, rfl, rfl, rfl⟩
  case round =>
    obtain ⟨j, p, hj, hp, rfl, rfl, HP⟩ := hrel
    by_cases hlt : j < n
    · obtain ⟨ad, rfl, hc0⟩ := Reads.elemI HR.out (show j < (upFrom k n).length by rw [upFrom_len]; exact hlt)
      rw [show (upFrom k n)[j]'(by rw [upFrom_len]; exact hlt) = (p : Int) by have := HP.out; simp [upFrom, this]] at hc0
      go_wp2_with fail
      go_round
      case rel => exact ⟨j + 1, p + 1, by omega, by have := HP.out; omega, by go_num, by go_num, by have := HP.out; show _ = _; omega⟩
      case measure => simp [intOf]; omega
    · go_wp2_with fail
      go_ret
      obtain rfl : j = n := by omega
      have h3 := HP.out
      subst h3
      exact ⟨rfl, rfl⟩
end Go.Proofs.YtnooeebefhfjcaaDoor
