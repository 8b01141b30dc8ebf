/- markStringS writes the marks from k on; heldStringS tells them again. -/
import Derived.Test.YtnooeebefhfjcaaDoorMk
import Derived.Test.YtnooeebefhfjcaaDoorEqS
set_option linter.unusedVariables false
set_option linter.unusedSimpArgs false
namespace Go.Proofs.YtnooeebefhfjcaaDoor
open Go Go.RowKit
def mtexts (k m : Nat) : List ByteArray := (List.range m).map fun i => mtext (k + i)
theorem mtexts_len (k m : Nat) : (mtexts k m).length = m := by simp [mtexts]
theorem mtexts_succ (k m : Nat) : mtexts k (m + 1) = mtexts k m ++ [mtext (k + m)] := by simp [mtexts, List.range_succ]
theorem mtexts_size (k m : Nat) (h : k + m < 1000000000000000000) : ∀ x, x ∈ mtexts k m → x.size ≤ maxLen := by
  intro x hx
  simp only [mtexts, List.mem_map, List.mem_range] at hx
  obtain ⟨i, hi, rfl⟩ := hx
  have := mtext_size (k + i) (by omega)
  unfold maxLen
  omega
set_option maxHeartbeats 1000000 in
theorem markStringS_any (xs : List ByteArray) (v : Value) (bs : List Nat) (k : Nat) (q : Int) (hq : q = k) (w : World) (ho : Owns w [v] [.r 9 1 (xs.map D.s)] bs) (hl : xs.length ≤ 1000000000000) (hk : k ≤ 1000000000000) (hk0 : 0 < k) :
    Calls Tryd.prog 13 #[v, .int .i64 q] w fun e w' => e = .returned (.int .i64 ((k + xs.length : Nat) : Int)) ∧ Owns w' [v] [.r 9 1 ((mtexts k xs.length).map D.s)] bs ∧ Only w w' bs := by
  subst hq
  rcases ho.row_inv with ⟨rfl, hx, rfl⟩ | ⟨g, n, c, cur0, bs', rfl, rfl, hg, hnc, hc, hs, hu⟩
  · obtain rfl : xs = [] := by simpa using hx
    go_enter Tryd.func13, Tryd.ntmps13
    go_wp2_with fail
    refine wp_loop_rounds 1 ?_
    rw [rounds_succ]
    go_wp2_with fail
    go_ret
    exact ⟨rfl, ho, Only.refl _ _⟩
  · obtain ⟨hu1, rfl, _⟩ := hu.strs
    rw [Nat.mul_one] at hs hu1
    have hn : n = xs.length := by have := congrArg List.length hu1; rw [List.length_take, Array.length_toList, List.length_map] at this; omega
    have HG := Lib.hid hg
    have HU := Lib.hid hu1
    have HN := Lib.hid hn
    have HS := Lib.hid hs
    have HC := Lib.hid hc
    have hn12 : n ≤ 1000000000000 := by omega
    clear ho hu hg hu1 hn hs hc hl
    go_enter Tryd.func13, Tryd.ntmps13
    go_wp2_with fail
    go_loopw [1, 5] (fun q i wr => ∃ j : Nat, ∃ p : Nat, ∃ cur : Array Value, j ≤ n ∧ p ≤ 2000000000000 ∧ i = .int .i64 j ∧ q = .int .i64 p ∧ Hid (p = k + j) ∧ Hid (wr.heap[g]? = some (.cells cur 9 (0, 0))) ∧ Hid (cur.size = c) ∧ Hid (cur.toList.take j = (mtexts k j).map Value.string) ∧ Hid (Only w wr [g])) (fun _ i _ => n - (intOf i).toNat)
    case atStart => exact ⟨0, k, cur0, Nat.zero_le _, by omega, rfl, rfl, rfl, HG.out, HS.out, by show _ = _; simp [mtexts], Only.refl _ _⟩
    case round =>
      obtain ⟨j, p, cur, hj, hp, rfl, rfl, HP, HG1, HZ, HT, HO⟩ := hrel
      by_cases hlt : j < n
      · go_wp2_with fail
        refine (markText_any p _ rfl _ (by have := HP.out; omega) (by omega)).mono ?_
        rintro e w2 ⟨rfl, hb⟩
        have HG2 := Lib.hid (blk_bel HG1.out hb)
        have HO2 := Lib.hid (HO.out.below hb)
        clear hb
        have hq : w2.cell? ⟨g, j, none⟩ = some (cur.getD j undef) := (cell_of_row _ _ _ _ _ _ HG2.out).trans (arr_get (by have := HZ.out; omega))
        have hf : w2.frozen? ⟨g, j, none⟩ = false := frozen_of_row _ _ _ _ _ HG2.out
        go_wp2_with fail
        go_roundw
        case rel =>
          refine ⟨j + 1, p + 1, cur.setIfInBounds j (.string (mtext p)), by omega, by have := HP.out; omega, by go_num, by go_num, by have := HP.out; show _ = _; omega, heap_setCell_same _ _ _ _ _ _ HG2.out, by show _ = _; simpa using HZ.out, ?_, HO2.out.set (by simp) _⟩
          have h1 := HT.out
          have h2 := HZ.out
          have h3 := HP.out
          show _ = _
          rw [take_set_succ _ _ _ (by omega), mtexts_succ, List.map_append, h1, h3]
          rfl
        case measure => simp [intOf]; omega
      · go_wp2_with fail
        go_ret
        obtain rfl : j = n := by omega
        have h3 := HP.out
        have h4 := HN.out
        subst h3
        refine ⟨by show Ending.returned (.int .i64 ((k + j : Nat) : Int)) = _; rw [h4], ?_, HO.out⟩
        refine Owns.row_mk HG1.out hnc HC.out (by have := HZ.out; omega) ?_
        rw [Nat.mul_one, HT.out, ← h4]
        exact Owns.strs_mk _ _ (mtexts_size _ _ (by omega))

set_option maxHeartbeats 1000000 in
theorem heldStringS_any (n : Nat) (S : Nat → Prop) (A : Option Addr) (c : Nat) (k : Nat) (q : Int) (hq : q = k) (w : World) (hr : Reads w S [.slice A n c] [.r 9 1 ((mtexts k n).map D.s)]) (hl : n ≤ 1000000000000) (hk : k ≤ 1000000000000) (hk0 : 0 < k) :
    Calls Tryd.prog 14 #[.slice A n c, .int .i64 q] w fun e w' => e = .returned (.int .i64 ((k + n : Nat) : Int)) ∧ Below w.heap.size w w' := by
  subst hq
  have HR := Lib.hid hr
  clear hr
  go_enter Tryd.func14, Tryd.ntmps14
  go_wp2_with fail
  go_loopw [1, 5] (fun q i wr => ∃ j : Nat, ∃ p : Nat, j ≤ n ∧ p ≤ 2000000000000 ∧ i = .int .i64 j ∧ q = .int .i64 p ∧ Hid (p = k + j) ∧ Hid (Below w.heap.size w wr)) (fun _ i _ => n - (intOf i).toNat)
  case atStart => exact ⟨0, k, Nat.zero_le _, by omega, rfl, rfl, rfl, Below.refl _ _⟩
  case round =>
    obtain ⟨j, p, hj, hp, rfl, rfl, HP, HB⟩ := hrel
    by_cases hlt : j < n
    · obtain ⟨ad, rfl, hc0, _⟩ := Reads.elemS (HR.out.belAll HB.out) (show j < (mtexts k n).length by rw [mtexts_len]; exact hlt)
      rw [show (mtexts k n)[j]'(by rw [mtexts_len]; exact hlt) = mtext p by have := HP.out; simp [mtexts, this]] at hc0
      have hp0 : 0 < p := by have := HP.out; omega
      go_wp2_with fail
      go_region_with (go_at_call 38; refine (markText_any p _ rfl _ hp0 (by omega)).mono ?_; rintro e w2 ⟨rfl, hb2⟩; have HB2 := Lib.hid hb2; have hc2 := World.cell_bel HB2.out hc0; clear hb2)
      go_wp2_with fail
      all_goals
        go_roundw
        case rel => exact ⟨j + 1, p + 1, by omega, by have := HP.out; omega, by go_num, by go_num, by have := HP.out; show _ = _; omega, HB.out.drew.trans (HB2.out.mono HB.out.size)⟩
        case measure => simp [intOf]; omega
    · go_wp2_with fail
      go_ret
      obtain rfl : j = n := by omega
      have h3 := HP.out
      subst h3
      exact ⟨rfl, HB.out⟩
end Go.Proofs.YtnooeebefhfjcaaDoor
