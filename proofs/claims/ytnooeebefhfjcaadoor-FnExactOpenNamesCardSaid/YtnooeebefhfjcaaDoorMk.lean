/- markText, markIntS: what is written, and that nothing else is. -/
import Derived.Test.YtnooeebefhfjcaaDoorEqI
set_option linter.unusedVariables false
set_option linter.unusedSimpArgs false
namespace Go.Proofs.YtnooeebefhfjcaaDoor
open Go Go.RowKit

def digs (k : Nat) (out : ByteArray) : ByteArray := if h : k = 0 then out else digs (k / 10) (⟨#[UInt8.ofNat (48 + k % 10)]⟩ ++ out)
termination_by k
decreasing_by omega
theorem digs_zero (b : ByteArray) : digs 0 b = b := by unfold digs; rw [dif_pos rfl]
def mtext (k : Nat) : ByteArray := if k = 0 then ⟨#[109, 48]⟩ else ⟨#[109]⟩ ++ digs k ⟨#[]⟩

set_option maxHeartbeats 1000000 in
theorem markText_any (k : Nat) (q : Int) (hq : q = k) (w : World) (hk : 0 < k) (hk2 : k < 1000000000000000000) :
    Calls Tryd.prog 38 #[.int .i64 q] w fun e w' => e = .returned (.string (mtext k)) ∧ Below w.heap.size w w' := by
  subst hq
  have hk0 : 0 < (k : Int) := by omega
  have hkz : ¬ k = 0 := by omega
  have hsz1 : ∀ x : Int, (strOfNums [x]).size = 1 := fun _ => rfl
  have kc : ∀ (W : World) (c : Int), (convert 79 9 (.slice (some ⟨W.heap.size, 0, none⟩) 1 1)).run Tryd.prog (W.alloc (.cells #[.int .u8 c] 5)) = .ok (.string (strOfNums [c])) (W.alloc (.cells #[.int .u8 c] 5)) := fun W c =>
    run_convert_bytes_arg (P := Tryd.prog) _ 79 5 Tryd.underlying79 Tryd.underlying5 W.heap.size 0 1 1 [c] rfl (fun i hi => by
      obtain rfl : i = 0 := by omega
      exact (cell_of_row _ _ _ _ _ _ (blk_new W _)).trans rfl) 9 Tryd.underlying9
  go_enter Tryd.func38, Tryd.ntmps38
  go_wp2_with fail
  go_loopw [0, 3] (fun q o wr => ∃ j : Nat, ∃ b : ByteArray, q = .int .i64 j ∧ o = .string b ∧ j < 1000000000000000000 ∧ b.size ≤ 18 ∧ Hid (j < 10 ^ (18 - b.size)) ∧ Hid (digs j b = digs k ⟨#[]⟩) ∧ Hid (Below w.heap.size w wr)) (fun q _ _ => (intOf q).toNat)
  case atStart => exact ⟨k, ⟨#[]⟩, rfl, rfl, hk2, by decide, by show k < 10 ^ 18; exact hk2, rfl, Below.refl _ _⟩
  case round =>
    obtain ⟨j, b, rfl, rfl, hj, hb, HJ, HD, HB⟩ := hrel
    by_cases hlt : 0 < j
    · have hlt' : 0 < (j : Int) := by omega
      go_wp2_with fail
      clear kc hsz1
      have HJ' := HJ.out
      have hb17 : b.size ≤ 17 := by
        rcases Nat.lt_or_ge 17 b.size with h | h
        · rw [show b.size = 18 by omega] at HJ'; simp at HJ'; omega
        · exact h
      go_roundw
      case rel =>
        refine ⟨j / 10, strOfNums [48 + (j : Int) % 10] ++ b, by go_num, by rfl, by omega, ?_, ?_, ?_, HB.out.alloc HB.out.size _⟩
        · rw [ByteArray.size_append]; show 1 + b.size ≤ 18; omega
        · show j / 10 < _
          rw [ByteArray.size_append, show (strOfNums [48 + (j : Int) % 10]).size = 1 from rfl]
          have : 10 ^ (18 - b.size) = 10 * 10 ^ (18 - (1 + b.size)) := by rw [← Nat.pow_succ']; congr 1; omega
          omega
        · show _ = _
          rw [← HD.out]
          conv => rhs; unfold digs
          rw [dif_neg (by omega)]
          congr 2
      case measure => simp [intOf]; omega
    · have hlt' : ¬ 0 < (j : Int) := by omega
      go_wp2_with fail
      go_ret
      obtain rfl : j = 0 := by omega
      refine ⟨?_, HB.out⟩
      have := HD.out
      rw [digs_zero] at this
      show Ending.returned (.string (⟨#[109]⟩ ++ b)) = _
      rw [mtext, if_neg hkz, this]
theorem mtext_size (k : Nat) (hk : k < 1000000000000000000) : (mtext k).size ≤ 19 := by
  have key : ∀ (m k : Nat) (b : ByteArray), k < 10 ^ m → (digs k b).size ≤ m + b.size := by
    intro m
    induction m with
    | zero => intro k b h; (obtain rfl : k = 0 := by simpa using h); rw [digs_zero]; omega
    | succ m ih =>
      intro k b h
      unfold digs
      split
      · omega
      · have := ih (k / 10) (⟨#[UInt8.ofNat (48 + k % 10)]⟩ ++ b) (by rw [Nat.pow_succ] at h; omega)
        rw [ByteArray.size_append, show (⟨#[UInt8.ofNat (48 + k % 10)]⟩ : ByteArray).size = 1 from rfl] at this
        omega
  unfold mtext
  split
  · decide
  · rw [ByteArray.size_append, show (⟨#[109]⟩ : ByteArray).size = 1 from rfl]
    have := key 18 k ⟨#[]⟩ hk
    rw [show (⟨#[]⟩ : ByteArray).size = 0 from rfl] at this
    omega

/-- The numbers from k on. -/
def upFrom (k m : Nat) : List Int := (List.range m).map fun i => ((k + i : Nat) : Int)
theorem upFrom_len (k m : Nat) : (upFrom k m).length = m := by simp [upFrom]
theorem upFrom_succ (k m : Nat) : upFrom k (m + 1) = upFrom k m ++ [((k + m : Nat) : Int)] := by simp [upFrom, List.range_succ]

set_option maxHeartbeats 1000000 in
theorem markIntS_any (xs : List Int) (v : Value) (bs : List Nat) (k : Nat) (q : Int) (hq : q = k) (w : World) (ho : Owns w [v] [.r 3 1 (xs.map D.i)] bs) (hl : xs.length ≤ 1000000000000) (hk : k ≤ 1000000000000) :
    Calls Tryd.prog 22 #[v, .int .i64 q] w fun e w' => e = .returned (.int .i64 ((k + xs.length : Nat) : Int)) ∧ Owns w' [v] [.r 3 1 ((upFrom k xs.length).map D.i)] bs ∧ Only w w' bs := by
  subst hq
  rcases ho.row_inv with ⟨rfl, hx, rfl⟩ | ⟨g, n, c, cur0, bs', rfl, rfl, hg, hnc, hc, hs, hu⟩
  · obtain rfl : xs = [] := by simpa using hx
    go_enter Tryd.func22, Tryd.ntmps22
    go_wp2_with fail
    refine wp_loop_rounds 1 ?_
    rw [rounds_succ]
    go_wp2_with fail
    go_ret
    exact ⟨rfl, ho, Only.refl _ _⟩
  · obtain ⟨hu1, rfl⟩ := hu.ints
    rw [Nat.mul_one] at hs hu1
    have hn : n = xs.length := by have := congrArg List.length hu1; rw [List.length_take, Array.length_toList, List.length_map] at this; omega
    have HG := Lib.hid hg
    have HU := Lib.hid hu1
    have HN := Lib.hid hn
    have HS := Lib.hid hs
    have HC := Lib.hid hc
    have hn12 : n ≤ 1000000000000 := by omega
    clear ho hu hg hu1 hn hs hc hl
    go_enter Tryd.func22, Tryd.ntmps22
    go_wp2_with fail
    go_loopw [1, 5] (fun q i wr => ∃ j : Nat, ∃ p : Nat, ∃ cur : Array Value, j ≤ n ∧ p ≤ 2000000000000 ∧ i = .int .i64 j ∧ q = .int .i64 p ∧ Hid (p = k + j) ∧ Hid (wr.heap[g]? = some (.cells cur 3 (0, 0))) ∧ Hid (cur.size = c) ∧ Hid (cur.toList.take j = (upFrom k j).map (Value.int .i64)) ∧ Hid (Only w wr [g])) (fun _ i _ => n - (intOf i).toNat)
    case atStart => exact ⟨0, k, cur0, Nat.zero_le _, by omega, rfl, rfl, rfl, HG.out, HS.out, by show _ = _; simp [upFrom], Only.refl _ _⟩
    case round =>
      obtain ⟨j, p, cur, hj, hp, rfl, rfl, HP, HG1, HZ, HT, HO⟩ := hrel
      by_cases hlt : j < n
      · have hq : wr.cell? ⟨g, j, none⟩ = some (cur.getD j undef) := (cell_of_row _ _ _ _ _ _ HG1.out).trans (arr_get (by have := HZ.out; omega))
        have hf : wr.frozen? ⟨g, j, none⟩ = false := frozen_of_row _ _ _ _ _ HG1.out
        go_wp2_with fail
        go_roundw
        case rel =>
          refine ⟨j + 1, p + 1, cur.setIfInBounds j (.int .i64 p), by omega, by have := HP.out; omega, by go_num, by go_num, by have := HP.out; show _ = _; omega, heap_setCell_same _ _ _ _ _ _ HG1.out, by show _ = _; simpa using HZ.out, ?_, HO.out.set (by simp) _⟩
          have h1 := HT.out
          have h2 := HZ.out
          have h3 := HP.out
          show _ = _
          rw [take_set_succ _ _ _ (by omega), upFrom_succ, List.map_append, h1, h3]
          rfl
        case measure => simp [intOf]; omega
      · go_wp2_with fail
        go_ret
        obtain rfl : j = n := by omega
        have h3 := HP.out
        have h4 := HN.out
        subst h3
        refine ⟨by show Ending.returned (.int .i64 ((k + j : Nat) : Int)) = _; rw [h4], ?_, HO.out⟩
        refine Owns.row_mk HG1.out hnc HC.out (by have := HZ.out; omega) ?_
        rw [Nat.mul_one, HT.out, ← h4]
        exact Owns.ints_mk _ _
end Go.Proofs.YtnooeebefhfjcaaDoor
