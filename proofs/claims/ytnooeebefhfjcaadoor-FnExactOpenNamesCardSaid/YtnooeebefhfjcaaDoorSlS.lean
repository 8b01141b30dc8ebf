/- slices.Index, Contains, Clone at strings. -/
import Derived.Test.YtnooeebefhfjcaaDoorAp
import Derived.Test.YtnooeebefhfjcaaDoorSpN
set_option linter.unusedVariables false
set_option linter.unusedSimpArgs false
namespace Go.Proofs.YtnooeebefhfjcaaDoor
open Go Go.RowKit
/-- The first place of a text in a list, or -1. -/
def idxS (s : ByteArray) : List ByteArray → Int
  | [] => -1
  | x :: xs => if x = s then 0 else (if idxS s xs < 0 then -1 else idxS s xs + 1)
theorem idxS_at {s : ByteArray} {xs : List ByteArray} {j : Nat} (h : j < xs.length) (h0 : ∀ i, (hi : i < j) → xs[i]'(by omega) ≠ s) (h1 : xs[j]'h = s) : idxS s xs = j := by
  induction xs generalizing j with
  | nil => simp at h
  | cons x xs ih =>
    cases j with
    | zero => simp at h1; simp [idxS, h1]
    | succ j =>
      have := ih (j := j) (by simpa using h) (fun i hi => by have := h0 (i + 1) (by omega); simpa using this) (by simpa using h1)
      have hx := h0 0 (by omega)
      simp at hx
      simp [idxS, hx, this]
      omega
theorem idxS_none {s : ByteArray} {xs : List ByteArray} (h0 : ∀ i, (hi : i < xs.length) → xs[i]'hi ≠ s) : idxS s xs = -1 := by
  induction xs with
  | nil => rfl
  | cons x xs ih =>
    have hx := h0 0 (by simp)
    simp at hx
    have := ih (fun i hi => by have := h0 (i + 1) (by simpa using hi); simpa using this)
    simp [idxS, hx, this]
theorem idxS_mem (s : ByteArray) (xs : List ByteArray) : (0 ≤ idxS s xs) ↔ s ∈ xs := by
  induction xs with
  | nil => simp [idxS]
  | cons x xs ih =>
    simp only [idxS, List.mem_cons]
    by_cases hx : x = s
    · simp [hx]
    · rw [if_neg hx]
      by_cases h : idxS s xs < 0
      · rw [if_pos h]; simp; exact ⟨fun e => hx e.symm, fun hm => by have := ih.2 hm; omega⟩
      · rw [if_neg h]; have := ih.1 (by omega); constructor
        · intro _; exact .inr this
        · intro _; omega
def hasS (s : ByteArray) (xs : List ByteArray) : Bool := decide (0 ≤ idxS s xs)
theorem hasS_iff (s : ByteArray) (xs : List ByteArray) : hasS s xs = true ↔ s ∈ xs := by simp [hasS, idxS_mem]
theorem idxS_lt (s : ByteArray) (xs : List ByteArray) : idxS s xs < xs.length ∧ -1 ≤ idxS s xs := by
  induction xs with
  | nil => simp [idxS]
  | cons x xs ih =>
    simp only [idxS, List.length_cons]
    split
    · omega
    · split <;> omega
set_option maxHeartbeats 1000000 in
theorem indexS_any (xs : List ByteArray) (s : ByteArray) (S : Nat → Prop) (A : Option Addr) (n c : Nat) (w : World) (hn : n = xs.length) (hr : Reads w S [.slice A n c] [.r 9 1 (xs.map D.s)]) :
    Calls Tryd.prog 58 #[.slice A n c, .string s] w fun e w' => e = .returned (.int .i64 (idxS s xs)) ∧ w = w' := by
  have hm := hr.sl_le.2
  unfold maxLen at hm
  have HR := Lib.hid hr
  have HN := Lib.hid hn
  clear hr hn
  go_enter Tryd.func58, Tryd.ntmps58
  go_wp2_with fail
  go_loop [5, 8] (fun _ i => ∃ j : Nat, j ≤ n ∧ i = .int .i64 j ∧ Hid (∀ i, (hi : i < j) → (hx : i < xs.length) → xs[i]'hx ≠ s)) (fun _ i => n - (intOf i).toNat)
  case atStart => exact ⟨0, Nat.zero_le _, rfl, fun i hi => by omega⟩
  case round =>
    obtain ⟨j, hj, rfl, HI⟩ := hrel
    by_cases hlt : j < n
    · have hjl : j < xs.length := by have := HN.out; omega
      obtain ⟨ad, rfl, hc0, hns⟩ := HR.out.elemS hjl
      by_cases he : xs[j]'hjl = s
      · have heb : (s.toList == (xs[j]'hjl).toList) = true := by rw [bytes_eq]; simpa using he.symm
        have HE := Lib.hid he
        clear he hns
        go_wp2_with fail
        go_ret
        exact ⟨ret_i64 (idxS_at hjl (fun i hi => HI.out i hi (by omega)) HE.out).symm, rfl⟩
      · have heb : (s.toList == (xs[j]'hjl).toList) = false := by rw [bytes_eq]; simpa using fun e => he e.symm
        have HE := Lib.hid he
        clear he hns
        go_wp2_with fail
        go_round
        case rel =>
          refine ⟨j + 1, by omega, by go_num, fun i hi hx => ?_⟩
          rcases Nat.lt_or_ge i j with h | h
          · exact HI.out i h hx
          · obtain rfl : i = j := by omega
            exact HE.out
        case measure => simp [intOf]; omega
    · go_wp2_with fail
      go_ret
      have h1 := HN.out
      exact ⟨ret_i64 (idxS_none fun i hi => HI.out i (by omega) hi).symm, rfl⟩
set_option maxHeartbeats 400000 in
theorem containsS_any (xs : List ByteArray) (s : ByteArray) (S : Nat → Prop) (A : Option Addr) (n c : Nat) (w : World) (hn : n = xs.length) (hr : Reads w S [.slice A n c] [.r 9 1 (xs.map D.s)]) :
    Calls Tryd.prog 35 #[.slice A n c, .string s] w fun e w' => e = .returned (.bool (hasS s xs)) ∧ w = w' := by
  have HN := Lib.hid hn
  clear hn
  go_enter Tryd.func35, Tryd.ntmps35
  go_wp2_with fail
  refine (indexS_any xs s S A n c _ HN.out hr).mono ?_
  rintro e w1 ⟨rfl, rfl⟩
  go_wp2_with fail
  go_ret
  exact ⟨rfl, rfl⟩
theorem Reads.row_cells {w : World} {S : Nat → Prop} {ad : Addr} {n c : Nat} {e : TypeId} {k : Nat} {ds : List D} (h : Reads w S [.slice (some ad) n c] [.r e k ds]) : ∃ us, us.length = ds.length ∧ (ds = [] ∨ us.length = n * k) ∧ (∀ j u, us[j]? = some u → w.cell? (ad.add j) = some u) ∧ Reads w S us ds := by
  cases h with
  | zero A c e k h => exact ⟨[], rfl, .inl rfl, by simp, .nil⟩
  | row ad n c e k hn hc hl hs hcell hu h => exact ⟨_, hu.len, .inr hl, hcell, hu⟩
theorem Reads.cells_s {w : World} {S : Nat → Prop} {ad : Addr} {n c : Nat} {e : TypeId} {xs : List ByteArray} (h : Reads w S [.slice (some ad) n c] [.r e 1 (xs.map D.s)]) (hn : n = xs.length) : ∀ j u, (xs.map Value.string)[j]? = some u → w.cell? (ad.add j) = some u := by
  obtain ⟨us, _, _, hc, hu⟩ := h.row_cells
  rw [← hu.strs]
  exact hc
theorem Reads.strs_size' {w : World} {S : Nat → Prop} : ∀ {xs : List ByteArray} {vs : List Value}, Reads w S vs (xs.map D.s) → ∀ x, x ∈ xs → x.size ≤ maxLen
  | [], _, _ => by simp
  | x :: xs, _, h => by
    cases h with
    | str n hb h => exact fun y hy => (List.mem_cons.1 hy).elim (fun e => e ▸ hb) (Reads.strs_size' h y)
theorem Reads.strs_size {w : World} {S : Nat → Prop} {ad : Addr} {n c : Nat} {e : TypeId} {xs : List ByteArray} (h : Reads w S [.slice (some ad) n c] [.r e 1 (xs.map D.s)]) (hn : n = xs.length) : ∀ x, x ∈ xs → x.size ≤ maxLen := by
  obtain ⟨us, _, _, hc, hu⟩ := h.row_cells
  exact hu.strs_size'
set_option maxHeartbeats 1000000 in
theorem cloneS_any (xs : List ByteArray) (S : Nat → Prop) (ad : Addr) (n c : Nat) (w : World) (hn : n = xs.length) (hl : n ≤ 1000000000000) (hr : Reads w S [.slice (some ad) n c] [.r 9 1 (xs.map D.s)]) :
    Calls Tryd.prog 57 #[.slice (some ad) n c] w fun e w' => ∃ v, e = .returned v ∧ Made w w' [v] [.r 9 1 (xs.map D.s)] := by
  have HN := Lib.hid hn
  have HR := Lib.hid hr
  clear hn hr
  have hq := fun (W : World) => Lib.run_eql_slice_nil (P := Tryd.prog) W 27
  go_enter Tryd.func57, Tryd.ntmps57
  go_wp2_with (at_builtin; refine wpList_append_any rfl (.tmp 5) (.tmp 6) 27 9 _ 1 16 rfl Tryd.underlying27 info_str rfl (by omega) (by omega) (.slice (some ⟨w.heap.size, 0, none⟩) 0 0) 0 [] [w.heap.size] rfl (Owns.row_mk (blk_new _ _) (Nat.le_refl 0) (by unfold maxLen; omega) rfl .nil) rfl ad n c (xs.map Value.string) (xs.map D.s) [] rfl (by have := HN.out; simp; omega) ?_ ?_ (by simp) (by omega) ?_; (exact Reads.cells_s (HR.out.belAll ((Below.refl _ _).alloc (Nat.le_refl _) _)) HN.out); (exact Owns.strs_mk _ _ (HR.out.strs_size HN.out)); intro v1 w1 bs1 ho1 hn1 hs1 hon1; have HO1 := Lib.hid ho1; have HN1 := Lib.hid hn1; have HS1 := Lib.hid hs1; have HON1 := Lib.hid hon1; clear ho1 hn1 hs1 hon1)
  go_ret
  refine ⟨v1, rfl, bs1, by simpa using HO1.out, HN1.out, fun b hb => ?_, HON1.out.toBelow ((Below.refl _ _).alloc (Nat.le_refl _) _) (by simp) (by simp)⟩
  rcases HS1.out b hb with h | h | h
  · simp at h; omega
  · cases h
  · simp at h; omega
end Go.Proofs.YtnooeebefhfjcaaDoor
