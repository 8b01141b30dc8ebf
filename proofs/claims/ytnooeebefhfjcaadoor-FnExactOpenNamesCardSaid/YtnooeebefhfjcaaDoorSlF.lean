/- slices.IndexFunc, DeleteFunc at strings, over a function value that only reads. -/
import Derived.Test.YtnooeebefhfjcaaDoorSlS
set_option linter.unusedVariables false
set_option linter.unusedSimpArgs false
namespace Go.Proofs.YtnooeebefhfjcaaDoor
open Go Go.RowKit
/-- The first place where p holds, or -1. -/
def idxF (p : ByteArray → Bool) : List ByteArray → Int
  | [] => -1
  | x :: xs => if p x then 0 else (if idxF p xs < 0 then -1 else idxF p xs + 1)
theorem idxF_at {p : ByteArray → Bool} {xs : List ByteArray} {j : Nat} (h : j < xs.length) (h0 : ∀ i, (hi : i < j) → p (xs[i]'(by omega)) = false) (h1 : p (xs[j]'h) = true) : idxF p xs = j := by
  induction xs generalizing j with
  | nil => simp at h
  | cons x xs ih =>
    cases j with
    | zero => simp at h1; simp [idxF, h1]
    | succ j =>
      have := ih (j := j) (by simpa using h) (fun i hi => by have := h0 (i + 1) (by omega); simpa using this) (by simpa using h1)
      have hx := h0 0 (by omega)
      simp at hx
      simp [idxF, hx, this]
      omega
theorem idxF_none {p : ByteArray → Bool} {xs : List ByteArray} (h0 : ∀ i, (hi : i < xs.length) → p (xs[i]'hi) = false) : idxF p xs = -1 := by
  induction xs with
  | nil => rfl
  | cons x xs ih =>
    have hx := h0 0 (by simp)
    simp at hx
    have := ih (fun i hi => by have := h0 (i + 1) (by simpa using hi); simpa using this)
    simp [idxF, hx, this]
set_option maxHeartbeats 1000000 in
theorem indexFuncS_any (K : Nat) (g : Nat) (p : ByteArray → Bool) (Inv : World → Prop) (hinv : ∀ W W', Inv W → Below W.heap.size W W' → Inv W')
    (hp : ∀ (s : ByteArray) (W : World), Inv W → Calls Tryd.prog K #[.string s, .pointer (some ⟨g, 0, none⟩)] W fun e w' => e = .returned (.bool (p s)) ∧ Below W.heap.size W w')
    (hcf : ∀ (s : ByteArray) (W : World), (callFunc K #[.string s, .pointer (some ⟨g, 0, none⟩)]).run Tryd.prog W = .ok (.enter K #[.string s, .pointer (some ⟨g, 0, none⟩)]) W)
    (xs : List ByteArray) (S : Nat → Prop) (A : Option Addr) (n c : Nat) (w : World) (hn : n = xs.length) (hr : Reads w S [.slice A n c] [.r 9 1 (xs.map D.s)]) (hi : Inv w) :
    Calls Tryd.prog 56 #[.slice A n c, .func (.func K) #[] #[.pointer (some ⟨g, 0, none⟩)]] w fun e w' => e = .returned (.int .i64 (idxF p xs)) ∧ Below w.heap.size w w' := by
  have hm := hr.sl_le.2
  unfold maxLen at hm
  have HR := Lib.hid hr
  have HN := Lib.hid hn
  have HI := Lib.hid hi
  have HP := Lib.hid hp
  have HV := Lib.hid hinv
  clear hr hn hi hp hinv
  go_enter Tryd.func56, Tryd.ntmps56
  go_wp2_with fail
  go_loopw [5, 8] (fun _ i wr => ∃ j : Nat, j ≤ n ∧ i = .int .i64 j ∧ Hid (∀ i, (hi : i < j) → (hx : i < xs.length) → p (xs[i]'hx) = false) ∧ Hid (Below w.heap.size w wr)) (fun _ i _ => n - (intOf i).toNat)
  case atStart => exact ⟨0, Nat.zero_le _, rfl, fun i hi => by omega, Below.refl _ _⟩
  case round =>
    obtain ⟨j, hj, rfl, HJ, HB⟩ := hrel
    by_cases hlt : j < n
    · have hjl : j < xs.length := by have := HN.out; omega
      obtain ⟨ad, rfl, hc0, hns⟩ := (HR.out.belAll HB.out).elemS hjl
      clear hns
      by_cases hpx : p (xs[j]'hjl) = true
      · have HPX := Lib.hid hpx
        clear hpx
        go_wp2_with fail
        refine (HP.out _ _ (HV.out _ _ HI.out HB.out)).mono ?_
        rintro e w2 ⟨rfl, hb2⟩
        rw [HPX.out]
        have HB2 := Lib.hid hb2
        clear hb2
        go_wp2_with fail
        go_ret
        exact ⟨ret_i64 (idxF_at hjl (fun i hi => HJ.out i hi (by omega)) HPX.out).symm, HB.out.trans (HB2.out.mono HB.out.size)⟩
      · have HPX : Hid (p (xs[j]'hjl) = false) := by show _ = _; simpa using hpx
        clear hpx
        go_wp2_with fail
        refine (HP.out _ _ (HV.out _ _ HI.out HB.out)).mono ?_
        rintro e w2 ⟨rfl, hb2⟩
        rw [HPX.out]
        have HB2 := Lib.hid hb2
        clear hb2
        go_wp2_with fail
        go_roundw
        case rel =>
          refine ⟨j + 1, by omega, by go_num, fun i hi hx => ?_, HB.out.trans (HB2.out.mono HB.out.size)⟩
          rcases Nat.lt_or_ge i j with h | h
          · exact HJ.out i h hx
          · obtain rfl : i = j := by omega
            exact HPX.out
        case measure => simp [intOf]; omega
    · go_wp2_with fail
      go_ret
      have h1 := HN.out
      exact ⟨ret_i64 (idxF_none fun i hi => HJ.out i (by omega) hi).symm, HB.out⟩
theorem run_clear_row {P : Program} (w : World) (t e ty : TypeId) (z : Value) (ht : P.underlying t = some (.slice e)) (hv : ∀ w, (zeroValue e).run P w = .ok z w) (hz : z.cells = #[z]) (h1 : z.oneCell' = true) (g o n c : Nat) (cur : Array Value) (hn : 0 < n)
    (hg : w.heap[g]? = some (.cells cur e (0, 0))) (hl : o + n ≤ cur.size) :
    (Builtin.clear_ #[t] ty #[.slice (some ⟨g, o, none⟩) n c]).run P w = .ok (.tuple #[]) (w.setRow g (splice cur o (List.replicate n z))) := by
  have hzc : (Builtin.zeroCells z.cells n).toList = List.replicate n z := by
    rw [hz]
    simp [Builtin.zeroCells]
    apply List.ext_getElem
    · simp
    · intro i h1 h2
      simp [Nat.mod_one]
  have hst := run_storeCells_at P g o e (List.replicate n z) 0 cur w hg (by simpa using hl) (by intro v hv'; rw [List.eq_of_mem_replicate hv']; exact h1)
  simp only [Nat.add_zero] at hst
  obtain ⟨m, rfl⟩ : ∃ m, n = m + 1 := ⟨n - 1, by omega⟩
  simp [Builtin.clear_, run_underlying ht, hv, hzc, hst, splice]
theorem zero_str (w : World) : (zeroValue 9).run Tryd.prog w = .ok (.string ⟨#[]⟩) w := by kernel_rfl
theorem idxF_lt (p : ByteArray → Bool) (xs : List ByteArray) : idxF p xs < xs.length ∧ -1 ≤ idxF p xs := by
  induction xs with
  | nil => simp [idxF]
  | cons x xs ih =>
    simp only [idxF, List.length_cons]
    split
    · omega
    · split <;> omega
theorem idxF_neg {p : ByteArray → Bool} {xs : List ByteArray} (h : idxF p xs = -1) : xs.filter (fun x => !p x) = xs := by
  induction xs with
  | nil => rfl
  | cons x xs ih =>
    have := idxF_lt p xs
    simp only [idxF] at h
    split at h
    · omega
    · rename_i hx
      have hx' : p x = false := by simpa using hx
      have h2 : idxF p xs = -1 := by
        split at h
        · omega
        · exfalso; omega
      rw [List.filter_cons, hx', ih h2]
      rfl
theorem idxF_pos {p : ByteArray → Bool} {xs : List ByteArray} {i : Nat} (h : idxF p xs = i) : (xs.take (i + 1)).filter (fun x => !p x) = xs.take i ∧ i < xs.length := by
  induction xs generalizing i with
  | nil => simp [idxF] at h
  | cons x xs ih =>
    have := idxF_lt p xs
    simp only [idxF] at h
    split at h
    · rename_i hx
      obtain rfl : i = 0 := by omega
      simp [hx]
    · rename_i hx
      have hx' : p x = false := by simpa using hx
      split at h
      · omega
      · obtain ⟨m, rfl⟩ : ∃ m, i = m + 1 := ⟨i - 1, by omega⟩
        obtain ⟨h1, h2⟩ := ih (i := m) (by omega)
        simp [List.filter_cons, hx', h1, h2]
set_option maxHeartbeats 2000000 in
theorem deleteFuncS_any (K : Nat) (g0 : Nat) (p : ByteArray → Bool) (Inv : World → Prop)
    (hp : ∀ (s : ByteArray) (W : World), Inv W → Calls Tryd.prog K #[.string s, .pointer (some ⟨g0, 0, none⟩)] W fun e w' => e = .returned (.bool (p s)) ∧ Below W.heap.size W w')
    (hcf : ∀ (s : ByteArray) (W : World), (callFunc K #[.string s, .pointer (some ⟨g0, 0, none⟩)]).run Tryd.prog W = .ok (.enter K #[.string s, .pointer (some ⟨g0, 0, none⟩)]) W)
    (xs : List ByteArray) (v : Value) (bs : List Nat) (w : World) (hinv : ∀ W W', Inv W → Only W W' bs → Inv W') (ho : Owns w [v] [.r 9 1 (xs.map D.s)] bs) (hi : Inv w) :
    Calls Tryd.prog 32 #[v, .func (.func K) #[] #[.pointer (some ⟨g0, 0, none⟩)]] w fun e w' => ∃ u, e = .returned u ∧ Owns w' [u] [.r 9 1 ((xs.filter fun x => !p x).map D.s)] bs ∧ Only w w' bs := by
  obtain ⟨A, c, hv⟩ := ho.sl_inv (by omega) (m := xs.length) (by simp)
  have hidx := (indexFuncS_any K g0 p Inv (fun W W' h hb => hinv W W' h (Only.of_below hb bs)) hp hcf xs _ A xs.length c w rfl (hv ▸ ho.reads) hi)
  have hm := (hv ▸ ho.reads : Reads w _ [.slice A xs.length c] _).sl_le
  have hm2 := hm.2
  unfold maxLen at hm2
  have hlt := idxF_lt p xs
  by_cases hneg : idxF p xs = -1
  · have HF := Lib.hid (idxF_neg hneg)
    have HO := Lib.hid ho
    have HX := Lib.hid hidx
    rw [hneg] at HX
    subst hv
    clear hidx hneg ho hinv hp hi hm hcf hlt
    go_enter Tryd.func32, Tryd.ntmps32
    go_wp2_with fail
    refine HX.out.mono ?_
    rintro e w1 ⟨rfl, hb⟩
    have HB := Lib.hid hb
    clear hb
    go_wp2_with fail
    go_ret
    exact ⟨_, rfl, by rw [HF.out]; exact HO.out.bel HB.out, Only.of_below HB.out _⟩
  · obtain ⟨i0, hi0⟩ : ∃ i0 : Nat, idxF p xs = i0 := ⟨(idxF p xs).toNat, by omega⟩
    obtain ⟨hf0, hil⟩ := idxF_pos hi0
    rcases ho.row_inv with ⟨rfl, hx, rfl⟩ | ⟨g, n, c', cur0, bs', rfl, rfl, hg, hnc, hc, hs, hu⟩
    · simp at hx; subst hx; simp at hil
    · obtain ⟨hu1, rfl, hsz⟩ := hu.strs
      have HSZ := Lib.hid hsz
      clear hsz
      cases hv
      rw [Nat.mul_one] at hs hu1
      rw [hi0] at hidx
      have hne : ((i0 : Int) == -1) = false := by simp
      have HX := Lib.hid hidx
      have HF := Lib.hid hf0
      have HU := Lib.hid hu1
      have HG := Lib.hid hg
      have HC := Lib.hid hc
      have HS := Lib.hid hs
      have HI := Lib.hid hi
      have HV := Lib.hid hinv
      have HP := Lib.hid hp
      have HM := Lib.hid hm
      have hin : (i0 : Int) < xs.length := by omega
      clear hidx hf0 hu1 hg hc hs hi hinv hp hm ho hu hnc hi0 hneg
      go_enter Tryd.func32, Tryd.ntmps32
      go_wp2_with fail
      refine HX.out.mono ?_
      rintro e w1 ⟨rfl, hb⟩
      have HB := Lib.hid hb
      clear hb
      go_wp2_with fail
      go_loopw [5, 6] (fun qi qj wr => ∃ i j : Nat, ∃ cur : Array Value, i < j ∧ j ≤ xs.length ∧ qi = .int .i64 i ∧ qj = .int .i64 j ∧ Hid (wr.heap[g]? = some (.cells cur 9 (0, 0))) ∧ Hid (cur.size = c) ∧ Hid (cur.toList.take i = ((xs.take j).filter fun x => !p x).map Value.string) ∧ Hid (∀ t, j ≤ t → (ht : t < xs.length) → cur[t]? = some (.string (xs[t]'ht))) ∧ Hid (Only w wr [g])) (fun _ qj _ => xs.length - (intOf qj).toNat)
      case atStart =>
        refine ⟨i0, i0 + 1, cur0, by omega, by omega, rfl, by go_num, blk_bel HG.out HB.out, HS.out, ?_, fun t ht hx => ?_, Only.of_below HB.out _⟩
        · have h1 := congrArg (List.take i0) HU.out
          rw [List.take_take, Nat.min_eq_left (by omega)] at h1
          show _ = _
          rw [HF.out, h1, List.map_take]
        · have h1 := congrArg (fun l => l[t]?) HU.out
          simp only [List.getElem?_take, hx, if_true, List.getElem?_map, List.getElem?_eq_getElem hx, Option.map_some] at h1
          simpa using h1
      case round =>
        obtain ⟨i, j, cur, hij, hj, rfl, rfl, HG1, HZ, HT, HR, HO⟩ := hrel
        by_cases hlt : j < xs.length
        · have hcj : wr.cell? ⟨g, j, none⟩ = some (.string (xs[j]'hlt)) := (cell_of_row _ _ _ _ _ _ HG1.out).trans (HR.out j (Nat.le_refl _) hlt)
          have htk : Hid ((xs.take (j + 1)).filter (fun x => !p x) = (xs.take j).filter (fun x => !p x) ++ if p (xs[j]'hlt) then [] else [xs[j]'hlt]) := by
            show _ = _
            rw [List.take_succ_eq_append_getElem hlt, List.filter_append, List.filter_cons, List.filter_nil]
            cases p (xs[j]'hlt) <;> rfl
          by_cases hpx : p (xs[j]'hlt) = true
          · have HPX := Lib.hid hpx
            clear hpx
            go_wp2_with fail
            refine (HP.out _ _ (HV.out _ _ HI.out HO.out)).mono ?_
            rintro e w2 ⟨rfl, hb2⟩
            rw [HPX.out]
            have HB2 := Lib.hid hb2
            clear hb2
            go_wp2_with fail
            go_roundw
            case rel => exact ⟨i, j + 1, cur, by omega, by omega, rfl, by go_num, blk_bel HG1.out HB2.out, HZ.out, by have h1 := htk.out; rw [HPX.out] at h1; show _ = _; rw [h1]; simpa using HT.out, fun t ht hx => HR.out t (by omega) hx, HO.out.below HB2.out⟩
            case measure => simp [intOf]; omega
          · have HPX : Hid (p (xs[j]'hlt) = false) := by show _ = _; simpa using hpx
            clear hpx
            go_wp2_with fail
            refine (HP.out _ _ (HV.out _ _ HI.out HO.out)).mono ?_
            rintro e w2 ⟨rfl, hb2⟩
            rw [HPX.out]
            have HB2 := Lib.hid hb2
            have HG2 := Lib.hid (blk_bel HG1.out hb2)
            have hci : w2.cell? ⟨g, i, none⟩ = some (cur.getD i undef) := (cell_of_row _ _ _ _ _ _ HG2.out).trans (arr_get (by have := HZ.out; have := HM.out; omega))
            have hfi : w2.frozen? ⟨g, i, none⟩ = false := frozen_of_row _ _ _ _ _ HG2.out
            clear hb2
            go_wp2_with fail
            go_roundw
            case rel =>
              refine ⟨i + 1, j + 1, cur.setIfInBounds i (.string (xs[j]'hlt)), by omega, by omega, by go_num, by go_num, heap_setCell_same _ _ _ _ _ _ HG2.out, by have := HZ.out; show _ = _; simpa using this, ?_, fun t ht hx => ?_, (HO.out.below HB2.out).set (by simp) _⟩
              · have h1 := htk.out
                rw [HPX.out] at h1
                show _ = _
                rw [h1, take_set_succ _ _ _ (by have := HZ.out; have := HM.out; omega), HT.out]
                simp
              · rw [Array.getElem?_setIfInBounds_ne (by omega)]
                exact HR.out t (by omega) hx
            case measure => simp [intOf]; omega
        · obtain rfl : j = xs.length := by omega
          have hclr := fun ty c' => run_clear_row (P := Tryd.prog) wr 27 9 ty (.string ⟨#[]⟩) Tryd.underlying27 zero_str rfl rfl g i (xs.length - i) c' cur (by omega) HG1.out (by have := HZ.out; have := HM.out; omega)
          have hci : ¬ c = i := by have := HM.out; omega
          have hic : i ≤ c := by have := HM.out; omega
          go_wp2_with fail
          go_ret
          have h1 := HT.out
          have h2 := HZ.out
          have h3 := HM.out
          rw [List.take_length] at h1
          refine ⟨_, rfl, ?_, ?_⟩
          · show Owns _ [.slice (some ⟨g, 0, none⟩) i c] _ _
            refine Owns.row_mk (cur := splice cur i (List.replicate (xs.length - i) (.string ⟨#[]⟩))) (setRow_heap _ _ _ _ _ _ HG1.out) hic HC.out ?_ ?_
            · rw [splice_size _ _ _ (by simp; omega)]; omega
            · have e : (splice cur i (List.replicate (xs.length - i) (.string ⟨#[]⟩))).toList.take (i * 1) = cur.toList.take i := by
                rw [Nat.mul_one]
                simp only [splice]
                rw [List.append_assoc, List.take_append_of_le_length (by simp; omega), List.take_take, Nat.min_self]
              rw [e, h1]
              exact Owns.strs_mk _ _ (fun x hx => HSZ.out x (List.mem_filter.1 hx).1)
          · exact HO.out.setRow (by simp) _
end Go.Proofs.YtnooeebefhfjcaaDoor
