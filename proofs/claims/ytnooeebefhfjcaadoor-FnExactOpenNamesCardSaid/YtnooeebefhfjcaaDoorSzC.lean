/- What szCore and szCoreS answer. -/
import Derived.Test.YtnooeebefhfjcaaDoorC
set_option linter.unusedVariables false
set_option linter.unusedSimpArgs false
namespace Go.Proofs.YtnooeebefhfjcaaDoor
open Go Go.RowKit
def SzCore (m : Nat) : Prop := ∀ (c : C) (S : Nat → Prop) (vs : List Value) (left : Int) (w : World), c.size ≤ m → Reads w S vs (c.ds 40 25) → 0 ≤ left → left ≤ 1048576 →
      Calls Tryd.prog 15 #[.agg vs.toArray, .int .i64 left] w fun e w' => e = .returned (.int .i64 (lefts left c.bulk)) ∧ Below w.heap.size w w'
def SzCoreS (m : Nat) : Prop := ∀ (fs : List C) (S : Nat → Prop) (A : Option Addr) (n c : Nat) (left : Int) (w : World), n = fs.length → C.sizes fs ≤ m → Reads w S [.slice A n c] [.r 40 11 (C.dss 40 25 fs)] → 0 ≤ left → left ≤ 1048576 →
      Calls Tryd.prog 39 #[.slice A n c, .int .i64 left] w fun e w' => e = .returned (.int .i64 (lefts left (C.bulks fs))) ∧ Below w.heap.size w w'
set_option maxHeartbeats 1000000 in
theorem szCore_step (m : Nat) (hS : SzCoreS m) : SzCore (m + 1) := by
  intro f S vs left w hs hr h0 h1
  obtain ⟨k, id, nm, n, ids, data, kids⟩ := f
  obtain ⟨A4, c4, x0, x1, x2, x3, x4, A6, c6, rfl, hb, h3, h4, h5⟩ := hr.core
  have hn := h3.sl_le.2
  unfold maxLen at hb
  have HS : Hid (C.sizes kids ≤ m) := by simp [C.size] at hs; exact hs
  have HR := Lib.hid h4
  have HR6 := Lib.hid h5
  have HH := Lib.hid hS
  have hbk : C.bulk (.mk k id nm n ids data kids) = nm.size + ids.length + data.bulk + C.bulks kids := rfl
  rw [hbk]
  clear hbk hs hr h3 h4 h5 hS
  by_cases c1 : left < nm.size
  · have c1' : left - nm.size < 0 := by omega
    have HE : Hid _ := lefts_neg (show left < ((nm.size + ids.length + data.bulk + C.bulks kids : Nat) : Int) by omega)
    go_enter Tryd.func15, Tryd.ntmps15
    go_wp2_with fail
    go_ret
    exact ⟨ret_i64 HE.out.symm, (Below.refl _ _).alloc (Nat.le_refl _) _⟩
  · have c1' : ¬ left - nm.size < 0 := by omega
    have b1 : 0 ≤ left - nm.size := by omega
    by_cases c2 : left - nm.size < ids.length
    · have HL := Lib.hid (lefts_neg c2)
      have HE : Hid _ := lefts_neg (show left < ((nm.size + ids.length + data.bulk + C.bulks kids : Nat) : Int) by omega)
      clear c2
      go_enter Tryd.func15, Tryd.ntmps15
      go_wp2_with (go_at_call 26; refine (szIntS_any _ _ _ _ _ hn b1 (by omega)).mono ?_; rintro e w' ⟨rfl, rfl⟩; rw [HL.out])
      go_ret
      exact ⟨ret_i64 HE.out.symm, (Below.refl _ _).alloc (Nat.le_refl _) _⟩
    · have HL := Lib.hid (lefts_pos c2)
      have b2 : 0 ≤ left - nm.size - ids.length := by omega
      clear c2
      go_enter Tryd.func15, Tryd.ntmps15
      go_wp2_with (go_at_call 26; refine (szIntS_any _ _ _ _ _ hn b1 (by omega)).mono ?_; rintro e w' ⟨rfl, rfl⟩; rw [HL.out])
      refine calls_alloc1 (fun W B0 hz hbw => ?_)
      refine (szForm_any data S [x0, x1, x2, x3, x4] _ _ (HR.out.belAll hbw) b2 (by omega)).mono ?_
      rintro e w1 ⟨rfl, hb1⟩
      have C0 := Lib.hid (blk_bel B0 hb1)
      have HB1 := Lib.hid (hbw.trans (hb1.mono (by omega)))
      clear B0 hz hbw hb1
      by_cases c3 : left - nm.size - ids.length < data.bulk
      · rw [lefts_neg c3]
        have HE : Hid _ := lefts_neg (show left < ((nm.size + ids.length + data.bulk + C.bulks kids : Nat) : Int) by omega)
        go_wp2_with fail
        go_ret
        exact ⟨ret_i64 HE.out.symm, HB1.out⟩
      · rw [lefts_pos c3]
        have b3 : 0 ≤ left - nm.size - ids.length - data.bulk := by omega
        have b3' : ¬ left - nm.size - ids.length - data.bulk < 0 := by omega
        obtain ⟨r0, _⟩ := blk_rules C0.out
        go_wp2_with fail
        clear r0
        have HE : Hid (lefts (left - nm.size - ids.length - data.bulk) (C.bulks kids) = lefts left (nm.size + ids.length + data.bulk + C.bulks kids)) := by show _ = _; unfold lefts; split <;> split <;> omega
        refine (HH.out kids S A6 _ c6 _ _ rfl HS.out (HR6.out.belAll HB1.out) b3 (by omega)).mono ?_
        rintro e w' ⟨rfl, hb2⟩
        rw [HE.out]
        have HB := Lib.hid hb2
        clear hb2
        obtain ⟨q, hq⟩ : ∃ q, lefts left (nm.size + ids.length + data.bulk + C.bulks kids) = q := ⟨_, rfl⟩
        rw [hq]
        have HQ := Lib.hid hq
        have hq1 := lefts_or hq
        clear hq HE
        by_cases hq : q < 0
        all_goals
          go_wp2_with fail
          go_ret
          exact ⟨ret_i64 (by have := HQ.out; omega), HB1.out.trans (HB.out.mono HB1.out.size)⟩
set_option maxHeartbeats 1000000 in
theorem szCoreS_step (m : Nat) (hS : SzCore m) : SzCoreS m := by
  intro fs S A n c left w hn hs hr h0 h1
  have hm := hr.sl_le.2
  unfold maxLen at hm
  have HR := Lib.hid hr
  have HN := Lib.hid hn
  have HS := Lib.hid hs
  have HF := Lib.hid hS
  clear hr hn hs hS
  by_cases c1 : left < n
  · have c1' : left - n < 0 := by omega
    have HE : Hid _ := lefts_neg (show left < ((C.bulks fs : Nat) : Int) by have := C.bulks_len fs; have := HN.out; omega)
    go_enter Tryd.func39, Tryd.ntmps39
    go_wp2_with fail
    go_ret
    exact ⟨ret_i64 HE.out.symm, Below.refl _ _⟩
  · have c1' : ¬ left - n < 0 := by omega
    go_enter Tryd.func39, Tryd.ntmps39
    go_wp2_with fail
    go_loopw [1, 5] (fun l i wr => ∃ j : Nat, ∃ q : Int, j ≤ n ∧ i = .int .i64 j ∧ l = .int .i64 q ∧ 0 ≤ q ∧ q ≤ 1048576 ∧ Hid (q = left - n - C.bulks (fs.take j) + j) ∧ Hid (Below w.heap.size w wr)) (fun _ i _ => n - (intOf i).toNat)
    case atStart => exact ⟨0, left - n, Nat.zero_le _, rfl, rfl, by omega, by omega, by show _ = _; simp [C.bulks], Below.refl _ _⟩
    case round =>
      obtain ⟨j, q, hj, rfl, rfl, hq0, hq1, HQ, HB⟩ := hrel
      by_cases hlt : j < n
      · obtain ⟨ad, v0, v1, v2, v3, v4, v5, v6, v7, v8, v9, v10, rfl, hel, hc0, hc1, hc2, hc3, hc4, hc5, hc6, hc7, hc8, hc9, hc10⟩ := Reads.elemC (HR.out.belAll HB.out) (show j < fs.length by have := HN.out; omega)
        have HEL := Lib.hid hel
        clear hel
        have hsz : Hid ((fs[j]'(by have := HN.out; omega)).size ≤ m) := Nat.le_trans (C.sizes_get _ _ _) HS.out
        have hbl := C.bulks_take fs j (by have := HN.out; omega)
        have HBL := Lib.hid hbl
        clear hbl
        go_wp2_with fail
        refine (HF.out _ S _ q _ hsz.out HEL.out hq0 hq1).mono ?_
        rintro e w' ⟨rfl, hb2⟩
        have HB2 := Lib.hid hb2
        clear hb2
        obtain ⟨p, hp⟩ : ∃ p, lefts q (fs[j]'(by have := HN.out; omega)).bulk = p := ⟨_, rfl⟩
        rw [hp]
        have HP := Lib.hid hp
        have hp1 := lefts_or hp
        clear hp
        by_cases hp : p < 0
        · go_wp2_with fail
          go_ret
          refine ⟨ret_i64 ?_, HB.out.trans (HB2.out.mono HB.out.size)⟩
          have h1 := HQ.out
          have h2 := HBL.out
          have h3 := C.bulks_take_le fs (j + 1) (by have := HN.out; omega)
          have h4 := HP.out
          have h5 := HN.out
          unfold lefts at h4
          rw [lefts_neg (by split at h4 <;> omega)]
        · go_wp2_with fail
          go_roundw
          case rel =>
            have h4 := HP.out
            unfold lefts at h4
            refine ⟨j + 1, p, by omega, by go_num, rfl, by omega, by split at h4 <;> omega, ?_, HB.out.trans (HB2.out.mono HB.out.size)⟩
            have h1 := HQ.out
            have h2 := HBL.out
            show p = _
            split at h4 <;> omega
          case measure => simp [intOf]; omega
      · go_wp2_with fail
        go_ret
        have hjn : j = n := by omega
        refine ⟨ret_i64 ?_, HB.out⟩
        have h1 := HQ.out
        have h2 := HN.out
        rw [hjn, h2, List.take_length] at h1
        unfold lefts
        have := C.bulks_len fs
        rw [if_neg (by omega)]
        omega
theorem szC_any (m : Nat) : SzCore m ∧ SzCoreS m := by
  induction m with
  | zero =>
    have h : SzCore 0 := fun f S vs left w hs => by cases f; simp [C.size] at hs
    exact ⟨h, szCoreS_step 0 h⟩
  | succ m ih =>
    have h := szCore_step m ih.2
    exact ⟨h, szCoreS_step (m + 1) h⟩
theorem szCore_any (f : C) (S : Nat → Prop) (vs : List Value) (left : Int) (w : World) (hr : Reads w S vs (f.ds 40 25)) (h0 : 0 ≤ left) (h1 : left ≤ 1048576) :
    Calls Tryd.prog 15 #[.agg vs.toArray, .int .i64 left] w fun e w' => e = .returned (.int .i64 (lefts left f.bulk)) ∧ Below w.heap.size w w' :=
  (szC_any f.size).1 f S vs left w (Nat.le_refl _) hr h0 h1
end Go.Proofs.YtnooeebefhfjcaaDoor
