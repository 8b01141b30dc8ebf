/- What szIntS, szForm and szFormS answer. -/
import Derived.Test.YtnooeebefhfjcaaDoorProg
import Derived.Test.YtnooeebefhfjcaaDoorK
set_option linter.unusedVariables false
set_option linter.unusedSimpArgs false
namespace Go.Proofs.YtnooeebefhfjcaaDoor
open Go Go.RowKit

mutual
/-- How much of the budget a form takes. -/
def F.bulk : F → Nat
  | .mk _ nm _ sc kids => nm.size + sc.length + F.bulks kids
def F.bulks : List F → Nat
  | [] => 0
  | f :: fs => 1 + f.bulk + F.bulks fs
end
/-- What is left of a budget. -/
def lefts (left : Int) (n : Nat) : Int := if left < n then -1 else left - n

theorem bcell {W w1 : World} (hb : Below W.heap.size W w1) : (∀ b o, b < W.heap.size → w1.cell? ⟨b, o, none⟩ = W.cell? ⟨b, o, none⟩) ∧ (∀ b o, b < W.heap.size → w1.frozen? ⟨b, o, none⟩ = W.frozen? ⟨b, o, none⟩) :=
  ⟨fun b o h => hb.cell (p := ⟨b, o, none⟩) h, fun b o h => hb.frozen (p := ⟨b, o, none⟩) h⟩

set_option maxHeartbeats 400000 in
theorem szIntS_any (A : Option Addr) (n c : Nat) (left : Int) (w : World) (hn : n ≤ maxLen) (h0 : 0 ≤ left) (h1 : left ≤ 1048576) :
    Calls Tryd.prog 26 #[.slice A n c, .int .i64 left] w fun e w' => e = .returned (.int .i64 (lefts left n)) ∧ w = w' := by
  unfold maxLen at hn
  by_cases h : left < n
  · have h' : left - n < 0 := by omega
    have e : lefts left n = -1 := by unfold lefts; rw [if_pos h]
    rw [e]
    go_enter Tryd.func26, Tryd.ntmps26
    go_wp2
    go_ret
    exact ⟨rfl, rfl⟩
  · have h' : ¬ left - n < 0 := by omega
    have e : lefts left n = left - n := by unfold lefts; rw [if_neg h]
    rw [e]
    clear e
    go_enter Tryd.func26, Tryd.ntmps26
    go_wp2
    go_ret
    exact ⟨rfl, rfl⟩

theorem lefts_lefts {left : Int} {n m : Nat} (h : lefts left n = -1 ∨ 0 ≤ lefts left n) : (lefts left n < 0 ∧ lefts left (n + m) = -1) ∨ (¬ lefts left n < 0 ∧ 0 ≤ left ∧ lefts (lefts left n) m = lefts left (n + m)) := by
  unfold lefts at *
  by_cases h1 : left < n
  · rw [if_pos h1, if_pos (by omega)]; simp
  · rw [if_neg h1]
    refine .inr ⟨by omega, by omega, ?_⟩
    by_cases h2 : left - n < m
    · rw [if_pos h2, if_pos (by omega)]
    · rw [if_neg h2, if_neg (by omega)]; omega
theorem F.bulks_take (fs : List F) (j : Nat) (h : j < fs.length) : F.bulks (fs.take (j + 1)) = F.bulks (fs.take j) + 1 + (fs[j]'h).bulk := by
  induction fs generalizing j with
  | nil => simp at h
  | cons f fs ih =>
    cases j with
    | zero => simp [F.bulks]
    | succ j => simp [F.bulks, ih j (by simpa using h)]; omega
theorem F.bulks_take_le (fs : List F) (j : Nat) (h : j ≤ fs.length) : F.bulks (fs.take j) + (fs.length - j) ≤ F.bulks fs := by
  induction fs generalizing j with
  | nil => simp [F.bulks]
  | cons f fs ih =>
    cases j with
    | zero => have := ih 0 (by omega); simp [F.bulks] at this ⊢; omega
    | succ j => have := ih j (by simpa using h); simp [F.bulks]; omega
theorem F.bulks_get (fs : List F) (j : Nat) (h : j < fs.length) : (fs[j]'h).bulk ≤ F.bulks fs := by
  have h1 := F.bulks_take fs j h
  have h2 := F.bulks_take_le fs (j + 1) (by omega)
  omega
theorem lefts_neg {left : Int} {n : Nat} (h : left < n) : lefts left n = -1 := by unfold lefts; rw [if_pos h]
theorem lefts_pos {left : Int} {n : Nat} (h : ¬ left < n) : lefts left n = left - n := by unfold lefts; rw [if_neg h]
theorem lefts_or {left q : Int} {n : Nat} (h : lefts left n = q) : q = -1 ∨ 0 ≤ q := by unfold lefts at h; split at h <;> omega
theorem ret_i64 {a b : Int} (h : a = b) : Ending.returned (.int .i64 a) = .returned (.int .i64 b) := by rw [h]
theorem F.bulks_len (fs : List F) : fs.length ≤ F.bulks fs := by
  induction fs with
  | nil => simp [F.bulks]
  | cons f fs ih => simp [F.bulks]; omega

def SzForm (m : Nat) : Prop := ∀ (f : F) (S : Nat → Prop) (vs : List Value) (left : Int) (w : World), f.size ≤ m → Reads w S vs (f.ds 25) → 0 ≤ left → left ≤ 1048576 →
      Calls Tryd.prog 6 #[.agg vs.toArray, .int .i64 left] w fun e w' => e = .returned (.int .i64 (lefts left f.bulk)) ∧ Below w.heap.size w w'
def SzFormS (m : Nat) : Prop := ∀ (fs : List F) (S : Nat → Prop) (A : Option Addr) (n c : Nat) (left : Int) (w : World), n = fs.length → F.sizes fs ≤ m → Reads w S [.slice A n c] [.r 25 5 (F.dss 25 fs)] → 0 ≤ left → left ≤ 1048576 →
      Calls Tryd.prog 27 #[.slice A n c, .int .i64 left] w fun e w' => e = .returned (.int .i64 (lefts left (F.bulks fs))) ∧ Below w.heap.size w w'

set_option maxHeartbeats 1000000 in
theorem szForm_step (m : Nat) (hS : SzFormS m) : SzForm (m + 1) := by
  intro f S vs left w hs hr h0 h1
  obtain ⟨k, nm, n, sc, kids⟩ := f
  obtain ⟨A3, c3, A4, c4, rfl, hb, h3, h4⟩ := hr.form
  have hn := h3.sl_le.2
  unfold maxLen at hb
  have HS : Hid (F.sizes kids ≤ m) := by simp [F.size] at hs; exact hs
  have HR := Lib.hid h4
  have hbk : F.bulk (.mk k nm n sc kids) = nm.size + sc.length + F.bulks kids := rfl
  rw [hbk]
  clear hbk hs hr h3 h4
  by_cases c1 : left < nm.size
  · have c1' : left - nm.size < 0 := by omega
    have HE : Hid _ := lefts_neg (show left < ((nm.size + sc.length + F.bulks kids : Nat) : Int) by omega)
    go_enter Tryd.func6, Tryd.ntmps6
    go_wp2_with fail
    go_ret
    exact ⟨ret_i64 HE.out.symm, (Below.refl _ _).alloc (Nat.le_refl _) _⟩
  · have c1' : ¬ left - nm.size < 0 := by omega
    have b1 : 0 ≤ left - nm.size := by omega
    by_cases c2 : left - nm.size < sc.length
    · have HL := Lib.hid (lefts_neg c2)
      have HE : Hid _ := lefts_neg (show left < ((nm.size + sc.length + F.bulks kids : Nat) : Int) by omega)
      clear c2
      go_enter Tryd.func6, Tryd.ntmps6
      go_wp2_with (go_at_call 26; refine (szIntS_any _ _ _ _ _ hn b1 (by omega)).mono ?_; rintro e w' ⟨rfl, rfl⟩; rw [HL.out])
      go_ret
      exact ⟨ret_i64 HE.out.symm, (Below.refl _ _).alloc (Nat.le_refl _) _⟩
    · have HL := Lib.hid (lefts_pos c2)
      have b2 : 0 ≤ left - nm.size - sc.length := by omega
      clear c2
      go_enter Tryd.func6, Tryd.ntmps6
      go_wp2_with (go_at_call 26; refine (szIntS_any _ _ _ _ _ hn b1 (by omega)).mono ?_; rintro e w' ⟨rfl, rfl⟩; rw [HL.out])
      have HE : Hid (lefts (left - nm.size - sc.length) (F.bulks kids) = lefts left (nm.size + sc.length + F.bulks kids)) := by show _ = _; unfold lefts; split <;> split <;> omega
      refine (hS kids S A4 _ c4 _ _ rfl HS (Reads.belAll HR.out ((Below.refl _ _).alloc (Nat.le_refl _) _)) b2 (by omega)).mono ?_
      rintro e w' ⟨rfl, hb2⟩
      rw [HE.out]
      have HB := Lib.hid hb2
      clear hb2
      obtain ⟨q, hq⟩ : ∃ q, lefts left (nm.size + sc.length + F.bulks kids) = q := ⟨_, rfl⟩
      rw [hq]
      have HQ := Lib.hid hq
      have hq1 := lefts_or hq
      clear hq HE
      by_cases hq : q < 0
      all_goals
        go_wp2_with fail
        go_ret
        exact ⟨ret_i64 (by have := HQ.out; omega), ((Below.refl _ _).alloc (Nat.le_refl _) _).trans (HB.out.mono (by simp))⟩

set_option maxHeartbeats 1000000 in
theorem szFormS_step (m : Nat) (hS : SzForm m) : SzFormS m := by
  intro fs S A n c left w hn hs hr h0 h1
  have hm := hr.sl_le.2
  unfold maxLen at hm
  have HR := Lib.hid hr
  have HN := Lib.hid hn
  have HS := Lib.hid hs
  have HF := Lib.hid hS
  clear hr hn hs hS
  by_cases c1 : left < n
  · have c1' : left - n < 0 := by omega
    have HE : Hid _ := lefts_neg (show left < ((F.bulks fs : Nat) : Int) by have := F.bulks_len fs; have := HN.out; omega)
    go_enter Tryd.func27, Tryd.ntmps27
    go_wp2_with fail
    go_ret
    exact ⟨ret_i64 HE.out.symm, Below.refl _ _⟩
  · have c1' : ¬ left - n < 0 := by omega
    go_enter Tryd.func27, Tryd.ntmps27
    go_wp2_with fail
    go_loopw [1, 5] (fun l i wr => ∃ j : Nat, ∃ q : Int, j ≤ n ∧ i = .int .i64 j ∧ l = .int .i64 q ∧ 0 ≤ q ∧ q ≤ 1048576 ∧ Hid (q = left - n - F.bulks (fs.take j) + j) ∧ Hid (Below w.heap.size w wr)) (fun _ i _ => n - (intOf i).toNat)
    case atStart => exact ⟨0, left - n, Nat.zero_le _, rfl, rfl, by omega, by omega, by show _ = _; simp [F.bulks], Below.refl _ _⟩
    case round =>
      obtain ⟨j, q, hj, rfl, rfl, hq0, hq1, HQ, HB⟩ := hrel
      by_cases hlt : j < n
      · obtain ⟨ad, v0, v1, v2, v3, v4, rfl, hel, hc0, hc1, hc2, hc3, hc4⟩ := Reads.elemF (HR.out.belAll HB.out) (show j < fs.length by have := HN.out; omega)
        have HEL := Lib.hid hel
        clear hel
        have hsz : Hid ((fs[j]'(by have := HN.out; omega)).size ≤ m) := Nat.le_trans (F.sizes_get _ _ _) HS.out
        have hbl := F.bulks_take fs j (by have := HN.out; omega)
        have HBL := Lib.hid hbl
        clear hbl
        go_wp2_with fail
        refine (HF.out _ S _ q _ hsz.out HEL.out hq0 hq1).mono ?_
        rintro e w' ⟨rfl, hb2⟩
        have HB2 := Lib.hid hb2
        clear hb2
        obtain ⟨p, hp⟩ : ∃ p, lefts q (fs[j]'(by have := HN.out; omega)).bulk = p := ⟨_, rfl⟩
        rw [hp]
        have HP := Lib.hid hp
        have hp1 := lefts_or hp
        clear hp
        by_cases hp : p < 0
        · go_wp2_with fail
          go_ret
          refine ⟨ret_i64 ?_, HB.out.trans (HB2.out.mono HB.out.size)⟩
          have h1 := HQ.out
          have h2 := HBL.out
          have h3 := F.bulks_take_le fs (j + 1) (by have := HN.out; omega)
          have h4 := HP.out
          have h5 := HN.out
          unfold lefts at h4
          rw [lefts_neg (by split at h4 <;> omega)]
        · go_wp2_with fail
          go_roundw
          case rel =>
            have h4 := HP.out
            unfold lefts at h4
            refine ⟨j + 1, p, by omega, by go_num, rfl, by omega, by split at h4 <;> omega, ?_, HB.out.trans (HB2.out.mono HB.out.size)⟩
            have h1 := HQ.out
            have h2 := HBL.out
            show p = _
            split at h4 <;> omega
          case measure => simp [intOf]; omega
      · go_wp2_with fail
        go_ret
        have hjn : j = n := by omega
        refine ⟨ret_i64 ?_, HB.out⟩
        have h1 := HQ.out
        have h2 := HN.out
        rw [hjn, h2, List.take_length] at h1
        unfold lefts
        have := F.bulks_len fs
        rw [if_neg (by omega)]
        omega

theorem sz_any (m : Nat) : SzForm m ∧ SzFormS m := by
  induction m with
  | zero =>
    have h : SzForm 0 := fun f S vs left w hs => by cases f; simp [F.size] at hs
    exact ⟨h, szFormS_step 0 h⟩
  | succ m ih =>
    have h := szForm_step m ih.2
    exact ⟨h, szFormS_step (m + 1) h⟩
theorem szForm_any (f : F) (S : Nat → Prop) (vs : List Value) (left : Int) (w : World) (hr : Reads w S vs (f.ds 25)) (h0 : 0 ≤ left) (h1 : left ≤ 1048576) :
    Calls Tryd.prog 6 #[.agg vs.toArray, .int .i64 left] w fun e w' => e = .returned (.int .i64 (lefts left f.bulk)) ∧ Below w.heap.size w w' :=
  (sz_any f.size).1 f S vs left w (Nat.le_refl _) hr h0 h1
end Go.Proofs.YtnooeebefhfjcaaDoor
