/- eqForm and eqFormS answer true where both read as one form. -/
import Derived.Test.YtnooeebefhfjcaaDoorEqI
import Derived.Deep.RegionWith
set_option linter.unusedVariables false
set_option linter.unusedSimpArgs false
namespace Go.Proofs.YtnooeebefhfjcaaDoor
open Go Go.RowKit
def EqF (m : Nat) : Prop := ∀ (f : F) (S S' : Nat → Prop) (vs us : List Value) (w : World), f.size ≤ m → Reads w S vs (f.ds 31) → Reads w S' us (f.ds 31) →
      Calls Tryd.prog 11 #[.agg vs.toArray, .agg us.toArray] w fun e w' => e = .returned (.bool true) ∧ Below w.heap.size w w'
def EqFs (m : Nat) : Prop := ∀ (fs : List F) (S S' : Nat → Prop) (A B : Option Addr) (n c d : Nat) (w : World), n = fs.length → F.sizes fs ≤ m → Reads w S [.slice A n c] [.r 31 5 (F.dss 31 fs)] → Reads w S' [.slice B n d] [.r 31 5 (F.dss 31 fs)] →
      Calls Tryd.prog 36 #[.slice A n c, .slice B n d] w fun e w' => e = .returned (.bool true) ∧ Below w.heap.size w w'
set_option maxHeartbeats 1000000 in
theorem eqFormS_step (m : Nat) (hS : EqF m) : EqFs m := by
  intro fs S S' A B n c d w hn hs hr hr'
  have hm := hr.sl_le.2
  unfold maxLen at hm
  have HR := Lib.hid hr
  have HR' := Lib.hid hr'
  have HN := Lib.hid hn
  have HF := Lib.hid hS
  have HS := Lib.hid hs
  clear hr hr' hn hS hs
  go_enter Tryd.func36, Tryd.ntmps36
  go_wp2_with fail
  go_loopw [5] (fun i wr => ∃ j : Nat, j ≤ n ∧ i = .int .i64 j ∧ Hid (Below w.heap.size w wr)) (fun i _ => n - (intOf i).toNat)
  case atStart => exact ⟨0, Nat.zero_le _, rfl, Below.refl _ _⟩
  case round =>
    obtain ⟨j, hj, rfl, HB⟩ := hrel
    by_cases hlt : j < n
    · obtain ⟨ad, v0, v1, v2, v3, v4, rfl, hel, hc0, hc1, hc2, hc3, hc4⟩ := Reads.elemF (HR.out.belAll HB.out) (show j < fs.length by have := HN.out; omega)
      obtain ⟨bd, u0, u1, u2, u3, u4, rfl, hel', hd0, hd1, hd2, hd3, hd4⟩ := Reads.elemF (HR'.out.belAll HB.out) (show j < fs.length by have := HN.out; omega)
      have HEL := Lib.hid hel
      have HEL' := Lib.hid hel'
      clear hel hel'
      have hsz : Hid ((fs[j]'(by have := HN.out; omega)).size ≤ m) := Nat.le_trans (F.sizes_get _ _ _) HS.out
      go_wp2_with fail
      go_region_with (go_at_call 11; refine (HF.out _ S S' _ _ _ hsz.out HEL.out.drew HEL'.out.drew).mono ?_; rintro e w2 ⟨rfl, hb2⟩; have HB2 := Lib.hid hb2; clear hb2)
      go_wp2_with fail
      all_goals
        go_roundw
        case rel => exact ⟨j + 1, by omega, by go_num, HB.out.drew.trans (HB2.out.mono HB.out.size)⟩
        case measure => simp [intOf]; omega
    · go_wp2_with fail
      go_ret
      exact ⟨rfl, HB.out⟩
set_option maxHeartbeats 1000000 in
theorem eqForm_step (m : Nat) (hS : EqFs m) : EqF (m + 1) := by
  intro f S S' vs us w hs hr hr'
  obtain ⟨k, nm, n, sc, kids⟩ := f
  obtain ⟨A3, c3, A4, c4, rfl, hb, h3, h4⟩ := hr.form
  obtain ⟨B3, d3, B4, d4, rfl, hb', h3', h4'⟩ := hr'.form
  have HS : Hid (F.sizes kids ≤ m) := by simp [F.size] at hs; exact hs
  have HR3 := Lib.hid h3
  have HR4 := Lib.hid h4
  have HR3' := Lib.hid h3'
  have HR4' := Lib.hid h4'
  have HF := Lib.hid hS
  clear hs hr hr' hb hb' h3 h4 h3' h4' hS
  go_enter Tryd.func11, Tryd.ntmps11
  go_wp2_with fail
  refine calls_alloc2 (fun W b0 b1 hz hbw => ?_)
  refine (eqIntS_any sc S S' _ _ _ _ _ _ rfl (HR3.out.belAll hbw) (HR3'.out.belAll hbw)).mono ?_
  rintro e w1 ⟨rfl, hb1⟩
  have C0 := Lib.hid (blk_bel b0 hb1)
  have C1 := Lib.hid (blk_bel b1 hb1)
  have HB1 := Lib.hid (hbw.trans (hb1.mono (by omega)))
  clear b0 b1 hz hbw hb1
  obtain ⟨r0, _⟩ := blk_rules C0.out
  obtain ⟨r1, _⟩ := blk_rules C1.out
  go_wp2_with fail
  clear r0 r1
  refine (HF.out kids S S' _ _ _ _ _ _ rfl HS.out (HR4.out.belAll HB1.out) (HR4'.out.belAll HB1.out)).mono ?_
  rintro e w2 ⟨rfl, hb2⟩
  have HB2 := Lib.hid hb2
  clear hb2
  go_wp2_with fail
  go_ret
  exact ⟨rfl, HB1.out.trans (HB2.out.mono HB1.out.size)⟩
theorem eq_any (m : Nat) : EqF m ∧ EqFs m := by
  induction m with
  | zero =>
    have h : EqF 0 := fun f S S' vs us w hs => by cases f; simp [F.size] at hs
    exact ⟨h, eqFormS_step 0 h⟩
  | succ m ih =>
    have h := eqForm_step m ih.2
    exact ⟨h, eqFormS_step (m + 1) h⟩
theorem eqForm_any (f : F) (S S' : Nat → Prop) (vs us : List Value) (w : World) (h : Reads w S vs (f.ds 31)) (h' : Reads w S' us (f.ds 31)) :
    Calls Tryd.prog 11 #[.agg vs.toArray, .agg us.toArray] w fun e w' => e = .returned (.bool true) ∧ Below w.heap.size w w' :=
  (eq_any f.size).1 f S S' vs us w (Nat.le_refl _) h h'
end Go.Proofs.YtnooeebefhfjcaaDoor
