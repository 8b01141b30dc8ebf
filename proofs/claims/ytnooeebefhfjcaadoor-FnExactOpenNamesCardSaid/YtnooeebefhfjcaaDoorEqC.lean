/- eqCore and eqCoreS answer true where both read as one program. -/
import Derived.Test.YtnooeebefhfjcaaDoorEqF
import Derived.Test.YtnooeebefhfjcaaDoorC
set_option linter.unusedVariables false
set_option linter.unusedSimpArgs false
namespace Go.Proofs.YtnooeebefhfjcaaDoor
open Go Go.RowKit
def EqC (m : Nat) : Prop := ∀ (f : C) (S S' : Nat → Prop) (vs us : List Value) (w : World), f.size ≤ m → Reads w S vs (f.ds 45 31) → Reads w S' us (f.ds 45 31) →
      Calls Tryd.prog 20 #[.agg vs.toArray, .agg us.toArray] w fun e w' => e = .returned (.bool true) ∧ Below w.heap.size w w'
def EqCs (m : Nat) : Prop := ∀ (fs : List C) (S S' : Nat → Prop) (A B : Option Addr) (n c d : Nat) (w : World), n = fs.length → C.sizes fs ≤ m → Reads w S [.slice A n c] [.r 45 11 (C.dss 45 31 fs)] → Reads w S' [.slice B n d] [.r 45 11 (C.dss 45 31 fs)] →
      Calls Tryd.prog 45 #[.slice A n c, .slice B n d] w fun e w' => e = .returned (.bool true) ∧ Below w.heap.size w w'
set_option maxHeartbeats 1000000 in
theorem eqCoreS_step (m : Nat) (hS : EqC m) : EqCs m := by
  intro fs S S' A B n c d w hn hs hr hr'
  have hm := hr.sl_le.2
  unfold maxLen at hm
  have HR := Lib.hid hr
  have HR' := Lib.hid hr'
  have HN := Lib.hid hn
  have HF := Lib.hid hS
  have HS := Lib.hid hs
  clear hr hr' hn hS hs
  go_enter Tryd.func45, Tryd.ntmps45
  go_wp2_with fail
  go_loopw [5] (fun i wr => ∃ j : Nat, j ≤ n ∧ i = .int .i64 j ∧ Hid (Below w.heap.size w wr)) (fun i _ => n - (intOf i).toNat)
  case atStart => exact ⟨0, Nat.zero_le _, rfl, Below.refl _ _⟩
  case round =>
    obtain ⟨j, hj, rfl, HB⟩ := hrel
    by_cases hlt : j < n
    · obtain ⟨ad, v0, v1, v2, v3, v4, v5, v6, v7, v8, v9, v10, rfl, hel, hc0, hc1, hc2, hc3, hc4, hc5, hc6, hc7, hc8, hc9, hc10⟩ := Reads.elemC (HR.out.belAll HB.out) (show j < fs.length by have := HN.out; omega)
      obtain ⟨bd, u0, u1, u2, u3, u4, u5, u6, u7, u8, u9, u10, rfl, hel', hd0, hd1, hd2, hd3, hd4, hd5, hd6, hd7, hd8, hd9, hd10⟩ := Reads.elemC (HR'.out.belAll HB.out) (show j < fs.length by have := HN.out; omega)
      have HEL := Lib.hid hel
      have HEL' := Lib.hid hel'
      clear hel hel'
      have hsz : Hid ((fs[j]'(by have := HN.out; omega)).size ≤ m) := Nat.le_trans (C.sizes_get _ _ _) HS.out
      go_wp2_with fail
      go_region_with (go_at_call 20; refine (HF.out _ S S' _ _ _ hsz.out HEL.out.drew HEL'.out.drew).mono ?_; rintro e w2 ⟨rfl, hb2⟩; have HB2 := Lib.hid hb2; clear hb2)
      go_wp2_with fail
      all_goals
        go_roundw
        case rel => exact ⟨j + 1, by omega, by go_num, HB.out.drew.trans (HB2.out.mono HB.out.size)⟩
        case measure => simp [intOf]; omega
    · go_wp2_with fail
      go_ret
      exact ⟨rfl, HB.out⟩
set_option maxHeartbeats 1000000 in
theorem eqCore_step (m : Nat) (hS : EqCs m) : EqC (m + 1) := by
  intro f S S' vs us w hs hr hr'
  obtain ⟨k, id, nm, n, ids, data, kids⟩ := f
  obtain ⟨A4, c4, x0, x1, x2, x3, x4, A6, c6, rfl, hb, h3, h4, h5⟩ := hr.core
  obtain ⟨B4, d4, y0, y1, y2, y3, y4, B6, d6, rfl, hb', h3', h4', h5'⟩ := hr'.core
  have HS : Hid (C.sizes kids ≤ m) := by simp [C.size] at hs; exact hs
  have HR3 := Lib.hid h3
  have HR4 := Lib.hid h4
  have HR5 := Lib.hid h5
  have HR3' := Lib.hid h3'
  have HR4' := Lib.hid h4'
  have HR5' := Lib.hid h5'
  have HF := Lib.hid hS
  clear hs hr hr' hb hb' h3 h4 h3' h4' h5 h5' hS
  go_enter Tryd.func20, Tryd.ntmps20
  go_wp2_with fail
  refine calls_alloc2 (fun W b0 b1 hz hbw => ?_)
  refine (eqIntS_any ids S S' _ _ _ _ _ _ rfl (HR3.out.belAll hbw) (HR3'.out.belAll hbw)).mono ?_
  rintro e w1 ⟨rfl, hb1⟩
  have C0 := Lib.hid (blk_bel b0 hb1)
  have C1 := Lib.hid (blk_bel b1 hb1)
  have HB1 := Lib.hid (hbw.trans (hb1.mono (by omega)))
  clear b0 b1 hz hbw hb1
  obtain ⟨r0, _⟩ := blk_rules C0.out
  obtain ⟨r1, _⟩ := blk_rules C1.out
  go_wp2_with fail
  clear r0 r1
  refine (eqForm_any data S S' [x0, x1, x2, x3, x4] [y0, y1, y2, y3, y4] _ (HR4.out.belAll HB1.out) (HR4'.out.belAll HB1.out)).mono ?_
  rintro e w2 ⟨rfl, hb2⟩
  have D0 := Lib.hid (blk_bel C0.out hb2)
  have D1 := Lib.hid (blk_bel C1.out hb2)
  have HB2 := Lib.hid (HB1.out.trans (hb2.mono HB1.out.size))
  clear hb2
  obtain ⟨r0, _⟩ := blk_rules D0.out
  obtain ⟨r1, _⟩ := blk_rules D1.out
  go_wp2_with fail
  clear r0 r1
  refine (HF.out kids S S' _ _ _ _ _ _ rfl HS.out (HR5.out.belAll HB2.out) (HR5'.out.belAll HB2.out)).mono ?_
  rintro e w3 ⟨rfl, hb3⟩
  have HB3 := Lib.hid hb3
  clear hb3
  go_wp2_with fail
  go_ret
  exact ⟨rfl, HB2.out.trans (HB3.out.mono HB2.out.size)⟩
theorem eqC_any (m : Nat) : EqC m ∧ EqCs m := by
  induction m with
  | zero =>
    have h : EqC 0 := fun f S S' vs us w hs => by cases f; simp [C.size] at hs
    exact ⟨h, eqCoreS_step 0 h⟩
  | succ m ih =>
    have h := eqCore_step m ih.2
    exact ⟨h, eqCoreS_step (m + 1) h⟩
theorem eqCore_any (f : C) (S S' : Nat → Prop) (vs us : List Value) (w : World) (h : Reads w S vs (f.ds 45 31)) (h' : Reads w S' us (f.ds 45 31)) :
    Calls Tryd.prog 20 #[.agg vs.toArray, .agg us.toArray] w fun e w' => e = .returned (.bool true) ∧ Below w.heap.size w w' :=
  (eqC_any f.size).1 f S S' vs us w (Nat.le_refl _) h h'
end Go.Proofs.YtnooeebefhfjcaaDoor
