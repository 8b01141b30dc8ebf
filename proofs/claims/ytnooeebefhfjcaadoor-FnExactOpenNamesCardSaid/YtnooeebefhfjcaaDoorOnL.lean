/- The law FnExactOpenNames answers true: its walk, for each program. -/
import Derived.Test.YtnooeebefhfjcaaDoorOnI
import Derived.Test.YtnooeebefhfjcaaDoorSzC
import Derived.Test.YtnooeebefhfjcaaDoorToC
import Derived.Test.YtnooeebefhfjcaaDoorEqC
import Derived.Test.YtnooeebefhfjcaaDoorMkC
import Derived.Test.YtnooeebefhfjcaaDoorMkS
set_option linter.unusedVariables false
set_option linter.unusedSimpArgs false
namespace Go.Proofs.YtnooeebefhfjcaaDoor
open Go Go.RowKit
mutual
theorem F.mc_le : ∀ f : F, f.mc ≤ 3 + 4 * f.bulk
  | .mk k nm n sc kids => by have := F.mcs_le kids; simp only [F.mc, F.bulk]; omega
theorem F.mcs_le : ∀ fs : List F, F.mcs fs ≤ 4 * F.bulks fs
  | [] => by simp [F.mcs]
  | f :: fs => by have h1 := F.mc_le f; have h2 := F.mcs_le fs; simp only [F.mcs, F.bulks]; omega
end
mutual
theorem C.mc_le : ∀ c : C, c.mc ≤ 7 + 11 * c.bulk
  | .mk k id nm n ids data kids => by have h0 := F.mc_le data; have := C.mcs_le kids; simp only [C.mc, C.bulk]; omega
theorem C.mcs_le : ∀ fs : List C, C.mcs fs ≤ 11 * C.bulks fs
  | [] => by simp [C.mcs]
  | f :: fs => by have h1 := C.mc_le f; have h2 := C.mcs_le fs; simp only [C.mcs, C.bulks]; omega
end
mutual
theorem C.size_le : ∀ c : C, c.size ≤ 1 + c.bulk
  | .mk k id nm n ids data kids => by have := C.sizes_le kids; simp only [C.size, C.bulk]; omega
theorem C.sizes_le : ∀ fs : List C, C.sizes fs ≤ C.bulks fs
  | [] => by simp [C.sizes]
  | f :: fs => by have h1 := C.size_le f; have h2 := C.sizes_le fs; simp only [C.sizes, C.bulks]; omega
end
theorem heldIntS_any' (n : Nat) (S : Nat → Prop) (A : Option Addr) (c : Nat) (k : Nat) (q : Int) (hq : q = k) (w : World) (hr : Reads w S [.slice A n c] [.r 3 1 ((upFrom k n).map D.i)]) (hl : n ≤ 1000000000000) (hk : k ≤ 1000000000000) :
    Calls Tryd.prog 23 #[.slice A n c, .int .i64 q] w fun e w' => e = .returned (.int .i64 ((k + n : Nat) : Int)) ∧ Below w.heap.size w w' :=
  (heldIntS_any n S A c k q hq w hr hl hk).mono fun e w' ⟨h1, h2⟩ => ⟨h1, h2 ▸ Below.refl _ _⟩
theorem PrimLaid.keep {w w' : World} (h : PrimLaid w) (hk : w'.heap[0]? = w.heap[0]?) : PrimLaid w' := Reads.keep h (fun b hb _ => by subst hb; exact hk)
set_option maxHeartbeats 4000000 in
theorem lawOpen_any (c : C) (S : Nat → Prop) (vs : List Value) (w : World) (hr : Reads w S vs (c.ds 40 25)) (hlib : PrimLaid w) (hgl : 0 < w.heap.size) :
    Calls Tryd.prog 5 #[.agg vs.toArray] w fun e w' => e = .returned (.bool true) ∧ Below w.heap.size w w' := by
  obtain ⟨k, id, nm, n, ids, data, kids⟩ := c
  obtain ⟨k1, nm1, n1, sc, fk⟩ := data
  obtain ⟨A4, c4, A8, c8, A9, c9, A6, c6, rfl, hb, hb1, h4, h5, h6⟩ := hr.core'
  have HR := Lib.hid hr
  have HLB := Lib.hid hlib
  clear hr hlib hb hb1 h4 h5 h6
  by_cases hbk : C.bulk (.mk k id nm n ids (.mk k1 nm1 n1 sc fk) kids) ≤ 1048576
  · have HBK := Lib.hid hbk
    have hsz := C.size_le (.mk k id nm n ids (.mk k1 nm1 n1 sc fk) kids)
    have HSZ : Hid (C.size (.mk k id nm n ids (.mk k1 nm1 n1 sc fk) kids) ≤ 1000000000000) := by show _ ≤ _; omega
    have HLF := Lib.hid (lefts_pos (left := 1048576) (n := C.bulk (.mk k id nm n ids (.mk k1 nm1 n1 sc fk) kids)) (by omega))
    have hnn : 0 ≤ (1048576 : Int) - (C.bulk (.mk k id nm n ids (.mk k1 nm1 n1 sc fk) kids) : Nat) := by omega
    clear hbk hsz
    go_enter Tryd.func5, Tryd.ntmps5
    go_wp2_with fail
    refine calls_alloc1 (fun W B0 hz hbw => ?_)
    refine (szCore_any _ S _ _ W (HR.out.belAll hbw) (by omega) (by omega)).mono ?_
    rintro e w1 ⟨rfl, hb1⟩
    rw [HLF.out]
    have C1 := Lib.hid (blk_bel B0 hb1)
    have HB1 := Lib.hid (hbw.trans (hb1.mono (by omega)))
    clear B0 hz hbw hb1
    obtain ⟨r0, _⟩ := blk_rules C1.out
    go_wp2_with fail
    clear r0
    -- the reference's answer
    refine (toCore_any _ S _ w1 HBK.out (HR.out.belAll HB1.out)).mono ?_
    rintro e w2 ⟨us, rfl, bx, hox, hnx, hlx, hb2⟩
    have C2 := Lib.hid (blk_bel C1.out hb2)
    have HB2 := Lib.hid (HB1.out.trans (hb2.mono HB1.out.size))
    have HOX := Lib.hid hox
    clear hox hnx hlx hb2
    go_wp2_with fail
    refine (specOpen_any _ _ _ w2 HSZ.out HOX.out.reads).mono ?_
    rintro e w3 ⟨v4, rfl, b4, ho4, hn4, hl4, hb3⟩
    have C3 := Lib.hid (blk_bel C2.out hb3)
    have HB3 := Lib.hid (HB2.out.trans (hb3.mono HB2.out.size))
    have HO4 := Lib.hid ho4
    obtain ⟨A4', c4', rfl⟩ := ho4.sl_inv (by omega) (m := (C.opn (.mk k id nm n ids (.mk k1 nm1 n1 sc fk) kids)).length) (by simp)
    clear HOX C1 C2 ho4 hn4 hl4 hb3
    obtain ⟨r0, _⟩ := blk_rules C3.out
    go_wp2_with fail
    clear r0
    -- the argument's copy
    refine (toCore_any _ S _ w3 HBK.out (HR.out.belAll HB3.out)).mono ?_
    rintro e w4 ⟨us', rfl, bx', hox, hnx, hlx, hb4⟩
    obtain ⟨u4, u8, u9, u10, bx4, bx8, bx9, bx10, hus, hbx, hnm', hnm1', h4x, h8x, h9x, h10x⟩ := hox.core
    obtain ⟨A4x, c4x, rfl⟩ := h4x.sl_inv (by omega) (m := ids.length) (by simp)
    obtain ⟨A8x, c8x, rfl⟩ := h8x.sl_inv (by omega) (m := sc.length) (by simp)
    obtain ⟨A9x, c9x, rfl⟩ := h9x.sl_inv (by omega) (m := fk.length) (F.dss_len _ _)
    obtain ⟨A10x, c10x, rfl⟩ := h10x.sl_inv (by omega) (m := kids.length) (C.dss_len _ _ _)
    subst hus
    have C4 := Lib.hid (blk_bel C3.out hb4)
    have HB4 := Lib.hid (HB3.out.trans (hb4.mono HB3.out.size))
    have HO44 := Lib.hid (HO4.out.bel hb4)
    have HOX := Lib.hid hox
    have HNX := Lib.hid hnx
    have HLX : Hid (∀ b, b ∈ bx' → w.heap.size + 1 ≤ b ∧ w3.heap.size ≤ b) := fun b hb => ⟨by have := hlx b hb; have := blk_lt' C3.out; omega, hlx b hb⟩
    have HL43 : Hid (∀ b, b ∈ b4 → b < w3.heap.size) := HO4.out.lt
    have HL4 : Hid (∀ b, b ∈ b4 → b < w4.heap.size) := fun b hb => by have := HO4.out.lt b hb; have := hb4.size; omega
    clear hbx hnm' hnm1' h4x h8x h9x h10x hox hnx hlx hb4 C3 HO4 HB3 HB2 HB1
    go_wp2_with fail
    -- the program's answer
    refine calls_alloc1 (fun W B0 hz hbw => ?_)
    refine (implOpen_any _ _ _ W HSZ.out (HOX.out.reads.belAll hbw) (HLB.out.keep ((hbw.block _ (by have := HB4.out.size; omega)).trans (HB4.out.block _ hgl))) (by have := HB4.out.size; omega)).mono ?_
    rintro e w5 ⟨v6, rfl, b6, ho6, hn6, hl6, hb5⟩
    obtain ⟨A6, c6, rfl⟩ := ho6.sl_inv (by omega) (m := (C.opn (.mk k id nm n ids (.mk k1 nm1 n1 sc fk) kids)).length) (by simp)
    have hb5' := hbw.trans (hb5.mono (by omega))
    have C5 := Lib.hid (blk_bel C4.out hb5')
    have D5 := Lib.hid (blk_bel B0 hb5)
    have HB5 := Lib.hid (HB4.out.trans (hb5'.mono HB4.out.size))
    have HO45 := Lib.hid (HO44.out.bel hb5')
    have HOX5 := Lib.hid (HOX.out.bel hb5')
    have HO6 := Lib.hid ho6
    have HN6 := Lib.hid hn6
    have HL6 : Hid (∀ b, b ∈ b6 → w4.heap.size + 1 ≤ b) := fun b hb => by have := hl6 b hb; omega
    have HLX4 : Hid (∀ b, b ∈ bx' → b < w4.heap.size) := HOX.out.lt
    have hz5 : w4.heap.size + 1 ≤ w5.heap.size := by have := hb5.size; omega
    clear B0 hz hbw ho6 hn6 hl6 hb5 hb5' C4 HO44 HOX
    go_wp2_with fail
    refine (eqStringS_any _ _ _ _ _ _ _ _ w5 rfl HO6.out.reads HO45.out.reads).mono ?_
    rintro e w6 ⟨rfl, hb6⟩
    have C6 := Lib.hid (blk_bel C5.out hb6)
    have D6 := Lib.hid (blk_bel D5.out hb6)
    have HB6 := Lib.hid (HB5.out.trans (hb6.mono HB5.out.size))
    have HO46 := Lib.hid (HO45.out.bel hb6)
    have HOX6 := Lib.hid (HOX5.out.bel hb6)
    have HO66 := Lib.hid (HO6.out.bel hb6)
    have hz6 : w4.heap.size + 1 ≤ w6.heap.size := by have := hb6.size; omega
    clear hb6 C5 D5 HB5 HO45 HOX5 HO6 hz5
    obtain ⟨r0, _⟩ := blk_rules C6.out
    obtain ⟨r1, _⟩ := blk_rules D6.out
    go_wp2_with fail
    have HB6d := Lib.hid HB6.out.drew
    go_region_with (first | (go_at_call 17; refine (toCore_any _ S _ _ HBK.out (HR.out.belAll HB6d.out)).mono ?_; rintro e w7 ⟨us7, rfl, b7, ho7, hn7, hl7, hb7⟩; have HO7 := Lib.hid ho7; have hb7' := (Below.refl w6.heap.size w6).drew.trans hb7; have C7 := Lib.hid (blk_bel C6.out hb7'); have D7 := Lib.hid (blk_bel D6.out hb7'); have HB7 := Lib.hid (HB6.out.trans (hb7'.mono HB6.out.size)); have HO47 := Lib.hid (HO46.out.bel hb7'); have HOX7 := Lib.hid (HOX6.out.bel hb7'); have HO67 := Lib.hid (HO66.out.bel hb7'); have hz7 : w4.heap.size + 1 ≤ w7.heap.size := by { have := hb7'.size; omega }; clear ho7 hn7 hl7 hb7 hb7'; obtain ⟨r7, _⟩ := blk_rules D7.out) | (go_at_call 20; refine (eqCore_any _ _ _ _ _ _ HOX7.out.reads HO7.out.reads).mono ?_; rintro e w8 ⟨rfl, hb8⟩; have C8 := Lib.hid (blk_bel C7.out hb8); have D8 := Lib.hid (blk_bel D7.out hb8); have HB8 := Lib.hid (HB7.out.trans (hb8.mono HB7.out.size)); have HO48 := Lib.hid (HO47.out.bel hb8); have HOX8 := Lib.hid (HOX7.out.bel hb8); have HO68 := Lib.hid (HO67.out.bel hb8); have hz8 : w4.heap.size + 1 ≤ w8.heap.size := by { have := hb8.size; omega }; clear hb8))
    all_goals
      clear C6 D6 HB6 HO46 HOX6 HO66 HB6d C7 D7 HB7 HO47 HOX7 HO67 HO7 r0 r1 r7 hz6 hz7
      obtain ⟨r1, _⟩ := blk_rules D8.out
      have hmc := C.mcs_le kids
      have hmf := F.mcs_le fk
      have hbk : nm.size + ids.length + (nm1.size + sc.length + F.bulks fk) + C.bulks kids ≤ 1048576 := HBK.out
      have HMC : Hid (1 + ids.length + sc.length + F.mcs fk + C.mcs kids ≤ 1000000000000) := by show _ ≤ _; omega
      clear hmc hmf hbk
      go_wp2_with fail
      -- the argument is marked
      refine (markCore_any k id n nm ids k1 n1 nm1 sc fk kids _ bx' 1 1 rfl _ HOX8.out HNX.out (by omega) HMC.out).mono ?_
      rintro e w9 ⟨fk', kids', rfl, _, _, ho9, hon9⟩
      have hk9 : (0 : Int) ≤ ((1 + ids.length + sc.length + F.mcs fk + C.mcs kids : Nat) : Int) := by omega
      have C9 := Lib.hid ((hon9.block _ (blk_lt' C8.out) (fun h => by have := HLX.out _ h; omega)).trans C8.out)
      have HO49 := Lib.hid (hon9.owns HO48.out (fun b hb hb' => by have := HL43.out b hb; have := HLX.out b hb'; omega))
      have HO69 := Lib.hid (hon9.owns HO68.out (fun b hb hb' => by have := HL6.out b hb; have := HLX4.out b hb'; omega))
      have HB9 := Lib.hid (hon9.toBelow HB8.out HB8.out.size (fun b hb => by have := HLX.out b hb; omega))
      have hz9 : w4.heap.size + 1 ≤ w9.heap.size := by have := hon9.size; omega
      clear ho9 hon9 C8 D8 HB8 HO48 HOX8 HO68 hz8 r1
      go_wp2_with fail
      refine (eqStringS_any _ _ _ _ _ _ _ _ w9 rfl HO69.out.reads HO49.out.reads).mono ?_
      rintro e w10 ⟨rfl, hb⟩
      have CA := Lib.hid (blk_bel C9.out hb)
      have HO4A := Lib.hid (HO49.out.bel hb)
      have HO6A := Lib.hid (HO69.out.bel hb)
      have HBA := Lib.hid (HB9.out.trans (hb.mono HB9.out.size))
      have hzA : w4.heap.size + 1 ≤ w10.heap.size := by have := hb.size; omega
      have hLl : Hid ((C.opn (.mk k id nm n ids (.mk k1 nm1 n1 sc fk) kids)).length ≤ 1000000000000) := Nat.le_trans (C.opn_len _) HSZ.out
      clear hb C9 HO49 HO69 HB9 hz9
      go_wp2_with fail
      -- the answer is marked
      refine (markStringS_any _ _ b6 1 1 rfl w10 HO6A.out (by have := hLl.out; omega) (by omega) (by omega)).mono ?_
      rintro e w11 ⟨rfl, ho11, hon11⟩
      have hq0 : (0 : Int) ≤ ((1 + (C.opn (.mk k id nm n ids (.mk k1 nm1 n1 sc fk) kids)).length : Nat) : Int) := by omega
      obtain ⟨q, hq⟩ : ∃ q : Int, ((1 + (C.opn (.mk k id nm n ids (.mk k1 nm1 n1 sc fk) kids)).length : Nat) : Int) = q := ⟨_, rfl⟩
      rw [hq] at hq0 ⊢
      have HQ := Lib.hid hq
      clear hq
      have CB := Lib.hid ((hon11.block _ (blk_lt' CA.out) (fun h => by have := HL6.out _ h; have := HB4.out.size; omega)).trans CA.out)
      have HO4B := Lib.hid (hon11.owns HO4A.out (fun b hb hb' => by have := HL4.out b hb; have := HL6.out b hb'; have := HO4A.out.lt b hb; omega))
      have HO6B := Lib.hid ho11
      have HBB := Lib.hid (hon11.toBelow HBA.out HBA.out.size (fun b hb => by have := HL6.out b hb; have := HB4.out.size; omega))
      have hzB : w4.heap.size + 1 ≤ w11.heap.size := by have := hon11.size; omega
      clear ho11 hon11 CA HO4A HO6A HBA hzA
      go_wp2_with fail
      refine (heldStringS_any (C.opn (.mk k id nm n ids (.mk k1 nm1 n1 sc fk) kids)).length _ A6 c6 1 1 rfl w11 HO6B.out.reads (by have := hLl.out; omega) (by omega) (by omega)).mono ?_
      rintro e w12 ⟨rfl, hb⟩
      have CC := Lib.hid (blk_bel CB.out hb)
      have HO4C := Lib.hid (HO4B.out.bel hb)
      have HO6C := Lib.hid (HO6B.out.bel hb)
      have HBC := Lib.hid (HBB.out.trans (hb.mono HBB.out.size))
      have hzC : w4.heap.size + 1 ≤ w12.heap.size := by have := hb.size; omega
      rw [HQ.out]
      clear hb CB HO4B HO6B HBB hzB
      obtain ⟨r1, _⟩ := blk_rules CC.out
      go_wp2_with fail
      -- once more, with a second copy
      refine (toCore_any _ S _ _ HBK.out (HR.out.belAll HBC.out)).mono ?_
      rintro e w13 ⟨us13, rfl, b13, ho13, _, _, hb⟩
      have HO4D := Lib.hid (HO4C.out.bel hb)
      have HO6D := Lib.hid (HO6C.out.bel hb)
      have HOXD := Lib.hid ho13
      have HBD := Lib.hid (HBC.out.trans (hb.mono HBC.out.size))
      clear hb ho13 CC HO4C HO6C HBC hzC r1
      go_wp2_with fail
      refine (implOpen_any _ _ _ w13 HSZ.out HOXD.out.reads (HLB.out.keep (HBD.out.block _ hgl)) (by have := HBD.out.size; omega)).mono ?_
      rintro e w14 ⟨v14, rfl, b14, ho14, _, _, hb⟩
      obtain ⟨AE, cE, rfl⟩ := ho14.sl_inv (by omega) (m := (C.opn (.mk k id nm n ids (.mk k1 nm1 n1 sc fk) kids)).length) (by simp)
      have HO4E := Lib.hid (HO4D.out.bel hb)
      have HO6E := Lib.hid (HO6D.out.bel hb)
      have HOE := Lib.hid ho14
      have HBE := Lib.hid (HBD.out.trans (hb.mono HBD.out.size))
      clear hb ho14 HO4D HO6D HOXD HBD
      go_wp2_with fail
      refine (eqStringS_any _ _ _ _ _ _ _ _ w14 rfl HOE.out.reads HO4E.out.reads).mono ?_
      rintro e w15 ⟨rfl, hb⟩
      have HO6F := Lib.hid (HO6E.out.bel hb)
      have HBF := Lib.hid (HBE.out.trans (hb.mono HBE.out.size))
      clear hb HO4E HO6E HOE HBE
      go_wp2_with fail
      refine (heldStringS_any (C.opn (.mk k id nm n ids (.mk k1 nm1 n1 sc fk) kids)).length _ A6 c6 1 1 rfl w15 HO6F.out.reads (by have := hLl.out; omega) (by omega) (by omega)).mono ?_
      rintro e w16 ⟨rfl, hb⟩
      rw [HQ.out]
      have HBG := Lib.hid (HBF.out.trans (hb.mono HBF.out.size))
      clear hb HO6F HBF
      go_wp2_with fail
      go_ret
      exact ⟨rfl, HBG.out⟩
  · have HLF := Lib.hid (lefts_neg (left := 1048576) (n := C.bulk (.mk k id nm n ids (.mk k1 nm1 n1 sc fk) kids)) (by omega))
    clear hbk
    go_enter Tryd.func5, Tryd.ntmps5
    go_wp2_with fail
    refine calls_alloc1 (fun W B0 hz hbw => ?_)
    refine (szCore_any _ S _ _ W (HR.out.belAll hbw) (by omega) (by omega)).mono ?_
    rintro e w1 ⟨rfl, hb1⟩
    rw [HLF.out]
    have HB1 := Lib.hid (hbw.trans (hb1.mono (by omega)))
    clear B0 hz hbw hb1
    go_wp2_with fail
    go_ret
    exact ⟨rfl, HB1.out⟩
end Go.Proofs.YtnooeebefhfjcaaDoor
