/- What toCore and toCoreS make: the program that came in, in blocks of its own. -/
import Derived.Test.YtnooeebefhfjcaaDoorTo
import Derived.Test.YtnooeebefhfjcaaDoorC
set_option linter.unusedVariables false
set_option linter.unusedSimpArgs false
namespace Go.Proofs.YtnooeebefhfjcaaDoor
open Go Go.RowKit
theorem info_core : (Tryd.prog.info? 45).map (fun i => (i.zero, i.size, i.bytes)) = some (some (.agg #[.int .i64 0, .int .i64 0, .string ⟨#[]⟩, .int .i64 0, .slice none 0 0, .int .i64 0, .string ⟨#[]⟩, .int .i64 0, .slice none 0 0, .slice none 0 0, .slice none 0 0]), 11, 168) := by kernel_rfl
theorem size_core : (Tryd.prog.info? 45).map (·.size) = some 11 := by kernel_rfl
section
variable {P : Program} {f : FuncId} {args : Array Value} {w : World} {R : Ending → World → Prop}
theorem calls_set5 {g i0 i1 i2 i3 i4 : Nat} {t : TypeId} {cs : Array Value} {v0 v1 v2 v3 v4 : Value} (B : w.heap[g]? = some (.cells cs t (0, 0)))
    (h : ∀ W, W.heap[g]? = some (.cells (((((cs.setIfInBounds i0 v0).setIfInBounds i1 v1).setIfInBounds i2 v2).setIfInBounds i3 v3).setIfInBounds i4 v4) t (0, 0)) → (∀ k, k ≠ g → W.heap[k]? = w.heap[k]?) → W.heap.size = w.heap.size → (∀ B, B ≤ g → ∀ w0, Below B w0 w → Below B w0 W) → Only w W [g] → Calls P f args W R) :
    Calls P f args (((((w.setCell ⟨g, i0, none⟩ v0).setCell ⟨g, i1, none⟩ v1).setCell ⟨g, i2, none⟩ v2).setCell ⟨g, i3, none⟩ v3).setCell ⟨g, i4, none⟩ v4) R :=
  h _ (blk_set (blk_set (blk_set (blk_set (blk_set B v0) v1) v2) v3) v4)
    (fun k hk => (((((heap_setCell_other _ ⟨g, i4, none⟩ k v4 hk).trans (heap_setCell_other _ ⟨g, i3, none⟩ k v3 hk)).trans (heap_setCell_other _ ⟨g, i2, none⟩ k v2 hk)).trans (heap_setCell_other _ ⟨g, i1, none⟩ k v1 hk)).trans (heap_setCell_other w ⟨g, i0, none⟩ k v0 hk)))
    (by simp [World.setCell]) (fun B hB w0 hb => ((((hb.setCell hB v0).setCell hB v1).setCell hB v2).setCell hB v3).setCell hB v4)
    ((((((Only.refl w [g]).set (by simp) v0).set (by simp) v1).set (by simp) v2).set (by simp) v3).set (by simp) v4)
end
def ToCore (m : Nat) : Prop := ∀ (f : C) (S : Nat → Prop) (vs : List Value) (w : World), f.size ≤ m → f.bulk ≤ 1048576 → Reads w S vs (f.ds 40 25) →
      Calls Tryd.prog 17 #[.agg vs.toArray] w fun e w' => ∃ us, e = .returned (.agg us.toArray) ∧ Made w w' us (f.ds 45 31)
def ToCoreS (m : Nat) : Prop := ∀ (fs : List C) (S : Nat → Prop) (A : Option Addr) (n c : Nat) (w : World), n = fs.length → C.sizes fs ≤ m → C.bulks fs ≤ 1048576 → Reads w S [.slice A n c] [.r 40 11 (C.dss 40 25 fs)] →
      Calls Tryd.prog 41 #[.slice A n c] w fun e w' => ∃ v, e = .returned v ∧ Made w w' [v] [.r 45 11 (C.dss 45 31 fs)]
set_option maxHeartbeats 1000000 in
theorem toCoreS_step (m : Nat) (hS : ToCore m) : ToCoreS m := by
  intro fs S A n c w hn hs hbk hr
  have hb := C.bulks_len fs
  obtain ⟨cur0, hcs, hmk⟩ := run_make_any (P := Tryd.prog) 43 45 _ 11 168 Tryd.underlying43 info_core n (by omega) (by omega)
  have HR := Lib.hid hr
  have HN := Lib.hid hn
  have HC := Lib.hid hcs
  have HF := Lib.hid hS
  have HS := Lib.hid hs
  have HK := Lib.hid hbk
  have hn20 : n ≤ 1048576 := by omega
  clear hr hn hcs hS hs hb hbk
  go_enter Tryd.func41, Tryd.ntmps41
  go_wp2_with fail
  clear hmk
  go_loopw [4] (fun i wr => ∃ j : Nat, ∃ cur : Array Value, ∃ bs : List Nat, j ≤ n ∧ i = .int .i64 j ∧ Hid (wr.heap[w.heap.size]? = some (.cells cur 45 (0, 0))) ∧ Hid (cur.size = n * 11) ∧ Hid (Owns wr (cur.toList.take (j * 11)) (C.dss 45 31 (fs.take j)) bs) ∧ Hid (bs.Nodup) ∧ Hid (∀ b, b ∈ bs → w.heap.size < b) ∧ Hid (Below w.heap.size w wr)) (fun i _ => n - (intOf i).toNat)
  case atStart => exact ⟨0, cur0, [], Nat.zero_le _, rfl, heap_alloc_new _ _, HC.out, by show Owns _ _ _ _; simp [C.dss]; exact .nil, List.nodup_nil, (fun b hb => by cases hb), (Below.refl _ _).alloc (Nat.le_refl _) _⟩
  case round =>
    obtain ⟨j, cur, bs, hj, rfl, HG, HZ, HO, HD, HL, HB⟩ := hrel
    by_cases hlt : j < n
    · obtain ⟨ad, v0, v1, v2, v3, v4, v5, v6, v7, v8, v9, v10, rfl, hel, hc0, hc1, hc2, hc3, hc4, hc5, hc6, hc7, hc8, hc9, hc10⟩ := Reads.elemC (HR.out.belAll HB.out) (show j < fs.length by have := HN.out; omega)
      have HEL := Lib.hid hel
      clear hel
      have hsz : Hid ((fs[j]'(by have := HN.out; omega)).size ≤ m) := Nat.le_trans (C.sizes_get _ _ _) HS.out
      have hbk : Hid ((fs[j]'(by have := HN.out; omega)).bulk ≤ 1048576) := Nat.le_trans (C.bulks_get _ _ _) HK.out
      go_wp2_with fail
      refine (HF.out _ S _ _ hsz.out hbk.out HEL.out).mono ?_
      rintro e w2 ⟨us, rfl, bs2, ho2, hd2, hl2, hb2⟩
      have HO2 := Lib.hid ho2
      have HD2 := Lib.hid hd2
      have HL2 := Lib.hid hl2
      have HB2 := Lib.hid hb2
      have HU : Hid (us.length = 11) := by have := ho2.len; rw [C.ds_len] at this; exact this
      have HG2 : Hid (w2.heap[w.heap.size]? = some (.cells cur 45 (0, 0))) := blk_bel HG.out hb2
      clear ho2 hd2 hl2 hb2
      go_wp2_with (refine wpList_store_at rfl 45 (.tmp 21) (.tmp 20) rfl w.heap.size (j * 11) (.agg us.toArray) us rfl rfl rfl 45 cur HG2.out ?_ ?_ ?_ ?_; (have := HU.out; rw [this]; exact size_core); (have h1 := HU.out; have h2 := HZ.out; rw [h1, h2]; omega); exact oneCells_of HO2.out.reads)
      go_roundw
      case rel =>
        refine ⟨j + 1, splice cur (j * 11) us, bs ++ bs2, by omega, by go_num, setRow_heap _ _ _ _ _ _ HG2.out, ?_, ?_, ?_, ?_, setRow_below (HB.out.trans (HB2.out.mono HB.out.size)) (Nat.le_refl _) _⟩
        · have h1 := HU.out
          have h2 := HZ.out
          show _ = _
          rw [splice_size _ _ _ (by omega), h2]
        · have h1 := HU.out
          have h2 := HZ.out
          have h3 := HN.out
          show Owns _ _ _ _
          rw [show (j + 1) * 11 = j * 11 + us.length by omega, splice_take _ _ _ (by omega), C.dss_take_succ _ _ _ _ (by omega)]
          refine Owns.append ?_ ?_
          · refine HO.out.keep fun b hb => ?_
            have := HL.out b hb
            rw [setRow_other _ _ _ _ (by omega)]
            exact HB2.out.block b (HO.out.lt b hb)
          · refine HO2.out.keep fun b hb => ?_
            have := HL2.out b hb
            have := HB.out.size
            have := blk_lt' HG.out
            rw [setRow_other _ _ _ _ (by omega)]
        · show List.Nodup _
          exact nodup_app HD.out HD2.out fun b hb hb2 => by have := HO.out.lt b hb; have := HL2.out b hb2; omega
        · show ∀ b, _
          intro b hb
          rcases List.mem_append.1 hb with hb | hb
          · exact HL.out b hb
          · have := HL2.out b hb
            have := blk_lt' HG.out
            omega
      case measure => simp [intOf]; omega
    · go_wp2_with fail
      go_ret
      have h2 := HZ.out
      have h3 := HN.out
      obtain rfl : j = fs.length := by omega
      refine ⟨_, rfl, w.heap.size :: (bs ++ []), ?_, ?_, ?_, HB.out⟩
      · show Owns wr [.slice (some ⟨w.heap.size, 0, none⟩) n n] _ _
        refine .row w.heap.size n n cur _ 11 HG.out (Nat.le_refl _) (by unfold maxLen; omega) (by omega) ?_ .nil
        have := HO.out
        rw [List.take_length] at this
        rwa [h3]
      · rw [List.append_nil]
        exact List.nodup_cons.2 ⟨fun hb => by have := HL.out _ hb; omega, HD.out⟩
      · intro b hb
        rw [List.append_nil] at hb
        rcases List.mem_cons.1 hb with rfl | hb
        · exact Nat.le_refl _
        · have := HL.out b hb; omega
set_option maxHeartbeats 2000000 in
theorem toCore_step (m : Nat) (hS : ToCoreS m) : ToCore (m + 1) := by
  intro f S vs w hs hbk hr
  obtain ⟨k, id, nm, n, ids, data, kids⟩ := f
  obtain ⟨A4, c4, x0, x1, x2, x3, x4, A6, c6, rfl, hb, h3, h5, h4⟩ := hr.core
  have HS : Hid (C.sizes kids ≤ m) := by simp [C.size] at hs; exact hs
  have HK : Hid (C.bulks kids ≤ 1048576) := by simp [C.bulk] at hbk; show _ ≤ _; omega
  have HK2 : Hid (ids.length ≤ 1048576) := by simp [C.bulk] at hbk; show _ ≤ _; omega
  have HK3 : Hid (data.bulk ≤ 1048576) := by simp [C.bulk] at hbk; show _ ≤ _; omega
  have HN := Lib.hid hb
  have HR3 := Lib.hid h3
  have HR4 := Lib.hid h4
  have HR5 := Lib.hid h5
  have HF := Lib.hid hS
  clear hs hbk hr hb h3 h4 h5 hS
  go_enter Tryd.func17, Tryd.ntmps17
  go_wp2_with fail
  refine calls_alloc3 (fun W B0 B1 B2 hz hbw => ?_)
  refine (toIntS_any ids S _ _ _ _ rfl HK2.out (HR3.out.belAll hbw)).mono ?_
  rintro e w1 ⟨v3, rfl, bs3, ho3, hd3, hl3, hb3⟩
  obtain ⟨A3', c3', rfl⟩ := ho3.sl_inv (by omega) (m := ids.length) (by simp)
  have B0' := Lib.hid (blk_bel B0 hb3)
  have B1' := Lib.hid (blk_bel B1 hb3)
  have B2' := Lib.hid (blk_bel B2 hb3)
  have HO3 := Lib.hid ho3
  have HD3 := Lib.hid hd3
  have HL3 : Hid (∀ b, b ∈ bs3 → w.heap.size + 3 ≤ b) := fun b hb => by have := hl3 b hb; omega
  have HB3 := Lib.hid (hbw.trans (hb3.mono (by omega)))
  have hz1 : w.heap.size + 3 ≤ w1.heap.size := by have := hb3.size; omega
  clear ho3 hd3 hl3 hb3 B0 B1 B2 hz hbw
  obtain ⟨r0, q0⟩ := blk_rules B0'.out
  obtain ⟨r2, q2⟩ := blk_rules B2'.out
  go_wp2_with fail
  clear r0 q0 r2 q2
  refine calls_set B2'.out (fun W B2 hoth hz hset _ => ?_)
  have B1 := (hoth _ (by omega)).trans B1'.out
  have B0 := (hoth _ (by omega)).trans B0'.out
  have hbw := hset w.heap.size (by omega) w HB3.out
  refine (toForm_any data S [x0, x1, x2, x3, x4] _ HK3.out (HR5.out.belAll hbw)).mono ?_
  rintro e w2 ⟨us, rfl, bs5, ho5, hd5, hl5, hb5⟩
  obtain ⟨k1, nm1, n1, sc, fk⟩ := data
  obtain ⟨v8, v9, b8, b9, rfl, rfl, hnm1, h8, h9⟩ := ho5.form
  obtain ⟨A8', c8', rfl⟩ := h8.sl_inv (by omega) (m := sc.length) (by simp)
  obtain ⟨A9', c9', rfl⟩ := h9.sl_inv (by omega) (m := fk.length) (F.dss_len _ _)
  have B0' := Lib.hid (blk_bel B0 hb5)
  have B1' := Lib.hid (blk_bel B1 hb5)
  have B2' := Lib.hid (blk_bel B2 hb5)
  have HO5 := Lib.hid ho5
  have HD5 := Lib.hid hd5
  have HL5 : Hid (∀ b, b ∈ b8 ++ b9 → w1.heap.size ≤ b) := fun b hb => by have := hl5 b hb; omega
  have HO3' : Hid (Owns w2 [.slice A3' ids.length c3'] [.r 3 1 (ids.map D.i)] bs3) := HO3.out.keep fun b hb => by
    have h1 := HL3.out b hb
    have h2 := HO3.out.lt b hb
    exact (hb5.block b (by omega)).trans (hoth b (by omega))
  have HB5 := Lib.hid (hbw.trans (hb5.mono (by omega)))
  have hz2 : w1.heap.size ≤ w2.heap.size := by have := hb5.size; omega
  clear ho5 hd5 hl5 hb5 h8 h9 B0 B1 B2 hoth hz hbw hset
  obtain ⟨r0, q0⟩ := blk_rules B0'.out
  obtain ⟨r2, q2⟩ := blk_rules B2'.out
  go_wp2_with fail
  clear r0 q0 r2 q2
  refine calls_set5 B2'.out (fun W B2 hoth hz hset _ => ?_)
  have B1 := (hoth _ (by omega)).trans B1'.out
  have hbw := hset w.heap.size (by omega) w HB5.out
  refine (HF.out kids S _ _ _ _ rfl HS.out HK.out (HR4.out.belAll hbw)).mono ?_
  rintro e w3 ⟨v4, rfl, bs4, ho4, hd4, hl4, hb4⟩
  obtain ⟨A4', c4', rfl⟩ := ho4.sl_inv (by omega) (m := kids.length) (C.dss_len _ _ _)
  have C1 := Lib.hid (blk_bel B1 hb4)
  have C2 := Lib.hid (blk_bel B2 hb4)
  have HO4 := Lib.hid ho4
  have HD4 := Lib.hid hd4
  have HL4 : Hid (∀ b, b ∈ bs4 → w2.heap.size ≤ b) := fun b hb => by have := hl4 b hb; omega
  have HO3'' : Hid (Owns w3 [.slice A3' ids.length c3'] [.r 3 1 (ids.map D.i)] bs3) := HO3'.out.keep fun b hb => by
    have h1 := HL3.out b hb
    have h2 := HO3'.out.lt b hb
    exact (hb4.block b (by omega)).trans (hoth b (by omega))
  have HO5' : Hid (Owns w3 [.int .i64 k1, .string nm1, .int .i64 n1, .slice A8' sc.length c8', .slice A9' fk.length c9'] (F.ds 31 (.mk k1 nm1 n1 sc fk)) (b8 ++ b9)) := HO5.out.keep fun b hb => by
    have h1 := HL5.out b hb
    have h2 := HO5.out.lt b hb
    exact (hb4.block b (by omega)).trans (hoth b (by omega))
  have HB4 := Lib.hid (hbw.trans (hb4.mono (by omega)))
  have hz3 : w.heap.size + 3 ≤ w3.heap.size := by have := hb4.size; omega
  clear ho4 hd4 hl4 hb4 B1 B2 hoth hz hbw hset
  obtain ⟨r1, q1⟩ := blk_rules C1.out
  obtain ⟨r2, q2⟩ := blk_rules C2.out
  go_wp2_with fail
  refine bodyPost_ret (v := .agg #[.int .i64 k, .int .i64 id, .string nm, .int .i64 n, .slice A3' ids.length c3', .int .i64 k1, .string nm1, .int .i64 n1, .slice A8' sc.length c8', .slice A9' fk.length c9', .slice A4' kids.length c4']) (by simp [results, Tryd.results17, go_sem, r1]) rfl ⟨[.int .i64 k, .int .i64 id, .string nm, .int .i64 n, .slice A3' ids.length c3', .int .i64 k1, .string nm1, .int .i64 n1, .slice A8' sc.length c8', .slice A9' fk.length c9', .slice A4' kids.length c4'], rfl, bs3 ++ ((b8 ++ b9) ++ bs4), ?_, ?_, ?_, ?_⟩
  · refine (Owns.core_mk HN.out HO3''.out HO5'.out HO4.out).keep fun b hb => ?_
    have : w.heap.size + 3 ≤ b := by
      rcases List.mem_append.1 hb with hb | hb
      · exact HL3.out b hb
      · rcases List.mem_append.1 hb with hb | hb
        · have := HL5.out b hb; omega
        · have := HL4.out b hb; omega
    simp only [World.setCell, Array.getElem?_modify]
    repeat rw [if_neg (by omega)]
  · refine nodup_app HD3.out (nodup_app HD5.out HD4.out fun b h3 h4 => by have := HO5.out.lt b h3; have := HL4.out b h4; omega) fun b h3 h4 => ?_
    have h5 := HO3.out.lt b h3
    rcases List.mem_append.1 h4 with hb | hb
    · have := HL5.out b hb; omega
    · have := HL4.out b hb; omega
  · intro b hb
    rcases List.mem_append.1 hb with hb | hb
    · have := HL3.out b hb; omega
    · rcases List.mem_append.1 hb with hb | hb
      · have := HL5.out b hb; omega
      · have := HL4.out b hb; omega
  · iterate 12 (refine Below.setCell ?_ (by simp <;> omega) _)
    exact HB4.out
theorem toC_any (m : Nat) : ToCore m ∧ ToCoreS m := by
  induction m with
  | zero =>
    have h : ToCore 0 := fun f S vs w hs => by cases f; simp [C.size] at hs
    exact ⟨h, toCoreS_step 0 h⟩
  | succ m ih =>
    have h := toCore_step m ih.2
    exact ⟨h, toCoreS_step (m + 1) h⟩
theorem toCore_any (f : C) (S : Nat → Prop) (vs : List Value) (w : World) (hb : f.bulk ≤ 1048576) (hr : Reads w S vs (f.ds 40 25)) :
    Calls Tryd.prog 17 #[.agg vs.toArray] w fun e w' => ∃ us, e = .returned (.agg us.toArray) ∧ Made w w' us (f.ds 45 31) :=
  (toC_any f.size).1 f S vs w (Nat.le_refl _) hb hr
end Go.Proofs.YtnooeebefhfjcaaDoor
