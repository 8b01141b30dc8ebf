/- What toIntS, toForm and toFormS make: the form that came in, in blocks of its own. -/
import Derived.Test.YtnooeebefhfjcaaDoorProg
import Derived.Test.YtnooeebefhfjcaaDoorL
import Derived.Test.YtnooeebefhfjcaaDoorSz
set_option linter.unusedVariables false
set_option linter.unusedSimpArgs false
namespace Go.Proofs.YtnooeebefhfjcaaDoor
open Go Go.RowKit

theorem info_int : (Tryd.prog.info? 3).map (fun i => (i.zero, i.size, i.bytes)) = some (some (.int .i64 0), 1, 8) := by kernel_rfl
theorem info_form : (Tryd.prog.info? 31).map (fun i => (i.zero, i.size, i.bytes)) = some (some (.agg #[.int .i64 0, .string ⟨#[]⟩, .int .i64 0, .slice none 0 0, .slice none 0 0]), 5, 80) := by kernel_rfl
theorem size_form : (Tryd.prog.info? 31).map (·.size) = some 5 := by kernel_rfl
theorem Reads.elemI {w : World} {S : Nat → Prop} {A : Option Addr} {n c : Nat} {t : TypeId} {xs : List Int} {j : Nat} (h : Reads w S [.slice A n c] [.r t 1 (xs.map D.i)]) (hj : j < xs.length) :
    ∃ ad, A = some ad ∧ w.cell? (ad.add j) = some (.int .i64 (xs[j]'hj)) := by
  have e : xs.map D.i = (xs.take j).map D.i ++ ([D.i (xs[j]'hj)] ++ (xs.drop (j + 1)).map D.i) := by
    rw [List.singleton_append, ← List.map_cons, ← List.drop_eq_getElem_cons hj, ← List.map_append, List.take_append_drop]
  obtain ⟨ad, us, rfl, h1, hr, hc⟩ := h.elem (j := j) e (by simp; omega) (by simp)
  match us, h1 with
  | [u], _ =>
    obtain rfl := hr.int_inv
    exact ⟨ad, rfl, by simpa using hc 0 _ rfl⟩

set_option maxHeartbeats 400000 in
theorem toIntS_any (xs : List Int) (S : Nat → Prop) (A : Option Addr) (n c : Nat) (w : World) (hn : n = xs.length) (hs : n ≤ 1048576) (hr : Reads w S [.slice A n c] [.r 3 1 (xs.map D.i)]) :
    Calls Tryd.prog 29 #[.slice A n c] w fun e w' => ∃ v, e = .returned v ∧ Made w w' [v] [.r 3 1 (xs.map D.i)] := by
  obtain ⟨cur0, hcs, hmk⟩ := run_make_any (P := Tryd.prog) 22 3 _ 1 8 Tryd.underlying22 info_int n (by omega) (by omega)
  have HR := Lib.hid hr
  have HN := Lib.hid hn
  have HC := Lib.hid hcs
  clear hr hn hcs
  go_enter Tryd.func29, Tryd.ntmps29
  go_wp2_with fail
  clear hmk
  go_loopw [4] (fun i wr => ∃ j : Nat, ∃ cur : Array Value, j ≤ n ∧ i = .int .i64 j ∧ Hid (wr.heap[w.heap.size]? = some (.cells cur 3 (0, 0))) ∧ Hid (cur.size = n) ∧ Hid (cur.toList.take j = (xs.take j).map (Value.int .i64)) ∧ Hid (Below w.heap.size w wr)) (fun i _ => n - (intOf i).toNat)
  case atStart => exact ⟨0, cur0, Nat.zero_le _, rfl, heap_alloc_new _ _, by have := HC.out; show _ = _; omega, by show _ = _; simp, (Below.refl _ _).alloc (Nat.le_refl _) _⟩
  case round =>
    obtain ⟨j, cur, hj, rfl, HG, HZ, HT, HB⟩ := hrel
    by_cases hlt : j < n
    · obtain ⟨ad, rfl, hc0⟩ := Reads.elemI (HR.out.belAll HB.out) (show j < xs.length by have := HN.out; omega)
      have hq : wr.cell? ⟨w.heap.size, j, none⟩ = some (cur.getD j undef) := by rw [cell_of_row _ _ _ _ _ _ HG.out]; have := HZ.out; simp [this, hlt]
      have hf : wr.frozen? ⟨w.heap.size, j, none⟩ = false := frozen_of_row _ _ _ _ _ HG.out
      go_wp2_with fail
      go_roundw
      case rel =>
        refine ⟨j + 1, cur.setIfInBounds j (.int .i64 (xs[j]'(by have := HN.out; omega))), by omega, by go_num, heap_setCell_same _ _ _ _ _ _ HG.out, by show _ = _; simpa using HZ.out, ?_, HB.out.setCell (Nat.le_refl _) _⟩
        have h1 := HT.out
        have h2 := HZ.out
        have h3 := HN.out
        show _ = _
        rw [take_set_succ _ _ _ (by omega), map_take_succ _ _ _ (by omega), h1]
      case measure => simp [intOf]; omega
    · go_wp2_with fail
      go_ret
      have h1 := HT.out
      have h2 := HZ.out
      have h3 := HN.out
      obtain rfl : j = xs.length := by omega
      refine ⟨_, rfl, [w.heap.size], ?_, by simp, by simp, HB.out⟩
      show Owns wr [.slice (some ⟨w.heap.size, 0, none⟩) n n] _ (w.heap.size :: ([] ++ []))
      refine .row w.heap.size n n cur _ 1 HG.out (Nat.le_refl _) (by unfold maxLen; omega) (by omega) ?_ .nil
      rw [h3, Nat.mul_one, h1, List.take_length]
      exact Owns.ints_mk _ _
def ToForm (m : Nat) : Prop := ∀ (f : F) (S : Nat → Prop) (vs : List Value) (w : World), f.size ≤ m → f.bulk ≤ 1048576 → Reads w S vs (f.ds 25) →
      Calls Tryd.prog 8 #[.agg vs.toArray] w fun e w' => ∃ us, e = .returned (.agg us.toArray) ∧ Made w w' us (f.ds 31)
def ToFormS (m : Nat) : Prop := ∀ (fs : List F) (S : Nat → Prop) (A : Option Addr) (n c : Nat) (w : World), n = fs.length → F.sizes fs ≤ m → F.bulks fs ≤ 1048576 → Reads w S [.slice A n c] [.r 25 5 (F.dss 25 fs)] →
      Calls Tryd.prog 30 #[.slice A n c] w fun e w' => ∃ v, e = .returned v ∧ Made w w' [v] [.r 31 5 (F.dss 31 fs)]
set_option maxHeartbeats 1000000 in
theorem toFormS_step (m : Nat) (hS : ToForm m) : ToFormS m := by
  intro fs S A n c w hn hs hbk hr
  have hb := F.bulks_len fs
  obtain ⟨cur0, hcs, hmk⟩ := run_make_any (P := Tryd.prog) 29 31 _ 5 80 Tryd.underlying29 info_form n (by omega) (by omega)
  have HR := Lib.hid hr
  have HN := Lib.hid hn
  have HC := Lib.hid hcs
  have HF := Lib.hid hS
  have HS := Lib.hid hs
  have HK := Lib.hid hbk
  have hn20 : n ≤ 1048576 := by omega
  clear hr hn hcs hS hs hb hbk
  go_enter Tryd.func30, Tryd.ntmps30
  go_wp2_with fail
  clear hmk
  go_loopw [4] (fun i wr => ∃ j : Nat, ∃ cur : Array Value, ∃ bs : List Nat, j ≤ n ∧ i = .int .i64 j ∧ Hid (wr.heap[w.heap.size]? = some (.cells cur 31 (0, 0))) ∧ Hid (cur.size = n * 5) ∧ Hid (Owns wr (cur.toList.take (j * 5)) (F.dss 31 (fs.take j)) bs) ∧ Hid (bs.Nodup) ∧ Hid (∀ b, b ∈ bs → w.heap.size < b) ∧ Hid (Below w.heap.size w wr)) (fun i _ => n - (intOf i).toNat)
  case atStart => exact ⟨0, cur0, [], Nat.zero_le _, rfl, heap_alloc_new _ _, HC.out, by show Owns _ _ _ _; simp [F.dss]; exact .nil, List.nodup_nil, (fun b hb => by cases hb), (Below.refl _ _).alloc (Nat.le_refl _) _⟩
  case round =>
    obtain ⟨j, cur, bs, hj, rfl, HG, HZ, HO, HD, HL, HB⟩ := hrel
    by_cases hlt : j < n
    · obtain ⟨ad, v0, v1, v2, v3, v4, rfl, hel, hc0, hc1, hc2, hc3, hc4⟩ := Reads.elemF (HR.out.belAll HB.out) (show j < fs.length by have := HN.out; omega)
      have HEL := Lib.hid hel
      clear hel
      have hsz : Hid ((fs[j]'(by have := HN.out; omega)).size ≤ m) := Nat.le_trans (F.sizes_get _ _ _) HS.out
      have hbk : Hid ((fs[j]'(by have := HN.out; omega)).bulk ≤ 1048576) := Nat.le_trans (F.bulks_get _ _ _) HK.out
      go_wp2_with fail
      refine (HF.out _ S _ _ hsz.out hbk.out HEL.out).mono ?_
      rintro e w2 ⟨us, rfl, bs2, ho2, hd2, hl2, hb2⟩
      have HO2 := Lib.hid ho2
      have HD2 := Lib.hid hd2
      have HL2 := Lib.hid hl2
      have HB2 := Lib.hid hb2
      have HU : Hid (us.length = 5) := by have := ho2.len; rw [F.ds_len] at this; exact this
      have HG2 : Hid (w2.heap[w.heap.size]? = some (.cells cur 31 (0, 0))) := blk_bel HG.out hb2
      clear ho2 hd2 hl2 hb2
      go_wp2_with (refine wpList_store_at rfl 31 (.tmp 21) (.tmp 20) rfl w.heap.size (j * 5) (.agg us.toArray) us rfl rfl rfl 31 cur HG2.out ?_ ?_ ?_ ?_; (have := HU.out; rw [this]; exact size_form); (have h1 := HU.out; have h2 := HZ.out; rw [h1, h2]; omega); exact oneCells_of HO2.out.reads)
      go_roundw
      case rel =>
        refine ⟨j + 1, splice cur (j * 5) us, bs ++ bs2, by omega, by go_num, setRow_heap _ _ _ _ _ _ HG2.out, ?_, ?_, ?_, ?_, setRow_below (HB.out.trans (HB2.out.mono HB.out.size)) (Nat.le_refl _) _⟩
        · have h1 := HU.out
          have h2 := HZ.out
          show _ = _
          rw [splice_size _ _ _ (by omega), h2]
        · have h1 := HU.out
          have h2 := HZ.out
          have h3 := HN.out
          show Owns _ _ _ _
          rw [show (j + 1) * 5 = j * 5 + us.length by omega, splice_take _ _ _ (by omega), F.dss_take_succ _ _ _ (by omega)]
          refine Owns.append ?_ ?_
          · refine HO.out.keep fun b hb => ?_
            have := HL.out b hb
            rw [setRow_other _ _ _ _ (by omega)]
            exact HB2.out.block b (HO.out.lt b hb)
          · refine HO2.out.keep fun b hb => ?_
            have := HL2.out b hb
            have := HB.out.size
            have := blk_lt' HG.out
            rw [setRow_other _ _ _ _ (by omega)]
        · show List.Nodup _
          exact nodup_app HD.out HD2.out fun b hb hb2 => by have := HO.out.lt b hb; have := HL2.out b hb2; omega
        · show ∀ b, _
          intro b hb
          rcases List.mem_append.1 hb with hb | hb
          · exact HL.out b hb
          · have := HL2.out b hb
            have := blk_lt' HG.out
            omega
      case measure => simp [intOf]; omega
    · go_wp2_with fail
      go_ret
      have h2 := HZ.out
      have h3 := HN.out
      obtain rfl : j = fs.length := by omega
      refine ⟨_, rfl, w.heap.size :: (bs ++ []), ?_, ?_, ?_, HB.out⟩
      · show Owns wr [.slice (some ⟨w.heap.size, 0, none⟩) n n] _ _
        refine .row w.heap.size n n cur _ 5 HG.out (Nat.le_refl _) (by unfold maxLen; omega) (by omega) ?_ .nil
        have := HO.out
        rw [List.take_length] at this
        rwa [h3]
      · rw [List.append_nil]
        exact List.nodup_cons.2 ⟨fun hb => by have := HL.out _ hb; omega, HD.out⟩
      · intro b hb
        rw [List.append_nil] at hb
        rcases List.mem_cons.1 hb with rfl | hb
        · exact Nat.le_refl _
        · have := HL.out b hb; omega
set_option maxHeartbeats 1000000 in
theorem toForm_step (m : Nat) (hS : ToFormS m) : ToForm (m + 1) := by
  intro f S vs w hs hbk hr
  obtain ⟨k, nm, n, sc, kids⟩ := f
  obtain ⟨A3, c3, A4, c4, rfl, hb, h3, h4⟩ := hr.form
  have HS : Hid (F.sizes kids ≤ m) := by simp [F.size] at hs; exact hs
  have HK : Hid (F.bulks kids ≤ 1048576) := by simp [F.bulk] at hbk; show _ ≤ _; omega
  have HK2 : Hid (sc.length ≤ 1048576) := by simp [F.bulk] at hbk; show _ ≤ _; omega
  have HN := Lib.hid hb
  have HR3 := Lib.hid h3
  have HR4 := Lib.hid h4
  have HF := Lib.hid hS
  clear hs hbk hr hb h3 h4 hS
  go_enter Tryd.func8, Tryd.ntmps8
  go_wp2_with fail
  refine calls_alloc3 (fun W B0 B1 B2 hz hbw => ?_)
  refine (toIntS_any sc S _ _ _ _ rfl HK2.out (HR3.out.belAll hbw)).mono ?_
  rintro e w1 ⟨v3, rfl, bs3, ho3, hd3, hl3, hb3⟩
  obtain ⟨A3', c3', rfl⟩ := ho3.sl_inv (by omega) (m := sc.length) (by simp)
  have B0' := Lib.hid (blk_bel B0 hb3)
  have B1' := Lib.hid (blk_bel B1 hb3)
  have B2' := Lib.hid (blk_bel B2 hb3)
  have HO3 := Lib.hid ho3
  have HD3 := Lib.hid hd3
  have HL3 : Hid (∀ b, b ∈ bs3 → w.heap.size + 3 ≤ b) := fun b hb => by have := hl3 b hb; omega
  have HB3 := Lib.hid (hbw.trans (hb3.mono (by omega)))
  have hz1 : w.heap.size + 3 ≤ w1.heap.size := by have := hb3.size; omega
  clear ho3 hd3 hl3 hb3 B0 B1 B2 hz hbw
  obtain ⟨r0, q0⟩ := blk_rules B0'.out
  obtain ⟨r2, q2⟩ := blk_rules B2'.out
  go_wp2_with fail
  clear r0 q0 r2 q2
  refine calls_set B2'.out (fun W B2 hoth hz hset _ => ?_)
  have B1 := (hoth _ (by omega)).trans B1'.out
  have hbw := hset w.heap.size (by omega) w HB3.out
  refine (HF.out kids S _ _ _ _ rfl HS.out HK.out (HR4.out.belAll hbw)).mono ?_
  rintro e w2 ⟨v4, rfl, bs4, ho4, hd4, hl4, hb4⟩
  obtain ⟨A4', c4', rfl⟩ := ho4.sl_inv (by omega) (m := kids.length) (F.dss_len _ _)
  have C1 := Lib.hid (blk_bel B1 hb4)
  have C2 := Lib.hid (blk_bel B2 hb4)
  have HO4 := Lib.hid ho4
  have HD4 := Lib.hid hd4
  have HL4 : Hid (∀ b, b ∈ bs4 → w1.heap.size ≤ b) := fun b hb => by have := hl4 b hb; omega
  have HO3' : Hid (Owns w2 [.slice A3' sc.length c3'] [.r 3 1 (sc.map D.i)] bs3) := HO3.out.keep fun b hb => by
    have h1 := HL3.out b hb
    have h2 := HO3.out.lt b hb
    exact (hb4.block b (by omega)).trans (hoth b (by omega))
  have HB4 := Lib.hid (hbw.trans (hb4.mono (by omega)))
  have hz2 : w.heap.size + 3 ≤ w2.heap.size := by have := hb4.size; omega
  clear ho4 hd4 hl4 hb4 B1 B2 hoth hz hbw hset
  obtain ⟨r1, q1⟩ := blk_rules C1.out
  obtain ⟨r2, q2⟩ := blk_rules C2.out
  go_wp2_with fail
  refine bodyPost_ret (v := .agg #[.int .i64 k, .string nm, .int .i64 n, .slice A3' sc.length c3', .slice A4' kids.length c4']) (by simp [results, Tryd.results8, go_sem, r1]) rfl ⟨[.int .i64 k, .string nm, .int .i64 n, .slice A3' sc.length c3', .slice A4' kids.length c4'], rfl, bs3 ++ bs4, ?_, ?_, ?_, ?_⟩
  · have e : F.ds 31 (F.mk k nm n sc kids) = [.i k, .s nm, .i n] ++ ([.r 3 1 (sc.map D.i)] ++ [.r 31 5 (F.dss 31 kids)]) := rfl
    rw [e]
    refine (Owns.append (vs := [.int .i64 k, .string nm, .int .i64 n]) (bs := []) (.int _ (.str _ HN.out (.int _ .nil))) (Owns.append HO3'.out HO4.out)).keep fun b hb => ?_
    rw [List.nil_append] at hb
    have : w.heap.size + 3 ≤ b := by
      rcases List.mem_append.1 hb with hb | hb
      · exact HL3.out b hb
      · have := HL4.out b hb; omega
    simp only [World.setCell, Array.getElem?_modify]
    repeat rw [if_neg (by omega)]
  · exact nodup_app HD3.out HD4.out fun b h3 h4 => by have := HO3.out.lt b h3; have := HL4.out b h4; omega
  · intro b hb
    rcases List.mem_append.1 hb with hb | hb
    · have := HL3.out b hb; omega
    · have := HL4.out b hb; omega
  · exact ((((((HB4.out.setCell (by simp; omega) _).setCell (by simp) _).setCell (by simp) _).setCell (by simp) _).setCell (by simp) _).setCell (by simp) _)
theorem to_any (m : Nat) : ToForm m ∧ ToFormS m := by
  induction m with
  | zero =>
    have h : ToForm 0 := fun f S vs w hs => by cases f; simp [F.size] at hs
    exact ⟨h, toFormS_step 0 h⟩
  | succ m ih =>
    have h := toForm_step m ih.2
    exact ⟨h, toFormS_step (m + 1) h⟩
theorem toForm_any (f : F) (S : Nat → Prop) (vs : List Value) (w : World) (hb : f.bulk ≤ 1048576) (hr : Reads w S vs (f.ds 25)) :
    Calls Tryd.prog 8 #[.agg vs.toArray] w fun e w' => ∃ us, e = .returned (.agg us.toArray) ∧ Made w w' us (f.ds 31) :=
  (to_any f.size).1 f S vs w (Nat.le_refl _) hb hr
end Go.Proofs.YtnooeebefhfjcaaDoor
