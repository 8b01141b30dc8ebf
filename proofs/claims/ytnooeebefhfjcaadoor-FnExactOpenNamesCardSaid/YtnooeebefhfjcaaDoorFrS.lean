/- FreeOf, by both: the free names, each once. -/
import Derived.Test.YtnooeebefhfjcaaDoorEachC
import Derived.Test.YtnooeebefhfjcaaDoorPr
set_option linter.unusedVariables false
set_option linter.unusedSimpArgs false
namespace Go.Proofs.YtnooeebefhfjcaaDoor
open Go Go.RowKit
def frStep (s : List ByteArray) : C → List ByteArray
  | .mk k _ nm _ _ _ _ => if k = 2 ∧ hasS nm s = false then s ++ [nm] else s
theorem frStep_len (s : List ByteArray) (c : C) : (frStep s c).length ≤ s.length + 1 := by
  cases c
  simp only [frStep]
  split <;> simp
mutual
theorem C.wsum_one : ∀ f : C, C.wsum (fun _ => 1) f = f.size
  | .mk k id nm n ids data kids => by have := C.wsums_one kids; simp only [C.wsum, C.size, this]; omega
theorem C.wsums_one : ∀ fs : List C, C.wsums (fun _ => 1) fs = C.sizes fs
  | [] => rfl
  | f :: fs => by have h1 := C.wsum_one f; have h2 := C.wsums_one fs; simp only [C.wsums, C.sizes, h1, h2]
end
def FrS (m : Nat) : Prop := ∀ (c : C) (s : List ByteArray) (v : Value) (bs : List Nat) (B : Nat) (vs : List Value) (w : World), c.size < m → Owns w [v] [.r 9 1 (s.map D.s)] bs → bs.Nodup → (∀ b, b ∈ bs → B ≤ b) → B ≤ w.heap.size → s.length + c.size ≤ 1000000000000 → Reads w (fun b => b < B) vs (c.ds 45 31) →
    Calls Tryd.prog 59 #[v, .agg vs.toArray] w fun e w' => ∃ v' bs', e = .returned v' ∧ Owns w' [v'] [.r 9 1 ((C.fold frStep s c).map D.s)] bs' ∧ bs'.Nodup ∧ (∀ b, b ∈ bs' → b ∈ bs ∨ w.heap.size ≤ b) ∧ Only w w' bs
set_option maxHeartbeats 4000000 in
theorem FrS_step (m : Nat) (ih : FrS m) : FrS (m + 1) := by
  intro cc s v bs B vs w hsz ho hnd hB hBW hw hr
  obtain ⟨k, id, nm, n, ids, data, kids⟩ := cc
  obtain ⟨k1, nm1, n1, sc, fk⟩ := data
  obtain ⟨A4, c4, A8, c8, A9, c9, A6, c6, rfl, hb, hb1, h4, h5, h6⟩ := hr.core'
  obtain ⟨A, c, rfl⟩ := ho.sl_inv (by omega) (m := s.length) (by simp)
  have hm := h6.sl_le.2
  unfold maxLen at hm
  have HR6 := Lib.hid h6
  have HO := Lib.hid ho
  have HD := Lib.hid hnd
  have HLB := Lib.hid hB
  have HBW := Lib.hid hBW
  have HNM := Lib.hid hb
  have HBL := Lib.hid ho.lt
  have HIH := Lib.hid ih
  have HS : Hid (C.sizes kids < m) := by simp [C.size] at hsz; exact hsz
  have HW : Hid (s.length + (C.sizes kids + 1) ≤ 1000000000000) := hw
  clear hr h4 h5 h6 ho hnd hB hBW ih hsz hb hb1 hw
  by_cases hk : k = 2
  · by_cases hh : hasS nm s = true
    · have HST : Hid (frStep s (.mk k id nm n ids (.mk k1 nm1 n1 sc fk) kids) = s) := by show _ = _; simp [frStep, hh]
      have HH := Lib.hid hh
      have hkb : (k == 2) = true := by simpa using hk
      clear hh hk
      go_enter Tryd.func59, Tryd.ntmps59
      go_wp2_with fail
      refine calls_alloc1 (fun W B0 hz hbw => ?_)
      refine (l1In_any s nm _ A s.length c W rfl (HO.out.reads.belAll hbw)).mono ?_
      rintro e w1 ⟨rfl, rfl⟩
      rw [HH.out]
      have HCQ := Lib.hid B0
      have HONQ := Lib.hid (Only.of_below hbw bs)
      have HOQ : Hid (Owns W [.slice A s.length c] [.r 9 1 ((frStep s (.mk k id nm n ids (.mk k1 nm1 n1 sc fk) kids)).map D.s)] bs) := by show Owns _ _ _ _; rw [HST.out]; exact HO.out.bel hbw
      have HDQ := HD
      obtain ⟨bq, hbq⟩ : ∃ bq, bq = bs := ⟨_, rfl⟩
      have HLQ : Hid (∀ b, b ∈ bq → b ∈ bs ∨ w.heap.size + 1 ≤ b) := fun b hb => .inl (hbq ▸ hb)
      rw [← hbq] at HOQ HDQ
      clear B0 hz hbw hbq
      obtain ⟨r0, _⟩ := blk_rules HCQ.out
      go_wp2_with fail
      clear r0
      go_loopw [0, 5] (fun o i wr => ∃ j : Nat, ∃ bsj : List Nat, j ≤ kids.length ∧ i = .int .i64 j ∧ Hid (Owns wr [o] [.r 9 1 ((C.folds frStep (frStep s (.mk k id nm n ids (.mk k1 nm1 n1 sc fk) kids)) (kids.take j)).map D.s)] bsj) ∧ Hid (bsj.Nodup) ∧ Hid (∀ b, b ∈ bsj → b ∈ bs ∨ w.heap.size + 1 ≤ b) ∧ Hid (Only w wr bs) ∧ Hid (wr.heap[w.heap.size]? = some (.cells #[.int .i64 k, .int .i64 id, .string nm, .int .i64 n, .slice A4 ids.length c4, .int .i64 k1, .string nm1, .int .i64 n1, .slice A8 sc.length c8, .slice A9 fk.length c9, .slice A6 kids.length c6] 45 (0, 0)))) (fun _ i _ => kids.length - (intOf i).toNat)
      case atStart => exact ⟨0, bq, Nat.zero_le _, rfl, HOQ.out, HDQ.out, HLQ.out, HONQ.out, HCQ.out⟩
      case round =>
        obtain ⟨j, bsj, hj, rfl, HOj, HDj, HLj, HOnj, HCj⟩ := hrel
        obtain ⟨r0, _⟩ := blk_rules HCj.out
        by_cases hlt : j < kids.length
        · have hrr := HOnj.out.reads HR6.out (fun b hb hm => by have := HLB.out b hm; omega)
          obtain ⟨ad, k', id', nm', n', ids', k1', nm1', n1', sc', fk', ks', A3', c3', A8', c8', A9', c9', A4', c4', hade, hf, hel, hc0, hc1, hc2, hc3, hc4, hc5, hc6, hc7, hc8, hc9, hc10⟩ := hrr.elemC' hlt
          obtain rfl := hade
          have HEL := Lib.hid hel
          have hsz := C.sizes_get kids j hlt
          have HSZ : Hid ((kids[j]'hlt).size < m) := by have := HS.out; show _ < _; omega
          have HWJ : Hid ((C.folds frStep (frStep s (.mk k id nm n ids (.mk k1 nm1 n1 sc fk) kids)) (kids.take j)).length + (kids[j]'hlt).size ≤ 1000000000000) := by
            have h1 := HW.out
            have h2 := C.wsums_take (fun _ => 1) kids j hlt
            have h3 := C.folds_le frStep (fun _ => 1) List.length frStep_len (kids.take j) (frStep s (.mk k id nm n ids (.mk k1 nm1 n1 sc fk) kids))
            have h4 := frStep_len s (.mk k id nm n ids (.mk k1 nm1 n1 sc fk) kids)
            rw [C.wsum_one, C.wsums_one, C.wsums_one] at h2
            rw [C.wsums_one] at h3
            show _ ≤ _
            omega
          clear hel hsz hrr hf
          go_wp2_with fail
          clear r0
          refine (HIH.out _ _ _ bsj B [.int .i64 k', .int .i64 id', .string nm', .int .i64 n', .slice A3' ids'.length c3', .int .i64 k1', .string nm1', .int .i64 n1', .slice A8' sc'.length c8', .slice A9' fk'.length c9', .slice A4' ks'.length c4'] _ HSZ.out HOj.out HDj.out (fun b hb => ?_) (by have := HBW.out; have := HOnj.out.size; omega) HWJ.out HEL.out).mono ?_
          · rcases HLj.out b hb with h | h
            · exact HLB.out b h
            · have := HBW.out; omega
          rintro e w2 ⟨v2, bs2, rfl, ho2, hd2, hl2, hon2⟩
          have HO2 := Lib.hid ho2
          have HD2 := Lib.hid hd2
          have HL2 : Hid (∀ b, b ∈ bs2 → b ∈ bs ∨ w.heap.size + 1 ≤ b) := fun b hb => by
            rcases hl2 b hb with h | h
            · exact HLj.out b h
            · have := blk_lt' HCj.out; exact .inr (by omega)
          have HON2 := Lib.hid (HOnj.out.trans hon2 (fun b hb => (HLj.out b hb).imp (fun h => h) (fun h => by omega)))
          have HC2 := Lib.hid ((hon2.block _ (blk_lt' HCj.out) (fun h => by rcases HLj.out _ h with h | h; (have := HBL.out _ h; omega); omega)).trans HCj.out)
          clear ho2 hd2 hl2 hon2
          go_wp2_with fail
          go_roundw
          case rel => exact ⟨j + 1, bs2, by omega, by go_num, by show Owns _ _ _ _; rw [C.folds_take _ _ _ _ hlt]; exact HO2.out, HD2.out, HL2.out, HON2.out, HC2.out⟩
          case measure => simp [intOf]; omega
        · go_wp2_with fail
          go_ret
          obtain rfl : j = kids.length := by omega
          have h1 := HOj.out
          rw [List.take_length] at h1
          exact ⟨_, bsj, rfl, h1, HDj.out, fun b hb => (HLj.out b hb).imp (fun h => h) (fun h => by omega), HOnj.out⟩
    · have hh' : hasS nm s = false := by simpa using hh
      have HST : Hid (frStep s (.mk k id nm n ids (.mk k1 nm1 n1 sc fk) kids) = s ++ [nm]) := by show _ = _; simp [frStep, hh', hk]
      have HH := Lib.hid hh'
      have hkb : (k == 2) = true := by simpa using hk
      clear hh hh' hk
      go_enter Tryd.func59, Tryd.ntmps59
      go_wp2_with fail
      refine calls_alloc1 (fun W B0 hz hbw => ?_)
      refine (l1In_any s nm _ A s.length c W rfl (HO.out.reads.belAll hbw)).mono ?_
      rintro e w1 ⟨rfl, rfl⟩
      rw [HH.out]
      have HB := Lib.hid hbw
      have HO1 := Lib.hid (HO.out.bel hbw)
      have C0' := Lib.hid B0
      have HZ' := Lib.hid hz
      clear B0 hz hbw
      obtain ⟨r0, _⟩ := blk_rules C0'.out
      go_wp2_with (at_builtin; refine wpList_append1 rfl (.tmp 16) (.tmp 19) 27 9 _ 1 16 rfl Tryd.underlying27 info_str rfl (by omega) (by omega) (.slice A s.length c) s.length _ bs rfl HO1.out (by simp) #[.string nm] [.s nm] [] rfl rfl (.str nm HNM.out .nil) (by rw [List.append_nil]; exact HD.out) (by have := HW.out; omega) ?_; intro v1 w3 bs1 ho1 hn1 hs1 hon1; have HO3 := Lib.hid ho1; have HN3 := Lib.hid hn1; have HS3 := Lib.hid hs1; have HON3 := Lib.hid hon1; have HC3 := Lib.hid ((hon1.block _ (blk_lt' C0'.out) (fun h => by have := HBL.out _ h; omega)).trans C0'.out); clear ho1 hn1 hs1 hon1 r0; obtain ⟨r0, _⟩ := blk_rules HC3.out)
      clear r0
      have HCQ := HC3
      have HONQ := Lib.hid ((Only.of_below HB.out bs).trans HON3.out (fun b hb => .inl hb))
      have HOQ : Hid (Owns w3 [v1] [.r 9 1 ((frStep s (.mk k id nm n ids (.mk k1 nm1 n1 sc fk) kids)).map D.s)] bs1) := by show Owns _ _ _ _; rw [HST.out, List.map_append]; exact HO3.out
      have HDQ := HN3
      have HLQ : Hid (∀ b, b ∈ bs1 → b ∈ bs ∨ w.heap.size + 1 ≤ b) := fun b hb => by
        rcases HS3.out b hb with h | h | h
        · exact .inl h
        · cases h
        · have := HZ'.out; exact .inr (by omega)
      obtain ⟨bq, hbq⟩ : ∃ bq, bq = bs1 := ⟨_, rfl⟩
      rw [← hbq] at HOQ HDQ HLQ
      clear HS3 HN3 HO3 HON3 HC3 HO1 hbq
      go_loopw [0, 5] (fun o i wr => ∃ j : Nat, ∃ bsj : List Nat, j ≤ kids.length ∧ i = .int .i64 j ∧ Hid (Owns wr [o] [.r 9 1 ((C.folds frStep (frStep s (.mk k id nm n ids (.mk k1 nm1 n1 sc fk) kids)) (kids.take j)).map D.s)] bsj) ∧ Hid (bsj.Nodup) ∧ Hid (∀ b, b ∈ bsj → b ∈ bs ∨ w.heap.size + 1 ≤ b) ∧ Hid (Only w wr bs) ∧ Hid (wr.heap[w.heap.size]? = some (.cells #[.int .i64 k, .int .i64 id, .string nm, .int .i64 n, .slice A4 ids.length c4, .int .i64 k1, .string nm1, .int .i64 n1, .slice A8 sc.length c8, .slice A9 fk.length c9, .slice A6 kids.length c6] 45 (0, 0)))) (fun _ i _ => kids.length - (intOf i).toNat)
      case atStart => exact ⟨0, bq, Nat.zero_le _, rfl, HOQ.out, HDQ.out, HLQ.out, HONQ.out, HCQ.out⟩
      case round =>
        obtain ⟨j, bsj, hj, rfl, HOj, HDj, HLj, HOnj, HCj⟩ := hrel
        obtain ⟨r0, _⟩ := blk_rules HCj.out
        by_cases hlt : j < kids.length
        · have hrr := HOnj.out.reads HR6.out (fun b hb hm => by have := HLB.out b hm; omega)
          obtain ⟨ad, k', id', nm', n', ids', k1', nm1', n1', sc', fk', ks', A3', c3', A8', c8', A9', c9', A4', c4', hade, hf, hel, hc0, hc1, hc2, hc3, hc4, hc5, hc6, hc7, hc8, hc9, hc10⟩ := hrr.elemC' hlt
          obtain rfl := hade
          have HEL := Lib.hid hel
          have hsz := C.sizes_get kids j hlt
          have HSZ : Hid ((kids[j]'hlt).size < m) := by have := HS.out; show _ < _; omega
          have HWJ : Hid ((C.folds frStep (frStep s (.mk k id nm n ids (.mk k1 nm1 n1 sc fk) kids)) (kids.take j)).length + (kids[j]'hlt).size ≤ 1000000000000) := by
            have h1 := HW.out
            have h2 := C.wsums_take (fun _ => 1) kids j hlt
            have h3 := C.folds_le frStep (fun _ => 1) List.length frStep_len (kids.take j) (frStep s (.mk k id nm n ids (.mk k1 nm1 n1 sc fk) kids))
            have h4 := frStep_len s (.mk k id nm n ids (.mk k1 nm1 n1 sc fk) kids)
            rw [C.wsum_one, C.wsums_one, C.wsums_one] at h2
            rw [C.wsums_one] at h3
            show _ ≤ _
            omega
          clear hel hsz hrr hf
          go_wp2_with fail
          clear r0
          refine (HIH.out _ _ _ bsj B [.int .i64 k', .int .i64 id', .string nm', .int .i64 n', .slice A3' ids'.length c3', .int .i64 k1', .string nm1', .int .i64 n1', .slice A8' sc'.length c8', .slice A9' fk'.length c9', .slice A4' ks'.length c4'] _ HSZ.out HOj.out HDj.out (fun b hb => ?_) (by have := HBW.out; have := HOnj.out.size; omega) HWJ.out HEL.out).mono ?_
          · rcases HLj.out b hb with h | h
            · exact HLB.out b h
            · have := HBW.out; omega
          rintro e w2 ⟨v2, bs2, rfl, ho2, hd2, hl2, hon2⟩
          have HO2 := Lib.hid ho2
          have HD2 := Lib.hid hd2
          have HL2 : Hid (∀ b, b ∈ bs2 → b ∈ bs ∨ w.heap.size + 1 ≤ b) := fun b hb => by
            rcases hl2 b hb with h | h
            · exact HLj.out b h
            · have := blk_lt' HCj.out; exact .inr (by omega)
          have HON2 := Lib.hid (HOnj.out.trans hon2 (fun b hb => (HLj.out b hb).imp (fun h => h) (fun h => by omega)))
          have HC2 := Lib.hid ((hon2.block _ (blk_lt' HCj.out) (fun h => by rcases HLj.out _ h with h | h; (have := HBL.out _ h; omega); omega)).trans HCj.out)
          clear ho2 hd2 hl2 hon2
          go_wp2_with fail
          go_roundw
          case rel => exact ⟨j + 1, bs2, by omega, by go_num, by show Owns _ _ _ _; rw [C.folds_take _ _ _ _ hlt]; exact HO2.out, HD2.out, HL2.out, HON2.out, HC2.out⟩
          case measure => simp [intOf]; omega
        · go_wp2_with fail
          go_ret
          obtain rfl : j = kids.length := by omega
          have h1 := HOj.out
          rw [List.take_length] at h1
          exact ⟨_, bsj, rfl, h1, HDj.out, fun b hb => (HLj.out b hb).imp (fun h => h) (fun h => by omega), HOnj.out⟩
  · have HST : Hid (frStep s (.mk k id nm n ids (.mk k1 nm1 n1 sc fk) kids) = s) := by show _ = _; simp [frStep, hk]
    have hkb : (k == 2) = false := by simpa using hk
    clear hk
    go_enter Tryd.func59, Tryd.ntmps59
    go_wp2_with fail
    obtain ⟨W, hwq⟩ : ∃ W, w.alloc (.cells #[.int .i64 k, .int .i64 id, .string nm, .int .i64 n, .slice A4 ids.length c4, .int .i64 k1, .string nm1, .int .i64 n1, .slice A8 sc.length c8, .slice A9 fk.length c9, .slice A6 kids.length c6] 45) = W := ⟨_, rfl⟩
    rw [hwq]
    have hbw : Below w.heap.size w W := by rw [← hwq]; exact (Below.refl _ _).alloc (Nat.le_refl _) _
    have HCQ : Hid (W.heap[w.heap.size]? = some (.cells #[.int .i64 k, .int .i64 id, .string nm, .int .i64 n, .slice A4 ids.length c4, .int .i64 k1, .string nm1, .int .i64 n1, .slice A8 sc.length c8, .slice A9 fk.length c9, .slice A6 kids.length c6] 45 (0, 0))) := by rw [← hwq]; exact blk_new _ _
    have HONQ := Lib.hid (Only.of_below hbw bs)
    have HOQ : Hid (Owns W [.slice A s.length c] [.r 9 1 ((frStep s (.mk k id nm n ids (.mk k1 nm1 n1 sc fk) kids)).map D.s)] bs) := by show Owns _ _ _ _; rw [HST.out]; exact HO.out.bel hbw
    have HDQ := HD
    obtain ⟨bq, hbq⟩ : ∃ bq, bq = bs := ⟨_, rfl⟩
    have HLQ : Hid (∀ b, b ∈ bq → b ∈ bs ∨ w.heap.size + 1 ≤ b) := fun b hb => .inl (hbq ▸ hb)
    rw [← hbq] at HOQ HDQ
    clear hwq hbw hbq
    go_loopw [0, 5] (fun o i wr => ∃ j : Nat, ∃ bsj : List Nat, j ≤ kids.length ∧ i = .int .i64 j ∧ Hid (Owns wr [o] [.r 9 1 ((C.folds frStep (frStep s (.mk k id nm n ids (.mk k1 nm1 n1 sc fk) kids)) (kids.take j)).map D.s)] bsj) ∧ Hid (bsj.Nodup) ∧ Hid (∀ b, b ∈ bsj → b ∈ bs ∨ w.heap.size + 1 ≤ b) ∧ Hid (Only w wr bs) ∧ Hid (wr.heap[w.heap.size]? = some (.cells #[.int .i64 k, .int .i64 id, .string nm, .int .i64 n, .slice A4 ids.length c4, .int .i64 k1, .string nm1, .int .i64 n1, .slice A8 sc.length c8, .slice A9 fk.length c9, .slice A6 kids.length c6] 45 (0, 0)))) (fun _ i _ => kids.length - (intOf i).toNat)
    case atStart => exact ⟨0, bq, Nat.zero_le _, rfl, HOQ.out, HDQ.out, HLQ.out, HONQ.out, HCQ.out⟩
    case round =>
      obtain ⟨j, bsj, hj, rfl, HOj, HDj, HLj, HOnj, HCj⟩ := hrel
      obtain ⟨r0, _⟩ := blk_rules HCj.out
      by_cases hlt : j < kids.length
      · have hrr := HOnj.out.reads HR6.out (fun b hb hm => by have := HLB.out b hm; omega)
        obtain ⟨ad, k', id', nm', n', ids', k1', nm1', n1', sc', fk', ks', A3', c3', A8', c8', A9', c9', A4', c4', hade, hf, hel, hc0, hc1, hc2, hc3, hc4, hc5, hc6, hc7, hc8, hc9, hc10⟩ := hrr.elemC' hlt
        obtain rfl := hade
        have HEL := Lib.hid hel
        have hsz := C.sizes_get kids j hlt
        have HSZ : Hid ((kids[j]'hlt).size < m) := by have := HS.out; show _ < _; omega
        have HWJ : Hid ((C.folds frStep (frStep s (.mk k id nm n ids (.mk k1 nm1 n1 sc fk) kids)) (kids.take j)).length + (kids[j]'hlt).size ≤ 1000000000000) := by
          have h1 := HW.out
          have h2 := C.wsums_take (fun _ => 1) kids j hlt
          have h3 := C.folds_le frStep (fun _ => 1) List.length frStep_len (kids.take j) (frStep s (.mk k id nm n ids (.mk k1 nm1 n1 sc fk) kids))
          have h4 := frStep_len s (.mk k id nm n ids (.mk k1 nm1 n1 sc fk) kids)
          rw [C.wsum_one, C.wsums_one, C.wsums_one] at h2
          rw [C.wsums_one] at h3
          show _ ≤ _
          omega
        clear hel hsz hrr hf
        go_wp2_with fail
        clear r0
        refine (HIH.out _ _ _ bsj B [.int .i64 k', .int .i64 id', .string nm', .int .i64 n', .slice A3' ids'.length c3', .int .i64 k1', .string nm1', .int .i64 n1', .slice A8' sc'.length c8', .slice A9' fk'.length c9', .slice A4' ks'.length c4'] _ HSZ.out HOj.out HDj.out (fun b hb => ?_) (by have := HBW.out; have := HOnj.out.size; omega) HWJ.out HEL.out).mono ?_
        · rcases HLj.out b hb with h | h
          · exact HLB.out b h
          · have := HBW.out; omega
        rintro e w2 ⟨v2, bs2, rfl, ho2, hd2, hl2, hon2⟩
        have HO2 := Lib.hid ho2
        have HD2 := Lib.hid hd2
        have HL2 : Hid (∀ b, b ∈ bs2 → b ∈ bs ∨ w.heap.size + 1 ≤ b) := fun b hb => by
          rcases hl2 b hb with h | h
          · exact HLj.out b h
          · have := blk_lt' HCj.out; exact .inr (by omega)
        have HON2 := Lib.hid (HOnj.out.trans hon2 (fun b hb => (HLj.out b hb).imp (fun h => h) (fun h => by omega)))
        have HC2 := Lib.hid ((hon2.block _ (blk_lt' HCj.out) (fun h => by rcases HLj.out _ h with h | h; (have := HBL.out _ h; omega); omega)).trans HCj.out)
        clear ho2 hd2 hl2 hon2
        go_wp2_with fail
        go_roundw
        case rel => exact ⟨j + 1, bs2, by omega, by go_num, by show Owns _ _ _ _; rw [C.folds_take _ _ _ _ hlt]; exact HO2.out, HD2.out, HL2.out, HON2.out, HC2.out⟩
        case measure => simp [intOf]; omega
      · go_wp2_with fail
        go_ret
        obtain rfl : j = kids.length := by omega
        have h1 := HOj.out
        rw [List.take_length] at h1
        exact ⟨_, bsj, rfl, h1, HDj.out, fun b hb => (HLj.out b hb).imp (fun h => h) (fun h => by omega), HOnj.out⟩
theorem FrS_any (m : Nat) : FrS m := by
  induction m with
  | zero => intro c s v bs B vs w hs; omega
  | succ m ih => exact FrS_step m ih
end Go.Proofs.YtnooeebefhfjcaaDoor
