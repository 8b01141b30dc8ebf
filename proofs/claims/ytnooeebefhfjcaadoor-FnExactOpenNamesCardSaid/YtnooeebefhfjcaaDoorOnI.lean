/- OpenNames, by both. -/
import Derived.Test.YtnooeebefhfjcaaDoorFrI
import Derived.Test.YtnooeebefhfjcaaDoorSlG
set_option linter.unusedVariables false
set_option linter.unusedSimpArgs false
namespace Go.Proofs.YtnooeebefhfjcaaDoor
open Go Go.RowKit
def C.free (c : C) : List ByteArray := C.fold frStep [] c
def C.opn (c : C) : List ByteArray := c.free.filter fun x => !hasS x primNames
theorem C.free_len (c : C) : c.free.length ≤ c.size := by
  have := C.fold_le frStep (fun _ => 1) List.length frStep_len c []
  rw [C.wsum_one] at this
  simpa [C.free] using this
theorem C.opn_len (c : C) : c.opn.length ≤ c.size := Nat.le_trans (List.length_filter_le _ _) c.free_len
set_option maxHeartbeats 1000000 in
theorem implFree_any (c : C) (S : Nat → Prop) (vs : List Value) (w : World) (hsz : c.size ≤ 1000000000000) (hr : Reads w S vs (c.ds 45 31)) :
    Calls Tryd.prog 50 #[.agg vs.toArray] w fun e w' => ∃ v, e = .returned v ∧ Made w w' [v] [.r 9 1 (c.free.map D.s)] := by
  have hl := hr.len
  rw [C.ds_len] at hl
  match vs, hl with
  | [x0, x1, x2, x3, x4, x5, x6, x7, x8, x9, x10], _ =>
  have HR := Lib.hid hr.lt
  clear hr
  go_enter Tryd.func50, Tryd.ntmps50
  go_wp2_with fail
  refine calls_alloc1 (fun W B0 hz hbw => ?_)
  refine (FrI_any (c.size + 1) c [] (.slice none 0 0) [] w.heap.size [x0, x1, x2, x3, x4, x5, x6, x7, x8, x9, x10] W (by omega) (.zero _ _ .nil) (by simp) (by intro b hb; cases hb) (by omega) (by simpa using hsz) (HR.out.belAll hbw)).mono ?_
  rintro e w1 ⟨v, bs, rfl, ho, hd, hl, hon⟩
  have HO := Lib.hid ho
  have HD := Lib.hid hd
  have HL : Hid (∀ b, b ∈ bs → w.heap.size ≤ b) := fun b hb => by
    rcases hl b hb with h | h
    · cases h
    · omega
  have HB := Lib.hid (hon.toBelow hbw (by omega) (by intro b hb; cases hb))
  clear ho hd hl hon B0 hz hbw
  go_wp2_with fail
  go_ret
  exact ⟨v, rfl, bs, HO.out, HD.out, HL.out, HB.out⟩
set_option maxHeartbeats 1000000 in
theorem specFree_any (c : C) (S : Nat → Prop) (vs : List Value) (w : World) (hsz : c.size ≤ 1000000000000) (hr : Reads w S vs (c.ds 45 31)) :
    Calls Tryd.prog 47 #[.agg vs.toArray] w fun e w' => ∃ v, e = .returned v ∧ Made w w' [v] [.r 9 1 (c.free.map D.s)] := by
  have hl := hr.len
  rw [C.ds_len] at hl
  match vs, hl with
  | [x0, x1, x2, x3, x4, x5, x6, x7, x8, x9, x10], _ =>
  have HR := Lib.hid hr.lt
  clear hr
  go_enter Tryd.func47, Tryd.ntmps47
  go_wp2_with fail
  refine calls_alloc2 (fun W B0 B1 hz hbw => ?_)
  refine (FrS_any (c.size + 1) c [] _ [w.heap.size + 1] w.heap.size [x0, x1, x2, x3, x4, x5, x6, x7, x8, x9, x10] W (by omega) (Owns.row_mk (ds := []) B1 (Nat.le_refl 0) (by unfold maxLen; omega) rfl .nil) (by simp) (by intro b hb; simp at hb; omega) (by omega) (by simpa using hsz) (HR.out.belAll hbw)).mono ?_
  rintro e w1 ⟨v, bs, rfl, ho, hd, hl, hon⟩
  have HO := Lib.hid ho
  have HD := Lib.hid hd
  have HL : Hid (∀ b, b ∈ bs → w.heap.size ≤ b) := fun b hb => by
    rcases hl b hb with h | h
    · simp at h; omega
    · omega
  have HB := Lib.hid (hon.toBelow hbw (by omega) (by intro b hb; simp at hb; omega))
  clear ho hd hl hon B0 B1 hz hbw
  go_wp2_with fail
  go_ret
  exact ⟨v, rfl, bs, HO.out, HD.out, HL.out, HB.out⟩
set_option maxHeartbeats 400000 in
theorem open1_any (s : ByteArray) (w : World) (hp : PrimLaid w) :
    Calls Tryd.prog 51 #[.string s] w fun e w' => e = .returned (.bool (hasS s primNames)) ∧ Below w.heap.size w w' := by
  have HP := Lib.hid hp
  clear hp
  go_enter Tryd.func51, Tryd.ntmps51
  go_wp2_with fail
  refine (containsS_any primNames s _ _ 6 6 w rfl HP.out).mono ?_
  rintro e w1 ⟨rfl, rfl⟩
  go_wp2_with fail
  go_ret
  exact ⟨rfl, Below.refl _ _⟩
set_option maxHeartbeats 1000000 in
theorem implOpen_any (c : C) (S : Nat → Prop) (vs : List Value) (w : World) (hsz : c.size ≤ 1000000000000) (hr : Reads w S vs (c.ds 45 31)) (hp : PrimLaid w) (hgl : 0 < w.heap.size) :
    Calls Tryd.prog 25 #[.agg vs.toArray] w fun e w' => ∃ v, e = .returned v ∧ Made w w' [v] [.r 9 1 (c.opn.map D.s)] := by
  have hl := hr.len
  rw [C.ds_len] at hl
  match vs, hl with
  | [x0, x1, x2, x3, x4, x5, x6, x7, x8, x9, x10], _ =>
  have HR := Lib.hid hr
  have HP := Lib.hid hp
  clear hr hp
  go_enter Tryd.func25, Tryd.ntmps25
  go_wp2_with fail
  refine calls_alloc1 (fun W B0 hz hbw => ?_)
  refine (implFree_any c S [x0, x1, x2, x3, x4, x5, x6, x7, x8, x9, x10] W hsz (HR.out.belAll hbw)).mono ?_
  rintro e w1 ⟨v, rfl, bn, hon, hnn, hln, hb1⟩
  have HON := Lib.hid hon
  have HNN := Lib.hid hnn
  have HLN : Hid (∀ b, b ∈ bn → w.heap.size + 1 ≤ b) := fun b hb => by have := hln b hb; omega
  have HB1 := Lib.hid (hbw.trans (hb1.mono (by omega)))
  clear hon hnn hln hb1 B0 hz hbw
  go_wp2_with fail
  refine (deleteFuncG_any 51 #[] (fun s => hasS s primNames) PrimLaid (fun s W hW => open1_any s W hW) (fun s W => by kernel_rfl) c.free v bn w1
    (fun W W' hW hon => hW.only hon (fun h => by have := HLN.out _ h; omega)) HON.out (HP.out.belAll HB1.out)).mono ?_
  rintro e w2 ⟨u, rfl, hou, hon2⟩
  have HOU := Lib.hid hou
  have HON2 := Lib.hid hon2
  clear hou hon2
  go_wp2_with fail
  go_ret
  exact ⟨u, rfl, bn, HOU.out, HNN.out, fun b hb => by have := HLN.out b hb; omega, HON2.out.toBelow HB1.out HB1.out.size (fun b hb => by have := HLN.out b hb; omega)⟩
set_option maxHeartbeats 2000000 in
theorem specOpen_any (c : C) (S : Nat → Prop) (vs : List Value) (w : World) (hsz : c.size ≤ 1000000000000) (hr : Reads w S vs (c.ds 45 31)) :
    Calls Tryd.prog 24 #[.agg vs.toArray] w fun e w' => ∃ v, e = .returned v ∧ Made w w' [v] [.r 9 1 (c.opn.map D.s)] := by
  have hl := hr.len
  rw [C.ds_len] at hl
  match vs, hl with
  | [x0, x1, x2, x3, x4, x5, x6, x7, x8, x9, x10], _ =>
  have HR := Lib.hid hr
  have HSZ := Lib.hid hsz
  have hfl : c.free.length ≤ 1000000000000 := by have := c.free_len; omega
  clear hr hsz
  go_enter Tryd.func24, Tryd.ntmps24
  go_wp2_with fail
  refine calls_alloc2 (fun W B0 B1 hz hbw => ?_)
  refine (specFree_any c S [x0, x1, x2, x3, x4, x5, x6, x7, x8, x9, x10] W HSZ.out (HR.out.belAll hbw)).mono ?_
  rintro e w1 ⟨vn, rfl, bsn, hon, hnn, hln, hb1⟩
  obtain ⟨An, cn, rfl⟩ := hon.sl_inv (by omega) (m := c.free.length) (by simp)
  have C1 := Lib.hid (blk_bel B1 hb1)
  have HON := Lib.hid hon
  have HNN := Lib.hid hnn
  have HLN : Hid (∀ b, b ∈ bsn → w.heap.size + 2 ≤ b) := fun b hb => by have := hln b hb; omega
  have HB1 := Lib.hid (hbw.trans (hb1.mono (by omega)))
  clear hon hnn hln hb1 B0 B1 hz hbw
  go_wp2_with fail
  go_loopw [3, 5] (fun o i wr => ∃ j : Nat, ∃ bso : List Nat, j ≤ c.free.length ∧ i = .int .i64 j ∧ Hid (Owns wr [o] [.r 9 1 (((c.free.take j).filter fun x => !hasS x primNames).map D.s)] bso) ∧ Hid (Owns wr [.slice An c.free.length cn] [.r 9 1 (c.free.map D.s)] bsn) ∧ Hid ((bso ++ bsn).Nodup) ∧ Hid (∀ b, b ∈ bso → w.heap.size ≤ b) ∧ Hid (Below w.heap.size w wr)) (fun _ i _ => c.free.length - (intOf i).toNat)
  case atStart => exact ⟨0, [w.heap.size + 1], by omega, rfl, Owns.row_mk (ds := []) C1.out (Nat.le_refl 0) (by unfold maxLen; omega) rfl .nil, HON.out, List.nodup_cons.2 ⟨fun h => by have := HLN.out _ h; omega, HNN.out⟩, (fun b hb => by simp at hb; omega), HB1.out⟩
  case round =>
    obtain ⟨j, bso, hj, rfl, HO, HN, HD, HL, HB⟩ := hrel
    by_cases hlt : j < c.free.length
    · obtain ⟨ad, hade, hc0, hns⟩ := HN.out.reads.elemS hlt
      obtain rfl := hade
      obtain ⟨nm, hnm⟩ : ∃ nm, c.free[j]'hlt = nm := ⟨_, rfl⟩
      rw [hnm] at hc0 hns
      have hflt : (c.free.take (j + 1)).filter (fun x => !hasS x primNames) = (c.free.take j).filter (fun x => !hasS x primNames) ++ if hasS nm primNames = true then [] else [nm] := by
        rw [List.take_succ_eq_append_getElem hlt, List.filter_append, hnm]
        by_cases hx : hasS nm primNames = true <;> simp [List.filter_cons, hx]
      have HFL := Lib.hid hflt
      have HNS := Lib.hid hns
      have hlen : Hid (((c.free.take j).filter fun x => !hasS x primNames).length ≤ 1000000000000) := Nat.le_trans (List.length_filter_le _ _) (by simp; omega)
      have hpb : hasS nm specPrims = hasS nm primNames := hasS_prims nm
      have HPB := Lib.hid hpb
      have HC0 := Lib.hid hc0
      clear hnm hns hflt hpb
      by_cases hh : hasS nm primNames = true
      · have HH := Lib.hid (HPB.out.trans hh)
        have HHp := Lib.hid hh
        clear hh
        go_wp2_with fail
        go_region_with (first | (go_at_call 49; refine (l8Prims_any _).mono ?_; rintro e w2 ⟨gp, rfl, hop, hlp, hbp⟩; have HOP := Lib.hid hop; have HBP := Lib.hid (show Below wr.heap.size wr w2 from (Below.refl _ _).drew.trans hbp); clear hop hlp hbp; have hc2 := World.cell_bel HBP.out HC0.out) | (go_at_call 48; refine (l1In_any specPrims nm _ _ 6 6 _ rfl HOP.out.reads).mono ?_; rintro e w3 ⟨rfl, rfl⟩; rw [HH.out]))
        go_wp2_with fail
        all_goals
          go_roundw
          case rel =>
            refine ⟨j + 1, bso, by omega, by go_num, ?_, HN.out.bel HBP.out, HD.out, HL.out, HB.out.trans (HBP.out.mono HB.out.size)⟩
            show Owns _ _ _ _
            rw [HFL.out, if_pos HHp.out, List.append_nil]
            exact HO.out.bel HBP.out
          case measure => simp [intOf]; omega
      · have HH := Lib.hid (HPB.out.trans (show hasS nm primNames = false by simpa using hh))
        have HHp := Lib.hid hh
        clear hh
        go_wp2_with fail
        go_region_with (first | (go_at_call 49; refine (l8Prims_any _).mono ?_; rintro e w2 ⟨gp, rfl, hop, hlp, hbp⟩; have HOP := Lib.hid hop; have HBP := Lib.hid (show Below wr.heap.size wr w2 from (Below.refl _ _).drew.trans hbp); clear hop hlp hbp; have hc2 := World.cell_bel HBP.out HC0.out) | (go_at_call 48; refine (l1In_any specPrims nm _ _ 6 6 _ rfl HOP.out.reads).mono ?_; rintro e w3 ⟨rfl, rfl⟩; rw [HH.out]))
        all_goals
          have HO2 := Lib.hid (HO.out.bel HBP.out)
          have HN2 := Lib.hid (HN.out.bel HBP.out)
          have HB3 := Lib.hid (HB.out.trans (HBP.out.mono HB.out.size))
          have hzz : w.heap.size ≤ w2.heap.size := HB3.out.size
          go_wp2_with (at_builtin; refine wpList_append1 rfl (.tmp 22) (.tmp 27) 27 9 _ 1 16 rfl Tryd.underlying27 info_str rfl (by omega) (by omega) u3 ((c.free.take j).filter fun x => !hasS x primNames).length _ bso rfl HO2.out (by simp) #[.string nm] [.s nm] [] rfl rfl (.str nm HNS.out .nil) (by rw [List.append_nil]; exact (List.nodup_append.1 HD.out).1) (by have := hlen.out; omega) ?_; intro v1 w3 bs1 ho1 hn1 hs1 hon1; have HO3 := Lib.hid ho1; have HN3 := Lib.hid hn1; have HS3 := Lib.hid hs1; have HON3 := Lib.hid hon1; clear ho1 hn1 hs1 hon1)
          go_roundw
          case rel =>
            refine ⟨j + 1, bs1, by omega, by go_num, ?_, ?_, ?_, ?_, ?_⟩
            · show Owns _ _ _ _
              rw [HFL.out, if_neg HHp.out, List.map_append]
              exact HO3.out
            · exact HON3.out.owns HN2.out (fun b hb hb' => (List.nodup_append.1 HD.out).2.2 b hb' b hb rfl)
            · refine nodup_app HN3.out (List.nodup_append.1 HD.out).2.1 (fun b h1 h2 => ?_)
              rcases HS3.out b h1 with h | h | h
              · exact (List.nodup_append.1 HD.out).2.2 b h b h2 rfl
              · cases h
              · have := HN2.out.lt b h2; omega
            · intro b hb
              rcases HS3.out b hb with h | h | h
              · exact HL.out b h
              · cases h
              · have := HBP.out.size; have := HB.out.size; omega
            · exact HON3.out.toBelow HB3.out HB3.out.size (fun b hb => by have := HL.out b hb; omega)
          case measure => simp [intOf]; omega
    · go_wp2_with fail
      go_ret
      obtain rfl : j = c.free.length := by omega
      have h1 := HO.out
      rw [List.take_length] at h1
      exact ⟨_, rfl, bso, h1, (List.nodup_append.1 HD.out).1, fun b hb => by have := HL.out b hb; omega, HB.out⟩
end Go.Proofs.YtnooeebefhfjcaaDoor
