/- The reference's CountName, l11Names, l11Needed, NeededMacros. -/
import Derived.Test.YtnooeebefhfjcaaDoorAp
import Derived.Test.YtnooeebefhfjcaaDoorEqS
set_option linter.unusedVariables false
set_option linter.unusedSimpArgs false
namespace Go.Proofs.YtnooeebefhfjcaaDoor
open Go Go.RowKit
theorem info_str : (Tryd.prog.info? 9).map (fun i => (i.zero, i.size, i.bytes)) = some (some (.string ⟨#[]⟩), 1, 16) := by kernel_rfl
theorem byte_inj {a b : ByteArray} (h : a.data.toList = b.data.toList) : a = b := ByteArray.ext (Array.toList_inj.1 h)
theorem bytes_eq (a b : ByteArray) : (a.toList == b.toList) = decide (a = b) := by
  rw [Bool.eq_iff_iff]
  simp only [beq_iff_eq, decide_eq_true_eq]
  exact ⟨fun h => byte_inj (by rwa [Go.ByteArray.toList_eq, Go.ByteArray.toList_eq] at h), fun h => by rw [h]⟩
mutual
/-- How many names of a form are s. -/
def F.count (s : ByteArray) : F → Nat
  | .mk k nm _ _ kids => (if k = 1 ∧ nm = s then 1 else 0) + F.counts s kids
def F.counts (s : ByteArray) : List F → Nat
  | [] => 0
  | f :: fs => f.count s + F.counts s fs
end
mutual
theorem F.count_le (s : ByteArray) : ∀ f : F, f.count s ≤ f.size
  | .mk k nm _ _ kids => by have := F.counts_le s kids; simp only [F.count, F.size]; split <;> omega
theorem F.counts_le (s : ByteArray) : ∀ fs : List F, F.counts s fs ≤ F.sizes fs
  | [] => by simp [F.counts]
  | f :: fs => by have := F.count_le s f; have := F.counts_le s fs; simp only [F.counts, F.sizes]; omega
end
theorem F.counts_take_succ (s : ByteArray) (fs : List F) (j : Nat) (h : j < fs.length) : F.counts s (fs.take (j + 1)) = F.counts s (fs.take j) + (fs[j]'h).count s := by
  induction fs generalizing j with
  | nil => simp at h
  | cons f fs ih =>
    cases j with
    | zero => simp [F.counts]
    | succ j => simp [F.counts, ih j (by simpa using h)]; omega
theorem F.sizes_take_le (fs : List F) (j : Nat) : F.sizes (fs.take j) ≤ F.sizes fs := by
  induction fs generalizing j with
  | nil => simp
  | cons f fs ih =>
    cases j with
    | zero => simp [F.sizes]
    | succ j => have := ih j; simp [F.sizes]; omega
def CountName (m : Nat) : Prop := ∀ (f : F) (s : ByteArray) (S : Nat → Prop) (vs : List Value) (w : World), f.size < m → f.size ≤ 1000000000000 → Reads w S vs (f.ds 31) →
    Calls Tryd.prog 53 #[.agg vs.toArray, .string s] w fun e w' => e = .returned (.int .i64 (f.count s)) ∧ Below w.heap.size w w'
set_option maxHeartbeats 2000000 in
theorem countName_step (m : Nat) (ih : CountName m) : CountName (m + 1) := by
  intro f s S vs w hs hb hr
  obtain ⟨k, nm, n, sc, kids⟩ := f
  obtain ⟨A3, c3, A4, c4, rfl, hnm, h3, h4⟩ := hr.form
  have hm := h4.sl_le.2
  unfold maxLen at hm
  have HR := Lib.hid h4
  have HI := Lib.hid ih
  have HS : Hid (F.sizes kids < m ∧ F.sizes kids ≤ 1000000000000) := by simp [F.size] at hs hb; exact ⟨hs, by omega⟩
  have HC : ∀ c0 : Nat, c0 = (if k = 1 ∧ nm = s then 1 else 0) → Hid (F.count s (.mk k nm n sc kids) = c0 + F.counts s kids) := fun c0 h => by show _ = _; rw [h]; simp [F.count]
  have hz : (k == 1) = true ∧ (nm.toList == s.toList) = true ∧ Hid (F.count s (.mk k nm n sc kids) = 1 + F.counts s kids) ∨
      ((k == 1) = true ∧ (nm.toList == s.toList) = false ∨ (k == 1) = false ∧ True) ∧ Hid (F.count s (.mk k nm n sc kids) = 0 + F.counts s kids) := by
    by_cases hk : k = 1
    · by_cases hn : nm = s
      · exact .inl ⟨by simpa using hk, by rw [bytes_eq]; simpa using hn, HC 1 (by simp [hk, hn])⟩
      · exact .inr ⟨.inl ⟨by simpa using hk, by rw [bytes_eq]; simpa using hn⟩, HC 0 (by simp [hn])⟩
    · exact .inr ⟨.inr ⟨by simpa using hk, trivial⟩, HC 0 (by simp [hk])⟩
  clear hs hb hr hnm h3 h4 ih HC
  rcases hz with ⟨hkb, hnb, HC⟩ | ⟨⟨hkb, hnb⟩ | ⟨hkb, hnb⟩, HC⟩
  all_goals
    go_enter Tryd.func53, Tryd.ntmps53
    go_wp2_with fail
    clear hkb hnb
    go_loopw [5, 6] (fun q i wr => ∃ j : Nat, ∃ p : Int, j ≤ kids.length ∧ i = .int .i64 j ∧ q = .int .i64 p ∧ 0 ≤ p ∧ p ≤ 2000000000000 ∧ Hid (p + F.counts s kids = F.count s (.mk k nm n sc kids) + F.counts s (kids.take j)) ∧ Hid (wr.heap[w.heap.size]? = some (.cells #[.int .i64 k, .string nm, .int .i64 n, .slice A3 sc.length c3, .slice A4 kids.length c4] 31 (0, 0))) ∧ Hid (Below w.heap.size w wr)) (fun _ i _ => kids.length - (intOf i).toNat)
    case atStart => exact ⟨0, _, Nat.zero_le _, rfl, rfl, by omega, by omega, by have := HC.out; show _ = _; rw [this]; simp [F.counts], blk_new _ _, (Below.refl _ _).alloc (Nat.le_refl _) _⟩
    case round =>
      obtain ⟨j, p, hj, rfl, rfl, hp0, hp1, HP, HG, HB⟩ := hrel
      obtain ⟨r0, _⟩ := blk_rules HG.out
      by_cases hlt : j < kids.length
      · obtain ⟨ad, v0, v1, v2, v3, v4, rfl, hel, hc0, hc1, hc2, hc3, hc4⟩ := Reads.elemF (HR.out.belAll HB.out) hlt
        have HEL := Lib.hid hel
        have hsz := F.sizes_get kids j hlt
        have HSZ : Hid ((kids[j]'hlt).size < m ∧ (kids[j]'hlt).size ≤ 1000000000000) := ⟨by have := HS.out.1; omega, by have := HS.out.2; omega⟩
        clear hel hsz
        go_wp2_with fail
        refine (HI.out _ s S _ _ HSZ.out.1 HSZ.out.2 HEL.out).mono ?_
        rintro e w2 ⟨rfl, hb2⟩
        have HB2 := Lib.hid hb2
        have HG2 := Lib.hid (blk_bel HG.out hb2)
        have hcl := F.count_le s (kids[j]'hlt)
        have hct : (((kids[j]'hlt).count s : Nat) : Int) ≤ 1000000000000 := by have := HSZ.out.2; omega
        clear hb2 r0 hcl
        go_wp2_with fail
        go_roundw
        case rel =>
          refine ⟨j + 1, _, by omega, by go_num, rfl, by omega, ?_, ?_, HG2.out, HB.out.trans (HB2.out.mono HB.out.size)⟩
          all_goals
            have h1 := HP.out
            have h2 := F.counts_take_succ s kids j hlt
            have h3 := F.counts_le s (kids.take (j + 1))
            have h4 := F.sizes_take_le kids (j + 1)
            have h5 := HS.out.2
            have h6 := HC.out
            first | omega | (show _ = _; omega)
        case measure => simp [intOf]; omega
      · go_wp2_with fail
        go_ret
        obtain rfl : j = kids.length := by omega
        have h1 := HP.out
        rw [List.take_length] at h1
        exact ⟨ret_i64 (by omega), HB.out⟩
theorem countName_any (f : F) (s : ByteArray) (S : Nat → Prop) (vs : List Value) (w : World) (hb : f.size ≤ 1000000000000) (hr : Reads w S vs (f.ds 31)) :
    Calls Tryd.prog 53 #[.agg vs.toArray, .string s] w fun e w' => e = .returned (.int .i64 (f.count s)) ∧ Below w.heap.size w w' := by
  have h : ∀ m, CountName m := fun m => by
    induction m with
    | zero => intro f s S vs w hs; omega
    | succ m ih => exact countName_step m ih
  exact h (f.size + 1) f s S vs w (by omega) hb hr

def bytes (l : List UInt8) : ByteArray := ⟨l.toArray⟩
/-- The names of the library's macros. -/
def libNames : List ByteArray := [⟨#[97, 110, 100]⟩, ⟨#[111, 114]⟩, ⟨#[110, 111, 116]⟩, ⟨#[119, 104, 101, 110]⟩, ⟨#[99, 111, 110, 100]⟩, ⟨#[108, 101, 116, 42]⟩, ⟨#[115, 119, 97, 112]⟩]
theorem libNames_size : ∀ x, x ∈ libNames → x.size ≤ maxLen := by
  intro x hx
  simp only [libNames, List.mem_cons, List.not_mem_nil, or_false] at hx
  unfold maxLen
  rcases hx with rfl | rfl | rfl | rfl | rfl | rfl | rfl <;> decide
set_option maxHeartbeats 400000 in
theorem l11Names_any (w : World) : Calls Tryd.prog 52 #[] w fun e w' => ∃ v, e = .returned v ∧ Made w w' [v] [.r 9 1 (libNames.map D.s)] := by
  go_enter Tryd.func52, Tryd.ntmps52
  go_wp2_with fail
  go_ret
  refine ⟨_, rfl, [w.heap.size], ?_, by simp, by simp, (Below.refl _ _).alloc (Nat.le_refl _) _⟩
  exact Owns.row_mk (cur := (libNames.map Value.string).toArray) (blk_new _ _) (Nat.le_refl 7) (by unfold maxLen; omega) rfl (Owns.strs_mk _ _ libNames_size)
/-- The library's names that a form has. -/
def F.needed (f : F) : List ByteArray := libNames.filter fun s => decide (0 < f.count s)
set_option maxHeartbeats 2000000 in
theorem l11Needed_any (f : F) (S : Nat → Prop) (vs : List Value) (w : World) (hb : f.size ≤ 1000000000000) (hr : Reads w S vs (f.ds 31)) :
    Calls Tryd.prog 28 #[.agg vs.toArray] w fun e w' => ∃ v, e = .returned v ∧ Made w w' [v] [.r 9 1 (f.needed.map D.s)] := by
  have hl := hr.len
  rw [F.ds_len] at hl
  match vs, hl with
  | [x0, x1, x2, x3, x4], _ =>
  have HR := Lib.hid hr
  have HSZ := Lib.hid hb
  clear hr hb hl
  go_enter Tryd.func28, Tryd.ntmps28
  go_wp2_with fail
  refine calls_alloc2 (fun W B0 B1 hz hbw => ?_)
  refine (l11Names_any _).mono ?_
  rintro e w1 ⟨vn, rfl, bsn, hon, hnn, hln, hb1⟩
  obtain ⟨An, cn, rfl⟩ := hon.sl_inv (by omega) (m := 7) (by simp [libNames])
  have C0 := Lib.hid (blk_bel B0 hb1)
  have C1 := Lib.hid (blk_bel B1 hb1)
  have HON := Lib.hid hon
  have HNN := Lib.hid hnn
  have HLN : Hid (∀ b, b ∈ bsn → w.heap.size + 2 ≤ b) := fun b hb => by have := hln b hb; omega
  have HB1 := Lib.hid (hbw.trans (hb1.mono (by omega)))
  clear hon hnn hln hb1 B0 B1 hz hbw
  go_wp2_with fail
  go_loopw [3, 5] (fun o i wr => ∃ j : Nat, ∃ bso : List Nat, j ≤ 7 ∧ i = .int .i64 j ∧ Hid (Owns wr [o] [.r 9 1 (((libNames.take j).filter fun s => decide (0 < f.count s)).map D.s)] bso) ∧ Hid (Owns wr [.slice An 7 cn] [.r 9 1 (libNames.map D.s)] bsn) ∧ Hid ((bso ++ bsn).Nodup) ∧ Hid (∀ b, b ∈ bso → w.heap.size + 1 ≤ b) ∧ Hid (wr.heap[w.heap.size]? = some (.cells #[x0, x1, x2, x3, x4] 31 (0, 0))) ∧ Hid (Below w.heap.size w wr)) (fun _ i _ => 7 - (intOf i).toNat)
  case atStart => exact ⟨0, [w.heap.size + 1], by omega, rfl, Owns.row_mk (ds := []) C1.out (Nat.le_refl 0) (by unfold maxLen; omega) rfl .nil, HON.out, List.nodup_cons.2 ⟨fun h => by have := HLN.out _ h; omega, HNN.out⟩, (fun b hb => by simp at hb; omega), C0.out, HB1.out⟩
  case round =>
    obtain ⟨j, bso, hj, rfl, HO, HN, HD, HL, HG, HB⟩ := hrel
    obtain ⟨r0, _⟩ := blk_rules HG.out
    by_cases hlt : j < 7
    · have hjl : j < libNames.length := hlt
      obtain ⟨ad, rfl, hc0, hns⟩ := HN.out.reads.elemS hjl
      have hr : Reads wr S [x0, x1, x2, x3, x4] (f.ds 31) := HR.out.belAll HB.out
      have HRW := Lib.hid hr
      clear hr
      obtain ⟨nm, hnm⟩ : ∃ nm, libNames[j]'hjl = nm := ⟨_, rfl⟩
      rw [hnm] at hc0 hns
      have HNM := Lib.hid hnm
      have HNS := Lib.hid hns
      clear hnm hns
      go_wp2_with fail
      go_region_with (go_at_call 53; refine (countName_any f nm S _ _ HSZ.out HRW.out.drew).mono ?_; rintro e w2 ⟨rfl, hb2⟩; have HB2 := Lib.hid hb2; have hc2 := World.cell_bel hb2 hc0; clear hb2)
      all_goals
        have hb2 : Below wr.heap.size wr w2 := (Below.refl _ wr).drew.trans HB2.out
        have HO2 := Lib.hid (HO.out.bel hb2)
        have HN2 := Lib.hid (HN.out.bel hb2)
        have HG2 := Lib.hid (blk_bel HG.out hb2)
        have HB3 := Lib.hid (HB.out.trans (hb2.mono HB.out.size))
        have hfl : (libNames.take (j + 1)).filter (fun s => decide (0 < f.count s)) = (libNames.take j).filter (fun s => decide (0 < f.count s)) ++ if 0 < f.count nm then [nm] else [] := by
          rw [List.take_succ_eq_append_getElem hjl, List.filter_append, HNM.out]
          simp [List.filter_cons]
        have HFL := Lib.hid hfl
        have hlen : Hid (((libNames.take j).filter fun s => decide (0 < f.count s)).length ≤ 7) := Nat.le_trans (List.length_filter_le _ _) (by simp; omega)
        clear hb2 hfl r0 hc0
        by_cases hpos : 0 < f.count nm
        · go_wp2_with (at_builtin; refine wpList_append1 rfl (.tmp 21) (.tmp 26) 27 9 _ 1 16 rfl Tryd.underlying27 info_str rfl (by omega) (by omega) u3 ((libNames.take j).filter fun s => decide (0 < f.count s)).length _ bso rfl HO2.out (by simp) #[.string nm] [.s nm] [] rfl rfl (.str nm HNS.out .nil) (by rw [List.append_nil]; exact (List.nodup_append.1 HD.out).1) (by have := hlen.out; omega) ?_; intro v1 w3 bs1 ho1 hn1 hs1 hon1; have HO3 := Lib.hid ho1; have HN3 := Lib.hid hn1; have HS3 := Lib.hid hs1; have HON3 := Lib.hid hon1; clear ho1 hn1 hs1 hon1)
          go_roundw
          case rel =>
            refine ⟨j + 1, bs1, by omega, by go_num, ?_, ?_, ?_, ?_, ?_, ?_⟩
            · show Owns _ _ _ _
              rw [HFL.out, if_pos hpos, List.map_append]
              exact HO3.out
            · exact HON3.out.owns HN2.out (fun b hb hb' => (List.nodup_append.1 HD.out).2.2 b hb' b hb rfl)
            · refine nodup_app HN3.out (List.nodup_append.1 HD.out).2.1 (fun b h1 h2 => ?_)
              rcases HS3.out b h1 with h | h | h
              · exact (List.nodup_append.1 HD.out).2.2 b h b h2 rfl
              · cases h
              · have := HN2.out.lt b h2; omega
            · intro b hb
              rcases HS3.out b hb with h | h | h
              · exact HL.out b h
              · cases h
              · have := blk_lt' HG2.out; omega
            · exact (HON3.out.block _ (blk_lt' HG2.out) (fun h => by have := HL.out _ h; omega)).trans HG2.out
            · exact HON3.out.toBelow HB3.out HB3.out.size (fun b hb => by have := HL.out b hb; omega)
          case measure => simp [intOf]; omega
        · go_wp2_with fail
          go_roundw
          case rel =>
            refine ⟨j + 1, bso, by omega, by go_num, ?_, HN2.out, HD.out, HL.out, HG2.out, HB3.out⟩
            show Owns _ _ _ _
            rw [HFL.out, if_neg hpos, List.append_nil]
            exact HO2.out
          case measure => simp [intOf]; omega
    · go_wp2_with fail
      go_ret
      obtain rfl : j = 7 := by omega
      exact ⟨_, rfl, bso, HO.out, (List.nodup_append.1 HD.out).1, fun b hb => by have := HL.out b hb; omega, HB.out⟩
set_option maxHeartbeats 400000 in
theorem specNeeded_any (f : F) (S : Nat → Prop) (vs : List Value) (w : World) (hb : f.size ≤ 1000000000000) (hr : Reads w S vs (f.ds 31)) :
    Calls Tryd.prog 7 #[.agg vs.toArray] w fun e w' => ∃ v, e = .returned v ∧ Made w w' [v] [.r 9 1 (f.needed.map D.s)] := by
  have hl := hr.len
  rw [F.ds_len] at hl
  match vs, hl with
  | [x0, x1, x2, x3, x4], _ =>
  go_enter Tryd.func7, Tryd.ntmps7
  go_wp2_with fail
  refine calls_alloc1 (fun W B0 hz hbw => ?_)
  refine (l11Needed_any f S _ _ hb (hr.belAll hbw)).mono ?_
  rintro e w1 ⟨vn, rfl, bsn, hon, hnn, hln, hb1⟩
  go_wp2_with fail
  go_ret
  exact ⟨vn, rfl, bsn, hon, hnn, fun b hb => by have := hln b hb; omega, hbw.trans (hb1.mono (by omega))⟩
end Go.Proofs.YtnooeebefhfjcaaDoor
