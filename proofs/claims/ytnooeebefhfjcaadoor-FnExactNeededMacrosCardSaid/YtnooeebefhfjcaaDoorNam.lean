/- The program's NamesOf. -/
import Derived.Test.YtnooeebefhfjcaaDoorEach
import Derived.Test.YtnooeebefhfjcaaDoorSlS
set_option linter.unusedVariables false
set_option linter.unusedSimpArgs false
namespace Go.Proofs.YtnooeebefhfjcaaDoor
open Go Go.RowKit
def nmStep (s : List ByteArray) : F → List ByteArray
  | .mk k nm _ _ _ => if k = 1 ∧ hasS nm s = false then s ++ [nm] else s
/-- The variable that a function value has captured: a row of texts. -/
def CapS (g B : Nat) (s : List ByteArray) (bs : List Nat) (w : World) : Prop :=
  ∃ v bo, w.heap[g]? = some (.cells #[v] 27 (0, 0)) ∧ Owns w [v] [.r 9 1 (s.map D.s)] bo ∧ bs = g :: bo ∧ bs.Nodup ∧ ∀ b, b ∈ bs → B ≤ b
set_option maxHeartbeats 2000000 in
theorem names1_any (g B : Nat) (s : List ByteArray) (bs : List Nat) (f : F) (vs : List Value) (w : World) (hI : CapS g B s bs w) (hM : s.length + 1 ≤ 1000000000000) (hr : Reads w (fun b => b < B) vs (f.ds 31)) :
    Calls Tryd.prog 55 (#[.agg vs.toArray] ++ #[.pointer (some ⟨g, 0, none⟩)]) w fun e w' => e = .returned (.tuple #[]) ∧ ∃ bs', CapS g B (nmStep s f) bs' w' ∧ Only w w' bs ∧ ∀ b, b ∈ bs' → b ∈ bs ∨ w.heap.size ≤ b := by
  obtain ⟨k, nm, n, sc, kids⟩ := f
  obtain ⟨A3, c3, A4, c4, rfl, hb, h3, h4⟩ := hr.form
  obtain ⟨v, bo, hg, ho, rfl, hnd, hB⟩ := hI
  obtain ⟨A, c, rfl⟩ := ho.sl_inv (by omega) (m := s.length) (by simp)
  have HG := Lib.hid hg
  have HO := Lib.hid ho
  have HD := Lib.hid hnd
  have HL := Lib.hid hB
  have HM := Lib.hid hM
  have HN := Lib.hid hb
  have hgl := blk_lt' hg
  obtain ⟨rg, fg⟩ := blk_rules hg
  have hcs : ((k == 1) = true ∧ hasS nm s = true ∨ (k == 1) = false) ∧ Hid (nmStep s (.mk k nm n sc kids) = s) ∨ ((k == 1) = true ∧ Hid (hasS nm s = false) ∧ Hid (nmStep s (.mk k nm n sc kids) = s ++ [nm])) := by
    by_cases hk : k = 1
    · by_cases hm : hasS nm s = true
      · exact .inl ⟨.inl ⟨by simpa using hk, hm⟩, by show _ = _; simp [nmStep, hm]⟩
      · exact .inr ⟨by simpa using hk, by show _ = _; simpa using hm, by show _ = _; simp [nmStep, hm, hk]⟩
    · exact .inl ⟨.inr (by simpa using hk), by show _ = _; simp [nmStep, hk]⟩
  clear hr h3 h4 hg ho hnd hB hb hM
  rcases hcs with ⟨⟨hkb, hh⟩ | hkb, HST⟩ | ⟨hkb, HH, HST⟩
  · have HH := Lib.hid hh
    clear hh
    go_enter Tryd.func55, Tryd.ntmps55
    go_wp2_with fail
    refine calls_alloc1 (fun W B0 hz hbw => ?_)
    refine (containsS_any s nm _ A s.length c W rfl (HO.out.reads.belAll hbw)).mono ?_
    rintro e w1 ⟨rfl, rfl⟩
    rw [HH.out]
    have HB := Lib.hid hbw
    clear B0 hz hbw rg fg
    go_wp2_with fail
    go_end0
    refine ⟨rfl, g :: bo, ⟨_, bo, blk_bel HG.out HB.out, ?_, rfl, HD.out, HL.out⟩, Only.of_below HB.out _, fun b hb => .inl hb⟩
    rw [HST.out]
    exact HO.out.bel HB.out
  · go_enter Tryd.func55, Tryd.ntmps55
    go_wp2_with fail
    go_end0
    have hb := (Below.refl w.heap.size w).alloc (Nat.le_refl _) (.cells #[.int .i64 k, .string nm, .int .i64 n, .slice A3 sc.length c3, .slice A4 kids.length c4] 31)
    refine ⟨rfl, g :: bo, ⟨_, bo, blk_bel HG.out hb, ?_, rfl, HD.out, HL.out⟩, Only.of_below hb _, fun b hb => .inl hb⟩
    rw [HST.out]
    exact HO.out.bel hb
  · go_enter Tryd.func55, Tryd.ntmps55
    go_wp2_with fail
    refine calls_alloc1 (fun W B0 hz hbw => ?_)
    refine (containsS_any s nm _ A s.length c W rfl (HO.out.reads.belAll hbw)).mono ?_
    rintro e w1 ⟨rfl, rfl⟩
    rw [HH.out]
    have HB := Lib.hid hbw
    have HG1 := Lib.hid (blk_bel HG.out hbw)
    have HO1 := Lib.hid (HO.out.bel hbw)
    have C0 := Lib.hid B0
    clear B0 hz hbw rg fg
    obtain ⟨r0, _⟩ := blk_rules C0.out
    obtain ⟨r1, _⟩ := blk_rules HG1.out
    go_wp2_with (at_builtin; refine wpList_append1 rfl (.tmp 13) (.tmp 16) 27 9 _ 1 16 rfl Tryd.underlying27 info_str rfl (by omega) (by omega) (.slice A s.length c) s.length _ bo rfl HO1.out (by simp) #[.string nm] [.s nm] [] rfl rfl (.str nm HN.out .nil) (by rw [List.append_nil]; exact (List.nodup_cons.1 HD.out).2) (by have := HM.out; omega) ?_; intro v1 w3 bs1 ho1 hn1 hs1 hon1; obtain ⟨A1, c1, rfl⟩ := ho1.sl_inv (by omega) (m := s.length + 1) (by simp); have HO3 := Lib.hid ho1; have HN3 := Lib.hid hn1; have HS3 := Lib.hid hs1; have HON3 := Lib.hid hon1; have HG3 := Lib.hid ((hon1.block g (blk_lt' HG1.out) (List.nodup_cons.1 HD.out).1).trans HG1.out); clear ho1 hn1 hs1 hon1 r0 r1; obtain ⟨r3, f3⟩ := blk_rules HG3.out)
    go_end0
    refine ⟨rfl, g :: bs1, ⟨_, bs1, (blk_set HG3.out _).trans rfl, ?_, rfl, ?_, ?_⟩, ?_, ?_⟩
    · rw [HST.out, List.map_append]
      exact HO3.out.keep fun b hb => heap_setCell_other _ _ _ _ (fun e => by
        have e' : b = g := e
        subst e'
        rcases HS3.out b hb with h | h | h
        · exact (List.nodup_cons.1 HD.out).1 h
        · cases h
        · have := blk_lt' HG1.out; omega)
    · refine List.nodup_cons.2 ⟨fun hb => ?_, HN3.out⟩
      rcases HS3.out g hb with h | h | h
      · exact (List.nodup_cons.1 HD.out).1 h
      · cases h
      · have := blk_lt' HG1.out; omega
    · intro b hb
      have h0 := HL.out g (by simp)
      rcases List.mem_cons.1 hb with rfl | hb
      · exact h0
      · rcases HS3.out b hb with h | h | h
        · exact HL.out b (by simp [h])
        · cases h
        · have := blk_lt' HG1.out; omega
    · exact ((Only.of_below HB.out _).trans HON3.out (fun b hb => .inl (by simp [hb]))).set (by simp) _
    · intro b hb
      rcases List.mem_cons.1 hb with rfl | hb
      · exact .inl (by simp)
      · rcases HS3.out b hb with h | h | h
        · exact .inl (by simp [h])
        · cases h
        · exact .inr (by have := HB.out.size; omega)
theorem names_steps (g B : Nat) : Steps Tryd.prog 31 55 #[.pointer (some ⟨g, 0, none⟩)] B nmStep (CapS g B) (fun _ => 1) List.length 1000000000000 where
  stay := fun s bs W W' ⟨v, bo, h1, h2, h3, h4, h5⟩ hon => ⟨v, bo, blk_bel h1 hon.nil, h2.bel hon.nil, h3, h4, h5⟩
  lt := fun s bs W ⟨v, bo, h1, h2, h3, h4, h5⟩ b hb => ⟨h5 b hb, by
    rw [h3] at hb
    rcases List.mem_cons.1 hb with rfl | hb
    · exact blk_lt' h1
    · exact h2.lt b hb⟩
  call := fun vs W => by kernel_rfl
  grow := fun s f => by cases f; simp only [nmStep]; split <;> simp
  go := fun s bs f vs W hI hM hr => names1_any g B s bs f vs W hI hM hr
def F.names (f : F) : List ByteArray := F.fold nmStep [] f
mutual
theorem F.wsum_one : ∀ f : F, F.wsum (fun _ => 1) f = f.size
  | .mk k nm n sc kids => by have := F.wsums_one kids; simp only [F.wsum, F.size, this]; omega
theorem F.wsums_one : ∀ fs : List F, F.wsums (fun _ => 1) fs = F.sizes fs
  | [] => rfl
  | f :: fs => by have h1 := F.wsum_one f; have h2 := F.wsums_one fs; simp only [F.wsums, F.sizes, h1, h2]
end
set_option maxHeartbeats 1000000 in
theorem namesOf_any (f : F) (S : Nat → Prop) (vs : List Value) (w : World) (hb : f.size ≤ 1000000000000) (hr : Reads w S vs (f.ds 31)) :
    Calls Tryd.prog 31 #[.agg vs.toArray] w fun e w' => ∃ v, e = .returned v ∧ Made w w' [v] [.r 9 1 (f.names.map D.s)] := by
  have hl := hr.len
  rw [F.ds_len] at hl
  match vs, hl with
  | [x0, x1, x2, x3, x4], _ =>
  have HR := Lib.hid hr.lt
  clear hr
  go_enter Tryd.func31, Tryd.ntmps31
  go_wp2_with fail
  refine calls_alloc3 (fun W B0 B1 B2 hz hbw => ?_)
  refine (eachForm_any (names_steps (w.heap.size + 1 + 1) w.heap.size) f [] [w.heap.size + 1 + 1, w.heap.size + 1] _ W (by rw [F.wsum_one]; simpa using hb) ⟨_, [w.heap.size + 1], B2, Owns.row_mk (ds := []) B1 (Nat.le_refl 0) (by unfold maxLen; omega) rfl .nil, rfl, by simp, by intro b hb; simp at hb; omega⟩ (HR.out.belAll hbw)).mono ?_
  rintro e w1 ⟨rfl, bs, ⟨v, bo, h1, h2, h3, h4, h5⟩, hon, hbs⟩
  have hB : Below w.heap.size w w1 := hon.toBelow hbw (by omega) (by intro b hb; simp at hb; omega)
  have H2 := Lib.hid h2
  have H5 := Lib.hid h5
  subst h3
  have H4 := Lib.hid h4
  obtain ⟨r1, _⟩ := blk_rules h1
  clear h2 h4 h5 hbs hon B0 B1 B2
  go_wp2_with fail
  go_ret
  exact ⟨v, rfl, bo, H2.out, (List.nodup_cons.1 H4.out).2, fun b hb => H5.out b (by simp [hb]), hB⟩
end Go.Proofs.YtnooeebefhfjcaaDoor
