/- markFormS and markForm: forms are marked, and nothing else is written; heldFormS and heldForm tell the marks again. -/
import Derived.Test.YtnooeebefhfjcaaDoorMk
import Derived.Test.YtnooeebefhfjcaaDoorEqF
set_option linter.unusedVariables false
set_option linter.unusedSimpArgs false
namespace Go.Proofs.YtnooeebefhfjcaaDoor
open Go Go.RowKit
mutual
def F.mc : F → Nat
  | .mk _ _ _ sc kids => 3 + sc.length + F.mcs kids
def F.mcs : List F → Nat
  | [] => 0
  | f :: fs => f.mc + F.mcs fs
end
/-- The forms bear the numbers from k on, up to the last one. -/
inductive MarkedF : Nat → List F → Nat → Prop
  | nil (k : Nat) : MarkedF k [] k
  | cons {k k1 k2 : Nat} {kids fs : List F} (m : Nat) (h : MarkedF (k + 3 + m) kids k1) (h' : MarkedF k1 fs k2) :
      MarkedF k (.mk k (mtext (k + 1)) ((k + 2 : Nat) : Int) (upFrom (k + 3) m) kids :: fs) k2
theorem MarkedF.append {k k1 k2 : Nat} {fs gs : List F} (h : MarkedF k fs k1) (h' : MarkedF k1 gs k2) : MarkedF k (fs ++ gs) k2 := by
  induction h with
  | nil k => exact h'
  | cons m h _ _ ih => exact .cons m h (ih h')
theorem F.mcs_append : ∀ fs gs : List F, F.mcs (fs ++ gs) = F.mcs fs + F.mcs gs
  | [], gs => by simp [F.mcs]
  | f :: fs, gs => by simp [F.mcs, F.mcs_append fs gs]; omega
theorem F.mcs_len (fs : List F) : fs.length ≤ F.mcs fs := by
  induction fs with
  | nil => simp
  | cons f fs ih => cases f; simp [F.mcs, F.mc]; omega
theorem nodup5 {g : Nat} {b1 b3 b4 br : List Nat} (h : (g :: (b1 ++ (b3 ++ b4 ++ br))).Nodup) :
    (∀ b, b ∈ b1 → b ≠ g ∧ b ∉ b3 ∧ b ∉ b4 ∧ b ∉ br) ∧ (∀ b, b ∈ b3 → b ≠ g ∧ b ∉ b1 ∧ b ∉ b4 ∧ b ∉ br) ∧ (∀ b, b ∈ b4 → b ≠ g ∧ b ∉ b1 ∧ b ∉ b3 ∧ b ∉ br) ∧ (∀ b, b ∈ br → b ≠ g ∧ b ∉ b1 ∧ b ∉ b3 ∧ b ∉ b4) := by
  simp only [List.nodup_cons, List.nodup_append, List.mem_append] at h
  obtain ⟨h0, _, ⟨⟨_, _, h34⟩, _, h34r⟩, h1⟩ := h
  refine ⟨fun b hb => ⟨?_, ?_, ?_, ?_⟩, fun b hb => ⟨?_, ?_, ?_, ?_⟩, fun b hb => ⟨?_, ?_, ?_, ?_⟩, fun b hb => ⟨?_, ?_, ?_, ?_⟩⟩ <;> grind
def MarkFS (m : Nat) : Prop := ∀ (fs : List F) (v : Value) (bs : List Nat) (k : Nat) (q : Int) (w : World), q = k → F.sizes fs < m → Owns w [v] [.r 31 5 (F.dss 31 fs)] bs → bs.Nodup → 0 < k → k + F.mcs fs ≤ 1000000000000 →
    Calls Tryd.prog 37 #[v, .int .i64 q] w fun e w' => ∃ fs' , e = .returned (.int .i64 ((k + F.mcs fs : Nat) : Int)) ∧ MarkedF k fs' (k + F.mcs fs) ∧ fs'.length = fs.length ∧ Owns w' [v] [.r 31 5 (F.dss 31 fs')] bs ∧ Only w w' bs
set_option maxHeartbeats 2000000 in
theorem markFS_step (m : Nat) (ih : MarkFS m) : MarkFS (m + 1) := by
  intro fs v bs k q w hq hsz ho hnd hk0 hk
  subst hq
  rcases ho.row_inv with ⟨rfl, hx, rfl⟩ | ⟨g, n, c, cur0, bs', rfl, rfl, hg, hnc, hc, hs, hu⟩
  · obtain rfl : fs = [] := by cases fs with | nil => rfl | cons f fs => cases f; simp [F.dss, F.ds] at hx
    go_enter Tryd.func37, Tryd.ntmps37
    go_wp2_with fail
    refine wp_loop_rounds 1 ?_
    rw [rounds_succ]
    go_wp2_with fail
    go_ret
    exact ⟨[], rfl, .nil _, rfl, ho, Only.refl _ _⟩
  · have hn : n = fs.length := by
      have h1 := hu.len
      have : n * 5 ≤ c * 5 := Nat.mul_le_mul_right _ hnc
      rw [List.length_take, Array.length_toList, F.dss_len] at h1
      omega
    have hn12 : n ≤ 1000000000000 := by have := F.mcs_len fs; omega
    have HG := Lib.hid hg
    have HU := Lib.hid hu
    have HN := Lib.hid hn
    have HS := Lib.hid hs
    have HC := Lib.hid hc
    have HI := Lib.hid ih
    have HSZ := Lib.hid hsz
    have HND := Lib.hid hnd
    have HK := Lib.hid hk
    have hk12 : k ≤ 1000000000000 := by omega
    clear ho hu hg hn hs hc hsz hnd hk ih
    go_enter Tryd.func37, Tryd.ntmps37
    go_wp2_with fail
    go_loopw [1, 5] (fun q i wr => ∃ j : Nat, ∃ p : Nat, ∃ A R : List Value, ∃ done : List F, ∃ b1 b2 : List Nat, j ≤ n ∧ 0 < p ∧ p ≤ 1000000000000 ∧ i = .int .i64 j ∧ q = .int .i64 p ∧ Hid (p + F.mcs (fs.drop j) = k + F.mcs fs) ∧ Hid (wr.heap[g]? = some (.cells (A ++ R).toArray 31 (0, 0))) ∧ Hid (A.length = j * 5) ∧ Hid ((A ++ R).length = c * 5)
      ∧ Hid (MarkedF k done p) ∧ Hid (done.length = j) ∧ Hid (Owns wr A (F.dss 31 done) b1) ∧ Hid (Owns wr (R.take ((n - j) * 5)) (F.dss 31 (fs.drop j)) b2) ∧ Hid (b1 ++ b2 = bs') ∧ Hid (Only w wr (g :: bs'))) (fun _ i _ => n - (intOf i).toNat)
    case atStart => exact ⟨0, k, [], cur0.toList, [], [], bs', Nat.zero_le _, hk0, hk12, rfl, rfl, rfl, HG.out, rfl, by have := HS.out; show _ = _; simpa using this, .nil _, rfl, .nil, HU.out, rfl, Only.refl _ _⟩
    case round =>
      obtain ⟨j, p, A, R, done, b1, b2, hj, hp0, hp, rfl, rfl, HP, HG1, HA, HL, HM, HD, HO1, HO2, HB, HOn⟩ := hrel
      by_cases hlt : j < n
      · have hjl : j < fs.length := by have := HN.out; omega
        have ho2 := HO2.out
        have hf : ∃ k0 nm0 n0 sc kids, fs[j]'hjl = .mk k0 nm0 n0 sc kids := by cases fs[j]'hjl; exact ⟨_, _, _, _, _, rfl⟩
        obtain ⟨k0, nm0, n0, sc, kids, hf⟩ := hf
        rw [List.drop_eq_getElem_cons hjl, hf] at ho2
        obtain ⟨ve, vr, be, br, hR, hbr, he, hr⟩ := ho2.split
        obtain ⟨v3, v4, b3, b4, rfl, rfl, hnm, h3, h4⟩ := he.form
        obtain ⟨R', rfl⟩ : ∃ R', R = .int .i64 k0 :: .string nm0 :: .int .i64 n0 :: v3 :: v4 :: R' := by
          rw [show (n - j) * 5 = (n - j - 1) * 5 + 5 by omega] at hR
          match R, hR with
          | x0 :: x1 :: x2 :: x3 :: x4 :: R', hR =>
            simp at hR
            obtain ⟨rfl, rfl, rfl, rfl, rfl, _⟩ := hR
            exact ⟨R', rfl⟩
        have hkc : F.mcs (fs.drop j) = 3 + sc.length + F.mcs kids + F.mcs (fs.drop (j + 1)) := by rw [List.drop_eq_getElem_cons hjl, hf]; simp [F.mcs, F.mc]
        have HKC := Lib.hid hkc
        have HF := Lib.hid hf
        have H3 := Lib.hid h3
        have H4 := Lib.hid h4
        have HRR := Lib.hid hr
        have HBR := Lib.hid hbr
        have HRE := Lib.hid hR
        have HE := Lib.hid hr.len
        have hp3 : p + 3 ≤ 1000000000000 := by have := HP.out; have := HK.out; omega
        clear hkc hf h3 h4 hr hbr hR he hnm ho2 HO2
        have q0 : wr.cell? ⟨g, j * 5, none⟩ = some (.int .i64 k0) := (cell_of_row _ _ _ _ _ _ HG1.out).trans ((arr_at A _ (j * 5) 0 HA.out).trans rfl)
        have f0 : wr.frozen? ⟨g, j * 5, none⟩ = false := frozen_of_row _ _ _ _ _ HG1.out
        go_wp2_with fail
        clear q0 f0
        refine calls_set HG1.out (fun W B _ _ _ hon => ?_)
        refine (markText_any (p + 1) _ (by omega) _ (by omega) (by omega)).mono ?_
        rintro e w2 ⟨rfl, hb⟩
        have E2 : (A ++ .int .i64 k0 :: .string nm0 :: .int .i64 n0 :: v3 :: v4 :: R').toArray.setIfInBounds (j * 5) (.int .i64 p) = (A ++ .int .i64 p :: .string nm0 :: .int .i64 n0 :: v3 :: v4 :: R').toArray := arr_set A _ (j * 5) 0 _ HA.out
        rw [E2] at B
        have HG2 := Lib.hid (blk_bel B hb)
        have HOn2 := Lib.hid (hon.below hb)
        clear B E2 hon hb
        have q1 : w2.cell? ⟨g, j * 5 + 1, none⟩ = some (.string nm0) := (cell_of_row _ _ _ _ _ _ HG2.out).trans ((arr_at A _ (j * 5) 1 HA.out).trans rfl)
        have q2 : w2.cell? ⟨g, j * 5 + 2, none⟩ = some (.int .i64 n0) := (cell_of_row _ _ _ _ _ _ HG2.out).trans ((arr_at A _ (j * 5) 2 HA.out).trans rfl)
        have q3 : w2.cell? ⟨g, j * 5 + 3, none⟩ = some v3 := (cell_of_row _ _ _ _ _ _ HG2.out).trans ((arr_at A _ (j * 5) 3 HA.out).trans rfl)
        have f1 : ∀ o, w2.frozen? ⟨g, o, none⟩ = false := fun o => frozen_of_row _ _ _ _ _ HG2.out
        go_wp2_with fail
        clear q1 q2 q3 f1
        refine calls_set2 HG2.out (fun W B _ _ _ hon => ?_)
        have hdj := nodup5 (show (g :: (b1 ++ (b3 ++ b4 ++ br))).Nodup by have h1 := HND.out; rwa [← HB.out, HBR.out] at h1)
        obtain ⟨d1, d3, d4, dr⟩ := hdj
        have onW := HOn2.out.trans hon (fun b hb => .inl hb)
        have hg1 : ∀ b, b ≠ g → b ∉ [g] := fun b h => by simpa using h
        have H3' := Lib.hid (onW.owns H3.out (fun b hb => hg1 b (d3 b hb).1))
        rw [arr_set _ _ _ 1 _ HA.out, arr_set _ _ _ 2 _ HA.out] at B
        refine (markIntS_any sc v3 b3 (p + 3) _ (by omega) _ H3'.out (by have := HKC.out; have := HP.out; have := HK.out; omega) (by omega)).mono ?_
        rintro e w3 ⟨rfl, h3, hon3⟩
        have HG3 := Lib.hid ((hon3.block g (blk_lt' B) (fun h => (d3 g h).1 rfl)).trans B)
        have on3 := (onW.mono (cs := g :: b3) (by simp)).trans hon3 (fun b hb => .inl (by simp [hb]))
        have H4' := Lib.hid (on3.owns H4.out (fun b hb => by have := d4 b hb; simp; exact ⟨this.1, this.2.2.1⟩))
        have H33 := Lib.hid h3
        have ON3 := Lib.hid on3
        have DJ := Lib.hid (And.intro d1 (And.intro d3 (And.intro d4 dr)))
        clear onW hg1 h3 hon3 on3 d1 d3 d4 dr B hon H3'
        have q4 : w3.cell? ⟨g, j * 5 + 4, none⟩ = some v4 := (cell_of_row _ _ _ _ _ _ HG3.out).trans ((arr_at A _ (j * 5) 4 HA.out).trans rfl)
        go_wp2_with fail
        clear q4
        refine (HI.out kids v4 b4 (p + 3 + sc.length) _ _ (by omega) ?_ H4'.out ?_ (by omega) (by have := HKC.out; have := HP.out; have := HK.out; omega)).mono ?_
        · have := F.sizes_get fs j hjl
          rw [HF.out] at this
          have h2 := HSZ.out
          simp [F.size] at this
          omega
        · have h1 := HND.out
          rw [← HB.out, HBR.out] at h1
          exact (List.nodup_append.1 (List.nodup_append.1 (List.nodup_append.1 (List.nodup_cons.1 h1).2).2.1).1).2.1
        rintro e w4 ⟨kids', rfl, hm', hl', h4, hon4⟩
        obtain ⟨d1, d3, d4, dr⟩ := DJ.out
        have HG4 := Lib.hid ((hon4.block g (blk_lt' HG3.out) (fun h => (d4 g h).1 rfl)).trans HG3.out)
        have on4 := (ON3.out.mono (cs := g :: (b3 ++ b4)) (fun b hb => by simp at hb ⊢; grind)).trans hon4 (fun b hb => .inl (by simp [hb]))
        have ON4 := Lib.hid on4
        have H1' := Lib.hid (on4.owns HO1.out (fun b hb => by have := d1 b hb; simp; exact ⟨this.1, this.2.1, this.2.2.1⟩))
        have HR' := Lib.hid (on4.owns HRR.out (fun b hb => by have := dr b hb; simp; exact ⟨this.1, this.2.2.1, this.2.2.2⟩))
        have H34 := Lib.hid (hon4.owns H33.out (fun b hb => (d3 b hb).2.2.1))
        have H44 := Lib.hid h4
        have HM' := Lib.hid hm'
        clear h4 hon4 on4 hm' d1 d3 d4 dr
        have hpn : ((p + 3 + sc.length + F.mcs kids : Nat) : Int) = ((p + 3 + sc.length + F.mcs kids : Nat) : Int) := rfl
        go_wp2_with fail
        go_roundw
        case rel =>
          refine ⟨j + 1, p + 3 + sc.length + F.mcs kids, A ++ [.int .i64 p, .string (mtext (p + 1)), .int .i64 ((p : Int) + 1 + 1), v3, v4], R', done ++ [.mk p (mtext (p + 1)) ((p + 2 : Nat) : Int) (upFrom (p + 3) sc.length) kids'], b1 ++ (b3 ++ b4), br, by omega, by omega, ?_, by go_num, rfl, ?_, ?_, ?_, ?_, ?_, ?_, ?_, ?_, ?_, ?_⟩
          · have := HKC.out; have := HP.out; have := HK.out; omega
          · have := HKC.out; have := HP.out; show _ = _; omega
          · have := HG4.out
            simp only [List.set_cons_succ, List.set_cons_zero] at this
            show _ = _
            rw [this, List.append_assoc]
            rfl
          · have := HA.out; show _ = _; simp [this]; omega
          · have := HL.out; show _ = _; simp at this ⊢; omega
          · exact HM.out.append (.cons _ HM'.out (.nil _))
          · have := HD.out; show _ = _; simp [this]
          · show Owns _ _ _ _
            rw [F.dss_append]
            refine H1'.out.append ?_
            have := Owns.form_mk (t := 31) (k := p) (n := (p : Int) + 1 + 1) (nm := mtext (p + 1)) (by have := mtext_size (p + 1) (by omega); unfold maxLen; omega) H34.out H44.out
            rw [show ((p + 2 : Nat) : Int) = (p : Int) + 1 + 1 by omega]
            simpa [F.dss] using this
          · have h1 := HRE.out
            rw [show (n - j) * 5 = (n - (j + 1)) * 5 + 5 by omega] at h1
            simp at h1
            show Owns _ _ _ _
            rw [h1]
            exact HR'.out
          · have h1 := HB.out
            have h2 := HBR.out
            show _ = _
            rw [← h1, h2]
            simp
          · refine HOn.out.trans ON4.out (fun b hb => .inl ?_)
            have h1 := HB.out
            have h2 := HBR.out
            rw [← h1, h2]
            simp at hb ⊢
            grind
        case measure => simp [intOf]; omega
      · go_wp2_with fail
        go_ret
        obtain rfl : j = n := by omega
        have h3 := HP.out
        have h4 := HN.out
        rw [h4, List.drop_length] at h3
        simp [F.mcs] at h3
        subst h3
        refine ⟨done, rfl, HM.out, HD.out.trans h4, ?_, HOn.out⟩
        have h6 := HO2.out
        rw [h4, List.drop_length] at h6
        have h7 : b2 = [] := by
          rw [Nat.sub_self] at h6
          simp [F.dss] at h6
          cases h6
          rfl
        have h8 := HB.out
        rw [h7, List.append_nil] at h8
        rw [← h8]
        refine Owns.row_mk HG1.out hnc HC.out (by have := HL.out; simpa using this) ?_
        have h9 := HA.out
        rw [← h9]
        simpa using HO1.out
theorem markFS_any (m : Nat) : MarkFS m := by
  induction m with
  | zero => intro fs v bs k q w hq hs; omega
  | succ m ih => exact markFS_step m ih
set_option maxHeartbeats 1000000 in
theorem markForm_any (k0 n0 : Int) (nm0 : ByteArray) (sc : List Int) (kids : List F) (vs : List Value) (bs : List Nat) (k : Nat) (q : Int) (hq : q = k) (w : World) (ho : Owns w vs (F.ds 31 (.mk k0 nm0 n0 sc kids)) bs) (hnd : bs.Nodup) (hk0 : 0 < k) (hk : k + sc.length + F.mcs kids ≤ 1000000000000) :
    Calls Tryd.prog 12 #[.agg vs.toArray, .int .i64 q] w fun e w' => ∃ kids', e = .returned (.int .i64 ((k + sc.length + F.mcs kids : Nat) : Int)) ∧ MarkedF (k + sc.length) kids' (k + sc.length + F.mcs kids) ∧ kids'.length = kids.length ∧
      Owns w' vs (F.ds 31 (.mk k0 nm0 n0 (upFrom k sc.length) kids')) bs ∧ Only w w' bs := by
  subst hq
  obtain ⟨v3, v4, b3, b4, rfl, rfl, hnm, h3, h4⟩ := ho.form
  have hd := List.nodup_append.1 hnd
  have H3 := Lib.hid h3
  have H4 := Lib.hid h4
  have HD := Lib.hid hd
  clear ho h3 h4 hd hnd
  go_enter Tryd.func12, Tryd.ntmps12
  go_wp2_with fail
  refine calls_alloc1 (fun W B0 hz hbw => ?_)
  refine (markIntS_any sc v3 b3 k _ (by omega) _ (H3.out.bel hbw) (by omega) (by omega)).mono ?_
  rintro e w1 ⟨rfl, h31, on1⟩
  have C0 := Lib.hid ((on1.block _ (blk_lt' B0) (fun h => by have := H3.out.lt _ h; omega)).trans B0)
  have ON1 := Lib.hid ((Only.of_below hbw b3).trans on1 (fun b hb => .inl hb))
  have H31 := Lib.hid h31
  have H41 := Lib.hid (ON1.out.owns H4.out (fun b hb h => HD.out.2.2 b h b hb rfl))
  clear B0 hz hbw on1 h31
  obtain ⟨r0, _⟩ := blk_rules C0.out
  go_wp2_with fail
  clear r0
  refine (markFS_any (F.sizes kids + 1) kids v4 b4 (k + sc.length) _ _ (by omega) (by omega) H41.out HD.out.2.1 (by omega) (by omega)).mono ?_
  rintro e w2 ⟨kids', rfl, hm, hl, h42, on2⟩
  have H42 := Lib.hid h42
  have H32 := Lib.hid (on2.owns H31.out (fun b hb h => HD.out.2.2 b hb b h rfl))
  have ON2 := Lib.hid on2
  have HM := Lib.hid hm
  have HL := Lib.hid hl
  clear h42 on2 hm hl
  go_wp2_with fail
  go_ret
  exact ⟨kids', rfl, HM.out, HL.out, Owns.form_mk hnm H32.out H42.out, (ON1.out.mono (by simp; grind)).trans ON2.out (fun b hb => .inl (by simp [hb]))⟩
end Go.Proofs.YtnooeebefhfjcaaDoor
