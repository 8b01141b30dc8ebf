/- markCoreS and markCore: programs are marked, and nothing else is written. -/
import Derived.Test.YtnooeebefhfjcaaDoorMkF
import Derived.Test.YtnooeebefhfjcaaDoorC
set_option linter.unusedVariables false
set_option linter.unusedSimpArgs false
namespace Go.Proofs.YtnooeebefhfjcaaDoor
open Go Go.RowKit
mutual
def C.mc : C → Nat
  | .mk _ _ _ _ ids data kids => 4 + ids.length + data.mc + C.mcs kids
def C.mcs : List C → Nat
  | [] => 0
  | f :: fs => f.mc + C.mcs fs
end
/-- The programs bear the numbers from k on, up to the last one. -/
inductive MarkedC : Nat → List C → Nat → Prop
  | nil (k : Nat) : MarkedC k [] k
  | cons {k k1 k2 k3 : Nat} {fk : List F} {kids cs : List C} (m m1 : Nat) (h : MarkedF (k + 4 + m + 3 + m1) fk k1) (h' : MarkedC k1 kids k2) (h'' : MarkedC k2 cs k3) :
      MarkedC k (.mk k ((k : Int) + 1) (mtext (k + 2)) ((k : Int) + 1 + 1 + 1) (upFrom (k + 4) m) (.mk ((k + 4 + m : Nat) : Int) (mtext (k + 4 + m + 1)) (((k + 4 + m : Nat) : Int) + 1 + 1) (upFrom (k + 4 + m + 3) m1) fk) kids :: cs) k3
theorem MarkedC.append {k k1 k2 : Nat} {fs gs : List C} (h : MarkedC k fs k1) (h' : MarkedC k1 gs k2) : MarkedC k (fs ++ gs) k2 := by
  induction h with
  | nil k => exact h'
  | cons m m1 h h2 _ _ ih => exact .cons m m1 h h2 (ih h')
theorem C.mcs_len (fs : List C) : fs.length ≤ C.mcs fs := by
  induction fs with
  | nil => simp
  | cons f fs ih => cases f; simp [C.mcs, C.mc]; omega
theorem nodup7 {g : Nat} {b1 b4 b8 b9 b10 br : List Nat} (h : (g :: (b1 ++ (b4 ++ (b8 ++ b9) ++ b10 ++ br))).Nodup) :
    (∀ b, b ∈ b1 → b ≠ g ∧ b ∉ b4 ∧ b ∉ b8 ∧ b ∉ b9 ∧ b ∉ b10) ∧ (∀ b, b ∈ b4 → b ≠ g ∧ b ∉ b8 ∧ b ∉ b9 ∧ b ∉ b10) ∧ (∀ b, b ∈ b8 → b ≠ g ∧ b ∉ b4 ∧ b ∉ b9 ∧ b ∉ b10) ∧
    (∀ b, b ∈ b9 → b ≠ g ∧ b ∉ b4 ∧ b ∉ b8 ∧ b ∉ b10) ∧ (∀ b, b ∈ b10 → b ≠ g ∧ b ∉ b4 ∧ b ∉ b8 ∧ b ∉ b9) ∧ (∀ b, b ∈ br → b ≠ g ∧ b ∉ b4 ∧ b ∉ b8 ∧ b ∉ b9 ∧ b ∉ b10) := by
  simp only [List.nodup_cons, List.nodup_append, List.mem_append] at h
  obtain ⟨h0, _, ⟨⟨⟨_, ⟨_, _, h89⟩, h4⟩, _, h10⟩, _, hr⟩, h1⟩ := h
  refine ⟨fun b hb => ⟨?_, ?_, ?_, ?_, ?_⟩, fun b hb => ⟨?_, ?_, ?_, ?_⟩, fun b hb => ⟨?_, ?_, ?_, ?_⟩, fun b hb => ⟨?_, ?_, ?_, ?_⟩, fun b hb => ⟨?_, ?_, ?_, ?_⟩, fun b hb => ⟨?_, ?_, ?_, ?_, ?_⟩⟩ <;> grind
theorem nodup7' {g : Nat} {b1 b4 b8 b9 b10 br : List Nat} (h : (g :: (b1 ++ (b4 ++ (b8 ++ b9) ++ b10 ++ br))).Nodup) : b9.Nodup ∧ b10.Nodup := by
  simp only [List.nodup_cons, List.nodup_append, List.mem_append] at h
  exact ⟨h.2.2.1.1.1.2.1.2.1, h.2.2.1.1.2.1⟩
theorem gl {b g : Nat} {l1 l2 : List Nat} (h : b ∈ g :: l1) : b ∈ g :: (l1 ++ l2) := by simp at h ⊢; grind
theorem gr {b g : Nat} {l1 l2 : List Nat} (h : b ∈ g :: l2) : b ∈ g :: (l1 ++ l2) := by simp at h ⊢; grind
theorem gi {b g : Nat} {l1 l2 : List Nat} (h : b ∈ l2) : b ∈ g :: (l1 ++ l2) := by simp at h ⊢; grind
theorem arr_setd (A R : List Value) (i k : Nat) (v : Value) (h : A.length = i) : (A ++ R).toArray.setIfInBounds (i + 5 + k) v = (A ++ R.set (5 + k) v).toArray := by
  rw [Nat.add_assoc]
  exact arr_set A R i (5 + k) v h
def MarkCS (m : Nat) : Prop := ∀ (fs : List C) (v : Value) (bs : List Nat) (k : Nat) (q : Int) (w : World), q = k → C.sizes fs < m → Owns w [v] [.r 45 11 (C.dss 45 31 fs)] bs → bs.Nodup → 0 < k → k + C.mcs fs ≤ 1000000000000 →
    Calls Tryd.prog 46 #[v, .int .i64 q] w fun e w' => ∃ fs' , e = .returned (.int .i64 ((k + C.mcs fs : Nat) : Int)) ∧ MarkedC k fs' (k + C.mcs fs) ∧ fs'.length = fs.length ∧ Owns w' [v] [.r 45 11 (C.dss 45 31 fs')] bs ∧ Only w w' bs
set_option maxHeartbeats 4000000 in
set_option maxRecDepth 20000 in
theorem markCS_step (m : Nat) (ih : MarkCS m) : MarkCS (m + 1) := by
  intro fs v bs k q w hq hsz ho hnd hk0 hk
  subst hq
  rcases ho.row_inv with ⟨rfl, hx, rfl⟩ | ⟨g, n, c, cur0, bs', rfl, rfl, hg, hnc, hc, hs, hu⟩
  · obtain rfl : fs = [] := by cases fs with | nil => rfl | cons f fs => cases f; simp [C.dss, C.ds] at hx
    go_enter Tryd.func46, Tryd.ntmps46
    go_wp2_with fail
    refine wp_loop_rounds 1 ?_
    rw [rounds_succ]
    go_wp2_with fail
    go_ret
    exact ⟨[], rfl, .nil _, rfl, ho, Only.refl _ _⟩
  · have hn : n = fs.length := by
      have h1 := hu.len
      have : n * 11 ≤ c * 11 := Nat.mul_le_mul_right _ hnc
      rw [List.length_take, Array.length_toList, C.dss_len] at h1
      omega
    have hn12 : n ≤ 1000000000000 := by have := C.mcs_len fs; omega
    have HG := Lib.hid hg
    have HU := Lib.hid hu
    have HN := Lib.hid hn
    have HS := Lib.hid hs
    have HC := Lib.hid hc
    have HI := Lib.hid ih
    have HSZ := Lib.hid hsz
    have HND := Lib.hid hnd
    have HK := Lib.hid hk
    have hk12 : k ≤ 1000000000000 := by omega
    clear ho hu hg hn hs hc hsz hnd hk ih
    go_enter Tryd.func46, Tryd.ntmps46
    go_wp2_with fail
    go_loopw [1, 5] (fun q i wr => ∃ j : Nat, ∃ p : Nat, ∃ A R : List Value, ∃ done : List C, ∃ b1 b2 : List Nat, j ≤ n ∧ 0 < p ∧ p ≤ 1000000000000 ∧ i = .int .i64 j ∧ q = .int .i64 p ∧ Hid (p + C.mcs (fs.drop j) = k + C.mcs fs) ∧ Hid (wr.heap[g]? = some (.cells (A ++ R).toArray 45 (0, 0))) ∧ Hid (A.length = j * 11) ∧ Hid ((A ++ R).length = c * 11)
      ∧ Hid (MarkedC k done p) ∧ Hid (done.length = j) ∧ Hid (Owns wr A (C.dss 45 31 done) b1) ∧ Hid (Owns wr (R.take ((n - j) * 11)) (C.dss 45 31 (fs.drop j)) b2) ∧ Hid (b1 ++ b2 = bs') ∧ Hid (Only w wr (g :: bs'))) (fun _ i _ => n - (intOf i).toNat)
    case atStart => exact ⟨0, k, [], cur0.toList, [], [], bs', Nat.zero_le _, hk0, hk12, rfl, rfl, rfl, HG.out, rfl, by have := HS.out; show _ = _; simpa using this, .nil _, rfl, .nil, HU.out, rfl, Only.refl _ _⟩
    case round =>
      obtain ⟨j, p, A, R, done, b1, b2, hj, hp0, hp, rfl, rfl, HP, HG1, HA, HL, HM, HD, HO1, HO2, HB, HOn⟩ := hrel
      by_cases hlt : j < n
      · have hjl : j < fs.length := by have := HN.out; omega
        have ho2 := HO2.out
        have hf : ∃ k0 id0 nm0 n0 ids k1 nm1 n1 sc fk kids, fs[j]'hjl = .mk k0 id0 nm0 n0 ids (.mk k1 nm1 n1 sc fk) kids := by
          have hcs : ∀ x : C, ∃ k0 id0 nm0 n0 ids k1 nm1 n1 sc fk kids, x = .mk k0 id0 nm0 n0 ids (.mk k1 nm1 n1 sc fk) kids := fun x => by
            obtain ⟨k0, id0, nm0, n0, ids, data, kids⟩ := x
            obtain ⟨k1, nm1, n1, sc, fk⟩ := data
            exact ⟨_, _, _, _, _, _, _, _, _, _, _, rfl⟩
          exact hcs _
        obtain ⟨k0, id0, nm0, n0, ids, k1, nm1, n1, sc, fk, kids, hf⟩ := hf
        rw [List.drop_eq_getElem_cons hjl, hf] at ho2
        obtain ⟨ve, vr, be, br, hR, hbr, he, hr⟩ := ho2.split
        obtain ⟨v4, v8, v9, v10, b4, b8, b9, b10, rfl, rfl, hnm, hnm1, h4, h8, h9, h10⟩ := he.core
        obtain ⟨R', rfl⟩ : ∃ R', R = .int .i64 k0 :: .int .i64 id0 :: .string nm0 :: .int .i64 n0 :: v4 :: .int .i64 k1 :: .string nm1 :: .int .i64 n1 :: v8 :: v9 :: v10 :: R' := by
          rw [show (n - j) * 11 = (n - j - 1) * 11 + 11 by omega] at hR
          match R, hR with
          | y0 :: y1 :: y2 :: y3 :: y4 :: y5 :: y6 :: y7 :: y8 :: y9 :: y10 :: R', hR =>
            simp at hR
            obtain ⟨rfl, rfl, rfl, rfl, rfl, rfl, rfl, rfl, rfl, rfl, rfl, _⟩ := hR
            exact ⟨R', rfl⟩
        have hkc : C.mcs (fs.drop j) = 4 + ids.length + (3 + sc.length + F.mcs fk) + C.mcs kids + C.mcs (fs.drop (j + 1)) := by rw [List.drop_eq_getElem_cons hjl, hf]; simp [C.mcs, C.mc, F.mc]
        have HKC := Lib.hid hkc
        have HF := Lib.hid hf
        have H4 := Lib.hid h4
        have H8 := Lib.hid h8
        have H9 := Lib.hid h9
        have H10 := Lib.hid h10
        have HRR := Lib.hid hr
        have HBR := Lib.hid hbr
        have HRE := Lib.hid hR
        have hnod := show (g :: (b1 ++ (b4 ++ (b8 ++ b9) ++ b10 ++ br))).Nodup by have h1 := HND.out; rwa [← HB.out, hbr] at h1
        have DJ := Lib.hid (nodup7 hnod)
        have DJ' := Lib.hid (nodup7' hnod)
        have hp3 : p + 7 ≤ 1000000000000 := by have := HP.out; have := HK.out; omega
        clear hkc hf h4 h8 h9 h10 hr hbr hR he hnm hnm1 ho2 HO2 hnod
        have q0 : wr.cell? ⟨g, j * 11, none⟩ = some (.int .i64 k0) := (cell_of_row _ _ _ _ _ _ HG1.out).trans ((arr_at A _ (j * 11) 0 HA.out).trans rfl)
        have q1 : wr.cell? ⟨g, j * 11 + 1, none⟩ = some (.int .i64 id0) := (cell_of_row _ _ _ _ _ _ HG1.out).trans ((arr_at A _ (j * 11) 1 HA.out).trans rfl)
        have f0 : ∀ o, wr.frozen? ⟨g, o, none⟩ = false := fun o => frozen_of_row _ _ _ _ _ HG1.out
        go_wp2_with fail
        clear q0 q1 f0
        refine calls_set2 HG1.out (fun W B _ _ _ hon => ?_)
        refine (markText_any (p + 2) _ (by omega) _ (by omega) (by omega)).mono ?_
        rintro e w2 ⟨rfl, hb⟩
        rw [show (A ++ .int .i64 k0 :: .int .i64 id0 :: .string nm0 :: .int .i64 n0 :: v4 :: .int .i64 k1 :: .string nm1 :: .int .i64 n1 :: v8 :: v9 :: v10 :: R').toArray.setIfInBounds (j * 11) (.int .i64 p) = (A ++ .int .i64 p :: .int .i64 id0 :: .string nm0 :: .int .i64 n0 :: v4 :: .int .i64 k1 :: .string nm1 :: .int .i64 n1 :: v8 :: v9 :: v10 :: R').toArray from arr_set A _ (j * 11) 0 _ HA.out, arr_set _ _ _ 1 _ HA.out] at B
        have HG2 := Lib.hid (blk_bel B hb)
        have HOn2 := Lib.hid (hon.below hb)
        clear B hon hb
        have q2 : w2.cell? ⟨g, j * 11 + 2, none⟩ = some (.string nm0) := (cell_of_row _ _ _ _ _ _ HG2.out).trans ((arr_at A _ (j * 11) 2 HA.out).trans rfl)
        have q3 : w2.cell? ⟨g, j * 11 + 3, none⟩ = some (.int .i64 n0) := (cell_of_row _ _ _ _ _ _ HG2.out).trans ((arr_at A _ (j * 11) 3 HA.out).trans rfl)
        have q4 : w2.cell? ⟨g, j * 11 + 4, none⟩ = some v4 := (cell_of_row _ _ _ _ _ _ HG2.out).trans ((arr_at A _ (j * 11) 4 HA.out).trans rfl)
        have f1 : ∀ o, w2.frozen? ⟨g, o, none⟩ = false := fun o => frozen_of_row _ _ _ _ _ HG2.out
        go_wp2_with fail
        clear q2 q3 q4 f1
        refine calls_set2 HG2.out (fun W B _ _ _ hon => ?_)
        rw [arr_set _ _ _ 2 _ HA.out, arr_set _ _ _ 3 _ HA.out] at B
        obtain ⟨d1, d4, d8, d9, d10, dr⟩ := DJ.out
        have onW := HOn2.out.trans hon (fun b hb => .inl hb)
        have hg1 : ∀ b, b ≠ g → b ∉ [g] := fun b h => by simpa using h
        have H4' := Lib.hid (onW.owns H4.out (fun b hb => hg1 b (d4 b hb).1))
        refine (markIntS_any ids v4 b4 (p + 4) _ (by omega) _ H4'.out (by have := HKC.out; have := HP.out; have := HK.out; omega) (by omega)).mono ?_
        rintro e w3 ⟨rfl, h4, hon3⟩
        have HG3 := Lib.hid ((hon3.block g (blk_lt' B) (fun h => (d4 g h).1 rfl)).trans B)
        have ON3 := Lib.hid ((onW.mono (cs := g :: b4) (by simp)).trans hon3 (fun b hb => .inl (by simp [hb])))
        have H43 := Lib.hid h4
        have hP : ∃ P : Nat, P = p + 4 + ids.length := ⟨_, rfl⟩
        obtain ⟨P, hP⟩ := hP
        rw [show p + 4 + ids.length = P from hP.symm]
        have HPP := Lib.hid hP
        have hP12 : P + 3 ≤ 1000000000000 := by have := HKC.out; have := HP.out; have := HK.out; omega
        have hP0 : 0 < P := by omega
        clear onW hg1 h4 hon3 B hon H4' H4 hP d1 d4 d8 d9 d10 dr
        have q5 : w3.cell? ⟨g, j * 11 + 5, none⟩ = some (.int .i64 k1) := (cell_of_row _ _ _ _ _ _ HG3.out).trans ((arr_at A _ (j * 11) 5 HA.out).trans rfl)
        have f1 : ∀ o, w3.frozen? ⟨g, o, none⟩ = false := fun o => frozen_of_row _ _ _ _ _ HG3.out
        go_wp2_with fail
        clear q5 f1
        refine calls_set HG3.out (fun W B _ _ _ hon => ?_)
        rw [arr_set _ _ _ 5 _ HA.out] at B
        refine (markText_any (P + 1) _ (by omega) _ (by omega) (by omega)).mono ?_
        rintro e w4 ⟨rfl, hb⟩
        have HG4 := Lib.hid (blk_bel B hb)
        have HOn4 := Lib.hid (hon.below hb)
        clear B hon hb
        have q6 : w4.cell? ⟨g, j * 11 + 5 + 1, none⟩ = some (.string nm1) := (cell_of_row _ _ _ _ _ _ HG4.out).trans ((arr_at A _ (j * 11) 6 HA.out).trans rfl)
        have q7 : w4.cell? ⟨g, j * 11 + 5 + 2, none⟩ = some (.int .i64 n1) := (cell_of_row _ _ _ _ _ _ HG4.out).trans ((arr_at A _ (j * 11) 7 HA.out).trans rfl)
        have q8 : w4.cell? ⟨g, j * 11 + 5 + 3, none⟩ = some v8 := (cell_of_row _ _ _ _ _ _ HG4.out).trans ((arr_at A _ (j * 11) 8 HA.out).trans rfl)
        have f1 : ∀ o, w4.frozen? ⟨g, o, none⟩ = false := fun o => frozen_of_row _ _ _ _ _ HG4.out
        go_wp2_with fail
        clear q6 q7 q8 f1
        refine calls_set2 HG4.out (fun W B _ _ _ hon => ?_)
        rw [arr_setd _ _ _ 1 _ HA.out, arr_setd _ _ _ 2 _ HA.out] at B
        obtain ⟨d1, d4, d8, d9, d10, dr⟩ := DJ.out
        have onW := HOn4.out.trans hon (fun b hb => .inl hb)
        have on0 := ON3.out.trans onW (fun b hb => .inl (by simp at hb; simp [hb]))
        have H8' := Lib.hid (on0.owns H8.out (fun b hb => by have := d8 b hb; simp; exact ⟨this.1, this.2.1⟩))
        refine (markIntS_any sc v8 b8 (P + 3) _ (by omega) _ H8'.out (by have := HKC.out; have := HP.out; have := HK.out; omega) (by omega)).mono ?_
        rintro e w5 ⟨rfl, h8, hon5⟩
        have HG5 := Lib.hid ((hon5.block g (blk_lt' B) (fun h => (d8 g h).1 rfl)).trans B)
        have n5 := (onW.mono (cs := g :: b8) (by simp)).trans hon5 (fun b hb => .inl (by simp [hb]))
        have t5 := (ON3.out.mono (cs := g :: (b4 ++ b8)) (fun b => gl)).trans n5 (fun b hb => .inl (gr hb))
        have H9' := Lib.hid (t5.owns H9.out (fun b hb => by have := d9 b hb; simp; exact ⟨this.1, this.2.1, this.2.2.1⟩))
        have N5 := Lib.hid n5
        have H85 := Lib.hid h8
        obtain ⟨Q, hQ⟩ : ∃ Q : Nat, Q = P + 3 + sc.length := ⟨_, rfl⟩
        rw [show P + 3 + sc.length = Q from hQ.symm]
        have HQQ := Lib.hid hQ
        have hQ0 : 0 < Q := by omega
        have hQ12 : Q ≤ 1000000000000 := by have := HKC.out; have := HP.out; have := HK.out; have := HPP.out; omega
        clear onW on0 h8 hon5 B hon H8' H8 hQ d1 d4 d8 d9 d10 dr n5 t5
        have q9 : w5.cell? ⟨g, j * 11 + 5 + 4, none⟩ = some v9 := (cell_of_row _ _ _ _ _ _ HG5.out).trans ((arr_at A _ (j * 11) 9 HA.out).trans rfl)
        go_wp2_with fail
        clear q9
        refine (markFS_any (F.sizes fk + 1) fk v9 b9 Q _ _ (by omega) (by omega) H9'.out DJ'.out.1 (by omega) (by have := HKC.out; have := HP.out; have := HK.out; have := HPP.out; have := HQQ.out; omega)).mono ?_
        rintro e w6 ⟨fk', rfl, hm6, hl6, h9, hon6⟩
        obtain ⟨d1, d4, d8, d9, d10, dr⟩ := DJ.out
        have HG6 := Lib.hid ((hon6.block g (blk_lt' HG5.out) (fun h => (d9 g h).1 rfl)).trans HG5.out)
        have n6 := (N5.out.mono (cs := g :: (b8 ++ b9)) (fun b => gl)).trans hon6 (fun b hb => .inl (gi hb))
        have t6 := (ON3.out.mono (cs := g :: (b4 ++ (b8 ++ b9))) (fun b => gl)).trans n6 (fun b hb => .inl (gr hb))
        have H10' := Lib.hid (t6.owns H10.out (fun b hb => by have := d10 b hb; simp; exact ⟨this.1, this.2.1, this.2.2.1, this.2.2.2⟩))
        have N6 := Lib.hid n6
        have HM6 := Lib.hid hm6
        have H96 := Lib.hid h9
        have H86 := Lib.hid (hon6.owns H85.out (fun b hb => (d8 b hb).2.2.1))
        obtain ⟨Z, hZ⟩ : ∃ Z : Nat, Z = Q + F.mcs fk := ⟨_, rfl⟩
        rw [show Q + F.mcs fk = Z from hZ.symm]
        rw [show Q + F.mcs fk = Z from hZ.symm] at hm6
        have HM6 := Lib.hid hm6
        have HZZ := Lib.hid hZ
        have hZ0 : 0 < Z := by omega
        have hZ12 : Z ≤ 1000000000000 := by have := HKC.out; have := HP.out; have := HK.out; have := HPP.out; have := HQQ.out; omega
        clear h9 hon6 hm6 hl6 hZ d1 d4 d8 d9 d10 dr n6 t6 H9' H9 N5 H85
        have q10 : w6.cell? ⟨g, j * 11 + 10, none⟩ = some v10 := (cell_of_row _ _ _ _ _ _ HG6.out).trans ((arr_at A _ (j * 11) 10 HA.out).trans rfl)
        go_wp2_with fail
        clear q10
        refine (HI.out kids v10 b10 Z _ _ (by omega) ?_ H10'.out DJ'.out.2 (by omega) (by have := HKC.out; have := HP.out; have := HK.out; have := HPP.out; have := HQQ.out; have := HZZ.out; omega)).mono ?_
        · have := C.sizes_get fs j hjl
          rw [HF.out] at this
          have h2 := HSZ.out
          simp [C.size] at this
          omega
        rintro e w7 ⟨kids', rfl, hm7, hl7, h10, hon7⟩
        obtain ⟨d1, d4, d8, d9, d10, dr⟩ := DJ.out
        have HG7 := Lib.hid ((hon7.block g (blk_lt' HG6.out) (fun h => (d10 g h).1 rfl)).trans HG6.out)
        have n7 := (N6.out.mono (cs := g :: (b8 ++ b9 ++ b10)) (fun b => gl)).trans hon7 (fun b hb => .inl (gi hb))
        have t7 := (ON3.out.mono (cs := g :: (b4 ++ (b8 ++ b9 ++ b10))) (fun b => gl)).trans n7 (fun b hb => .inl (gr hb))
        have H1' := Lib.hid (t7.owns HO1.out (fun b hb => by have := d1 b hb; simp; exact this))
        have HR' := Lib.hid (t7.owns HRR.out (fun b hb => by have := dr b hb; simp; exact this))
        have H47 := Lib.hid (n7.owns H43.out (fun b hb => by have := d4 b hb; simp; exact this))
        have H87 := Lib.hid (hon7.owns H86.out (fun b hb => (d8 b hb).2.2.2))
        have H97 := Lib.hid (hon7.owns H96.out (fun b hb => (d9 b hb).2.2.2))
        have H107 := Lib.hid h10
        have T7 := Lib.hid t7
        obtain ⟨Y, hY⟩ : ∃ Y : Nat, Y = Z + C.mcs kids := ⟨_, rfl⟩
        rw [show Z + C.mcs kids = Y from hY.symm]
        rw [show Z + C.mcs kids = Y from hY.symm] at hm7
        have HM7 := Lib.hid hm7
        have HYY := Lib.hid hY
        have hY0 : 0 < Y := by omega
        have hY12 : Y ≤ 1000000000000 := by have := HKC.out; have := HP.out; have := HK.out; have := HPP.out; have := HQQ.out; have := HZZ.out; omega
        clear h10 hon7 hm7 hl7 hY d1 d4 d8 d9 d10 dr n7 t7 H10' H10 N6 H86
        go_wp2_with fail
        go_roundw
        case rel =>
          refine ⟨j + 1, Y, A ++ [.int .i64 p, .int .i64 ((p : Int) + 1), .string (mtext (p + 2)), .int .i64 ((p : Int) + 1 + 1 + 1), v4, .int .i64 P, .string (mtext (P + 1)), .int .i64 ((P : Int) + 1 + 1), v8, v9, v10], R', done ++ [.mk p ((p : Int) + 1) (mtext (p + 2)) ((p : Int) + 1 + 1 + 1) (upFrom (p + 4) ids.length) (.mk (P : Int) (mtext (P + 1)) ((P : Int) + 1 + 1) (upFrom (P + 3) sc.length) fk') kids'], b1 ++ (b4 ++ ((b8 ++ b9) ++ b10)), br, by omega, by omega, hY12, by go_num, rfl, ?_, ?_, ?_, ?_, ?_, ?_, ?_, ?_, ?_, ?_⟩
          · have := HKC.out; have := HP.out; have := HPP.out; have := HQQ.out; have := HZZ.out; have := HYY.out; show _ = _; omega
          · have := HG7.out
            simp only [List.set_cons_succ, List.set_cons_zero] at this
            show _ = _
            rw [this, List.append_assoc]
            rfl
          · have := HA.out; show _ = _; simp [this]; omega
          · have := HL.out; show _ = _; simp at this ⊢; omega
          · have h1 := HPP.out
            have h2 := HQQ.out
            have h6 := HM6.out
            have h7 := HM7.out
            subst h1
            subst h2
            exact HM.out.append (.cons _ _ h6 h7 (.nil _))
          · have := HD.out; show _ = _; simp [this]
          · show Owns _ _ _ _
            rw [C.dss_append]
            refine H1'.out.append ?_
            have hf := Owns.form_mk (t := 31) (k := P) (n := (P : Int) + 1 + 1) (nm := mtext (P + 1)) (by have := mtext_size (P + 1) (by omega); unfold maxLen; omega) H87.out H97.out
            have := Owns.core_mk (t := 45) (k := p) (id := (p : Int) + 1) (n := (p : Int) + 1 + 1 + 1) (nm := mtext (p + 2)) (by have := mtext_size (p + 2) (by omega); unfold maxLen; omega) H47.out hf H107.out
            simpa [C.dss] using this
          · have h1 := HRE.out
            rw [show (n - j) * 11 = (n - (j + 1)) * 11 + 11 by omega] at h1
            simp at h1
            show Owns _ _ _ _
            rw [h1]
            exact HR'.out
          · have h1 := HB.out
            have h2 := HBR.out
            show _ = _
            rw [← h1, h2]
            simp
          · refine HOn.out.trans T7.out (fun b hb => .inl ?_)
            have h1 := HB.out
            have h2 := HBR.out
            rw [← h1, h2]
            simp at hb ⊢
            grind
        case measure => simp [intOf]; omega
      · go_wp2_with fail
        go_ret
        obtain rfl : j = n := by omega
        have h3 := HP.out
        have h4 := HN.out
        rw [h4, List.drop_length] at h3
        simp [C.mcs] at h3
        subst h3
        refine ⟨done, rfl, HM.out, HD.out.trans h4, ?_, HOn.out⟩
        have h6 := HO2.out
        rw [h4, List.drop_length] at h6
        have h7 : b2 = [] := by
          rw [Nat.sub_self] at h6
          simp [C.dss] at h6
          cases h6
          rfl
        have h8 := HB.out
        rw [h7, List.append_nil] at h8
        rw [← h8]
        refine Owns.row_mk HG1.out hnc HC.out (by have := HL.out; simpa using this) ?_
        have h9 := HA.out
        rw [← h9]
        simpa using HO1.out
theorem markCS_any (m : Nat) : MarkCS m := by
  induction m with
  | zero => intro fs v bs k q w hq hs; omega
  | succ m ih => exact markCS_step m ih
set_option maxHeartbeats 1000000 in
theorem markCore_any (k0 id0 n0 : Int) (nm0 : ByteArray) (ids : List Int) (k1 n1 : Int) (nm1 : ByteArray) (sc : List Int) (fk : List F) (kids : List C) (vs : List Value) (bs : List Nat) (k : Nat) (q : Int) (hq : q = k) (w : World) (ho : Owns w vs (C.ds 45 31 (.mk k0 id0 nm0 n0 ids (.mk k1 nm1 n1 sc fk) kids)) bs) (hnd : bs.Nodup) (hk0 : 0 < k) (hk : k + ids.length + sc.length + F.mcs fk + C.mcs kids ≤ 1000000000000) :
    Calls Tryd.prog 21 #[.agg vs.toArray, .int .i64 q] w fun e w' => ∃ fk' kids', e = .returned (.int .i64 ((k + ids.length + sc.length + F.mcs fk + C.mcs kids : Nat) : Int)) ∧
      MarkedF (k + ids.length + sc.length) fk' (k + ids.length + sc.length + F.mcs fk) ∧ MarkedC (k + ids.length + sc.length + F.mcs fk) kids' (k + ids.length + sc.length + F.mcs fk + C.mcs kids) ∧
      Owns w' vs (C.ds 45 31 (.mk k0 id0 nm0 n0 (upFrom k ids.length) (.mk k1 nm1 n1 (upFrom (k + ids.length) sc.length) fk') kids')) bs ∧ Only w w' bs := by
  subst hq
  obtain ⟨v4, v8, v9, v10, b4, b8, b9, b10, rfl, rfl, hnm, hnm1, h4, h8, h9, h10⟩ := ho.core
  have DJ : Hid ((∀ b, b ∈ b4 → b ∉ b8 ∧ b ∉ b9 ∧ b ∉ b10) ∧ (∀ b, b ∈ b8 → b ∉ b4 ∧ b ∉ b9 ∧ b ∉ b10) ∧ (∀ b, b ∈ b9 → b ∉ b4 ∧ b ∉ b8 ∧ b ∉ b10) ∧ (∀ b, b ∈ b10 → b ∉ b4 ∧ b ∉ b8 ∧ b ∉ b9) ∧ (b8 ++ b9).Nodup ∧ b10.Nodup) := by
    simp only [List.nodup_append, List.mem_append] at hnd
    show _ ∧ _
    refine ⟨fun b hb => ⟨?_, ?_, ?_⟩, fun b hb => ⟨?_, ?_, ?_⟩, fun b hb => ⟨?_, ?_, ?_⟩, fun b hb => ⟨?_, ?_, ?_⟩, ?_, ?_⟩
    rotate_right
    · exact hnd.2.1
    rotate_right
    · exact List.nodup_append.2 hnd.1.2.1
    all_goals grind
  have H4 := Lib.hid h4
  have H8 := Lib.hid h8
  have H9 := Lib.hid h9
  have H10 := Lib.hid h10
  clear ho h4 h8 h9 h10 hnd
  go_enter Tryd.func21, Tryd.ntmps21
  go_wp2_with fail
  refine calls_alloc1 (fun W B0 hz hbw => ?_)
  refine (markIntS_any ids v4 b4 k _ (by omega) _ (H4.out.bel hbw) (by omega) (by omega)).mono ?_
  rintro e w1 ⟨rfl, h41, on1⟩
  have C0 := Lib.hid ((on1.block _ (blk_lt' B0) (fun h => by have := H4.out.lt _ h; omega)).trans B0)
  have ON1 := Lib.hid ((Only.of_below hbw b4).trans on1 (fun b hb => .inl hb))
  have H41 := Lib.hid h41
  have hz1 : w.heap.size < w1.heap.size := blk_lt' C0.out
  clear B0 hz hbw on1 h41
  obtain ⟨P, hP⟩ : ∃ P : Nat, P = k + ids.length := ⟨_, rfl⟩
  rw [show k + ids.length = P from hP.symm]
  rw [show k + ids.length = P from hP.symm] at hk
  have hP0 : 0 < P := by omega
  have HPP := Lib.hid hP
  clear hP
  obtain ⟨r0, _⟩ := blk_rules C0.out
  go_wp2_with fail
  clear r0
  have HF := Lib.hid (Owns.form_mk (t := 31) (k := k1) (n := n1) hnm1 (ON1.out.owns H8.out (fun b hb => (DJ.out.2.1 b hb).1)) (ON1.out.owns H9.out (fun b hb => (DJ.out.2.2.1 b hb).1)))
  refine (markForm_any k1 n1 nm1 sc fk [.int .i64 k1, .string nm1, .int .i64 n1, v8, v9] (b8 ++ b9) P _ (by omega) _ HF.out DJ.out.2.2.2.2.1 (by omega) (by omega)).mono ?_
  rintro e w2 ⟨fk', rfl, hm, hl, hf2, on2⟩
  have C1 := Lib.hid ((on2.block _ (blk_lt' C0.out) (fun h => by rcases List.mem_append.1 h with h | h; (have := H8.out.lt _ h; omega); (have := H9.out.lt _ h; omega))).trans C0.out)
  have ON2 := Lib.hid ((ON1.out.mono (cs := b4 ++ (b8 ++ b9)) (by simp; grind)).trans on2 (fun b hb => .inl (by simp at hb ⊢; grind)))
  have HF2 := Lib.hid hf2
  have HM2 := Lib.hid hm
  have H42 := Lib.hid (on2.owns H41.out (fun b hb => by have := DJ.out.1 b hb; simp; exact ⟨this.1, this.2.1⟩))
  clear hf2 hm hl on2 HF H41 C0
  obtain ⟨r0, _⟩ := blk_rules C1.out
  go_wp2_with fail
  clear r0
  refine (markCS_any (C.sizes kids + 1) kids v10 b10 (P + sc.length + F.mcs fk) _ _ (by omega) (by omega) (ON2.out.owns H10.out (fun b hb => by have := DJ.out.2.2.2.1 b hb; simp; exact this)) DJ.out.2.2.2.2.2 (by omega) (by omega)).mono ?_
  rintro e w3 ⟨kids', rfl, hm, hl, h10, on3⟩
  have H103 := Lib.hid h10
  have HM3 := Lib.hid hm
  have HF3 := Lib.hid (on3.owns HF2.out (fun b hb => by rcases List.mem_append.1 hb with h | h; exact (DJ.out.2.1 b h).2.2; exact (DJ.out.2.2.1 b h).2.2))
  have H43 := Lib.hid (on3.owns H42.out (fun b hb => (DJ.out.1 b hb).2.2))
  have ON3 := Lib.hid ((ON2.out.mono (cs := b4 ++ (b8 ++ b9) ++ b10) (by simp; grind)).trans on3 (fun b hb => .inl (by simp [hb])))
  clear h10 hm hl on3
  go_wp2_with fail
  go_ret
  obtain rfl := HPP.out
  refine ⟨fk', kids', ret_i64 (by omega), HM2.out, HM3.out, ?_, ON3.out⟩
  have := Owns.core_mk (t := 45) (k := k0) (id := id0) (n := n0) hnm H43.out HF3.out H103.out
  rw [List.append_assoc]
  exact this
end Go.Proofs.YtnooeebefhfjcaaDoor
