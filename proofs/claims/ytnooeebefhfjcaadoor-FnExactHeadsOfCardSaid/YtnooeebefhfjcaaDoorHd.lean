/- HeadsOf: the counts of calls, by both. -/
import Derived.Test.YtnooeebefhfjcaaDoorEachC
import Derived.Test.YtnooeebefhfjcaaDoorPr
import Derived.Deep.Cut
import Derived.Deep.CutRange
set_option linter.unusedVariables false
set_option linter.unusedSimpArgs false
namespace Go.Proofs.YtnooeebefhfjcaaDoor
open Go Go.RowKit
structure Q4 where
  a : Nat
  b : Nat
  c : Nat
  d : Nat
def Q4.ints (q : Q4) : List Int := [(q.a : Int), q.b, q.c, q.d]
def Q4.cells (q : Q4) : Array Value := #[.int .i64 q.a, .int .i64 q.b, .int .i64 q.c, .int .i64 q.d]
def bump : Nat → Q4 → Q4
  | 0, q => { q with a := q.a + 1 }
  | 1, q => { q with b := q.b + 1 }
  | 2, q => { q with c := q.c + 1 }
  | _, q => { q with d := q.d + 1 }
def headNo (k : Int) (nm : ByteArray) : Nat := if k = 5 then 0 else if k = 2 ∧ hasS nm primNames = true then 1 else if k = 1 then 2 else 3
def hdStep (q : Q4) : C → Q4
  | .mk k _ _ _ _ _ [] => q
  | .mk k _ _ _ _ _ (.mk k0 _ nm0 _ _ _ _ :: _) => if k = 6 then bump (headNo k0 nm0) q else q
def Q4.sum (q : Q4) : Nat := q.a + q.b + q.c + q.d
theorem bump_sum (i : Nat) (q : Q4) : (bump i q).sum = q.sum + 1 := by
  unfold bump Q4.sum
  split <;> simp only <;> omega
theorem hdStep_sum (q : Q4) (c : C) : (hdStep q c).sum ≤ q.sum + 1 := by
  unfold hdStep
  split
  · omega
  · split
    · rw [bump_sum]; omega
    · omega
def isPrim (k : Int) (nm : ByteArray) : Bool := decide (k = 2 ∧ hasS nm primNames = true)
set_option maxHeartbeats 1000000 in
theorem isPrimitive_any (k id n : Int) (nm : ByteArray) (v4 v5 v6 v7 v8 v9 v10 : Value) (w : World) (hp : PrimLaid w) :
    Calls Tryd.prog 44 #[.agg #[.int .i64 k, .int .i64 id, .string nm, .int .i64 n, v4, v5, v6, v7, v8, v9, v10]] w fun e w' => e = .returned (.bool (isPrim k nm)) ∧ Below w.heap.size w w' := by
  have HP := Lib.hid hp
  clear hp
  by_cases hk : k = 2
  · have hkb : (k == 2) = true := by simpa using hk
    have HR : Hid (isPrim k nm = hasS nm primNames) := by show _ = _; unfold isPrim; simp [hk]
    rw [HR.out]
    clear HR hk
    go_enter Tryd.func44, Tryd.ntmps44
    go_wp2_with fail
    go_region_with (go_at_call 35; refine (containsS_any primNames nm _ _ 6 6 _ rfl (HP.out.belAll ((Below.refl _ _).alloc (Nat.le_refl _) _)).drew).mono ?_; rintro e w1 ⟨rfl, rfl⟩)
    go_wp2_with fail
    all_goals
      go_ret
      exact ⟨rfl, ((Below.refl _ _).alloc (Nat.le_refl _) _).drew⟩
  · have hkb : (k == 2) = false := by simpa using hk
    have HR : Hid (isPrim k nm = false) := by show _ = _; unfold isPrim; simp [hk]
    rw [HR.out]
    clear HR hk
    go_enter Tryd.func44, Tryd.ntmps44
    go_wp2_with fail
    go_quiet (fail)
    go_wp2_with fail
    all_goals
      go_ret
      exact ⟨rfl, ((Below.refl _ _).alloc (Nat.le_refl _) _).trans ⟨rfl, rfl, rfl, Nat.le_refl _, fun _ _ => rfl⟩⟩
def HeadsAt (g : Nat) (q : Q4) (w : World) : Prop := w.heap[g]? = some (.cells q.cells 3 (0, 0))
mutual
theorem C.wsum_one : ∀ f : C, C.wsum (fun _ => 1) f = f.size
  | .mk k id nm n ids data kids => by have := C.wsums_one kids; simp only [C.wsum, C.size, this]; omega
theorem C.wsums_one : ∀ fs : List C, C.wsums (fun _ => 1) fs = C.sizes fs
  | [] => rfl
  | f :: fs => by have h1 := C.wsum_one f; have h2 := C.wsums_one fs; simp only [C.wsums, C.sizes, h1, h2]
end
def HdC (m : Nat) : Prop := ∀ (c : C) (q : Q4) (g : Nat) (S : Nat → Prop) (vs : List Value) (w : World), c.size < m → (∀ b, S b → b ≠ g) → HeadsAt g q w → q.sum + c.size ≤ 1000000000000 → Reads w S vs (c.ds 45 31) →
    Calls Tryd.prog 40 #[.slice (some ⟨g, 0, none⟩) 4 4, .agg vs.toArray] w fun e w' => e = .returned (.slice (some ⟨g, 0, none⟩) 4 4) ∧ HeadsAt g (C.fold hdStep q c) w' ∧ Only w w' [g]
theorem HeadsAt.only {g : Nat} {q : Q4} {w w' : World} {bs : List Nat} (h : HeadsAt g q w) (ho : Only w w' bs) (hg : g ∉ bs) : HeadsAt g q w' := (ho.block _ (blk_lt' h) hg).trans h
set_option maxHeartbeats 4000000 in
theorem hdC_step (m : Nat) (ih : HdC m) : HdC (m + 1) := by
  intro cc q g S vs w hsz hsg hI hw hr
  obtain ⟨qa, qb, qc, qd⟩ := q
  obtain ⟨k, id, nm, n, ids, data, kids⟩ := cc
  obtain ⟨k1, nm1, n1, sc, fk⟩ := data
  obtain ⟨A4, c4, A8, c8, A9, c9, A6, c6, rfl, hb, hb1, h4, h5, h6⟩ := hr.core'
  have hm := h6.sl_le.2
  unfold maxLen at hm
  have HR6 := Lib.hid h6
  have HI := Lib.hid hI
  have HSG := Lib.hid hsg
  have HIH := Lib.hid ih
  have HGL := Lib.hid (blk_lt' hI)
  have HS : Hid (C.sizes kids < m) := by simp [C.size] at hsz; exact hsz
  have HW : Hid ((Q4.mk qa qb qc qd).sum + (C.sizes kids + 1) ≤ 1000000000000) := hw
  clear hr h4 h5 h6 hI hsg ih hsz hb hb1 hw
  by_cases hk : k = 6 ∧ kids ≠ []
  · obtain ⟨rfl, hkn⟩ := hk
    obtain ⟨y0, ys, rfl⟩ := List.exists_cons_of_ne_nil hkn
    obtain ⟨k0, id0, nm0, n0, ids0, dat0, ks0⟩ := y0
    have HR6' := HR6
    obtain ⟨ad, z0, z1, z2, z3, z4, z5, z6, z7, z8, z9, z10, rfl, hel, hc0, hc1, hc2, hx3⟩ := HR6.out.elemC (show 0 < (C.mk k0 id0 nm0 n0 ids0 dat0 ks0 :: ys).length by simp)
    obtain ⟨q0, q1, q2, q3, q4, q5, q6, q7, q8, e, hx4⟩ := Reads.core (show Reads w S _ (C.ds 45 31 (.mk k0 id0 nm0 n0 ids0 dat0 ks0)) from hel)
    injection e with e0 e
    injection e with e1 e
    injection e with e2 e
    subst e0 e1 e2
    clear e hel hc1 hx3 hx4
    have hd0 : w.cell? ad = some (.int .i64 k0) := by simpa [Addr.add] using hc0
    have hd2 : w.cell? ⟨ad.block, ad.off + 2, none⟩ = some (.string nm0) := by simpa [Addr.add] using hc2
    clear hc0 hc2
    obtain ⟨kids, hkids⟩ : ∃ kids, (C.mk k0 id0 nm0 n0 ids0 dat0 ks0 :: ys) = kids := ⟨_, rfl⟩
    have HST : Hid (hdStep ⟨qa, qb, qc, qd⟩ (.mk 6 id nm n ids (.mk k1 nm1 n1 sc fk) kids) = bump (headNo k0 nm0) ⟨qa, qb, qc, qd⟩) := by show _ = _; rw [← hkids]; rfl
    have hkl : 0 < kids.length := by rw [← hkids]; simp
    rw [hkids] at HR6 hm HS HW ⊢
    clear hkids hkn
    go_enter Tryd.func40, Tryd.ntmps40
    go_upto_if 15 with fail
    obtain ⟨wq, hwq⟩ : ∃ wq, w.alloc (.cells #[.int .i64 6, .int .i64 id, .string nm, .int .i64 n, .slice A4 ids.length c4, .int .i64 k1, .string nm1, .int .i64 n1, .slice A8 sc.length c8, .slice A9 fk.length c9, .slice (some ad) kids.length c6] 45) = wq := ⟨_, rfl⟩
    rw [hwq]
    have hbq : Below w.heap.size w wq := by rw [← hwq]; exact (Below.refl _ _).alloc (Nat.le_refl _) _
    have HBQ := Lib.hid hbq
    have HC : Hid (wq.heap[w.heap.size]? = some (.cells #[.int .i64 6, .int .i64 id, .string nm, .int .i64 n, .slice A4 ids.length c4, .int .i64 k1, .string nm1, .int .i64 n1, .slice A8 sc.length c8, .slice A9 fk.length c9, .slice (some ad) kids.length c6] 45 (0, 0))) := by rw [← hwq]; exact blk_new _ _
    have HQ0 : Hid (HeadsAt g ⟨qa, qb, qc, qd⟩ wq) := by rw [← hwq]; exact blk_alloc HI.out _
    have hd0 := World.cell_bel hbq hd0
    have hd2 := World.cell_bel hbq hd2
    have HD0 := Lib.hid hd0
    have HD2 := Lib.hid hd2
    have hgz : ¬ w.heap.size = g := by have := HGL.out; omega
    clear hwq hbq
    obtain ⟨r0, _⟩ := blk_rules HC.out
    obtain ⟨rg, fg⟩ := blk_rules (show wq.heap[g]? = some (.cells #[.int .i64 qa, .int .i64 qb, .int .i64 qc, .int .i64 qd] 3 (0, 0)) from HQ0.out)
    have hqs : qa + qb + qc + qd ≤ 1000000000000 := by have := HW.out; simp [Q4.sum] at this; omega
    go_cut [] from 5 to 53 (fun wx => Hid (HeadsAt g (hdStep ⟨qa, qb, qc, qd⟩ (.mk 6 id nm n ids (.mk k1 nm1 n1 sc fk) kids)) wx) ∧ Hid (Only w wx [g]) ∧ Hid (wx.heap[w.heap.size]? = some (.cells #[.int .i64 6, .int .i64 id, .string nm, .int .i64 n, .slice A4 ids.length c4, .int .i64 k1, .string nm1, .int .i64 n1, .slice A8 sc.length c8, .slice A9 fk.length c9, .slice (some ad) kids.length c6] 45 (0, 0))))
    case first =>
      have fin : ∀ (i : Nat) (w1 : World) (j : Nat) (v : Int), headNo k0 nm0 = i → Below wq.heap.size wq w1 → (Q4.cells ⟨qa, qb, qc, qd⟩).setIfInBounds j (.int .i64 v) = (bump i ⟨qa, qb, qc, qd⟩).cells → Hid (HeadsAt g (hdStep ⟨qa, qb, qc, qd⟩ (.mk 6 id nm n ids (.mk k1 nm1 n1 sc fk) kids)) (w1.setCell ⟨g, j, none⟩ (.int .i64 v))) ∧ Hid (Only w (w1.setCell ⟨g, j, none⟩ (.int .i64 v)) [g]) ∧ Hid ((w1.setCell ⟨g, j, none⟩ (.int .i64 v)).heap[w.heap.size]? = some (.cells #[.int .i64 6, .int .i64 id, .string nm, .int .i64 n, .slice A4 ids.length c4, .int .i64 k1, .string nm1, .int .i64 n1, .slice A8 sc.length c8, .slice A9 fk.length c9, .slice (some ad) kids.length c6] 45 (0, 0))) := by
        intro i w1 j v hi hb1 hv
        refine ⟨?_, ?_, ?_⟩
        · show HeadsAt _ _ _
          rw [HST.out, hi]
          have := blk_set (i := j) (blk_bel HQ0.out hb1) (.int .i64 v)
          rw [hv] at this
          exact this
        · exact (Only.of_below (HBQ.out.trans (hb1.mono HBQ.out.size)) _).set (by simp) _
        · exact blk_far (blk_bel HC.out hb1) (by exact hgz) _
      have FIN := Lib.hid fin
      clear fin
      by_cases h5 : k0 = 5
      · have hb5 : (k0 == 5) = true := by simpa using h5
        have HNO : Hid (headNo k0 nm0 = 0) := by show _ = _; simp [headNo, h5]
        clear h5
        go_wp2_with fail
        go_meet
        case rel => exact FIN.out 0 wq 0 _ HNO.out (Below.refl _ _) rfl
      · have hb5 : (k0 == 5) = false := by simpa using h5
        by_cases h2 : k0 = 2
        · have hb2 : (k0 == 2) = true := by simpa using h2
          have hpb : ∀ t : Bool, hasS nm0 primNames = t → hasS nm0 specPrims = t := fun t h => (hasS_prims nm0).trans h
          by_cases hh : hasS nm0 primNames = true
          · have HNO : Hid (headNo k0 nm0 = 1) := by show _ = _; simp [headNo, h2, hh]
            have HH := Lib.hid (hpb _ hh)
            clear h5 h2 hh hpb
            go_wp2_with fail
            go_region_with (first | (go_at_call 49; refine (l8Prims_any _).mono ?_; rintro e w1 ⟨gp, rfl, hop, hlp, hbp⟩; have HOP := Lib.hid hop; have HBP := Lib.hid (show Below wq.heap.size wq w1 from (Below.refl _ _).drew.trans hbp); clear hop hlp hbp; obtain ⟨r0', _⟩ := blk_rules (blk_bel HC.out HBP.out); obtain ⟨rg', fg'⟩ := blk_rules (blk_bel (show wq.heap[g]? = some (.cells #[.int .i64 qa, .int .i64 qb, .int .i64 qc, .int .i64 qd] 3 (0, 0)) from HQ0.out) HBP.out); have hd0' := World.cell_bel HBP.out HD0.out; have hd2' := World.cell_bel HBP.out HD2.out) | (go_at_call 48; refine (l1In_any specPrims nm0 _ _ 6 6 _ rfl HOP.out.reads).mono ?_; rintro e w2 ⟨rfl, rfl⟩; rw [HH.out]))
            go_wp2_with fail
            all_goals
              go_meet
              case rel => exact FIN.out 1 _ 1 _ HNO.out HBP.out rfl
          · have HNO : Hid (headNo k0 nm0 = 3) := by show _ = _; simp [headNo, h2, hh]
            have HH := Lib.hid (hpb false (by simpa using hh))
            clear h5 h2 hh hpb
            go_wp2_with fail
            go_region_with (first | (go_at_call 49; refine (l8Prims_any _).mono ?_; rintro e w1 ⟨gp, rfl, hop, hlp, hbp⟩; have HOP := Lib.hid hop; have HBP := Lib.hid (show Below wq.heap.size wq w1 from (Below.refl _ _).drew.trans hbp); clear hop hlp hbp; obtain ⟨r0', _⟩ := blk_rules (blk_bel HC.out HBP.out); obtain ⟨rg', fg'⟩ := blk_rules (blk_bel (show wq.heap[g]? = some (.cells #[.int .i64 qa, .int .i64 qb, .int .i64 qc, .int .i64 qd] 3 (0, 0)) from HQ0.out) HBP.out); have hd0' := World.cell_bel HBP.out HD0.out; have hd2' := World.cell_bel HBP.out HD2.out) | (go_at_call 48; refine (l1In_any specPrims nm0 _ _ 6 6 _ rfl HOP.out.reads).mono ?_; rintro e w2 ⟨rfl, rfl⟩; rw [HH.out]))
            go_wp2_with fail
            all_goals
              go_meet
              case rel => exact FIN.out 3 _ 3 _ HNO.out HBP.out rfl
        · have hb2 : (k0 == 2) = false := by simpa using h2
          by_cases h1 : k0 = 1
          · have hb1 : (k0 == 1) = true := by simpa using h1
            have HNO : Hid (headNo k0 nm0 = 2) := by show _ = _; simp [headNo, h1]
            clear h5 h2 h1
            go_wp2_with fail
            go_quiet (fail)
            go_wp2_with fail
            go_meet
            case rel => exact FIN.out 2 (wq.drewN _) 2 _ HNO.out ⟨rfl, rfl, rfl, Nat.le_refl _, fun _ _ => rfl⟩ rfl
          · have hb1 : (k0 == 1) = false := by simpa using h1
            have HNO : Hid (headNo k0 nm0 = 3) := by show _ = _; simp [headNo, h5, h2, h1]
            clear h5 h2 h1
            go_wp2_with fail
            go_quiet (fail)
            go_wp2_with fail
            go_meet
            case rel => exact FIN.out 3 (wq.drewN _) 3 _ HNO.out ⟨rfl, rfl, rfl, Nat.le_refl _, fun _ _ => rfl⟩ rfl
    case rest =>
      obtain ⟨HQ, HON, HC⟩ := hcut
      go_wp2_with fail
      go_loopw [0, 6] (fun o i wr => ∃ j : Nat, j ≤ kids.length ∧ o = .slice (some ⟨g, 0, none⟩) 4 4 ∧ i = .int .i64 j ∧ Hid (HeadsAt g (C.folds hdStep (hdStep ⟨qa, qb, qc, qd⟩ (.mk 6 id nm n ids (.mk k1 nm1 n1 sc fk) kids)) (kids.take j)) wr) ∧ Hid (Only w wr [g]) ∧ Hid (wr.heap[w.heap.size]? = some (.cells #[.int .i64 6, .int .i64 id, .string nm, .int .i64 n, .slice A4 ids.length c4, .int .i64 k1, .string nm1, .int .i64 n1, .slice A8 sc.length c8, .slice A9 fk.length c9, .slice (some ad) kids.length c6] 45 (0, 0)))) (fun _ i _ => kids.length - (intOf i).toNat)
      case atStart => exact ⟨0, Nat.zero_le _, rfl, rfl, HQ.out, HON.out, HC.out⟩
      case round =>
        obtain ⟨j, hj, rfl, rfl, HIj, HOj, HCj⟩ := hrel
        obtain ⟨r0, _⟩ := blk_rules HCj.out
        by_cases hlt : j < kids.length
        · have hrr := HOj.out.reads HR6.out (fun b hb hm => by simp at hm; exact HSG.out b hb hm)
          obtain ⟨ad', k', id', nm', n', ids', k1', nm1', n1', sc', fk', ks', A3', c3', A8', c8', A9', c9', A4', c4', hade, hf, hel, hc0, hc1, hc2, hc3, hc4, hc5, hc6, hc7, hc8, hc9, hc10⟩ := hrr.elemC' hlt
          have HEL := Lib.hid hel
          obtain rfl := Option.some.inj hade
          have hsz := C.sizes_get kids j hlt
          have HSZ : Hid ((kids[j]'hlt).size < m) := by have := HS.out; show _ < _; omega
          have HWJ : Hid ((C.folds hdStep (hdStep ⟨qa, qb, qc, qd⟩ (.mk 6 id nm n ids (.mk k1 nm1 n1 sc fk) kids)) (kids.take j)).sum + (kids[j]'hlt).size ≤ 1000000000000) := by
            have h1 := HW.out
            have h2 := C.wsums_take (fun _ => 1) kids j hlt
            have h3 := C.folds_le hdStep (fun _ => 1) Q4.sum hdStep_sum (kids.take j) (hdStep ⟨qa, qb, qc, qd⟩ (.mk 6 id nm n ids (.mk k1 nm1 n1 sc fk) kids))
            have h4 := hdStep_sum ⟨qa, qb, qc, qd⟩ (.mk 6 id nm n ids (.mk k1 nm1 n1 sc fk) kids)
            rw [C.wsum_one, C.wsums_one, C.wsums_one] at h2
            rw [C.wsums_one] at h3
            show _ ≤ _
            omega
          clear hel hsz hrr hf
          go_wp2_with fail
          clear r0
          refine (HIH.out _ _ g S [.int .i64 k', .int .i64 id', .string nm', .int .i64 n', .slice A3' ids'.length c3', .int .i64 k1', .string nm1', .int .i64 n1', .slice A8' sc'.length c8', .slice A9' fk'.length c9', .slice A4' ks'.length c4'] _ HSZ.out HSG.out HIj.out HWJ.out HEL.out).mono ?_
          rintro e w2 ⟨rfl, hi2, hon2⟩
          have HI2 := Lib.hid hi2
          have HON2 := Lib.hid (HOj.out.trans hon2 (fun b hb => .inl hb))
          have HC2 := Lib.hid ((hon2.block _ (blk_lt' HCj.out) (fun h => by have := HGL.out; simp at h; omega)).trans HCj.out)
          clear hi2 hon2
          go_wp2_with fail
          go_roundw
          case rel => exact ⟨j + 1, by omega, rfl, by go_num, by show HeadsAt _ _ _; rw [C.folds_take _ _ _ _ hlt]; exact HI2.out, HON2.out, HC2.out⟩
          case measure => simp [intOf]; omega
        · go_wp2_with fail
          go_ret
          obtain rfl : j = kids.length := by omega
          have h1 := HIj.out
          rw [List.take_length] at h1
          exact ⟨rfl, h1, HOj.out⟩
  · have HST : Hid (hdStep ⟨qa, qb, qc, qd⟩ (.mk k id nm n ids (.mk k1 nm1 n1 sc fk) kids) = ⟨qa, qb, qc, qd⟩) := by
      show _ = _
      cases kids with
      | nil => rfl
      | cons y ys =>
        obtain ⟨a0, a1, a2, a3, a4, a5, a6⟩ := y
        simp only [hdStep]
        rw [if_neg (fun e => hk ⟨e, by simp⟩)]
    have hkb : (k == 6) = false ∨ ((k == 6) = true ∧ Hid (kids = [])) := by
      by_cases h : k = 6
      · exact .inr ⟨by simpa using h, by show _ = _; by_cases hn : kids = []; exact hn; exact absurd ⟨h, hn⟩ hk⟩
      · exact .inl (by simpa using h)
    clear hk
    rcases hkb with hkb | ⟨hkb, HKN⟩
    · go_enter Tryd.func40, Tryd.ntmps40
      go_wp2_with fail
      obtain ⟨wq, hwq⟩ : ∃ wq, w.alloc (.cells #[.int .i64 k, .int .i64 id, .string nm, .int .i64 n, .slice A4 ids.length c4, .int .i64 k1, .string nm1, .int .i64 n1, .slice A8 sc.length c8, .slice A9 fk.length c9, .slice A6 kids.length c6] 45) = wq := ⟨_, rfl⟩
      rw [hwq]
      have HC : Hid (wq.heap[w.heap.size]? = some (.cells #[.int .i64 k, .int .i64 id, .string nm, .int .i64 n, .slice A4 ids.length c4, .int .i64 k1, .string nm1, .int .i64 n1, .slice A8 sc.length c8, .slice A9 fk.length c9, .slice A6 kids.length c6] 45 (0, 0))) := by rw [← hwq]; exact blk_new _ _
      have HON : Hid (Only w wq [g]) := by rw [← hwq]; exact Only.of_below ((Below.refl _ _).alloc (Nat.le_refl _) _) _
      have HQ : Hid (HeadsAt g (hdStep ⟨qa, qb, qc, qd⟩ (.mk k id nm n ids (.mk k1 nm1 n1 sc fk) kids)) wq) := by show HeadsAt _ _ _; rw [HST.out, ← hwq]; exact blk_alloc HI.out _
      clear hwq
      go_loopw [0, 6] (fun o i wr => ∃ j : Nat, j ≤ kids.length ∧ o = .slice (some ⟨g, 0, none⟩) 4 4 ∧ i = .int .i64 j ∧ Hid (HeadsAt g (C.folds hdStep (hdStep ⟨qa, qb, qc, qd⟩ (.mk k id nm n ids (.mk k1 nm1 n1 sc fk) kids)) (kids.take j)) wr) ∧ Hid (Only w wr [g]) ∧ Hid (wr.heap[w.heap.size]? = some (.cells #[.int .i64 k, .int .i64 id, .string nm, .int .i64 n, .slice A4 ids.length c4, .int .i64 k1, .string nm1, .int .i64 n1, .slice A8 sc.length c8, .slice A9 fk.length c9, .slice A6 kids.length c6] 45 (0, 0)))) (fun _ i _ => kids.length - (intOf i).toNat)
      case atStart => exact ⟨0, Nat.zero_le _, rfl, rfl, HQ.out, HON.out, HC.out⟩
      case round =>
        obtain ⟨j, hj, rfl, rfl, HIj, HOj, HCj⟩ := hrel
        obtain ⟨r0, _⟩ := blk_rules HCj.out
        by_cases hlt : j < kids.length
        · have hrr := HOj.out.reads HR6.out (fun b hb hm => by simp at hm; exact HSG.out b hb hm)
          obtain ⟨ad, k', id', nm', n', ids', k1', nm1', n1', sc', fk', ks', A3', c3', A8', c8', A9', c9', A4', c4', rfl, hf, hel, hc0, hc1, hc2, hc3, hc4, hc5, hc6, hc7, hc8, hc9, hc10⟩ := hrr.elemC' hlt
          have HEL := Lib.hid hel
          have hsz := C.sizes_get kids j hlt
          have HSZ : Hid ((kids[j]'hlt).size < m) := by have := HS.out; show _ < _; omega
          have HWJ : Hid ((C.folds hdStep (hdStep ⟨qa, qb, qc, qd⟩ (.mk k id nm n ids (.mk k1 nm1 n1 sc fk) kids)) (kids.take j)).sum + (kids[j]'hlt).size ≤ 1000000000000) := by
            have h1 := HW.out
            have h2 := C.wsums_take (fun _ => 1) kids j hlt
            have h3 := C.folds_le hdStep (fun _ => 1) Q4.sum hdStep_sum (kids.take j) (hdStep ⟨qa, qb, qc, qd⟩ (.mk k id nm n ids (.mk k1 nm1 n1 sc fk) kids))
            have h4 := hdStep_sum ⟨qa, qb, qc, qd⟩ (.mk k id nm n ids (.mk k1 nm1 n1 sc fk) kids)
            rw [C.wsum_one, C.wsums_one, C.wsums_one] at h2
            rw [C.wsums_one] at h3
            show _ ≤ _
            omega
          clear hel hsz hrr hf
          go_wp2_with fail
          clear r0
          refine (HIH.out _ _ g S [.int .i64 k', .int .i64 id', .string nm', .int .i64 n', .slice A3' ids'.length c3', .int .i64 k1', .string nm1', .int .i64 n1', .slice A8' sc'.length c8', .slice A9' fk'.length c9', .slice A4' ks'.length c4'] _ HSZ.out HSG.out HIj.out HWJ.out HEL.out).mono ?_
          rintro e w2 ⟨rfl, hi2, hon2⟩
          have HI2 := Lib.hid hi2
          have HON2 := Lib.hid (HOj.out.trans hon2 (fun b hb => .inl hb))
          have HC2 := Lib.hid ((hon2.block _ (blk_lt' HCj.out) (fun h => by have := HGL.out; simp at h; omega)).trans HCj.out)
          clear hi2 hon2
          go_wp2_with fail
          go_roundw
          case rel => exact ⟨j + 1, by omega, rfl, by go_num, by show HeadsAt _ _ _; rw [C.folds_take _ _ _ _ hlt]; exact HI2.out, HON2.out, HC2.out⟩
          case measure => simp [intOf]; omega
        · go_wp2_with fail
          go_ret
          obtain rfl : j = kids.length := by omega
          have h1 := HIj.out
          rw [List.take_length] at h1
          exact ⟨rfl, h1, HOj.out⟩
    · obtain rfl : kids = [] := HKN.out
      go_enter Tryd.func40, Tryd.ntmps40
      go_wp2_with fail
      refine wp_loop_rounds 1 ?_
      rw [rounds_succ]
      go_wp2_with fail
      go_ret
      exact ⟨rfl, blk_alloc HI.out _, Only.of_below ((Below.refl _ _).alloc (Nat.le_refl _) _) _⟩
end Go.Proofs.YtnooeebefhfjcaaDoor
