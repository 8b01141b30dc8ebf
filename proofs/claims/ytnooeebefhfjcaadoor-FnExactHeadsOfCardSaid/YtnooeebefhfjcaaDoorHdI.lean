/- HeadsOf, by both: the four counts in a row of their own. -/
import Derived.Test.YtnooeebefhfjcaaDoorHd
import Derived.Test.YtnooeebefhfjcaaDoorToC
set_option linter.unusedVariables false
set_option linter.unusedSimpArgs false
namespace Go.Proofs.YtnooeebefhfjcaaDoor
open Go Go.RowKit
section
variable {P : Program} {f : FuncId} {args : Array Value} {w : World} {R : Ending → World → Prop}
theorem calls_alloc2d {o0 o1 : Obj} (h : ∀ W, W.heap[w.heap.size]? = some o0 → W.heap[w.heap.size + 1]? = some o1 → W.heap.size = w.heap.size + 2 → Below w.heap.size w W → Calls P f args W R) : Calls P f args ((w.alloc o0).alloc o1).drew R :=
  h _ (blk_alloc (blk_new _ _) _) (show ((w.alloc o0).alloc o1).heap[w.heap.size + 1]? = some o1 by have := blk_new (w.alloc o0) o1; simpa using this) (by show ((w.alloc o0).alloc o1).heap.size = _; simp) (((Below.refl _ w).alloc (Nat.le_refl _) _).alloc (by simp) _).drew
end
theorem run_make4 (W : World) : (Instr.makeSlice 22 (.int .i64 4) (.int .i64 4)).run Tryd.prog W = .ok (.slice (some ⟨W.heap.size, 0, none⟩) 4 4) (W.alloc (.cells #[.int .i64 0, .int .i64 0, .int .i64 0, .int .i64 0] 3)) := by
  obtain ⟨i0, hi, hzz⟩ := Option.map_eq_some_iff.1 info_int
  simp only [Prod.mk.injEq] at hzz
  obtain ⟨hz0, hz1, hz2⟩ := hzz
  have hr := run_make (P := Tryd.prog) W 22 3 i0 (.int .i64 0) Tryd.underlying22 hi hz0 .i64 .i64 4 4 (by omega) (by omega) (by rw [hz2]; decide) (by omega)
  rw [hz1, show madeCells (Value.int .i64 0).cells (Int.toNat 4 * 1) = #[.int .i64 0, .int .i64 0, .int .i64 0, .int .i64 0] by kernel_rfl] at hr
  exact hr
theorem HeadsAt.made {w w' : World} {g : Nat} {q : Q4} (h : HeadsAt g q w') (hg : w.heap.size ≤ g) (hb : Below w.heap.size w w') : Made w w' [.slice (some ⟨g, 0, none⟩) 4 4] [.r 3 1 (q.ints.map D.i)] :=
  ⟨[g], Owns.row_mk h (Nat.le_refl 4) (by unfold maxLen; omega) rfl (Owns.ints_mk _ q.ints), by simp, by intro b hb; simp at hb; omega, hb⟩
set_option maxHeartbeats 1000000 in
theorem specHeads_any (c : C) (S : Nat → Prop) (vs : List Value) (w : World) (hsz : c.size ≤ 1000000000000) (hr : Reads w S vs (c.ds 45 31)) :
    Calls Tryd.prog 16 #[.agg vs.toArray] w fun e w' => ∃ v, e = .returned v ∧ Made w w' [v] [.r 3 1 ((C.fold hdStep ⟨0, 0, 0, 0⟩ c).ints.map D.i)] := by
  have hl := hr.len
  rw [C.ds_len] at hl
  match vs, hl with
  | [x0, x1, x2, x3, x4, x5, x6, x7, x8, x9, x10], _ =>
  have HR := Lib.hid hr.lt
  clear hr
  have hmk := run_make4
  have hm : ∀ m, HdC m := fun m => by
    induction m with
    | zero => intro c q g S vs w hs; omega
    | succ m ih => exact hdC_step m ih
  have HM := Lib.hid hm
  clear hm
  go_enter Tryd.func16, Tryd.ntmps16
  go_wp2_with fail
  go_region_with (go_at_call 40; refine calls_alloc2d (fun W B0 B1 hz hbw => ?_); refine (HM.out (c.size + 1) c ⟨0, 0, 0, 0⟩ (w.heap.size + 1) (fun b => b < w.heap.size) [x0, x1, x2, x3, x4, x5, x6, x7, x8, x9, x10] W (by omega) (fun b hb => by omega) B1 (by simp [Q4.sum]; omega) (HR.out.belAll hbw)).mono ?_; rintro e w1 ⟨rfl, hi, hon⟩; have HI := Lib.hid hi; have HB := Lib.hid (hon.toBelow hbw (by omega) (by intro b hb; simp at hb; omega)); clear hi hon B0 B1 hz hbw)
  go_wp2_with fail
  all_goals
    go_ret
    exact ⟨_, rfl, HI.out.made (by omega) HB.out⟩
/-- What the function value has captured: a variable that holds a row of four numbers. -/
def CapH (gc gi B : Nat) (q : Q4) (bs : List Nat) (w : World) : Prop :=
  w.heap[gc]? = some (.cells #[.slice (some ⟨gi, 0, none⟩) 4 4] 22 (0, 0)) ∧ HeadsAt gi q w ∧ PrimLaid w ∧ bs = [gi] ∧ B ≤ gi ∧ gc ≠ gi ∧ 0 < B
theorem CapH.stay {gc gi B : Nat} {q : Q4} {bs : List Nat} {W W' : World} : CapH gc gi B q bs W → Only W W' [] → CapH gc gi B q bs W' :=
  fun ⟨h1, h2, h3, h4, h5, h6, h7⟩ hon => ⟨blk_bel h1 hon.nil, blk_bel h2 hon.nil, h3.belAll hon.nil, h4, h5, h6, h7⟩
set_option maxHeartbeats 4000000 in
theorem heads1_any (gc gi B : Nat) (q : Q4) (bs : List Nat) (cc : C) (vs : List Value) (w : World) (hI : CapH gc gi B q bs w) (hM : q.sum + 1 ≤ 1000000000000) (hr : Reads w (fun b => b < B) vs (cc.ds 45 31)) :
    Calls Tryd.prog 43 (#[.agg vs.toArray] ++ #[.pointer (some ⟨gc, 0, none⟩)]) w fun e w' => e = .returned (.tuple #[]) ∧ ∃ bs', CapH gc gi B (hdStep q cc) bs' w' ∧ Only w w' bs ∧ ∀ b, b ∈ bs' → b ∈ bs ∨ w.heap.size ≤ b := by
  obtain ⟨qa, qb, qc, qd⟩ := q
  obtain ⟨k, id, nm, n, ids, data, kids⟩ := cc
  obtain ⟨k1, nm1, n1, sc, fk⟩ := data
  obtain ⟨A4, c4, A8, c8, A9, c9, A6, c6, rfl, hb, hb1, h4, h5, h6⟩ := hr.core'
  obtain ⟨hg, hq, hp, rfl, hB, hne, hgB⟩ := hI
  have hm := h6.sl_le.2
  unfold maxLen at hm
  have hqs : qa + qb + qc + qd + 1 ≤ 1000000000000 := by simpa [Q4.sum] using hM
  have hgl := blk_lt' hg
  have hgl' := blk_lt' hq
  have hne' : ¬ gc = gi := hne
  have hne2 : ¬ gi = gc := fun e => hne e.symm
  have HR6 := Lib.hid h6
  have HG := Lib.hid hg
  have HG0 := Lib.hid hg
  have HQ := Lib.hid hq
  have HP := Lib.hid hp
  have HNE := Lib.hid hne
  obtain ⟨rg, _⟩ := blk_rules hg
  obtain ⟨rq, fq⟩ := blk_rules (show w.heap[gi]? = some (.cells #[.int .i64 qa, .int .i64 qb, .int .i64 qc, .int .i64 qd] 3 (0, 0)) from hq)
  have fin0 : ∀ w1, Below w.heap.size w w1 → hdStep ⟨qa, qb, qc, qd⟩ (.mk k id nm n ids (.mk k1 nm1 n1 sc fk) kids) = ⟨qa, qb, qc, qd⟩ → ∃ bs', CapH gc gi B (hdStep ⟨qa, qb, qc, qd⟩ (.mk k id nm n ids (.mk k1 nm1 n1 sc fk) kids)) bs' w1 ∧ Only w w1 [gi] ∧ ∀ b, b ∈ bs' → b ∈ [gi] ∨ w.heap.size ≤ b := fun w1 hb1 he =>
    ⟨[gi], ⟨blk_bel HG.out hb1, by rw [he]; exact blk_bel HQ.out hb1, HP.out.belAll hb1, rfl, hB, HNE.out, hgB⟩, Only.of_below hb1 _, fun b hb => .inl hb⟩
  have fin1 : ∀ (i : Nat) (w1 : World) (j : Nat) (v : Int), hdStep ⟨qa, qb, qc, qd⟩ (.mk k id nm n ids (.mk k1 nm1 n1 sc fk) kids) = bump i ⟨qa, qb, qc, qd⟩ → Below w.heap.size w w1 → (Q4.cells ⟨qa, qb, qc, qd⟩).setIfInBounds j (.int .i64 v) = (bump i ⟨qa, qb, qc, qd⟩).cells →
      ∃ bs', CapH gc gi B (hdStep ⟨qa, qb, qc, qd⟩ (.mk k id nm n ids (.mk k1 nm1 n1 sc fk) kids)) bs' (w1.setCell ⟨gi, j, none⟩ (.int .i64 v)) ∧ Only w (w1.setCell ⟨gi, j, none⟩ (.int .i64 v)) [gi] ∧ ∀ b, b ∈ bs' → b ∈ [gi] ∨ w.heap.size ≤ b := fun i w1 j v he hb1 hv => by
    have hon : Only w (w1.setCell ⟨gi, j, none⟩ (.int .i64 v)) [gi] := (Only.of_below hb1 _).set (by simp) _
    refine ⟨[gi], ⟨blk_far (blk_bel HG.out hb1) HNE.out _, ?_, HP.out.only hon (by simp; omega), rfl, hB, HNE.out, hgB⟩, hon, fun b hb => .inl hb⟩
    rw [he]
    have := blk_set (i := j) (blk_bel HQ.out hb1) (.int .i64 v)
    rw [hv] at this
    exact this
  have F0 := Lib.hid fin0
  have F1 := Lib.hid fin1
  clear fin0 fin1 hr hg hq hp hB hne hgB hb hb1 h4 h5 h6 hM HG HNE
  by_cases hk : k = 6 ∧ kids ≠ []
  · obtain ⟨rfl, hkn⟩ := hk
    obtain ⟨y0, ys, rfl⟩ := List.exists_cons_of_ne_nil hkn
    obtain ⟨ad, k0, id0, nm0, n0, ids0, k10, nm10, n10, sc0, fk0, ks0, A3', c3', A8', c8', A9', c9', A4', c4', rfl, hf, hel, hc0, hc1, hc2, hc3, hc4, hc5, hc6, hc7, hc8, hc9, hc10⟩ := HR6.out.elemC' (show 0 < (y0 :: ys).length by simp)
    have hf' : y0 = .mk k0 id0 nm0 n0 ids0 (.mk k10 nm10 n10 sc0 fk0) ks0 := hf
    subst hf'
    simp only [Nat.zero_mul, show ad.add 0 = ad by simp [Addr.add]] at hc0 hc1 hc2 hc3 hc4 hc5 hc6 hc7 hc8 hc9 hc10
    have hbk := World.block_lt_of_cell? w _ hc0
    obtain ⟨kids, hkids⟩ : ∃ kids, (C.mk k0 id0 nm0 n0 ids0 (.mk k10 nm10 n10 sc0 fk0) ks0 :: ys) = kids := ⟨_, rfl⟩
    have HST : Hid (hdStep ⟨qa, qb, qc, qd⟩ (.mk 6 id nm n ids (.mk k1 nm1 n1 sc fk) kids) = bump (headNo k0 nm0) ⟨qa, qb, qc, qd⟩) := by show _ = _; rw [← hkids]; rfl
    have hkl : 0 < kids.length := by rw [← hkids]; simp
    have hkl0 : ((kids.length : Int) == 0) = false := beq_eq_false_iff_ne.2 (by omega)
    rw [hkids] at F0 F1 HR6 hm ⊢
    clear hkids hkn hf hel
    by_cases h5 : k0 = 5
    · have hb5 : (k0 == 5) = true := by simpa using h5
      have HNO : Hid (headNo k0 nm0 = 0) := by show _ = _; simp [headNo, h5]
      clear h5
      go_enter Tryd.func43, Tryd.ntmps43
      go_wp2_with fail
      go_end0
      obtain ⟨bs', h1, h2, h3⟩ := F1.out 0 w 0 ((qa : Int) + 1) (HST.out.trans (by rw [HNO.out])) (Below.refl _ _) rfl
      have hb2 := ((Below.refl (w.setCell ⟨gi, 0, none⟩ (.int .i64 ((qa : Int) + 1))).heap.size (w.setCell ⟨gi, 0, none⟩ (.int .i64 ((qa : Int) + 1)))).alloc (Nat.le_refl _) (.cells #[.int .i64 6, .int .i64 id, .string nm, .int .i64 n, .slice A4 ids.length c4, .int .i64 k1, .string nm1, .int .i64 n1, .slice A8 sc.length c8, .slice A9 fk.length c9, .slice (some ad) kids.length c6] 45)).alloc (by simp) (.cells #[.int .i64 k0, .int .i64 id0, .string nm0, .int .i64 n0, .slice A3' ids0.length c3', .int .i64 k10, .string nm10, .int .i64 n10, .slice A8' sc0.length c8', .slice A9' fk0.length c9', .slice A4' ks0.length c4'] 45)
      exact ⟨rfl, bs', h1.stay (Only.of_below hb2 []), h2.below hb2, h3⟩
    · have hb5 : (k0 == 5) = false := by simpa using h5
      go_enter Tryd.func43, Tryd.ntmps43
      go_wp2_with fail
      refine calls_alloc2 (fun W B0 B1 hz hbw => ?_)
      refine (isPrimitive_any k0 id0 n0 nm0 _ _ _ _ _ _ _ W (HP.out.belAll hbw)).mono ?_
      rintro e w1 ⟨rfl, hb⟩
      have HB := Lib.hid (hbw.trans (hb.mono (by omega)))
      obtain ⟨r1, _⟩ := blk_rules (blk_bel B1 hb)
      obtain ⟨rg', _⟩ := blk_rules (blk_bel HG0.out HB.out)
      obtain ⟨rq', fq'⟩ := blk_rules (blk_bel (show w.heap[gi]? = some (.cells #[.int .i64 qa, .int .i64 qb, .int .i64 qc, .int .i64 qd] 3 (0, 0)) from HQ.out) HB.out)
      clear B0 B1 hz hbw hb rg rq fq
      by_cases hp : isPrim k0 nm0 = true
      · rw [hp]
        have HNO : Hid (headNo k0 nm0 = 1) := by
          have := of_decide_eq_true (show decide (k0 = 2 ∧ hasS nm0 primNames = true) = true from hp)
          show _ = _
          simp [headNo, this.1, this.2]
        clear h5 hp
        go_wp2_with fail
        go_end0
        exact ⟨rfl, F1.out 1 _ 1 _ (HST.out.trans (by rw [HNO.out])) HB.out rfl⟩
      · rw [show isPrim k0 nm0 = false by simpa using hp]
        have hn2 : ¬ (k0 = 2 ∧ hasS nm0 primNames = true) := fun h => hp (decide_eq_true h)
        by_cases h1 : k0 = 1
        · have hb1 : (k0 == 1) = true := by simpa using h1
          have HNO : Hid (headNo k0 nm0 = 2) := by show _ = _; simp [headNo, h1]
          clear h5 hp hn2 h1
          go_wp2_with fail
          go_end0
          exact ⟨rfl, F1.out 2 _ 2 _ (HST.out.trans (by rw [HNO.out])) HB.out rfl⟩
        · have hb1 : (k0 == 1) = false := by simpa using h1
          have HNO : Hid (headNo k0 nm0 = 3) := by show _ = _; unfold headNo; rw [if_neg h5, if_neg hn2, if_neg h1]
          clear h5 hp hn2 h1
          go_wp2_with fail
          go_end0
          exact ⟨rfl, F1.out 3 _ 3 _ (HST.out.trans (by rw [HNO.out])) HB.out rfl⟩
  · have HST : Hid (hdStep ⟨qa, qb, qc, qd⟩ (.mk k id nm n ids (.mk k1 nm1 n1 sc fk) kids) = ⟨qa, qb, qc, qd⟩) := by
      show _ = _
      cases kids with
      | nil => rfl
      | cons y ys =>
        obtain ⟨a0, a1, a2, a3, a4, a5, a6⟩ := y
        simp only [hdStep]
        rw [if_neg (fun e => hk ⟨e, by simp⟩)]
    have hkb : (k == 6) = false ∨ ((k == 6) = true ∧ ((kids.length : Int) == 0) = true) := by
      by_cases h : k = 6
      · refine .inr ⟨by simpa using h, ?_⟩
        have : kids = [] := by by_cases hn : kids = []; exact hn; exact absurd ⟨h, hn⟩ hk
        rw [this]; rfl
      · exact .inl (by simpa using h)
    clear hk
    rcases hkb with hkb | ⟨hkb, hkl⟩
    · go_enter Tryd.func43, Tryd.ntmps43
      go_wp2_with fail
      refine bodyPost_ret (results_none Tryd.results43 _ _ _) rfl ?_
      exact ⟨rfl, F0.out _ ((Below.refl _ _).alloc (Nat.le_refl _) _) HST.out⟩
    · obtain rfl : k = 6 := by simpa using hkb
      go_enter Tryd.func43, Tryd.ntmps43
      go_wp2_with fail
      refine bodyPost_ret (results_none Tryd.results43 _ _ _) rfl ?_
      exact ⟨rfl, F0.out _ ((Below.refl _ _).alloc (Nat.le_refl _) _) HST.out⟩
theorem heads_steps (gc gi B : Nat) : StepsC Tryd.prog 45 31 43 #[.pointer (some ⟨gc, 0, none⟩)] B hdStep (CapH gc gi B) (fun _ => 1) Q4.sum 1000000000000 where
  stay := fun s bs W W' h hon => h.stay hon
  lt := fun s bs W ⟨h1, h2, h3, h4, h5, h6, h7⟩ b hb => by
    rw [h4] at hb
    simp at hb
    subst hb
    exact ⟨h5, blk_lt' h2⟩
  call := fun vs W => by kernel_rfl
  grow := fun s f => hdStep_sum s f
  go := fun s bs f vs W hI hM hr => heads1_any gc gi B s bs f vs W hI hM hr
set_option maxHeartbeats 1000000 in
theorem implHeads_any (c : C) (S : Nat → Prop) (vs : List Value) (w : World) (hsz : c.size ≤ 1000000000000) (hr : Reads w S vs (c.ds 45 31)) (hp : PrimLaid w) (hgl : 0 < w.heap.size) :
    Calls Tryd.prog 18 #[.agg vs.toArray] w fun e w' => ∃ v, e = .returned v ∧ Made w w' [v] [.r 3 1 ((C.fold hdStep ⟨0, 0, 0, 0⟩ c).ints.map D.i)] := by
  have hl := hr.len
  rw [C.ds_len] at hl
  match vs, hl with
  | [x0, x1, x2, x3, x4, x5, x6, x7, x8, x9, x10], _ =>
  have HR := Lib.hid hr.lt
  have HP := Lib.hid hp
  clear hr hp
  have hmk := run_make4
  go_enter Tryd.func18, Tryd.ntmps18
  go_wp2_with fail
  refine calls_alloc3 (fun W B0 B1 B2 hz hbw => ?_)
  refine (eachCore_any (heads_steps (w.heap.size + 1 + 1) (w.heap.size + 1) w.heap.size) c ⟨0, 0, 0, 0⟩ [w.heap.size + 1] [x0, x1, x2, x3, x4, x5, x6, x7, x8, x9, x10] W (by rw [C.wsum_one]; simpa [Q4.sum] using hsz) ⟨B2, B1, HP.out.belAll hbw, rfl, by omega, by omega, hgl⟩ (HR.out.belAll hbw)).mono ?_
  rintro e w1 ⟨rfl, bs, ⟨h1, h2, h3, h4, h5, h6, h7⟩, hon, hbs⟩
  have hB : Below w.heap.size w w1 := hon.toBelow hbw (by omega) (by intro b hb; simp at hb; omega)
  have H2 := Lib.hid h2
  obtain ⟨r1, _⟩ := blk_rules h1
  clear h2 h3 h4 h5 h6 h7 hbs hon B0 B1 B2
  go_wp2_with fail
  go_ret
  exact ⟨_, rfl, H2.out.made (by omega) hB⟩
end Go.Proofs.YtnooeebefhfjcaaDoor
