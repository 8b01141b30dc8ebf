/- The program's LibraryNames and NeededMacros. -/
import Derived.Test.YtnooeebefhfjcaaDoorNam
import Derived.Test.YtnooeebefhfjcaaDoorSlF
set_option linter.unusedVariables false
set_option linter.unusedSimpArgs false
namespace Go.Proofs.YtnooeebefhfjcaaDoor
open Go Go.RowKit
/-- The table of the library's names, as the program's start lays it. -/
def LibLaid (w : World) : Prop := Reads w (fun b => b = 1) [.slice (some ⟨1, 0, none⟩) 7 7] [.r 9 1 (libNames.map D.s)]
set_option maxHeartbeats 1000000 in
theorem libraryNames_any (w : World) (hl : LibLaid w) :
    Calls Tryd.prog 33 #[] w fun e w' => ∃ v, e = .returned v ∧ Made w w' [v] [.r 9 1 (libNames.map D.s)] := by
  have HL := Lib.hid hl
  clear hl
  go_enter Tryd.func33, Tryd.ntmps33
  go_wp2_with fail
  refine (cloneS_any libNames _ ⟨1, 0, none⟩ 7 7 w rfl (by omega) HL.out).mono ?_
  rintro e w1 ⟨v, rfl, hm⟩
  have HM := Lib.hid hm
  clear hm
  go_wp2_with fail
  go_ret
  exact ⟨v, rfl, HM.out⟩
mutual
theorem names_mem (x : ByteArray) : ∀ (f : F) (s : List ByteArray), x ∈ F.fold nmStep s f ↔ x ∈ s ∨ 0 < f.count x
  | .mk k nm n sc kids, s => by
    have h := names_mems x kids (nmStep s (.mk k nm n sc kids))
    simp only [F.fold, F.count]
    rw [h]
    simp only [nmStep]
    have hh := hasS_iff nm s
    by_cases hk : k = 1
    · by_cases hm : hasS nm s = true
      · have := hh.1 hm
        by_cases hx : nm = x
        · subst hx; simp [hm, this, hk]
        · simp [hm, hx]
      · have hm' : hasS nm s = false := by simpa using hm
        by_cases hx : nm = x
        · subst hx; simp [hm', hk]; exact .inr (by omega)
        · have hx' : ¬ x = nm := fun e => hx e.symm
          simp [hm', hk, hx, hx']
    · simp [hk]
theorem names_mems (x : ByteArray) : ∀ (fs : List F) (s : List ByteArray), x ∈ F.folds nmStep s fs ↔ x ∈ s ∨ 0 < F.counts x fs
  | [], s => by simp [F.folds, F.counts]
  | f :: fs, s => by
    have h1 := names_mem x f s
    have h2 := names_mems x fs (F.fold nmStep s f)
    simp only [F.folds, F.counts]
    rw [h2, h1, or_assoc]
    have : 0 < f.count x + F.counts x fs ↔ 0 < f.count x ∨ 0 < F.counts x fs := by omega
    rw [this]
end
theorem needed_eq (f : F) : libNames.filter (fun x => !!hasS x f.names) = f.needed := by
  unfold F.needed
  congr 1
  funext x
  have h := names_mem x f []
  have h2 := hasS_iff x f.names
  rw [Bool.eq_iff_iff]
  simp only [Bool.not_not, decide_eq_true_eq]
  rw [h2]
  unfold F.names
  simpa using h
set_option maxHeartbeats 400000 in
theorem needed1_any (g : Nat) (names : List ByteArray) (s : ByteArray) (v : Value) (bo : List Nat) (w : World) (hg : w.heap[g]? = some (.cells #[v] 27 (0, 0))) (ho : Owns w [v] [.r 9 1 (names.map D.s)] bo) :
    Calls Tryd.prog 34 #[.string s, .pointer (some ⟨g, 0, none⟩)] w fun e w' => e = .returned (.bool (!hasS s names)) ∧ Below w.heap.size w w' := by
  obtain ⟨A, c, rfl⟩ := ho.sl_inv (by omega) (m := names.length) (by simp)
  obtain ⟨r0, _⟩ := blk_rules hg
  have HO := Lib.hid ho
  clear ho hg
  go_enter Tryd.func34, Tryd.ntmps34
  go_wp2_with fail
  refine (containsS_any names s _ A names.length c w rfl HO.out.reads).mono ?_
  rintro e w1 ⟨rfl, rfl⟩
  go_wp2_with fail
  go_ret
  exact ⟨rfl, Below.refl _ _⟩
set_option maxHeartbeats 1000000 in
theorem implNeeded_any (f : F) (S : Nat → Prop) (vs : List Value) (w : World) (hb : f.size ≤ 1000000000000) (hr : Reads w S vs (f.ds 31)) (hlib : LibLaid w) (hgl : 1 < w.heap.size) :
    Calls Tryd.prog 9 #[.agg vs.toArray] w fun e w' => ∃ v, e = .returned v ∧ Made w w' [v] [.r 9 1 (f.needed.map D.s)] := by
  have hl := hr.len
  rw [F.ds_len] at hl
  match vs, hl with
  | [x0, x1, x2, x3, x4], _ =>
  have HR := Lib.hid hr
  have HLB := Lib.hid hlib
  clear hr hlib
  go_enter Tryd.func9, Tryd.ntmps9
  go_wp2_with fail
  refine calls_alloc1 (fun W B0 hz hbw => ?_)
  refine (namesOf_any f S _ W hb (HR.out.belAll hbw)).mono ?_
  rintro e w1 ⟨v, rfl, bn, hon, hnn, hln, hb1⟩
  have HON := Lib.hid hon
  have HNN := Lib.hid hnn
  have HLN : Hid (∀ b, b ∈ bn → w.heap.size + 1 ≤ b) := fun b hb => by have := hln b hb; omega
  have HB1 := Lib.hid (hbw.trans (hb1.mono (by omega)))
  obtain ⟨A, c, rfl⟩ := hon.sl_inv (by omega) (m := f.names.length) (by simp)
  clear hon hnn hln hb1 B0 hz hbw
  go_wp2_with fail
  refine calls_alloc1 (fun W B0 hz hbw => ?_)
  refine (libraryNames_any W (HLB.out.belAll (HB1.out.trans (hbw.mono HB1.out.size)))).mono ?_
  rintro e w2 ⟨vl, rfl, bl, hol, hnl, hll, hb2⟩
  have hb3 := hbw.trans (hb2.mono (by omega))
  have HG := Lib.hid (blk_bel B0 hb2)
  have HON2 := Lib.hid (HON.out.bel hb3)
  have HOL := Lib.hid hol
  have HNL := Lib.hid hnl
  have HLL : Hid (∀ b, b ∈ bl → w1.heap.size + 1 ≤ b) := fun b hb => by have := hll b hb; omega
  have HB2 := Lib.hid (HB1.out.trans (hb3.mono HB1.out.size))
  have hsz : w.heap.size ≤ w1.heap.size := HB1.out.size
  clear hol hnl hll hb2 hb3 B0 hz hbw
  go_wp2_with fail
  refine (deleteFuncS_any 34 w1.heap.size (fun s => !hasS s f.names) (fun W => W.heap[w1.heap.size]? = some (.cells #[.slice A f.names.length c] 27 (0, 0)) ∧ Owns W [.slice A f.names.length c] [.r 9 1 (f.names.map D.s)] bn)
    (fun s W hW => needed1_any w1.heap.size f.names s _ bn W hW.1 hW.2) (fun s W => by kernel_rfl) libNames vl bl w2
    (fun W W' hW hon => ⟨(hon.block _ (blk_lt' hW.1) (fun h => by have := HLL.out _ h; omega)).trans hW.1, hon.owns hW.2 (fun b hb hb' => by have := HLL.out b hb'; have := HON.out.lt b hb; omega)⟩) HOL.out ⟨HG.out, HON2.out⟩).mono ?_
  rintro e w3 ⟨u, rfl, hou, hon3⟩
  have HOU := Lib.hid hou
  have HON3 := Lib.hid hon3
  clear hou hon3
  go_wp2_with fail
  go_ret
  refine ⟨u, rfl, bl, ?_, HNL.out, fun b hb => by have := HLL.out b hb; omega, HON3.out.toBelow HB2.out HB2.out.size (fun b hb => by have := HLL.out b hb; omega)⟩
  rw [← needed_eq]
  exact HOU.out
end Go.Proofs.YtnooeebefhfjcaaDoor
