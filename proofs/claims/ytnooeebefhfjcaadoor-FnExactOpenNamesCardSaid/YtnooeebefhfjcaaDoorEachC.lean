/- eachCore: a function value is called with each program within a program, in the order of the text. -/
import Derived.Test.YtnooeebefhfjcaaDoorAp
import Derived.Test.YtnooeebefhfjcaaDoorC
set_option linter.unusedVariables false
set_option linter.unusedSimpArgs false
namespace Go.Proofs.YtnooeebefhfjcaaDoor
open Go Go.RowKit
mutual
/-- What a step over each form comes to. -/
def C.fold {σ : Type} (step : σ → C → σ) (s : σ) : C → σ
  | .mk k id nm n ids data kids => C.folds step (step s (.mk k id nm n ids data kids)) kids
def C.folds {σ : Type} (step : σ → C → σ) (s : σ) : List C → σ
  | [] => s
  | f :: fs => C.folds step (C.fold step s f) fs
end
theorem C.folds_take {σ : Type} (step : σ → C → σ) (s : σ) (fs : List C) (j : Nat) (h : j < fs.length) : C.folds step s (fs.take (j + 1)) = C.fold step (C.folds step s (fs.take j)) (fs[j]'h) := by
  induction fs generalizing s j with
  | nil => simp at h
  | cons f fs ih =>
    cases j with
    | zero => simp [C.folds]
    | succ j => simp [C.folds, ih _ j (by simpa using h)]
mutual
/-- The weight of all forms within a form. -/
def C.wsum (wt : C → Nat) : C → Nat
  | .mk k id nm n ids data kids => wt (.mk k id nm n ids data kids) + C.wsums wt kids
def C.wsums (wt : C → Nat) : List C → Nat
  | [] => 0
  | f :: fs => C.wsum wt f + C.wsums wt fs
end
mutual
theorem C.fold_le {σ : Type} (step : σ → C → σ) (wt : C → Nat) (μ : σ → Nat) (hg : ∀ s f, μ (step s f) ≤ μ s + wt f) : ∀ (f : C) (s : σ), μ (C.fold step s f) ≤ μ s + C.wsum wt f
  | .mk k id nm n ids data kids, s => by have h1 := C.folds_le step wt μ hg kids (step s (.mk k id nm n ids data kids)); have h2 := hg s (.mk k id nm n ids data kids); simp only [C.fold, C.wsum]; omega
theorem C.folds_le {σ : Type} (step : σ → C → σ) (wt : C → Nat) (μ : σ → Nat) (hg : ∀ s f, μ (step s f) ≤ μ s + wt f) : ∀ (fs : List C) (s : σ), μ (C.folds step s fs) ≤ μ s + C.wsums wt fs
  | [], s => by simp [C.folds]
  | f :: fs, s => by have h1 := C.fold_le step wt μ hg f s; have h2 := C.folds_le step wt μ hg fs (C.fold step s f); simp only [C.folds, C.wsums]; omega
end
theorem C.wsums_take (wt : C → Nat) (fs : List C) (j : Nat) (h : j < fs.length) : C.wsums wt (fs.take j) + C.wsum wt (fs[j]'h) ≤ C.wsums wt fs := by
  induction fs generalizing j with
  | nil => simp at h
  | cons f fs ih =>
    cases j with
    | zero => simp [C.wsums]
    | succ j => have := ih j (by simpa using h); simp [C.wsums]; omega
/-- A function value that steps over a state: the state's blocks bs, from B on. -/
structure StepsC {σ : Type} (P : Program) (t tf : TypeId) (K : Nat) (cap : Array Value) (B : Nat) (step : σ → C → σ) (I : σ → List Nat → World → Prop) (wt : C → Nat) (μ : σ → Nat) (M : Nat) : Prop where
  stay : ∀ s bs W W', I s bs W → Only W W' [] → I s bs W'
  lt : ∀ s bs W, I s bs W → ∀ b, b ∈ bs → B ≤ b ∧ b < W.heap.size
  call : ∀ (vs : List Value) (W : World), (callFunc K (#[.agg vs.toArray] ++ cap)).run P W = .ok (.enter K (#[.agg vs.toArray] ++ cap)) W
  grow : ∀ s f, μ (step s f) ≤ μ s + wt f
  go : ∀ s bs f vs W, I s bs W → μ s + wt f ≤ M → Reads W (fun b => b < B) vs (f.ds t tf) → Calls P K (#[.agg vs.toArray] ++ cap) W fun e w' => e = .returned (.tuple #[]) ∧ ∃ bs', I (step s f) bs' w' ∧ Only W w' bs ∧ ∀ b, b ∈ bs' → b ∈ bs ∨ W.heap.size ≤ b
def EachC {σ : Type} (K : Nat) (cap : Array Value) (B : Nat) (step : σ → C → σ) (I : σ → List Nat → World → Prop) (wt : C → Nat) (μ : σ → Nat) (M : Nat) (m : Nat) : Prop := ∀ (f : C) (s : σ) (bs : List Nat) (vs : List Value) (w : World), f.size < m → μ s + C.wsum wt f ≤ M → I s bs w → Reads w (fun b => b < B) vs (f.ds 45 31) →
    Calls Tryd.prog 42 #[.agg vs.toArray, .func (.func K) #[] cap] w fun e w' => e = .returned (.tuple #[]) ∧ ∃ bs', I (C.fold step s f) bs' w' ∧ Only w w' bs ∧ ∀ b, b ∈ bs' → b ∈ bs ∨ w.heap.size ≤ b
set_option maxHeartbeats 2000000 in
theorem eachC_step {σ : Type} {K : Nat} {cap : Array Value} {B : Nat} {step : σ → C → σ} {I : σ → List Nat → World → Prop} {wt : C → Nat} {μ : σ → Nat} {M : Nat} (hst : StepsC Tryd.prog 45 31 K cap B step I wt μ M) (m : Nat) (ih : EachC K cap B step I wt μ M m) : EachC K cap B step I wt μ M (m + 1) := by
  intro f s bs vs w hsz hw hI hr
  obtain ⟨k, id, nm, n, ids, data, kids⟩ := f
  obtain ⟨k1, nm1, n1, sc, fk⟩ := data
  obtain ⟨A3, c3, A8, c8, A9, c9, A4, c4, rfl, hb, hb1, h3, h5, h4⟩ := hr.core'
  have hm := h4.sl_le.2
  unfold maxLen at hm
  have HR := Lib.hid hr
  have HR4 := Lib.hid h4
  have HI := Lib.hid hI
  have HST := Lib.hid hst
  have HIH := Lib.hid ih
  have HS : Hid (C.sizes kids < m) := by simp [C.size] at hsz; exact hsz
  have hcall := hst.call
  have HW : Hid (μ s + (wt (.mk k id nm n ids (.mk k1 nm1 n1 sc fk) kids) + C.wsums wt kids) ≤ M) := hw
  clear hr h3 h4 h5 hI hst ih hsz hb hb1 hw
  go_enter Tryd.func42, Tryd.ntmps42
  go_wp2_with fail
  refine calls_alloc1 (fun W B0 hz hbw => ?_)
  refine (HST.out.go s bs _ [.int .i64 k, .int .i64 id, .string nm, .int .i64 n, .slice A3 ids.length c3, .int .i64 k1, .string nm1, .int .i64 n1, .slice A8 sc.length c8, .slice A9 fk.length c9, .slice A4 kids.length c4] W (HST.out.stay _ _ _ _ HI.out (Only.of_below hbw [])) (by have := HW.out; omega) (HR.out.belAll hbw)).mono ?_
  rintro e w1 ⟨rfl, bs1, hi1, hon1, hbs1⟩
  have hlt0 := HST.out.lt _ _ _ HI.out
  have HI1 := Lib.hid hi1
  have HON1 := Lib.hid ((Only.of_below hbw bs).trans hon1 (fun b hb => .inl hb))
  have HBS1 : Hid (∀ b, b ∈ bs1 → b ∈ bs ∨ w.heap.size + 1 ≤ b) := fun b hb => (hbs1 b hb).imp (fun h => h) (fun h => by omega)
  have C0 := Lib.hid ((hon1.block _ (blk_lt' B0) (fun h => by have := (hlt0 _ h).2; omega)).trans B0)
  have HL0 := Lib.hid hlt0
  have hz1 : w.heap.size + 1 ≤ w1.heap.size := by have := hon1.size; omega
  clear hi1 hon1 hbs1 B0 hz hbw hlt0
  obtain ⟨r0, _⟩ := blk_rules C0.out
  go_wp2_with fail
  clear r0
  go_loopw [12] (fun i wr => ∃ j : Nat, ∃ bsj : List Nat, j ≤ kids.length ∧ i = .int .i64 j ∧ Hid (I (C.folds step (step s (.mk k id nm n ids (.mk k1 nm1 n1 sc fk) kids)) (kids.take j)) bsj wr) ∧ Hid (Only w wr bs) ∧ Hid (∀ b, b ∈ bsj → b ∈ bs ∨ w.heap.size + 1 ≤ b) ∧ Hid (w.heap.size + 1 ≤ wr.heap.size)) (fun i _ => kids.length - (intOf i).toNat)
  case atStart => exact ⟨0, bs1, Nat.zero_le _, rfl, HI1.out, HON1.out, HBS1.out, hz1⟩
  case round =>
    obtain ⟨j, bsj, hj, rfl, HIj, HOj, HBj, HZj⟩ := hrel
    by_cases hlt : j < kids.length
    · have hrr : Reads wr (fun b => b < B) [.slice A4 kids.length c4] [.r 45 11 (C.dss 45 31 kids)] := HOj.out.reads HR4.out (fun b hb hm => by have := (HL0.out b hm).1; omega)
      obtain ⟨ad, k', id', nm', n', ids', k1', nm1', n1', sc', fk', ks', A3', c3', A8', c8', A9', c9', A4', c4', rfl, hf, hel, hc0, hc1, hc2, hc3, hc4, hc5, hc6, hc7, hc8, hc9, hc10⟩ := hrr.elemC' hlt
      have HEL := Lib.hid hel
      have hsz := C.sizes_get kids j hlt
      have HSZ : Hid ((kids[j]'hlt).size < m) := by have := HS.out; show _ < _; omega
      have HWJ : Hid (μ (C.folds step (step s (.mk k id nm n ids (.mk k1 nm1 n1 sc fk) kids)) (kids.take j)) + C.wsum wt (kids[j]'hlt) ≤ M) := by
        have h1 := HW.out
        have h2 := C.wsums_take wt kids j hlt
        have h3 := C.folds_le step wt μ HST.out.grow (kids.take j) (step s (.mk k id nm n ids (.mk k1 nm1 n1 sc fk) kids))
        have h4 := HST.out.grow s (.mk k id nm n ids (.mk k1 nm1 n1 sc fk) kids)
        show _ ≤ _
        omega
      clear hel hsz hrr hf
      go_wp2_with fail
      refine calls_alloc1 (fun W B0 hz hbw => ?_)
      refine (HIH.out _ _ bsj [.int .i64 k', .int .i64 id', .string nm', .int .i64 n', .slice A3' ids'.length c3', .int .i64 k1', .string nm1', .int .i64 n1', .slice A8' sc'.length c8', .slice A9' fk'.length c9', .slice A4' ks'.length c4'] W HSZ.out HWJ.out (HST.out.stay _ _ _ _ HIj.out (Only.of_below hbw [])) (HEL.out.belAll hbw)).mono ?_
      rintro e w2 ⟨rfl, bs2, hi2, hon2, hbs2⟩
      have HI2 := Lib.hid hi2
      have HON2 := Lib.hid (HOj.out.trans ((Only.of_below hbw bsj).trans hon2 (fun b hb => .inl hb)) (fun b hb => (HBj.out b hb).imp (fun h => h) (fun h => by omega)))
      have HBS2 : Hid (∀ b, b ∈ bs2 → b ∈ bs ∨ w.heap.size + 1 ≤ b) := fun b hb => by
        rcases hbs2 b hb with h | h
        · exact HBj.out b h
        · have := HZj.out; exact .inr (by omega)
      have hz2 : w.heap.size + 1 ≤ w2.heap.size := by have := hon2.size; have := HZj.out; omega
      clear hi2 hon2 hbs2 B0 hz hbw
      go_wp2_with fail
      go_roundw
      case rel => exact ⟨j + 1, bs2, by omega, by go_num, by show I _ _ _; rw [C.folds_take _ _ _ _ hlt]; exact HI2.out, HON2.out, HBS2.out, hz2⟩
      case measure => simp [intOf]; omega
    · go_wp2_with fail
      go_end0
      obtain rfl : j = kids.length := by omega
      have h1 := HIj.out
      rw [List.take_length] at h1
      exact ⟨rfl, bsj, h1, HOj.out, fun b hb => (HBj.out b hb).imp (fun h => h) (fun h => by omega)⟩
theorem eachCore_any {σ : Type} {K : Nat} {cap : Array Value} {B : Nat} {step : σ → C → σ} {I : σ → List Nat → World → Prop} {wt : C → Nat} {μ : σ → Nat} {M : Nat} (hst : StepsC Tryd.prog 45 31 K cap B step I wt μ M) (f : C) (s : σ) (bs : List Nat) (vs : List Value) (w : World) (hw : μ s + C.wsum wt f ≤ M) (hI : I s bs w) (hr : Reads w (fun b => b < B) vs (f.ds 45 31)) :
    Calls Tryd.prog 42 #[.agg vs.toArray, .func (.func K) #[] cap] w fun e w' => e = .returned (.tuple #[]) ∧ ∃ bs', I (C.fold step s f) bs' w' ∧ Only w w' bs ∧ ∀ b, b ∈ bs' → b ∈ bs ∨ w.heap.size ≤ b := by
  have h : ∀ m, EachC K cap B step I wt μ M m := fun m => by
    induction m with
    | zero => intro f s bs vs w hs; omega
    | succ m ih => exact eachC_step hst m ih
  exact h (f.size + 1) f s bs vs w (by omega) hw hI hr
end Go.Proofs.YtnooeebefhfjcaaDoor
