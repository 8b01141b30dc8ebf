/- eachForm: a function value is called with each form within a form, in the order of the text. -/
import Derived.Test.YtnooeebefhfjcaaDoorAp
import Derived.Test.YtnooeebefhfjcaaDoorSz
set_option linter.unusedVariables false
set_option linter.unusedSimpArgs false
namespace Go.Proofs.YtnooeebefhfjcaaDoor
open Go Go.RowKit
mutual
/-- What a step over each form comes to. -/
def F.fold {σ : Type} (step : σ → F → σ) (s : σ) : F → σ
  | .mk k nm n sc kids => F.folds step (step s (.mk k nm n sc kids)) kids
def F.folds {σ : Type} (step : σ → F → σ) (s : σ) : List F → σ
  | [] => s
  | f :: fs => F.folds step (F.fold step s f) fs
end
theorem F.folds_take {σ : Type} (step : σ → F → σ) (s : σ) (fs : List F) (j : Nat) (h : j < fs.length) : F.folds step s (fs.take (j + 1)) = F.fold step (F.folds step s (fs.take j)) (fs[j]'h) := by
  induction fs generalizing s j with
  | nil => simp at h
  | cons f fs ih =>
    cases j with
    | zero => simp [F.folds]
    | succ j => simp [F.folds, ih _ j (by simpa using h)]
mutual
/-- The weight of all forms within a form. -/
def F.wsum (wt : F → Nat) : F → Nat
  | .mk k nm n sc kids => wt (.mk k nm n sc kids) + F.wsums wt kids
def F.wsums (wt : F → Nat) : List F → Nat
  | [] => 0
  | f :: fs => F.wsum wt f + F.wsums wt fs
end
mutual
theorem F.fold_le {σ : Type} (step : σ → F → σ) (wt : F → Nat) (μ : σ → Nat) (hg : ∀ s f, μ (step s f) ≤ μ s + wt f) : ∀ (f : F) (s : σ), μ (F.fold step s f) ≤ μ s + F.wsum wt f
  | .mk k nm n sc kids, s => by have h1 := F.folds_le step wt μ hg kids (step s (.mk k nm n sc kids)); have h2 := hg s (.mk k nm n sc kids); simp only [F.fold, F.wsum]; omega
theorem F.folds_le {σ : Type} (step : σ → F → σ) (wt : F → Nat) (μ : σ → Nat) (hg : ∀ s f, μ (step s f) ≤ μ s + wt f) : ∀ (fs : List F) (s : σ), μ (F.folds step s fs) ≤ μ s + F.wsums wt fs
  | [], s => by simp [F.folds]
  | f :: fs, s => by have h1 := F.fold_le step wt μ hg f s; have h2 := F.folds_le step wt μ hg fs (F.fold step s f); simp only [F.folds, F.wsums]; omega
end
theorem F.wsums_take (wt : F → Nat) (fs : List F) (j : Nat) (h : j < fs.length) : F.wsums wt (fs.take j) + F.wsum wt (fs[j]'h) ≤ F.wsums wt fs := by
  induction fs generalizing j with
  | nil => simp at h
  | cons f fs ih =>
    cases j with
    | zero => simp [F.wsums]
    | succ j => have := ih j (by simpa using h); simp [F.wsums]; omega
/-- A function value that steps over a state: the state's blocks bs, from B on. -/
structure Steps {σ : Type} (P : Program) (t : TypeId) (K : Nat) (cap : Array Value) (B : Nat) (step : σ → F → σ) (I : σ → List Nat → World → Prop) (wt : F → Nat) (μ : σ → Nat) (M : Nat) : Prop where
  stay : ∀ s bs W W', I s bs W → Only W W' [] → I s bs W'
  lt : ∀ s bs W, I s bs W → ∀ b, b ∈ bs → B ≤ b ∧ b < W.heap.size
  call : ∀ (vs : List Value) (W : World), (callFunc K (#[.agg vs.toArray] ++ cap)).run P W = .ok (.enter K (#[.agg vs.toArray] ++ cap)) W
  grow : ∀ s f, μ (step s f) ≤ μ s + wt f
  go : ∀ s bs f vs W, I s bs W → μ s + wt f ≤ M → Reads W (fun b => b < B) vs (f.ds t) → Calls P K (#[.agg vs.toArray] ++ cap) W fun e w' => e = .returned (.tuple #[]) ∧ ∃ bs', I (step s f) bs' w' ∧ Only W w' bs ∧ ∀ b, b ∈ bs' → b ∈ bs ∨ W.heap.size ≤ b
def EachF {σ : Type} (K : Nat) (cap : Array Value) (B : Nat) (step : σ → F → σ) (I : σ → List Nat → World → Prop) (wt : F → Nat) (μ : σ → Nat) (M : Nat) (m : Nat) : Prop := ∀ (f : F) (s : σ) (bs : List Nat) (vs : List Value) (w : World), f.size < m → μ s + F.wsum wt f ≤ M → I s bs w → Reads w (fun b => b < B) vs (f.ds 31) →
    Calls Tryd.prog 54 #[.agg vs.toArray, .func (.func K) #[] cap] w fun e w' => e = .returned (.tuple #[]) ∧ ∃ bs', I (F.fold step s f) bs' w' ∧ Only w w' bs ∧ ∀ b, b ∈ bs' → b ∈ bs ∨ w.heap.size ≤ b
set_option maxHeartbeats 2000000 in
theorem eachF_step {σ : Type} {K : Nat} {cap : Array Value} {B : Nat} {step : σ → F → σ} {I : σ → List Nat → World → Prop} {wt : F → Nat} {μ : σ → Nat} {M : Nat} (hst : Steps Tryd.prog 31 K cap B step I wt μ M) (m : Nat) (ih : EachF K cap B step I wt μ M m) : EachF K cap B step I wt μ M (m + 1) := by
  intro f s bs vs w hsz hw hI hr
  obtain ⟨k, nm, n, sc, kids⟩ := f
  obtain ⟨A3, c3, A4, c4, rfl, hb, h3, h4⟩ := hr.form
  have hm := h4.sl_le.2
  unfold maxLen at hm
  have HR := Lib.hid hr
  have HR4 := Lib.hid h4
  have HI := Lib.hid hI
  have HST := Lib.hid hst
  have HIH := Lib.hid ih
  have HS : Hid (F.sizes kids < m) := by simp [F.size] at hsz; exact hsz
  have hcall := hst.call
  have HW : Hid (μ s + (wt (.mk k nm n sc kids) + F.wsums wt kids) ≤ M) := hw
  clear hr h3 h4 hI hst ih hsz hb hw
  go_enter Tryd.func54, Tryd.ntmps54
  go_wp2_with fail
  refine calls_alloc1 (fun W B0 hz hbw => ?_)
  refine (HST.out.go s bs _ [.int .i64 k, .string nm, .int .i64 n, .slice A3 sc.length c3, .slice A4 kids.length c4] W (HST.out.stay _ _ _ _ HI.out (Only.of_below hbw [])) (by have := HW.out; omega) (HR.out.belAll hbw)).mono ?_
  rintro e w1 ⟨rfl, bs1, hi1, hon1, hbs1⟩
  have hlt0 := HST.out.lt _ _ _ HI.out
  have HI1 := Lib.hid hi1
  have HON1 := Lib.hid ((Only.of_below hbw bs).trans hon1 (fun b hb => .inl hb))
  have HBS1 : Hid (∀ b, b ∈ bs1 → b ∈ bs ∨ w.heap.size + 1 ≤ b) := fun b hb => (hbs1 b hb).imp id (fun h => by omega)
  have C0 := Lib.hid ((hon1.block _ (blk_lt' B0) (fun h => by have := (hlt0 _ h).2; omega)).trans B0)
  have HL0 := Lib.hid hlt0
  have hz1 : w.heap.size + 1 ≤ w1.heap.size := by have := hon1.size; omega
  clear hi1 hon1 hbs1 B0 hz hbw hlt0
  obtain ⟨r0, _⟩ := blk_rules C0.out
  go_wp2_with fail
  clear r0
  go_loopw [12] (fun i wr => ∃ j : Nat, ∃ bsj : List Nat, j ≤ kids.length ∧ i = .int .i64 j ∧ Hid (I (F.folds step (step s (.mk k nm n sc kids)) (kids.take j)) bsj wr) ∧ Hid (Only w wr bs) ∧ Hid (∀ b, b ∈ bsj → b ∈ bs ∨ w.heap.size + 1 ≤ b) ∧ Hid (w.heap.size + 1 ≤ wr.heap.size)) (fun i _ => kids.length - (intOf i).toNat)
  case atStart => exact ⟨0, bs1, Nat.zero_le _, rfl, HI1.out, HON1.out, HBS1.out, hz1⟩
  case round =>
    obtain ⟨j, bsj, hj, rfl, HIj, HOj, HBj, HZj⟩ := hrel
    by_cases hlt : j < kids.length
    · have hrr : Reads wr (fun b => b < B) [.slice A4 kids.length c4] [.r 31 5 (F.dss 31 kids)] := HOj.out.reads HR4.out (fun b hb hm => by have := (HL0.out b hm).1; omega)
      obtain ⟨ad, k', nm', n', sc', ks', A3', c3', A4', c4', rfl, hf, hel, hc0, hc1, hc2, hc3, hc4⟩ := hrr.elemF' hlt
      have HEL := Lib.hid hel
      have hsz := F.sizes_get kids j hlt
      have HSZ : Hid ((kids[j]'hlt).size < m) := by have := HS.out; show _ < _; omega
      have HWJ : Hid (μ (F.folds step (step s (.mk k nm n sc kids)) (kids.take j)) + F.wsum wt (kids[j]'hlt) ≤ M) := by
        have h1 := HW.out
        have h2 := F.wsums_take wt kids j hlt
        have h3 := F.folds_le step wt μ HST.out.grow (kids.take j) (step s (.mk k nm n sc kids))
        have h4 := HST.out.grow s (.mk k nm n sc kids)
        show _ ≤ _
        omega
      clear hel hsz hrr hf
      go_wp2_with fail
      refine calls_alloc1 (fun W B0 hz hbw => ?_)
      refine (HIH.out _ _ bsj [.int .i64 k', .string nm', .int .i64 n', .slice A3' sc'.length c3', .slice A4' ks'.length c4'] W HSZ.out HWJ.out (HST.out.stay _ _ _ _ HIj.out (Only.of_below hbw [])) (HEL.out.belAll hbw)).mono ?_
      rintro e w2 ⟨rfl, bs2, hi2, hon2, hbs2⟩
      have HI2 := Lib.hid hi2
      have HON2 := Lib.hid (HOj.out.trans ((Only.of_below hbw bsj).trans hon2 (fun b hb => .inl hb)) (fun b hb => (HBj.out b hb).imp id (fun h => by omega)))
      have HBS2 : Hid (∀ b, b ∈ bs2 → b ∈ bs ∨ w.heap.size + 1 ≤ b) := fun b hb => by
        rcases hbs2 b hb with h | h
        · exact HBj.out b h
        · have := HZj.out; exact .inr (by omega)
      have hz2 : w.heap.size + 1 ≤ w2.heap.size := by have := hon2.size; have := HZj.out; omega
      clear hi2 hon2 hbs2 B0 hz hbw
      go_wp2_with fail
      go_roundw
      case rel => exact ⟨j + 1, bs2, by omega, by go_num, by show I _ _ _; rw [F.folds_take _ _ _ _ hlt]; exact HI2.out, HON2.out, HBS2.out, hz2⟩
      case measure => simp [intOf]; omega
    · go_wp2_with fail
      go_end0
      obtain rfl : j = kids.length := by omega
      have h1 := HIj.out
      rw [List.take_length] at h1
      exact ⟨rfl, bsj, h1, HOj.out, fun b hb => (HBj.out b hb).imp id (fun h => by omega)⟩
theorem eachForm_any {σ : Type} {K : Nat} {cap : Array Value} {B : Nat} {step : σ → F → σ} {I : σ → List Nat → World → Prop} {wt : F → Nat} {μ : σ → Nat} {M : Nat} (hst : Steps Tryd.prog 31 K cap B step I wt μ M) (f : F) (s : σ) (bs : List Nat) (vs : List Value) (w : World) (hw : μ s + F.wsum wt f ≤ M) (hI : I s bs w) (hr : Reads w (fun b => b < B) vs (f.ds 31)) :
    Calls Tryd.prog 54 #[.agg vs.toArray, .func (.func K) #[] cap] w fun e w' => e = .returned (.tuple #[]) ∧ ∃ bs', I (F.fold step s f) bs' w' ∧ Only w w' bs ∧ ∀ b, b ∈ bs' → b ∈ bs ∨ w.heap.size ≤ b := by
  have h : ∀ m, EachF K cap B step I wt μ M m := fun m => by
    induction m with
    | zero => intro f s bs vs w hs; omega
    | succ m ih => exact eachF_step hst m ih
  exact h (f.size + 1) f s bs vs w (by omega) hw hI hr
end Go.Proofs.YtnooeebefhfjcaaDoor
