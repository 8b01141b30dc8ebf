/- What the program's start lays, and an argument of five cells, opened. -/
import Derived.Test.YtnooeebefhfjcaaDoorOpF
import Derived.OpenShut
import Derived.ProofKit
import Derived.FnData
set_option linter.unusedVariables false
set_option linter.unusedSimpArgs false
namespace Go.Proofs.YtnooeebefhfjcaaDoor
open Go Go.RowKit
section
variable {H : Type} {enc : TypeId × Value → H} {w : World} {sp : Nat → Bool} {held : Bool}
/-- An array of strings that reads as the strings bs is these strings. -/
theorem strs_of_trod {t : TypeId} {fuel : Nat} {cs : List Value} {p : List MemPlace} (bs : List ByteArray) (ht : Tryd.prog.underlying t = some (.array bs.length 9)) (hc : Tryd.prog.cellsOf t = bs.length)
    (h : DataW.trod enc Tryd.prog w 0 sp held fuel t cs = some (.agg (bs.map fun b => .lit (.string b.data.toList)), p)) : cs = bs.map Value.string ∧ ∀ b, b ∈ bs → b.size ≤ maxLen := by
  obtain ⟨xs, m, rfl, hx, hl, hn, hel⟩ := DataW.trod_array ht h
  rw [hc] at hl
  simp only [Prod.mk.injEq, DataW.agg.injEq] at hx
  have c9 : Tryd.prog.cellsOf 9 = 1 := by kernel_rfl
  have key : ∀ i (hi : i < bs.length), cs[i]? = some (.string bs[i]) ∧ (bs[i]).size ≤ maxLen := fun i hi => by
    have h1 := hel i hi
    rw [c9, Nat.mul_one, List.getElem?_eq_getElem (by omega)] at h1
    obtain ⟨s, h2, h3, h4⟩ := DataW.trod_string Tryd.underlying9 h1
    have h5 : cs[i]? = some (.string s) := by
      have : (List.take 1 (List.drop i cs))[0]? = some (.string s) := by rw [h2]; rfl
      simpa using this
    have h6 : (bs.map fun b => (DataW.lit (.string b.data.toList) : DataW H))[i]? = (xs.map (·.1))[i]? := by rw [hx.1]
    rw [List.getElem?_map, List.getElem?_map, List.getElem?_eq_getElem hi, List.getElem?_eq_getElem (by omega), h3] at h6
    simp at h6
    have : bs[i] = s := by
      have e : (bs[i]).data = s.data := h6
      cases hb : bs[i]; cases s; simp_all
    rw [this]
    exact ⟨h5, h4⟩
  constructor
  · apply List.ext_getElem?
    intro i
    rcases Nat.lt_or_ge i bs.length with hi | hi
    · rw [(key i hi).1, List.getElem?_map, List.getElem?_eq_getElem hi]; rfl
    · rw [List.getElem?_eq_none (by omega), List.getElem?_eq_none (by simpa using hi)]
  · intro b hb
    obtain ⟨i, hi, rfl⟩ := List.mem_iff_getElem.1 hb
    exact (key i hi).2
/-- A variable that is an array of strings, read as a slice of the array's whole. -/
theorem strs_laid {n : String} {g : Nat} {t : TypeId} {fuel : Nat} {cs : Array Value} {p : List MemPlace} (bs : List ByteArray) (hbs : bs ≠ []) (hm : bs.length ≤ maxLen) (hg : Tryd.prog.globalNamed n = some g) (hv : w.var? Tryd.prog n = some cs)
    (ht : Tryd.prog.underlying t = some (.array bs.length 9)) (hc : Tryd.prog.cellsOf t = bs.length) (h : DataW.trod enc Tryd.prog w 0 sp held fuel t cs.toList = some (.agg (bs.map fun b => .lit (.string b.data.toList)), p)) :
    Reads w (fun b => b = g) [.slice (some ⟨g, 0, none⟩) bs.length bs.length] [.r 9 1 (bs.map D.s)] ∧ g < w.heap.size := by
  obtain ⟨h1, h2⟩ := strs_of_trod bs ht hc h
  have hcell : ∀ j u, (bs.map Value.string)[j]? = some u → w.cell? ((⟨g, 0, none⟩ : Addr).add j) = some u := fun j u hj => by
    rw [add_lit0, World.var?_cell hg hv j, ← Array.getElem?_toList, h1]; exact hj
  refine ⟨.row _ _ _ _ 1 (Nat.le_refl _) hm (by simp) (fun _ => rfl) hcell ?_ .nil, ?_⟩
  · clear hcell h1 h hc ht hm hbs
    induction bs with
    | nil => exact .nil
    | cons b bs ih => exact .str b (h2 b (by simp)) (ih fun x hx => h2 x (by simp [hx]))
  · obtain ⟨b, bs', rfl⟩ := List.exists_cons_of_ne_nil hbs
    have := World.block_lt_of_cell? w _ (hcell 0 _ rfl)
    simpa [add_lit0] using this
/-- An argument of five cells is a struct's value. -/
theorem agg_of_form {v : Value} {d : DataW H} {p : List MemPlace} (S : Nat → Prop) (hS : ∀ b, S b) (h : DataW.Trod enc Tryd.prog w 0 sp held 25 v d p) : ∃ (vs : List Value) (f : F), v = .agg vs.toArray ∧ Reads w S vs (f.ds 25) := by
  obtain ⟨fuel, h⟩ := h
  obtain ⟨f, hf⟩ := form_of_trod S hS _ _ _ h
  have hl := hf.len
  rw [F.ds_len] at hl
  cases v with
  | agg xs => exact ⟨xs.toList, f, by simp, hf⟩
  | _ => simp [Value.cells] at hl
end
end Go.Proofs.YtnooeebefhfjcaaDoor
