/- A core program that comes in reads as a tree. -/
import Derived.Test.YtnooeebefhfjcaaDoorOpF
import Derived.Test.YtnooeebefhfjcaaDoorC
set_option linter.unusedVariables false
set_option linter.unusedSimpArgs false
namespace Go.Proofs.YtnooeebefhfjcaaDoor
open Go Go.RowKit Go.Deep
section
variable {H : Type} {enc : TypeId × Value → H} {w : World} {sp : Nat → Bool} {held : Bool}
theorem C.dss_flat (t tf : TypeId) (q : Nat → C) : ∀ n : Nat, C.dss t tf ((List.range n).map q) = (List.range n).flatMap fun i => (q i).ds t tf
  | 0 => rfl
  | n + 1 => by
    rw [List.range_succ, List.map_append, C.dss_append, List.flatMap_append, C.dss_flat t tf q n]
    simp [C.dss]
theorem core_of_trod (S : Nat → Prop) (hS : ∀ b, S b) : ∀ (n : Nat) (cs : List Value) (x : DataW H × List MemPlace), DataW.trod enc Tryd.prog w 0 sp held n 40 cs = some x → ∃ f : C, Reads w S cs (f.ds 40 25) := by
  intro n
  induction n using Nat.strongRecOn with
  | _ n ih =>
    intro cs x h
    obtain ⟨xs, m, rfl, _, hl, hxl, hf⟩ := DataW.trod_struct Tryd.underlying40 h
    rw [show Tryd.prog.cellsOf 40 = 11 by kernel_rfl] at hl
    match cs, hl with
    | [c0, c1, c2, c3, c4, c5, c6, c7, c8, c9, c10], _ =>
      rw [show (#[_, _, _, _, _, _, _] : Array Field).size = 7 from rfl] at hxl
      have c3' : Tryd.prog.cellsOf 3 = 1 := by kernel_rfl
      have c9' : Tryd.prog.cellsOf 9 = 1 := by kernel_rfl
      have c22' : Tryd.prog.cellsOf 22 = 1 := by kernel_rfl
      have c23' : Tryd.prog.cellsOf 38 = 1 := by kernel_rfl
      have c25' : Tryd.prog.cellsOf 25 = 5 := by kernel_rfl
      have e0 : DataW.trod enc Tryd.prog w 0 sp held m 3 (List.take (Tryd.prog.cellsOf 3) (List.drop 0 [c0, c1, c2, c3, c4, c5, c6, c7, c8, c9, c10])) = some (xs[0]'(by omega)) := (hf 0 _ rfl).trans (List.getElem?_eq_getElem (by omega))
      have e1 : DataW.trod enc Tryd.prog w 0 sp held m 3 (List.take (Tryd.prog.cellsOf 3) (List.drop 1 [c0, c1, c2, c3, c4, c5, c6, c7, c8, c9, c10])) = some (xs[1]'(by omega)) := (hf 1 _ rfl).trans (List.getElem?_eq_getElem (by omega))
      have e2 : DataW.trod enc Tryd.prog w 0 sp held m 9 (List.take (Tryd.prog.cellsOf 9) (List.drop 2 [c0, c1, c2, c3, c4, c5, c6, c7, c8, c9, c10])) = some (xs[2]'(by omega)) := (hf 2 _ rfl).trans (List.getElem?_eq_getElem (by omega))
      have e3 : DataW.trod enc Tryd.prog w 0 sp held m 3 (List.take (Tryd.prog.cellsOf 3) (List.drop 3 [c0, c1, c2, c3, c4, c5, c6, c7, c8, c9, c10])) = some (xs[3]'(by omega)) := (hf 3 _ rfl).trans (List.getElem?_eq_getElem (by omega))
      have e4 : DataW.trod enc Tryd.prog w 0 sp held m 22 (List.take (Tryd.prog.cellsOf 22) (List.drop 4 [c0, c1, c2, c3, c4, c5, c6, c7, c8, c9, c10])) = some (xs[4]'(by omega)) := (hf 4 _ rfl).trans (List.getElem?_eq_getElem (by omega))
      have e5 : DataW.trod enc Tryd.prog w 0 sp held m 25 (List.take (Tryd.prog.cellsOf 25) (List.drop 5 [c0, c1, c2, c3, c4, c5, c6, c7, c8, c9, c10])) = some (xs[5]'(by omega)) := (hf 5 _ rfl).trans (List.getElem?_eq_getElem (by omega))
      have e6 : DataW.trod enc Tryd.prog w 0 sp held m 38 (List.take (Tryd.prog.cellsOf 38) (List.drop 10 [c0, c1, c2, c3, c4, c5, c6, c7, c8, c9, c10])) = some (xs[6]'(by omega)) := (hf 6 _ rfl).trans (List.getElem?_eq_getElem (by omega))
      rw [c3'] at e0 e1 e3
      rw [c9'] at e2
      rw [c22'] at e4
      rw [c25'] at e5
      rw [c23'] at e6
      change DataW.trod enc Tryd.prog w 0 sp held m 3 [c0] = _ at e0
      change DataW.trod enc Tryd.prog w 0 sp held m 3 [c1] = _ at e1
      change DataW.trod enc Tryd.prog w 0 sp held m 9 [c2] = _ at e2
      change DataW.trod enc Tryd.prog w 0 sp held m 3 [c3] = _ at e3
      change DataW.trod enc Tryd.prog w 0 sp held m 22 [c4] = _ at e4
      change DataW.trod enc Tryd.prog w 0 sp held m 25 [c5, c6, c7, c8, c9] = _ at e5
      change DataW.trod enc Tryd.prog w 0 sp held m 38 [c10] = _ at e6
      obtain ⟨k, h0, _⟩ := DataW.trod_int Tryd.underlying3 e0
      obtain ⟨id, h1, _⟩ := DataW.trod_int Tryd.underlying3 e1
      obtain ⟨nm, h2, _, hnm⟩ := DataW.trod_string Tryd.underlying9 e2
      obtain ⟨nn, h3, _⟩ := DataW.trod_int Tryd.underlying3 e3
      obtain ⟨ids, h4⟩ := ints_of_trod S hS e4
      obtain ⟨data, h5⟩ := form_of_trod S hS _ _ _ e5
      have h6 : ∃ kids : List C, Reads w S [c10] [.r 40 11 (C.dss 40 25 kids)] := by
        rcases DataW.trod_slice Tryd.underlying38 e6 with ⟨h, _⟩ | ⟨a, len, cap, elems, rest, n', hn', h, _, _, hlc, hcm, hele, hel, _⟩
        · rw [h]; exact ⟨[], .zero none 0 _ _ .nil⟩
        · rw [h]
          have key : ∀ i : Nat, ∃ f : C, i < len → ∃ cs : List Value, cs.length = 11 ∧ (∀ j u, cs[j]? = some u → w.cell? (a.add (i * 11 + j)) = some u) ∧ Reads w S cs (f.ds 40 25) := fun i => by
            by_cases hi : i < len
            · have h0 := hel i hi
              rw [List.getElem?_eq_getElem (by omega)] at h0
              obtain ⟨cs', h1, h2⟩ := Option.bind_eq_some_iff.1 h0
              rw [show Tryd.prog.cellsOf 40 = 11 by kernel_rfl] at h1
              obtain ⟨f, hf'⟩ := ih _ (by omega) _ _ h2
              have h3 := World.cells?_some h1
              refine ⟨f, fun _ => ⟨cs', h3.2.1, fun j u hj => ?_, hf'⟩⟩
              have := h3.2.2 j (by rw [← h3.2.1]; exact (List.getElem?_eq_some_iff.1 hj).1)
              rw [add_add] at this
              exact this.trans hj
            · exact ⟨.mk 0 0 .empty 0 [] (.mk 0 .empty 0 [] []) [], fun h => absurd h hi⟩
          obtain ⟨q, hq⟩ := Classical.axiomOfChoice key
          obtain ⟨us, h1, h2, h3⟩ := reads_many (k := 11) (a := a) (dsAt := fun i => (q i).ds 40 25) S len hq
          exact ⟨(List.range len).map q, .row (us := us) a len cap _ 11 hlc hcm h1 (fun _ => hS _) h2 (by rw [C.dss_flat]; exact h3) .nil⟩
      obtain ⟨kids, h6⟩ := h6
      injection h0 with h0 _
      injection h1 with h1 _
      injection h2 with h2 _
      injection h3 with h3 _
      subst h0 h1 h2 h3
      exact ⟨.mk k id nm nn ids data kids, .int _ (.int _ (.str _ hnm (.int _ (h4.cons_mk (h5.append h6)))))⟩
/-- An argument of eleven cells is a struct's value. -/
theorem agg_of_core {v : Value} {d : DataW H} {p : List MemPlace} (S : Nat → Prop) (hS : ∀ b, S b) (h : DataW.Trod enc Tryd.prog w 0 sp held 40 v d p) : ∃ (vs : List Value) (f : C), v = .agg vs.toArray ∧ Reads w S vs (f.ds 40 25) := by
  obtain ⟨fuel, h⟩ := h
  obtain ⟨f, hf⟩ := core_of_trod S hS _ _ _ h
  have hl := hf.len
  rw [C.ds_len] at hl
  cases v with
  | agg xs => exact ⟨xs.toList, f, by simp, hf⟩
  | _ => simp [Value.cells] at hl
end
end Go.Proofs.YtnooeebefhfjcaaDoor
