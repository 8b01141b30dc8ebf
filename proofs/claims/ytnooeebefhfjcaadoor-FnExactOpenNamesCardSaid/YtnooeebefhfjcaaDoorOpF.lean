/- A form that comes in reads as a tree. -/
import Derived.Test.YtnooeebefhfjcaaDoorProg
import Derived.Test.YtnooeebefhfjcaaDoorK
import Derived.ProofKit
import Derived.Deep.Slices
set_option linter.unusedVariables false
set_option linter.unusedSimpArgs false
namespace Go.Proofs.YtnooeebefhfjcaaDoor
open Go Go.RowKit Go.Deep
section
variable {H : Type} {enc : TypeId × Value → H} {w : World} {sp : Nat → Bool} {held : Bool}
theorem add_add (a : Addr) (i j : Nat) : (a.add i).add j = a.add (i + j) := by
  unfold Addr.add
  by_cases h1 : i = 0 <;> by_cases h2 : j = 0 <;> simp [h1, h2, Nat.add_assoc]
/-- Readings of elements side by side: their cells one behind the other. -/
theorem reads_many {k : Nat} {a : Addr} {dsAt : Nat → List D} (S : Nat → Prop) : ∀ len : Nat, (∀ i, i < len → ∃ cs : List Value, cs.length = k ∧ (∀ j u, cs[j]? = some u → w.cell? (a.add (i * k + j)) = some u) ∧ Reads w S cs (dsAt i)) →
    ∃ us : List Value, us.length = len * k ∧ (∀ j u, us[j]? = some u → w.cell? (a.add j) = some u) ∧ Reads w S us ((List.range len).flatMap dsAt)
  | 0, _ => ⟨[], by simp, by simp, .nil⟩
  | len + 1, h => by
    obtain ⟨us, h1, h2, h3⟩ := reads_many S len (fun i hi => h i (by omega))
    obtain ⟨cs, h4, h5, h6⟩ := h len (by omega)
    refine ⟨us ++ cs, by simp [h1, h4, Nat.add_mul], fun j u hj => ?_, ?_⟩
    · rcases Nat.lt_or_ge j us.length with hl | hl
      · rw [List.getElem?_append_left hl] at hj; exact h2 j u hj
      · rw [List.getElem?_append_right hl] at hj
        have := h5 _ _ hj
        rwa [show len * k + (j - us.length) = j by omega] at this
    · rw [List.range_succ, List.flatMap_append]
      simpa using h3.append h6
theorem ints_of_trod {n : Nat} {cs : List Value} {x : DataW H × List MemPlace} (S : Nat → Prop) (hS : ∀ b, S b) (h : DataW.trod enc Tryd.prog w 0 sp held n 22 cs = some x) : ∃ xs : List Int, Reads w S cs [.r 3 1 (xs.map D.i)] := by
  rcases open_slice Tryd.underlying22 h with ⟨rfl, _⟩ | ⟨a, len, cap, m, n', Dt, Pl, rfl, _, hlc, hcm, hm, _, hel⟩
  · exact ⟨[], .zero none 0 _ _ .nil⟩
  · have hlm : len ≤ m := by rw [hm]; split <;> omega
    have key : ∀ i, i < len → ∃ q : Int, w.cell? (a.add i) = some (.int .i64 q) := fun i hi => by
      obtain ⟨cs', h1, h2⟩ := hel i (by omega)
      rw [show Tryd.prog.cellsOf 3 = 1 by kernel_rfl] at h1
      obtain ⟨q, rfl, _⟩ := DataW.trod_int Tryd.underlying3 h2
      have := (World.cells?_some h1).2.2 0 (by omega)
      rw [Nat.mul_one, add_add] at this
      exact ⟨q, this⟩
    have key2 : ∀ i : Nat, ∃ q : Int, i < len → w.cell? (a.add i) = some (.int .i64 q) := fun i => by
      by_cases hi : i < len
      · obtain ⟨q, hq⟩ := key i hi; exact ⟨q, fun _ => hq⟩
      · exact ⟨0, fun h => absurd h hi⟩
    obtain ⟨q, hq⟩ := Classical.axiomOfChoice key2
    refine ⟨(List.range len).map q, .row (us := ((List.range len).map q).map (Value.int .i64)) a len cap _ 1 hlc hcm (by simp) (fun _ => hS _) (fun j u hj => ?_) (Reads.ints_mk _ _ _) .nil⟩
    simp only [List.map_map, List.getElem?_map] at hj
    rcases Nat.lt_or_ge j len with hl | hl
    · rw [List.getElem?_range hl] at hj
      simp at hj
      subst hj
      exact hq j hl
    · rw [List.getElem?_eq_none (by simpa using hl)] at hj
      cases hj
theorem F.dss_flat (t : TypeId) (q : Nat → F) : ∀ n : Nat, F.dss t ((List.range n).map q) = (List.range n).flatMap fun i => (q i).ds t
  | 0 => rfl
  | n + 1 => by
    rw [List.range_succ, List.map_append, F.dss_append, List.flatMap_append, F.dss_flat t q n]
    simp [F.dss]
theorem form_of_trod (S : Nat → Prop) (hS : ∀ b, S b) : ∀ (n : Nat) (cs : List Value) (x : DataW H × List MemPlace), DataW.trod enc Tryd.prog w 0 sp held n 25 cs = some x → ∃ f : F, Reads w S cs (f.ds 25) := by
  intro n
  induction n using Nat.strongRecOn with
  | _ n ih =>
    intro cs x h
    obtain ⟨xs, m, rfl, _, hl, hxl, hf⟩ := DataW.trod_struct Tryd.underlying25 h
    rw [show Tryd.prog.cellsOf 25 = 5 by kernel_rfl] at hl
    match cs, hl with
    | [c0, c1, c2, c3, c4], _ =>
      rw [show (#[_, _, _, _, _] : Array Field).size = 5 from rfl] at hxl
      have c3' : Tryd.prog.cellsOf 3 = 1 := by kernel_rfl
      have c9' : Tryd.prog.cellsOf 9 = 1 := by kernel_rfl
      have c22' : Tryd.prog.cellsOf 22 = 1 := by kernel_rfl
      have c23' : Tryd.prog.cellsOf 23 = 1 := by kernel_rfl
      have e0 : DataW.trod enc Tryd.prog w 0 sp held m 3 (List.take (Tryd.prog.cellsOf 3) (List.drop 0 [c0, c1, c2, c3, c4])) = some (xs[0]'(by omega)) := (hf 0 _ rfl).trans (List.getElem?_eq_getElem (by omega))
      have e1 : DataW.trod enc Tryd.prog w 0 sp held m 9 (List.take (Tryd.prog.cellsOf 9) (List.drop 1 [c0, c1, c2, c3, c4])) = some (xs[1]'(by omega)) := (hf 1 _ rfl).trans (List.getElem?_eq_getElem (by omega))
      have e2 : DataW.trod enc Tryd.prog w 0 sp held m 3 (List.take (Tryd.prog.cellsOf 3) (List.drop 2 [c0, c1, c2, c3, c4])) = some (xs[2]'(by omega)) := (hf 2 _ rfl).trans (List.getElem?_eq_getElem (by omega))
      have e3 : DataW.trod enc Tryd.prog w 0 sp held m 22 (List.take (Tryd.prog.cellsOf 22) (List.drop 3 [c0, c1, c2, c3, c4])) = some (xs[3]'(by omega)) := (hf 3 _ rfl).trans (List.getElem?_eq_getElem (by omega))
      have e4 : DataW.trod enc Tryd.prog w 0 sp held m 23 (List.take (Tryd.prog.cellsOf 23) (List.drop 4 [c0, c1, c2, c3, c4])) = some (xs[4]'(by omega)) := (hf 4 _ rfl).trans (List.getElem?_eq_getElem (by omega))
      rw [c3'] at e0 e2
      rw [c9'] at e1
      rw [c22'] at e3
      rw [c23'] at e4
      change DataW.trod enc Tryd.prog w 0 sp held m 3 [c0] = _ at e0
      change DataW.trod enc Tryd.prog w 0 sp held m 9 [c1] = _ at e1
      change DataW.trod enc Tryd.prog w 0 sp held m 3 [c2] = _ at e2
      change DataW.trod enc Tryd.prog w 0 sp held m 22 [c3] = _ at e3
      change DataW.trod enc Tryd.prog w 0 sp held m 23 [c4] = _ at e4
      obtain ⟨k, h0, _⟩ := DataW.trod_int Tryd.underlying3 e0
      obtain ⟨nm, h1, _, hnm⟩ := DataW.trod_string Tryd.underlying9 e1
      obtain ⟨nn, h2, _⟩ := DataW.trod_int Tryd.underlying3 e2
      obtain ⟨sc, h3⟩ := ints_of_trod S hS e3
      have h4 : ∃ kids : List F, Reads w S [c4] [.r 25 5 (F.dss 25 kids)] := by
        rcases DataW.trod_slice Tryd.underlying23 e4 with ⟨h, _⟩ | ⟨a, len, cap, elems, rest, n', hn', h, _, _, hlc, hcm, hele, hel, _⟩
        · rw [h]; exact ⟨[], .zero none 0 _ _ .nil⟩
        · rw [h]
          have key : ∀ i : Nat, ∃ f : F, i < len → ∃ cs : List Value, cs.length = 5 ∧ (∀ j u, cs[j]? = some u → w.cell? (a.add (i * 5 + j)) = some u) ∧ Reads w S cs (f.ds 25) := fun i => by
            by_cases hi : i < len
            · have h0 := hel i hi
              rw [List.getElem?_eq_getElem (by omega)] at h0
              obtain ⟨cs', h1, h2⟩ := Option.bind_eq_some_iff.1 h0
              rw [show Tryd.prog.cellsOf 25 = 5 by kernel_rfl] at h1
              obtain ⟨f, hf'⟩ := ih _ (by omega) _ _ h2
              have h3 := World.cells?_some h1
              refine ⟨f, fun _ => ⟨cs', h3.2.1, fun j u hj => ?_, hf'⟩⟩
              have := h3.2.2 j (by rw [← h3.2.1]; exact (List.getElem?_eq_some_iff.1 hj).1)
              rw [add_add] at this
              exact this.trans hj
            · exact ⟨.mk 0 .empty 0 [] [], fun h => absurd h hi⟩
          obtain ⟨q, hq⟩ := Classical.axiomOfChoice key
          obtain ⟨us, h1, h2, h3⟩ := reads_many (k := 5) (a := a) (dsAt := fun i => (q i).ds 25) S len hq
          exact ⟨(List.range len).map q, .row (us := us) a len cap _ 5 hlc hcm h1 (fun _ => hS _) h2 (by rw [F.dss_flat]; exact h3) .nil⟩
      obtain ⟨kids, h4⟩ := h4
      injection h0 with h0 _
      injection h1 with h1 _
      injection h2 with h2 _
      subst h0 h1 h2
      exact ⟨.mk k nm nn sc kids, .int _ (.str _ hnm (.int _ (h3.cons_mk h4)))⟩
end
end Go.Proofs.YtnooeebefhfjcaaDoor
