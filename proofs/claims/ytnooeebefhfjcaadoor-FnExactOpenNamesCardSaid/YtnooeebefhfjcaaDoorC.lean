/- Core programs as trees, and what their cells are. -/
import Derived.Test.YtnooeebefhfjcaaDoorL
import Derived.Test.YtnooeebefhfjcaaDoorSz
set_option linter.unusedVariables false
set_option linter.unusedSimpArgs false
namespace Go.Proofs.YtnooeebefhfjcaaDoor
open Go Go.RowKit
inductive C where
  | mk (kind id : Int) (name : ByteArray) (n : Int) (ids : List Int) (data : F) (kids : List C)
mutual
def C.ds (t tf : TypeId) : C → List D
  | .mk k id nm n ids data kids => .i k :: .i id :: .s nm :: .i n :: .r 3 1 (ids.map D.i) :: (data.ds tf ++ [.r t 11 (C.dss t tf kids)])
def C.dss (t tf : TypeId) : List C → List D
  | [] => []
  | c :: cs => c.ds t tf ++ C.dss t tf cs
end
mutual
def C.size : C → Nat
  | .mk _ _ _ _ _ _ kids => C.sizes kids + 1
def C.sizes : List C → Nat
  | [] => 0
  | c :: cs => c.size + C.sizes cs
end
mutual
/-- How much of the budget a program takes. -/
def C.bulk : C → Nat
  | .mk _ _ nm _ ids data kids => nm.size + ids.length + data.bulk + C.bulks kids
def C.bulks : List C → Nat
  | [] => 0
  | c :: cs => 1 + c.bulk + C.bulks cs
end
theorem C.ds_len (t tf : TypeId) (c : C) : (c.ds t tf).length = 11 := by cases c; simp [C.ds, F.ds_len]
theorem C.dss_len (t tf : TypeId) : ∀ cs : List C, (C.dss t tf cs).length = cs.length * 11
  | [] => rfl
  | c :: cs => by simp [C.dss, C.ds_len, C.dss_len t tf cs]; omega
theorem C.dss_append (t tf : TypeId) : ∀ cs gs : List C, C.dss t tf (cs ++ gs) = C.dss t tf cs ++ C.dss t tf gs
  | [], gs => rfl
  | c :: cs, gs => by simp [C.dss, C.dss_append t tf cs gs]
theorem C.dss_split (t tf : TypeId) : ∀ (cs : List C) (j : Nat) (h : j < cs.length), ∃ d1 d2, C.dss t tf cs = d1 ++ ((cs[j]'h).ds t tf ++ d2) ∧ d1.length = j * 11
  | c :: cs, 0, _ => ⟨[], C.dss t tf cs, by simp [C.dss], rfl⟩
  | c :: cs, j + 1, h => by
    obtain ⟨d1, d2, e, hl⟩ := C.dss_split t tf cs j (by simpa using h)
    exact ⟨c.ds t tf ++ d1, d2, by simp [C.dss, e], by simp [C.ds_len, hl]; omega⟩
theorem C.dss_take_succ (t tf : TypeId) (cs : List C) (j : Nat) (h : j < cs.length) : C.dss t tf (cs.take (j + 1)) = C.dss t tf (cs.take j) ++ (cs[j]'h).ds t tf := by
  rw [List.take_succ_eq_append_getElem h, C.dss_append]
  simp [C.dss]
theorem C.sizes_get : ∀ (cs : List C) (j : Nat) (h : j < cs.length), (cs[j]'h).size ≤ C.sizes cs
  | c :: cs, 0, _ => by simp [C.sizes]
  | c :: cs, j + 1, h => by have := C.sizes_get cs j (by simpa using h); simp [C.sizes]; omega
theorem C.bulks_take (fs : List C) (j : Nat) (h : j < fs.length) : C.bulks (fs.take (j + 1)) = C.bulks (fs.take j) + 1 + (fs[j]'h).bulk := by
  induction fs generalizing j with
  | nil => simp at h
  | cons f fs ih =>
    cases j with
    | zero => simp [C.bulks]
    | succ j => simp [C.bulks, ih j (by simpa using h)]; omega
theorem C.bulks_take_le (fs : List C) (j : Nat) (h : j ≤ fs.length) : C.bulks (fs.take j) + (fs.length - j) ≤ C.bulks fs := by
  induction fs generalizing j with
  | nil => simp [C.bulks]
  | cons f fs ih =>
    cases j with
    | zero => have := ih 0 (by omega); simp [C.bulks] at this ⊢; omega
    | succ j => have := ih j (by simpa using h); simp [C.bulks]; omega
theorem C.bulks_get (fs : List C) (j : Nat) (h : j < fs.length) : (fs[j]'h).bulk ≤ C.bulks fs := by
  have h1 := C.bulks_take fs j h
  have h2 := C.bulks_take_le fs (j + 1) (by omega)
  omega
theorem C.bulks_len (fs : List C) : fs.length ≤ C.bulks fs := by
  induction fs with
  | nil => simp [C.bulks]
  | cons f fs ih => simp [C.bulks]; omega

theorem Reads.core {w : World} {S : Nat → Prop} {vs : List Value} {t tf : TypeId} {k id n : Int} {nm : ByteArray} {ids : List Int} {data : F} {kids : List C} (h : Reads w S vs (C.ds t tf (.mk k id nm n ids data kids))) :
    ∃ A4 c4 x0 x1 x2 x3 x4 A6 c6, vs = [.int .i64 k, .int .i64 id, .string nm, .int .i64 n, .slice A4 ids.length c4, x0, x1, x2, x3, x4, .slice A6 kids.length c6] ∧ nm.size ≤ maxLen ∧
      Reads w S [.slice A4 ids.length c4] [.r 3 1 (ids.map D.i)] ∧ Reads w S [x0, x1, x2, x3, x4] (data.ds tf) ∧ Reads w S [.slice A6 kids.length c6] [.r t 11 (C.dss t tf kids)] := by
  obtain ⟨v0, vs, rfl, h0, h⟩ := h.cons_inv
  obtain ⟨v1, vs, rfl, h1, h⟩ := h.cons_inv
  obtain ⟨v2, vs, rfl, h2, h⟩ := h.cons_inv
  obtain ⟨v3, vs, rfl, h3, h⟩ := h.cons_inv
  obtain ⟨v4, vs, rfl, h4, h⟩ := h.cons_inv
  obtain ⟨us, vs, rfl, h5, h⟩ := h.split
  obtain ⟨v6, vs, rfl, h6, h⟩ := h.cons_inv
  cases h
  obtain rfl := h0.int_inv
  obtain rfl := h1.int_inv
  obtain ⟨rfl, hb⟩ := h2.str_inv
  obtain rfl := h3.int_inv
  obtain ⟨A4, c4, rfl⟩ := h4.sl_inv (by omega) (m := ids.length) (by simp)
  obtain ⟨A6, c6, rfl⟩ := h6.sl_inv (by omega) (m := kids.length) (C.dss_len t tf kids)
  have hl := h5.len
  rw [F.ds_len] at hl
  match us, hl with
  | [x0, x1, x2, x3, x4], _ => exact ⟨A4, c4, x0, x1, x2, x3, x4, A6, c6, rfl, hb, h4, h5, h6⟩
theorem Owns.core {w : World} {vs : List Value} {bs : List Nat} {t tf : TypeId} {k id n : Int} {nm : ByteArray} {ids : List Int} {k1 n1 : Int} {nm1 : ByteArray} {sc : List Int} {fk : List F} {kids : List C} (h : Owns w vs (C.ds t tf (.mk k id nm n ids (.mk k1 nm1 n1 sc fk) kids)) bs) :
    ∃ v4 v8 v9 v10 b4 b8 b9 b10, vs = [.int .i64 k, .int .i64 id, .string nm, .int .i64 n, v4, .int .i64 k1, .string nm1, .int .i64 n1, v8, v9, v10] ∧ bs = b4 ++ (b8 ++ b9) ++ b10 ∧ nm.size ≤ maxLen ∧ nm1.size ≤ maxLen ∧
      Owns w [v4] [.r 3 1 (ids.map D.i)] b4 ∧ Owns w [v8] [.r 3 1 (sc.map D.i)] b8 ∧ Owns w [v9] [.r tf 5 (F.dss tf fk)] b9 ∧ Owns w [v10] [.r t 11 (C.dss t tf kids)] b10 := by
  have e : C.ds t tf (.mk k id nm n ids (.mk k1 nm1 n1 sc fk) kids) = ([.i k, .i id, .s nm, .i n] ++ ([.r 3 1 (ids.map D.i)] ++ F.ds tf (.mk k1 nm1 n1 sc fk))) ++ [.r t 11 (C.dss t tf kids)] := rfl
  rw [e] at h
  obtain ⟨va, v10, ba, b10, rfl, rfl, ha, h10⟩ := h.split
  obtain ⟨v0, vb, b0, bb, rfl, rfl, h0, hb⟩ := ha.split
  obtain ⟨v4, vf, b4, bf, rfl, rfl, h4, hf⟩ := hb.split
  obtain ⟨v8, v9, b8, b9, rfl, rfl, hn1, h8, h9⟩ := hf.form
  cases h0 with
  | int k h0 => cases h0 with
    | int id h0 => cases h0 with
      | str nm hn h0 => cases h0 with
        | int n h0 =>
          cases h0
          match v4, v10, h4.len, h10.len with
          | [x], [y], _, _ => exact ⟨x, v8, v9, y, b4, b8, b9, b10, rfl, by simp, hn, hn1, h4, h8, h9, h10⟩
theorem Owns.core_mk {w : World} {t tf : TypeId} {k id n : Int} {nm : ByteArray} {ids : List Int} {data : F} {kids : List C} {v4 v10 : Value} {xs : List Value} {b4 b5 b10 : List Nat} (hn : nm.size ≤ maxLen)
    (h4 : Owns w [v4] [.r 3 1 (ids.map D.i)] b4) (h5 : Owns w xs (data.ds tf) b5) (h10 : Owns w [v10] [.r t 11 (C.dss t tf kids)] b10) :
    Owns w (.int .i64 k :: .int .i64 id :: .string nm :: .int .i64 n :: v4 :: (xs ++ [v10])) (C.ds t tf (.mk k id nm n ids data kids)) (b4 ++ (b5 ++ b10)) := .int _ (.int _ (.str _ hn (.int _ (h4.append (h5.append h10)))))
theorem Reads.elemC {w : World} {S : Nat → Prop} {A : Option Addr} {n c : Nat} {t tf : TypeId} {fs : List C} {j : Nat} (h : Reads w S [.slice A n c] [.r t 11 (C.dss t tf fs)]) (hj : j < fs.length) :
    ∃ ad v0 v1 v2 v3 v4 v5 v6 v7 v8 v9 v10, A = some ad ∧ Reads w S [v0, v1, v2, v3, v4, v5, v6, v7, v8, v9, v10] ((fs[j]'hj).ds t tf) ∧ w.cell? (ad.add (j * 11)) = some v0 ∧ w.cell? ⟨(ad.add (j * 11)).block, (ad.add (j * 11)).off + 1, none⟩ = some v1 ∧
      w.cell? ⟨(ad.add (j * 11)).block, (ad.add (j * 11)).off + 2, none⟩ = some v2 ∧ w.cell? ⟨(ad.add (j * 11)).block, (ad.add (j * 11)).off + 3, none⟩ = some v3 ∧ w.cell? ⟨(ad.add (j * 11)).block, (ad.add (j * 11)).off + 4, none⟩ = some v4 ∧
      w.cell? ⟨(ad.add (j * 11)).block, (ad.add (j * 11)).off + 5, none⟩ = some v5 ∧ w.cell? ⟨(ad.add (j * 11)).block, (ad.add (j * 11)).off + 6, none⟩ = some v6 ∧ w.cell? ⟨(ad.add (j * 11)).block, (ad.add (j * 11)).off + 7, none⟩ = some v7 ∧
      w.cell? ⟨(ad.add (j * 11)).block, (ad.add (j * 11)).off + 8, none⟩ = some v8 ∧ w.cell? ⟨(ad.add (j * 11)).block, (ad.add (j * 11)).off + 9, none⟩ = some v9 ∧ w.cell? ⟨(ad.add (j * 11)).block, (ad.add (j * 11)).off + 10, none⟩ = some v10 := by
  obtain ⟨d1, d2, e, hl⟩ := C.dss_split t tf fs j hj
  obtain ⟨ad, us, rfl, h5, hr, hc⟩ := h.elem e hl (by cases fs[j]; simp [C.ds])
  rw [C.ds_len] at h5
  match us, h5 with
  | [v0, v1, v2, v3, v4, v5, v6, v7, v8, v9, v10], _ =>
    exact ⟨ad, v0, v1, v2, v3, v4, v5, v6, v7, v8, v9, v10, rfl, hr, hc 0 _ rfl, by rw [← add_fld _ _ 1 (by omega)]; exact hc 1 _ rfl, by rw [← add_fld _ _ 2 (by omega)]; exact hc 2 _ rfl, by rw [← add_fld _ _ 3 (by omega)]; exact hc 3 _ rfl, by rw [← add_fld _ _ 4 (by omega)]; exact hc 4 _ rfl,
      by rw [← add_fld _ _ 5 (by omega)]; exact hc 5 _ rfl, by rw [← add_fld _ _ 6 (by omega)]; exact hc 6 _ rfl, by rw [← add_fld _ _ 7 (by omega)]; exact hc 7 _ rfl, by rw [← add_fld _ _ 8 (by omega)]; exact hc 8 _ rfl, by rw [← add_fld _ _ 9 (by omega)]; exact hc 9 _ rfl, by rw [← add_fld _ _ 10 (by omega)]; exact hc 10 _ rfl⟩
/-- The same, the cells as a list: for a load of the whole. -/
theorem Reads.elemCs {w : World} {S : Nat → Prop} {A : Option Addr} {n c : Nat} {t tf : TypeId} {fs : List C} {j : Nat} (h : Reads w S [.slice A n c] [.r t 11 (C.dss t tf fs)]) (hj : j < fs.length) :
    ∃ ad us, A = some ad ∧ us.length = 11 ∧ Reads w S us ((fs[j]'hj).ds t tf) ∧ ∀ i u, us[i]? = some u → w.cell? ((ad.add (j * 11)).add i) = some u := by
  obtain ⟨d1, d2, e, hl⟩ := C.dss_split t tf fs j hj
  obtain ⟨ad, us, rfl, h5, hr, hc⟩ := h.elem e hl (by cases fs[j]; simp [C.ds])
  rw [C.ds_len] at h5
  refine ⟨ad, us, rfl, h5, hr, fun i u hu => ?_⟩
  have := hc i u hu
  have e : (ad.add (j * 11)).add i = ad.add (j * 11 + i) := by
    unfold Addr.add
    by_cases h1 : j * 11 = 0 <;> by_cases h2 : i = 0 <;> simp [h1, h2, Nat.add_assoc] <;> omega
  rw [e]; exact this
/-- The same, every cell said. -/
theorem Reads.core' {w : World} {S : Nat → Prop} {vs : List Value} {t tf : TypeId} {k id n : Int} {nm : ByteArray} {ids : List Int} {k1 n1 : Int} {nm1 : ByteArray} {sc : List Int} {fk : List F} {kids : List C} (h : Reads w S vs (C.ds t tf (.mk k id nm n ids (.mk k1 nm1 n1 sc fk) kids))) :
    ∃ A4 c4 A8 c8 A9 c9 A6 c6, vs = [.int .i64 k, .int .i64 id, .string nm, .int .i64 n, .slice A4 ids.length c4, .int .i64 k1, .string nm1, .int .i64 n1, .slice A8 sc.length c8, .slice A9 fk.length c9, .slice A6 kids.length c6] ∧ nm.size ≤ maxLen ∧ nm1.size ≤ maxLen ∧
      Reads w S [.slice A4 ids.length c4] [.r 3 1 (ids.map D.i)] ∧ Reads w S [.int .i64 k1, .string nm1, .int .i64 n1, .slice A8 sc.length c8, .slice A9 fk.length c9] (F.ds tf (.mk k1 nm1 n1 sc fk)) ∧ Reads w S [.slice A6 kids.length c6] [.r t 11 (C.dss t tf kids)] := by
  obtain ⟨A4, c4, x0, x1, x2, x3, x4, A6, c6, rfl, hb, h4, h5, h6⟩ := h.core
  obtain ⟨A8, c8, A9, c9, e, hb1, _, _⟩ := h5.form
  injection e with e0 e
  injection e with e1 e
  injection e with e2 e
  injection e with e3 e
  injection e with e4 e
  subst e0 e1 e2 e3 e4
  exact ⟨A4, c4, A8, c8, A9, c9, A6, c6, rfl, hb, hb1, h4, h5, h6⟩
/-- An element's cells, every one said. -/
theorem Reads.elemC' {w : World} {S : Nat → Prop} {A : Option Addr} {n c : Nat} {t tf : TypeId} {fs : List C} {j : Nat} (h : Reads w S [.slice A n c] [.r t 11 (C.dss t tf fs)]) (hj : j < fs.length) :
    ∃ ad k id nm n ids k1 nm1 n1 sc fk kids A4 c4 A8 c8 A9 c9 A6 c6, A = some ad ∧ fs[j]'hj = .mk k id nm n ids (.mk k1 nm1 n1 sc fk) kids ∧ Reads w S [.int .i64 k, .int .i64 id, .string nm, .int .i64 n, .slice A4 ids.length c4, .int .i64 k1, .string nm1, .int .i64 n1, .slice A8 sc.length c8, .slice A9 fk.length c9, .slice A6 kids.length c6] ((fs[j]'hj).ds t tf) ∧ w.cell? (ad.add (j * 11)) = some (.int .i64 k) ∧ w.cell? ⟨(ad.add (j * 11)).block, (ad.add (j * 11)).off + 1, none⟩ = some (.int .i64 id) ∧
      w.cell? ⟨(ad.add (j * 11)).block, (ad.add (j * 11)).off + 2, none⟩ = some (.string nm) ∧ w.cell? ⟨(ad.add (j * 11)).block, (ad.add (j * 11)).off + 3, none⟩ = some (.int .i64 n) ∧ w.cell? ⟨(ad.add (j * 11)).block, (ad.add (j * 11)).off + 4, none⟩ = some (.slice A4 ids.length c4) ∧
      w.cell? ⟨(ad.add (j * 11)).block, (ad.add (j * 11)).off + 5, none⟩ = some (.int .i64 k1) ∧ w.cell? ⟨(ad.add (j * 11)).block, (ad.add (j * 11)).off + 6, none⟩ = some (.string nm1) ∧ w.cell? ⟨(ad.add (j * 11)).block, (ad.add (j * 11)).off + 7, none⟩ = some (.int .i64 n1) ∧
      w.cell? ⟨(ad.add (j * 11)).block, (ad.add (j * 11)).off + 8, none⟩ = some (.slice A8 sc.length c8) ∧ w.cell? ⟨(ad.add (j * 11)).block, (ad.add (j * 11)).off + 9, none⟩ = some (.slice A9 fk.length c9) ∧ w.cell? ⟨(ad.add (j * 11)).block, (ad.add (j * 11)).off + 10, none⟩ = some (.slice A6 kids.length c6) := by
  obtain ⟨ad, v0, v1, v2, v3, v4, v5, v6, v7, v8, v9, v10, rfl, hel, h0, h1, h2, h3, h4, h5, h6, h7, h8, h9, h10⟩ := h.elemC hj
  have hcs : ∀ x : C, ∃ k0 id0 nm0 n0 ids k1 nm1 n1 sc fk kids, x = .mk k0 id0 nm0 n0 ids (.mk k1 nm1 n1 sc fk) kids := fun x => by
    obtain ⟨k0, id0, nm0, n0, ids, data, kids⟩ := x
    obtain ⟨k1, nm1, n1, sc, fk⟩ := data
    exact ⟨_, _, _, _, _, _, _, _, _, _, _, rfl⟩
  obtain ⟨k, id, nm, n, ids, k1, nm1, n1, sc, fk, kids, hf⟩ := hcs (fs[j]'hj)
  rw [hf] at hel
  obtain ⟨A4, c4, A8, c8, A9, c9, A6, c6, e, _, _, _, _, _⟩ := hel.core'
  injection e with e0 e
  injection e with e1 e
  injection e with e2 e
  injection e with e3 e
  injection e with e4 e
  injection e with e5 e
  injection e with e6 e
  injection e with e7 e
  injection e with e8 e
  injection e with e9 e
  injection e with e10 e
  subst e0 e1 e2 e3 e4 e5 e6 e7 e8 e9 e10
  rw [← hf] at hel
  exact ⟨ad, k, id, nm, n, ids, k1, nm1, n1, sc, fk, kids, A4, c4, A8, c8, A9, c9, A6, c6, rfl, hf, hel, h0, h1, h2, h3, h4, h5, h6, h7, h8, h9, h10⟩
end Go.Proofs.YtnooeebefhfjcaaDoor
