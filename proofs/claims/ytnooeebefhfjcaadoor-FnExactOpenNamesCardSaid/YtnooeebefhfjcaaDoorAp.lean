/- append onto a row of one's own: the walk's law. -/
import Derived.Test.YtnooeebefhfjcaaDoorL
import Derived.Deep.AppendLies
set_option linter.unusedVariables false
set_option linter.unusedSimpArgs false
namespace Go.Proofs.YtnooeebefhfjcaaDoor
open Go Go.RowKit
theorem Owns.oneCells {w : World} {vs : List Value} {ds : List D} {bs : List Nat} (h : Owns w vs ds bs) : ∀ u ∈ vs, u.oneCell' = true := oneCells_of h.reads
theorem Owns.toRow {w : World} {v : Value} {e : TypeId} {k n : Nat} {ds : List D} {bs : List Nat} (h : Owns w [v] [.r e k ds] bs) (hk : 0 < k) (hn : ds.length = n * k) :
    ∃ xs bi, w.ownsRow 0 e k v n xs ∧ Owns w xs ds bi ∧ ((v.ownBlock = none ∧ bs = [] ∧ bi = []) ∨ ∃ g, v.ownBlock = some g ∧ bs = g :: bi) := by
  rcases h.row_inv with ⟨rfl, rfl, rfl⟩ | ⟨g, m, c, cur, bi, rfl, rfl, hg, hmc, hc, hs, hu⟩
  · have : n = 0 := by
      rcases Nat.eq_zero_or_pos n with h | h
      · exact h
      · have := Nat.mul_pos h hk; simp at hn; omega
    subst this
    exact ⟨[], [], World.ownsRow_nil _ _ _ _, .nil, .inl ⟨rfl, rfl, rfl⟩⟩
  · have hl := hu.len
    have hmk : m * k ≤ c * k := Nat.mul_le_mul_right _ hmc
    rw [List.length_take, Array.length_toList, hn] at hl
    obtain rfl : m = n := Nat.eq_of_mul_eq_mul_right hk (by omega)
    exact ⟨_, bi, ⟨by rw [List.length_take, Array.length_toList]; omega, .inr ⟨g, c, cur, rfl, Nat.zero_le _, hg, hmc, hc, hs, rfl⟩⟩, hu, .inr ⟨g, rfl, rfl⟩⟩
theorem Owns.ofRow {w : World} {v : Value} {e : TypeId} {k n : Nat} {ds : List D} {xs : List Value} {bi : List Nat} (h : w.ownsRow 0 e k v n xs) (ho : Owns w xs ds bi) :
    (v.ownBlock = none ∧ Owns w [v] [.r e k []] [] ∧ ds = [] ∧ bi = []) ∨ ∃ g, v.ownBlock = some g ∧ Owns w [v] [.r e k ds] (g :: bi) := by
  obtain ⟨hl, ⟨rfl, rfl⟩ | ⟨g, c, cur, rfl, _, hg, hnc, hc, hs, ht⟩⟩ := h
  · obtain rfl : xs = [] := List.eq_nil_of_length_eq_zero (by simpa using hl)
    cases ho
    exact .inl ⟨rfl, .zero _ _ .nil, rfl, rfl⟩
  · subst ht
    exact .inr ⟨g, rfl, Owns.row_mk hg hnc hc hs ho⟩
theorem Only.of_grown {w w' : World} {row : Option Nat} (h : w.grownBy w' row) (bs : List Nat) (hr : ∀ g, row = some g → g ∈ bs) : Only w w' bs :=
  ⟨h.os, h.tape, h.output, h.size, fun b hb hn => h.block b hb (fun e => hn (hr b e.symm))⟩
section
variable {P : Program} {ops : Array Oper} {rest : List Oper} {o : Oper} {a : Act} {w : World} {Q : Exit → Act → World → Prop}
theorem wpList_append_any (hgd : o.guard = none) (s x : Operand) (t e : TypeId) (z : Value) (size bytes : Nat)
    (ho : o.op = .call { callee := .builtin .append, args := #[s, x], argTypes := #[t, t] })
    (ht : P.underlying t = some (.slice e)) (hinfo : (P.info? e).map (fun i => (i.zero, i.size, i.bytes)) = some (some z, size, bytes)) (hz : z.cells.size = size) (hs0 : 0 < size) (hb0 : 0 < bytes)
    (v : Value) (n : Nat) (ds : List D) (bs : List Nat) (hs : a.eval s = v) (HO : Owns w [v] [.r e size ds] bs) (hn : ds.length = n * size)
    (ad : Addr) (m c : Nat) (news : List Value) (dy : List D) (cs : List Nat) (hx : a.eval x = .slice (some ad) m c) (hl : news.length = m * size) (hnews : ∀ j u, news[j]? = some u → w.cell? (ad.add j) = some u)
    (HY : Owns w news dy cs) (hnd : (bs ++ cs).Nodup) (hsz : (n + m) * bytes ≤ 140737488355328)
    (h : ∀ v1 w1 bs1, Owns w1 [v1] [.r e size (ds ++ dy)] bs1 → bs1.Nodup → (∀ b, b ∈ bs1 → b ∈ bs ∨ b ∈ cs ∨ w.heap.size ≤ b) → Only w w1 bs → wpList P ops Q rest (a.put o.dst v1) w1) :
    wpList P ops Q (o :: rest) a w := by
  obtain ⟨i0, hi, hzz⟩ := Option.map_eq_some_iff.1 hinfo
  simp only [Prod.mk.injEq] at hzz
  obtain ⟨hz0, hz1, hz2⟩ := hzz
  obtain ⟨xs, bi, hrow, hin, hbs⟩ := HO.toRow hs0 hn
  have hnm : n + m ≤ 140737488355328 := Nat.le_trans (Nat.le_mul_of_pos_right _ hb0) hsz
  refine wpList_append_own_at w hgd s x t ho 0 e i0 z size bytes ht hi hz0 hz1 hz2 hz hs0 v n xs hs hrow ad m c news hx hl hnews HY.oneCells (by unfold maxLen; omega) hsz (Nat.zero_le _) ?_
  intro v1 w1 hown hg _ hat
  have hon : Only w w1 bs := Only.of_grown hg bs (fun g e => by
    rcases hbs with ⟨h1, _, _⟩ | ⟨g', h1, rfl⟩
    · rw [h1] at e; cases e
    · rw [h1] at e; injection e with e; simp [e])
  have hin1 : Owns w1 xs ds bi := hin.keep fun b hb => hg.block b (hin.lt b hb) (fun e => by
    rcases hbs with ⟨h1, _, rfl⟩ | ⟨g', h1, rfl⟩
    · cases hb
    · rw [h1] at e
      injection e with e
      subst e
      exact (List.nodup_cons.1 (List.nodup_append.1 hnd).1).1 hb)
  have hy1 : Owns w1 news dy cs := hon.owns HY (fun b hb hb' => (List.nodup_append.1 hnd).2.2 b hb' b hb rfl)
  have hbi : (bi ++ cs).Nodup := by
    rcases hbs with ⟨h1, _, rfl⟩ | ⟨g', h1, rfl⟩
    · exact (List.nodup_append.1 hnd).2.1
    · exact (List.nodup_cons.1 hnd).2
  rcases Owns.ofRow hown (hin1.append hy1) with ⟨h1, h2, h3, h4⟩ | ⟨g1, h1, h2⟩
  · refine h v1 w1 [] ?_ List.nodup_nil (by simp) hon
    rw [h3]
    exact h2
  · refine h v1 w1 _ h2 (List.nodup_cons.2 ⟨fun hm => ?_, hbi⟩) (fun b hb => ?_) hon
    · rcases hat with hat | hat
      · rcases hbs with ⟨h3, _, _⟩ | ⟨g', h3, rfl⟩
        · rw [h1, h3] at hat; cases hat
        · rw [h1, h3] at hat
          injection hat with hat
          subst hat
          exact (List.nodup_cons.1 hnd).1 hm
      · rw [h1] at hat
        injection hat with hat
        subst hat
        rcases List.mem_append.1 hm with hm | hm
        · exact absurd (hin.lt _ hm) (by omega)
        · exact absurd (HY.lt _ hm) (by omega)
    · rcases List.mem_cons.1 hb with rfl | hb
      · rcases hat with hat | hat
        · rcases hbs with ⟨h3, _, _⟩ | ⟨g', h3, rfl⟩
          · rw [h1, h3] at hat; cases hat
          · rw [h1, h3] at hat
            injection hat with hat
            subst hat
            simp
        · rw [h1] at hat
          injection hat with hat
          exact .inr (.inr (by omega))
      · rcases List.mem_append.1 hb with hb | hb
        · rcases hbs with ⟨_, _, rfl⟩ | ⟨g', h3, rfl⟩
          · cases hb
          · exact .inl (by simp [hb])
        · exact .inr (.inl hb)
/-- append(v, x): x lies in a box of its own, the world's newest block. -/
theorem wpList_append1 {W : World} (hgd : o.guard = none) (s x : Operand) (t e : TypeId) (z : Value) (size bytes : Nat)
    (ho : o.op = .call { callee := .builtin .append, args := #[s, x], argTypes := #[t, t] })
    (ht : P.underlying t = some (.slice e)) (hinfo : (P.info? e).map (fun i => (i.zero, i.size, i.bytes)) = some (some z, size, bytes)) (hz : z.cells.size = size) (hs0 : 0 < size) (hb0 : 0 < bytes)
    (v : Value) (n : Nat) (ds : List D) (bs : List Nat) (hs : a.eval s = v) (HO : Owns W [v] [.r e size ds] bs) (hn : ds.length = n * size)
    (ys : Array Value) (dy : List D) (cs : List Nat) (hx : a.eval x = .slice (some ⟨W.heap.size, 0, none⟩) 1 1) (hl : ys.size = size)
    (HY : Owns W ys.toList dy cs) (hnd : (bs ++ cs).Nodup) (hsz : (n + 1) * bytes ≤ 140737488355328)
    (h : ∀ v1 w1 bs1, Owns w1 [v1] [.r e size (ds ++ dy)] bs1 → bs1.Nodup → (∀ b, b ∈ bs1 → b ∈ bs ∨ b ∈ cs ∨ W.heap.size ≤ b) → Only W w1 bs → wpList P ops Q rest (a.put o.dst v1) w1) :
    wpList P ops Q (o :: rest) a (W.alloc (.cells ys e)) := by
  have hb := (Below.refl W.heap.size W).alloc (Nat.le_refl _) (.cells ys e)
  refine wpList_append_any hgd s x t e z size bytes ho ht hinfo hz hs0 hb0 v n ds bs hs (HO.bel hb) hn ⟨W.heap.size, 0, none⟩ 1 1 ys.toList dy cs hx (by rw [Array.length_toList]; omega)
    (World.news_of_block (cs := ys) (t := e) (fr := (0, 0)) (heap_alloc_new W _)) (HY.bel hb) hnd hsz ?_
  intro v1 w1 bs1 h1 h2 h3 h4
  refine h v1 w1 bs1 h1 h2 (fun b hb1 => ?_) ((Only.of_below hb bs).trans h4 (fun b hb => .inl hb))
  rcases h3 b hb1 with h | h | h
  · exact .inl h
  · exact .inr (.inl h)
  · exact .inr (.inr (by simp at h; omega))
end
end Go.Proofs.YtnooeebefhfjcaaDoor
