/- Data in memory as trees: what is read, what is owned; plain lemmas on both. -/
import Derived.WalkKit
import Derived.Deep.LoopGhost
import Derived.WalkSpells
import Derived.Lib.Hide
import Derived.Maps.AppendAt
import Derived.Deep.QuietTactic
import Derived.BigQuiet
import Derived.Deep.RegionWith
set_option linter.unusedVariables false
set_option linter.unusedSimpArgs false
namespace Go.Proofs.YtnooeebefhfjcaaDoor
open Go Go.RowKit

/-- A tree of cells: a number, a string, a slice whose elements take k cells of type e each. -/
inductive D where
  | i (n : Int)
  | s (b : ByteArray)
  | r (e : TypeId) (k : Nat) (ds : List D)

/-- The values vs read as ds; S holds of each block that is met. -/
inductive Reads (w : World) (S : Nat → Prop) : List Value → List D → Prop
  | nil : Reads w S [] []
  | int {vs ds} (n : Int) (h : Reads w S vs ds) : Reads w S (.int .i64 n :: vs) (.i n :: ds)
  | str {vs ds} (b : ByteArray) (hb : b.size ≤ maxLen) (h : Reads w S vs ds) : Reads w S (.string b :: vs) (.s b :: ds)
  | zero {vs ds} (A : Option Addr) (c : Nat) (e : TypeId) (k : Nat) (h : Reads w S vs ds) : Reads w S (.slice A 0 c :: vs) (.r e k [] :: ds)
  | row {vs ds us ds'} (ad : Addr) (n c : Nat) (e : TypeId) (k : Nat) (hn : n ≤ c) (hc : c ≤ maxLen) (hl : us.length = n * k)
      (hS : us ≠ [] → S ad.block) (hcell : ∀ j u, us[j]? = some u → w.cell? (ad.add j) = some u) (hu : Reads w S us ds') (h : Reads w S vs ds) :
      Reads w S (.slice (some ad) n c :: vs) (.r e k ds' :: ds)

/-- The values vs lead to ds in blocks of one's own: bs lists these blocks. -/
inductive Owns (w : World) : List Value → List D → List Nat → Prop
  | nil : Owns w [] [] []
  | int {vs ds bs} (n : Int) (h : Owns w vs ds bs) : Owns w (.int .i64 n :: vs) (.i n :: ds) bs
  | str {vs ds bs} (b : ByteArray) (hb : b.size ≤ maxLen) (h : Owns w vs ds bs) : Owns w (.string b :: vs) (.s b :: ds) bs
  | zero {vs ds bs} (e : TypeId) (k : Nat) (h : Owns w vs ds bs) : Owns w (.slice none 0 0 :: vs) (.r e k [] :: ds) bs
  | row {vs ds bs ds' bs'} (g n c : Nat) (cur : Array Value) (e : TypeId) (k : Nat) (hg : w.heap[g]? = some (.cells cur e (0, 0))) (hn : n ≤ c) (hc : c ≤ maxLen)
      (hs : cur.size = c * k) (hu : Owns w (cur.toList.take (n * k)) ds' bs') (h : Owns w vs ds bs) :
      Owns w (.slice (some ⟨g, 0, none⟩) n c :: vs) (.r e k ds' :: ds) (g :: (bs' ++ bs))

theorem Reads.len {w : World} {S : Nat → Prop} {vs : List Value} {ds : List D} (h : Reads w S vs ds) : vs.length = ds.length := by
  induction h <;> simp_all
theorem Owns.len {w : World} {vs : List Value} {ds : List D} {bs : List Nat} (h : Owns w vs ds bs) : vs.length = ds.length := by
  induction h <;> simp_all

theorem Reads.mono {w : World} {S S' : Nat → Prop} {vs : List Value} {ds : List D} (h : Reads w S vs ds) (hS : ∀ b, S b → S' b) : Reads w S' vs ds := by
  induction h with
  | nil => exact .nil
  | int n _ ih => exact .int n ih
  | str b hb _ ih => exact .str b hb ih
  | zero A c e k _ ih => exact .zero A c e k ih
  | row ad n c e k hn hc hl hs hcell _ _ ih1 ih2 => exact .row ad n c e k hn hc hl (fun h => hS _ (hs h)) hcell ih1 ih2
/-- What is read stays, where the blocks that are met stay. -/
theorem Reads.keep {w w' : World} {S : Nat → Prop} {vs : List Value} {ds : List D} (h : Reads w S vs ds) (hk : ∀ b, S b → b < w.heap.size → w'.heap[b]? = w.heap[b]?) : Reads w' S vs ds := by
  induction h with
  | nil => exact .nil
  | int n _ ih => exact .int n ih
  | str b hb _ ih => exact .str b hb ih
  | zero A c e k _ ih => exact .zero A c e k ih
  | row ad n c e k hn hc hl hs hcell _ _ ih1 ih2 =>
    refine .row ad n c e k hn hc hl hs (fun j u hu => ?_) ih1 ih2
    have h0 := hcell j u hu
    have hb := World.block_lt_of_cell? w _ h0
    have e : (ad.add j).block = ad.block := by unfold Addr.add; split <;> rfl
    exact (World.cell?_of_block (hk _ (by rw [e]; exact hs (by intro e; subst e; simp at hu)) hb)).trans h0
theorem Reads.bel {w w' : World} {S : Nat → Prop} {vs : List Value} {ds : List D} {B : Nat} (h : Reads w S vs ds) (hb : Below B w w') (hS : ∀ b, S b → b < B) : Reads w' S vs ds :=
  h.keep fun b hs _ => hb.block b (hS b hs)
theorem Reads.belAll {w w' : World} {S : Nat → Prop} {vs : List Value} {ds : List D} (h : Reads w S vs ds) (hb : Below w.heap.size w w') : Reads w' S vs ds :=
  h.keep fun b _ hl => hb.block b hl
/-- What is read lies in blocks that are there. -/
theorem Reads.lt {w : World} {S : Nat → Prop} {vs : List Value} {ds : List D} (h : Reads w S vs ds) : Reads w (fun b => b < w.heap.size) vs ds := by
  induction h with
  | nil => exact .nil
  | int n _ ih => exact .int n ih
  | str b hb _ ih => exact .str b hb ih
  | zero A c e k _ ih => exact .zero A c e k ih
  | row ad n c e k hn hc hl hs hcell _ _ ih1 ih2 =>
    refine .row ad n c e k hn hc hl (fun h => ?_) hcell ih1 ih2
    obtain ⟨u, us', rfl⟩ := List.exists_cons_of_ne_nil h
    have := World.block_lt_of_cell? w _ (hcell 0 u rfl)
    have e : (ad.add 0).block = ad.block := by unfold Addr.add; split <;> rfl
    rwa [e] at this
theorem Reads.drew {w : World} {S : Nat → Prop} {vs : List Value} {ds : List D} (h : Reads w S vs ds) : Reads w.drew S vs ds := h.keep fun _ _ _ => rfl
theorem Reads.drewN {w : World} {S : Nat → Prop} {vs : List Value} {ds : List D} (h : Reads w S vs ds) (n : Nat) : Reads (w.drewN n) S vs ds := h.keep fun _ _ _ => rfl
theorem Owns.keep {w w' : World} {vs : List Value} {ds : List D} {bs : List Nat} (h : Owns w vs ds bs) (hk : ∀ b, b ∈ bs → w'.heap[b]? = w.heap[b]?) : Owns w' vs ds bs := by
  induction h with
  | nil => exact .nil
  | int n _ ih => exact .int n (ih hk)
  | str b hb _ ih => exact .str b hb (ih hk)
  | zero e k _ ih => exact .zero e k (ih hk)
  | row g n c cur e k hg hn hc hs _ _ ih1 ih2 =>
    exact .row g n c cur e k ((hk g (by simp)).trans hg) hn hc hs (ih1 fun b hb => hk b (by simp [hb])) (ih2 fun b hb => hk b (by simp [hb]))
theorem Owns.lt {w : World} {vs : List Value} {ds : List D} {bs : List Nat} (h : Owns w vs ds bs) : ∀ b, b ∈ bs → b < w.heap.size := by
  induction h with
  | nil => intro b hb; cases hb
  | int n _ ih => exact ih
  | str b _ _ ih => exact ih
  | zero e k _ ih => exact ih
  | row g n c cur e k hg hn hc hs _ _ ih1 ih2 =>
    intro b hb
    rcases List.mem_cons.1 hb with rfl | hb
    · exact (Array.getElem?_eq_some_iff.1 hg).1
    · rcases List.mem_append.1 hb with hb | hb
      · exact ih1 b hb
      · exact ih2 b hb
theorem Owns.bel {w w' : World} {vs : List Value} {ds : List D} {bs : List Nat} (h : Owns w vs ds bs) (hb : Below w.heap.size w w') : Owns w' vs ds bs :=
  h.keep fun b hm => hb.block b (h.lt b hm)
theorem add_lit0 (g j : Nat) : (⟨g, 0, none⟩ : Addr).add j = ⟨g, j, none⟩ := by unfold Addr.add; split <;> simp_all
theorem Owns.reads {w : World} {vs : List Value} {ds : List D} {bs : List Nat} (h : Owns w vs ds bs) : Reads w (fun b => b ∈ bs) vs ds := by
  induction h with
  | nil => exact .nil
  | int n _ ih => exact .int n ih
  | str b hb _ ih => exact .str b hb ih
  | zero e k _ ih => exact .zero none 0 e k ih
  | row g n c cur e k hg hn hc hs hu _ ih1 ih2 =>
    have hnk : n * k ≤ c * k := Nat.mul_le_mul_right _ hn
    refine .row (us := cur.toList.take (n * k)) ⟨g, 0, none⟩ n c e k hn hc (by rw [List.length_take, Array.length_toList]; omega) (by simp) (fun j u hj => ?_) (ih1.mono fun b hb => by simp [hb]) (ih2.mono fun b hb => by simp [hb])
    rw [add_lit0, cell_of_row w g j cur e (0, 0) hg]
    rw [List.getElem?_take] at hj
    split at hj
    · simpa using hj
    · cases hj

/-! ### lists of cells one behind the other -/
theorem Reads.append {w : World} {S : Nat → Prop} {vs us : List Value} {ds es : List D} (h : Reads w S vs ds) (k : Reads w S us es) : Reads w S (vs ++ us) (ds ++ es) := by
  induction h with
  | nil => exact k
  | int n _ ih => exact .int n ih
  | str b hb _ ih => exact .str b hb ih
  | zero A c e k _ ih => exact .zero A c e k ih
  | row ad n c e k hn hc hl hs hcell hu _ _ ih2 => exact .row ad n c e k hn hc hl hs hcell hu ih2
theorem Reads.split {w : World} {S : Nat → Prop} {es : List D} : ∀ {ds : List D} {vs : List Value}, Reads w S vs (ds ++ es) → ∃ v1 v2, vs = v1 ++ v2 ∧ Reads w S v1 ds ∧ Reads w S v2 es
  | [], vs, h => ⟨[], vs, rfl, .nil, h⟩
  | d :: ds, vs, h => by
    cases h with
    | int n h => obtain ⟨v1, v2, rfl, h1, h2⟩ := Reads.split h; exact ⟨_ :: v1, v2, rfl, .int n h1, h2⟩
    | str b hb h => obtain ⟨v1, v2, rfl, h1, h2⟩ := Reads.split h; exact ⟨_ :: v1, v2, rfl, .str b hb h1, h2⟩
    | zero A c e k h => obtain ⟨v1, v2, rfl, h1, h2⟩ := Reads.split h; exact ⟨_ :: v1, v2, rfl, .zero A c e k h1, h2⟩
    | row ad n c e k hn hc hl hs hcell hu h => obtain ⟨v1, v2, rfl, h1, h2⟩ := Reads.split h; exact ⟨_ :: v1, v2, rfl, .row ad n c e k hn hc hl hs hcell hu h1, h2⟩
theorem Owns.append {w : World} {vs us : List Value} {ds es : List D} {bs cs : List Nat} (h : Owns w vs ds bs) (k : Owns w us es cs) : Owns w (vs ++ us) (ds ++ es) (bs ++ cs) := by
  induction h with
  | nil => exact k
  | int n _ ih => exact .int n ih
  | str b hb _ ih => exact .str b hb ih
  | zero e k _ ih => exact .zero e k ih
  | row g n c cur e k hg hn hc hs hu _ _ ih2 =>
    have := Owns.row g n c cur e k hg hn hc hs hu ih2
    simpa [List.append_assoc] using this
theorem Owns.split {w : World} {es : List D} : ∀ {ds : List D} {vs : List Value} {bs : List Nat}, Owns w vs (ds ++ es) bs → ∃ v1 v2 b1 b2, vs = v1 ++ v2 ∧ bs = b1 ++ b2 ∧ Owns w v1 ds b1 ∧ Owns w v2 es b2
  | [], vs, bs, h => ⟨[], vs, [], bs, rfl, rfl, .nil, h⟩
  | d :: ds, vs, bs, h => by
    cases h with
    | int n h => obtain ⟨v1, v2, b1, b2, rfl, rfl, h1, h2⟩ := Owns.split h; exact ⟨_ :: v1, v2, b1, b2, rfl, rfl, .int n h1, h2⟩
    | str b hb h => obtain ⟨v1, v2, b1, b2, rfl, rfl, h1, h2⟩ := Owns.split h; exact ⟨_ :: v1, v2, b1, b2, rfl, rfl, .str b hb h1, h2⟩
    | zero e k h => obtain ⟨v1, v2, b1, b2, rfl, rfl, h1, h2⟩ := Owns.split h; exact ⟨_ :: v1, v2, b1, b2, rfl, rfl, .zero e k h1, h2⟩
    | row g n c cur e k hg hn hc hs hu h =>
      obtain ⟨v1, v2, b1, b2, rfl, rfl, h1, h2⟩ := Owns.split h
      exact ⟨_ :: v1, v2, _, b2, rfl, by simp [List.append_assoc], .row g n c cur e k hg hn hc hs hu h1, h2⟩
theorem Reads.ints {w : World} {S : Nat → Prop} : ∀ {xs : List Int} {vs : List Value}, Reads w S vs (xs.map D.i) → vs = xs.map (Value.int .i64)
  | [], _, h => by cases h; rfl
  | x :: xs, _, h => by
    cases h with
    | int n h => rw [Reads.ints h]; rfl
theorem Reads.ints_mk (w : World) (S : Nat → Prop) : ∀ xs : List Int, Reads w S (xs.map (Value.int .i64)) (xs.map D.i)
  | [] => .nil
  | x :: xs => .int x (Reads.ints_mk w S xs)
theorem Owns.ints_mk (w : World) : ∀ xs : List Int, Owns w (xs.map (Value.int .i64)) (xs.map D.i) []
  | [] => .nil
  | x :: xs => .int x (Owns.ints_mk w xs)
theorem Reads.strs {w : World} {S : Nat → Prop} : ∀ {xs : List ByteArray} {vs : List Value}, Reads w S vs (xs.map D.s) → vs = xs.map Value.string
  | [], _, h => by cases h; rfl
  | x :: xs, _, h => by
    cases h with
    | str n hb h => rw [Reads.strs h]; rfl
theorem Reads.strs_mk (w : World) (S : Nat → Prop) : ∀ xs : List ByteArray, (∀ x, x ∈ xs → x.size ≤ maxLen) → Reads w S (xs.map Value.string) (xs.map D.s)
  | [], _ => .nil
  | x :: xs, h => .str x (h x (by simp)) (Reads.strs_mk w S xs fun y hy => h y (by simp [hy]))
theorem Owns.strs_mk (w : World) : ∀ xs : List ByteArray, (∀ x, x ∈ xs → x.size ≤ maxLen) → Owns w (xs.map Value.string) (xs.map D.s) []
  | [], _ => .nil
  | x :: xs, h => .str x (h x (by simp)) (Owns.strs_mk w xs fun y hy => h y (by simp [hy]))

theorem Owns.sl_inv {w : World} {v : Value} {e : TypeId} {k m : Nat} {ds : List D} {bs : List Nat} (h : Owns w [v] [.r e k ds] bs) (hk : 0 < k) (hm : ds.length = m * k) : ∃ A c, v = .slice A m c := by
  cases h with
  | zero e k h =>
    have : m = 0 := by
      rcases Nat.eq_zero_or_pos m with h | h
      · exact h
      · have := Nat.mul_pos h hk
        simp at hm
        omega
    subst this
    exact ⟨none, 0, rfl⟩
  | row g n c cur e k hg hn hc hs hu h =>
    have : n = m := by
      have h1 := hu.len
      have hnk : n * k ≤ c * k := Nat.mul_le_mul_right _ hn
      rw [List.length_take, Array.length_toList, hm] at h1
      exact Nat.eq_of_mul_eq_mul_right hk (by omega)
    subst this
    exact ⟨_, c, rfl⟩

theorem Owns.row_inv {w : World} {v : Value} {e : TypeId} {k : Nat} {ds : List D} {bs : List Nat} (h : Owns w [v] [.r e k ds] bs) :
    (v = .slice none 0 0 ∧ ds = [] ∧ bs = []) ∨ ∃ g n c cur bs', v = .slice (some ⟨g, 0, none⟩) n c ∧ bs = g :: bs' ∧ w.heap[g]? = some (.cells cur e (0, 0)) ∧ n ≤ c ∧ c ≤ maxLen ∧ cur.size = c * k ∧ Owns w (cur.toList.take (n * k)) ds bs' := by
  cases h with
  | zero e k h => cases h; exact .inl ⟨rfl, rfl, rfl⟩
  | row g n c cur e k hg hn hc hs hu h => cases h; exact .inr ⟨g, n, c, cur, _, rfl, by simp, hg, hn, hc, hs, hu⟩
theorem Owns.row_mk {w : World} {e : TypeId} {k : Nat} {ds : List D} {bs' : List Nat} {g n c : Nat} {cur : Array Value} (hg : w.heap[g]? = some (.cells cur e (0, 0))) (hn : n ≤ c) (hc : c ≤ maxLen) (hs : cur.size = c * k) (hu : Owns w (cur.toList.take (n * k)) ds bs') :
    Owns w [.slice (some ⟨g, 0, none⟩) n c] [.r e k ds] (g :: bs') := by
  have := Owns.row g n c cur e k hg hn hc hs hu Owns.nil
  rwa [List.append_nil] at this
theorem Owns.ints {w : World} {xs : List Int} : ∀ {vs : List Value} {bs : List Nat}, Owns w vs (xs.map D.i) bs → vs = xs.map (Value.int .i64) ∧ bs = [] := by
  induction xs with
  | nil => intro vs bs h; cases h; exact ⟨rfl, rfl⟩
  | cons x xs ih =>
    intro vs bs h
    cases h with
    | int n h => obtain ⟨rfl, rfl⟩ := ih h; exact ⟨rfl, rfl⟩
theorem Owns.strs {w : World} {xs : List ByteArray} : ∀ {vs : List Value} {bs : List Nat}, Owns w vs (xs.map D.s) bs → vs = xs.map Value.string ∧ bs = [] ∧ ∀ x, x ∈ xs → x.size ≤ maxLen := by
  induction xs with
  | nil => intro vs bs h; cases h; exact ⟨rfl, rfl, by simp⟩
  | cons x xs ih =>
    intro vs bs h
    cases h with
    | str n hb h => obtain ⟨rfl, rfl, hm⟩ := ih h; exact ⟨rfl, rfl, by simpa using ⟨hb, hm⟩⟩

/-! ### forms -/
inductive F where
  | mk (kind : Int) (name : ByteArray) (n : Int) (scopes : List Int) (kids : List F)
mutual
def F.ds (t : TypeId) : F → List D
  | .mk k nm n sc kids => [.i k, .s nm, .i n, .r 3 1 (sc.map D.i), .r t 5 (F.dss t kids)]
def F.dss (t : TypeId) : List F → List D
  | [] => []
  | f :: fs => f.ds t ++ F.dss t fs
end
mutual
def F.size : F → Nat
  | .mk _ _ _ _ kids => F.sizes kids + 1
def F.sizes : List F → Nat
  | [] => 0
  | f :: fs => f.size + F.sizes fs
end
theorem F.ds_len (t : TypeId) (f : F) : (f.ds t).length = 5 := by cases f; rfl
theorem F.dss_len (t : TypeId) : ∀ fs : List F, (F.dss t fs).length = fs.length * 5
  | [] => rfl
  | f :: fs => by simp [F.dss, F.ds_len, F.dss_len t fs]; omega
theorem F.dss_append (t : TypeId) : ∀ fs gs : List F, F.dss t (fs ++ gs) = F.dss t fs ++ F.dss t gs
  | [], gs => rfl
  | f :: fs, gs => by simp [F.dss, F.dss_append t fs gs]

theorem Reads.cons_inv {w : World} {S : Nat → Prop} {vs : List Value} {d : D} {ds : List D} (h : Reads w S vs (d :: ds)) : ∃ v vs', vs = v :: vs' ∧ Reads w S [v] [d] ∧ Reads w S vs' ds := by
  cases h with
  | int n h => exact ⟨_, _, rfl, .int n .nil, h⟩
  | str b hb h => exact ⟨_, _, rfl, .str b hb .nil, h⟩
  | zero A c e k h => exact ⟨_, _, rfl, .zero A c e k .nil, h⟩
  | row ad n c e k hn hc hl hs hcell hu h => exact ⟨_, _, rfl, .row ad n c e k hn hc hl hs hcell hu .nil, h⟩
theorem Reads.cons_mk {w : World} {S : Nat → Prop} {v : Value} {vs : List Value} {d : D} {ds : List D} (h : Reads w S [v] [d]) (h' : Reads w S vs ds) : Reads w S (v :: vs) (d :: ds) := h.append h'
theorem Reads.int_inv {w : World} {S : Nat → Prop} {v : Value} {n : Int} (h : Reads w S [v] [.i n]) : v = .int .i64 n := by cases h; rfl
theorem Reads.str_inv {w : World} {S : Nat → Prop} {v : Value} {b : ByteArray} (h : Reads w S [v] [.s b]) : v = .string b ∧ b.size ≤ maxLen := by cases h; exact ⟨rfl, by assumption⟩
theorem Reads.sl_inv {w : World} {S : Nat → Prop} {v : Value} {e : TypeId} {k m : Nat} {ds : List D} (h : Reads w S [v] [.r e k ds]) (hk : 0 < k) (hm : ds.length = m * k) : ∃ A c, v = .slice A m c := by
  cases h with
  | zero A c e k h =>
    have : m = 0 := by
      rcases Nat.eq_zero_or_pos m with h | h
      · exact h
      · have := Nat.mul_pos h hk
        simp at hm
        omega
    subst this
    exact ⟨A, c, rfl⟩
  | row ad n c e k hn hc hl hs hcell hu h =>
    have : n = m := by
      have := hu.len
      rw [hl, hm] at this
      exact Nat.eq_of_mul_eq_mul_right hk this
    subst this
    exact ⟨some ad, c, rfl⟩
theorem Reads.form {w : World} {S : Nat → Prop} {vs : List Value} {t : TypeId} {k n : Int} {nm : ByteArray} {sc : List Int} {kids : List F} (h : Reads w S vs (F.ds t (.mk k nm n sc kids))) :
    ∃ A3 c3 A4 c4, vs = [.int .i64 k, .string nm, .int .i64 n, .slice A3 sc.length c3, .slice A4 kids.length c4] ∧ nm.size ≤ maxLen ∧
      Reads w S [.slice A3 sc.length c3] [.r 3 1 (sc.map D.i)] ∧ Reads w S [.slice A4 kids.length c4] [.r t 5 (F.dss t kids)] := by
  obtain ⟨v0, vs, rfl, h0, h⟩ := h.cons_inv
  obtain ⟨v1, vs, rfl, h1, h⟩ := h.cons_inv
  obtain ⟨v2, vs, rfl, h2, h⟩ := h.cons_inv
  obtain ⟨v3, vs, rfl, h3, h⟩ := h.cons_inv
  obtain ⟨v4, vs, rfl, h4, h⟩ := h.cons_inv
  cases h
  obtain rfl := h0.int_inv
  obtain ⟨rfl, hb⟩ := h1.str_inv
  obtain rfl := h2.int_inv
  obtain ⟨A3, c3, rfl⟩ := h3.sl_inv (by omega) (m := sc.length) (by simp)
  obtain ⟨A4, c4, rfl⟩ := h4.sl_inv (by omega) (m := kids.length) (F.dss_len t kids)
  exact ⟨A3, c3, A4, c4, rfl, hb, h3, h4⟩
theorem Owns.form {w : World} {vs : List Value} {bs : List Nat} {t : TypeId} {k n : Int} {nm : ByteArray} {sc : List Int} {kids : List F} (h : Owns w vs (F.ds t (.mk k nm n sc kids)) bs) :
    ∃ v3 v4 b3 b4, vs = [.int .i64 k, .string nm, .int .i64 n, v3, v4] ∧ bs = b3 ++ b4 ∧ nm.size ≤ maxLen ∧ Owns w [v3] [.r 3 1 (sc.map D.i)] b3 ∧ Owns w [v4] [.r t 5 (F.dss t kids)] b4 := by
  have e : F.ds t (F.mk k nm n sc kids) = [.i k, .s nm, .i n] ++ ([.r 3 1 (sc.map D.i)] ++ [.r t 5 (F.dss t kids)]) := rfl
  rw [e] at h
  obtain ⟨v1, v2, b1, b2, rfl, rfl, h1, h2⟩ := h.split
  obtain ⟨v3, v4, b3, b4, rfl, rfl, h3, h4⟩ := h2.split
  cases h1 with
  | int k h1 => cases h1 with
    | str nm hb h1 => cases h1 with
      | int n h1 =>
        cases h1
        match v3, v4, h3.len, h4.len with
        | [x], [y], _, _ => exact ⟨x, y, b3, b4, rfl, rfl, hb, h3, h4⟩
theorem Owns.form_mk {w : World} {t : TypeId} {k n : Int} {nm : ByteArray} {sc : List Int} {kids : List F} {v3 v4 : Value} {b3 b4 : List Nat} (hb : nm.size ≤ maxLen) (h3 : Owns w [v3] [.r 3 1 (sc.map D.i)] b3) (h4 : Owns w [v4] [.r t 5 (F.dss t kids)] b4) :
    Owns w [.int .i64 k, .string nm, .int .i64 n, v3, v4] (F.ds t (.mk k nm n sc kids)) (b3 ++ b4) := .int _ (.str _ hb (.int _ (h3.append h4)))
/-- A slice that is read: its length is no greater than maxLen, nor than its capacity. -/
theorem Reads.sl_le {w : World} {S : Nat → Prop} {A : Option Addr} {n c : Nat} {d : D} (h : Reads w S [.slice A n c] [d]) : n ≤ c ∧ n ≤ maxLen := by
  cases h with
  | zero A c e k h => exact ⟨by omega, by unfold maxLen; omega⟩
  | row ad n c e k hn hc hl hs hcell hu h => exact ⟨hn, by omega⟩
theorem F.dss_split (t : TypeId) : ∀ (fs : List F) (j : Nat) (h : j < fs.length), ∃ d1 d2, F.dss t fs = d1 ++ ((fs[j]'h).ds t ++ d2) ∧ d1.length = j * 5
  | f :: fs, 0, _ => ⟨[], F.dss t fs, by simp [F.dss], rfl⟩
  | f :: fs, j + 1, h => by
    obtain ⟨d1, d2, e, hl⟩ := F.dss_split t fs j (by simpa using h)
    exact ⟨f.ds t ++ d1, d2, by simp [F.dss, e], by simp [F.ds_len, hl]; omega⟩
/-- The j-th element's cells. -/
theorem Reads.elem {w : World} {S : Nat → Prop} {A : Option Addr} {n c : Nat} {e : TypeId} {k : Nat} {ds d1 d d2 : List D} {j : Nat} (h : Reads w S [.slice A n c] [.r e k ds]) (hd : ds = d1 ++ (d ++ d2)) (h1 : d1.length = j * k) (h2 : d ≠ []) :
    ∃ ad us, A = some ad ∧ us.length = d.length ∧ Reads w S us d ∧ ∀ i u, us[i]? = some u → w.cell? (ad.add (j * k + i)) = some u := by
  cases h with
  | zero A c e k h => simp at hd; exact absurd hd.2.1 h2
  | row ad n c e k hn hc hl hs hcell hu h =>
    subst hd
    obtain ⟨v1, v2, rfl, r1, r2⟩ := Reads.split hu
    obtain ⟨v3, v4, rfl, r3, r4⟩ := Reads.split r2
    refine ⟨ad, v3, rfl, r3.len, r3, fun i u hi => hcell _ _ ?_⟩
    have hv1 : v1.length = j * k := r1.len.trans h1
    rw [List.getElem?_append_right (by omega), show j * k + i - v1.length = i by omega]
    have hi' := (List.getElem?_eq_some_iff.1 hi).1
    rw [List.getElem?_append_left hi']
    exact hi
/-- A field's address as the walk spells it. -/
theorem add_fld (ad : Addr) (m j : Nat) (hj : 0 < j) : ad.add (m + j) = ⟨(ad.add m).block, (ad.add m).off + j, none⟩ := by
  unfold Addr.add
  by_cases hm : m = 0
  · subst hm
    simp [Nat.ne_of_gt hj]
  · simp [hm, Nat.add_assoc]
theorem Reads.elemF {w : World} {S : Nat → Prop} {A : Option Addr} {n c : Nat} {t : TypeId} {fs : List F} {j : Nat} (h : Reads w S [.slice A n c] [.r t 5 (F.dss t fs)]) (hj : j < fs.length) :
    ∃ ad v0 v1 v2 v3 v4, A = some ad ∧ Reads w S [v0, v1, v2, v3, v4] ((fs[j]'hj).ds t) ∧ w.cell? (ad.add (j * 5)) = some v0 ∧ w.cell? ⟨(ad.add (j * 5)).block, (ad.add (j * 5)).off + 1, none⟩ = some v1 ∧
      w.cell? ⟨(ad.add (j * 5)).block, (ad.add (j * 5)).off + 2, none⟩ = some v2 ∧ w.cell? ⟨(ad.add (j * 5)).block, (ad.add (j * 5)).off + 3, none⟩ = some v3 ∧ w.cell? ⟨(ad.add (j * 5)).block, (ad.add (j * 5)).off + 4, none⟩ = some v4 := by
  obtain ⟨d1, d2, e, hl⟩ := F.dss_split t fs j hj
  obtain ⟨ad, us, rfl, h5, hr, hc⟩ := h.elem e hl (by cases fs[j]; simp [F.ds])
  rw [F.ds_len] at h5
  match us, h5 with
  | [v0, v1, v2, v3, v4], _ =>
    exact ⟨ad, v0, v1, v2, v3, v4, rfl, hr, hc 0 _ rfl, by rw [← add_fld _ _ 1 (by omega)]; exact hc 1 _ rfl, by rw [← add_fld _ _ 2 (by omega)]; exact hc 2 _ rfl, by rw [← add_fld _ _ 3 (by omega)]; exact hc 3 _ rfl, by rw [← add_fld _ _ 4 (by omega)]; exact hc 4 _ rfl⟩
theorem Reads.elemF' {w : World} {S : Nat → Prop} {A : Option Addr} {n c : Nat} {t : TypeId} {fs : List F} {j : Nat} (h : Reads w S [.slice A n c] [.r t 5 (F.dss t fs)]) (hj : j < fs.length) :
    ∃ ad k nm n sc ks A3 c3 A4 c4, A = some ad ∧ fs[j]'hj = .mk k nm n sc ks ∧ Reads w S [.int .i64 k, .string nm, .int .i64 n, .slice A3 sc.length c3, .slice A4 ks.length c4] ((fs[j]'hj).ds t) ∧ w.cell? (ad.add (j * 5)) = some (.int .i64 k) ∧ w.cell? ⟨(ad.add (j * 5)).block, (ad.add (j * 5)).off + 1, none⟩ = some (.string nm) ∧
      w.cell? ⟨(ad.add (j * 5)).block, (ad.add (j * 5)).off + 2, none⟩ = some (.int .i64 n) ∧ w.cell? ⟨(ad.add (j * 5)).block, (ad.add (j * 5)).off + 3, none⟩ = some (.slice A3 sc.length c3) ∧ w.cell? ⟨(ad.add (j * 5)).block, (ad.add (j * 5)).off + 4, none⟩ = some (.slice A4 ks.length c4) := by
  obtain ⟨ad, v0, v1, v2, v3, v4, rfl, hr, h0, h1, h2, h3, h4⟩ := h.elemF hj
  cases hf : fs[j]'hj with
  | mk k nm n sc ks =>
    rw [hf] at hr
    obtain ⟨A3, c3, A4, c4, e, _, _, _⟩ := hr.form
    injection e with e0 e
    injection e with e1 e
    injection e with e2 e
    injection e with e3 e
    injection e with e4 e
    subst e0 e1 e2 e3 e4
    exact ⟨ad, k, nm, n, sc, ks, A3, c3, A4, c4, rfl, rfl, hr, h0, h1, h2, h3, h4⟩
theorem F.sizes_get : ∀ (fs : List F) (j : Nat) (h : j < fs.length), (fs[j]'h).size ≤ F.sizes fs
  | f :: fs, 0, _ => by simp [F.sizes]
  | f :: fs, j + 1, h => by have := F.sizes_get fs j (by simpa using h); simp [F.sizes]; omega
end Go.Proofs.YtnooeebefhfjcaaDoor
