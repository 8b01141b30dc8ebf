/- The walk's laws for stores into, loads from and growth of rows of structs. -/
import Derived.Test.YtnooeebefhfjcaaDoorK
set_option linter.unusedVariables false
set_option linter.unusedSimpArgs false
namespace Go.Proofs.YtnooeebefhfjcaaDoor
open Go Go.RowKit

def splice (cur : Array Value) (off : Nat) (vs : List Value) : Array Value := (cur.toList.take off ++ vs ++ cur.toList.drop (off + vs.length)).toArray
theorem splice_size (cur : Array Value) (off : Nat) (vs : List Value) (h : off + vs.length ≤ cur.size) : (splice cur off vs).size = cur.size := by
  simp [splice]; omega
theorem splice_take (cur : Array Value) (off : Nat) (vs : List Value) (h : off + vs.length ≤ cur.size) : (splice cur off vs).toList.take (off + vs.length) = cur.toList.take off ++ vs := by
  have hl : (cur.toList.take off ++ vs).length = off + vs.length := by simp; omega
  simp only [splice]
  rw [← hl, List.take_left']
  rfl
theorem take_set_succ (cur : Array Value) (j : Nat) (v : Value) (h : j < cur.size) : (cur.setIfInBounds j v).toList.take (j + 1) = cur.toList.take j ++ [v] := by
  rw [Array.toList_setIfInBounds, List.take_succ_eq_append_getElem (by simpa using h), List.take_set_of_le (by omega)]
  simp
theorem map_take_succ {α β : Type} (f : α → β) (xs : List α) (j : Nat) (h : j < xs.length) : (xs.take (j + 1)).map f = (xs.take j).map f ++ [f (xs[j]'h)] := by
  rw [List.take_succ_eq_append_getElem h, List.map_append]
  rfl
section
variable {P : Program} {ops : Array Oper} {rest : List Oper} {o : Oper} {a : Act} {w : World} {Q : Exit → Act → World → Prop} {K : Act → World → Prop}
theorem run_storeVar_at (w : World) (g off : Nat) (t ty : TypeId) (vs : List Value) (v : Value) (cur : Array Value) (hg : w.heap[g]? = some (.cells cur t (0, 0))) (hi : (P.info? ty).map (·.size) = some vs.length)
    (hv : v.cells = vs.toArray) (hl : off + vs.length ≤ cur.size) (h1 : ∀ u ∈ vs, u.oneCell' = true) :
    (storeVar ty ⟨g, off, none⟩ v).run P w = .ok () (w.setRow g (splice cur off vs)) := by
  have h := run_storeCells_at P g off t vs 0 cur w hg (by simpa using hl) h1
  cases hq : P.info? ty with
  | none => simp [hq] at hi
  | some i =>
    have hs : vs.length = i.size := by simp [hq] at hi; omega
    simp only [Nat.add_zero] at h
    simp [storeVar, sizeOf, typeInfo, hq, hv, hs, h, splice]
theorem wp_store_at (ty : TypeId) (x y : Operand) (ho : o.op = .store ty x y) (g off : Nat) (v : Value) (vs : List Value) (hx : a.eval x = .pointer (some ⟨g, off, none⟩)) (hy : a.eval y = v) (hv : v.cells = vs.toArray)
    (t : TypeId) (cur : Array Value) (hg : w.heap[g]? = some (.cells cur t (0, 0))) (hi : (P.info? ty).map (·.size) = some vs.length) (hl : off + vs.length ≤ cur.size) (h1 : ∀ u ∈ vs, u.oneCell' = true)
    (h : K (a.put o.dst undef) (w.setRow g (splice cur off vs))) : o.wp P a w K Q := by
  unfold Oper.wp execOp
  simp only [ho, hx, hy, Instr.storeAt, Instr.sureAddr, Sem.run_bind, Sem.run_pure, Result.andThen_ok, run_storeVar_at w g off t ty vs v cur hg hi hv hl h1]
  exact h
theorem wpList_store_at (hgd : o.guard = none) (ty : TypeId) (x y : Operand) (ho : o.op = .store ty x y) (g off : Nat) (v : Value) (vs : List Value) (hx : a.eval x = .pointer (some ⟨g, off, none⟩)) (hy : a.eval y = v) (hv : v.cells = vs.toArray)
    (t : TypeId) (cur : Array Value) (hg : w.heap[g]? = some (.cells cur t (0, 0))) (hi : (P.info? ty).map (·.size) = some vs.length) (hl : off + vs.length ≤ cur.size) (h1 : ∀ u ∈ vs, u.oneCell' = true)
    (h : wpList P ops Q rest (a.put o.dst undef) (w.setRow g (splice cur off vs))) : wpList P ops Q (o :: rest) a w :=
  wpList_plain hgd fun _ hK => wp_store_at ty x y ho g off v vs hx hy hv t cur hg hi hl h1 (hK _ _ h)
theorem run_loadVar_at (w : World) (ad : Addr) (ty : TypeId) (vs : List Value) (d : TypeDesc) (hc : ∀ j u, vs[j]? = some u → w.cell? (ad.add j) = some u)
    (hu : P.underlying ty = some d) (hd : (match d with | .struct _ | .array _ _ => true | _ => false) = true) (hi : (P.info? ty).map (·.size) = some vs.length) :
    (loadVar ty ad).run P w = .ok (.agg vs.toArray) w := by
  have hl := run_loadCells_list (P := P) w ad vs hc
  cases hq : P.info? ty with
  | none => simp [hq] at hi
  | some i =>
    have hs : i.size = vs.length := by simpa [hq] using hi
    have hagg : (isAgg ty).run P w = .ok true w := by
      unfold isAgg
      rw [Sem.run_bind, run_underlying hu w]
      cases d <;> simp_all
    simp [loadVar, Sem.run_bind, hagg, sizeOf, typeInfo, hq, hs, hl]
theorem wp_load_at (ty : TypeId) (x : Operand) (ho : o.op = .load ty x) (ad : Addr) (hx : a.eval x = .pointer (some ad)) (vs : List Value) (d : TypeDesc) (hc : ∀ j u, vs[j]? = some u → w.cell? (ad.add j) = some u)
    (hu : P.underlying ty = some d) (hd : (match d with | .struct _ | .array _ _ => true | _ => false) = true) (hi : (P.info? ty).map (·.size) = some vs.length)
    (h : K (a.put o.dst (.agg vs.toArray)) w) : o.wp P a w K Q := by
  unfold Oper.wp execOp
  simp only [ho, hx, Instr.loadAt, Instr.sureAddr, Sem.run_bind, Sem.run_pure, Result.andThen_ok, run_loadVar_at w ad ty vs d hc hu hd hi]
  exact h
theorem wpList_load_at (hgd : o.guard = none) (ty : TypeId) (x : Operand) (ho : o.op = .load ty x) (ad : Addr) (hx : a.eval x = .pointer (some ad)) (vs : List Value) (d : TypeDesc) (hc : ∀ j u, vs[j]? = some u → w.cell? (ad.add j) = some u)
    (hu : P.underlying ty = some d) (hd : (match d with | .struct _ | .array _ _ => true | _ => false) = true) (hi : (P.info? ty).map (·.size) = some vs.length)
    (h : wpList P ops Q rest (a.put o.dst (.agg vs.toArray)) w) : wpList P ops Q (o :: rest) a w :=
  wpList_plain hgd fun _ hK => wp_load_at ty x ho ad hx vs d hc hu hd hi (hK _ _ h)
/-- make([]T, n): n cells rows of which nothing need be known. -/
theorem run_make_any (t e : TypeId) (z : Value) (size bytes : Nat) (ht : P.underlying t = some (.slice e)) (hinfo : (P.info? e).map (fun i => (i.zero, i.size, i.bytes)) = some (some z, size, bytes)) (n : Nat) (hb : n * bytes ≤ 281474976710656) (hn : n ≤ 1073741824) :
    ∃ cur : Array Value, cur.size = n * size ∧ ∀ W : World, (Instr.makeSlice t (.int .i64 (n : Int)) (.int .i64 (n : Int))).run P W = .ok (.slice (some ⟨W.heap.size, 0, none⟩) n n) (W.alloc (.cells cur e)) := by
  obtain ⟨i0, hi, hzz⟩ := Option.map_eq_some_iff.1 hinfo
  simp only [Prod.mk.injEq] at hzz
  obtain ⟨hz0, hz1, hz2⟩ := hzz
  subst hz1 hz2
  refine ⟨madeCells z.cells (n * i0.size), size_madeCells _ _, fun W => ?_⟩
  have hb' : (i0.bytes : Int) * (n : Int) ≤ 281474976710656 := by
    have h : ((i0.bytes * n : Nat) : Int) ≤ 281474976710656 := by rw [Nat.mul_comm]; omega
    rwa [Int.natCast_mul] at h
  have hr := run_make (P := P) W t e i0 z ht hi hz0 .i64 .i64 n n (by omega) (by omega) hb' (by omega)
  simpa using hr
end
theorem setRow_below {B g : Nat} {w0 w : World} (hb : Below B w0 w) (hBg : B ≤ g) (cs : Array Value) : Below B w0 (w.setRow g cs) :=
  hb.trans ⟨rfl, rfl, rfl, by simp, fun k hk => setRow_other w g k cs (by omega)⟩
theorem oneCells_of {w : World} {S : Nat → Prop} {vs : List Value} {ds : List D} (h : Reads w S vs ds) : ∀ u ∈ vs, u.oneCell' = true := by
  induction h with
  | nil => intro u hu; cases hu
  | int n _ ih => intro u hu; exact (List.mem_cons.1 hu).elim (fun e => by rw [e]; rfl) (ih u)
  | str b _ _ ih => intro u hu; exact (List.mem_cons.1 hu).elim (fun e => by rw [e]; rfl) (ih u)
  | zero A c e k _ ih => intro u hu; exact (List.mem_cons.1 hu).elim (fun e => by rw [e]; rfl) (ih u)
  | row ad n c e k hn hc hl hs hcell _ _ _ ih => intro u hu; exact (List.mem_cons.1 hu).elim (fun e => by rw [e]; rfl) (ih u)
/-- What a call has newly made: the values lead to ds in blocks of its own, each once. -/
def Made (w w' : World) (vs : List Value) (ds : List D) : Prop := ∃ bs, Owns w' vs ds bs ∧ bs.Nodup ∧ (∀ b, b ∈ bs → w.heap.size ≤ b) ∧ Below w.heap.size w w'
theorem blk_bel {w w1 : World} {g : Nat} {o : Obj} (h : w.heap[g]? = some o) (hb : Below w.heap.size w w1) : w1.heap[g]? = some o := (hb.block g (Array.getElem?_eq_some_iff.1 h).1).trans h
theorem blk_lt' {w : World} {g : Nat} {o : Obj} (h : w.heap[g]? = some o) : g < w.heap.size := (Array.getElem?_eq_some_iff.1 h).1
theorem nodup_app {l1 l2 : List Nat} (h1 : l1.Nodup) (h2 : l2.Nodup) (h : ∀ b, b ∈ l1 → b ∈ l2 → False) : (l1 ++ l2).Nodup :=
  List.nodup_append.2 ⟨h1, h2, fun a ha b hb e => h a ha (e ▸ hb)⟩
theorem F.dss_take_succ (t : TypeId) (fs : List F) (j : Nat) (h : j < fs.length) : F.dss t (fs.take (j + 1)) = F.dss t (fs.take j) ++ (fs[j]'h).ds t := by
  rw [List.take_succ_eq_append_getElem h, F.dss_append]
  simp [F.dss]
/-- A block that is known whole, as rules for the walk. -/
theorem blk_rules {w : World} {g : Nat} {t : TypeId} {cur : Array Value} (h : w.heap[g]? = some (.cells cur t (0, 0))) : (∀ o, w.cell? ⟨g, o, none⟩ = cur[o]?) ∧ (∀ o, w.frozen? ⟨g, o, none⟩ = false) :=
  ⟨fun o => cell_of_row w g o cur t (0, 0) h, fun o => frozen_of_row w g o cur t h⟩
theorem blk_set {w : World} {g i : Nat} {t : TypeId} {cs : Array Value} (h : w.heap[g]? = some (.cells cs t (0, 0))) (v : Value) : (w.setCell ⟨g, i, none⟩ v).heap[g]? = some (.cells (cs.setIfInBounds i v) t (0, 0)) := heap_setCell_same w g i cs t v h
theorem blk_far {w : World} {g : Nat} {o : Obj} (h : w.heap[g]? = some o) {p : Addr} (hp : g ≠ p.block) (v : Value) : (w.setCell p v).heap[g]? = some o := (heap_setCell_other w p g v hp).trans h
theorem blk_alloc {w : World} {g : Nat} {o : Obj} (h : w.heap[g]? = some o) (o' : Obj) : (w.alloc o').heap[g]? = some o := (Below.heap_alloc w o' g (Array.getElem?_eq_some_iff.1 h).1).trans h
theorem blk_new (w : World) (o : Obj) : (w.alloc o).heap[w.heap.size]? = some o := heap_alloc_new w o
theorem World.cell_bel {w w1 : World} {a : Addr} {v : Value} (hb : Below w.heap.size w w1) (h : w.cell? a = some v) : w1.cell? a = some v := (hb.cell (World.block_lt_of_cell? w a h)).trans h
theorem arr_get {cur : Array Value} {j : Nat} (h : j < cur.size) : cur[j]? = some (cur.getD j undef) := by simp [h]
/-- Of what was there, the blocks bs alone may have been written. -/
structure Only (w w' : World) (bs : List Nat) : Prop where
  os : w'.os = w.os
  tape : w'.tape = w.tape
  output : w'.output = w.output
  size : w.heap.size ≤ w'.heap.size
  block : ∀ b, b < w.heap.size → b ∉ bs → w'.heap[b]? = w.heap[b]?
theorem Only.refl (w : World) (bs : List Nat) : Only w w bs := ⟨rfl, rfl, rfl, Nat.le_refl _, fun _ _ _ => rfl⟩
theorem Only.of_below {w w' : World} (h : Below w.heap.size w w') (bs : List Nat) : Only w w' bs := ⟨h.os, h.tape, h.output, h.size, fun b hb _ => h.block b hb⟩
theorem Only.trans {w w1 w2 : World} {bs cs : List Nat} (h : Only w w1 bs) (k : Only w1 w2 cs) (hs : ∀ b, b ∈ cs → b ∈ bs ∨ w.heap.size ≤ b) : Only w w2 bs :=
  ⟨k.os.trans h.os, k.tape.trans h.tape, k.output.trans h.output, Nat.le_trans h.size k.size, fun b hb hn => (k.block b (Nat.lt_of_lt_of_le hb h.size) (fun hc => by rcases hs b hc with h1 | h1; exact hn h1; omega)).trans (h.block b hb hn)⟩
theorem Only.set {w w1 : World} {bs : List Nat} (h : Only w w1 bs) {p : Addr} (hp : p.block ∈ bs) (v : Value) : Only w (w1.setCell p v) bs :=
  ⟨h.os, h.tape, h.output, by simp [World.setCell]; exact h.size, fun b hb hn => (heap_setCell_other w1 p b v (fun e => hn (e ▸ hp))).trans (h.block b hb hn)⟩
theorem Only.setRow {w w1 : World} {bs : List Nat} (h : Only w w1 bs) {g : Nat} (hp : g ∈ bs) (cs : Array Value) : Only w (w1.setRow g cs) bs :=
  ⟨h.os, h.tape, h.output, by simp; exact h.size, fun b hb hn => (setRow_other w1 g b cs (fun e => hn (e ▸ hp))).trans (h.block b hb hn)⟩
theorem Only.below {w w1 w2 : World} {bs : List Nat} (h : Only w w1 bs) (k : Below w1.heap.size w1 w2) : Only w w2 bs := h.trans (Only.of_below k []) (fun b hb => by cases hb)
theorem Only.mono {w w1 : World} {bs cs : List Nat} (h : Only w w1 bs) (hs : ∀ b, b ∈ bs → b ∈ cs) : Only w w1 cs := ⟨h.os, h.tape, h.output, h.size, fun b hb hn => h.block b hb (fun hc => hn (hs b hc))⟩
theorem Only.owns {w w' : World} {bs cs : List Nat} {vs : List Value} {ds : List D} (h : Only w w' bs) (ho : Owns w vs ds cs) (hd : ∀ b, b ∈ cs → b ∉ bs) : Owns w' vs ds cs :=
  ho.keep fun b hb => h.block b (ho.lt b hb) (hd b hb)
theorem Only.reads {w w' : World} {bs : List Nat} {S : Nat → Prop} {vs : List Value} {ds : List D} (h : Only w w' bs) (hr : Reads w S vs ds) (hd : ∀ b, S b → b ∉ bs) : Reads w' S vs ds :=
  hr.keep fun b hb hl => h.block b hl (hd b hb)
theorem Only.nil {w w' : World} (h : Only w w' []) : Below w.heap.size w w' := ⟨h.os, h.tape, h.output, h.size, fun b hb => h.block b hb (by simp)⟩
theorem Only.toBelow {B : Nat} {w0 w w' : World} {bs : List Nat} (h : Only w w' bs) (hb : Below B w0 w) (hB : B ≤ w.heap.size) (hs : ∀ b, b ∈ bs → B ≤ b) : Below B w0 w' :=
  hb.trans ⟨h.os, h.tape, h.output, h.size, fun b hl => h.block b (by omega) (fun hm => by have := hs b hm; omega)⟩

/-! At a call the world gets a name, and what it holds is said. -/
section
variable {P : Program} {f : FuncId} {args : Array Value} {w : World} {R : Ending → World → Prop}
theorem calls_alloc1 {o0 : Obj} (h : ∀ W, W.heap[w.heap.size]? = some o0 → W.heap.size = w.heap.size + 1 → Below w.heap.size w W → Calls P f args W R) : Calls P f args (w.alloc o0) R :=
  h _ (blk_new _ _) (by simp) ((Below.refl _ w).alloc (Nat.le_refl _) _)
theorem calls_alloc2 {o0 o1 : Obj} (h : ∀ W, W.heap[w.heap.size]? = some o0 → W.heap[w.heap.size + 1]? = some o1 → W.heap.size = w.heap.size + 2 → Below w.heap.size w W → Calls P f args W R) : Calls P f args ((w.alloc o0).alloc o1) R :=
  h _ (blk_alloc (blk_new _ _) _) (by have := blk_new (w.alloc o0) o1; simpa using this) (by simp) (((Below.refl _ w).alloc (Nat.le_refl _) _).alloc (by simp) _)
theorem calls_alloc3 {o0 o1 o2 : Obj} (h : ∀ W, W.heap[w.heap.size]? = some o0 → W.heap[w.heap.size + 1]? = some o1 → W.heap[w.heap.size + 1 + 1]? = some o2 → W.heap.size = w.heap.size + 3 → Below w.heap.size w W → Calls P f args W R) : Calls P f args (((w.alloc o0).alloc o1).alloc o2) R :=
  h _ (blk_alloc (blk_alloc (blk_new _ _) _) _) (by have := blk_alloc (blk_new (w.alloc o0) o1) o2; simpa using this) (by have := blk_new ((w.alloc o0).alloc o1) o2; simpa using this) (by simp) ((((Below.refl _ w).alloc (Nat.le_refl _) _).alloc (by simp) _).alloc (by simp; omega) _)
theorem calls_set {g i : Nat} {t : TypeId} {cs : Array Value} {v : Value} (B : w.heap[g]? = some (.cells cs t (0, 0)))
    (h : ∀ W, W.heap[g]? = some (.cells (cs.setIfInBounds i v) t (0, 0)) → (∀ k, k ≠ g → W.heap[k]? = w.heap[k]?) → W.heap.size = w.heap.size → (∀ B, B ≤ g → ∀ w0, Below B w0 w → Below B w0 W) → Only w W [g] → Calls P f args W R) : Calls P f args (w.setCell ⟨g, i, none⟩ v) R :=
  h _ (blk_set B v) (fun k hk => heap_setCell_other w ⟨g, i, none⟩ k v hk) (by simp [World.setCell]) (fun B hB w0 hb => hb.setCell hB v) ((Only.refl w [g]).set (by simp) v)
theorem calls_set2 {g i i' : Nat} {t : TypeId} {cs : Array Value} {v v' : Value} (B : w.heap[g]? = some (.cells cs t (0, 0)))
    (h : ∀ W, W.heap[g]? = some (.cells ((cs.setIfInBounds i v).setIfInBounds i' v') t (0, 0)) → (∀ k, k ≠ g → W.heap[k]? = w.heap[k]?) → W.heap.size = w.heap.size → (∀ B, B ≤ g → ∀ w0, Below B w0 w → Below B w0 W) → Only w W [g] → Calls P f args W R) : Calls P f args ((w.setCell ⟨g, i, none⟩ v).setCell ⟨g, i', none⟩ v') R :=
  h _ (blk_set (blk_set B v) v') (fun k hk => (heap_setCell_other _ ⟨g, i', none⟩ k v' hk).trans (heap_setCell_other w ⟨g, i, none⟩ k v hk)) (by simp [World.setCell]) (fun B hB w0 hb => (hb.setCell hB v).setCell hB v') (((Only.refl w [g]).set (by simp) v).set (by simp) v')
end
theorem arr_set (A R : List Value) (i k : Nat) (v : Value) (h : A.length = i) : (A ++ R).toArray.setIfInBounds (i + k) v = (A ++ R.set k v).toArray := by
  rw [List.setIfInBounds_toArray, ← h, List.set_append_right _ _ (by omega)]
  simp
theorem arr_at (A R : List Value) (i k : Nat) (h : A.length = i) : (A ++ R).toArray[i + k]? = R[k]? := by
  rw [List.getElem?_toArray, List.getElem?_append_right (by omega), h]
  simp
end Go.Proofs.YtnooeebefhfjcaaDoor
