import Derived.WalkKit
import Derived.WalkLawsBesides
import Derived.BigQuiet
import Derived.BigRegion
import Derived.Lib.Hide
import Derived.Laws.CopyOwn
import Derived.Deep.Draws
import Derived.StillTailTactics
import Derived.Test.YtgnkhncogfppgaaM0
namespace Go.Proofs.Ytgnkhncogfppgaa
open Go.RowKit
/-- The cells of a zone: how many, none, the bounds. -/
def zc (n : Int) (b : Bool) (D : Mat) : Array Value :=
  ((List.range 51).map fun k => if k = 0 then Value.int .i64 n else if k = 1 then Value.bool b else Value.int .i64 (D ((k - 2) / 7) ((k - 2) % 7))).toArray
theorem zc_size (n : Int) (b : Bool) (D : Mat) : (zc n b D).size = 51 := by simp [zc]
theorem zc_get (n : Int) (b : Bool) (D : Mat) (k : Nat) (hk : k < 51) :
    (zc n b D)[k]? = some (if k = 0 then Value.int .i64 n else if k = 1 then Value.bool b else Value.int .i64 (D ((k - 2) / 7) ((k - 2) % 7))) := by
  simp [zc, hk]
theorem zc_n (n : Int) (b : Bool) (D : Mat) : (zc n b D)[0]? = some (.int .i64 n) := zc_get n b D 0 (by omega)
theorem zc_b (n : Int) (b : Bool) (D : Mat) : (zc n b D)[1]? = some (.bool b) := zc_get n b D 1 (by omega)
theorem zc_at (n : Int) (b : Bool) (D : Mat) (i j : Nat) (hi : i < 7) (hj : j < 7) : (zc n b D)[2 + i * 7 + j]? = some (.int .i64 (D i j)) := by
  rw [zc_get n b D _ (by omega), if_neg (by omega), if_neg (by omega)]
  have h1 : (2 + i * 7 + j - 2) / 7 = i := by omega
  have h2 : (2 + i * 7 + j - 2) % 7 = j := by omega
  rw [h1, h2]
theorem zc_ext {n : Int} {b : Bool} {c : Array Value} {D : Mat} (hs : c.size = 51) (h0 : c[0]? = some (.int .i64 n)) (h1 : c[1]? = some (.bool b))
    (h : ∀ i j, i < 7 → j < 7 → c[2 + i * 7 + j]? = some (.int .i64 (D i j))) : c = zc n b D := by
  apply Array.ext_getElem?
  intro k
  by_cases hk : k < 51
  · by_cases hk0 : k = 0
    · subst hk0; rw [h0, zc_n]
    · by_cases hk1 : k = 1
      · subst hk1; rw [h1, zc_b]
      · have e : k = 2 + ((k - 2) / 7) * 7 + (k - 2) % 7 := by omega
        rw [e, h _ _ (by omega) (by omega), zc_at _ _ _ _ _ (by omega) (by omega)]
  · rw [Array.getElem?_eq_none (by omega), Array.getElem?_eq_none (by rw [zc_size]; omega)]
theorem zc_congr {n : Int} {b : Bool} {D E : Mat} (h : ∀ i j, i < 7 → j < 7 → D i j = E i j) : zc n b D = zc n b E :=
  zc_ext (zc_size _ _ _) (zc_n _ _ _) (zc_b _ _ _) fun i j hi hj => by rw [zc_at _ _ _ _ _ hi hj, h i j hi hj]
theorem zc_set (n : Int) (b : Bool) (D : Mat) (i j : Nat) (v : Int) (hi : i < 7) (hj : j < 7) :
    (zc n b D).setIfInBounds (2 + i * 7 + j) (.int .i64 v) = zc n b (upd D i j v) := by
  apply zc_ext
  · simp [zc_size]
  · rw [Array.getElem?_setIfInBounds, if_neg (by omega), zc_n]
  · rw [Array.getElem?_setIfInBounds, if_neg (by omega), zc_b]
  · intro a c ha hc
    rw [Array.getElem?_setIfInBounds]
    by_cases h : a = i ∧ c = j
    · obtain ⟨rfl, rfl⟩ := h
      rw [if_pos rfl, upd_same]; simp [zc_size]; omega
    · rw [if_neg (by omega), zc_at _ _ _ _ _ ha hc, upd_ne _ _ _ _ h]
theorem zc_inj {n m : Int} {b c : Bool} {D E : Mat} (h : zc n b D = zc m c E) : n = m ∧ b = c ∧ ∀ i j, i < 7 → j < 7 → D i j = E i j := by
  have h0 := zc_n n b D; have h1 := zc_b n b D
  rw [h, zc_n] at h0; rw [h, zc_b] at h1
  refine ⟨by simpa using h0.symm, by simpa using h1.symm, fun i j hi hj => ?_⟩
  have h2 := zc_at n b D i j hi hj
  rw [h, zc_at _ _ _ _ _ hi hj] at h2
  simpa using h2.symm
theorem zc_one (n : Int) (b : Bool) (D : Mat) : ∀ v ∈ (zc n b D).toList, v.oneCell' = true := by
  intro v hv
  simp only [zc, List.mem_map] at hv
  obtain ⟨k, _, rfl⟩ := hv
  split
  · rfl
  · split <;> rfl
/-- Block g of w holds a zone (as a variable of type T). -/
def ZAt (T : TypeId) (w : World) (g : Nat) (n : Int) (b : Bool) (D : Mat) : Prop := w.heap[g]? = some (.cells (zc n b D) T (0, 0))
section
variable {T : TypeId} {w : World} {g : Nat} {n : Int} {b : Bool} {D : Mat}
theorem ZAt.lt (h : ZAt T w g n b D) : g < w.heap.size := (Array.getElem?_eq_some_iff.1 h).1
theorem ZAt.n_cell (h : ZAt T w g n b D) : w.cell? ⟨g, 0, none⟩ = some (.int .i64 n) := by rw [cell_of_row w g 0 _ T _ h, zc_n]
theorem ZAt.b_cell (h : ZAt T w g n b D) : w.cell? ⟨g, 1, none⟩ = some (.bool b) := by rw [cell_of_row w g 1 _ T _ h, zc_b]
theorem ZAt.cell (h : ZAt T w g n b D) (i j : Nat) (hi : i < 7) (hj : j < 7) : w.cell? ⟨g, 2 + i * 7 + j, none⟩ = some (.int .i64 (D i j)) := by
  rw [cell_of_row w g _ _ T _ h, zc_at _ _ _ _ _ hi hj]
theorem ZAt.frozen (h : ZAt T w g n b D) (k : Nat) : w.frozen? ⟨g, k, none⟩ = false := frozen_of_row w g k _ T h
theorem ZAt.set (h : ZAt T w g n b D) (i j : Nat) (v : Int) (hi : i < 7) (hj : j < 7) : ZAt T (w.setCell ⟨g, 2 + i * 7 + j, none⟩ (.int .i64 v)) g n b (upd D i j v) := by
  unfold ZAt; rw [heap_setCell_same w g _ _ T _ h, zc_set _ _ _ _ _ _ hi hj]
theorem ZAt.drew (h : ZAt T w g n b D) : ZAt T w.drew g n b D := h
theorem ZAt.drewN (h : ZAt T w g n b D) (k : Nat) : ZAt T (w.drewN k) g n b D := h
theorem ZAt.set_other (h : ZAt T w g n b D) {a : Addr} (ha : a.block ≠ g) (v : Value) : ZAt T (w.setCell a v) g n b D := by
  unfold ZAt; rw [heap_setCell_other w a g v (Ne.symm ha)]; exact h
theorem ZAt.below (h : ZAt T w g n b D) {w' : World} {B : Nat} (hb : Below B w w') (hg : g < B) : ZAt T w' g n b D := (hb.block g hg).trans h
theorem ZAt.alloc (h : ZAt T w g n b D) (o : Obj) : ZAt T (w.alloc o) g n b D := (Below.heap_alloc w o g h.lt).trans h
theorem ZAt.new (w : World) (T : TypeId) (n : Int) (b : Bool) (D : Mat) : ZAt T (w.alloc (.cells (zc n b D) T)) w.heap.size n b D := Go.heap_alloc_new w _
theorem ZAt.congr (h : ZAt T w g n b D) {E : Mat} (he : ∀ i j, i < 7 → j < 7 → D i j = E i j) : ZAt T w g n b E := by
  unfold ZAt; rw [← zc_congr he]; exact h
end
@[go_sem high] theorem run_min_mn {P : Program} (w : World) (ts : Array TypeId) (t : TypeId) (k k' : IntKind) (x y : Int) : (Builtin.min_ ts t #[.int k x, .int k' y]).run P w = .ok (.int k (mn x y)) w := run_min_int2 w ts t k k' x y
@[go_sem high] theorem run_max_mx {P : Program} (w : World) (ts : Array TypeId) (t : TypeId) (k k' : IntKind) (x y : Int) : (Builtin.max_ ts t #[.int k x, .int k' y]).run P w = .ok (.int k (mx x y)) w := run_max_int2 w ts t k k' x y
theorem wrap64_w64 (x : Int) : wrap64 x = w64 x := by unfold wrap64 w64; rfl
theorem below_drewN {B : Nat} {a w : World} (h : Below B a w) (n : Nat) : Below B a (w.drewN n) := ⟨h.os, h.tape, h.output, h.size, h.block⟩
section rows
variable {P : Program}
/-- A whole row stored into a variable. -/
theorem run_storeVar_row (w : World) (g : Nat) (t ty : TypeId) (cur cs : Array Value) (hg : w.heap[g]? = some (.cells cur t (0, 0))) (hs : cs.size = cur.size)
    (hi : (P.info? ty).map (·.size) = some cs.size) (h1 : ∀ v ∈ cs.toList, v.oneCell' = true) :
    (storeVar ty ⟨g, 0, none⟩ (.agg cs)).run P w = .ok () (w.setRow g cs) := by
  cases hq : P.info? ty with
  | none => simp [hq] at hi
  | some i =>
    have hz : i.size = cs.size := by simpa [hq] using hi
    have h := run_storeCells_at P g 0 t cs.toList 0 cur w hg (by simp [hs]) h1
    have e : (cur.toList.take (0 + 0) ++ cs.toList ++ cur.toList.drop (0 + 0 + cs.toList.length)).toArray = cs := by
      have hd : cur.toList.drop (0 + 0 + cs.toList.length) = [] := by apply List.drop_eq_nil_of_le; simp [hs]
      rw [hd]; simp
    rw [e] at h
    simp [storeVar, Sem.run_bind, sizeOf, typeInfo, hq, hz, Value.cells, h]
theorem wp_store_row {o : Oper} {a : Act} {w : World} {K : Act → World → Prop} {Q : Exit → Act → World → Prop} (ty : TypeId) (x y : Operand) (ho : o.op = .store ty x y)
    (g : Nat) (hx : a.eval x = .pointer (some ⟨g, 0, none⟩)) (cs : Array Value) (hy : a.eval y = .agg cs) (t : TypeId) (cur : Array Value) (hg : w.heap[g]? = some (.cells cur t (0, 0)))
    (hs : cs.size = cur.size) (hi : (P.info? ty).map (·.size) = some cs.size) (h1 : ∀ v ∈ cs.toList, v.oneCell' = true)
    (h : K (a.put o.dst undef) (w.setRow g cs)) : o.wp P a w K Q := by
  unfold Oper.wp execOp
  simp only [ho, hx, hy, Instr.storeAt, Instr.sureAddr, Sem.run_bind, Sem.run_pure, Result.andThen_ok, run_storeVar_row w g t ty cur cs hg hs hi h1]
  exact h
theorem wpList_store_row {ops : Array Oper} {rest : List Oper} {o : Oper} {a : Act} {w : World} {Q : Exit → Act → World → Prop} (hgd : o.guard = none) (ty : TypeId) (x y : Operand) (ho : o.op = .store ty x y)
    (g : Nat) (hx : a.eval x = .pointer (some ⟨g, 0, none⟩)) (cs : Array Value) (hy : a.eval y = .agg cs) (t : TypeId) (cur : Array Value) (hg : w.heap[g]? = some (.cells cur t (0, 0)))
    (hs : cs.size = cur.size) (hi : (P.info? ty).map (·.size) = some cs.size) (h1 : ∀ v ∈ cs.toList, v.oneCell' = true)
    (h : wpList P ops Q rest (a.put o.dst undef) (w.setRow g cs)) : wpList P ops Q (o :: rest) a w :=
  wpList_plain hgd fun _ hK => wp_store_row ty x y ho g hx cs hy t cur hg hs hi h1 (hK _ _ h)
end rows
section ops
variable {P : Program} {ops : Array Oper} {rest : List Oper} {o : Oper} {a : Act} {w : World} {Q : Exit → Act → World → Prop}
theorem wpList_want (hgd : Region.wanted o (yielded ops a.tmps) = true) (h : ∀ K : Act → World → Prop, (∀ a w, wpList P ops Q rest a w → K a w) → o.wp P a w K Q) : wpList P ops Q (o :: rest) a w :=
  wpList_step fun K hK => by rw [if_pos hgd]; exact h K hK
/-- A zone boxed: the new world by what is known of it. -/
theorem wpList_box_zone (hgd : Region.wanted o (yielded ops a.tmps) = true) (T : TypeId) (x : Operand) (ho : o.op = .box T x) (n : Int) (b : Bool) (D : Mat) (hx : a.eval x = .agg (zc n b D))
    (h : ∀ W, ZAt T W w.heap.size n b D → Below w.heap.size w W → Hid (W.heap.size = w.heap.size + 1) → wpList P ops Q rest (a.put o.dst (.pointer (some ⟨w.heap.size, 0, none⟩))) W) : wpList P ops Q (o :: rest) a w := by
  refine wpList_want hgd fun K hK => ?_
  have h' := hK _ _ (h (w.alloc (.cells (zc n b D) T)) (ZAt.new w T n b D) ((Below.refl _ _).alloc (Nat.le_refl _) _) (by unfold Hid; simp))
  unfold Oper.wp execOp
  simp only [ho, hx, Instr.box, newVar, newRow, newObj, Value.cells, Sem.run_bind, Sem.run_pure]
  exact h'
theorem wpList_alloc_zone (hgd : Region.wanted o (yielded ops a.tmps) = true) (T : TypeId) (ho : o.op = .alloc T) (hz : (P.info? T).bind (·.zero) = some (.agg (zc 0 false fun _ _ => 0)))
    (h : ∀ W, ZAt T W w.heap.size 0 false (fun _ _ => 0) → Below w.heap.size w W → Hid (W.heap.size = w.heap.size + 1) → wpList P ops Q rest (a.put o.dst (.pointer (some ⟨w.heap.size, 0, none⟩))) W) : wpList P ops Q (o :: rest) a w := by
  refine wpList_want hgd fun K hK => ?_
  have h' := hK _ _ (h (w.alloc (.cells (zc 0 false fun _ _ => 0) T)) (ZAt.new w T 0 false _) ((Below.refl _ _).alloc (Nat.le_refl _) _) (by unfold Hid; simp))
  cases hq : P.info? T with
  | none => simp [hq] at hz
  | some i =>
    have hz' : i.zero = some (.agg (zc 0 false fun _ _ => 0)) := by simpa [hq] using hz
    have hr : (Instr.alloc T true (.tuple #[])).run P w = .ok (.pointer (some ⟨w.heap.size, 0, none⟩)) (w.alloc (.cells (zc 0 false fun _ _ => 0) T)) := by
      simp [Instr.alloc, zeroValue, typeInfo, hq, hz', newVar, newRow, newObj, Value.cells]; rfl
    unfold Oper.wp execOp
    simp only [ho, Sem.run_bind, hr, Sem.run_pure]
    exact h'
/-- An operation whose run is known. -/
theorem wpList_val (hgd : Region.wanted o (yielded ops a.tmps) = true) (v : Value) (hr : (execOp a.eval o).run P w = .ok (.value v) w) (h : wpList P ops Q rest (a.put o.dst v) w) : wpList P ops Q (o :: rest) a w := by
  refine wpList_want hgd fun K hK => ?_
  have h' := hK _ _ h
  unfold Oper.wp
  rw [hr]
  exact h'
theorem wpList_build_val (hgd : Region.wanted o (yielded ops a.tmps) = true) (T : TypeId) (ps : Array (Nat × Operand)) (ho : o.op = .build T ps) (vs : Array (Nat × Value)) (hv : ps.map (fun (i, x) => (i, a.eval x)) = vs) (v : Value)
    (hr : (Instr.build T vs).run P w = .ok v w) (h : wpList P ops Q rest (a.put o.dst v) w) : wpList P ops Q (o :: rest) a w := by
  refine wpList_val hgd v ?_ h
  unfold execOp
  simp only [ho, Sem.run_bind, hv, hr, Sem.run_pure, Result.andThen_ok]
theorem wpList_load_zone (hgd : Region.wanted o (yielded ops a.tmps) = true) (ty : TypeId) (x : Operand) (ho : o.op = .load ty x) (g : Nat) (hx : a.eval x = .pointer (some ⟨g, 0, none⟩)) (d : TypeDesc) (hu : P.underlying ty = some d)
    (hd : (match d with | .struct _ | .array _ _ => true | _ => false) = true) (hi : (P.info? ty).map (·.size) = some 51) {T : TypeId} {n : Int} {b : Bool} {D : Mat} (hz : ZAt T w g n b D)
    (h : wpList P ops Q rest (a.put o.dst (.agg (zc n b D))) w) : wpList P ops Q (o :: rest) a w :=
  wpList_want hgd fun _ hK => wp_load_row ty x ho g hx T _ _ d hz hu hd (by rw [zc_size]; exact hi) (hK _ _ h)
theorem wpList_store_zone (hgd : Region.wanted o (yielded ops a.tmps) = true) (ty : TypeId) (x y : Operand) (ho : o.op = .store ty x y) (g : Nat) (hx : a.eval x = .pointer (some ⟨g, 0, none⟩)) (n : Int) (b : Bool) (D : Mat)
    (hy : a.eval y = .agg (zc n b D)) (hi : (P.info? ty).map (·.size) = some 51) {T : TypeId} {n' : Int} {b' : Bool} {D' : Mat} (hz : ZAt T w g n' b' D')
    (h : ∀ W, ZAt T W g n b D → w.grownBy W (some g) → Hid (W.heap.size = w.heap.size) → wpList P ops Q rest (a.put o.dst undef) W) : wpList P ops Q (o :: rest) a w :=
  wpList_want hgd fun _ hK => wp_store_row ty x y ho g hx _ hy T _ hz (by simp [zc_size]) (by rw [zc_size]; exact hi) (zc_one _ _ _)
    (hK _ _ <| h _ (setRow_heap w g _ _ T _ hz) ⟨rfl, rfl, rfl, by simp, fun k _ hk => Go.setRow_other w g k _ (fun e => hk (by rw [e]))⟩ (by unfold Hid; simp))
theorem results_zone {fn : Func} {p : Tmp} {ty : TypeId} (h : fn.results = #[.cell p ty]) (tmps : Array Value) (w : World) (g : Nat) {T : TypeId} {n : Int} {b : Bool} {D : Mat} (d : TypeDesc)
    (hp : tmps.getD p undef = .pointer (some ⟨g, 0, none⟩)) (hz : ZAt T w g n b D) (hu : P.underlying ty = some d) (hd : (match d with | .struct _ | .array _ _ => true | _ => false) = true)
    (hi : (P.info? ty).map (·.size) = some 51) : (results fn tmps).run P w = .ok (.agg (zc n b D)) w :=
  results_cell_row h tmps w g T _ _ d hp hz hu hd (by rw [zc_size]; exact hi)
end ops
theorem below_only {B g : Nat} {a w W : World} (h : Below B a w) (hg : w.grownBy W (some g)) (hB : B ≤ w.heap.size) (hBg : B ≤ g) : Below B a W := h.grown hg hB (fun k hk => by injection hk with hk; omega)
theorem ZAt.only {T : TypeId} {w W : World} {k g : Nat} {n : Int} {b : Bool} {D : Mat} (h : ZAt T w k n b D) (hg : w.grownBy W (some g)) (hne : k ≠ g) : ZAt T W k n b D :=
  (hg.block k h.lt (fun e => hne (by injection e))).trans h
theorem below_setRow' {B g : Nat} {w0 w : World} (hb : Below B w0 w) (hBg : B ≤ g) (cs : Array Value) : Below B w0 (w.setRow g cs) := below_setRow hb hBg cs
theorem ZAt.setRow {T _ : TypeId} {w : World} {g : Nat} {n m : Int} {b c : Bool} {D E : Mat} (h : ZAt T w g n b D) : ZAt T (w.setRow g (zc m c E)) g m c E := setRow_heap w g _ _ T _ h
theorem ZAt.setRow_other {T : TypeId} {w : World} {g k : Nat} {n : Int} {b : Bool} {D : Mat} (h : ZAt T w g n b D) (hk : g ≠ k) (cs : Array Value) : ZAt T (w.setRow k cs) g n b D := (Go.setRow_other w k g cs hk).trans h
section
theorem only_drewN {a w : World} {row : Option Nat} (h : a.grownBy w row) (n : Nat) : a.grownBy (w.drewN n) row := ⟨h.os, h.tape, h.output, h.size, h.block⟩
theorem only_drew {a w : World} {row : Option Nat} (h : a.grownBy w row) : a.grownBy w.drew row := ⟨h.os, h.tape, h.output, h.size, h.block⟩
theorem only_alloc {a w : World} {row : Option Nat} (h : a.grownBy w row) (o : Obj) : a.grownBy (w.alloc o) row :=
  ⟨h.os, h.tape, h.output, Nat.le_trans h.size (by simp), fun i hi hne => (Below.heap_alloc w o i (Nat.lt_of_lt_of_le hi h.size)).trans (h.block i hi hne)⟩
theorem only_setCell {a w : World} {g : Nat} (h : a.grownBy w (some g)) {p : Addr} (hp : p.block = g ∨ a.heap.size ≤ p.block) (u : Value) : a.grownBy (w.setCell p u) (some g) :=
  ⟨h.os, h.tape, h.output, by simpa [World.setCell] using h.size, fun i hi hne => (Below.heap_setCell w p u i (by
    rintro rfl
    rcases hp with hp | hp
    · exact hne (by rw [hp])
    · omega)).trans (h.block i hi hne)⟩
theorem only_of_below {a w : World} (h : Below a.heap.size a w) (row : Option Nat) : a.grownBy w row := ⟨h.os, h.tape, h.output, h.size, fun i hi _ => h.block i hi⟩
end
end Go.Proofs.Ytgnkhncogfppgaa
