import Derived.WalkKit
import Derived.WalkLawsBesides
import Derived.BigQuiet
import Derived.BigRegion
import Derived.Lib.Hide
import Derived.Laws.CopyOwn
import Derived.Deep.Draws
import Derived.StillTailTactics
import Derived.Test.YtgnkhncogfppgaaBA
import Derived.Test.YtgnkhncogfppgaaProg
namespace Go.Proofs.Ytgnkhncogfppgaa
open Go.RowKit
/-- The cells of a zone: how many, none, the bounds. -/
def zc (n : Int) (b : Bool) (D : Mat) : Array Value :=
  ((List.range 51).map fun k => if k = 0 then Value.int .i64 n else if k = 1 then Value.bool b else Value.int .i64 (D ((k - 2) / 7) ((k - 2) % 7))).toArray
theorem zc_size (n : Int) (b : Bool) (D : Mat) : (zc n b D).size = 51 := by simp [zc]
theorem zc_get (n : Int) (b : Bool) (D : Mat) (k : Nat) (hk : k < 51) :
    (zc n b D)[k]? = some (if k = 0 then Value.int .i64 n else if k = 1 then Value.bool b else Value.int .i64 (D ((k - 2) / 7) ((k - 2) % 7))) := by
  simp [zc, hk]
theorem zc_n (n : Int) (b : Bool) (D : Mat) : (zc n b D)[0]? = some (.int .i64 n) := zc_get n b D 0 (by omega)
theorem zc_b (n : Int) (b : Bool) (D : Mat) : (zc n b D)[1]? = some (.bool b) := zc_get n b D 1 (by omega)
theorem zc_at (n : Int) (b : Bool) (D : Mat) (i j : Nat) (hi : i < 7) (hj : j < 7) : (zc n b D)[2 + i * 7 + j]? = some (.int .i64 (D i j)) := by
  rw [zc_get n b D _ (by omega), if_neg (by omega), if_neg (by omega)]
  have h1 : (2 + i * 7 + j - 2) / 7 = i := by omega
  have h2 : (2 + i * 7 + j - 2) % 7 = j := by omega
  rw [h1, h2]
theorem zc_ext {n : Int} {b : Bool} {c : Array Value} {D : Mat} (hs : c.size = 51) (h0 : c[0]? = some (.int .i64 n)) (h1 : c[1]? = some (.bool b))
    (h : ∀ i j, i < 7 → j < 7 → c[2 + i * 7 + j]? = some (.int .i64 (D i j))) : c = zc n b D := by
  apply Array.ext_getElem?
  intro k
  by_cases hk : k < 51
  · by_cases hk0 : k = 0
    · subst hk0; rw [h0, zc_n]
    · by_cases hk1 : k = 1
      · subst hk1; rw [h1, zc_b]
      · have e : k = 2 + ((k - 2) / 7) * 7 + (k - 2) % 7 := by omega
        rw [e, h _ _ (by omega) (by omega), zc_at _ _ _ _ _ (by omega) (by omega)]
  · rw [Array.getElem?_eq_none (by omega), Array.getElem?_eq_none (by rw [zc_size]; omega)]
theorem zc_congr {n : Int} {b : Bool} {D E : Mat} (h : ∀ i j, i < 7 → j < 7 → D i j = E i j) : zc n b D = zc n b E :=
  zc_ext (zc_size _ _ _) (zc_n _ _ _) (zc_b _ _ _) fun i j hi hj => by rw [zc_at _ _ _ _ _ hi hj, h i j hi hj]
theorem zc_set (n : Int) (b : Bool) (D : Mat) (i j : Nat) (v : Int) (hi : i < 7) (hj : j < 7) :
    (zc n b D).setIfInBounds (2 + i * 7 + j) (.int .i64 v) = zc n b (upd D i j v) := by
  apply zc_ext
  · simp [zc_size]
  · rw [Array.getElem?_setIfInBounds, if_neg (by omega), zc_n]
  · rw [Array.getElem?_setIfInBounds, if_neg (by omega), zc_b]
  · intro a c ha hc
    rw [Array.getElem?_setIfInBounds]
    by_cases h : a = i ∧ c = j
    · obtain ⟨rfl, rfl⟩ := h
      rw [if_pos rfl, upd_same]; simp [zc_size]; omega
    · rw [if_neg (by omega), zc_at _ _ _ _ _ ha hc, upd_ne _ _ _ _ h]
theorem zc_inj {n m : Int} {b c : Bool} {D E : Mat} (h : zc n b D = zc m c E) : n = m ∧ b = c ∧ ∀ i j, i < 7 → j < 7 → D i j = E i j := by
  have h0 := zc_n n b D; have h1 := zc_b n b D
  rw [h, zc_n] at h0; rw [h, zc_b] at h1
  refine ⟨by simpa using h0.symm, by simpa using h1.symm, fun i j hi hj => ?_⟩
  have h2 := zc_at n b D i j hi hj
  rw [h, zc_at _ _ _ _ _ hi hj] at h2
  simpa using h2.symm
theorem zc_one (n : Int) (b : Bool) (D : Mat) : ∀ v ∈ (zc n b D).toList, v.oneCell' = true := by
  intro v hv
  simp only [zc, List.mem_map] at hv
  obtain ⟨k, _, rfl⟩ := hv
  split
  · rfl
  · split <;> rfl
/-- Block g of w holds a zone (as a variable of type T). -/
def ZAt (T : TypeId) (w : World) (g : Nat) (n : Int) (b : Bool) (D : Mat) : Prop := w.heap[g]? = some (.cells (zc n b D) T (0, 0))
section
variable {T : TypeId} {w : World} {g : Nat} {n : Int} {b : Bool} {D : Mat}
theorem ZAt.lt (h : ZAt T w g n b D) : g < w.heap.size := (Array.getElem?_eq_some_iff.1 h).1
theorem ZAt.n_cell (h : ZAt T w g n b D) : w.cell? ⟨g, 0, none⟩ = some (.int .i64 n) := by rw [cell_of_row w g 0 _ T _ h, zc_n]
theorem ZAt.b_cell (h : ZAt T w g n b D) : w.cell? ⟨g, 1, none⟩ = some (.bool b) := by rw [cell_of_row w g 1 _ T _ h, zc_b]
theorem ZAt.cell (h : ZAt T w g n b D) (i j : Nat) (hi : i < 7) (hj : j < 7) : w.cell? ⟨g, 2 + i * 7 + j, none⟩ = some (.int .i64 (D i j)) := by
  rw [cell_of_row w g _ _ T _ h, zc_at _ _ _ _ _ hi hj]
theorem ZAt.frozen (h : ZAt T w g n b D) (k : Nat) : w.frozen? ⟨g, k, none⟩ = false := frozen_of_row w g k _ T h
theorem ZAt.set (h : ZAt T w g n b D) (i j : Nat) (v : Int) (hi : i < 7) (hj : j < 7) : ZAt T (w.setCell ⟨g, 2 + i * 7 + j, none⟩ (.int .i64 v)) g n b (upd D i j v) := by
  unfold ZAt; rw [heap_setCell_same w g _ _ T _ h, zc_set _ _ _ _ _ _ hi hj]
theorem ZAt.drew (h : ZAt T w g n b D) : ZAt T w.drew g n b D := h
theorem ZAt.drewN (h : ZAt T w g n b D) (k : Nat) : ZAt T (w.drewN k) g n b D := h
theorem ZAt.set_other (h : ZAt T w g n b D) {a : Addr} (ha : a.block ≠ g) (v : Value) : ZAt T (w.setCell a v) g n b D := by
  unfold ZAt; rw [heap_setCell_other w a g v (Ne.symm ha)]; exact h
theorem ZAt.below (h : ZAt T w g n b D) {w' : World} {B : Nat} (hb : Below B w w') (hg : g < B) : ZAt T w' g n b D := (hb.block g hg).trans h
theorem ZAt.alloc (h : ZAt T w g n b D) (o : Obj) : ZAt T (w.alloc o) g n b D := (Below.heap_alloc w o g h.lt).trans h
theorem ZAt.new (w : World) (T : TypeId) (n : Int) (b : Bool) (D : Mat) : ZAt T (w.alloc (.cells (zc n b D) T)) w.heap.size n b D := Go.heap_alloc_new w _
theorem ZAt.congr (h : ZAt T w g n b D) {E : Mat} (he : ∀ i j, i < 7 → j < 7 → D i j = E i j) : ZAt T w g n b E := by
  unfold ZAt; rw [← zc_congr he]; exact h
end
@[go_sem high] theorem run_min_mn {P : Program} (w : World) (ts : Array TypeId) (t : TypeId) (k k' : IntKind) (x y : Int) : (Builtin.min_ ts t #[.int k x, .int k' y]).run P w = .ok (.int k (mn x y)) w := run_min_int2 w ts t k k' x y
@[go_sem high] theorem run_max_mx {P : Program} (w : World) (ts : Array TypeId) (t : TypeId) (k k' : IntKind) (x y : Int) : (Builtin.max_ ts t #[.int k x, .int k' y]).run P w = .ok (.int k (mx x y)) w := run_max_int2 w ts t k k' x y
theorem wrap64_w64 (x : Int) : wrap64 x = w64 x := by unfold wrap64 w64; rfl
theorem below_drewN {B : Nat} {a w : World} (h : Below B a w) (n : Nat) : Below B a (w.drewN n) := ⟨h.os, h.tape, h.output, h.size, h.block⟩
section rows
variable {P : Program}
/-- A whole row stored into a variable. -/
theorem run_storeVar_row (w : World) (g : Nat) (t ty : TypeId) (cur cs : Array Value) (hg : w.heap[g]? = some (.cells cur t (0, 0))) (hs : cs.size = cur.size)
    (hi : (P.info? ty).map (·.size) = some cs.size) (h1 : ∀ v ∈ cs.toList, v.oneCell' = true) :
    (storeVar ty ⟨g, 0, none⟩ (.agg cs)).run P w = .ok () (w.setRow g cs) := by
  cases hq : P.info? ty with
  | none => simp [hq] at hi
  | some i =>
    have hz : i.size = cs.size := by simpa [hq] using hi
    have h := run_storeCells_at P g 0 t cs.toList 0 cur w hg (by simp [hs]) h1
    have e : (cur.toList.take (0 + 0) ++ cs.toList ++ cur.toList.drop (0 + 0 + cs.toList.length)).toArray = cs := by
      have hd : cur.toList.drop (0 + 0 + cs.toList.length) = [] := by apply List.drop_eq_nil_of_le; simp [hs]
      rw [hd]; simp
    rw [e] at h
    simp [storeVar, Sem.run_bind, sizeOf, typeInfo, hq, hz, Value.cells, h]
theorem wp_store_row {o : Oper} {a : Act} {w : World} {K : Act → World → Prop} {Q : Exit → Act → World → Prop} (ty : TypeId) (x y : Operand) (ho : o.op = .store ty x y)
    (g : Nat) (hx : a.eval x = .pointer (some ⟨g, 0, none⟩)) (cs : Array Value) (hy : a.eval y = .agg cs) (t : TypeId) (cur : Array Value) (hg : w.heap[g]? = some (.cells cur t (0, 0)))
    (hs : cs.size = cur.size) (hi : (P.info? ty).map (·.size) = some cs.size) (h1 : ∀ v ∈ cs.toList, v.oneCell' = true)
    (h : K (a.put o.dst undef) (w.setRow g cs)) : o.wp P a w K Q := by
  unfold Oper.wp execOp
  simp only [ho, hx, hy, Instr.storeAt, Instr.sureAddr, Sem.run_bind, Sem.run_pure, Result.andThen_ok, run_storeVar_row w g t ty cur cs hg hs hi h1]
  exact h
theorem wpList_store_row {ops : Array Oper} {rest : List Oper} {o : Oper} {a : Act} {w : World} {Q : Exit → Act → World → Prop} (hgd : o.guard = none) (ty : TypeId) (x y : Operand) (ho : o.op = .store ty x y)
    (g : Nat) (hx : a.eval x = .pointer (some ⟨g, 0, none⟩)) (cs : Array Value) (hy : a.eval y = .agg cs) (t : TypeId) (cur : Array Value) (hg : w.heap[g]? = some (.cells cur t (0, 0)))
    (hs : cs.size = cur.size) (hi : (P.info? ty).map (·.size) = some cs.size) (h1 : ∀ v ∈ cs.toList, v.oneCell' = true)
    (h : wpList P ops Q rest (a.put o.dst undef) (w.setRow g cs)) : wpList P ops Q (o :: rest) a w :=
  wpList_plain hgd fun _ hK => wp_store_row ty x y ho g hx cs hy t cur hg hs hi h1 (hK _ _ h)
end rows
section ops
variable {P : Program} {ops : Array Oper} {rest : List Oper} {o : Oper} {a : Act} {w : World} {Q : Exit → Act → World → Prop}
theorem wpList_want (hgd : Region.wanted o (yielded ops a.tmps) = true) (h : ∀ K : Act → World → Prop, (∀ a w, wpList P ops Q rest a w → K a w) → o.wp P a w K Q) : wpList P ops Q (o :: rest) a w :=
  wpList_step fun K hK => by rw [if_pos hgd]; exact h K hK
/-- A zone boxed: the new world by what is known of it. -/
theorem wpList_box_zone (hgd : Region.wanted o (yielded ops a.tmps) = true) (T : TypeId) (x : Operand) (ho : o.op = .box T x) (n : Int) (b : Bool) (D : Mat) (hx : a.eval x = .agg (zc n b D))
    (h : ∀ W, ZAt T W w.heap.size n b D → Below w.heap.size w W → Hid (W.heap.size = w.heap.size + 1) → wpList P ops Q rest (a.put o.dst (.pointer (some ⟨w.heap.size, 0, none⟩))) W) : wpList P ops Q (o :: rest) a w := by
  refine wpList_want hgd fun K hK => ?_
  have h' := hK _ _ (h (w.alloc (.cells (zc n b D) T)) (ZAt.new w T n b D) ((Below.refl _ _).alloc (Nat.le_refl _) _) (by unfold Hid; simp))
  unfold Oper.wp execOp
  simp only [ho, hx, Instr.box, newVar, newRow, newObj, Value.cells, Sem.run_bind, Sem.run_pure]
  exact h'
theorem wpList_alloc_zone (hgd : Region.wanted o (yielded ops a.tmps) = true) (T : TypeId) (ho : o.op = .alloc T) (hz : (P.info? T).bind (·.zero) = some (.agg (zc 0 false fun _ _ => 0)))
    (h : ∀ W, ZAt T W w.heap.size 0 false (fun _ _ => 0) → Below w.heap.size w W → Hid (W.heap.size = w.heap.size + 1) → wpList P ops Q rest (a.put o.dst (.pointer (some ⟨w.heap.size, 0, none⟩))) W) : wpList P ops Q (o :: rest) a w := by
  refine wpList_want hgd fun K hK => ?_
  have h' := hK _ _ (h (w.alloc (.cells (zc 0 false fun _ _ => 0) T)) (ZAt.new w T 0 false _) ((Below.refl _ _).alloc (Nat.le_refl _) _) (by unfold Hid; simp))
  cases hq : P.info? T with
  | none => simp [hq] at hz
  | some i =>
    have hz' : i.zero = some (.agg (zc 0 false fun _ _ => 0)) := by simpa [hq] using hz
    have hr : (Instr.alloc T true (.tuple #[])).run P w = .ok (.pointer (some ⟨w.heap.size, 0, none⟩)) (w.alloc (.cells (zc 0 false fun _ _ => 0) T)) := by
      simp [Instr.alloc, zeroValue, typeInfo, hq, hz', newVar, newRow, newObj, Value.cells]; rfl
    unfold Oper.wp execOp
    simp only [ho, Sem.run_bind, hr, Sem.run_pure]
    exact h'
/-- An operation whose run is known. -/
theorem wpList_val (hgd : Region.wanted o (yielded ops a.tmps) = true) (v : Value) (hr : (execOp a.eval o).run P w = .ok (.value v) w) (h : wpList P ops Q rest (a.put o.dst v) w) : wpList P ops Q (o :: rest) a w := by
  refine wpList_want hgd fun K hK => ?_
  have h' := hK _ _ h
  unfold Oper.wp
  rw [hr]
  exact h'
theorem wpList_build_val (hgd : Region.wanted o (yielded ops a.tmps) = true) (T : TypeId) (ps : Array (Nat × Operand)) (ho : o.op = .build T ps) (vs : Array (Nat × Value)) (hv : ps.map (fun (i, x) => (i, a.eval x)) = vs) (v : Value)
    (hr : (Instr.build T vs).run P w = .ok v w) (h : wpList P ops Q rest (a.put o.dst v) w) : wpList P ops Q (o :: rest) a w := by
  refine wpList_val hgd v ?_ h
  unfold execOp
  simp only [ho, Sem.run_bind, hv, hr, Sem.run_pure, Result.andThen_ok]
theorem wpList_load_zone (hgd : Region.wanted o (yielded ops a.tmps) = true) (ty : TypeId) (x : Operand) (ho : o.op = .load ty x) (g : Nat) (hx : a.eval x = .pointer (some ⟨g, 0, none⟩)) (d : TypeDesc) (hu : P.underlying ty = some d)
    (hd : (match d with | .struct _ | .array _ _ => true | _ => false) = true) (hi : (P.info? ty).map (·.size) = some 51) {T : TypeId} {n : Int} {b : Bool} {D : Mat} (hz : ZAt T w g n b D)
    (h : wpList P ops Q rest (a.put o.dst (.agg (zc n b D))) w) : wpList P ops Q (o :: rest) a w :=
  wpList_want hgd fun _ hK => wp_load_row ty x ho g hx T _ _ d hz hu hd (by rw [zc_size]; exact hi) (hK _ _ h)
theorem wpList_store_zone (hgd : Region.wanted o (yielded ops a.tmps) = true) (ty : TypeId) (x y : Operand) (ho : o.op = .store ty x y) (g : Nat) (hx : a.eval x = .pointer (some ⟨g, 0, none⟩)) (n : Int) (b : Bool) (D : Mat)
    (hy : a.eval y = .agg (zc n b D)) (hi : (P.info? ty).map (·.size) = some 51) {T : TypeId} {n' : Int} {b' : Bool} {D' : Mat} (hz : ZAt T w g n' b' D')
    (h : ∀ W, ZAt T W g n b D → w.grownBy W (some g) → Hid (W.heap.size = w.heap.size) → wpList P ops Q rest (a.put o.dst undef) W) : wpList P ops Q (o :: rest) a w :=
  wpList_want hgd fun _ hK => wp_store_row ty x y ho g hx _ hy T _ hz (by simp [zc_size]) (by rw [zc_size]; exact hi) (zc_one _ _ _)
    (hK _ _ <| h _ (setRow_heap w g _ _ T _ hz) ⟨rfl, rfl, rfl, by simp, fun k _ hk => Go.setRow_other w g k _ (fun e => hk (by rw [e]))⟩ (by unfold Hid; simp))
theorem results_zone {fn : Func} {p : Tmp} {ty : TypeId} (h : fn.results = #[.cell p ty]) (tmps : Array Value) (w : World) (g : Nat) {T : TypeId} {n : Int} {b : Bool} {D : Mat} (d : TypeDesc)
    (hp : tmps.getD p undef = .pointer (some ⟨g, 0, none⟩)) (hz : ZAt T w g n b D) (hu : P.underlying ty = some d) (hd : (match d with | .struct _ | .array _ _ => true | _ => false) = true)
    (hi : (P.info? ty).map (·.size) = some 51) : (results fn tmps).run P w = .ok (.agg (zc n b D)) w :=
  results_cell_row h tmps w g T _ _ d hp hz hu hd (by rw [zc_size]; exact hi)
end ops
theorem below_only {B g : Nat} {a w W : World} (h : Below B a w) (hg : w.grownBy W (some g)) (hB : B ≤ w.heap.size) (hBg : B ≤ g) : Below B a W := h.grown hg hB (fun k hk => by injection hk with hk; omega)
theorem ZAt.only {T : TypeId} {w W : World} {k g : Nat} {n : Int} {b : Bool} {D : Mat} (h : ZAt T w k n b D) (hg : w.grownBy W (some g)) (hne : k ≠ g) : ZAt T W k n b D :=
  (hg.block k h.lt (fun e => hne (by injection e))).trans h
theorem below_setRow' {B g : Nat} {w0 w : World} (hb : Below B w0 w) (hBg : B ≤ g) (cs : Array Value) : Below B w0 (w.setRow g cs) := below_setRow hb hBg cs
theorem ZAt.setRow {T _ : TypeId} {w : World} {g : Nat} {n m : Int} {b c : Bool} {D E : Mat} (h : ZAt T w g n b D) : ZAt T (w.setRow g (zc m c E)) g m c E := setRow_heap w g _ _ T _ h
theorem ZAt.setRow_other {T : TypeId} {w : World} {g k : Nat} {n : Int} {b : Bool} {D : Mat} (h : ZAt T w g n b D) (hk : g ≠ k) (cs : Array Value) : ZAt T (w.setRow k cs) g n b D := (Go.setRow_other w k g cs hk).trans h
section
theorem only_drewN {a w : World} {row : Option Nat} (h : a.grownBy w row) (n : Nat) : a.grownBy (w.drewN n) row := ⟨h.os, h.tape, h.output, h.size, h.block⟩
theorem only_drew {a w : World} {row : Option Nat} (h : a.grownBy w row) : a.grownBy w.drew row := ⟨h.os, h.tape, h.output, h.size, h.block⟩
theorem only_alloc {a w : World} {row : Option Nat} (h : a.grownBy w row) (o : Obj) : a.grownBy (w.alloc o) row :=
  ⟨h.os, h.tape, h.output, Nat.le_trans h.size (by simp), fun i hi hne => (Below.heap_alloc w o i (Nat.lt_of_lt_of_le hi h.size)).trans (h.block i hi hne)⟩
theorem only_setCell {a w : World} {g : Nat} (h : a.grownBy w (some g)) {p : Addr} (hp : p.block = g ∨ a.heap.size ≤ p.block) (u : Value) : a.grownBy (w.setCell p u) (some g) :=
  ⟨h.os, h.tape, h.output, by simpa [World.setCell] using h.size, fun i hi hne => (Below.heap_setCell w p u i (by
    rintro rfl
    rcases hp with hp | hp
    · exact hne (by rw [hp])
    · omega)).trans (h.block i hi hne)⟩
theorem only_of_below {a w : World} (h : Below a.heap.size a w) (row : Option Nat) : a.grownBy w row := ⟨h.os, h.tape, h.output, h.size, fun i hi _ => h.block i hi⟩
end
end Go.Proofs.Ytgnkhncogfppgaa

namespace Go.Proofs.Ytgnkhncogfppgaa
open Go.RowKit
def cntB (n : Int) : Bool := decide (0 ≤ n ∧ n ≤ 6)
theorem count_any (n : Int) (w : World) : Calls Try.prog 85 #[.int .i64 n] w fun e w' => e = .returned (.bool (cntB n)) ∧ w = w' := by
  by_cases h0 : 0 ≤ n
  · by_cases h6 : n ≤ 6
    all_goals
      go_enter Try.func85, Try.ntmps85
      go_wp2
      go_ret
      exact ⟨by simp [cntB]; omega, rfl⟩
  · go_enter Try.func85, Try.ntmps85
    go_wp2
    go_ret
    exact ⟨by simp [cntB]; omega, rfl⟩
theorem count_yes (n : Nat) (hn : n ≤ 6) (w : World) : Calls Try.prog 85 #[.int .i64 n] w fun e w' => e = .returned (.bool true) ∧ w = w' :=
  (count_any n w).mono fun _ _ ⟨h, h'⟩ => ⟨by rw [h, show cntB n = true by simp [cntB]; omega], h'⟩
theorem zz : (Try.prog.info? 26).bind (·.zero) = some (.agg (zc 0 false fun _ _ => 0)) := by kernel_rfl
theorem zsz : (Try.prog.info? 26).map (·.size) = some 51 := by kernel_rfl
theorem build_nb (n : Int) (b : Bool) (w : World) : (Instr.build 26 #[(0, .int .i64 n), (1, .bool b)]).run Try.prog w = .ok (.agg (zc n b zeroM)) w := by kernel_rfl
theorem build_n (n : Int) (w : World) : (Instr.build 26 #[(0, .int .i64 n)]).run Try.prog w = .ok (.agg (zc n false zeroM)) w := by kernel_rfl
section
variable {fn : Func} {p : Tmp} {tmps : Array Value} {w : World} {g : Nat} {T : TypeId} {n : Int} {b : Bool} {D : Mat}
/-- A result that is a zone in a variable. -/
theorem results_z (h : fn.results = #[.cell p 26]) (hp : tmps.getD p undef = .pointer (some ⟨g, 0, none⟩)) (hz : ZAt T w g n b D) : (results fn tmps).run Try.prog w = .ok (.agg (zc n b D)) w :=
  results_zone h tmps w g _ hp hz Try.underlying26 rfl zsz
variable {ops : Array Oper} {rest : List Oper} {o : Oper} {a : Act} {Q : Exit → Act → World → Prop}
theorem load_z (hgd : Region.wanted o (yielded ops a.tmps) = true) (x : Operand) (ho : o.op = .load 26 x) (hx : a.eval x = .pointer (some ⟨g, 0, none⟩)) (hz : ZAt T w g n b D)
    (h : wpList Try.prog ops Q rest (a.put o.dst (.agg (zc n b D))) w) : wpList Try.prog ops Q (o :: rest) a w :=
  wpList_load_zone hgd 26 x ho g hx _ Try.underlying26 rfl zsz hz h
theorem store_z (hgd : Region.wanted o (yielded ops a.tmps) = true) (x y : Operand) (ho : o.op = .store 26 x y) (hx : a.eval x = .pointer (some ⟨g, 0, none⟩)) {m : Int} {c : Bool} {E : Mat}
    (hy : a.eval y = .agg (zc m c E)) (hz : ZAt T w g n b D)
    (h : ∀ W, ZAt T W g m c E → w.grownBy W (some g) → Hid (W.heap.size = w.heap.size) → wpList Try.prog ops Q rest (a.put o.dst undef) W) : wpList Try.prog ops Q (o :: rest) a w :=
  wpList_store_zone hgd 26 x y ho g hx _ _ _ hy zsz hz h
end
end Go.Proofs.Ytgnkhncogfppgaa

namespace Go.Proofs.Ytgnkhncogfppgaa
open Go.RowKit
set_option maxHeartbeats 400000 in
theorem own_any (g n : Nat) (hn : n ≤ 6) (b : Bool) (D : Mat) (w : World) (hz : ZAt 26 w g n b D) :
    Calls Try.prog 106 #[.pointer (some ⟨g, 0, none⟩)] w fun e w' => e = .returned (.tuple #[]) ∧ w.grownBy w' (some g) ∧ ZAt 26 w' g n b (ownF n D) := by
  have hZ := Lib.hid hz
  clear hz
  go_enter Try.func106, Try.ntmps106
  go_wp2
  go_loopw [2] (fun i wr => ∃ k : Nat, k ≤ n ∧ i = .int .i64 ((k : Int) + 1) ∧ w.grownBy wr (some g) ∧ Hid (ZAt 26 wr g n b (ownF k D))) (fun i _ => n + 1 - (intOf i).toNat)
  case atStart => exact ⟨0, Nat.zero_le _, rfl, .refl _ _, hZ⟩
  case round =>
    obtain ⟨k, hk, rfl, hgr, hZr⟩ := hrel
    have hc := hZr.out.n_cell
    by_cases hlt : k < n
    · have c1 := hZr.out.cell (k + 1) 0 (by omega) (by omega)
      have f1 := hZr.out.frozen (2 + (k + 1) * 7)
      have s1 := Lib.hid (hZr.out.set (k + 1) 0 (mn (ownF k D (k + 1) 0) 2147483647) (by omega) (by omega)).drew
      have g1 := Lib.hid (only_drew (only_setCell (p := ⟨g, 2 + (k + 1) * 7, none⟩) hgr (.inl rfl) (.int .i64 (mn (ownF k D (k + 1) 0) 2147483647))))
      clear hgr
      simp only [Nat.add_zero] at c1 s1
      go_wp2
      go_region
      generalize (wr.setCell { block := g, off := 2 + (k + 1) * 7 } (Value.int IntKind.i64 (mn (ownF k D (k + 1) 0) 2147483647))).drew = w2 at *
      have c2 := s1.out.cell 0 (k + 1) (by omega) (by omega)
      have f2 := s1.out.frozen (2 + (k + 1))
      simp only [Nat.zero_mul, Nat.add_zero] at c2
      obtain ⟨v, hv⟩ : ∃ v, v = upd (ownF k D) (k + 1) 0 (mn (ownF k D (k + 1) 0) 2147483647) 0 (k + 1) := ⟨_, rfl⟩
      have s2 := Lib.hid (s1.out.set 0 (k + 1) (mn v 2147483648) (by omega) (by omega)).drew
      have g2 := Lib.hid (only_drew (only_setCell (p := ⟨g, 2 + (k + 1), none⟩) g1.out (.inl rfl) (.int .i64 (mn v 2147483648))))
      rw [← hv] at c2
      have hV := Lib.hid hv
      clear hv
      simp only [Nat.zero_mul, Nat.add_zero] at s2
      go_wp2
      go_region
      generalize (w2.setCell { block := g, off := 2 + (k + 1) } (Value.int IntKind.i64 (mn v 2147483648))).drew = w3 at *
      go_wp2
      go_roundw
      case rel => exact ⟨k + 1, by omega, by go_num, g2.out, by rw [hV.out] at s2; exact s2⟩
      case measure => simp [intOf]; omega
    · go_wp2
      go_end0
      obtain rfl : k = n := by omega
      exact ⟨rfl, hgr, hZr.out⟩
end Go.Proofs.Ytgnkhncogfppgaa

namespace Go.Proofs.Ytgnkhncogfppgaa
open Go.RowKit
theorem none_any (n : Int) (w : World) : Calls Try.prog 107 #[.int .i64 n] w fun e w' => e = .returned (.agg (zc n true zeroM)) ∧ Below w.heap.size w w' := by
  go_enter Try.func107, Try.ntmps107
  go_wp2_with (first
    | (refine wpList_alloc_zone rfl 26 rfl zz ?_; intro W1 hz1 hb1 hs1)
    | (refine wpList_build_val rfl 26 _ rfl #[(0, .int .i64 n), (1, .bool true)] (by simp [Act.eval]) _ (build_nb n true _) ?_)
    | (refine store_z rfl _ _ rfl rfl rfl hz1 ?_; intro W2 hz2 hg2 hs2))
  exact bodyPost_ret (results_z rfl (by simp [Act.put]) hz2) rfl ⟨rfl, below_only hb1 hg2 hb1.size (Nat.le_refl _)⟩
def closeC (n : Nat) (D : Mat) : Array Value :=
  if negB n (fwK n (n + 1) (ownF n D)) then zc n true zeroM else zc n false (fwK n (n + 1) (ownF n D))
set_option maxHeartbeats 1000000 in
theorem close_yes (n : Nat) (hn : n ≤ 6) (D : Mat) (w : World) :
    Calls Try.prog 77 #[.agg (zc n false D)] w fun e w' => e = .returned (.agg (closeC n D)) ∧ Below w.heap.size w w' := by
  go_enter Try.func77, Try.ntmps77
  go_wp2_with (first
    | (refine wpList_box_zone rfl 26 _ rfl _ _ _ rfl ?_; intro W hz hb hs; have hnc := hz.n_cell; have hbc := hz.b_cell)
    | (refine wpList_alloc_zone rfl 26 rfl zz ?_; intro W1 hz1 hb1 hs1; rw [hs.out] at hz1 hb1 hs1; have hz := hz.below hb1 (by omega); have hnc := hz.n_cell; have hbc := hz.b_cell; have hb := hb.trans (hb1.mono (by omega)); rw [hs.out]; clear hs)
    | (go_at_call 85; refine (count_yes n hn _).mono ?_; rintro e w' ⟨rfl, rfl⟩)
    | (go_at_call 106; refine (own_any _ n hn false D _ hz).mono ?_; rintro e W2 ⟨rfl, hg2, hz2⟩; have hz1' := hz1.only hg2 (by omega); have hb2 := below_only hb hg2 hb.size (Nat.le_refl _); clear hz hb hg2 hnc hbc hb1 hz1)
    | fail)
  have HZ2 := Lib.hid hz2
  have HZ1 := Lib.hid hz1'
  clear hz2 hz1'
  go_loopw [3] (fun i wr => ∃ k : Nat, k ≤ n + 1 ∧ i = .int .i64 (k : Int) ∧ Below w.heap.size w wr ∧ Hid (ZAt 26 wr w.heap.size n false (fwK n k (ownF n D))) ∧ Hid (ZAt 26 wr (w.heap.size + 1) 0 false zeroM)) (fun i _ => n + 2 - (intOf i).toNat)
  case atStart => exact ⟨0, Nat.zero_le _, rfl, hb2, HZ2, HZ1⟩
  case round =>
    clear hb2 HZ2 HZ1
    obtain ⟨k, hk, rfl, hb, hz, hz1⟩ := hrel
    have hnc := hz.out.n_cell
    by_cases hlt : k ≤ n
    · go_wp2
      go_loopw [4] (fun i wr => ∃ i' : Nat, i' ≤ n + 1 ∧ i = .int .i64 (i' : Int) ∧ Below w.heap.size w wr ∧ Hid (ZAt 26 wr w.heap.size n false (fwI n k i' (fwK n k (ownF n D)))) ∧ Hid (ZAt 26 wr (w.heap.size + 1) 0 false zeroM)) (fun i _ => n + 2 - (intOf i).toNat)
      case atStart => exact ⟨0, Nat.zero_le _, rfl, hb, hz, hz1⟩
      case round =>
        clear hb hz hz1 hnc
        obtain ⟨i, hi, rfl, hb, hz, hz1⟩ := hrel
        have hnc := hz.out.n_cell
        by_cases hli : i ≤ n
        · go_wp2
          go_loopw [5] (fun i_ wr => ∃ j : Nat, j ≤ n + 1 ∧ i_ = .int .i64 (j : Int) ∧ Below w.heap.size w wr ∧ Hid (ZAt 26 wr w.heap.size n false (fwJ k i j (fwI n k i (fwK n k (ownF n D))))) ∧ Hid (ZAt 26 wr (w.heap.size + 1) 0 false zeroM)) (fun i _ => n + 2 - (intOf i).toNat)
          case atStart => exact ⟨0, Nat.zero_le _, rfl, hb, hz, hz1⟩
          case round =>
            clear hb hz hz1 hnc
            obtain ⟨j, hj, rfl, hb, hz, hz1⟩ := hrel
            have hnc := hz.out.n_cell
            by_cases hlj : j ≤ n
            · obtain ⟨S, hS⟩ : ∃ S, S = fwJ k i j (fwI n k i (fwK n k (ownF n D))) := ⟨_, rfl⟩
              rw [← hS] at hz
              have HS := Lib.hid hS
              clear hS
              have c1 := hz.out.cell i j (by omega) (by omega)
              have c2 := hz.out.cell i k (by omega) (by omega)
              have c3 := hz.out.cell k j (by omega) (by omega)
              have f1 := hz.out.frozen (2 + i * 7 + j)
              have s1 := Lib.hid (hz.out.set i j (mn (S i j) (wrap64 (S i k + S k j))) (by omega) (by omega)).drew
              have s2 := Lib.hid (hz1.out.set_other (a := ⟨w.heap.size, 2 + i * 7 + j, none⟩) (by simp) (.int .i64 (mn (S i j) (wrap64 (S i k + S k j))))).drew
              have s3 := Lib.hid ((hb.setCell (p := ⟨w.heap.size, 2 + i * 7 + j, none⟩) (Nat.le_refl _) (.int .i64 (mn (S i j) (wrap64 (S i k + S k j))))).drew)
              clear hb hz1
              go_wp2
              go_region
              generalize (wr.setCell { block := w.heap.size, off := 2 + i * 7 + j } (Value.int IntKind.i64 (mn (S i j) (wrap64 (S i k + S k j))))).drew = w3 at *
              go_wp2
              go_roundw
              case rel => exact ⟨j + 1, by omega, by go_num, s3.out, by rw [wrap64_w64, HS.out] at s1; exact s1, s2⟩
              case measure => simp [intOf]; omega
            · obtain rfl : j = n + 1 := by omega
              go_wp2
              go_roundw
              case rel => exact ⟨i + 1, by omega, by go_num, hb, hz, hz1⟩
              case measure => simp [intOf]; omega
        · obtain rfl : i = n + 1 := by omega
          go_wp2
          go_roundw
          case rel => exact ⟨k + 1, by omega, by go_num, hb, hz, hz1⟩
          case measure => simp [intOf]; omega
    · obtain rfl : k = n + 1 := by omega
      go_wp2
      obtain ⟨F, hF⟩ : ∃ F, F = fwK n (n + 1) (ownF n D) := ⟨_, rfl⟩
      rw [← hF] at hz
      have HF := Lib.hid hF
      clear hF
      go_loopw [6] (fun i wr => ∃ i' : Nat, i' ≤ n + 1 ∧ i = .int .i64 (i' : Int) ∧ Hid (∀ m, m < i' → ¬ F m m < 0) ∧ Below w.heap.size w wr ∧ Hid (ZAt 26 wr w.heap.size n false F) ∧ Hid (ZAt 26 wr (w.heap.size + 1) 0 false zeroM)) (fun i _ => n + 2 - (intOf i).toNat)
      case atStart => exact ⟨0, Nat.zero_le _, rfl, (fun m hm => absurd hm (Nat.not_lt_zero _)), hb, hz, hz1⟩
      case round =>
        clear hb hz hz1 hnc
        obtain ⟨i, hi, rfl, hall, hb, hz, hz1⟩ := hrel
        have hnc := hz.out.n_cell
        by_cases hli : i ≤ n
        · have c1 := hz.out.cell i i (by omega) (by omega)
          by_cases hneg : F i i < 0
          · go_wp2_with (first
              | (go_at_call 107; refine (none_any _ _).mono ?_; rintro e W3 ⟨rfl, hb3⟩; have hz2 := hz1.out.below hb3 hz1.out.lt; have hb4 := hb.trans (hb3.mono hb.size))
              | (refine store_z rfl _ _ rfl rfl rfl hz2 ?_; intro W4 hz4 hg4 hs4)
              | fail)
            have hne : negB n (fwK n (n + 1) (ownF n D)) = true := by
              rw [← HF.out]; simp only [negB, List.any_eq_true, List.mem_range, decide_eq_true_eq]; exact ⟨i, by omega, hneg⟩
            have hfin : closeC n D = zc n true zeroM := by unfold closeC; rw [if_pos hne]
            exact bodyPost_ret (results_z rfl (by simp [Act.put]) hz4) rfl ⟨by rw [hfin], below_only hb4 hg4 hb4.size (by omega)⟩
          · go_wp2
            go_roundw
            case rel => exact ⟨i + 1, by omega, by go_num, (fun m hm => by by_cases h : m = i; · rw [h]; exact hneg
                                                                           · exact hall.out m (by omega)), hb, hz, hz1⟩
            case measure => simp [intOf]; omega
        · obtain rfl : i = n + 1 := by omega
          go_wp2_with (first
            | (refine load_z rfl _ rfl rfl hz.out ?_)
            | (refine store_z rfl _ _ rfl rfl rfl hz1.out ?_; intro W4 hz4 hg4 hs4)
            | fail)
          have hne : ¬ negB n (fwK n (n + 1) (ownF n D)) = true := by
            rw [← HF.out]; simp only [negB, List.any_eq_true, List.mem_range, decide_eq_true_eq]; rintro ⟨i, h1, h2⟩; have := hall.out i h1; omega
          have hfin : closeC n D = zc n false F := by unfold closeC; rw [if_neg hne, HF.out]
          exact bodyPost_ret (results_z rfl (by simp []) hz4) rfl ⟨by rw [hfin], below_only hb hg4 hb.size (by omega)⟩
end Go.Proofs.Ytgnkhncogfppgaa

namespace Go.Proofs.Ytgnkhncogfppgaa
open Go.RowKit
/-- Block g of w holds these cells. -/
def RowAt (T : TypeId) (w : World) (g : Nat) (cs : Array Value) : Prop := w.heap[g]? = some (.cells cs T (0, 0))
section
variable {T : TypeId} {w : World} {g : Nat} {cs : Array Value}
theorem RowAt.lt (h : RowAt T w g cs) : g < w.heap.size := (Array.getElem?_eq_some_iff.1 h).1
theorem RowAt.cell (h : RowAt T w g cs) (k : Nat) : w.cell? ⟨g, k, none⟩ = cs[k]? := cell_of_row w g k _ T _ h
theorem RowAt.cell' (h : RowAt T w g cs) (k : Nat) {v : Value} (hv : cs[k]? = some v) : w.cell? ⟨g, k, none⟩ = some v := (cell_of_row w g k _ T _ h).trans hv
theorem RowAt.frozen (h : RowAt T w g cs) (k : Nat) : w.frozen? ⟨g, k, none⟩ = false := frozen_of_row w g k _ T h
theorem RowAt.set (h : RowAt T w g cs) (k : Nat) (v : Value) : RowAt T (w.setCell ⟨g, k, none⟩ v) g (cs.setIfInBounds k v) := heap_setCell_same w g _ _ T _ h
theorem RowAt.set_other (h : RowAt T w g cs) {a : Addr} (ha : a.block ≠ g) (v : Value) : RowAt T (w.setCell a v) g cs := by
  unfold RowAt; rw [heap_setCell_other w a g v (Ne.symm ha)]; exact h
theorem RowAt.below (h : RowAt T w g cs) {w' : World} {B : Nat} (hb : Below B w w') (hg : g < B) : RowAt T w' g cs := (hb.block g hg).trans h
theorem RowAt.on (h : RowAt T w g cs) {w' : World} (hb : Below w.heap.size w w') : RowAt T w' g cs := h.below hb h.lt
theorem RowAt.only {W : World} {k : Nat} (h : RowAt T w k cs) (hg : w.grownBy W (some g)) (hne : k ≠ g) : RowAt T W k cs :=
  (hg.block k h.lt (fun e => hne (by injection e))).trans h
theorem RowAt.drew (h : RowAt T w g cs) : RowAt T w.drew g cs := h
theorem RowAt.drewN (h : RowAt T w g cs) (k : Nat) : RowAt T (w.drewN k) g cs := h
end
theorem ZAt.on {T : TypeId} {w w' : World} {g : Nat} {n : Int} {b : Bool} {D : Mat} (h : ZAt T w g n b D) (hb : Below w.heap.size w w') : ZAt T w' g n b D := h.below hb h.lt
section
variable {P : Program} {ops : Array Oper} {rest : List Oper} {o : Oper} {a : Act} {w : World} {Q : Exit → Act → World → Prop}
theorem box_row (hgd : Region.wanted o (yielded ops a.tmps) = true) (T : TypeId) (x : Operand) (ho : o.op = .box T x) (cs : Array Value) (hx : a.eval x = .agg cs)
    (h : ∀ W, RowAt T W w.heap.size cs → Below w.heap.size w W → Hid (W.heap.size = w.heap.size + 1) → wpList P ops Q rest (a.put o.dst (.pointer (some ⟨w.heap.size, 0, none⟩))) W) : wpList P ops Q (o :: rest) a w := by
  refine wpList_want hgd fun K hK => ?_
  have h' := hK _ _ (h (w.alloc (.cells cs T)) (Go.heap_alloc_new w _) ((Below.refl _ _).alloc (Nat.le_refl _) _) (by unfold Hid; simp))
  unfold Oper.wp execOp
  simp only [ho, hx, Instr.box, newVar, newRow, newObj, Value.cells, Sem.run_bind, Sem.run_pure]
  exact h'
theorem alloc_row (hgd : Region.wanted o (yielded ops a.tmps) = true) (T : TypeId) (ho : o.op = .alloc T) (v : Value) (hz : (P.info? T).bind (·.zero) = some v)
    (h : ∀ W, RowAt T W w.heap.size v.cells → Below w.heap.size w W → Hid (W.heap.size = w.heap.size + 1) → wpList P ops Q rest (a.put o.dst (.pointer (some ⟨w.heap.size, 0, none⟩))) W) : wpList P ops Q (o :: rest) a w := by
  refine wpList_want hgd fun K hK => ?_
  have h' := hK _ _ (h (w.alloc (.cells v.cells T)) (Go.heap_alloc_new w _) ((Below.refl _ _).alloc (Nat.le_refl _) _) (by unfold Hid; simp))
  cases hq : P.info? T with
  | none => simp [hq] at hz
  | some i =>
    have hz' : i.zero = some v := by simpa [hq] using hz
    have hr : (Instr.alloc T true (.tuple #[])).run P w = .ok (.pointer (some ⟨w.heap.size, 0, none⟩)) (w.alloc (.cells v.cells T)) := by
      simp [Instr.alloc, zeroValue, typeInfo, hq, hz', newVar, newRow, newObj]; rfl
    unfold Oper.wp execOp
    simp only [ho, Sem.run_bind, hr, Sem.run_pure]
    exact h'
theorem load_row (hgd : Region.wanted o (yielded ops a.tmps) = true) (ty : TypeId) (x : Operand) (ho : o.op = .load ty x) (g : Nat) (hx : a.eval x = .pointer (some ⟨g, 0, none⟩)) (d : TypeDesc) (hu : P.underlying ty = some d)
    (hd : (match d with | .struct _ | .array _ _ => true | _ => false) = true) {T : TypeId} {cs : Array Value} (hz : RowAt T w g cs) (hi : (P.info? ty).map (·.size) = some cs.size)
    (h : wpList P ops Q rest (a.put o.dst (.agg cs)) w) : wpList P ops Q (o :: rest) a w :=
  wpList_want hgd fun _ hK => wp_load_row ty x ho g hx T _ _ d hz hu hd hi (hK _ _ h)
theorem store_row (hgd : Region.wanted o (yielded ops a.tmps) = true) (ty : TypeId) (x y : Operand) (ho : o.op = .store ty x y) (g : Nat) (hx : a.eval x = .pointer (some ⟨g, 0, none⟩)) (cs : Array Value)
    (hy : a.eval y = .agg cs) {T : TypeId} {cur : Array Value} (hz : RowAt T w g cur) (hs : cs.size = cur.size) (hi : (P.info? ty).map (·.size) = some cs.size) (h1 : ∀ v ∈ cs.toList, v.oneCell' = true)
    (h : ∀ W, RowAt T W g cs → w.grownBy W (some g) → Hid (W.heap.size = w.heap.size) → wpList P ops Q rest (a.put o.dst undef) W) : wpList P ops Q (o :: rest) a w :=
  wpList_want hgd fun _ hK => wp_store_row ty x y ho g hx _ hy T _ hz hs hi h1
    (hK _ _ <| h _ (setRow_heap w g _ _ T _ hz) ⟨rfl, rfl, rfl, by simp, fun k _ hk => Go.setRow_other w g k _ (fun e => hk (by rw [e]))⟩ (by unfold Hid; simp))
theorem results_row {fn : Func} {p : Tmp} {ty : TypeId} (h : fn.results = #[.cell p ty]) (tmps : Array Value) (w : World) (g : Nat) {T : TypeId} {cs : Array Value} (d : TypeDesc)
    (hp : tmps.getD p undef = .pointer (some ⟨g, 0, none⟩)) (hz : RowAt T w g cs) (hu : P.underlying ty = some d) (hd : (match d with | .struct _ | .array _ _ => true | _ => false) = true)
    (hi : (P.info? ty).map (·.size) = some cs.size) : (results fn tmps).run P w = .ok (.agg cs) w :=
  results_cell_row h tmps w g T _ _ d hp hz hu hd hi
end
/-- An Itv's cells. -/
abbrev ic (lo hi : Int) : Array Value := #[.int .i64 lo, .int .i64 hi]
theorem ic_one (lo hi : Int) : ∀ v ∈ (ic lo hi).toList, v.oneCell' = true := by intro v hv; simp at hv; rcases hv with rfl | rfl <;> rfl
theorem isz32 : (Try.prog.info? 32).map (·.size) = some 2 := by kernel_rfl
theorem iz32 : (Try.prog.info? 32).bind (·.zero) = some (.agg (ic 0 0)) := by kernel_rfl
theorem build_i (lo hi : Int) (w : World) : (Instr.build 32 #[(0, .int .i64 lo), (1, .int .i64 hi)]).run Try.prog w = .ok (.agg (ic lo hi)) w := by kernel_rfl
section
variable {ops : Array Oper} {rest : List Oper} {o : Oper} {a : Act} {w : World} {Q : Exit → Act → World → Prop} {g : Nat} {T : TypeId}
theorem load_i (hgd : Region.wanted o (yielded ops a.tmps) = true) (x : Operand) (ho : o.op = .load 32 x) (hx : a.eval x = .pointer (some ⟨g, 0, none⟩)) {lo hi : Int} (hz : RowAt T w g (ic lo hi))
    (h : wpList Try.prog ops Q rest (a.put o.dst (.agg (ic lo hi))) w) : wpList Try.prog ops Q (o :: rest) a w :=
  load_row hgd 32 x ho g hx _ Try.underlying32 rfl hz isz32 h
theorem store_i (hgd : Region.wanted o (yielded ops a.tmps) = true) (x y : Operand) (ho : o.op = .store 32 x y) (hx : a.eval x = .pointer (some ⟨g, 0, none⟩)) {lo hi lo' hi' : Int}
    (hy : a.eval y = .agg (ic lo hi)) (hz : RowAt T w g (ic lo' hi'))
    (h : ∀ W, RowAt T W g (ic lo hi) → w.grownBy W (some g) → Hid (W.heap.size = w.heap.size) → wpList Try.prog ops Q rest (a.put o.dst undef) W) : wpList Try.prog ops Q (o :: rest) a w :=
  store_row hgd 32 x y ho g hx _ hy hz rfl isz32 (ic_one _ _) h
theorem results_i {fn : Func} {p : Tmp} {tmps : Array Value} (h : fn.results = #[.cell p 32]) (hp : tmps.getD p undef = .pointer (some ⟨g, 0, none⟩)) {lo hi : Int} (hz : RowAt T w g (ic lo hi)) : (results fn tmps).run Try.prog w = .ok (.agg (ic lo hi)) w :=
  results_row h tmps w g _ hp hz Try.underlying32 rfl isz32
end
/-- What a call leaves: its result; of what was there nothing has turned. -/
abbrev Ret (w : World) (v : Value) : Ending → World → Prop := fun e w' => e = .returned v ∧ Below w.heap.size w w'
theorem Ret.of {w : World} {v v' : Value} {e : Ending} {w' : World} (h : Ret w v e w') (hv : v = v') : Ret w v' e w' := hv ▸ h
end Go.Proofs.Ytgnkhncogfppgaa

namespace Go.Proofs.Ytgnkhncogfppgaa
open Go.RowKit
def Zn.c (z : Zn) : Array Value := zc z.n z.none z.D
theorem close_none (n : Nat) (D : Mat) (w : World) : Calls Try.prog 77 #[.agg (zc n true D)] w (Ret w (.agg (zc n true D))) := by
  go_enter Try.func77, Try.ntmps77
  go_wp2_with (first
    | (refine wpList_box_zone rfl 26 _ rfl _ _ _ rfl ?_; intro W hz hb hs; have hnc := hz.n_cell; have hbc := hz.b_cell)
    | (refine wpList_alloc_zone rfl 26 rfl zz ?_; intro W1 hz1 hb1 hs1; rw [hs.out] at hz1 hb1 hs1; have hz := hz.below hb1 (by omega); have hnc := hz.n_cell; have hbc := hz.b_cell; have hb := hb.trans (hb1.mono (by omega)); rw [hs.out]; clear hs)
    | (refine load_z rfl _ rfl rfl hz ?_)
    | (refine store_z rfl _ _ rfl rfl rfl hz1 ?_; intro W4 hz4 hg4 hs4))
  exact bodyPost_ret (results_z rfl (by simp [Act.put]) hz4) rfl ⟨rfl, below_only hb hg4 hb.size (by omega)⟩
theorem close_any (z : Zn) (hn : z.n ≤ 6) (w : World) : Calls Try.prog 77 #[.agg z.c] w (Ret w (.agg (closeZ z).c)) := by
  obtain ⟨n, b, D⟩ := z
  cases b
  · refine (close_yes n hn D w).mono fun e w' ⟨he, hb⟩ => ⟨he.trans ?_, hb⟩
    congr 2
    simp only [closeC, closeZ, Zn.c, Bool.false_eq_true, if_false]
    split <;> rfl
  · exact (close_none n D w).mono fun e w' ⟨he, hb⟩ => ⟨he, hb⟩
set_option maxHeartbeats 400000 in
theorem var_any (z : Zn) (hn : z.n ≤ 6) (x : Int) (w : World) : Calls Try.prog 79 #[.agg z.c, .int .i64 x] w (Ret w (.bool (varB z x))) := by
  obtain ⟨n, b, D⟩ := z
  have hfin : ∀ v, v = varB ⟨n, b, D⟩ x → Value.bool v = .bool (varB ⟨n, b, D⟩ x) := fun v h => by rw [h]
  cases b <;> by_cases h0 : 0 ≤ x <;> by_cases h1 : x < n
  all_goals try (exfalso; omega)
  all_goals
    go_enter Try.func79, Try.ntmps79
    go_wp2_with (first
      | (refine wpList_box_zone rfl 26 _ rfl _ _ _ rfl ?_; intro W hz hb hs; have hnc := hz.n_cell; have hbc := hz.b_cell)
      | (go_at_call 85; refine (count_yes n hn _).mono ?_; rintro e w' ⟨rfl, rfl⟩))
    go_ret
    exact ⟨by simp [varB, h0, h1], hb⟩
set_option maxHeartbeats 400000 in
theorem or_any (z : Zn) (hn : z.n ≤ 6) (x : Int) (w : World) : Calls Try.prog 78 #[.agg z.c, .int .i64 x] w (Ret w (.bool (orB z x))) := by
  have hv : ∀ (W : World), Calls Try.prog 79 #[.agg (zc z.n z.none z.D), .int .i64 x] W (Ret W (.bool (varB z x))) := fun W => var_any z hn x W
  have HV := Lib.hid hv
  clear hv
  obtain ⟨n, b, D⟩ := z
  have e1 : ¬ x = -1 → orB ⟨n, b, D⟩ x = varB ⟨n, b, D⟩ x := fun h => by
    simp only [orB, varB]; congr 1; simp only [decide_eq_decide]; omega
  by_cases hx : x = -1
  · subst hx
    cases b
    all_goals
      go_enter Try.func78, Try.ntmps78
      go_wp2_with (first
        | (refine wpList_box_zone rfl 26 _ rfl _ _ _ rfl ?_; intro W hz hb hs; have hnc := hz.n_cell; have hbc := hz.b_cell)
        | (refine load_z rfl _ rfl rfl hz ?_)
        | (go_at_call 85; refine (count_yes n hn _).mono ?_; rintro e w' ⟨rfl, rfl⟩)
        | (go_at_call 79; refine (HV.out _).mono ?_; rintro e w' ⟨rfl, hb2⟩))
      go_ret
    · exact ⟨by simp [orB]; omega, hb⟩
    · exact ⟨by simp [orB, varB], hb.trans (hb2.mono hb.size)⟩
  · have hxb : (x == -1) = false := by simpa using hx
    rw [e1 hx]
    clear e1
    cases b
    all_goals
      go_enter Try.func78, Try.ntmps78
      go_wp2_with (first
        | (refine wpList_box_zone rfl 26 _ rfl _ _ _ rfl ?_; intro W hz hb hs; have hnc := hz.n_cell; have hbc := hz.b_cell)
        | (refine load_z rfl _ rfl rfl hz ?_)
        | (go_at_call 85; refine (count_yes n hn _).mono ?_; rintro e w' ⟨rfl, rfl⟩)
        | (go_at_call 79; refine (HV.out _).mono ?_; rintro e w' ⟨rfl, hb2⟩))
      go_ret
      exact ⟨rfl, hb.trans (hb2.mono hb.size)⟩
end Go.Proofs.Ytgnkhncogfppgaa

namespace Go.Proofs.Ytgnkhncogfppgaa
open Go.RowKit
set_option maxHeartbeats 400000 in
theorem bound_any (z : Zn) (hn : z.n ≤ 6) (x y d : Int) (w : World) : Calls Try.prog 22 #[.agg z.c, .int .i64 x, .int .i64 y, .int .i64 d] w (Ret w (.agg (boundZ z x y d).c)) := by
  have hx : ∀ (W : World), Calls Try.prog 78 #[.agg (zc z.n z.none z.D), .int .i64 x] W (Ret W (.bool (orB z x))) := fun W => or_any z hn x W
  have hy : ∀ (W : World), Calls Try.prog 78 #[.agg (zc z.n z.none z.D), .int .i64 y] W (Ret W (.bool (orB z y))) := fun W => or_any z hn y W
  by_cases h1 : orB z x = true
  · by_cases h2 : orB z y = true
    · have hfin : (boundZ z x y d).c = (closeZ { z with D := upd z.D (x + 1).toNat (y + 1).toNat (mn (z.D (x + 1).toNat (y + 1).toNat) (mx d (-far))) }).c := by
        unfold boundZ; rw [h1, h2]; rfl
      have HF := Lib.hid hfin
      clear hfin
      rw [h1] at hx
      rw [h2] at hy
      have HX := Lib.hid hx
      have HY := Lib.hid hy
      clear hx hy
      have hxx : -1 ≤ x ∧ x < z.n := by simp [orB] at h1; omega
      have hyy : -1 ≤ y ∧ y < z.n := by simp [orB] at h2; omega
      clear h1 h2
      obtain ⟨i, rfl⟩ : ∃ i : Nat, x = (i : Int) - 1 := ⟨(x + 1).toNat, by omega⟩
      obtain ⟨j, rfl⟩ : ∃ j : Nat, y = (j : Int) - 1 := ⟨(y + 1).toNat, by omega⟩
      simp only [Int.sub_add_cancel, Int.toNat_natCast] at HF
      have hi : i ≤ z.n := by omega
      have hj : j ≤ z.n := by omega
      clear hxx hyy
      have hc : ∀ (v : Int) (W : World), Calls Try.prog 77 #[.agg (zc z.n z.none (upd z.D i j v))] W (Ret W (.agg (closeZ { z with D := upd z.D i j v }).c)) := fun v W => close_any { z with D := upd z.D i j v } hn W
      have HC := Lib.hid hc
      clear hc
      go_enter Try.func22, Try.ntmps22
      go_wp2_with (first
        | (refine wpList_box_zone rfl 26 _ rfl _ _ _ rfl ?_; intro W hz hb hs; have hnc := hz.n_cell; have hbc := hz.b_cell) | (refine wpList_alloc_zone rfl 26 rfl zz ?_; intro W1 hz1 hb1 hs1; rw [hs.out] at hz1 hb1 hs1; have hz := hz.below hb1 (by omega); have hnc := hz.n_cell; have hbc := hz.b_cell; have hb := hb.trans (hb1.mono (by omega)); rw [hs.out]; clear hs hb1)
        | (refine load_z rfl _ rfl rfl hz ?_)
        | (go_at_call 78; ((with_reducible refine (HX.out _).mono ?_); rintro e W2 ⟨rfl, hb2⟩; have hz := hz.below hb2 hz.lt; have hz1 := hz1.below hb2 hz1.lt; have hnc := hz.n_cell; have hbc := hz.b_cell; have hb := hb.trans (hb2.mono hb.size); clear hb2))
        | (go_at_call 78; ((with_reducible refine (HY.out _).mono ?_); rintro e W2 ⟨rfl, hb2⟩; have hz := hz.below hb2 hz.lt; have hz1 := hz1.below hb2 hz1.lt; have hnc := hz.n_cell; have hbc := hz.b_cell; have hb := hb.trans (hb2.mono hb.size); clear hb2))
        | fail)
      obtain ⟨v, hv⟩ : ∃ v, v = mn (z.D i j) (mx d (-far)) := ⟨_, rfl⟩
      have c1 := hz.cell i j (by omega) (by omega)
      have f1 := hz.frozen (2 + i * 7 + j)
      have s1 := Lib.hid (hz.set i j v (by omega) (by omega)).drew
      have s2 := Lib.hid (hz1.set_other (a := ⟨w.heap.size, 2 + i * 7 + j, none⟩) (by simp) (.int .i64 v)).drew
      have s3 := Lib.hid ((hb.setCell (p := ⟨w.heap.size, 2 + i * 7 + j, none⟩) (Nat.le_refl _) (.int .i64 v)).drew)
      have HV := Lib.hid hv
      clear hv hz1 hb
      go_region
      rw [← HV.out]
      generalize (W2.setCell { block := w.heap.size, off := 2 + i * 7 + j } (Value.int IntKind.i64 v)).drew = w3 at *
      have hz := s1.out
      have hz1 := s2.out
      have hb := s3.out
      clear c1 f1 s1 s2 s3
      go_wp2_with (first
        | (refine load_z rfl _ rfl rfl hz ?_)
        | (go_at_call 77; ((with_reducible refine (HC.out _ _).mono ?_); rintro e W2 ⟨rfl, hb2⟩; have hz := hz.below hb2 hz.lt; have hz1 := hz1.below hb2 hz1.lt; have hnc := hz.n_cell; have hbc := hz.b_cell; have hb := hb.trans (hb2.mono hb.size); clear hb2))
        | (refine store_z rfl _ _ rfl rfl rfl hz1 ?_; intro W4 hz4 hg4 hs4)
        | fail)
      exact bodyPost_ret (results_z rfl (by simp [Act.put]) hz4) rfl ⟨by rw [HF.out, HV.out]; rfl, below_only hb hg4 hb.size (by omega)⟩
    · have hfin : (boundZ z x y d).c = z.c := by unfold boundZ; rw [if_neg (by simp [h2])]
      rw [hfin]
      clear hfin
      rw [h1] at hx
      rw [show orB z y = false by simpa using h2] at hy
      have HX := Lib.hid hx
      have HY := Lib.hid hy
      clear hx hy h1 h2
      go_enter Try.func22, Try.ntmps22
      go_wp2_with (first
        | (refine wpList_box_zone rfl 26 _ rfl _ _ _ rfl ?_; intro W hz hb hs; have hnc := hz.n_cell; have hbc := hz.b_cell) | (refine wpList_alloc_zone rfl 26 rfl zz ?_; intro W1 hz1 hb1 hs1; rw [hs.out] at hz1 hb1 hs1; have hz := hz.below hb1 (by omega); have hnc := hz.n_cell; have hbc := hz.b_cell; have hb := hb.trans (hb1.mono (by omega)); rw [hs.out]; clear hs hb1)
        | (refine load_z rfl _ rfl rfl hz ?_)
        | (go_at_call 78; ((with_reducible refine (HX.out _).mono ?_); rintro e W2 ⟨rfl, hb2⟩; have hz := hz.below hb2 hz.lt; have hz1 := hz1.below hb2 hz1.lt; have hnc := hz.n_cell; have hbc := hz.b_cell; have hb := hb.trans (hb2.mono hb.size); clear hb2))
        | (go_at_call 78; ((with_reducible refine (HY.out _).mono ?_); rintro e W2 ⟨rfl, hb2⟩; have hz := hz.below hb2 hz.lt; have hz1 := hz1.below hb2 hz1.lt; have hnc := hz.n_cell; have hbc := hz.b_cell; have hb := hb.trans (hb2.mono hb.size); clear hb2))
        | (refine store_z rfl _ _ rfl rfl rfl hz1 ?_; intro W4 hz4 hg4 hs4)
        | fail)
      exact bodyPost_ret (results_z rfl (by simp [Act.put]) hz4) rfl ⟨rfl, below_only hb hg4 hb.size (by omega)⟩
  · have hfin : (boundZ z x y d).c = z.c := by unfold boundZ; rw [if_neg (by simp [h1])]
    rw [hfin]
    clear hfin
    rw [show orB z x = false by simpa using h1] at hx
    have HX := Lib.hid hx
    clear hx h1 hy
    go_enter Try.func22, Try.ntmps22
    go_wp2_with (first
      | (refine wpList_box_zone rfl 26 _ rfl _ _ _ rfl ?_; intro W hz hb hs; have hnc := hz.n_cell; have hbc := hz.b_cell) | (refine wpList_alloc_zone rfl 26 rfl zz ?_; intro W1 hz1 hb1 hs1; rw [hs.out] at hz1 hb1 hs1; have hz := hz.below hb1 (by omega); have hnc := hz.n_cell; have hbc := hz.b_cell; have hb := hb.trans (hb1.mono (by omega)); rw [hs.out]; clear hs hb1)
      | (refine load_z rfl _ rfl rfl hz ?_)
      | (go_at_call 78; ((with_reducible refine (HX.out _).mono ?_); rintro e W2 ⟨rfl, hb2⟩; have hz := hz.below hb2 hz.lt; have hz1 := hz1.below hb2 hz1.lt; have hnc := hz.n_cell; have hbc := hz.b_cell; have hb := hb.trans (hb2.mono hb.size); clear hb2))
      | (refine store_z rfl _ _ rfl rfl rfl hz1 ?_; intro W4 hz4 hg4 hs4)
      | fail)
    exact bodyPost_ret (results_z rfl (by simp [Act.put]) hz4) rfl ⟨rfl, below_only hb hg4 hb.size (by omega)⟩
end Go.Proofs.Ytgnkhncogfppgaa

namespace Go.Proofs.Ytgnkhncogfppgaa
open Go.RowKit
set_option maxHeartbeats 400000 in
theorem forgetp_any (g n : Nat) (hn : n ≤ 6) (b : Bool) (row : Nat) (hr : row ≤ n) (D : Mat) (w : World) (hz : ZAt 26 w g n b D) :
    Calls Try.prog 81 #[.pointer (some ⟨g, 0, none⟩), .int .i64 row] w fun e w' => e = .returned (.tuple #[]) ∧ w.grownBy w' (some g) ∧ ZAt 26 w' g n b (forgetM row (n + 1) D) := by
  have hZ := Lib.hid hz
  clear hz
  go_enter Try.func81, Try.ntmps81
  go_wp2
  go_loopw [4] (fun i wr => ∃ k : Nat, k ≤ n + 1 ∧ i = .int .i64 (k : Int) ∧ Hid (w.grownBy wr (some g)) ∧ Hid (ZAt 26 wr g n b (forgetM row k D))) (fun i _ => n + 2 - (intOf i).toNat)
  case atStart => exact ⟨0, Nat.zero_le _, rfl, .refl _ _, hZ⟩
  case round =>
    obtain ⟨k, hk, rfl, hgr, hZr⟩ := hrel
    have hc := hZr.out.n_cell
    by_cases hlt : k ≤ n
    · by_cases hkr : k = row
      · subst hkr
        go_wp2
        go_roundw
        case rel => exact ⟨k + 1, by omega, by go_num, hgr, by show ZAt _ _ _ _ _ (forgetS k k (forgetM k k D)); unfold forgetS; rw [if_neg (by simp)]; exact hZr⟩
        case measure => simp [intOf]; omega
      · have hne : ((k : Int) != (row : Int)) = true := by simp; omega
        have c1 := hZr.out.cell k row (by omega) (by omega)
        have f1 := hZr.out.frozen (2 + k * 7 + row)
        have f2 := hZr.out.frozen (2 + row * 7 + k)
        have g1 := hZr.out.set k row far (by omega) (by omega)
        have c2 := g1.cell row k (by omega) (by omega)
        have c0 := hZr.out.cell row k (by omega) (by omega)
        have s1 := Lib.hid (g1.set row k far (by omega) (by omega)).drew
        have s2 := Lib.hid (only_drew (only_setCell (p := ⟨g, 2 + row * 7 + k, none⟩) (only_setCell (p := ⟨g, 2 + k * 7 + row, none⟩) hgr.out (.inl rfl) (.int .i64 far)) (.inl rfl) (.int .i64 far)))
        have hstep : forgetM row (k + 1) D = upd (upd (forgetM row k D) k row far) row k far := by
          show forgetS row k (forgetM row k D) = _; unfold forgetS; rw [if_pos hkr]
        have HS := Lib.hid hstep
        clear hgr hstep g1
        go_wp2
        go_region
        generalize ((wr.setCell { block := g, off := 2 + k * 7 + row } (Value.int IntKind.i64 far)).setCell { block := g, off := 2 + row * 7 + k } (Value.int IntKind.i64 far)).drew = w3 at *
        go_wp2
        go_roundw
        case rel => exact ⟨k + 1, by omega, by go_num, s2, by rw [HS.out]; exact s1⟩
        case measure => simp [intOf]; omega
    · obtain rfl : k = n + 1 := by omega
      go_wp2
      go_end0
      exact ⟨rfl, hgr.out, hZr.out⟩
set_option maxHeartbeats 400000 in
theorem forget_any (z : Zn) (hn : z.n ≤ 6) (x : Int) (w : World) : Calls Try.prog 33 #[.agg z.c, .int .i64 x] w (Ret w (.agg (forgetZ z x).c)) := by
  have hx : ∀ (W : World), Calls Try.prog 79 #[.agg (zc z.n z.none z.D), .int .i64 x] W (Ret W (.bool (varB z x))) := fun W => var_any z hn x W
  by_cases h1 : varB z x = true
  · have hfin : (forgetZ z x).c = (closeZ { z with D := forgetM (x + 1).toNat (z.n + 1) z.D }).c := by unfold forgetZ; rw [h1]; rfl
    have HF := Lib.hid hfin
    clear hfin
    rw [h1] at hx
    have HX := Lib.hid hx
    clear hx
    have hxx : 0 ≤ x ∧ x < z.n := by simp [varB] at h1; omega
    clear h1
    obtain ⟨i, rfl⟩ : ∃ i : Nat, x = (i : Int) := ⟨x.toNat, by omega⟩
    rw [show ((i : Int) + 1).toNat = i + 1 by omega] at HF
    have hi : i < z.n := by omega
    clear hxx
    have hc : ∀ (W : World), Calls Try.prog 77 #[.agg (zc z.n z.none (forgetM (i + 1) (z.n + 1) z.D))] W (Ret W (.agg (closeZ { z with D := forgetM (i + 1) (z.n + 1) z.D }).c)) := fun W => close_any { z with D := forgetM (i + 1) (z.n + 1) z.D } hn W
    have HC := Lib.hid hc
    clear hc
    have hcast : (i : Int) + 1 = ((i + 1 : Nat) : Int) := by omega
    have hw : ∀ (W : World), ZAt 26 W w.heap.size z.n z.none z.D → Calls Try.prog 81 #[.pointer (some ⟨w.heap.size, 0, none⟩), .int .i64 ((i : Int) + 1)] W fun e w' => e = .returned (.tuple #[]) ∧ W.grownBy w' (some w.heap.size) ∧ ZAt 26 w' w.heap.size z.n z.none (forgetM (i + 1) (z.n + 1) z.D) := fun W h => by
      rw [hcast]; exact forgetp_any _ z.n hn z.none (i + 1) (by omega) z.D W h
    have HW := Lib.hid hw
    clear hw hcast
    go_enter Try.func33, Try.ntmps33
    go_wp2_with (first
      | (refine wpList_box_zone rfl 26 _ rfl _ _ _ rfl ?_; intro W hz hb hs; have hnc := hz.n_cell; have hbc := hz.b_cell) | (refine wpList_alloc_zone rfl 26 rfl zz ?_; intro W1 hz1 hb1 hs1; rw [hs.out] at hz1 hb1 hs1; have hz := hz.below hb1 (by omega); have hnc := hz.n_cell; have hbc := hz.b_cell; have hb := hb.trans (hb1.mono (by omega)); rw [hs.out]; clear hs hb1)
      | (refine load_z rfl _ rfl rfl hz ?_)
      | (go_at_call 79; ((with_reducible refine (HX.out _).mono ?_); rintro e W2 ⟨rfl, hb2⟩; have hz := hz.below hb2 hz.lt; have hz1 := hz1.below hb2 hz1.lt; have hnc := hz.n_cell; have hbc := hz.b_cell; have hb := hb.trans (hb2.mono hb.size); clear hb2))
      | (go_at_call 81; ((with_reducible refine (HW.out _ hz).mono ?_); rintro e W3 ⟨rfl, hg3, hz3⟩; have hz := hz3; have hz1 := hz1.only hg3 (by omega); have hb := below_only hb hg3 hb.size (Nat.le_refl _)))
      | (go_at_call 77; ((with_reducible refine (HC.out _).mono ?_); rintro e W2 ⟨rfl, hb2⟩; have hz := hz.below hb2 hz.lt; have hz1 := hz1.below hb2 hz1.lt; have hnc := hz.n_cell; have hbc := hz.b_cell; have hb := hb.trans (hb2.mono hb.size); clear hb2))
      | (refine store_z rfl _ _ rfl rfl rfl hz1 ?_; intro W4 hz4 hg4 hs4)
      | fail)
    exact bodyPost_ret (results_z rfl (by simp [Act.put]) hz4) rfl ⟨by rw [HF.out]; rfl, below_only hb hg4 hb.size (by omega)⟩
  · have hfin : (forgetZ z x).c = z.c := by unfold forgetZ; rw [if_neg h1]
    rw [hfin]
    clear hfin
    rw [show varB z x = false by simpa using h1] at hx
    have HX := Lib.hid hx
    clear hx h1
    go_enter Try.func33, Try.ntmps33
    go_wp2_with (first
      | (refine wpList_box_zone rfl 26 _ rfl _ _ _ rfl ?_; intro W hz hb hs; have hnc := hz.n_cell; have hbc := hz.b_cell) | (refine wpList_alloc_zone rfl 26 rfl zz ?_; intro W1 hz1 hb1 hs1; rw [hs.out] at hz1 hb1 hs1; have hz := hz.below hb1 (by omega); have hnc := hz.n_cell; have hbc := hz.b_cell; have hb := hb.trans (hb1.mono (by omega)); rw [hs.out]; clear hs hb1)
      | (refine load_z rfl _ rfl rfl hz ?_)
      | (go_at_call 79; ((with_reducible refine (HX.out _).mono ?_); rintro e W2 ⟨rfl, hb2⟩; have hz := hz.below hb2 hz.lt; have hz1 := hz1.below hb2 hz1.lt; have hnc := hz.n_cell; have hbc := hz.b_cell; have hb := hb.trans (hb2.mono hb.size); clear hb2))
      | (refine store_z rfl _ _ rfl rfl rfl hz1 ?_; intro W4 hz4 hg4 hs4)
      | fail)
    exact bodyPost_ret (results_z rfl (by simp [Act.put]) hz4) rfl ⟨rfl, below_only hb hg4 hb.size (by omega)⟩
set_option maxHeartbeats 400000 in
theorem moved_any (z : Zn) (hn : z.n ≤ 6) (row : Nat) (hr : row ≤ z.n) (d : Int) (w : World) : Calls Try.prog 80 #[.agg z.c, .int .i64 row, .int .i64 d] w (Ret w (.agg (movedZ z row d).c)) := by
  obtain ⟨n, b, D⟩ := z
  have hn : n ≤ 6 := hn
  have hr : row ≤ n := hr
  have hc : ∀ (W : World), Calls Try.prog 77 #[.agg (zc n b (movedM row d (n + 1) D))] W (Ret W (.agg (movedZ ⟨n, b, D⟩ row d).c)) := fun W => close_any ⟨n, b, movedM row d (n + 1) D⟩ hn W
  have HC := Lib.hid hc
  clear hc
  go_enter Try.func80, Try.ntmps80
  go_wp2_with (first
    | (refine wpList_box_zone rfl 26 _ rfl _ _ _ rfl ?_; intro W hz hb hs; have hnc := hz.n_cell; have hbc := hz.b_cell) | (refine wpList_alloc_zone rfl 26 rfl zz ?_; intro W1 hz1 hb1 hs1; rw [hs.out] at hz1 hb1 hs1; have hz := hz.below hb1 (by omega); have hnc := hz.n_cell; have hbc := hz.b_cell; have hb := hb.trans (hb1.mono (by omega)); rw [hs.out]; clear hs hb1)
    | fail)
  have HZ := Lib.hid hz
  have HZ1 := Lib.hid hz1
  have HB := Lib.hid hb
  clear hz hz1 hb
  go_loopw [7] (fun i wr => ∃ k : Nat, k ≤ n + 1 ∧ i = .int .i64 (k : Int) ∧ Hid (Below w.heap.size w wr) ∧ Hid (ZAt 26 wr w.heap.size n b (movedM row d k D)) ∧ Hid (ZAt 26 wr (w.heap.size + 1) 0 false zeroM)) (fun i _ => n + 2 - (intOf i).toNat)
  case atStart => exact ⟨0, Nat.zero_le _, rfl, HB, HZ, HZ1⟩
  case round =>
    clear HB HZ HZ1
    obtain ⟨k, hk, rfl, HB, HZ, HZ1⟩ := hrel
    have hnc := HZ.out.n_cell
    by_cases hlt : k ≤ n
    · by_cases hkr : k = row
      · subst hkr
        go_wp2
        go_roundw
        case rel => exact ⟨k + 1, by omega, by go_num, HB, by show ZAt _ _ _ _ _ (movedS k d k (movedM k d k D)); unfold movedS; rw [if_neg (by simp)]; exact HZ, HZ1⟩
        case measure => simp [intOf]; omega
      · have hne : ((k : Int) != (row : Int)) = true := by simp; omega
        obtain ⟨S, hS⟩ : ∃ S, S = movedM row d k D := ⟨_, rfl⟩
        rw [← hS] at HZ
        have c1 := HZ.out.cell row k (by omega) (by omega)
        have f1 := HZ.out.frozen (2 + row * 7 + k)
        obtain ⟨v, hv⟩ : ∃ v, v = wrap64 (S row k + d) := ⟨_, rfl⟩
        have s1 := Lib.hid (HZ.out.set row k v (by omega) (by omega)).drew
        have s2 := Lib.hid (HZ1.out.set_other (a := ⟨w.heap.size, 2 + row * 7 + k, none⟩) (by simp) (.int .i64 v)).drew
        have s3 := Lib.hid ((HB.out.setCell (p := ⟨w.heap.size, 2 + row * 7 + k, none⟩) (Nat.le_refl _) (.int .i64 v)).drew)
        have HV := Lib.hid hv
        have HS := Lib.hid hS
        clear hv hS
        go_wp2
        go_region
        rw [← HV.out]
        generalize (wr.setCell { block := w.heap.size, off := 2 + row * 7 + k } (Value.int IntKind.i64 v)).drew = w3 at *
        have c2 := s1.out.cell k row (by omega) (by omega)
        have f2 := s1.out.frozen (2 + k * 7 + row)
        rw [upd_ne _ _ _ _ (by omega)] at c2
        obtain ⟨u, hu⟩ : ∃ u, u = wrap64 (S k row - d) := ⟨_, rfl⟩
        have t1 := Lib.hid (s1.out.set k row u (by omega) (by omega)).drew
        have t2 := Lib.hid (s2.out.set_other (a := ⟨w.heap.size, 2 + k * 7 + row, none⟩) (by simp) (.int .i64 u)).drew
        have t3 := Lib.hid ((s3.out.setCell (p := ⟨w.heap.size, 2 + k * 7 + row, none⟩) (Nat.le_refl _) (.int .i64 u)).drew)
        have HU := Lib.hid hu
        clear hu
        go_wp2
        go_region
        rw [← HU.out]
        generalize (w3.setCell { block := w.heap.size, off := 2 + k * 7 + row } (Value.int IntKind.i64 u)).drew = w4 at *
        have hfin : movedM row d (k + 1) D = upd (upd S row k v) k row u := by
          show movedS row d k (movedM row d k D) = _
          unfold movedS
          rw [if_pos hkr, ← HS.out, HV.out, HU.out, wrap64_w64, wrap64_w64, upd_ne _ _ _ _ (by omega)]
        have HFN := Lib.hid hfin
        clear hfin
        go_wp2
        go_roundw
        case rel => exact ⟨k + 1, by omega, by go_num, t3, by rw [HFN.out]; exact t1, t2⟩
        case measure => simp [intOf]; omega
    · obtain rfl : k = n + 1 := by omega
      have hz := HZ.out
      have hz1 := HZ1.out
      have hb := HB.out
      have hbc := hz.b_cell
      go_wp2_with (first
        | (refine load_z rfl _ rfl rfl hz ?_)
        | (go_at_call 77; ((with_reducible refine (HC.out _).mono ?_); rintro e W2 ⟨rfl, hb2⟩; have hz := hz.below hb2 hz.lt; have hz1 := hz1.below hb2 hz1.lt; have hnc := hz.n_cell; have hbc := hz.b_cell; have hb := hb.trans (hb2.mono hb.size); clear hb2))
        | (refine store_z rfl _ _ rfl rfl rfl hz1 ?_; intro W4 hz4 hg4 hs4)
        | fail)
      exact bodyPost_ret (results_z rfl (by simp [Act.put]) hz4) rfl ⟨rfl, below_only hb hg4 hb.size (by omega)⟩
end Go.Proofs.Ytgnkhncogfppgaa

namespace Go.Proofs.Ytgnkhncogfppgaa
open Go.RowKit
set_option maxHeartbeats 400000 in
theorem copy_same (z : Zn) (hn : z.n ≤ 6) (x d : Int) (h1 : varB z x = true) (w : World) : Calls Try.prog 23 #[.agg z.c, .int .i64 x, .int .i64 x, .int .i64 d] w (Ret w (.agg (copyZ z x x d).c)) := by
  have h2 : orB z x = true := by simp [orB, varB] at h1 ⊢; exact ⟨h1.1, by omega, h1.2.2⟩
  have hx : ∀ (W : World), Calls Try.prog 79 #[.agg (zc z.n z.none z.D), .int .i64 x] W (Ret W (.bool true)) := fun W => h1 ▸ var_any z hn x W
  have hy : ∀ (W : World), Calls Try.prog 78 #[.agg (zc z.n z.none z.D), .int .i64 x] W (Ret W (.bool true)) := fun W => h2 ▸ or_any z hn x W
  have hfin : (copyZ z x x d).c = (movedZ z (x + 1).toNat (mn (mx d (-far)) far)).c := by unfold copyZ; rw [h1, h2]; simp
  have HF := Lib.hid hfin
  have HX := Lib.hid hx
  have HY := Lib.hid hy
  have hxx : 0 ≤ x ∧ x < z.n := by simp [varB] at h1; omega
  clear hfin hx hy h1 h2
  obtain ⟨i, rfl⟩ : ∃ i : Nat, x = (i : Int) := ⟨x.toNat, by omega⟩
  rw [show ((i : Int) + 1).toNat = i + 1 by omega] at HF
  have hi : i < z.n := by omega
  clear hxx
  have hcast : (i : Int) + 1 = ((i + 1 : Nat) : Int) := by omega
  have hm : ∀ (v : Int) (W : World), Calls Try.prog 80 #[.agg (zc z.n z.none z.D), .int .i64 ((i : Int) + 1), .int .i64 v] W (Ret W (.agg (movedZ z (i + 1) v).c)) := fun v W => by rw [hcast]; exact moved_any z hn (i + 1) (by omega) v W
  have HM := Lib.hid hm
  clear hm hcast
  go_enter Try.func23, Try.ntmps23
  go_wp2_with (first
    | (refine wpList_box_zone rfl 26 _ rfl _ _ _ rfl ?_; intro W hz hb hs; have hnc := hz.n_cell; have hbc := hz.b_cell) | (refine wpList_alloc_zone rfl 26 rfl zz ?_; intro W1 hz1 hb1 hs1; rw [hs.out] at hz1 hb1 hs1; have hz := hz.below hb1 (by omega); have hnc := hz.n_cell; have hbc := hz.b_cell; have hb := hb.trans (hb1.mono (by omega)); rw [hs.out]; clear hs hb1)
    | (refine load_z rfl _ rfl rfl hz ?_)
    | (go_at_call 79; ((with_reducible refine (HX.out _).mono ?_); rintro e W2 ⟨rfl, hb2⟩; have hz := hz.below hb2 hz.lt; have hz1 := hz1.below hb2 hz1.lt; have hnc := hz.n_cell; have hbc := hz.b_cell; have hb := hb.trans (hb2.mono hb.size); clear hb2))
    | (go_at_call 78; ((with_reducible refine (HY.out _).mono ?_); rintro e W2 ⟨rfl, hb2⟩; have hz := hz.below hb2 hz.lt; have hz1 := hz1.below hb2 hz1.lt; have hnc := hz.n_cell; have hbc := hz.b_cell; have hb := hb.trans (hb2.mono hb.size); clear hb2))
    | (go_at_call 80; ((with_reducible refine (HM.out _ _).mono ?_); rintro e W2 ⟨rfl, hb2⟩; have hz := hz.below hb2 hz.lt; have hz1 := hz1.below hb2 hz1.lt; have hnc := hz.n_cell; have hbc := hz.b_cell; have hb := hb.trans (hb2.mono hb.size); clear hb2))
    | (refine store_z rfl _ _ rfl rfl rfl hz1 ?_; intro W4 hz4 hg4 hs4)
    | fail)
  exact bodyPost_ret (results_z rfl (by simp [Act.put]) hz4) rfl ⟨by rw [HF.out]; rfl, below_only hb hg4 hb.size (by omega)⟩
set_option maxHeartbeats 1000000 in
theorem copy_link (z : Zn) (hn : z.n ≤ 6) (x y d : Int) (hxy : x ≠ y) (h1 : varB z x = true) (h2 : orB z y = true) (w : World) : Calls Try.prog 23 #[.agg z.c, .int .i64 x, .int .i64 y, .int .i64 d] w (Ret w (.agg (copyZ z x y d).c)) := by
  have hx : ∀ (W : World), Calls Try.prog 79 #[.agg (zc z.n z.none z.D), .int .i64 x] W (Ret W (.bool true)) := fun W => h1 ▸ var_any z hn x W
  have hy : ∀ (W : World), Calls Try.prog 78 #[.agg (zc z.n z.none z.D), .int .i64 y] W (Ret W (.bool true)) := fun W => h2 ▸ or_any z hn y W
  obtain ⟨v, hv⟩ : ∃ v, v = mn (mx d (-far)) far := ⟨_, rfl⟩
  have hfin : (copyZ z x y d).c = (linkZ (closeZ { z with D := forgetM (x + 1).toNat (z.n + 1) z.D }) x y v).c := by unfold copyZ; rw [h1, h2, hv]; simp [hxy]
  have HX := Lib.hid hx
  have HY := Lib.hid hy
  have HF := Lib.hid hfin
  have HV := Lib.hid hv
  have hxx : 0 ≤ x ∧ x < z.n := by simp [varB] at h1; omega
  have hyy : -1 ≤ y ∧ y < z.n := by simp [orB] at h2; omega
  clear hfin hx hy h1 h2 hv
  have heqb : (x == y) = false := by simpa using hxy
  obtain ⟨i, rfl⟩ : ∃ i : Nat, x = (i : Int) := ⟨x.toNat, by omega⟩
  obtain ⟨j, rfl⟩ : ∃ j : Nat, y = (j : Int) - 1 := ⟨(y + 1).toNat, by omega⟩
  rw [show ((i : Int) + 1).toNat = i + 1 by omega] at HF
  have hi : i < z.n := by omega
  have hj : j ≤ z.n := by omega
  have hij : i + 1 ≠ j := by omega
  clear hxx hyy hxy
  have hcast : (i : Int) + 1 = ((i + 1 : Nat) : Int) := by omega
  have hw : ∀ (W : World), ZAt 26 W w.heap.size z.n z.none z.D → Calls Try.prog 81 #[.pointer (some ⟨w.heap.size, 0, none⟩), .int .i64 ((i : Int) + 1)] W fun e w' => e = .returned (.tuple #[]) ∧ W.grownBy w' (some w.heap.size) ∧ ZAt 26 w' w.heap.size z.n z.none (forgetM (i + 1) (z.n + 1) z.D) := fun W h => by
    rw [hcast]; exact forgetp_any _ z.n hn z.none (i + 1) (by omega) z.D W h
  have HW := Lib.hid hw
  clear hw hcast
  have hc : ∀ (W : World), Calls Try.prog 77 #[.agg (zc z.n z.none (forgetM (i + 1) (z.n + 1) z.D))] W (Ret W (.agg (closeZ { z with D := forgetM (i + 1) (z.n + 1) z.D }).c)) := fun W => close_any { z with D := forgetM (i + 1) (z.n + 1) z.D } hn W
  obtain ⟨Z1, hZ1⟩ : ∃ Z1, Z1 = closeZ { z with D := forgetM (i + 1) (z.n + 1) z.D } := ⟨_, rfl⟩
  have hZn : Z1.n = z.n := by rw [hZ1, closeZ_n]
  rw [← hZ1] at HF hc
  have HC := Lib.hid hc
  have HN := Lib.hid hZn
  clear hc hZ1 hZn
  have hd : ∀ (W : World), Calls Try.prog 77 #[.agg (zc Z1.n Z1.none (upd (upd Z1.D (i + 1) j v) j (i + 1) (wrap64 (-v))))] W (Ret W (.agg (linkZ Z1 (i : Int) ((j : Int) - 1) v).c)) := fun W => by
    have h := close_any { Z1 with D := upd (upd Z1.D (i + 1) j v) j (i + 1) (wrap64 (-v)) } (by show Z1.n ≤ 6; rw [HN.out]; exact hn) W
    have e : linkZ Z1 (i : Int) ((j : Int) - 1) v = closeZ { Z1 with D := upd (upd Z1.D (i + 1) j v) j (i + 1) (wrap64 (-v)) } := by
      unfold linkZ; rw [show ((i : Int) + 1).toNat = i + 1 by omega, show ((j : Int) - 1 + 1).toNat = j by omega, wrap64_w64]
    rw [e]; exact h
  have HD := Lib.hid hd
  clear hd
  go_enter Try.func23, Try.ntmps23
  go_wp2_with (first
    | (refine wpList_box_zone rfl 26 _ rfl _ _ _ rfl ?_; intro W hz hb hs; have hnc := hz.n_cell; have hbc := hz.b_cell) | (refine wpList_alloc_zone rfl 26 rfl zz ?_; intro W1 hz1 hb1 hs1; rw [hs.out] at hz1 hb1 hs1; have hz := hz.below hb1 (by omega); have hnc := hz.n_cell; have hbc := hz.b_cell; have hb := hb.trans (hb1.mono (by omega)); rw [hs.out]; clear hs hb1)
    | (refine load_z rfl _ rfl rfl hz ?_)
    | (go_at_call 79; ((with_reducible refine (HX.out _).mono ?_); rintro e W2 ⟨rfl, hb2⟩; have hz := hz.below hb2 hz.lt; have hz1 := hz1.below hb2 hz1.lt; have hnc := hz.n_cell; have hbc := hz.b_cell; have hb := hb.trans (hb2.mono hb.size); clear hb2))
    | (go_at_call 78; ((with_reducible refine (HY.out _).mono ?_); rintro e W2 ⟨rfl, hb2⟩; have hz := hz.below hb2 hz.lt; have hz1 := hz1.below hb2 hz1.lt; have hnc := hz.n_cell; have hbc := hz.b_cell; have hb := hb.trans (hb2.mono hb.size); clear hb2))
    | (go_at_call 81; ((with_reducible refine (HW.out _ hz).mono ?_); rintro e W3 ⟨rfl, hg3, hz3⟩; have hz := hz3; have hz1 := hz1.only hg3 (by omega); have hb := below_only hb hg3 hb.size (Nat.le_refl _)))
    | (go_at_call 77; ((with_reducible refine (HC.out _).mono ?_); rintro e W2 ⟨rfl, hb2⟩; have hz := hz.below hb2 hz.lt; have hz1 := hz1.below hb2 hz1.lt; have hnc := hz.n_cell; have hbc := hz.b_cell; have hb := hb.trans (hb2.mono hb.size); clear hb2))
    | (refine store_z rfl _ _ rfl rfl rfl hz ?_; intro W4 hz4 hg4 hs4; have hz := hz4; have hz1 := hz1.only hg4 (by omega); have hb := below_only hb hg4 hb.size (Nat.le_refl _))
    | fail)
  rw [← HV.out]
  have f1 := hz.frozen (2 + (i + 1) * 7 + j)
  have f2 := hz.frozen (2 + j * 7 + (i + 1))
  have c1 := hz.cell (i + 1) j (by omega) (by omega)
  have c0 := hz.cell j (i + 1) (by omega) (by omega)
  have g1 := hz.set (i + 1) j v (by omega) (by omega)
  have c2 := g1.cell j (i + 1) (by omega) (by omega)
  rw [upd_ne _ _ _ _ (by omega)] at c2
  have s1 := Lib.hid (g1.set j (i + 1) (wrap64 (-v)) (by omega) (by omega)).drew
  have s2 := Lib.hid ((hz1.set_other (a := ⟨w.heap.size, 2 + (i + 1) * 7 + j, none⟩) (by simp) (.int .i64 v)).set_other (a := ⟨w.heap.size, 2 + j * 7 + (i + 1), none⟩) (by simp) (.int .i64 (wrap64 (-v)))).drew
  have s3 := Lib.hid (((hb.setCell (p := ⟨w.heap.size, 2 + (i + 1) * 7 + j, none⟩) (Nat.le_refl _) (.int .i64 v)).setCell (p := ⟨w.heap.size, 2 + j * 7 + (i + 1), none⟩) (Nat.le_refl _) (.int .i64 (wrap64 (-v)))).drew)
  clear g1 hz1 hb HC HX HY HW hz4
  simp only [Act.put]
  go_region
  generalize ((W4.setCell { block := w.heap.size, off := 2 + (i + 1) * 7 + j } (Value.int IntKind.i64 v)).setCell { block := w.heap.size, off := 2 + j * 7 + (i + 1) } (Value.int IntKind.i64 (wrap64 (-v)))).drew = w3 at *
  have hz := s1.out
  have hz1 := s2.out
  have hb := s3.out
  have hnc := hz.n_cell
  have hbc := hz.b_cell
  clear f1 f2 c1 c0 c2 s1 s2 s3
  go_wp2_with (first
    | (refine load_z rfl _ rfl rfl hz ?_)
    | (go_at_call 77; ((with_reducible refine (HD.out _).mono ?_); rintro e W2 ⟨rfl, hb2⟩; have hz := hz.below hb2 hz.lt; have hz1 := hz1.below hb2 hz1.lt; have hnc := hz.n_cell; have hbc := hz.b_cell; have hb := hb.trans (hb2.mono hb.size); clear hb2))
    | (refine store_z rfl _ _ rfl rfl rfl hz1 ?_; intro W4 hz4 hg4 hs4)
    | fail)
  exact bodyPost_ret (results_z rfl (by simp [Act.put]) hz4) rfl ⟨by rw [HF.out]; rfl, below_only hb hg4 hb.size (by omega)⟩
set_option maxHeartbeats 400000 in
theorem copy_not (z : Zn) (hn : z.n ≤ 6) (x y d : Int) (h : ¬ (varB z x && orB z y) = true) (w : World) : Calls Try.prog 23 #[.agg z.c, .int .i64 x, .int .i64 y, .int .i64 d] w (Ret w (.agg (copyZ z x y d).c)) := by
  have hx : ∀ (W : World), Calls Try.prog 79 #[.agg (zc z.n z.none z.D), .int .i64 x] W (Ret W (.bool (varB z x))) := fun W => var_any z hn x W
  have hy : ∀ (W : World), Calls Try.prog 78 #[.agg (zc z.n z.none z.D), .int .i64 y] W (Ret W (.bool (orB z y))) := fun W => or_any z hn y W
  have hfin : (copyZ z x y d).c = z.c := by unfold copyZ; rw [if_neg h]
  rw [hfin]
  clear hfin
  by_cases h1 : varB z x = true
  · have h2 : orB z y = false := by simpa [h1] using h
    rw [h1] at hx
    rw [h2] at hy
    have HX := Lib.hid hx
    have HY := Lib.hid hy
    clear hx hy h h1 h2
    go_enter Try.func23, Try.ntmps23
    go_wp2_with (first
      | (refine wpList_box_zone rfl 26 _ rfl _ _ _ rfl ?_; intro W hz hb hs; have hnc := hz.n_cell; have hbc := hz.b_cell) | (refine wpList_alloc_zone rfl 26 rfl zz ?_; intro W1 hz1 hb1 hs1; rw [hs.out] at hz1 hb1 hs1; have hz := hz.below hb1 (by omega); have hnc := hz.n_cell; have hbc := hz.b_cell; have hb := hb.trans (hb1.mono (by omega)); rw [hs.out]; clear hs hb1)
      | (refine load_z rfl _ rfl rfl hz ?_)
      | (go_at_call 79; ((with_reducible refine (HX.out _).mono ?_); rintro e W2 ⟨rfl, hb2⟩; have hz := hz.below hb2 hz.lt; have hz1 := hz1.below hb2 hz1.lt; have hnc := hz.n_cell; have hbc := hz.b_cell; have hb := hb.trans (hb2.mono hb.size); clear hb2))
      | (go_at_call 78; ((with_reducible refine (HY.out _).mono ?_); rintro e W2 ⟨rfl, hb2⟩; have hz := hz.below hb2 hz.lt; have hz1 := hz1.below hb2 hz1.lt; have hnc := hz.n_cell; have hbc := hz.b_cell; have hb := hb.trans (hb2.mono hb.size); clear hb2))
      | (refine store_z rfl _ _ rfl rfl rfl hz1 ?_; intro W4 hz4 hg4 hs4)
      | fail)
    exact bodyPost_ret (results_z rfl (by simp [Act.put]) hz4) rfl ⟨rfl, below_only hb hg4 hb.size (by omega)⟩
  · rw [show varB z x = false by simpa using h1] at hx
    have HX := Lib.hid hx
    clear hx h h1 hy
    go_enter Try.func23, Try.ntmps23
    go_wp2_with (first
      | (refine wpList_box_zone rfl 26 _ rfl _ _ _ rfl ?_; intro W hz hb hs; have hnc := hz.n_cell; have hbc := hz.b_cell) | (refine wpList_alloc_zone rfl 26 rfl zz ?_; intro W1 hz1 hb1 hs1; rw [hs.out] at hz1 hb1 hs1; have hz := hz.below hb1 (by omega); have hnc := hz.n_cell; have hbc := hz.b_cell; have hb := hb.trans (hb1.mono (by omega)); rw [hs.out]; clear hs hb1)
      | (refine load_z rfl _ rfl rfl hz ?_)
      | (go_at_call 79; ((with_reducible refine (HX.out _).mono ?_); rintro e W2 ⟨rfl, hb2⟩; have hz := hz.below hb2 hz.lt; have hz1 := hz1.below hb2 hz1.lt; have hnc := hz.n_cell; have hbc := hz.b_cell; have hb := hb.trans (hb2.mono hb.size); clear hb2))
      | (refine store_z rfl _ _ rfl rfl rfl hz1 ?_; intro W4 hz4 hg4 hs4)
      | fail)
    exact bodyPost_ret (results_z rfl (by simp [Act.put]) hz4) rfl ⟨rfl, below_only hb hg4 hb.size (by omega)⟩
theorem copy_any (z : Zn) (hn : z.n ≤ 6) (x y d : Int) (w : World) : Calls Try.prog 23 #[.agg z.c, .int .i64 x, .int .i64 y, .int .i64 d] w (Ret w (.agg (copyZ z x y d).c)) := by
  by_cases h : (varB z x && orB z y) = true
  · have h' := h
    simp only [Bool.and_eq_true] at h'
    by_cases hxy : x = y
    · subst hxy; exact copy_same z hn x d h'.1 w
    · exact copy_link z hn x y d hxy h'.1 h'.2 w
  · exact copy_not z hn x y d h w
end Go.Proofs.Ytgnkhncogfppgaa

namespace Go.Proofs.Ytgnkhncogfppgaa
open Go.RowKit
theorem zeros_any (n : Nat) (hn : n ≤ 6) (w : World) : Calls Try.prog 28 #[.int .i64 n] w (Ret w (.agg (zerosZ n).c)) := by
  have e : mn (mx (n : Int) 0) 6 = n := by unfold mn mx; split <;> split <;> omega
  have HE := Lib.hid e
  clear e
  go_enter Try.func28, Try.ntmps28
  go_wp2_with (first
    | (refine wpList_alloc_zone rfl 26 rfl zz ?_; intro W1 hz1 hb hs1)
    | (refine wpList_build_val rfl 26 _ rfl #[(0, .int .i64 n)] (by simp [Act.eval, HE.out]) _ (build_n n _) ?_)
    | (refine store_z rfl _ _ rfl rfl rfl hz1 ?_; intro W4 hz4 hg4 hs4)
    | fail)
  exact bodyPost_ret (results_z rfl (by simp [Act.put]) hz4) rfl ⟨rfl, below_only hb hg4 hb.size (by omega)⟩
/-- Where all between i, j and what is done of them is far. -/
def topP (n i j : Nat) : Mat := fun a b => if (a < i ∨ (a = i ∧ b < j)) ∧ a ≤ n ∧ b ≤ n ∧ a ≠ b then far else 0
theorem topP_next (n i j : Nat) (hi : i ≤ n) (hj : j ≤ n) (h : i ≠ j) : upd (topP n i j) i j far = topP n i (j + 1) := by
  funext a b
  unfold upd topP
  by_cases hab : a = i ∧ b = j
  · obtain ⟨rfl, rfl⟩ := hab
    rw [if_pos ⟨rfl, rfl⟩, if_pos (by omega)]
  · rw [if_neg hab]
    by_cases h2 : (a < i ∨ (a = i ∧ b < j)) ∧ a ≤ n ∧ b ≤ n ∧ a ≠ b
    · rw [if_pos h2, if_pos (by omega)]
    · rw [if_neg h2, if_neg (by omega)]
theorem topP_same (n i : Nat) : topP n i i = topP n i (i + 1) := by
  funext a b
  unfold topP
  by_cases h2 : (a < i ∨ (a = i ∧ b < i)) ∧ a ≤ n ∧ b ≤ n ∧ a ≠ b
  · rw [if_pos h2, if_pos (by omega)]
  · rw [if_neg h2, if_neg (by omega)]
theorem topP_row (n i : Nat) : topP n i (n + 1) = topP n (i + 1) 0 := by
  funext a b
  unfold topP
  by_cases h2 : (a < i ∨ (a = i ∧ b < n + 1)) ∧ a ≤ n ∧ b ≤ n ∧ a ≠ b
  · rw [if_pos h2, if_pos (by omega)]
  · rw [if_neg h2, if_neg (by omega)]
theorem topP_start (n : Nat) : topP n 0 0 = fun _ _ => 0 := by
  funext a b; unfold topP; rw [if_neg (by omega)]
theorem topP_end (n : Nat) : topP n (n + 1) 0 = topM n := by
  funext a b
  unfold topP topM
  by_cases h2 : a ≤ n ∧ b ≤ n ∧ a ≠ b
  · rw [if_pos h2, if_pos (by omega)]
  · rw [if_neg h2, if_neg (by omega)]
set_option maxHeartbeats 1000000 in
theorem top_any (n : Nat) (hn : n ≤ 6) (w : World) : Calls Try.prog 21 #[.int .i64 n] w (Ret w (.agg (topZ n).c)) := by
  have e : mn (mx (n : Int) 0) 6 = n := by unfold mn mx; split <;> split <;> omega
  have HE := Lib.hid e
  have hc : ∀ (W : World), Calls Try.prog 77 #[.agg (zc n false (topM n))] W (Ret W (.agg (topZ n).c)) := fun W => close_any ⟨n, false, topM n⟩ hn W
  have HC := Lib.hid hc
  clear e hc
  go_enter Try.func21, Try.ntmps21
  go_wp2_with (first
    | (have _t := hzR; refine wpList_alloc_zone rfl 26 rfl zz ?_; intro W1 hz hb1 hs1; rw [hs.out] at hz hb1 hs1; have hz1 := hzR.below hb1 (by omega); have hb := hb.trans (hb1.mono (by omega)); rw [hs.out]; clear hzR hs hb1 _t)
    | (refine wpList_alloc_zone rfl 26 rfl zz ?_; intro W hzR hb hs)
    | (refine wpList_build_val rfl 26 _ rfl #[(0, .int .i64 n)] (by simp [Act.eval, HE.out]) _ (build_n n _) ?_)
    | (refine store_z rfl _ _ rfl rfl rfl hz ?_; intro W4 hz4 hg4 hs4; have hz := hz4; have hz1 := hz1.only hg4 (by omega); have hb := below_only hb hg4 hb.size (by omega); have hnc := hz.n_cell; clear hz4 hg4)
    | fail)
  have HZ : Hid (ZAt 26 W4 (w.heap.size + 1) n false (topP n 0 0)) := by rw [topP_start]; exact hz
  have HZ1 := Lib.hid hz1
  have HB := Lib.hid hb
  clear hz hz1 hb hnc
  go_loopw [4] (fun i_ wr => ∃ i : Nat, i ≤ n + 1 ∧ i_ = .int .i64 (i : Int) ∧ Hid (Below w.heap.size w wr) ∧ Hid (ZAt 26 wr (w.heap.size + 1) n false (topP n i 0)) ∧ Hid (ZAt 26 wr w.heap.size 0 false zeroM)) (fun i _ => n + 2 - (intOf i).toNat)
  case atStart => exact ⟨0, Nat.zero_le _, rfl, HB, HZ, HZ1⟩
  case round =>
    clear HB HZ HZ1
    obtain ⟨i, hi, rfl, HB, HZ, HZ1⟩ := hrel
    have hnc := HZ.out.n_cell
    by_cases hlt : i ≤ n
    · go_wp2
      go_loopw [5] (fun j_ wr => ∃ j : Nat, j ≤ n + 1 ∧ j_ = .int .i64 (j : Int) ∧ Hid (Below w.heap.size w wr) ∧ Hid (ZAt 26 wr (w.heap.size + 1) n false (topP n i j)) ∧ Hid (ZAt 26 wr w.heap.size 0 false zeroM)) (fun i _ => n + 2 - (intOf i).toNat)
      case atStart => exact ⟨0, Nat.zero_le _, rfl, HB, HZ, HZ1⟩
      case round =>
        clear HB HZ HZ1 hnc
        obtain ⟨j, hj, rfl, HB, HZ, HZ1⟩ := hrel
        have hnc := HZ.out.n_cell
        by_cases hlj : j ≤ n
        · by_cases hij : i = j
          · subst hij
            go_wp2
            go_roundw
            case rel => exact ⟨i + 1, by omega, by go_num, HB, by rw [← topP_same]; exact HZ, HZ1⟩
            case measure => simp [intOf]; omega
          · have hne : ((i : Int) != (j : Int)) = true := by simp; omega
            have c1 := HZ.out.cell i j (by omega) (by omega)
            have f1 := HZ.out.frozen (2 + i * 7 + j)
            have s1 := Lib.hid (HZ.out.set i j far (by omega) (by omega))
            rw [topP_next n i j hlt hlj hij] at s1
            have s2 := Lib.hid (HZ1.out.set_other (a := ⟨w.heap.size + 1, 2 + i * 7 + j, none⟩) (by simp) (.int .i64 far))
            have s3 := Lib.hid (HB.out.setCell (p := ⟨w.heap.size + 1, 2 + i * 7 + j, none⟩) (by simp) (.int .i64 far))
            go_wp2
            go_roundw
            case rel => exact ⟨j + 1, by omega, by go_num, s3, s1, s2⟩
            case measure => simp [intOf]; omega
        · obtain rfl : j = n + 1 := by omega
          rw [topP_row] at HZ
          go_wp2
          go_roundw
          case rel => exact ⟨i + 1, by omega, by go_num, HB, HZ, HZ1⟩
          case measure => simp [intOf]; omega
    · obtain rfl : i = n + 1 := by omega
      rw [topP_end] at HZ
      have hz := HZ.out
      have hz1 := HZ1.out
      have hb := HB.out
      have hbc := hz.b_cell
      go_wp2_with (first
        | (refine load_z rfl _ rfl rfl hz ?_)
        | (go_at_call 77; ((with_reducible refine (HC.out _).mono ?_); rintro e W2 ⟨rfl, hb2⟩; have hz := hz.below hb2 hz.lt; have hz1 := hz1.below hb2 hz1.lt; have hnc := hz.n_cell; have hbc := hz.b_cell; have hb := hb.trans (hb2.mono hb.size); clear hb2))
        | (refine store_z rfl _ _ rfl rfl rfl hz1 ?_; intro W4 hz4 hg4 hs4)
        | fail)
      exact bodyPost_ret (results_z rfl (by simp [Act.put]) hz4) rfl ⟨rfl, below_only hb hg4 hb.size (by omega)⟩
end Go.Proofs.Ytgnkhncogfppgaa

namespace Go.Proofs.Ytgnkhncogfppgaa
open Go.RowKit
theorem inone_any (w : World) : Calls Try.prog 32 #[] w (Ret w (.agg (ic 1 0))) := by
  go_enter Try.func32, Try.ntmps32
  go_wp2_with (first
    | (refine alloc_row rfl 32 rfl _ iz32 ?_; intro W1 hz1 hb hs1)
    | (refine wpList_build_val rfl 32 _ rfl #[(0, .int .i64 1), (1, .int .i64 0)] (by simp [Act.eval]) _ (build_i _ _ _) ?_)
    | (refine store_i rfl _ _ rfl rfl rfl hz1 ?_; intro W4 hz4 hg4 hs4)
    | fail)
  exact bodyPost_ret (results_i rfl (by simp [Act.put]) hz4) rfl ⟨rfl, below_only hb hg4 hb.size (by omega)⟩
theorem iall_any (w : World) : Calls Try.prog 45 #[] w (Ret w (.agg (ic (-2147483648) 2147483647))) := by
  go_enter Try.func45, Try.ntmps45
  go_wp2_with (first
    | (refine alloc_row rfl 32 rfl _ iz32 ?_; intro W1 hz1 hb hs1)
    | (refine wpList_build_val rfl 32 _ rfl #[(0, .int .i64 (-2147483648)), (1, .int .i64 2147483647)] (by simp [Act.eval]) _ (build_i _ _ _) ?_)
    | (refine store_i rfl _ _ rfl rfl rfl hz1 ?_; intro W4 hz4 hg4 hs4)
    | fail)
  exact bodyPost_ret (results_i rfl (by simp [Act.put]) hz4) rfl ⟨rfl, below_only hb hg4 hb.size (by omega)⟩
theorem empty_any (lo hi : Int) (w : World) : Calls Try.prog 40 #[.agg (ic lo hi)] w (Ret w (.bool (decide (hi < lo)))) := by
  go_enter Try.func40, Try.ntmps40
  go_wp2_with (first
    | (refine box_row rfl 32 _ rfl _ rfl ?_; intro W hz hb hs; have c0 := hz.cell' 0 rfl; have c1 := hz.cell' 1 rfl)
    | fail)
  go_ret
  exact ⟨rfl, hb⟩
/-- As it is told: the empty one is 1 to 0. -/
def nrm (lo hi : Int) : Int × Int := if hi < lo then (1, 0) else (lo, hi)
def ofP (lo hi : Int) : Int × Int := nrm (mx lo (-2147483648)) (mn hi 2147483647)
/-- An Itv as a value. -/
abbrev iv (p : Int × Int) : Value := .agg (ic p.1 p.2)
theorem norm_any (lo hi : Int) (w : World) : Calls Try.prog 91 #[.agg (ic lo hi)] w (Ret w (iv (nrm lo hi))) := by
  have he : ∀ W : World, Calls Try.prog 40 #[.agg (ic lo hi)] W (Ret W (.bool (decide (hi < lo)))) := fun W => empty_any lo hi W
  by_cases h : hi < lo
  · rw [show decide (hi < lo) = true by simpa using h] at he
    have HE := Lib.hid he
    have hfin : nrm lo hi = (1, 0) := by unfold nrm; rw [if_pos h]
    rw [hfin]
    clear he h hfin
    go_enter Try.func91, Try.ntmps91
    go_wp2_with (first
      | (refine box_row rfl 32 _ rfl _ rfl ?_; intro W hz hb hs)
      | (refine alloc_row rfl 32 rfl _ iz32 ?_; intro W1 hz1 hb1 hs1; rw [hs.out] at hz1 hb1 hs1; have hz := hz.below hb1 (by omega); have hb := hb.trans (hb1.mono (by omega)); rw [hs.out]; clear hs hb1)
      | (refine load_i rfl _ rfl rfl hz ?_)
      | (go_at_call 40; ((with_reducible refine (HE.out _).mono ?_); rintro e W2 ⟨rfl, hb2⟩; have hz := hz.on hb2; have hz1 := hz1.on hb2; have hb := hb.trans (hb2.mono hb.size); clear hb2))
      | (go_at_call 32; ((with_reducible refine (inone_any _).mono ?_); rintro e W2 ⟨rfl, hb2⟩; have hz := hz.on hb2; have hz1 := hz1.on hb2; have hb := hb.trans (hb2.mono hb.size); clear hb2))
      | (refine store_i rfl _ _ rfl rfl rfl hz1 ?_; intro W4 hz4 hg4 hs4)
      | fail)
    exact bodyPost_ret (results_i rfl (by simp [Act.put]) hz4) rfl ⟨rfl, below_only hb hg4 hb.size (by omega)⟩
  · rw [show decide (hi < lo) = false by simpa using h] at he
    have HE := Lib.hid he
    have hfin : nrm lo hi = (lo, hi) := by unfold nrm; rw [if_neg h]
    rw [hfin]
    clear he h hfin
    go_enter Try.func91, Try.ntmps91
    go_wp2_with (first
      | (refine box_row rfl 32 _ rfl _ rfl ?_; intro W hz hb hs)
      | (refine alloc_row rfl 32 rfl _ iz32 ?_; intro W1 hz1 hb1 hs1; rw [hs.out] at hz1 hb1 hs1; have hz := hz.below hb1 (by omega); have hb := hb.trans (hb1.mono (by omega)); rw [hs.out]; clear hs hb1)
      | (refine load_i rfl _ rfl rfl hz ?_)
      | (go_at_call 40; ((with_reducible refine (HE.out _).mono ?_); rintro e W2 ⟨rfl, hb2⟩; have hz := hz.on hb2; have hz1 := hz1.on hb2; have hb := hb.trans (hb2.mono hb.size); clear hb2))
      | (refine store_i rfl _ _ rfl rfl rfl hz1 ?_; intro W4 hz4 hg4 hs4)
      | fail)
    exact bodyPost_ret (results_i rfl (by simp [Act.put]) hz4) rfl ⟨rfl, below_only hb hg4 hb.size (by omega)⟩
theorem of_any (lo hi : Int) (w : World) : Calls Try.prog 49 #[.int .i64 lo, .int .i64 hi] w (Ret w (iv (ofP lo hi))) := by
  have he : ∀ W : World, Calls Try.prog 91 #[.agg (ic (mx lo (-2147483648)) (mn hi 2147483647))] W (Ret W (iv (ofP lo hi))) := fun W => norm_any _ _ W
  have HE := Lib.hid he
  clear he
  go_enter Try.func49, Try.ntmps49
  go_wp2_with (first
    | (refine alloc_row rfl 32 rfl _ iz32 ?_; intro W1 hz1 hb hs1)
    | (refine wpList_build_val rfl 32 _ rfl #[(0, .int .i64 (mx lo (-2147483648))), (1, .int .i64 (mn hi 2147483647))] (by simp [Act.eval]) _ (build_i _ _ _) ?_)
    | (go_at_call 91; ((with_reducible refine (HE.out _).mono ?_); rintro e W2 ⟨rfl, hb2⟩; have hz1 := hz1.on hb2; have hb := hb.trans (hb2.mono hb.size); clear hb2))
    | (refine store_i rfl _ _ rfl rfl rfl hz1 ?_; intro W4 hz4 hg4 hs4)
    | fail)
  exact bodyPost_ret (results_i rfl (by simp [Act.put]) hz4) rfl ⟨rfl, below_only hb hg4 hb.size (by omega)⟩
theorem const_any (n : Int) (w : World) : Calls Try.prog 26 #[.int .i64 n] w (Ret w (iv (ofP n n))) := by
  go_enter Try.func26, Try.ntmps26
  go_wp2_with (first
    | (refine alloc_row rfl 32 rfl _ iz32 ?_; intro W1 hz1 hb hs1)
    | (go_at_call 49; ((with_reducible refine (of_any _ _ _).mono ?_); rintro e W2 ⟨rfl, hb2⟩; have hz1 := hz1.on hb2; have hb := hb.trans (hb2.mono hb.size); clear hb2))
    | (refine store_i rfl _ _ rfl rfl rfl hz1 ?_; intro W4 hz4 hg4 hs4)
    | fail)
  exact bodyPost_ret (results_i rfl (by simp [Act.put]) hz4) rfl ⟨rfl, below_only hb hg4 hb.size (by omega)⟩
theorem ihas_any (lo hi n : Int) (w : World) : Calls Try.prog 73 #[.agg (ic lo hi), .int .i64 n] w (Ret w (.bool (decide (lo ≤ n ∧ n ≤ hi)))) := by
  by_cases h1 : lo ≤ n <;> by_cases h2 : n ≤ hi
  all_goals
    go_enter Try.func73, Try.ntmps73
    go_wp2_with (first
      | (refine box_row rfl 32 _ rfl _ rfl ?_; intro W hz hb hs; have c0 := hz.cell' 0 rfl; have c1 := hz.cell' 1 rfl)
      | fail)
    go_ret
    exact ⟨by simp [h1, h2], hb⟩
@[go_sem high] theorem eql_i (a b c d : Int) (w : World) : (binOp .eql 32 (.agg (ic a b)) (.agg (ic c d))).run Try.prog w = .ok (.bool (decide (a = c ∧ b = d))) w := by
  by_cases h1 : a = c <;> by_cases h2 : b = d <;> simp [go_sem, h1, h2, Try.underlying32, Try.stoodInHeld32]
end Go.Proofs.Ytgnkhncogfppgaa

namespace Go.Proofs.Ytgnkhncogfppgaa
open Go.RowKit
def itvZ (z : Zn) (x : Int) : Int × Int := if varB z x then ofP (w64 (-(z.D 0 (x + 1).toNat))) (z.D (x + 1).toNat 0) else (1, 0)
set_option maxRecDepth 100000 in
set_option maxHeartbeats 400000 in
theorem zitv_any (z : Zn) (hn : z.n ≤ 6) (x : Int) (w : World) : Calls Try.prog 25 #[.agg z.c, .int .i64 x] w (Ret w (iv (itvZ z x))) := by
  have hx : ∀ (W : World), Calls Try.prog 79 #[.agg (zc z.n z.none z.D), .int .i64 x] W (Ret W (.bool (varB z x))) := fun W => var_any z hn x W
  by_cases h1 : varB z x = true
  · have hfin : itvZ z x = ofP (w64 (-(z.D 0 (x + 1).toNat))) (z.D (x + 1).toNat 0) := by unfold itvZ; rw [h1]; rfl
    have HF := Lib.hid hfin
    clear hfin
    rw [h1] at hx
    have HX := Lib.hid hx
    clear hx
    have hxx : 0 ≤ x ∧ x < z.n := by simp [varB] at h1; omega
    clear h1
    obtain ⟨i, rfl⟩ : ∃ i : Nat, x = (i : Int) := ⟨x.toNat, by omega⟩
    rw [show ((i : Int) + 1).toNat = i + 1 by omega] at HF
    have hi : i < z.n := by omega
    clear hxx
    go_enter Try.func25, Try.ntmps25
    go_wp2_with (first
      | (refine wpList_box_zone rfl 26 _ rfl _ _ _ rfl ?_; intro W hz hb hs; have hnc := hz.n_cell; have hbc := hz.b_cell)
      | (refine alloc_row rfl 32 rfl _ iz32 ?_; intro W1 hz1 hb1 hs1; rw [hs.out] at hz1 hb1 hs1; have hz := hz.below hb1 (by omega); have hb := hb.trans (hb1.mono (by omega)); rw [hs.out]; clear hs hb1)
      | (refine load_z rfl _ rfl rfl hz ?_)
      | (go_at_call 79; ((with_reducible refine (HX.out _).mono ?_); rintro e W2 ⟨rfl, hb2⟩; have hz := hz.on hb2; have hz1 := hz1.on hb2; have hb := hb.trans (hb2.mono hb.size); clear hb2))
      | fail)
    have c1 := hz.cell 0 (i + 1) (by omega) (by omega)
    have c2 := hz.cell (i + 1) 0 (by omega) (by omega)
    simp only [Nat.zero_mul, Nat.add_zero] at c1 c2
    have e1 : IntKind.i64.wrap ((i : Int) + 1) = (i : Int) + 1 := IntWalk.i64_in _ (by omega)
    have e2 : (0 : Int) ≤ (i : Int) + 1 := by omega
    have e3 : (i : Int) + 1 < 7 := by omega
    have e4 : ((i : Int) + 1).toNat = i + 1 := by omega
    go_still_tail 13, (by kernel_rfl)
    change wpList _ _ _ _ _ W2.drew
    rw [IntWalk.i64_left]
    have hz1 := hz1.drew
    have hb := hb.drew
    have ho : ∀ W : World, Calls Try.prog 49 #[.int .i64 (wrap64 (-z.D 0 (i + 1))), .int .i64 (z.D (i + 1) 0)] W (Ret W (iv (itvZ z i))) := fun W => by
      rw [HF.out, ← wrap64_w64]; exact of_any _ _ W
    have HO := Lib.hid ho
    clear ho e1 e2 e3 e4 c1 c2 hz
    generalize W2.drew = w2 at *
    go_wp2_with (first
      | (go_at_call 49; ((with_reducible refine (HO.out _).mono ?_); rintro e W3 ⟨rfl, hb2⟩; have hz1 := hz1.on hb2; have hb := hb.trans (hb2.mono hb.size); clear hb2))
      | (refine store_i rfl _ _ rfl rfl rfl hz1 ?_; intro W4 hz4 hg4 hs4)
      | fail)
    exact bodyPost_ret (results_i rfl (by simp [Act.put]) hz4) rfl ⟨rfl, below_only hb hg4 hb.size (by omega)⟩
  · have hfin : itvZ z x = (1, 0) := by unfold itvZ; rw [if_neg h1]
    rw [hfin]
    clear hfin
    rw [show varB z x = false by simpa using h1] at hx
    have HX := Lib.hid hx
    clear hx h1
    go_enter Try.func25, Try.ntmps25
    go_wp2_with (first
      | (refine wpList_box_zone rfl 26 _ rfl _ _ _ rfl ?_; intro W hz hb hs; have hnc := hz.n_cell; have hbc := hz.b_cell)
      | (refine alloc_row rfl 32 rfl _ iz32 ?_; intro W1 hz1 hb1 hs1; rw [hs.out] at hz1 hb1 hs1; have hz := hz.below hb1 (by omega); have hb := hb.trans (hb1.mono (by omega)); rw [hs.out]; clear hs hb1)
      | (refine load_z rfl _ rfl rfl hz ?_)
      | (go_at_call 79; ((with_reducible refine (HX.out _).mono ?_); rintro e W2 ⟨rfl, hb2⟩; have hz := hz.on hb2; have hz1 := hz1.on hb2; have hb := hb.trans (hb2.mono hb.size); clear hb2))
      | (go_at_call 32; ((with_reducible refine (inone_any _).mono ?_); rintro e W2 ⟨rfl, hb2⟩; have hz := hz.on hb2; have hz1 := hz1.on hb2; have hb := hb.trans (hb2.mono hb.size); clear hb2))
      | (refine store_i rfl _ _ rfl rfl rfl hz1 ?_; intro W4 hz4 hg4 hs4)
      | fail)
    exact bodyPost_ret (results_i rfl (by simp [Act.put]) hz4) rfl ⟨rfl, below_only hb hg4 hb.size (by omega)⟩
end Go.Proofs.Ytgnkhncogfppgaa
