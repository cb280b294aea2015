import Derived.Test.YtgnkhncogfppgaaA1
namespace Go.Proofs.Ytgnkhncogfppgaa
open Go.RowKit
/-- Block g of w holds these cells. -/
def RowAt (T : TypeId) (w : World) (g : Nat) (cs : Array Value) : Prop := w.heap[g]? = some (.cells cs T (0, 0))
section
variable {T : TypeId} {w : World} {g : Nat} {cs : Array Value}
theorem RowAt.lt (h : RowAt T w g cs) : g < w.heap.size := (Array.getElem?_eq_some_iff.1 h).1
theorem RowAt.cell (h : RowAt T w g cs) (k : Nat) : w.cell? ⟨g, k, none⟩ = cs[k]? := cell_of_row w g k _ T _ h
theorem RowAt.cell' (h : RowAt T w g cs) (k : Nat) {v : Value} (hv : cs[k]? = some v) : w.cell? ⟨g, k, none⟩ = some v := (cell_of_row w g k _ T _ h).trans hv
theorem RowAt.frozen (h : RowAt T w g cs) (k : Nat) : w.frozen? ⟨g, k, none⟩ = false := frozen_of_row w g k _ T h
theorem RowAt.set (h : RowAt T w g cs) (k : Nat) (v : Value) : RowAt T (w.setCell ⟨g, k, none⟩ v) g (cs.setIfInBounds k v) := heap_setCell_same w g _ _ T _ h
theorem RowAt.set_other (h : RowAt T w g cs) {a : Addr} (ha : a.block ≠ g) (v : Value) : RowAt T (w.setCell a v) g cs := by
  unfold RowAt; rw [heap_setCell_other w a g v (Ne.symm ha)]; exact h
theorem RowAt.below (h : RowAt T w g cs) {w' : World} {B : Nat} (hb : Below B w w') (hg : g < B) : RowAt T w' g cs := (hb.block g hg).trans h
theorem RowAt.on (h : RowAt T w g cs) {w' : World} (hb : Below w.heap.size w w') : RowAt T w' g cs := h.below hb h.lt
theorem RowAt.only {W : World} {k : Nat} (h : RowAt T w k cs) (hg : w.grownBy W (some g)) (hne : k ≠ g) : RowAt T W k cs :=
  (hg.block k h.lt (fun e => hne (by injection e))).trans h
theorem RowAt.drew (h : RowAt T w g cs) : RowAt T w.drew g cs := h
theorem RowAt.drewN (h : RowAt T w g cs) (k : Nat) : RowAt T (w.drewN k) g cs := h
end
theorem ZAt.on {T : TypeId} {w w' : World} {g : Nat} {n : Int} {b : Bool} {D : Mat} (h : ZAt T w g n b D) (hb : Below w.heap.size w w') : ZAt T w' g n b D := h.below hb h.lt
section
variable {P : Program} {ops : Array Oper} {rest : List Oper} {o : Oper} {a : Act} {w : World} {Q : Exit → Act → World → Prop}
theorem box_row (hgd : Region.wanted o (yielded ops a.tmps) = true) (T : TypeId) (x : Operand) (ho : o.op = .box T x) (cs : Array Value) (hx : a.eval x = .agg cs)
    (h : ∀ W, RowAt T W w.heap.size cs → Below w.heap.size w W → Hid (W.heap.size = w.heap.size + 1) → wpList P ops Q rest (a.put o.dst (.pointer (some ⟨w.heap.size, 0, none⟩))) W) : wpList P ops Q (o :: rest) a w := by
  refine wpList_want hgd fun K hK => ?_
  have h' := hK _ _ (h (w.alloc (.cells cs T)) (Go.heap_alloc_new w _) ((Below.refl _ _).alloc (Nat.le_refl _) _) (by unfold Hid; simp))
  unfold Oper.wp execOp
  simp only [ho, hx, Instr.box, newVar, newRow, newObj, Value.cells, Sem.run_bind, Sem.run_pure]
  exact h'
theorem alloc_row (hgd : Region.wanted o (yielded ops a.tmps) = true) (T : TypeId) (ho : o.op = .alloc T) (v : Value) (hz : (P.info? T).bind (·.zero) = some v)
    (h : ∀ W, RowAt T W w.heap.size v.cells → Below w.heap.size w W → Hid (W.heap.size = w.heap.size + 1) → wpList P ops Q rest (a.put o.dst (.pointer (some ⟨w.heap.size, 0, none⟩))) W) : wpList P ops Q (o :: rest) a w := by
  refine wpList_want hgd fun K hK => ?_
  have h' := hK _ _ (h (w.alloc (.cells v.cells T)) (Go.heap_alloc_new w _) ((Below.refl _ _).alloc (Nat.le_refl _) _) (by unfold Hid; simp))
  cases hq : P.info? T with
  | none => simp [hq] at hz
  | some i =>
    have hz' : i.zero = some v := by simpa [hq] using hz
    have hr : (Instr.alloc T true (.tuple #[])).run P w = .ok (.pointer (some ⟨w.heap.size, 0, none⟩)) (w.alloc (.cells v.cells T)) := by
      simp [Instr.alloc, zeroValue, typeInfo, hq, hz', newVar, newRow, newObj]; rfl
    unfold Oper.wp execOp
    simp only [ho, Sem.run_bind, hr, Sem.run_pure]
    exact h'
theorem load_row (hgd : Region.wanted o (yielded ops a.tmps) = true) (ty : TypeId) (x : Operand) (ho : o.op = .load ty x) (g : Nat) (hx : a.eval x = .pointer (some ⟨g, 0, none⟩)) (d : TypeDesc) (hu : P.underlying ty = some d)
    (hd : (match d with | .struct _ | .array _ _ => true | _ => false) = true) {T : TypeId} {cs : Array Value} (hz : RowAt T w g cs) (hi : (P.info? ty).map (·.size) = some cs.size)
    (h : wpList P ops Q rest (a.put o.dst (.agg cs)) w) : wpList P ops Q (o :: rest) a w :=
  wpList_want hgd fun _ hK => wp_load_row ty x ho g hx T _ _ d hz hu hd hi (hK _ _ h)
theorem store_row (hgd : Region.wanted o (yielded ops a.tmps) = true) (ty : TypeId) (x y : Operand) (ho : o.op = .store ty x y) (g : Nat) (hx : a.eval x = .pointer (some ⟨g, 0, none⟩)) (cs : Array Value)
    (hy : a.eval y = .agg cs) {T : TypeId} {cur : Array Value} (hz : RowAt T w g cur) (hs : cs.size = cur.size) (hi : (P.info? ty).map (·.size) = some cs.size) (h1 : ∀ v ∈ cs.toList, v.oneCell' = true)
    (h : ∀ W, RowAt T W g cs → w.grownBy W (some g) → Hid (W.heap.size = w.heap.size) → wpList P ops Q rest (a.put o.dst undef) W) : wpList P ops Q (o :: rest) a w :=
  wpList_want hgd fun _ hK => wp_store_row ty x y ho g hx _ hy T _ hz hs hi h1
    (hK _ _ <| h _ (setRow_heap w g _ _ T _ hz) ⟨rfl, rfl, rfl, by simp, fun k _ hk => Go.setRow_other w g k _ (fun e => hk (by rw [e]))⟩ (by unfold Hid; simp))
theorem results_row {fn : Func} {p : Tmp} {ty : TypeId} (h : fn.results = #[.cell p ty]) (tmps : Array Value) (w : World) (g : Nat) {T : TypeId} {cs : Array Value} (d : TypeDesc)
    (hp : tmps.getD p undef = .pointer (some ⟨g, 0, none⟩)) (hz : RowAt T w g cs) (hu : P.underlying ty = some d) (hd : (match d with | .struct _ | .array _ _ => true | _ => false) = true)
    (hi : (P.info? ty).map (·.size) = some cs.size) : (results fn tmps).run P w = .ok (.agg cs) w :=
  results_cell_row h tmps w g T _ _ d hp hz hu hd hi
end
/-- An Itv's cells. -/
abbrev ic (lo hi : Int) : Array Value := #[.int .i64 lo, .int .i64 hi]
theorem ic_one (lo hi : Int) : ∀ v ∈ (ic lo hi).toList, v.oneCell' = true := by intro v hv; simp at hv; rcases hv with rfl | rfl <;> rfl
theorem isz32 : (Try.prog.info? 32).map (·.size) = some 2 := by kernel_rfl
theorem iz32 : (Try.prog.info? 32).bind (·.zero) = some (.agg (ic 0 0)) := by kernel_rfl
theorem build_i (lo hi : Int) (w : World) : (Instr.build 32 #[(0, .int .i64 lo), (1, .int .i64 hi)]).run Try.prog w = .ok (.agg (ic lo hi)) w := by kernel_rfl
section
variable {ops : Array Oper} {rest : List Oper} {o : Oper} {a : Act} {w : World} {Q : Exit → Act → World → Prop} {g : Nat} {T : TypeId}
theorem load_i (hgd : Region.wanted o (yielded ops a.tmps) = true) (x : Operand) (ho : o.op = .load 32 x) (hx : a.eval x = .pointer (some ⟨g, 0, none⟩)) {lo hi : Int} (hz : RowAt T w g (ic lo hi))
    (h : wpList Try.prog ops Q rest (a.put o.dst (.agg (ic lo hi))) w) : wpList Try.prog ops Q (o :: rest) a w :=
  load_row hgd 32 x ho g hx _ Try.underlying32 rfl hz isz32 h
theorem store_i (hgd : Region.wanted o (yielded ops a.tmps) = true) (x y : Operand) (ho : o.op = .store 32 x y) (hx : a.eval x = .pointer (some ⟨g, 0, none⟩)) {lo hi lo' hi' : Int}
    (hy : a.eval y = .agg (ic lo hi)) (hz : RowAt T w g (ic lo' hi'))
    (h : ∀ W, RowAt T W g (ic lo hi) → w.grownBy W (some g) → Hid (W.heap.size = w.heap.size) → wpList Try.prog ops Q rest (a.put o.dst undef) W) : wpList Try.prog ops Q (o :: rest) a w :=
  store_row hgd 32 x y ho g hx _ hy hz rfl isz32 (ic_one _ _) h
theorem results_i {fn : Func} {p : Tmp} {tmps : Array Value} (h : fn.results = #[.cell p 32]) (hp : tmps.getD p undef = .pointer (some ⟨g, 0, none⟩)) {lo hi : Int} (hz : RowAt T w g (ic lo hi)) : (results fn tmps).run Try.prog w = .ok (.agg (ic lo hi)) w :=
  results_row h tmps w g _ hp hz Try.underlying32 rfl isz32
end
/-- What a call leaves: its result; of what was there nothing has turned. -/
abbrev Ret (w : World) (v : Value) : Ending → World → Prop := fun e w' => e = .returned v ∧ Below w.heap.size w w'
theorem Ret.of {w : World} {v v' : Value} {e : Ending} {w' : World} (h : Ret w v e w') (hv : v = v') : Ret w v' e w' := hv ▸ h
end Go.Proofs.Ytgnkhncogfppgaa
