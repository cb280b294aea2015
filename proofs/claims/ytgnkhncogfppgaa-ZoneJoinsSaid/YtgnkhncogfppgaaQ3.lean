import Derived.Test.YtgnkhncogfppgaaQ2
/-!
A region that draws its order, taken order by order: one goal for each operation that may come next.
-/
namespace Go.Proofs.Ytgnkhncogfppgaa
open Go.RowKit
section
variable {P : Program} {md : Region.Mode} {ops : Array Oper} {Q : Exit → Act → World → Prop} {fuel : Nat} {listed : Array Bool} {a : Act} {w : World}
theorem wpAny_one {i : Nat} (h : Region.ready md ops listed = [i]) (k : wpOp P ops Q i (wpAny P md ops Q fuel (listed.setIfInBounds i true)) a w) : wpAny P md ops Q (fuel + 1) listed a w :=
  ⟨fun e => (by rw [h] at e; cases e), fun j hj => (by rw [h] at hj; simp at hj; subst hj; exact k)⟩
theorem wpAny_two {i j : Nat} (h : Region.ready md ops listed = [i, j]) (k : wpOp P ops Q i (wpAny P md ops Q fuel (listed.setIfInBounds i true)) a w) (k2 : wpOp P ops Q j (wpAny P md ops Q fuel (listed.setIfInBounds j true)) a w) :
    wpAny P md ops Q (fuel + 1) listed a w :=
  ⟨fun e => (by rw [h] at e; cases e), fun x hx => (by
    rw [h] at hx; simp at hx
    rcases hx with rfl | rfl
    · exact k
    · exact k2)⟩
theorem wpAny_done (h : Region.ready md ops listed = []) (k : Q .normal a w) : wpAny P md ops Q 0 listed a w := ⟨h, k⟩
theorem wpOp_of {i : Nat} {o : Oper} {K : Act → World → Prop} (ho : ops[i]? = some o) (hw : Region.wanted o (yielded ops a.tmps) = true) (h : o.wp P a w K Q) : wpOp P ops Q i K a w := by
  unfold wpOp
  simp only [ho, hw, if_true]
  exact Or.inl h
end
section
variable {md : Region.Mode} {ops : Array Oper} {Q : Exit → Act → World → Prop} {a : Act} {w : World} {K : Act → World → Prop} {o : Oper} {g i : Nat} {T : TypeId} {n : Int} {b : Bool} {D : Mat}
theorem op_load_z (hi : ops[i]? = some o) (hw : Region.wanted o (yielded ops a.tmps) = true) (x : Operand) (ho : o.op = .load 26 x) (hx : a.eval x = .pointer (some ⟨g, 0, none⟩)) (hz : ZAt T w g n b D)
    (h : K (a.put o.dst (.agg (zc n b D))) w) : wpOp Try.prog ops Q i K a w :=
  wpOp_of hi hw (wp_load_row _ x ho g hx T _ _ _ hz Try.underlying26 rfl (by rw [zc_size]; exact zsz) h)
theorem op_load_r (hi : ops[i]? = some o) (hw : Region.wanted o (yielded ops a.tmps) = true) (x : Operand) (ho : o.op = .load 38 x) (hx : a.eval x = .pointer (some ⟨g, 0, none⟩)) (hz : ZAt T w g n b D)
    (h : K (a.put o.dst (.agg (zc n b D))) w) : wpOp Try.prog ops Q i K a w :=
  wpOp_of hi hw (wp_load_row _ x ho g hx T _ _ _ hz Try.underlying38 rfl (by rw [zc_size]; exact rsz) h)
theorem op_store_z (hi : ops[i]? = some o) (hw : Region.wanted o (yielded ops a.tmps) = true) (x y : Operand) (ho : o.op = .store 26 x y) (hx : a.eval x = .pointer (some ⟨g, 0, none⟩)) {m : Int} {c : Bool} {E : Mat}
    (hy : a.eval y = .agg (zc m c E)) (hz : ZAt T w g n b D) (h : ∀ W, ZAt T W g m c E → w.grownBy W (some g) → K (a.put o.dst undef) W) : wpOp Try.prog ops Q i K a w :=
  wpOp_of hi hw (wp_store_row _ x y ho g hx _ hy T _ hz (by simp [zc_size]) (by rw [zc_size]; exact zsz) (zc_one _ _ _) (h _ (setRow_heap w g _ _ T _ hz) ⟨rfl, rfl, rfl, by simp, fun k _ hk => Go.setRow_other w g k _ (fun e => hk (by rw [e]))⟩))
theorem op_store_r (hi : ops[i]? = some o) (hw : Region.wanted o (yielded ops a.tmps) = true) (x y : Operand) (ho : o.op = .store 38 x y) (hx : a.eval x = .pointer (some ⟨g, 0, none⟩)) {m : Int} {c : Bool} {E : Mat}
    (hy : a.eval y = .agg (zc m c E)) (hz : ZAt T w g n b D) (h : ∀ W, ZAt T W g m c E → w.grownBy W (some g) → K (a.put o.dst undef) W) : wpOp Try.prog ops Q i K a w :=
  wpOp_of hi hw (wp_store_row _ x y ho g hx _ hy T _ hz (by simp [zc_size]) (by rw [zc_size]; exact rsz) (zc_one _ _ _) (h _ (setRow_heap w g _ _ T _ hz) ⟨rfl, rfl, rfl, by simp, fun k _ hk => Go.setRow_other w g k _ (fun e => hk (by rw [e]))⟩))
theorem op_assign (hi : ops[i]? = some o) (hw : Region.wanted o (yielded ops a.tmps) = true) (x : Operand) (ho : o.op = .assign x) (h : K (a.put o.dst (a.eval x)) w) : wpOp Try.prog ops Q i K a w :=
  wpOp_of hi hw (by unfold Oper.wp execOp; simp only [ho]; exact h)
end
section
variable {ops : Array Oper} {rest : List Oper} {o : Oper} {a : Act} {w0 : World} {L : Act → Prop} {g : Nat} {T : TypeId}
theorem lex_load_i (hw : Region.wanted o (yielded ops a.tmps) = true) (x : Operand) (ho : o.op = .load 32 x) (hx : a.eval x = .pointer (some ⟨g, 0, none⟩)) {lo hi : Int} (hz : RowAt T w0 g (ic lo hi))
    (h : lexQ Try.prog ops w0 L rest (a.put o.dst (.agg (ic lo hi)))) : lexQ Try.prog ops w0 L (o :: rest) a :=
  lex_load_row hw 32 x ho g hx _ Try.underlying32 rfl hz isz32 h
theorem lex_load_int (hw : Region.wanted o (yielded ops a.tmps) = true) (x : Operand) (ho : o.op = .load 3 x) {k : Nat} (hx : a.eval x = .pointer (some ⟨g, k, none⟩)) {v : Value} (hz : w0.cell? ⟨g, k, none⟩ = some v)
    (h : lexQ Try.prog ops w0 L rest (a.put o.dst v)) : lexQ Try.prog ops w0 L (o :: rest) a :=
  lex_load_cell hw 3 x ho g k hx _ Try.underlying3 rfl hz h
theorem lex_load_bool (hw : Region.wanted o (yielded ops a.tmps) = true) (x : Operand) (ho : o.op = .load 4 x) {k : Nat} (hx : a.eval x = .pointer (some ⟨g, k, none⟩)) {v : Value} (hz : w0.cell? ⟨g, k, none⟩ = some v)
    (h : lexQ Try.prog ops w0 L rest (a.put o.dst v)) : lexQ Try.prog ops w0 L (o :: rest) a :=
  lex_load_cell hw 4 x ho g k hx _ Try.underlying4 rfl hz h
theorem lex_build_i (hw : Region.wanted o (yielded ops a.tmps) = true) (x y : Operand) (ho : o.op = .build 32 #[(0, x), (1, y)]) {lo hi : Int} (hx : a.eval x = .int .i64 lo) (hy : a.eval y = .int .i64 hi)
    (h : lexQ Try.prog ops w0 L rest (a.put o.dst (.agg (ic lo hi)))) : lexQ Try.prog ops w0 L (o :: rest) a :=
  lex_pure hw (by simp [isNew, ho]) (.agg (ic lo hi)) (fun W => by
    unfold execOp
    simp [ho, hx, hy, build_i]) h
end
end Go.Proofs.Ytgnkhncogfppgaa
