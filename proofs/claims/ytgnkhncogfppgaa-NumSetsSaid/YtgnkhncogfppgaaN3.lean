import Derived.Test.YtgnkhncogfppgaaN1
namespace Go.Proofs.Ytgnkhncogfppgaa
open Go.RowKit
/-! The document's Itvs: two numbers in a row. -/
theorem isz8 : (Try.prog.info? 53).map (·.size) = some 2 := by kernel_rfl
theorem iz8 : (Try.prog.info? 53).bind (·.zero) = some (.agg (ic 0 0)) := by kernel_rfl
theorem build_8 (lo hi : Int) (w : World) : (Instr.build 53 #[(0, .int .i64 lo), (1, .int .i64 hi)]).run Try.prog w = .ok (.agg (ic lo hi)) w := by kernel_rfl
section
variable {ops : Array Oper} {rest : List Oper} {o : Oper} {a : Act} {w : World} {Q : Exit → Act → World → Prop} {g : Nat} {T : TypeId}
theorem load_8 (hgd : Region.wanted o (yielded ops a.tmps) = true) (x : Operand) (ho : o.op = .load 53 x) (hx : a.eval x = .pointer (some ⟨g, 0, none⟩)) {lo hi : Int} (hz : RowAt T w g (ic lo hi))
    (h : wpList Try.prog ops Q rest (a.put o.dst (.agg (ic lo hi))) w) : wpList Try.prog ops Q (o :: rest) a w :=
  load_row hgd 53 x ho g hx _ Try.underlying53 rfl hz isz8 h
theorem store_8 (hgd : Region.wanted o (yielded ops a.tmps) = true) (x y : Operand) (ho : o.op = .store 53 x y) (hx : a.eval x = .pointer (some ⟨g, 0, none⟩)) {lo hi lo' hi' : Int}
    (hy : a.eval y = .agg (ic lo hi)) (hz : RowAt T w g (ic lo' hi'))
    (h : ∀ W, RowAt T W g (ic lo hi) → w.grownBy W (some g) → Hid (W.heap.size = w.heap.size) → wpList Try.prog ops Q rest (a.put o.dst undef) W) : wpList Try.prog ops Q (o :: rest) a w :=
  store_row hgd 53 x y ho g hx _ hy hz rfl isz8 (ic_one _ _) h
theorem results_8 {fn : Func} {p : Tmp} {tmps : Array Value} (h : fn.results = #[.cell p 53]) (hp : tmps.getD p undef = .pointer (some ⟨g, 0, none⟩)) {lo hi : Int} (hz : RowAt T w g (ic lo hi)) : (results fn tmps).run Try.prog w = .ok (.agg (ic lo hi)) w :=
  results_row h tmps w g _ hp hz Try.underlying53 rfl isz8
end
theorem norm8_any (lo hi : Int) (w : World) : Calls Try.prog 35 #[.agg (ic lo hi)] w (Ret w (iv (nrm lo hi))) := by
  by_cases h : hi < lo
  · have hfin : nrm lo hi = (1, 0) := by unfold nrm; rw [if_pos h]
    rw [hfin]
    go_enter Try.func35, Try.ntmps35
    go_wp2_with (first
      | (refine box_row rfl 53 _ rfl _ rfl ?_; intro W hz hb hs)
      | (refine alloc_row rfl 53 rfl _ iz8 ?_; intro W1 hz1 hb1 hs1; rw [hs.out] at hz1 hb1 hs1; have hz := hz.below hb1 (by omega); have c0 := hz.cell' 0 rfl; have c1 := hz.cell' 1 rfl; have hb := hb.trans (hb1.mono (by omega)); rw [hs.out]; clear hs hb1)
      | (refine wpList_build_val rfl 53 _ rfl #[(0, .int .i64 1), (1, .int .i64 0)] (by simp [Act.eval]) _ (build_8 _ _ _) ?_)
      | (refine store_8 rfl _ _ rfl rfl rfl hz1 ?_; intro W4 hz4 hg4 hs4)
      | fail)
    exact bodyPost_ret (results_8 rfl (by simp [Act.put]) hz4) rfl ⟨rfl, below_only hb hg4 hb.size (by omega)⟩
  · have hfin : nrm lo hi = (lo, hi) := by unfold nrm; rw [if_neg h]
    rw [hfin]
    go_enter Try.func35, Try.ntmps35
    go_wp2_with (first
      | (refine box_row rfl 53 _ rfl _ rfl ?_; intro W hz hb hs)
      | (refine alloc_row rfl 53 rfl _ iz8 ?_; intro W1 hz1 hb1 hs1; rw [hs.out] at hz1 hb1 hs1; have hz := hz.below hb1 (by omega); have c0 := hz.cell' 0 rfl; have c1 := hz.cell' 1 rfl; have hb := hb.trans (hb1.mono (by omega)); rw [hs.out]; clear hs hb1)
      | (refine load_8 rfl _ rfl rfl hz ?_)
      | (refine store_8 rfl _ _ rfl rfl rfl hz1 ?_; intro W4 hz4 hg4 hs4)
      | fail)
    exact bodyPost_ret (results_8 rfl (by simp []) hz4) rfl ⟨rfl, below_only hb hg4 hb.size (by omega)⟩
end Go.Proofs.Ytgnkhncogfppgaa
