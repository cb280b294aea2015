import Derived.Test.YtgnkhncogfppgaaQ1
import Derived.Test.YtgnkhncogfppgaaW4
namespace Go.Proofs.Ytgnkhncogfppgaa
open Go.RowKit
theorem rz : (Try.prog.info? 38).bind (·.zero) = some (.agg (zc 0 false fun _ _ => 0)) := by kernel_rfl
theorem rsz : (Try.prog.info? 38).map (·.size) = some 51 := by kernel_rfl
section
variable {ops : Array Oper} {rest : List Oper} {o : Oper} {a : Act} {w0 w : World} {L : Act → Prop} {Q : Exit → Act → World → Prop} {g : Nat} {T : TypeId} {n : Int} {b : Bool} {D : Mat}
theorem lex_load_z (hw : Region.wanted o (yielded ops a.tmps) = true) (x : Operand) (ho : o.op = .load 26 x) (hx : a.eval x = .pointer (some ⟨g, 0, none⟩)) (hz : ZAt T w0 g n b D)
    (h : lexQ Try.prog ops w0 L rest (a.put o.dst (.agg (zc n b D)))) : lexQ Try.prog ops w0 L (o :: rest) a :=
  lex_load_row hw 26 x ho g hx _ Try.underlying26 rfl (cs := zc n b D) hz (by rw [zc_size]; exact zsz) h
theorem lex_load_r (hw : Region.wanted o (yielded ops a.tmps) = true) (x : Operand) (ho : o.op = .load 38 x) (hx : a.eval x = .pointer (some ⟨g, 0, none⟩)) (hz : ZAt T w0 g n b D)
    (h : lexQ Try.prog ops w0 L rest (a.put o.dst (.agg (zc n b D)))) : lexQ Try.prog ops w0 L (o :: rest) a :=
  lex_load_row hw 38 x ho g hx _ Try.underlying38 rfl (cs := zc n b D) hz (by rw [zc_size]; exact rsz) h
/-! The document's zones in variables. -/
theorem load_r (hgd : Region.wanted o (yielded ops a.tmps) = true) (x : Operand) (ho : o.op = .load 38 x) (hx : a.eval x = .pointer (some ⟨g, 0, none⟩)) (hz : ZAt T w g n b D)
    (h : wpList Try.prog ops Q rest (a.put o.dst (.agg (zc n b D))) w) : wpList Try.prog ops Q (o :: rest) a w :=
  wpList_load_zone hgd 38 x ho g hx _ Try.underlying38 rfl rsz hz h
theorem store_r (hgd : Region.wanted o (yielded ops a.tmps) = true) (x y : Operand) (ho : o.op = .store 38 x y) (hx : a.eval x = .pointer (some ⟨g, 0, none⟩)) {m : Int} {c : Bool} {E : Mat}
    (hy : a.eval y = .agg (zc m c E)) (hz : ZAt T w g n b D)
    (h : ∀ W, ZAt T W g m c E → w.grownBy W (some g) → Hid (W.heap.size = w.heap.size) → wpList Try.prog ops Q rest (a.put o.dst undef) W) : wpList Try.prog ops Q (o :: rest) a w :=
  wpList_store_zone hgd 38 x y ho g hx _ _ _ hy rsz hz h
theorem results_r {fn : Func} {p : Tmp} {tmps : Array Value} (h : fn.results = #[.cell p 38]) (hp : tmps.getD p undef = .pointer (some ⟨g, 0, none⟩)) (hz : ZAt T w g n b D) : (results fn tmps).run Try.prog w = .ok (.agg (zc n b D)) w :=
  results_zone h tmps w g _ hp hz Try.underlying38 rfl rsz
end
end Go.Proofs.Ytgnkhncogfppgaa
