import Derived.Test.YtgnkhncogfppgaaProg
import Derived.Test.YtgnkhncogfppgaaW1
namespace Go.Proofs.Ytgnkhncogfppgaa
open Go.RowKit
def cntB (n : Int) : Bool := decide (0 ≤ n ∧ n ≤ 6)
theorem count_any (n : Int) (w : World) : Calls Try.prog 85 #[.int .i64 n] w fun e w' => e = .returned (.bool (cntB n)) ∧ w = w' := by
  by_cases h0 : 0 ≤ n
  · by_cases h6 : n ≤ 6
    all_goals
      go_enter Try.func85, Try.ntmps85
      go_wp2
      go_ret
      exact ⟨by simp [cntB]; omega, rfl⟩
  · go_enter Try.func85, Try.ntmps85
    go_wp2
    go_ret
    exact ⟨by simp [cntB]; omega, rfl⟩
theorem count_yes (n : Nat) (hn : n ≤ 6) (w : World) : Calls Try.prog 85 #[.int .i64 n] w fun e w' => e = .returned (.bool true) ∧ w = w' :=
  (count_any n w).mono fun _ _ ⟨h, h'⟩ => ⟨by rw [h, show cntB n = true by simp [cntB]; omega], h'⟩
theorem zz : (Try.prog.info? 26).bind (·.zero) = some (.agg (zc 0 false fun _ _ => 0)) := by kernel_rfl
theorem zsz : (Try.prog.info? 26).map (·.size) = some 51 := by kernel_rfl
theorem build_nb (n : Int) (b : Bool) (w : World) : (Instr.build 26 #[(0, .int .i64 n), (1, .bool b)]).run Try.prog w = .ok (.agg (zc n b zeroM)) w := by kernel_rfl
theorem build_n (n : Int) (w : World) : (Instr.build 26 #[(0, .int .i64 n)]).run Try.prog w = .ok (.agg (zc n false zeroM)) w := by kernel_rfl
section
variable {fn : Func} {p : Tmp} {tmps : Array Value} {w : World} {g : Nat} {T : TypeId} {n : Int} {b : Bool} {D : Mat}
/-- A result that is a zone in a variable. -/
theorem results_z (h : fn.results = #[.cell p 26]) (hp : tmps.getD p undef = .pointer (some ⟨g, 0, none⟩)) (hz : ZAt T w g n b D) : (results fn tmps).run Try.prog w = .ok (.agg (zc n b D)) w :=
  results_zone h tmps w g _ hp hz Try.underlying26 rfl zsz
variable {ops : Array Oper} {rest : List Oper} {o : Oper} {a : Act} {Q : Exit → Act → World → Prop}
theorem load_z (hgd : Region.wanted o (yielded ops a.tmps) = true) (x : Operand) (ho : o.op = .load 26 x) (hx : a.eval x = .pointer (some ⟨g, 0, none⟩)) (hz : ZAt T w g n b D)
    (h : wpList Try.prog ops Q rest (a.put o.dst (.agg (zc n b D))) w) : wpList Try.prog ops Q (o :: rest) a w :=
  wpList_load_zone hgd 26 x ho g hx _ Try.underlying26 rfl zsz hz h
theorem store_z (hgd : Region.wanted o (yielded ops a.tmps) = true) (x y : Operand) (ho : o.op = .store 26 x y) (hx : a.eval x = .pointer (some ⟨g, 0, none⟩)) {m : Int} {c : Bool} {E : Mat}
    (hy : a.eval y = .agg (zc m c E)) (hz : ZAt T w g n b D)
    (h : ∀ W, ZAt T W g m c E → w.grownBy W (some g) → Hid (W.heap.size = w.heap.size) → wpList Try.prog ops Q rest (a.put o.dst undef) W) : wpList Try.prog ops Q (o :: rest) a w :=
  wpList_store_zone hgd 26 x y ho g hx _ _ _ hy zsz hz h
end
end Go.Proofs.Ytgnkhncogfppgaa
