import Derived.Test.YtgnkhncogfppgaaBH
import Derived.Lib.SmallJoins
namespace Go.Proofs.Ytgnkhncogfppgaa
open Go.ChangeShapes Go.WideShapes Go.ChangeAt Go.RowKit Go.Deep Go.Joins
set_option maxRecDepth 100000
theorem one_val {x y : Value} (h : [x] = [y]) : x = y := by injection h
/-- An Itv of the document that is handed by value. -/
theorem open_itv8 {H : Type} {enc : TypeId × Value → H} {W : World} {base b0 : Nat} {spare : Nat → Bool} {held : Bool} {v : Value} {d : DataW H} {p : List MemPlace} (hok : Value.okWide Try.prog W .any b0 53 v) (h : DataW.Trod enc Try.prog W base spare held 53 v d p) :
    ∃ lo hi : Int, v = .agg (ic lo hi) := by
  obtain ⟨v0, v1, y0, y1, n, rfl, _, _, h0, h1⟩ := open_agg2 Try.underlying53 (by kernel_rfl) (by kernel_rfl) hok h
  obtain ⟨x0, e0, _, _⟩ := DataW.trod_int Try.underlying3 h0
  obtain ⟨x1, e1, _, _⟩ := DataW.trod_int Try.underlying3 h1
  rw [one_val e0, one_val e1]
  exact ⟨x0, x1, rfl⟩
end Go.Proofs.Ytgnkhncogfppgaa
