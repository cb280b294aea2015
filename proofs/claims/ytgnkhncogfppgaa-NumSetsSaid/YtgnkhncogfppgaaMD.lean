import Derived.Test.YtgnkhncogfppgaaBF
namespace Go.Proofs.Ytgnkhncogfppgaa
/-! Num's zones: a variable that is held to an Itv. -/
def heldZ (z : Zn) (x : Int) (i : Int × Int) : Zn :=
  if x < 0 ∨ (z.n : Int) ≤ x then z else if i.2 < i.1 then noneZ z.n else boundZ (boundZ z x (-1) i.2) (-1) x (w64 (-i.1))
theorem heldZ_n (z : Zn) (x : Int) (i : Int × Int) : (heldZ z x i).n = z.n := by
  unfold heldZ; split
  · rfl
  · split
    · rfl
    · rw [boundZ_n, boundZ_n]
theorem held_no {z : Zn} {x : Int} (h : x < 0 ∨ (z.n : Int) ≤ x) (i : Int × Int) : heldZ z x i = z := by unfold heldZ; rw [if_pos h]
theorem held_none {z : Zn} {m : Nat} (hm : m < z.n) {lo hi : Int} (h : hi < lo) : heldZ z (m : Int) (lo, hi) = noneZ z.n := by
  unfold heldZ; rw [if_neg (by omega), if_pos h]
theorem held_yes {z : Zn} {m : Nat} (hm : m < z.n) {lo hi : Int} (h : lo ≤ hi) (h1 : -2147483649 ≤ lo) (h2 : lo ≤ 2147483648) : heldZ z (m : Int) (lo, hi) = boundZ (boundZ z (m : Int) (-1) hi) (-1) (m : Int) (-lo) := by
  unfold heldZ
  rw [if_neg (by omega), if_neg (by show ¬ hi < lo; omega)]
  show boundZ (boundZ z (m : Int) (-1) hi) (-1) (m : Int) (w64 (-lo)) = _
  rw [w64_in (by omega) (by omega)]
theorem held_ok {z : Zn} (h : OKZ z) {m : Nat} (hm : m < z.n) {lo hi : Int} (h1 : -2147483649 ≤ lo) (h2 : lo ≤ 2147483648) (h3 : -2147483649 ≤ hi) : OKZ (heldZ z (m : Int) (lo, hi)) := by
  by_cases hl : hi < lo
  · rw [held_none hm hl]; exact noneZ_ok h.n
  · rw [held_yes hm (by omega) h1 h2]
    have e1 : (m : Int) = ((m + 1 : Nat) : Int) - 1 := by omega
    have e2 : (-1 : Int) = ((0 : Nat) : Int) - 1 := by omega
    have a := bound_ok h (i := m + 1) (j := 0) (by omega) (by omega) (by omega) (d := hi) (by omega)
    have b := bound_ok a (i := 0) (j := m + 1) (by omega) (by rw [boundZ_n]; omega) (by omega) (d := -lo) (by omega)
    rw [← e1, ← e2] at b
    exact b
/-- What it stands for. -/
theorem Std.held {n : Nat} {P : Mat → Prop} {z : Zn} (h : Std n P z) {m : Nat} (hm : m < n) {lo hi : Int} (hl : lo ≤ hi) (h1 : -2147483649 ≤ lo) (h2 : lo ≤ 2147483648) :
    Std n (fun X => (P X ∧ X (m + 1) 0 ≤ hi) ∧ X 0 (m + 1) ≤ -lo) (heldZ z (m : Int) (lo, hi)) := by
  rw [held_yes (by rw [h.n]; exact hm) hl h1 h2]
  have e1 : (m : Int) = ((m + 1 : Nat) : Int) - 1 := by omega
  have e2 : (-1 : Int) = ((0 : Nat) : Int) - 1 := by omega
  have a := h.bound (i := m + 1) (j := 0) (by omega) (by omega) (by omega) (d := hi) (by omega)
  have b := a.bound (i := 0) (j := m + 1) (by omega) (by omega) (by omega) (d := -lo) (by omega)
  rw [← e1, ← e2] at b
  exact b
end Go.Proofs.Ytgnkhncogfppgaa
