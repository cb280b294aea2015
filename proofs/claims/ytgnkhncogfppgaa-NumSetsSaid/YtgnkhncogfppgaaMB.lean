import Derived.Test.YtgnkhncogfppgaaBF
import Derived.Test.YtgnkhncogfppgaaBD
namespace Go.Proofs.Ytgnkhncogfppgaa
/-! What is told of a variable that was forgotten. -/
theorem any_ok {z : Zn} (h : OKZ z) (hn : z.none = false) {i : Nat} (hi : i < z.n) : OKZ ⟨z.n, false, anyM z.D z.n (i + 1)⟩ := by
  rw [← forget_eq h hn hi]; exact forget_ok h hi
theorem any_at {D : Mat} {n row a b : Nat} (h : a ≤ n ∧ b ≤ n) : anyM D n row a b = if a = row then (if b = row then 0 else 2147483647 + D 0 b) else if b = row then D a 0 + 2147483648 else D a b := if_pos h
theorem any_itv {z : Zn} (h : OKZ z) (hn : z.none = false) {i : Nat} (hi : i < z.n) : itvZ ⟨z.n, false, anyM z.D z.n (i + 1)⟩ (i : Int) = (-2147483648, 2147483647) := by
  rw [itvZ_ok (any_ok h hn hi) rfl hi]
  have d0 := (h.sub hn).diag 0 (by omega)
  show (-(anyM z.D z.n (i + 1) 0 (i + 1)), anyM z.D z.n (i + 1) (i + 1) 0) = _
  rw [any_at (by omega), any_at (by omega), if_neg (by omega), if_pos rfl, if_pos rfl, if_neg (by omega), d0]
  rfl
theorem any_within {z : Zn} (h : OKZ z) (hn : z.none = false) {i : Nat} (_ : i < z.n) : withinB z ⟨z.n, false, anyM z.D z.n (i + 1)⟩ = true := by
  refine within_iff.2 ⟨rfl, .inr ⟨rfl, fun a _ b _ => ?_⟩⟩
  show z.D a b ≤ anyM z.D z.n (i + 1) a b
  by_cases hab : a ≤ z.n ∧ b ≤ z.n
  · rw [any_at hab]
    have hs := h.sub hn
    have t := hs.tri a b 0 hab.1 hab.2 (by omega)
    have d0 := hs.diag 0 (by omega)
    have u := h.up hn a
    have v := h.down hn b
    by_cases h1 : a = i + 1
    · rw [if_pos h1]
      by_cases h2 : b = i + 1
      · rw [if_pos h2]; have e : a = b := by omega
        subst e; exact Int.le_of_eq (hs.diag a hab.1)
      · rw [if_neg h2]; have := u (by omega) hab.1; omega
    · rw [if_neg h1]
      by_cases h2 : b = i + 1
      · rw [if_pos h2]; have := v (by omega) hab.2; omega
      · rw [if_neg h2]; exact Int.le_refl _
  · rw [h.out a b hab]; unfold anyM; rw [if_neg hab]; exact Int.le_refl _
theorem any_again {z : Zn} (h : OKZ z) (hn : z.none = false) {i : Nat} (hi : i < z.n) : forgetZ ⟨z.n, false, anyM z.D z.n (i + 1)⟩ (i : Int) = ⟨z.n, false, anyM z.D z.n (i + 1)⟩ := by
  rw [forget_eq (any_ok h hn hi) rfl hi]
  have d0 := (h.sub hn).diag 0 (by omega)
  refine Zn.ext' rfl rfl fun a b => ?_
  show anyM (anyM z.D z.n (i + 1)) z.n (i + 1) a b = anyM z.D z.n (i + 1) a b
  by_cases hab : a ≤ z.n ∧ b ≤ z.n
  · rw [any_at hab]
    by_cases h1 : a = i + 1
    · by_cases h2 : b = i + 1
      · rw [if_pos h1, if_pos h2, any_at hab, if_pos h1, if_pos h2]
      · rw [if_pos h1, if_neg h2, any_at ⟨Nat.zero_le _, hab.2⟩, any_at hab, if_pos h1, if_neg h2, if_neg (by omega), if_neg h2]
    · by_cases h2 : b = i + 1
      · rw [if_neg h1, if_pos h2, any_at ⟨hab.1, Nat.zero_le _⟩, any_at hab, if_neg h1, if_pos h2, if_neg h1, if_neg (by omega), if_pos h2]
      · rw [if_neg h1, if_neg h2]
  · unfold anyM; rw [if_neg hab, if_neg hab]
theorem any_else {z : Zn} {i a b : Nat} (ha : a ≤ z.n) (hb : b ≤ z.n) (h1 : a ≠ i + 1) (h2 : b ≠ i + 1) : anyM z.D z.n (i + 1) a b = z.D a b := by
  rw [any_at ⟨ha, hb⟩, if_neg h1, if_neg h2]
end Go.Proofs.Ytgnkhncogfppgaa
