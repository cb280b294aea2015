import Derived.Test.YtgnkhncogfppgaaBD
import Derived.Test.YtgnkhncogfppgaaBF
namespace Go.Proofs.Ytgnkhncogfppgaa
open Go.RowKit
/-! Numbers that a zone has, through all calls. -/
structure HasI (k : Nat) (z : Zn) (V : Nat → Int) : Prop where
  ok : OKZ z
  n : z.n = k
  none : z.none = false
  sat : Sat k z.D (atV V)
def setV (V : Nat → Int) (i : Nat) (u : Int) : Nat → Int := fun t => if t = i then u else V t
theorem atV_set (V : Nat → Int) (i : Nat) (u : Int) : atV (setV V i u) = putV (atV V) (i + 1) u := by
  funext t
  simp only [atV, setV, putV]
  by_cases h0 : t = 0
  · subst h0; rw [if_pos rfl, if_neg (by omega), if_pos rfl]
  · rw [if_neg h0]
    by_cases h1 : t = i + 1
    · rw [if_pos (by omega), if_pos h1]
    · rw [if_neg (by omega), if_neg h1, if_neg h0]
theorem atV_0 (V : Nat → Int) : atV V 0 = 0 := rfl
theorem atV_s (V : Nat → Int) (i : Nat) : atV V (i + 1) = V i := rfl
theorem HasI.top {k : Nat} (hk : k ≤ 6) {V : Nat → Int} (hV : ∀ i, i < k → -2147483648 ≤ V i ∧ V i ≤ 2147483647) : HasI k (topZ k) V := by
  have h := top_sat (n := k) hk (v := atV V) rfl (fun i hi => by
    by_cases h0 : i = 0
    · subst h0; rw [atV_0]; omega
    · have := hV (i - 1) (by omega); simp only [atV]; rw [if_neg h0]; omega) (fun i hi => by
    by_cases h0 : i = 0
    · subst h0; rw [atV_0]; omega
    · have := hV (i - 1) (by omega); simp only [atV]; rw [if_neg h0]; omega)
  exact ⟨top_ok hk, topZ_n k, h.1, h.2⟩
section
variable {k : Nat} {z : Zn} {V : Nat → Int}
theorem HasI.bd (h : HasI k z V) {i : Nat} (hi : i ≤ k) : -2147483648 ≤ atV V i ∧ atV V i ≤ 2147483647 := ⟨h.sat.lo i hi, h.sat.hi i hi⟩
theorem HasI.bound (h : HasI k z V) {i j : Nat} (hi : i < k) (hj : j ≤ k) (hij : i + 1 ≠ j) {d : Int} (hd : -274877906944 ≤ d) (hv : V i - atV V j ≤ d) : HasI k (boundZ z (i : Int) ((j : Int) - 1) d) V := by
  have hn := h.n
  have e : (i : Int) = ((i + 1 : Nat) : Int) - 1 := by omega
  have h1 := bound_ok h.ok (i := i + 1) (j := j) (by omega) (by omega) hij hd
  have h2 := bound_sat h.ok h.none (i := i + 1) (j := j) (by omega) (by omega) hij hd (v := atV V) (by rw [hn]; exact h.sat) (by rw [atV_s]; exact hv)
  rw [← e] at h1 h2
  rw [hn] at h2
  exact ⟨h1, by rw [boundZ_n]; exact hn, h2.1, h2.2⟩
theorem HasI.forget (h : HasI k z V) {i : Nat} (hi : i < k) {u : Int} (h1 : -2147483648 ≤ u) (h2 : u ≤ 2147483647) : HasI k (forgetZ z (i : Int)) (setV V i u) := by
  have hn := h.n
  have h3 := forget_sat h.ok h.none (i := i) (by omega) (v := atV V) (by rw [hn]; exact h.sat) h1 h2
  rw [hn] at h3
  exact ⟨forget_ok h.ok (by omega), by rw [forgetZ_n]; exact hn, h3.1, by rw [atV_set]; exact h3.2⟩
theorem HasI.copy (h : HasI k z V) {i j : Nat} (hi : i < k) (hj : j ≤ k) {d : Int} (hd : -137438953472 ≤ d ∧ d ≤ 137438953472) (h1 : -2147483648 ≤ atV V j + d) (h2 : atV V j + d ≤ 2147483647) : HasI k (copyZ z (i : Int) ((j : Int) - 1) d) (setV V i (atV V j + d)) := by
  have hn := h.n
  have h3 := copy_sat h.ok h.none (i := i) (j := j) (by omega) (by omega) hd (v := atV V) (by rw [hn]; exact h.sat) h1 h2
  rw [hn] at h3
  exact ⟨copy_ok h.ok (by omega) (by omega) hd, by rw [copyZ_n]; exact hn, h3.1, by rw [atV_set]; exact h3.2⟩
theorem has_own (h : HasI k z V) {w : World} {base : Nat} {v : Value} (ho : OwnI w base v k V) : Calls Try.prog 34 #[.agg (zc k false z.D), v] w (Ret w (.bool true)) := by
  obtain ⟨ad, cap, rfl, hs, _⟩ := ho.sl
  have hn := h.n
  have h6 := h.ok.n
  have := has_any z h6 ad k cap (by omega) V w hs
  rw [show hasB z k V = true by rw [← hn]; exact hasB_sat h.none (by rw [hn]; exact h.sat), Zn.c, hn, h.none] at this
  exact this
theorem has_long (h : HasI k z V) {w : World} {base : Nat} {v : Value} {V' : Nat → Int} (ho : OwnI w base v (k + 1) V') : Calls Try.prog 34 #[.agg (zc k false z.D), v] w (Ret w (.bool false)) := by
  obtain ⟨ad, cap, rfl, hs, _⟩ := ho.sl
  have hn := h.n
  have h6 := h.ok.n
  have := has_any z h6 ad (k + 1) cap (by omega) V' w hs
  rw [show hasB z (k + 1) V' = false by
    cases hh : hasB z (k + 1) V' with
    | false => rfl
    | true => have := (hasB_iff.1 hh).2.1; omega, Zn.c, hn, h.none] at this
  exact this
end
end Go.Proofs.Ytgnkhncogfppgaa
