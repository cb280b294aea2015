import Derived.Test.YtgnkhncogfppgaaM4
namespace Go.Proofs.Ytgnkhncogfppgaa
/-! Noughts, made of all numbers by bounds. -/
def zrS (z : Zn) (m : Nat) : Zn := boundZ (boundZ z (m : Int) (-1) 0) (-1) (m : Int) 0
def zrZ (n : Nat) : Nat → Zn
  | 0 => topZ n
  | m + 1 => zrS (zrZ n m) m
structure ZrI (q m : Nat) (z : Zn) : Prop where
  ok : OKZ z
  n : z.n = q
  none : z.none = false
  sat : Sat q z.D fun _ => 0
  le : ∀ i, i < m → z.D (i + 1) 0 ≤ 0 ∧ z.D 0 (i + 1) ≤ 0
theorem zrI {n : Nat} (hn : n ≤ 6) : ∀ m, m ≤ n → ZrI n m (zrZ n m)
  | 0, _ => by
    have h := top_sat (n := n) hn (v := fun _ => 0) rfl (fun _ _ => by omega) (fun _ _ => by omega)
    exact ⟨top_ok hn, topZ_n n, h.1, h.2, fun i hi => by omega⟩
  | m + 1, hm => by
    have ih := zrI hn m (by omega)
    have e1 : (m : Int) = ((m + 1 : Nat) : Int) - 1 := by omega
    have e2 : (-1 : Int) = ((0 : Nat) : Int) - 1 := by omega
    have hN := ih.n
    have ok1 := bound_ok ih.ok (i := m + 1) (j := 0) (by omega) (by omega) (by omega) (d := 0) (by omega)
    have s1 := bound_sat ih.ok ih.none (i := m + 1) (j := 0) (by omega) (by omega) (by omega) (d := 0) (by omega) (v := fun _ => 0) (by rw [hN]; exact ih.sat) (by omega)
    have l1 := bound_le ih.ok (i := m + 1) (j := 0) (by omega) (by omega) (by omega) (d := 0) (by omega) s1.1
    have n1 : (boundZ (zrZ n m) (((m + 1 : Nat) : Int) - 1) (((0 : Nat) : Int) - 1) 0).n = n := by rw [boundZ_n, hN]
    have ok2 := bound_ok ok1 (i := 0) (j := m + 1) (by omega) (by omega) (by omega) (d := 0) (by omega)
    have s2 := bound_sat ok1 s1.1 (i := 0) (j := m + 1) (by omega) (by omega) (by omega) (d := 0) (by omega) (v := fun _ => 0) (by rw [n1]; rw [hN] at s1; exact s1.2) (by omega)
    have l2 := bound_le ok1 (i := 0) (j := m + 1) (by omega) (by omega) (by omega) (d := 0) (by omega) s2.1
    rw [n1] at l2 s2
    rw [hN] at l1
    show ZrI n (m + 1) (zrS (zrZ n m) m)
    unfold zrS
    rw [e1, e2]
    refine ⟨ok2, by rw [boundZ_n, n1], s2.1, s2.2, fun i hi => ?_⟩
    by_cases him : i = m
    · subst him
      exact ⟨Int.le_trans (l2.1 _ _ (by omega) (by omega)) l1.2, l2.2⟩
    · have := ih.le i (by omega)
      exact ⟨Int.le_trans (l2.1 _ _ (by omega) (by omega)) (Int.le_trans (l1.1 _ _ (by omega) (by omega)) this.1), Int.le_trans (l2.1 _ _ (by omega) (by omega)) (Int.le_trans (l1.1 _ _ (by omega) (by omega)) this.2)⟩
theorem zr_zeros {n : Nat} (hn : n ≤ 6) : zrZ n n = zerosZ n := by
  have h := zrI hn n (Nat.le_refl _)
  have hN := h.n
  refine Zn.ext' hN h.none fun i j => ?_
  show _ = (0 : Int)
  by_cases hij : i ≤ n ∧ j ≤ n
  · have hs := h.ok.sub h.none
    have t := hs.tri i j 0 (by omega) (by omega) (by omega)
    have d0 := hs.diag 0 (by omega)
    have a1 : (zrZ n n).D i 0 ≤ 0 := by
      by_cases h0 : i = 0
      · subst h0; omega
      · have := (h.le (i - 1) (by omega)).1; rwa [show i - 1 + 1 = i by omega] at this
    have a2 : (zrZ n n).D 0 j ≤ 0 := by
      by_cases h0 : j = 0
      · subst h0; omega
      · have := (h.le (j - 1) (by omega)).2; rwa [show j - 1 + 1 = j by omega] at this
    have := h.sat.le i j hij.1 hij.2
    simp only [vm] at this
    omega
  · exact h.ok.out i j (by rw [hN]; exact hij)
end Go.Proofs.Ytgnkhncogfppgaa
