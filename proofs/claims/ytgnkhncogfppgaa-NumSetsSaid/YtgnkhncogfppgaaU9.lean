import Derived.Test.YtgnkhncogfppgaaU7
namespace Go.Proofs.Ytgnkhncogfppgaa
/-! NumBounds, NumCopies: plain. -/
theorem within_le {a b : Zn} (ha : OKZ a) (hb : OKZ b) (hn : a.n = b.n) (hbn : b.none = false) (h : Le b.n a.D b.D) : withinB a b = true := by
  refine within_iff.2 ⟨hn, .inr ⟨hbn, fun i _ j _ => ?_⟩⟩
  by_cases hij : i ≤ b.n ∧ j ≤ b.n
  · exact h i j hij.1 hij.2
  · rw [ha.out i j (by rw [hn]; exact hij), hb.out i j hij]; exact Int.le_refl _
def v2 (x y : Int) : Nat → Int := fun k => if k = 1 then x else if k = 2 then y else 0
theorem v2_0 (x y : Int) : v2 x y 0 = 0 := rfl
theorem v2_1 (x y : Int) : v2 x y 1 = x := rfl
theorem v2_2 (x y : Int) : v2 x y 2 = y := rfl
theorem v2_top {x y : Int} (h1 : -2147483648 ≤ x) (h2 : x ≤ 2147483647) (h3 : -2147483648 ≤ y) (h4 : y ≤ 2147483647) : (topZ 2).none = false ∧ Sat 2 (topZ 2).D (v2 x y) :=
  top_sat (by omega) rfl (fun i _ => by unfold v2; repeat' split <;> omega) (fun i _ => by unfold v2; repeat' split <;> omega)
theorem one_e : (0 : Int) = ((1 : Nat) : Int) - 1 := rfl
theorem two_e : (1 : Int) = ((2 : Nat) : Int) - 1 := rfl
theorem t2_n : (topZ 2).n = 2 := topZ_n 2
theorem tmod_lim (x : Int) : -100000 ≤ x.tmod 100000 ∧ x.tmod 100000 ≤ 100000 := by
  have h := Int.tmod_lt_of_pos x (b := 100000) (by omega)
  have h2 := Int.lt_tmod_of_pos x (b := 100000) (by omega)
  omega
theorem tmod_lim1 (x : Int) : -1000 ≤ x.tmod 1000 ∧ x.tmod 1000 ≤ 1000 := by
  have h := Int.tmod_lt_of_pos x (b := 1000) (by omega)
  have h2 := Int.lt_tmod_of_pos x (b := 1000) (by omega)
  omega
/-- The three zones of NumBounds. -/
structure BdF (l h d : Int) (A B C : Zn) : Prop where
  an : A.n = 2
  bn : B.n = 2
  cn : C.n = 2
  ao : OKZ A
  bo : OKZ B
  co : OKZ C
  a0 : A.none = false
  b0 : B.none = false
  c0 : C.none = false
  bi : itvZ B 0 = (-2147483648, h + d)
  ci : itvZ C 1 = (l - d, 2147483647)
  ba : withinB B A = true
  ca : withinB C A = true
theorem bounds_f {l h d : Int} (l1 : -100000 ≤ l) (l2 : l ≤ 100000) (h1 : l ≤ h) (h2 : h ≤ 100300) (d1 : -1000 ≤ d) (d2 : d ≤ 1000) :
    BdF l h d (boundZ (topZ 2) 0 1 d) (heldZ (boundZ (topZ 2) 0 1 d) 1 (l, h)) (heldZ (boundZ (topZ 2) 0 1 d) 0 (l, h)) := by
  have ok0 : OKZ (topZ 2) := top_ok (by omega)
  have okA := bound_ok ok0 (i := 1) (j := 2) (by rw [t2_n]; omega) (by rw [t2_n]; omega) (by omega) (d := d) (by omega)
  have nA : (boundZ (topZ 2) 0 1 d).n = 2 := by rw [boundZ_n, t2_n]
  have sA : ∀ x y, -2147483648 ≤ x → x ≤ 2147483647 → -2147483648 ≤ y → y ≤ 2147483647 → x - y ≤ d → (boundZ (topZ 2) 0 1 d).none = false ∧ Sat 2 (boundZ (topZ 2) 0 1 d).D (v2 x y) := fun x y a1 a2 a3 a4 a5 => by
    have s0 := v2_top a1 a2 a3 a4
    have := bound_sat ok0 s0.1 (i := 1) (j := 2) (by rw [t2_n]; omega) (by rw [t2_n]; omega) (by omega) (d := d) (by omega) (v := v2 x y) (by rw [t2_n]; exact s0.2) (by rw [v2_1, v2_2]; exact a5)
    rw [t2_n, ← one_e, ← two_e] at this
    exact this
  have lA := (bound_le ok0 (i := 1) (j := 2) (by rw [t2_n]; omega) (by rw [t2_n]; omega) (by omega) (d := d) (by omega) (by rw [← one_e, ← two_e]; exact (sA (l + d) l (by omega) (by omega) (by omega) (by omega) (by omega)).1)).2
  rw [← one_e, ← two_e] at okA lA
  have noA := (sA (l + d) l (by omega) (by omega) (by omega) (by omega) (by omega)).1
  generalize boundZ (topZ 2) 0 1 d = A at *
  have okB := held_ok okA (m := 1) (by omega) (lo := l) (hi := h) (by omega) (by omega) (by omega)
  have okC := held_ok okA (m := 0) (by omega) (lo := l) (hi := h) (by omega) (by omega) (by omega)
  have nB : (heldZ A ((1 : Nat) : Int) (l, h)).n = 2 := by rw [heldZ_n, nA]
  have nC : (heldZ A ((0 : Nat) : Int) (l, h)).n = 2 := by rw [heldZ_n, nA]
  have sB : ∀ x y, -2147483648 ≤ x → x ≤ 2147483647 → l ≤ y → y ≤ h → x - y ≤ d → (heldZ A ((1 : Nat) : Int) (l, h)).none = false ∧ Sat 2 (heldZ A ((1 : Nat) : Int) (l, h)).D (v2 x y) := fun x y a1 a2 a3 a4 a5 => by
    have := held_sat okA noA (m := 1) (by omega) (lo := l) (hi := h) (by omega) (by omega) (v := v2 x y) (by rw [nA]; exact (sA x y a1 a2 (by omega) (by omega) a5).2) a3 a4
    rw [nA] at this; exact this
  have sC : ∀ x y, l ≤ x → x ≤ h → -2147483648 ≤ y → y ≤ 2147483647 → x - y ≤ d → (heldZ A ((0 : Nat) : Int) (l, h)).none = false ∧ Sat 2 (heldZ A ((0 : Nat) : Int) (l, h)).D (v2 x y) := fun x y a1 a2 a3 a4 a5 => by
    have := held_sat okA noA (m := 0) (by omega) (lo := l) (hi := h) (by omega) (by omega) (v := v2 x y) (by rw [nA]; exact (sA x y (by omega) (by omega) a3 a4 a5).2) a1 a2
    rw [nA] at this; exact this
  have noB := (sB (l + d) l (by omega) (by omega) (by omega) (by omega) (by omega)).1
  have noC := (sC l (l - d) (by omega) (by omega) (by omega) (by omega) (by omega)).1
  obtain ⟨_, lB, uB, _⟩ := held_le okA (m := 1) (by omega) (lo := l) (hi := h) (by omega) (by omega) noB
  obtain ⟨_, lC, _, vC⟩ := held_le okA (m := 0) (by omega) (lo := l) (hi := h) (by omega) (by omega) noC
  rw [show ((1 : Nat) : Int) = 1 from rfl] at *
  rw [show ((0 : Nat) : Int) = 0 from rfl] at *
  generalize heldZ A 1 (l, h) = B at *
  generalize heldZ A 0 (l, h) = C at *
  have uB : B.D 2 0 ≤ h := uB
  have vC : C.D 0 1 ≤ -l := vC
  have tB := (okB.sub noB).tri 1 0 2 (by omega) (by omega) (by omega)
  have tC := (okC.sub noC).tri 0 2 1 (by omega) (by omega) (by omega)
  have b12 := lB 1 2 (by omega) (by omega)
  have c12 := lC 1 2 (by omega) (by omega)
  have dB := okB.down noB 1 (by omega) (by omega)
  have uC := okC.up noC 2 (by omega) (by omega)
  refine ⟨nA, nB, nC, okA, okB, okC, noA, noB, noC, ?_, ?_, within_le okB okA (by omega) noA lB, within_le okC okA (by omega) noA lC⟩
  · have := itvZ_two okB noB (i := 0) (by omega) (v := v2 (-2147483648) l) (w := v2 (h + d) h) (by rw [nB]; exact (sB _ _ (by omega) (by omega) (by omega) (by omega) (by omega)).2) (by rw [nB]; exact (sB _ _ (by omega) (by omega) (by omega) (by omega) (by omega)).2) (by rw [v2_1]; show B.D 1 0 ≤ _; omega) (by rw [v2_1]; show B.D 0 1 ≤ _; omega)
    rw [v2_1, v2_1] at this; exact this
  · have := itvZ_two okC noC (i := 1) (by omega) (v := v2 l (l - d)) (w := v2 h 2147483647) (by rw [nC]; exact (sC _ _ (by omega) (by omega) (by omega) (by omega) (by omega)).2) (by rw [nC]; exact (sC _ _ (by omega) (by omega) (by omega) (by omega) (by omega)).2) (by rw [v2_2]; show C.D 2 0 ≤ _; omega) (by rw [v2_2]; show C.D 0 2 ≤ _; omega)
    rw [v2_2, v2_2] at this; exact this
end Go.Proofs.Ytgnkhncogfppgaa
