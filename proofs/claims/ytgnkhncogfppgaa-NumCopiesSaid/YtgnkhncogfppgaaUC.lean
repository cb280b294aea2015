import Derived.Test.YtgnkhncogfppgaaU9
namespace Go.Proofs.Ytgnkhncogfppgaa
/-! NumCopies: plain. -/
structure CpF (l h d : Int) (A B C : Zn) : Prop where
  an : A.n = 2
  bn : B.n = 2
  cn : C.n = 2
  ao : OKZ A
  bo : OKZ B
  co : OKZ C
  a0 : A.none = false
  b0 : B.none = false
  c0 : C.none = false
  bi : itvZ B 0 = (l + d, h + d)
  bj : itvZ B 1 = (l, h)
  ci : itvZ C 1 = (l, l)
  ba : withinB B A = true
  cb : withinB C B = true
theorem copies_f {l h d : Int} (l1 : -100000 ≤ l) (l2 : l ≤ 100000) (h1 : l ≤ h) (h2 : h ≤ 100300) (d1 : -1000 ≤ d) (d2 : d ≤ 1000) :
    CpF l h d (copyZ (topZ 2) 0 1 d) (heldZ (copyZ (topZ 2) 0 1 d) 1 (l, h)) (heldZ (heldZ (copyZ (topZ 2) 0 1 d) 1 (l, h)) 0 (l + d, l + d)) := by
  have ok0 : OKZ (topZ 2) := top_ok (by omega)
  have no0 := (v2_top (x := 0) (y := 0) (by omega) (by omega) (by omega) (by omega)).1
  have e1 : ((0 : Nat) : Int) = 0 := rfl
  have e2 : ((2 : Nat) : Int) - 1 = 1 := rfl
  have okA := copy_ok ok0 (i := 0) (j := 2) (by rw [t2_n]; omega) (by rw [t2_n]; omega) (d := d) (by omega)
  rw [e1, e2] at okA
  have nA : (copyZ (topZ 2) 0 1 d).n = 2 := by rw [copyZ_n, t2_n]
  have sA : ∀ y, -2147483648 ≤ y → y ≤ 2147483647 → -2147483648 ≤ y + d → y + d ≤ 2147483647 → (copyZ (topZ 2) 0 1 d).none = false ∧ Sat 2 (copyZ (topZ 2) 0 1 d).D (v2 (y + d) y) := fun y a1 a2 a3 a4 => by
    have s0 := (v2_top (x := 0) (y := y) (by omega) (by omega) a1 a2).2
    have := copy_sat ok0 no0 (i := 0) (j := 2) (by rw [t2_n]; omega) (by rw [t2_n]; omega) (d := d) (by omega) (v := v2 0 y) (by rw [t2_n]; exact s0) (by rw [v2_2]; exact a3) (by rw [v2_2]; exact a4)
    rw [t2_n, e1, e2] at this
    refine ⟨this.1, this.2.congr fun i hi => ?_⟩
    have : i = 0 ∨ i = 1 ∨ i = 2 := by omega
    rcases this with rfl | rfl | rfl <;> rfl
  have lA := copy_le ok0 no0 (i := 0) (j := 2) (by rw [t2_n]; omega) (by rw [t2_n]; omega) (by omega) (d := d) (by omega) (by rw [e1, e2]; exact (sA l (by omega) (by omega) (by omega) (by omega)).1)
  rw [e1, e2] at lA
  have noA := (sA l (by omega) (by omega) (by omega) (by omega)).1
  obtain ⟨a12, a21, _⟩ := lA
  generalize copyZ (topZ 2) 0 1 d = A at *
  have a12 : A.D 1 2 ≤ d := a12
  have a21 : A.D 2 1 ≤ -d := a21
  have okB := held_ok okA (m := 1) (by omega) (lo := l) (hi := h) (by omega) (by omega) (by omega)
  have nB : (heldZ A ((1 : Nat) : Int) (l, h)).n = 2 := by rw [heldZ_n, nA]
  have sB : ∀ y, l ≤ y → y ≤ h → (heldZ A ((1 : Nat) : Int) (l, h)).none = false ∧ Sat 2 (heldZ A ((1 : Nat) : Int) (l, h)).D (v2 (y + d) y) := fun y a1 a2 => by
    have := held_sat okA noA (m := 1) (by omega) (lo := l) (hi := h) (by omega) (by omega) (v := v2 (y + d) y) (by rw [nA]; exact (sA y (by omega) (by omega) (by omega) (by omega)).2) a1 a2
    rw [nA] at this; exact this
  have noB := (sB l (by omega) (by omega)).1
  obtain ⟨_, lB, uB, vB⟩ := held_le okA (m := 1) (by omega) (lo := l) (hi := h) (by omega) (by omega) noB
  rw [show ((1 : Nat) : Int) = 1 from rfl] at *
  generalize heldZ A 1 (l, h) = B at *
  have okC := held_ok okB (m := 0) (by omega) (lo := l + d) (hi := l + d) (by omega) (by omega) (by omega)
  have nC : (heldZ B ((0 : Nat) : Int) (l + d, l + d)).n = 2 := by rw [heldZ_n, nB]
  have sC : (heldZ B ((0 : Nat) : Int) (l + d, l + d)).none = false ∧ Sat 2 (heldZ B ((0 : Nat) : Int) (l + d, l + d)).D (v2 (l + d) l) := by
    have := held_sat okB noB (m := 0) (by omega) (lo := l + d) (hi := l + d) (by omega) (by omega) (v := v2 (l + d) l) (by rw [nB]; exact (sB l (by omega) (by omega)).2) (Int.le_refl _) (Int.le_refl _)
    rw [nB] at this; exact this
  obtain ⟨_, lC, uC, vC⟩ := held_le okB (m := 0) (by omega) (lo := l + d) (hi := l + d) (by omega) (by omega) sC.1
  rw [show ((0 : Nat) : Int) = 0 from rfl] at *
  generalize heldZ B 0 (l + d, l + d) = C at *
  have uB : B.D 2 0 ≤ h := uB
  have vB : B.D 0 2 ≤ -l := vB
  have uC : C.D 1 0 ≤ l + d := uC
  have vC : C.D 0 1 ≤ -(l + d) := vC
  have noC := sC.1
  have b12 := lB 1 2 (by omega) (by omega)
  have b21 := lB 2 1 (by omega) (by omega)
  have c12 := lC 1 2 (by omega) (by omega)
  have c21 := lC 2 1 (by omega) (by omega)
  have t1 := (okB.sub noB).tri 1 0 2 (by omega) (by omega) (by omega)
  have t2 := (okB.sub noB).tri 0 1 2 (by omega) (by omega) (by omega)
  have t3 := (okC.sub noC).tri 2 0 1 (by omega) (by omega) (by omega)
  have t4 := (okC.sub noC).tri 0 2 1 (by omega) (by omega) (by omega)
  refine ⟨nA, nB, nC, okA, okB, okC, noA, noB, noC, ?_, ?_, ?_, within_le okB okA (by omega) noA (by rw [nA] at lB ⊢; exact lB), within_le okC okB (by omega) noB (by rw [nB] at lC ⊢; exact lC)⟩
  · have := itvZ_two okB noB (i := 0) (by omega) (v := v2 (l + d) l) (w := v2 (h + d) h) (by rw [nB]; exact (sB _ (by omega) (by omega)).2) (by rw [nB]; exact (sB _ (by omega) (by omega)).2) (by rw [v2_1]; show B.D 1 0 ≤ _; omega) (by rw [v2_1]; show B.D 0 1 ≤ _; omega)
    rw [v2_1, v2_1] at this; exact this
  · have := itvZ_two okB noB (i := 1) (by omega) (v := v2 (l + d) l) (w := v2 (h + d) h) (by rw [nB]; exact (sB _ (by omega) (by omega)).2) (by rw [nB]; exact (sB _ (by omega) (by omega)).2) (by rw [v2_2]; show B.D 2 0 ≤ _; omega) (by rw [v2_2]; show B.D 0 2 ≤ _; omega)
    rw [v2_2, v2_2] at this; exact this
  · have := itvZ_two okC noC (i := 1) (by omega) (v := v2 (l + d) l) (w := v2 (l + d) l) (by rw [nC]; exact sC.2) (by rw [nC]; exact sC.2) (by rw [v2_2]; show C.D 2 0 ≤ _; omega) (by rw [v2_2]; show C.D 0 2 ≤ _; omega)
    rw [v2_2] at this; exact this
end Go.Proofs.Ytgnkhncogfppgaa
