import Derived.Test.YtgnkhncogfppgaaMD
import Derived.Test.YtgnkhncogfppgaaMB
import Derived.Test.YtgnkhncogfppgaaMC
namespace Go.Proofs.Ytgnkhncogfppgaa
/-! What a held variable may be: plain. -/
theorem Sat.congr {n : Nat} {D : Mat} {v w : Nat → Int} (h : Sat n D v) (e : ∀ i, i ≤ n → w i = v i) : Sat n D w :=
  ⟨(e 0 (Nat.zero_le _)).trans h.zero, fun i hi => by rw [e i hi]; exact h.lo i hi, fun i hi => by rw [e i hi]; exact h.hi i hi, fun i j hi hj => by
    have := h.le i j hi hj
    simp only [vm] at this ⊢
    rw [e i hi, e j hj]; exact this⟩
theorem held_sat {z : Zn} (h : OKZ z) (hn : z.none = false) {m : Nat} (hm : m < z.n) {lo hi : Int} (h1 : -2147483649 ≤ lo) (h2 : lo ≤ 2147483648) {v : Nat → Int} (hv : Sat z.n z.D v) (a : lo ≤ v (m + 1)) (b : v (m + 1) ≤ hi) :
    (heldZ z (m : Int) (lo, hi)).none = false ∧ Sat z.n (heldZ z (m : Int) (lo, hi)).D v := by
  have v0 := hv.zero
  have vb := hv.lo (m + 1) (by omega)
  have e1 : (m : Int) = ((m + 1 : Nat) : Int) - 1 := by omega
  have e2 : (-1 : Int) = ((0 : Nat) : Int) - 1 := by omega
  have ok1 := bound_ok h (i := m + 1) (j := 0) (by omega) (by omega) (by omega) (d := hi) (by omega)
  have s1 := bound_sat h hn (i := m + 1) (j := 0) (by omega) (by omega) (by omega) (d := hi) (by omega) hv (by omega)
  have n1 := boundZ_n z (((m + 1 : Nat) : Int) - 1) (((0 : Nat) : Int) - 1) hi
  have s2 := bound_sat ok1 s1.1 (i := 0) (j := m + 1) (by omega) (by omega) (by omega) (d := -lo) (by omega) (v := v) (by rw [n1]; exact s1.2) (by omega)
  rw [n1] at s2
  rw [held_yes hm (by omega) h1 h2, e1, e2]
  exact s2
theorem held_le {z : Zn} (h : OKZ z) {m : Nat} (hm : m < z.n) {lo hi : Int} (h1 : -2147483649 ≤ lo) (h2 : lo ≤ 2147483648) (hno : (heldZ z (m : Int) (lo, hi)).none = false) :
    lo ≤ hi ∧ Le z.n (heldZ z (m : Int) (lo, hi)).D z.D ∧ (heldZ z (m : Int) (lo, hi)).D (m + 1) 0 ≤ hi ∧ (heldZ z (m : Int) (lo, hi)).D 0 (m + 1) ≤ -lo := by
  by_cases hl : hi < lo
  · rw [held_none hm hl] at hno; cases hno
  · have e1 : (m : Int) = ((m + 1 : Nat) : Int) - 1 := by omega
    have e2 : (-1 : Int) = ((0 : Nat) : Int) - 1 := by omega
    rw [held_yes hm (by omega) h1 h2, e1, e2] at hno ⊢
    have ok1 := bound_ok h (i := m + 1) (j := 0) (by omega) (by omega) (by omega) (d := hi) (by omega)
    have n1 := boundZ_n z (((m + 1 : Nat) : Int) - 1) (((0 : Nat) : Int) - 1) hi
    have l2 := bound_le ok1 (i := 0) (j := m + 1) (by omega) (by omega) (by omega) (d := -lo) (by omega) hno
    have no1 : (boundZ z (((m + 1 : Nat) : Int) - 1) (((0 : Nat) : Int) - 1) hi).none = false := by
      cases e : (boundZ z (((m + 1 : Nat) : Int) - 1) (((0 : Nat) : Int) - 1) hi).none with
      | false => rfl
      | true => rw [boundZ_none e] at hno; rw [e] at hno; exact hno
    have l1 := bound_le h (i := m + 1) (j := 0) (by omega) (by omega) (by omega) (d := hi) (by omega) no1
    rw [n1] at l2
    refine ⟨by omega, fun a b ha hb => Int.le_trans (l2.1 a b ha hb) (l1.1 a b ha hb), Int.le_trans (l2.1 _ _ (by omega) (by omega)) l1.2, l2.2⟩
theorem itvZ_two {z : Zn} (h : OKZ z) (hn : z.none = false) {i : Nat} (hi : i < z.n) {v w : Nat → Int} (hv : Sat z.n z.D v) (hw : Sat z.n z.D w) (h1 : z.D (i + 1) 0 ≤ w (i + 1)) (h2 : z.D 0 (i + 1) ≤ -v (i + 1)) : itvZ z (i : Int) = (v (i + 1), w (i + 1)) := by
  rw [itvZ_ok h hn hi]
  have a1 := hw.le (i + 1) 0 (by omega) (by omega)
  have a2 := hv.le 0 (i + 1) (by omega) (by omega)
  simp only [vm, hv.zero, hw.zero] at a1 a2
  rw [show z.D (i + 1) 0 = w (i + 1) by omega, show z.D 0 (i + 1) = -v (i + 1) by omega, Int.neg_neg]
theorem ofP_in {lo hi : Int} (h1 : -2147483648 ≤ lo) (h2 : hi ≤ 2147483647) (h : lo ≤ hi) : ofP lo hi = (lo, hi) := by
  unfold ofP nrm
  rw [show mx lo (-2147483648) = lo by unfold mx; split <;> omega, show mn hi 2147483647 = hi by unfold mn; split <;> omega, if_neg (by omega)]
/-! ### meets -/
def mt1 : Zn := heldZ (forgetZ (zerosZ 1) ((0 : Nat) : Int)) ((0 : Nat) : Int) (2, 5)
def mt2 : Zn := heldZ mt1 ((0 : Nat) : Int) (4, 9)
theorem mt1_n : mt1.n = 1 := by unfold mt1; rw [heldZ_n, forgetZ_n]; rfl
theorem mt2_n : mt2.n = 1 := by unfold mt2; rw [heldZ_n, mt1_n]
theorem mt1_ok : OKZ mt1 := held_ok (forget_ok (zeros_ok (by omega)) (by decide)) (by rw [forgetZ_n]; decide) (by omega) (by omega) (by omega)
theorem mt2_ok : OKZ mt2 := held_ok mt1_ok (by rw [mt1_n]; decide) (by omega) (by omega) (by omega)
theorem mt1_sat {u : Int} (h1 : 2 ≤ u) (h2 : u ≤ 5) : mt1.none = false ∧ Sat 1 mt1.D (putV (fun _ => 0) 1 u) := by
  have s0 := forget_sat (z := zerosZ 1) (zeros_ok (by omega)) rfl (i := 0) (by decide) zeros_sat (u := u) (by omega) (by omega)
  have n0 := forgetZ_n (zerosZ 1) ((0 : Nat) : Int)
  have := held_sat (forget_ok (zeros_ok (by omega)) (by decide)) s0.1 (m := 0) (by rw [n0]; decide) (lo := 2) (hi := 5) (by omega) (by omega) (v := putV (fun _ => 0) 1 u) (by rw [n0]; exact s0.2) (by simpa [putV] using h1) (by simpa [putV] using h2)
  rw [n0] at this
  exact this
theorem mt2_sat {u : Int} (h1 : 4 ≤ u) (h2 : u ≤ 5) : mt2.none = false ∧ Sat 1 mt2.D (putV (fun _ => 0) 1 u) := by
  have s1 := mt1_sat (u := u) (by omega) (by omega)
  have := held_sat mt1_ok s1.1 (m := 0) (by rw [mt1_n]; decide) (lo := 4) (hi := 9) (by omega) (by omega) (v := putV (fun _ => 0) 1 u) (by rw [mt1_n]; exact s1.2) (by simpa [putV] using h1) (by simp [putV]; omega)
  rw [mt1_n] at this
  exact this
theorem mt2_le : mt2.D 1 0 ≤ 5 ∧ mt2.D 0 1 ≤ -4 := by
  have n0 := forgetZ_n (zerosZ 1) ((0 : Nat) : Int)
  have l1 := held_le (z := forgetZ (zerosZ 1) ((0 : Nat) : Int)) (forget_ok (zeros_ok (by omega)) (by decide)) (m := 0) (by rw [n0]; decide) (lo := 2) (hi := 5) (by omega) (by omega) (mt1_sat (u := 4) (by omega) (by omega)).1
  have l2 := held_le mt1_ok (m := 0) (by rw [mt1_n]; decide) (lo := 4) (hi := 9) (by omega) (by omega) (mt2_sat (u := 4) (by omega) (by omega)).1
  have a := l2.2.1 1 0 (by rw [mt1_n]; decide) (by omega)
  exact ⟨Int.le_trans a l1.2.2.1, l2.2.2.2⟩
theorem mt2_itv : itvZ mt2 ((0 : Nat) : Int) = (4, 5) := by
  have s4 := (mt2_sat (u := 4) (by omega) (by omega)).2
  have s5 := (mt2_sat (u := 5) (by omega) (by omega)).2
  have := itvZ_two mt2_ok (mt2_sat (u := 4) (by omega) (by omega)).1 (i := 0) (by rw [mt2_n]; decide) (v := putV (fun _ => 0) 1 4) (w := putV (fun _ => 0) 1 5) (by rw [mt2_n]; exact s4) (by rw [mt2_n]; exact s5) (by simpa [putV] using mt2_le.1) (by simpa [putV] using mt2_le.2)
  simpa [putV] using this
theorem mt2_has : hasB mt2 1 (fun _ => 4) = true := by
  have s4 := mt2_sat (u := 4) (by omega) (by omega)
  have := hasB_sat (V := fun _ => 4) s4.1 (by
    rw [mt2_n]
    refine s4.2.congr fun i hi => ?_
    by_cases e : i = 0
    · subst e; rfl
    · obtain rfl : i = 1 := by omega
      rfl)
  rw [mt2_n] at this
  exact this
theorem mt2_hasnt : hasB mt2 1 (fun _ => 3) = false := by
  cases e : hasB mt2 1 (fun _ => 3) with
  | false => rfl
  | true =>
    have h3 := (sat_hasB e).2.2
    have a := h3.le 0 1 (Nat.zero_le _) (by rw [mt2_n]; exact Nat.le_refl _)
    have b := mt2_le.2
    have e : vm (atV fun _ => 3) 0 1 = -3 := rfl
    rw [e] at a
    generalize mt2.D 0 1 = y at a b
    omega
end Go.Proofs.Ytgnkhncogfppgaa
