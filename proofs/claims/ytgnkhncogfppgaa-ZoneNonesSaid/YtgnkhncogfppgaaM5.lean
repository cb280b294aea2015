import Derived.Test.YtgnkhncogfppgaaM4
namespace Go.Proofs.Ytgnkhncogfppgaa
/-! Chains of differences: each variable follows from the first one. -/
def ofs (d : Nat → Int) : Nat → Int
  | 0 => 0
  | k + 1 => ofs d k + d k
theorem ofs_bd {d : Nat → Int} (hd : ∀ i, -1000 ≤ d i ∧ d i ≤ 1000) : ∀ k, -(1000 * k) ≤ ofs d k ∧ ofs d k ≤ 1000 * k
  | 0 => by simp [ofs]
  | k + 1 => by have := ofs_bd hd k; have := hd k; simp only [ofs]; omega
def linkC (z : Zn) (i : Nat) (d : Int) : Zn := boundZ (boundZ z ((i + 1 : Nat) : Int) (i : Int) d) (i : Int) ((i + 1 : Nat) : Int) (0 - d)
def chZ (d : Nat → Int) : Nat → Zn
  | 0 => topZ 6
  | i + 1 => linkC (chZ d i) i (d i)
/-- The first variable's number is u. -/
def shV (d : Nat → Int) (u : Int) : Nat → Int := fun k => if k = 0 then 0 else u + ofs d (k - 1)
structure ChI (d : Nat → Int) (m : Nat) (z : Zn) : Prop where
  ok : OKZ z
  n : z.n = 6
  sat : ∀ u, -2000000000 ≤ u → u ≤ 2000000000 → z.none = false ∧ Sat 6 z.D (shV d u)
  up : ∀ i, i < m → z.D (i + 2) (i + 1) ≤ d i
  down : ∀ i, i < m → z.D (i + 1) (i + 2) ≤ -(d i)
theorem shV_bd {d : Nat → Int} (hd : ∀ i, -1000 ≤ d i ∧ d i ≤ 1000) {u : Int} (h1 : -2000000000 ≤ u) (h2 : u ≤ 2000000000) (k : Nat) (hk : k ≤ 6) : -2147483648 ≤ shV d u k ∧ shV d u k ≤ 2147483647 := by
  unfold shV
  split
  · omega
  · have := ofs_bd hd (k - 1); omega
theorem chI {d : Nat → Int} (hd : ∀ i, -1000 ≤ d i ∧ d i ≤ 1000) : ∀ m, m ≤ 5 → ChI d m (chZ d m)
  | 0, _ => ⟨top_ok (by omega), topZ_n 6, fun u h1 h2 => top_sat (by omega) rfl (fun i hi => (shV_bd hd h1 h2 i hi).1) (fun i hi => (shV_bd hd h1 h2 i hi).2), fun i hi => by omega, fun i hi => by omega⟩
  | m + 1, hm => by
    have ih := chI hd m (by omega)
    have hdm := hd m
    have e1 : (((m + 1 : Nat) : Int)) = ((m + 2 : Nat) : Int) - 1 := by omega
    have e2 : ((m : Nat) : Int) = ((m + 1 : Nat) : Int) - 1 := by omega
    have hn := ih.n
    have ok1 := bound_ok ih.ok (i := m + 2) (j := m + 1) (by omega) (by omega) (by omega) (d := d m) (by omega)
    have n1 : (boundZ (chZ d m) (((m + 2 : Nat) : Int) - 1) (((m + 1 : Nat) : Int) - 1) (d m)).n = 6 := by rw [boundZ_n, hn]
    have sat1 : ∀ u, -2000000000 ≤ u → u ≤ 2000000000 → (boundZ (chZ d m) (((m + 2 : Nat) : Int) - 1) (((m + 1 : Nat) : Int) - 1) (d m)).none = false ∧ Sat 6 (boundZ (chZ d m) (((m + 2 : Nat) : Int) - 1) (((m + 1 : Nat) : Int) - 1) (d m)).D (shV d u) := fun u h1 h2 => by
      obtain ⟨a, b⟩ := ih.sat u h1 h2
      have := bound_sat ih.ok a (i := m + 2) (j := m + 1) (by omega) (by omega) (by omega) (d := d m) (by omega) (v := shV d u) (by rw [hn]; exact b) (by simp only [shV]; rw [if_neg (by omega), if_neg (by omega)]; simp [ofs]; omega)
      rw [hn] at this; exact this
    have le1 := bound_le ih.ok (i := m + 2) (j := m + 1) (by omega) (by omega) (by omega) (d := d m) (by omega) (sat1 0 (by omega) (by omega)).1
    have ok2 := bound_ok ok1 (i := m + 1) (j := m + 2) (by omega) (by omega) (by omega) (d := 0 - d m) (by omega)
    have sat2 : ∀ u, -2000000000 ≤ u → u ≤ 2000000000 → (boundZ (boundZ (chZ d m) (((m + 2 : Nat) : Int) - 1) (((m + 1 : Nat) : Int) - 1) (d m)) (((m + 1 : Nat) : Int) - 1) (((m + 2 : Nat) : Int) - 1) (0 - d m)).none = false ∧ Sat 6 (boundZ (boundZ (chZ d m) (((m + 2 : Nat) : Int) - 1) (((m + 1 : Nat) : Int) - 1) (d m)) (((m + 1 : Nat) : Int) - 1) (((m + 2 : Nat) : Int) - 1) (0 - d m)).D (shV d u) := fun u h1 h2 => by
      obtain ⟨a, b⟩ := sat1 u h1 h2
      have := bound_sat ok1 a (i := m + 1) (j := m + 2) (by omega) (by omega) (by omega) (d := 0 - d m) (by omega) (v := shV d u) (by rw [n1]; exact b) (by simp only [shV]; rw [if_neg (by omega), if_neg (by omega)]; simp [ofs]; omega)
      rw [n1] at this; exact this
    have le2 := bound_le ok1 (i := m + 1) (j := m + 2) (by omega) (by omega) (by omega) (d := 0 - d m) (by omega) (sat2 0 (by omega) (by omega)).1
    rw [n1] at le2
    rw [hn] at le1
    show ChI d (m + 1) (linkC (chZ d m) m (d m))
    unfold linkC
    rw [e1, e2]
    refine ⟨ok2, by rw [boundZ_n, n1], sat2, fun i hi => ?_, fun i hi => ?_⟩
    · by_cases him : i = m
      · subst him; exact Int.le_trans (le2.1 _ _ (by omega) (by omega)) le1.2
      · exact Int.le_trans (le2.1 _ _ (by omega) (by omega)) (Int.le_trans (le1.1 _ _ (by omega) (by omega)) (ih.up i (by omega)))
    · by_cases him : i = m
      · subst him; have := le2.2; omega
      · exact Int.le_trans (le2.1 _ _ (by omega) (by omega)) (Int.le_trans (le1.1 _ _ (by omega) (by omega)) (ih.down i (by omega)))
theorem ChI.none {d : Nat → Int} {m : Nat} {z : Zn} (h : ChI d m z) : z.none = false := (h.sat 0 (by omega) (by omega)).1
/-- Differences of neighbours add up. -/
theorem ChI.le {d : Nat → Int} {z : Zn} (h : ChI d 5 z) (j : Nat) : ∀ k, j + k ≤ 5 → z.D (j + k + 1) (j + 1) ≤ ofs d (j + k) - ofs d j ∧ z.D (j + 1) (j + k + 1) ≤ ofs d j - ofs d (j + k)
  | 0, hk => by
    have := (h.ok.sub h.none).diag (j + 1) (by rw [h.n]; omega)
    simp only [Nat.add_zero]
    omega
  | k + 1, hk => by
    obtain ⟨a, b⟩ := h.le j k (by omega)
    have hs := h.ok.sub h.none
    have t1 := hs.tri (j + k + 2) (j + 1) (j + k + 1) (by rw [h.n]; omega) (by rw [h.n]; omega) (by rw [h.n]; omega)
    have t2 := hs.tri (j + 1) (j + k + 2) (j + k + 1) (by rw [h.n]; omega) (by rw [h.n]; omega) (by rw [h.n]; omega)
    have u1 := h.up (j + k) (by omega)
    have u2 := h.down (j + k) (by omega)
    have eo : ofs d (j + (k + 1)) = ofs d (j + k) + d (j + k) := rfl
    rw [eo]
    have e : j + (k + 1) + 1 = j + k + 2 := by omega
    rw [e]
    omega
theorem ChI.eq {d : Nat → Int} {z : Zn} (h : ChI d 5 z) {i j : Nat} (hi : i < 6) (hj : j < 6) : z.D (i + 1) (j + 1) = ofs d i - ofs d j := by
  refine Int.le_antisymm ?_ ?_
  · rcases Nat.le_total j i with hle | hle
    · have := (h.le j (i - j) (by omega)).1
      rwa [show j + (i - j) = i by omega] at this
    · have := (h.le i (j - i) (by omega)).2
      rwa [show i + (j - i) = j by omega] at this
  · have := (h.sat 0 (by omega) (by omega)).2.le (i + 1) (j + 1) (by omega) (by omega)
    simp only [vm, shV] at this
    rw [if_neg (by omega), if_neg (by omega)] at this
    simp only [Nat.add_sub_cancel] at this
    omega
/-- With the first variable at 5. -/
def chW (z : Zn) : Zn := boundZ (boundZ z 0 (-1) 5) (-1) 0 (-5)
theorem chW_facts {d : Nat → Int} (_ : ∀ i, -1000 ≤ d i ∧ d i ≤ 1000) {z : Zn} (h : ChI d 5 z) :
    OKZ (chW z) ∧ (chW z).none = false ∧ (chW z).n = 6 ∧ Sat 6 (chW z).D (shV d 5) ∧ ∀ i, i < 6 → (chW z).D (i + 1) 0 ≤ 5 + ofs d i ∧ (chW z).D 0 (i + 1) ≤ -(5 + ofs d i) := by
  have hn := h.n
  have ok1 := bound_ok h.ok (i := 1) (j := 0) (by omega) (by omega) (by omega) (d := 5) (by omega)
  obtain ⟨a, b⟩ := h.sat 5 (by omega) (by omega)
  have s1 := bound_sat h.ok a (i := 1) (j := 0) (by omega) (by omega) (by omega) (d := 5) (by omega) (v := shV d 5) (by rw [hn]; exact b) (by simp [shV, ofs])
  rw [hn] at s1
  have l1 := bound_le h.ok (i := 1) (j := 0) (by omega) (by omega) (by omega) (d := 5) (by omega) s1.1
  have n1 : (boundZ z ((1 : Nat) - 1 : Int) ((0 : Nat) - 1 : Int) 5).n = 6 := by rw [boundZ_n, hn]
  have ok2 := bound_ok ok1 (i := 0) (j := 1) (by omega) (by omega) (by omega) (d := -5) (by omega)
  have s2 := bound_sat ok1 s1.1 (i := 0) (j := 1) (by omega) (by omega) (by omega) (d := -5) (by omega) (v := shV d 5) (by rw [n1]; exact s1.2) (by simp [shV, ofs])
  rw [n1] at s2
  have l2 := bound_le ok1 (i := 0) (j := 1) (by omega) (by omega) (by omega) (d := -5) (by omega) s2.1
  rw [n1] at l2
  rw [hn] at l1
  have e : chW z = boundZ (boundZ z ((1 : Nat) - 1 : Int) ((0 : Nat) - 1 : Int) 5) ((0 : Nat) - 1 : Int) ((1 : Nat) - 1 : Int) (-5) := rfl
  rw [← e] at ok2 s2 l2
  have n2 : (chW z).n = 6 := by rw [e, boundZ_n, n1]
  refine ⟨ok2, s2.1, n2, s2.2, fun i hi => ?_⟩
  have hs := ok2.sub s2.1
  have t1 := hs.tri (i + 1) 0 1 (by omega) (by omega) (by omega)
  have t2 := hs.tri 0 (i + 1) 1 (by omega) (by omega) (by omega)
  have q1 := h.eq (i := i) (j := 0) hi (by omega)
  have q2 := h.eq (i := 0) (j := i) (by omega) hi
  simp only [Nat.zero_add, ofs] at q1 q2
  have m1 := l2.1 (i + 1) 1 (by omega) (by omega)
  have m2 := l1.1 (i + 1) 1 (by omega) (by omega)
  have m3 := l2.1 1 (i + 1) (by omega) (by omega)
  have m4 := l1.1 1 (i + 1) (by omega) (by omega)
  have m5 := l2.1 1 0 (by omega) (by omega)
  have m6 := l1.2
  have m7 := l2.2
  omega
end Go.Proofs.Ytgnkhncogfppgaa
