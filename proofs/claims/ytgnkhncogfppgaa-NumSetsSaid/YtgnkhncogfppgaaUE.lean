import Derived.Test.YtgnkhncogfppgaaU9
namespace Go.Proofs.Ytgnkhncogfppgaa
/-! NumSets: plain. -/
/-- All variables but one are nought; that one is from lo to hi. -/
structure Only (k : Nat) (lo hi : Int) (z : Zn) : Prop where
  ok : OKZ z
  n : z.n = 3
  no : z.none = false
  le : ∀ a b, a ≤ 3 → b ≤ 3 → a ≠ k + 1 → b ≠ k + 1 → z.D a b ≤ 0
  up : z.D (k + 1) 0 ≤ hi
  down : z.D 0 (k + 1) ≤ -lo
  sat : ∀ u, lo ≤ u → u ≤ hi → Sat 3 z.D (putV (fun _ => 0) (k + 1) u)
theorem set_only {z : Zn} (h : OKZ z) (hn : z.n = 3) (hno : z.none = false) {k : Nat} (hk : k < 3) (hle : ∀ a b, a ≤ 3 → b ≤ 3 → a ≠ k + 1 → b ≠ k + 1 → z.D a b ≤ 0) {u0 : Int} (hs : Sat 3 z.D (putV (fun _ => 0) (k + 1) u0))
    {lo hi : Int} (h1 : -2147483648 ≤ lo) (h2 : lo ≤ hi) (h3 : hi ≤ 2147483647) : Only k lo hi (heldZ (forgetZ z (k : Int)) (k : Int) (lo, hi)) := by
  have nf := forgetZ_n z (k : Int)
  have okf := forget_ok h (i := k) (by omega)
  have sf : ∀ u, lo ≤ u → u ≤ hi → (forgetZ z (k : Int)).none = false ∧ Sat 3 (forgetZ z (k : Int)).D (putV (fun _ => 0) (k + 1) u) := fun u a b => by
    have := forget_sat h hno (i := k) (by omega) (v := putV (fun _ => 0) (k + 1) u0) (by rw [hn]; exact hs) (u := u) (by omega) (by omega)
    rw [hn] at this
    exact ⟨this.1, this.2.congr fun i _ => by unfold putV; split <;> rfl⟩
  have fe := forget_eq h hno (i := k) (by omega)
  have lf : ∀ a b, a ≤ 3 → b ≤ 3 → a ≠ k + 1 → b ≠ k + 1 → (forgetZ z (k : Int)).D a b ≤ 0 := fun a b ha hb ea eb => by
    rw [fe]
    show anyM z.D z.n (k + 1) a b ≤ 0
    rw [any_else (by omega) (by omega) ea eb]
    exact hle a b ha hb ea eb
  have nof := (sf lo (Int.le_refl _) h2).1
  generalize forgetZ z (k : Int) = f at *
  have nh : (heldZ f (k : Int) (lo, hi)).n = 3 := by rw [heldZ_n, nf, hn]
  have sh : ∀ u, lo ≤ u → u ≤ hi → (heldZ f (k : Int) (lo, hi)).none = false ∧ Sat 3 (heldZ f (k : Int) (lo, hi)).D (putV (fun _ => 0) (k + 1) u) := fun u a b => by
    have := held_sat okf nof (m := k) (by omega) (lo := lo) (hi := hi) (by omega) (by omega) (v := putV (fun _ => 0) (k + 1) u) (by rw [nf, hn]; exact (sf u a b).2) (by unfold putV; rw [if_pos rfl]; exact a) (by unfold putV; rw [if_pos rfl]; exact b)
    rw [nf, hn] at this
    exact this
  have noh := (sh lo (Int.le_refl _) h2).1
  obtain ⟨_, l1, l2, l3⟩ := held_le okf (m := k) (by omega) (lo := lo) (hi := hi) (by omega) (by omega) noh
  exact ⟨held_ok okf (by omega) (by omega) (by omega) (by omega), nh, noh, fun a b ha hb ea eb => Int.le_trans (l1 a b (by omega) (by omega)) (lf a b ha hb ea eb), l2, l3, fun u a b => (sh u a b).2⟩
theorem Only.at {k : Nat} {lo hi : Int} {z : Zn} (h : Only k lo hi z) (hk : k < 3) (hl : lo ≤ hi) : itvZ z (k : Int) = (lo, hi) := by
  have := itvZ_two h.ok h.no (i := k) (by rw [h.n]; exact hk) (v := putV (fun _ => 0) (k + 1) lo) (w := putV (fun _ => 0) (k + 1) hi) (by rw [h.n]; exact h.sat lo (Int.le_refl _) hl) (by rw [h.n]; exact h.sat hi hl (Int.le_refl _))
    (by unfold putV; rw [if_pos rfl]; exact h.up) (by unfold putV; rw [if_pos rfl]; exact h.down)
  unfold putV at this
  rw [if_pos rfl, if_pos rfl] at this
  exact this
theorem Only.else {k : Nat} {lo hi : Int} {z : Zn} (h : Only k lo hi z) (hl : lo ≤ hi) {v : Nat} (hv : v < 3) (e : v ≠ k) : itvZ z (v : Int) = (0, 0) := by
  have := itvZ_one h.ok h.no (i := v) (by rw [h.n]; exact hv) (v := putV (fun _ => 0) (k + 1) lo) (by rw [h.n]; exact h.sat lo (Int.le_refl _) hl)
    (by unfold putV; rw [if_neg (by omega)]; exact h.le _ _ (by omega) (by omega) (by omega) (by omega)) (by unfold putV; rw [if_neg (by omega)]; exact h.le _ _ (by omega) (by omega) (by omega) (by omega))
  unfold putV at this
  rw [if_neg (by omega)] at this
  exact this
/-- What an Itv may be here. -/
def Good32 (p : Int × Int) : Prop := p = (1, 0) ∨ (-2147483648 ≤ p.1 ∧ p.1 ≤ p.2 ∧ p.2 ≤ 2147483647)
theorem good_nrm {a b : Int} (h1 : -2147483648 ≤ a) (h2 : b ≤ 2147483647) : Good32 (nrm a b) := by
  unfold nrm Good32
  split
  · exact .inl rfl
  · exact .inr ⟨h1, by show a ≤ b; omega, h2⟩
theorem none_forget {n : Nat} (x : Int) : forgetZ (noneZ n) x = noneZ n := forgetZ_no x fun h => by rw [varB_iff] at h; cases h.1
theorem none_held {n : Nat} (x : Int) (i : Int × Int) : heldZ (noneZ n) x i = noneZ n := by
  unfold heldZ
  split
  · rfl
  · split
    · rfl
    · rw [boundZ_none (z := noneZ n) rfl, boundZ_none (z := noneZ n) rfl]
def setZ (z : Zn) (k : Nat) (p : Int × Int) : Zn := heldZ (forgetZ z (k : Int)) (k : Int) p
theorem set_zeros {k : Nat} (hk : k < 3) {p : Int × Int} (hp : Good32 p) : (p.2 < p.1 ∧ setZ (zerosZ 3) k p = noneZ 3) ∨ (p.1 ≤ p.2 ∧ Only k p.1 p.2 (setZ (zerosZ 3) k p)) := by
  rcases hp with rfl | ⟨h1, h2, h3⟩
  · refine .inl ⟨by show (0 : Int) < 1; omega, ?_⟩
    unfold setZ
    rw [held_none (by rw [forgetZ_n]; exact hk) (by omega), forgetZ_n]
    rfl
  · refine .inr ⟨h2, ?_⟩
    exact set_only (zeros_ok (by omega)) rfl rfl hk (fun a b _ _ _ _ => Int.le_refl _) (u0 := 0) (zeros_sat.congr fun i _ => by unfold putV; split <;> rfl) h1 h2 h3
theorem set_again {k : Nat} (hk : k < 3) {p q : Int × Int} (hp : Good32 p) (hq : Good32 q) :
    (q.2 < q.1 ∨ p.2 < p.1) ∧ setZ (setZ (zerosZ 3) k p) k q = noneZ 3 ∨ (p.1 ≤ p.2 ∧ q.1 ≤ q.2 ∧ Only k q.1 q.2 (setZ (setZ (zerosZ 3) k p) k q)) := by
  rcases set_zeros hk hp with ⟨h1, h2⟩ | ⟨h1, h2⟩
  · refine .inl ⟨.inr h1, ?_⟩
    rw [h2]; unfold setZ; rw [none_forget, none_held]
  · rcases hq with rfl | ⟨g1, g2, g3⟩
    · refine .inl ⟨.inl (by show (0 : Int) < 1; omega), ?_⟩
      generalize setZ (zerosZ 3) k p = z at *
      unfold setZ
      rw [held_none (by rw [forgetZ_n, h2.n]; exact hk) (by omega), forgetZ_n, h2.n]
    · refine .inr ⟨h1, g2, ?_⟩
      generalize setZ (zerosZ 3) k p = z at *
      exact set_only h2.ok h2.n h2.no hk h2.le (h2.sat _ (Int.le_refl _) h1) g1 g2 g3
/-- What NumSets asks of both. -/
theorem sets_f {k : Nat} (hk : k < 3) {p q : Int × Int} (hp : Good32 p) (hq : Good32 q) :
    ((setZ (zerosZ 3) k p).n = 3 ∧ OKZ (setZ (zerosZ 3) k p) ∧ (setZ (zerosZ 3) k p).none = decide (p.2 < p.1)) ∧
    (setZ (setZ (zerosZ 3) k p) k q).n = 3 ∧ OKZ (setZ (setZ (zerosZ 3) k p) k q) ∧ (setZ (setZ (zerosZ 3) k p) k q).none = (decide (p.2 < p.1) || decide (q.2 < q.1)) ∧
    ((setZ (setZ (zerosZ 3) k p) k q).none = false → ∀ v : Nat, v < 3 → itvZ (setZ (setZ (zerosZ 3) k p) k q) (v : Int) = if v = k then q else (0, 0)) := by
  have ok0 : OKZ (noneZ 3) := noneZ_ok (by omega)
  refine ⟨?_, ?_⟩
  · rcases set_zeros hk hp with ⟨h1, h2⟩ | ⟨h1, h2⟩
    · rw [h2]; exact ⟨rfl, ok0, by rw [decide_eq_true h1]; rfl⟩
    · exact ⟨h2.n, h2.ok, by rw [h2.no, decide_eq_false (by omega)]⟩
  · rcases set_again hk hp hq with ⟨h1, h2⟩ | ⟨h1, h2, h3⟩
    · rw [h2]
      refine ⟨rfl, ok0, ?_, fun h => by cases h⟩
      rcases h1 with h1 | h1
      · rw [decide_eq_true h1, Bool.or_true]; rfl
      · rw [decide_eq_true h1, Bool.true_or]; rfl
    · refine ⟨h3.n, h3.ok, by rw [h3.no, decide_eq_false (by omega), decide_eq_false (by omega)]; rfl, fun _ v hv => ?_⟩
      split
      · rename_i e; subst e; exact h3.at hk h2
      · rename_i e; exact h3.else h2 hv e
end Go.Proofs.Ytgnkhncogfppgaa
