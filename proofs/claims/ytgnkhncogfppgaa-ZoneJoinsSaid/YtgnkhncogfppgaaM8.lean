import Derived.Test.YtgnkhncogfppgaaM7
import Derived.Test.YtgnkhncogfppgaaS1
import Derived.Test.YtgnkhncogfppgaaZ8
namespace Go.Proofs.Ytgnkhncogfppgaa
open Go.RowKit
/-! ### bounds in another order -/
def bndZ (z : Zn) (a : Nat → Int) : Zn :=
  if (IntKind.u64.wrap (a 1)).toNat % 4 + 1 = (IntKind.u64.wrap (a 2)).toNat % 5 then z
  else boundZ z (((IntKind.u64.wrap (a 1)).toNat % 4 : Nat) : Int) ((((IntKind.u64.wrap (a 2)).toNat % 5 : Nat) : Int) - 1) (wrap32 (a 3))
def conM (A : Mat) (a : Nat → Int) : Mat :=
  if (IntKind.u64.wrap (a 1)).toNat % 4 + 1 = (IntKind.u64.wrap (a 2)).toNat % 5 then A
  else addM A ((IntKind.u64.wrap (a 1)).toNat % 4 + 1) ((IntKind.u64.wrap (a 2)).toNat % 5) (wrap32 (a 3))
theorem bnd_rep {z : Zn} (h : OKZ z) {A : Mat} (hr : Rep 4 A z) (a : Nat → Int) : OKZ (bndZ z a) ∧ Rep 4 (conM A a) (bndZ z a) := by
  unfold bndZ conM
  by_cases hc : (IntKind.u64.wrap (a 1)).toNat % 4 + 1 = (IntKind.u64.wrap (a 2)).toNat % 5
  · rw [if_pos hc, if_pos hc]; exact ⟨h, hr⟩
  · rw [if_neg hc, if_neg hc]
    obtain ⟨i, hi⟩ : ∃ i, i = (IntKind.u64.wrap (a 1)).toNat % 4 := ⟨_, rfl⟩
    obtain ⟨j, hj⟩ : ∃ j, j = (IntKind.u64.wrap (a 2)).toNat % 5 := ⟨_, rfl⟩
    rw [← hi, ← hj] at hc ⊢
    have hi4 : i < 4 := by omega
    have hj5 : j < 5 := by omega
    have hd := wrap32_bd (a 3)
    have hn := hr.1
    have e : (i : Int) = ((i + 1 : Nat) : Int) - 1 := by omega
    rw [e]
    exact ⟨bound_ok h (by omega) (by omega) hc (by omega), rep_bound h hr (by omega) (by omega) hc (by omega)⟩
theorem conM_comm (A : Mat) (a b : Nat → Int) : conM (conM A a) b = conM (conM A b) a := by
  unfold conM
  split <;> split <;> first | rfl | exact addM_comm _ _ _ _ _ _ _
theorem conM_idem (A : Mat) (a : Nat → Int) : conM (conM A a) a = conM A a := by
  unfold conM
  split
  · rfl
  · exact addM_idem _ _ _ _
theorem conM_le {A : Mat} {a : Nat → Int} {X : Mat} (h : Le 4 X (conM A a)) : Le 4 X A := by
  unfold conM at h
  split at h
  · exact h
  · rw [addM_le (by omega) (by omega)] at h; exact h.1
def T4 : Mat := ownA 4 (topM 4)
theorem t4_rep : OKZ (topZ 4) ∧ Rep 4 T4 (topZ 4) := ⟨top_ok (by omega), close_rep (z := ⟨4, false, topM 4⟩) (topM_pre (by omega))⟩
theorem orders (a b c : Nat → Int) : OKZ (bndZ (bndZ (bndZ (topZ 4) a) b) c) ∧ bndZ (bndZ (bndZ (topZ 4) c) a) b = bndZ (bndZ (bndZ (topZ 4) a) b) c ∧ bndZ (bndZ (bndZ (bndZ (topZ 4) a) b) c) b = bndZ (bndZ (bndZ (topZ 4) a) b) c ∧
    withinB (bndZ (bndZ (bndZ (topZ 4) a) b) c) (bndZ (topZ 4) a) = true ∧ (bndZ (bndZ (bndZ (topZ 4) a) b) c).n = 4 ∧ (bndZ (topZ 4) a).n = 4 ∧ OKZ (bndZ (topZ 4) a) ∧ (∀ x y, OKZ (bndZ (bndZ (topZ 4) x) y) ∧ (bndZ (bndZ (topZ 4) x) y).n = 4) ∧ (bndZ (bndZ (bndZ (topZ 4) c) a) b).n = 4 := by
  have r1 := bnd_rep t4_rep.1 t4_rep.2 a
  have r2 := bnd_rep r1.1 r1.2 b
  have r3 := bnd_rep r2.1 r2.2 c
  have q1 := bnd_rep t4_rep.1 t4_rep.2 c
  have q2 := bnd_rep q1.1 q1.2 a
  have q3 := bnd_rep q2.1 q2.2 b
  have p := bnd_rep r3.1 r3.2 b
  refine ⟨r3.1, ?_, ?_, ?_, r3.2.1, r1.2.1, r1.1, fun x y => ?_, q3.2.1⟩
  · refine q3.2.uniq ?_
    rw [conM_comm T4 c a, conM_comm (conM T4 a) c b]; exact r3.2
  · refine p.2.uniq ?_
    rw [conM_comm (conM (conM T4 a) b) c b, conM_idem]; exact r3.2
  · unfold withinB
    rw [r3.2.1, r1.2.1]
    simp only [decide_true, Bool.true_and]
    cases hn : (bndZ (bndZ (bndZ (topZ 4) a) b) c).none with
    | true => rfl
    | false =>
      have hc := r3.2.le hn
      have hle : Le 4 (bndZ (bndZ (bndZ (topZ 4) a) b) c).D (conM T4 a) := conM_le (conM_le hc.le)
      cases hm : (bndZ (topZ 4) a).none with
      | true => exact absurd hle (r1.2.inf hm _ hc.sub)
      | false =>
        have hd := r1.2.le hm
        have := hd.top _ hc.sub hle
        simp only [Bool.not_false, Bool.true_and, Bool.false_or]
        refine leB_iff.2 fun i hi j hj => ?_
        by_cases hij : i ≤ 4 ∧ j ≤ 4
        · exact this i j hij.1 hij.2
        · rw [r3.1.out i j (by rw [r3.2.1]; exact hij), r1.1.out i j (by rw [r1.2.1]; exact hij)]; exact Int.le_refl _
  · have s1 := bnd_rep t4_rep.1 t4_rep.2 x
    have s2 := bnd_rep s1.1 s1.2 y
    exact ⟨s2.1, s2.2.1⟩
end Go.Proofs.Ytgnkhncogfppgaa
