import Derived.Test.YtgnkhncogfppgaaQB
import Derived.Test.YtgnkhncogfppgaaMC
namespace Go.Proofs.Ytgnkhncogfppgaa
open Go.RowKit
/-! ZoneHas' last region: 'append(append([]int{}, v...), 1)'. -/
theorem slc_inj {g g' n n' : Nat} (h : slc g n = slc g' n') : g = g' := by unfold slc at h; injection h with h; injection h with h; injection h with h
theorem OwnI.slc_lt {w : World} {base g n : Nat} {V : Nat → Int} (h : OwnI w base (slc g n) n V) : g < w.heap.size ∧ base ≤ g := by
  rcases h.2 with ⟨h1, _⟩ | ⟨g', cap', cur, hv, hb, hg, _⟩
  · unfold slc at h1; cases h1
  · unfold slc at hv
    injection hv with e1
    injection e1 with e1
    injection e1 with e1
    subst e1
    exact ⟨(Array.getElem?_eq_some_iff.1 hg).1, hb⟩
def HasP (h k : Nat) (V V' : Nat → Int) (Λ : Nat → Bool) (ρ : Nat → Value) (W : World) : Prop :=
  (Λ 8 = true → Λ 10 = false → ∃ g, ρ 8 = slc g 0 ∧ OwnI W h (slc g 0) 0 V ∧ (Λ 11 = true → ρ 11 ≠ slc g 1)) ∧
  (Λ 10 = true → Λ 12 = false → OwnI W h (ρ 10) k V) ∧
  (Λ 11 = true → Λ 12 = false → ∃ g, ρ 11 = slc g 1 ∧ W.cell? ⟨g, 0, none⟩ = some (.int .i64 1)) ∧
  (Λ 12 = true → OwnI W h (ρ 12) (k + 1) V') ∧ (Λ 10 = true → Λ 8 = true) ∧ (Λ 12 = true → Λ 10 = true) ∧ (Λ 12 = true → Λ 11 = true)
section
variable {h k : Nat} {V V' : Nat → Int} {Λ : Nat → Bool} {ρ : Nat → Value} {W W' : World}
theorem HasP.zero : HasP h k V V' (fun _ => false) ρ W := by
  unfold HasP
  refine ⟨?_, ?_, ?_, ?_, ?_, ?_, ?_⟩ <;> (intro e; cases e)
theorem HasP.stab (hD : HasP h k V V' Λ ρ W) {j : Nat} {v : Value} (a : 8 ≠ j) (b : 10 ≠ j) (c : 11 ≠ j) (d : 12 ≠ j) (hb : Below W.heap.size W W') : HasP h k V V' (up Λ j true) (up ρ j v) W' := by
  obtain ⟨h1, h2, h3, h4, h5, h6, h7⟩ := hD
  unfold HasP
  rw [up_ne Λ true a, up_ne Λ true b, up_ne Λ true c, up_ne Λ true d, up_ne ρ v a, up_ne ρ v b, up_ne ρ v c, up_ne ρ v d]
  refine ⟨fun e1 e2 => ?_, fun e1 e2 => (h2 e1 e2).on hb, fun e1 e2 => ?_, fun e1 => (h4 e1).on hb, h5, h6, h7⟩
  · obtain ⟨g, a1, a2, a3⟩ := h1 e1 e2
    exact ⟨g, a1, a2.on hb, a3⟩
  · obtain ⟨g, a1, a2⟩ := h3 e1 e2
    exact ⟨g, a1, (hb.cell (p := ⟨g, 0, none⟩) (block_lt_of_cell a2)).trans a2⟩
theorem HasP.s8 (hD : HasP h k V V' Λ ρ W) (hk : Λ 8 = false) (hh : h ≤ W.heap.size) : HasP h k V V' (up Λ 8 true) (up ρ 8 (slc W.heap.size 0)) (W.alloc (.cells #[] 3)) := by
  obtain ⟨h1, h2, h3, h4, h5, h6, h7⟩ := hD
  have n10 : Λ 10 = false := by cases e : Λ 10 with | false => rfl | true => rw [h5 e] at hk; cases hk
  have n12 : Λ 12 = false := by cases e : Λ 12 with | false => rfl | true => rw [h6 e] at n10; cases n10
  have hb : Below W.heap.size W (W.alloc (.cells #[] 3)) := (Below.refl _ _).alloc (Nat.le_refl _) _
  unfold HasP
  rw [up_same, up_same, up_ne Λ true (by decide : 10 ≠ 8), up_ne Λ true (by decide : 11 ≠ 8), up_ne Λ true (by decide : 12 ≠ 8), up_ne ρ _ (by decide : 10 ≠ 8), up_ne ρ _ (by decide : 11 ≠ 8), up_ne ρ _ (by decide : 12 ≠ 8), n10, n12]
  refine ⟨fun _ _ => ⟨_, rfl, OwnI.empty V (Go.heap_alloc_new W _) hh, fun e1 e2 => ?_⟩, fun e => (by cases e), fun e1 e2 => ?_, fun e => (by cases e), fun e => (by cases e), fun e => (by cases e), fun e => (by cases e)⟩
  · obtain ⟨g, a1, a2⟩ := h3 e1 n12
    have := slc_inj (a1.symm.trans e2)
    have := block_lt_of_cell a2
    simp at this
    omega
  · obtain ⟨g, a1, a2⟩ := h3 e1 n12
    exact ⟨g, a1, (hb.cell (p := ⟨g, 0, none⟩) (block_lt_of_cell a2)).trans a2⟩
theorem HasP.s10 (hD : HasP h k V V' Λ ρ W) (hk : Λ 10 = false) (h8 : Λ 8 = true) {v' : Value} (ho : OwnI W' h v' k V) (hg : W.grownBy W' (ρ 8).ownBlock) : HasP h k V V' (up Λ 10 true) (up ρ 10 v') W' := by
  obtain ⟨h1, h2, h3, h4, h5, h6, h7⟩ := hD
  have n12 : Λ 12 = false := by cases e : Λ 12 with | false => rfl | true => rw [h6 e] at hk; cases hk
  obtain ⟨g, a1, a2, a3⟩ := h1 h8 hk
  unfold HasP
  rw [up_same, up_same, up_ne Λ true (by decide : 8 ≠ 10), up_ne Λ true (by decide : 11 ≠ 10), up_ne Λ true (by decide : 12 ≠ 10), up_ne ρ _ (by decide : 8 ≠ 10), up_ne ρ _ (by decide : 11 ≠ 10), up_ne ρ _ (by decide : 12 ≠ 10), n12, h8]
  refine ⟨fun _ e => (by cases e), fun _ _ => ho, fun e1 _ => ?_, fun e => (by cases e), fun _ => rfl, fun e => (by cases e), fun e => (by cases e)⟩
  obtain ⟨g1, b1, b2⟩ := h3 e1 n12
  refine ⟨g1, b1, ?_⟩
  have hlt := block_lt_of_cell b2
  have hne : some g1 ≠ (ρ 8).ownBlock := by
    rw [a1]
    intro e
    simp only [slc, Value.ownBlock, Option.some.injEq] at e
    subst e
    exact a3 e1 b1
  have hbl := hg.block g1 hlt (fun e => hne e)
  unfold World.cell? at b2 ⊢
  rw [hbl]
  exact b2
theorem HasP.s11 (hD : HasP h k V V' Λ ρ W) (hk : Λ 11 = false) : HasP h k V V' (up Λ 11 true) (up ρ 11 (slc W.heap.size 1)) (W.alloc (.cells #[.int .i64 1] 3)) := by
  obtain ⟨h1, h2, h3, h4, h5, h6, h7⟩ := hD
  have n12 : Λ 12 = false := by cases e : Λ 12 with | false => rfl | true => rw [h7 e] at hk; cases hk
  have hb : Below W.heap.size W (W.alloc (.cells #[.int .i64 1] 3)) := (Below.refl _ _).alloc (Nat.le_refl _) _
  unfold HasP
  rw [up_same, up_same, up_ne Λ true (by decide : 8 ≠ 11), up_ne Λ true (by decide : 10 ≠ 11), up_ne Λ true (by decide : 12 ≠ 11), up_ne ρ _ (by decide : 8 ≠ 11), up_ne ρ _ (by decide : 10 ≠ 11), up_ne ρ _ (by decide : 12 ≠ 11), n12]
  refine ⟨fun e1 e2 => ?_, fun e1 e2 => (h2 e1 n12).on hb, fun _ _ => ⟨_, rfl, (RowAt.new W 3 #[.int .i64 1]).cell 0⟩, fun e => (by cases e), h5, fun e => (by cases e), fun e => (by cases e)⟩
  obtain ⟨g, a1, a2, _⟩ := h1 e1 e2
  refine ⟨g, a1, a2.on hb, fun _ e => ?_⟩
  have := slc_inj e
  have := a2.slc_lt.1
  omega
theorem HasP.s12 (hD : HasP h k V V' Λ ρ W) (h10 : Λ 10 = true) (h11 : Λ 11 = true) {v' : Value} (ho : OwnI W' h v' (k + 1) V') : HasP h k V V' (up Λ 12 true) (up ρ 12 v') W' := by
  obtain ⟨_, _, _, _, h5, _, _⟩ := hD
  unfold HasP
  rw [up_same, up_same, up_ne Λ true (by decide : 8 ≠ 12), up_ne Λ true (by decide : 10 ≠ 12), up_ne Λ true (by decide : 11 ≠ 12), h10, h11]
  exact ⟨fun _ e => (by cases e), fun _ e => (by cases e), fun _ e => (by cases e), fun _ => ho, fun _ => h5 h10, fun _ => rfl, fun _ => rfl⟩
end
end Go.Proofs.Ytgnkhncogfppgaa
