import Derived.Test.YtgnkhncogfppgaaM1
namespace Go.Proofs.Ytgnkhncogfppgaa
section ref
variable (n : Nat)
/-- One step of the document's rounds. -/
def rlax (i j k : Nat) (D : Mat) : Mat := upd D i j (mx (mn (D i j) (w64 (D i k + D k j))) (-35184372088832))
def rK (i j m : Nat) (D : Mat) : Mat := iter (fun k S => rlax i j k S) m D
def rJ (i m : Nat) (D : Mat) : Mat := iter (fun j S => rK i j (n + 1) S) m D
def rI (m : Nat) (D : Mat) : Mat := iter (fun i S => rJ n i (n + 1) S) m D
def rR (m : Nat) (D : Mat) : Mat := iter (fun _ S => rI n (n + 1) S) m D

/-- What is kept by each step. -/
structure RInv (U : Int) (A S : Mat) : Prop where
  lo : ∀ i j, i ≤ n → j ≤ n → -35184372088832 ≤ S i j
  hi : ∀ i j, i ≤ n → j ≤ n → S i j ≤ U
  top : ∀ B, Sub n B → Le n B A → Le n B S
variable {n} {U : Int} {A : Mat}
theorem rlax_same {i j k : Nat} {S : Mat} (hU : U ≤ 1000000000000000000) (h : RInv n U A S) (hi : i ≤ n) (hj : j ≤ n) (hk : k ≤ n) :
    rlax i j k S i j = mx (mn (S i j) (S i k + S k j)) (-35184372088832) := by
  unfold rlax; rw [upd_same]
  have h1 := h.lo i k hi hk; have h2 := h.lo k j hk hj; have h3 := h.hi i k hi hk; have h4 := h.hi k j hk hj
  rw [w64_in (by omega) (by omega)]
theorem rlax_le {i j k : Nat} {S : Mat} (hU : U ≤ 1000000000000000000) (h : RInv n U A S) (hi : i ≤ n) (hj : j ≤ n) (hk : k ≤ n) : Le n (rlax i j k S) S := by
  intro a b ha hb
  by_cases hab : a = i ∧ b = j
  · obtain ⟨rfl, rfl⟩ := hab
    rw [rlax_same hU h hi hj hk]
    have := h.lo a b hi hj
    have h1 := mn_le (S a b) (S a k + S k b)
    unfold mx; split <;> omega
  · unfold rlax; rw [upd_ne _ _ _ _ hab]; exact Int.le_refl _
theorem rlax_inv {i j k : Nat} {S : Mat} (hU : U ≤ 1000000000000000000) (h : RInv n U A S) (hi : i ≤ n) (hj : j ≤ n) (hk : k ≤ n) : RInv n U A (rlax i j k S) := by
  refine ⟨fun a b ha hb => ?_, fun a b ha hb => Int.le_trans (rlax_le hU h hi hj hk a b ha hb) (h.hi a b ha hb), fun B hB hBA a b ha hb => ?_⟩
  · by_cases hab : a = i ∧ b = j
    · obtain ⟨rfl, rfl⟩ := hab
      rw [rlax_same hU h hi hj hk]
      unfold mx; split <;> omega
    · unfold rlax; rw [upd_ne _ _ _ _ hab]; exact h.lo a b ha hb
  · by_cases hab : a = i ∧ b = j
    · obtain ⟨rfl, rfl⟩ := hab
      rw [rlax_same hU h hi hj hk]
      have t := h.top B hB hBA
      have h1 := hB.tri a b k hi hj hk
      have h2 := t a k hi hk; have h3 := t k b hk hj
      have h4 := le_mn (t a b hi hj) (show B a b ≤ S a k + S k b by omega)
      unfold mx; split <;> omega
    · unfold rlax; rw [upd_ne _ _ _ _ hab]; exact h.top B hB hBA a b ha hb
theorem Le.trans {A B C : Mat} (h : Le n A B) (h' : Le n B C) : Le n A C := fun i j hi hj => Int.le_trans (h i j hi hj) (h' i j hi hj)
theorem Le.refl (A : Mat) : Le n A A := fun _ _ _ _ => Int.le_refl _

/-- What is below the mark c stays below it. -/
theorem rlax_low {i j k : Nat} {S : Mat} (hU : U ≤ 1000000000000000000) (h : RInv n U A S) (hi : i ≤ n) (hj : j ≤ n) (hk : k ≤ n) {T : Mat} (hT : Le n S T) : Le n (rlax i j k S) T :=
  (rlax_le hU h hi hj hk).trans hT

theorem rK_all {i j : Nat} {S : Mat} (hU : U ≤ 1000000000000000000) (h : RInv n U A S) (hi : i ≤ n) (hj : j ≤ n) :
    ∀ m, m ≤ n + 1 → RInv n U A (rK i j m S) ∧ Le n (rK i j m S) S ∧ ∀ k, k < m → rK i j m S i j ≤ mx (mn (S i j) (S i k + S k j)) (-35184372088832)
  | 0, _ => ⟨h, Le.refl _, fun k hk => by omega⟩
  | m + 1, hm => by
    obtain ⟨h1, h2, h3⟩ := rK_all hU h hi hj m (by omega)
    have hmn : m ≤ n := by omega
    have l := rlax_le hU h1 hi hj hmn
    refine ⟨rlax_inv hU h1 hi hj hmn, l.trans h2, fun k hk => ?_⟩
    by_cases hkm : k < m
    · exact Int.le_trans (l i j hi hj) (h3 k hkm)
    · obtain rfl : k = m := by omega
      show rlax i j k (rK i j k S) i j ≤ _
      rw [rlax_same hU h1 hi hj hmn]
      have e1 := h2 i j hi hj; have e2 := h2 i k hi hmn; have e3 := h2 k j hmn hj
      unfold mx mn; repeat' split <;> omega
theorem rJ_all {i : Nat} {S : Mat} (hU : U ≤ 1000000000000000000) (h : RInv n U A S) (hi : i ≤ n) :
    ∀ m, m ≤ n + 1 → RInv n U A (rJ n i m S) ∧ Le n (rJ n i m S) S ∧ ∀ j, j < m → ∀ k, k ≤ n → rJ n i m S i j ≤ mx (mn (S i j) (S i k + S k j)) (-35184372088832)
  | 0, _ => ⟨h, Le.refl _, fun k hk => by omega⟩
  | m + 1, hm => by
    obtain ⟨h1, h2, h3⟩ := rJ_all hU h hi m (by omega)
    have hmn : m ≤ n := by omega
    obtain ⟨g1, g2, g3⟩ := rK_all hU h1 hi hmn (n + 1) (Nat.le_refl _)
    refine ⟨g1, g2.trans h2, fun j hj k hk => ?_⟩
    by_cases hjm : j < m
    · exact Int.le_trans (g2 i j hi (by omega)) (h3 j hjm k hk)
    · obtain rfl : j = m := by omega
      refine Int.le_trans (g3 k (by omega)) ?_
      have e1 := h2 i j hi hmn; have e2 := h2 i k hi hk; have e3 := h2 k j hk hmn
      unfold mx mn; repeat' split <;> omega
theorem rI_all {S : Mat} (hU : U ≤ 1000000000000000000) (h : RInv n U A S) :
    ∀ m, m ≤ n + 1 → RInv n U A (rI n m S) ∧ Le n (rI n m S) S ∧ ∀ i, i < m → ∀ j k, j ≤ n → k ≤ n → rI n m S i j ≤ mx (mn (S i j) (S i k + S k j)) (-35184372088832)
  | 0, _ => ⟨h, Le.refl _, fun k hk => by omega⟩
  | m + 1, hm => by
    obtain ⟨h1, h2, h3⟩ := rI_all hU h m (by omega)
    have hmn : m ≤ n := by omega
    obtain ⟨g1, g2, g3⟩ := rJ_all hU h1 hmn (n + 1) (Nat.le_refl _)
    refine ⟨g1, g2.trans h2, fun i hi j k hj hk => ?_⟩
    by_cases him : i < m
    · exact Int.le_trans (g2 i j (by omega) hj) (h3 i him j k hj hk)
    · obtain rfl : i = m := by omega
      refine Int.le_trans (g3 j (by omega) k hk) ?_
      have e1 := h2 i j hmn hj; have e2 := h2 i k hmn hk; have e3 := h2 k j hk hj
      unfold mx mn; repeat' split <;> omega

theorem rlax_out {i j k : Nat} {D : Mat} {a b : Nat} (h : ¬ (a ≤ n ∧ b ≤ n)) (hi : i ≤ n) (hj : j ≤ n) : rlax i j k D a b = D a b := by
  unfold rlax; rw [upd_ne _ _ _ _ (by omega)]
theorem rK_out {i j : Nat} {D : Mat} {a b : Nat} (h : ¬ (a ≤ n ∧ b ≤ n)) (hi : i ≤ n) (hj : j ≤ n) : ∀ m, rK i j m D a b = D a b
  | 0 => rfl
  | m + 1 => (rlax_out h hi hj).trans (rK_out h hi hj m)
theorem rJ_out {i : Nat} {D : Mat} {a b : Nat} (h : ¬ (a ≤ n ∧ b ≤ n)) (hi : i ≤ n) : ∀ m, m ≤ n + 1 → rJ n i m D a b = D a b
  | 0, _ => rfl
  | m + 1, hm => (rK_out h hi (by omega) _).trans (rJ_out h hi m (by omega))
theorem rI_out {D : Mat} {a b : Nat} (h : ¬ (a ≤ n ∧ b ≤ n)) : ∀ m, m ≤ n + 1 → rI n m D a b = D a b
  | 0, _ => rfl
  | m + 1, hm => (rJ_out h (by omega) _ (Nat.le_refl _)).trans (rI_out h m (by omega))
theorem rR_out {D : Mat} {a b : Nat} (h : ¬ (a ≤ n ∧ b ≤ n)) : ∀ m, rR n m D a b = D a b
  | 0 => rfl
  | m + 1 => (rI_out h _ (Nat.le_refl _)).trans (rR_out h m)

theorem rR_inv (hU : U ≤ 1000000000000000000) (h : RInv n U A A) : ∀ m, RInv n U A (rR n m A)
  | 0 => h
  | m + 1 => (rI_all hU (rR_inv hU h m) (n + 1) (Nat.le_refl _)).1
theorem rR_step_le (hU : U ≤ 1000000000000000000) (h : RInv n U A A) (m : Nat) : Le n (rR n (m + 1) A) (rR n m A) :=
  (rI_all hU (rR_inv hU h m) (n + 1) (Nat.le_refl _)).2.1

/-- The document's rounds go down at least as fast as the program's. -/
theorem rR_fw {L : Int} (hn : n ≤ 6) (hL : 0 ≤ L) (hL' : L * 128 ≤ 35184372088832) (hU : U ≤ 1000000000000000000) (hs : Good n L U A 0 A) (hr : RInv n U A A) :
    ∀ k, k ≤ n + 1 → (∃ D, Good n L U A k D ∧ Le n (rR n k A) D) ∨ (Infeas n A ∧ ∃ i, i ≤ n ∧ rR n k A i i < 0)
  | 0, _ => Or.inl ⟨A, hs, Le.refl _⟩
  | k + 1, hk => by
    rcases rR_fw hn hL hL' hU hs hr k (by omega) with ⟨D, hg, hle⟩ | ⟨h, i, hi, hneg⟩
    · have hkn : k ≤ n := by omega
      have hp := pow_mono_L (k := k) hL (by omega)
      have all := rI_all hU (rR_inv hU hr k) (n + 1) (Nat.le_refl _)
      have key : ∀ a b, a ≤ n → b ≤ n → rR n (k + 1) A a b ≤ mx (mid k D a b) (-35184372088832) := fun a b ha hb => by
        refine Int.le_trans (all.2.2 a (by omega) b k hb hkn) ?_
        have e1 := hle a b ha hb; have e2 := hle a k ha hkn; have e3 := hle k b hkn hb
        unfold mid mx mn; repeat' split <;> omega
      rcases hg.step hkn hL (D' := mid k D) (fun _ _ _ _ => rfl) with h | ⟨h, i, hi, hneg⟩
      · refine Or.inl ⟨mid k D, h, fun a b ha hb => ?_⟩
        have h1 := h.lo a b ha hb
        have hp' := pow_mono_L (k := k + 1) hL (by omega)
        have := key a b ha hb
        unfold mx at this; split at this <;> omega
      · refine Or.inr ⟨h, i, hi, ?_⟩
        have := key i i hi hi
        unfold mx at this; split at this <;> omega
    · exact Or.inr ⟨h, i, hi, Int.lt_of_le_of_lt (rR_step_le hU hr k i i hi hi) hneg⟩

theorem ref_spec {L : Int} (hn : n ≤ 6) (hL : 0 ≤ L) (hL' : L * 128 ≤ 35184372088832) (hU : U ≤ 1000000000000000000) (hs : Good n L U A 0 A) :
    IsClo n A (rR n (n + 2) A) ∨ (Infeas n A ∧ ∃ i, i ≤ n ∧ rR n (n + 2) A i i < 0) := by
  have hr : RInv n U A A := ⟨fun i j hi hj => by have := hs.lo i j hi hj; simp at this; omega, hs.hi, hs.top⟩
  have hstep := rR_step_le hU hr (n + 1)
  have hinv := rR_inv hU hr (n + 2)
  rcases rR_fw hn hL hL' hU hs hr (n + 1) (Nat.le_refl _) with ⟨D, hg, hle⟩ | ⟨h, i, hi, hneg⟩
  · left
    have hc := hg.clo
    have heq : ∀ i j, i ≤ n → j ≤ n → rR n (n + 2) A i j = D i j := fun i j hi hj =>
      Int.le_antisymm (Int.le_trans (hstep i j hi hj) (hle i j hi hj)) (hinv.top D hc.sub hc.le i j hi hj)
    refine ⟨⟨fun i hi => by rw [heq i i hi hi]; exact hc.sub.diag i hi, fun i j k hi hj hk => by rw [heq i j hi hj, heq i k hi hk, heq k j hk hj]; exact hc.sub.tri i j k hi hj hk⟩, fun i j hi hj => by rw [heq i j hi hj]; exact hc.le i j hi hj, fun B hB hBA i j hi hj => by rw [heq i j hi hj]; exact hc.top B hB hBA i j hi hj⟩
  · exact Or.inr ⟨h, i, hi, Int.lt_of_le_of_lt (hstep i i hi hi) hneg⟩
end ref
end Go.Proofs.Ytgnkhncogfppgaa
