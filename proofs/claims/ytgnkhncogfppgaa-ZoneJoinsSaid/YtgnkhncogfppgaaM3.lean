import Derived.Test.YtgnkhncogfppgaaM0
namespace Go.Proofs.Ytgnkhncogfppgaa
/-! Plain laws of zones: no program in sight. -/
def ownA (n : Nat) (D : Mat) : Mat := fun i j =>
  if j = 0 ∧ 1 ≤ i ∧ i ≤ n then mn (D i 0) 2147483647 else if i = 0 ∧ 1 ≤ j ∧ j ≤ n then mn (D 0 j) 2147483648 else D i j
theorem ownF_eq (D : Mat) : ∀ n, ownF n D = ownA n D
  | 0 => by funext i j; simp only [ownF, iter, ownA]; rw [if_neg (by omega), if_neg (by omega)]
  | n + 1 => by
    show ownS n (ownF n D) = _
    rw [ownF_eq D n]
    funext i j
    simp only [ownS, upd, ownA]
    by_cases h1 : i = n + 1 ∧ j = 0
    · obtain ⟨rfl, rfl⟩ := h1
      have : ¬ (n + 1 ≤ n) := by omega
      simp [this]
    · by_cases h2 : i = 0 ∧ j = n + 1
      · obtain ⟨rfl, rfl⟩ := h2
        have : ¬ (n + 1 ≤ n) := by omega
        simp [this]
      · by_cases h3 : j = 0 ∧ 1 ≤ i ∧ i ≤ n
        · rw [if_neg (by omega), if_neg (by omega), if_pos h3, if_pos (by omega)]
        · by_cases h4 : i = 0 ∧ 1 ≤ j ∧ j ≤ n
          · rw [if_neg (by omega), if_neg (by omega), if_neg h3, if_pos h4, if_neg (by omega), if_pos (by omega)]
          · rw [if_neg (by omega), if_neg (by omega), if_neg h3, if_neg h4, if_neg (by omega), if_neg (by omega)]
theorem ownA_le (n : Nat) (D : Mat) (i j : Nat) : ownA n D i j ≤ D i j := by
  unfold ownA
  split
  · rename_i h; obtain ⟨rfl, _⟩ := h; exact mn_le _ _
  · split
    · rename_i h; obtain ⟨rfl, _⟩ := h; exact mn_le _ _
    · exact Int.le_refl _
theorem ownA_out {n : Nat} (D : Mat) {i j : Nat} (h : ¬ (i ≤ n ∧ j ≤ n)) : ownA n D i j = D i j := by
  unfold ownA; rw [if_neg (by omega), if_neg (by omega)]
theorem ownA_diag {n : Nat} (D : Mat) (i : Nat) : ownA n D i i = D i i := by
  unfold ownA; rw [if_neg (by omega), if_neg (by omega)]
theorem ownA_lo {n : Nat} {D : Mat} {L : Int} (hL : 0 ≤ L) (h : ∀ i j, i ≤ n → j ≤ n → -L ≤ D i j) (i j : Nat) (hi : i ≤ n) (hj : j ≤ n) : -L ≤ ownA n D i j := by
  unfold ownA
  split
  · exact le_mn (h i 0 hi (by omega)) (by omega)
  · split
    · exact le_mn (h 0 j (by omega) hj) (by omega)
    · exact h i j hi hj
/-- What a zone is before its bounds are made least: noughts on the diagonal, bounds that aren't too far, nothing outside. -/
structure Pre (z : Zn) : Prop where
  n : z.n ≤ 6
  none : z.none = false
  diag : ∀ i, i ≤ z.n → z.D i i = 0
  lo : ∀ i j, i ≤ z.n → j ≤ z.n → -274877906944 ≤ z.D i j
  hi : ∀ i j, i ≤ z.n → j ≤ z.n → z.D i j ≤ 1000000000000000
  out : ∀ i j, ¬ (i ≤ z.n ∧ j ≤ z.n) → z.D i j = 0
/-- A zone that is right. -/
structure OKZ (z : Zn) : Prop where
  n : z.n ≤ 6
  nones : z.none = true → ∀ i j, z.D i j = 0
  sub : z.none = false → Sub z.n z.D
  up : z.none = false → ∀ i, 1 ≤ i → i ≤ z.n → z.D i 0 ≤ 2147483647
  down : z.none = false → ∀ i, 1 ≤ i → i ≤ z.n → z.D 0 i ≤ 2147483648
  out : ∀ i j, ¬ (i ≤ z.n ∧ j ≤ z.n) → z.D i j = 0
theorem Pre.good {z : Zn} (h : Pre z) : Good z.n 274877906944 1000000000000000 (ownA z.n z.D) 0 (ownA z.n z.D) :=
  Good.start (fun i hi => by rw [ownA_diag]; exact h.diag i hi) (ownA_lo (by omega) h.lo) (fun i j hi hj => Int.le_trans (ownA_le _ _ _ _) (h.hi i j hi hj))
theorem negB_iff {n : Nat} {F : Mat} : negB n F = true ↔ ∃ i, i ≤ n ∧ F i i < 0 := by
  simp only [negB, List.any_eq_true, List.mem_range, decide_eq_true_eq]
  exact ⟨fun ⟨i, h1, h2⟩ => ⟨i, by omega, h2⟩, fun ⟨i, h1, h2⟩ => ⟨i, by omega, h2⟩⟩
/-- What close makes. -/
theorem close_spec {z : Zn} (h : Pre z) :
    ((closeZ z).none = false ∧ IsClo z.n (ownA z.n z.D) (closeZ z).D ∧ (∀ i j, ¬ (i ≤ z.n ∧ j ≤ z.n) → (closeZ z).D i j = 0)) ∨ (closeZ z = noneZ z.n ∧ Infeas z.n (ownA z.n z.D)) := by
  have hs := fw_spec (n := z.n) (L := 274877906944) (U := 1000000000000000) h.n (by omega) (by omega) (by omega) h.good
  have hc : closeZ z = if negB z.n (fwK z.n (z.n + 1) (ownA z.n z.D)) then ⟨z.n, true, zeroM⟩ else ⟨z.n, false, fwK z.n (z.n + 1) (ownA z.n z.D)⟩ := by
    unfold closeZ; rw [h.none, ownF_eq]; simp
  rcases hs with hs | ⟨hinf, i, hi, hneg⟩
  · left
    have hn : ¬ negB z.n (fwK z.n (z.n + 1) (ownA z.n z.D)) = true := fun hb => by
      obtain ⟨i, hi, hlt⟩ := negB_iff.1 hb
      rw [hs.sub.diag i hi] at hlt; omega
    rw [hc, if_neg hn]
    exact ⟨rfl, hs, fun i j ho => by show fwK _ _ _ i j = 0; rw [fwK_out z.n ho, ownA_out _ ho]; exact h.out i j ho⟩
  · right
    rw [hc, if_pos (negB_iff.2 ⟨i, hi, hneg⟩)]
    exact ⟨rfl, hinf⟩
theorem ownA_up {n : Nat} (D : Mat) {i : Nat} (h1 : 1 ≤ i) (h2 : i ≤ n) : ownA n D i 0 ≤ 2147483647 := by
  unfold ownA; rw [if_pos ⟨rfl, h1, h2⟩]; exact mn_le' _ _
theorem ownA_down {n : Nat} (D : Mat) {i : Nat} (h1 : 1 ≤ i) (h2 : i ≤ n) : ownA n D 0 i ≤ 2147483648 := by
  unfold ownA; rw [if_neg (by omega), if_pos ⟨rfl, h1, h2⟩]; exact mn_le' _ _
theorem noneZ_ok {n : Nat} (hn : n ≤ 6) : OKZ (noneZ n) := ⟨hn, fun _ _ _ => rfl, fun h => (by cases h), fun h => (by cases h), fun h => (by cases h), fun _ _ _ => rfl⟩
theorem close_ok {z : Zn} (h : Pre z) : OKZ (closeZ z) := by
  rcases close_spec h with ⟨h1, h2, h3⟩ | ⟨h1, _⟩
  · have hn := closeZ_n z
    exact ⟨by rw [hn]; exact h.n, fun hb => (by rw [h1] at hb; cases hb), fun _ => by rw [hn]; exact h2.sub, fun _ i hi hi' => Int.le_trans (h2.le i 0 (by omega) (by omega)) (ownA_up _ hi (by omega)),
      fun _ i hi hi' => Int.le_trans (h2.le 0 i (by omega) (by omega)) (ownA_down _ hi (by omega)), fun i j ho => h3 i j (by rw [← hn]; exact ho)⟩
  · rw [h1]; exact noneZ_ok h.n
/-- Numbers (nought's is 0) as a matrix of differences. -/
def vm (v : Nat → Int) : Mat := fun i j => v i - v j
theorem vm_sub (n : Nat) (v : Nat → Int) : Sub n (vm v) := ⟨fun i _ => by simp [vm], fun i j k _ _ _ => by simp only [vm]; omega⟩
/-- Numbers that hold all bounds. -/
structure Sat (n : Nat) (D : Mat) (v : Nat → Int) : Prop where
  zero : v 0 = 0
  lo : ∀ i, i ≤ n → -2147483648 ≤ v i
  hi : ∀ i, i ≤ n → v i ≤ 2147483647
  le : Le n (vm v) D
theorem Sat.own {n : Nat} {D : Mat} {v : Nat → Int} (h : Sat n D v) : Le n (vm v) (ownA n D) := fun i j hi hj => by
  have h0 := h.zero
  unfold ownA
  split
  · rename_i hc; obtain ⟨rfl, _, _⟩ := hc
    refine le_mn (h.le i 0 hi hj) ?_
    have := h.hi i hi
    simp only [vm]; omega
  · split
    · rename_i hc; obtain ⟨rfl, _, _⟩ := hc
      refine le_mn (h.le 0 j hi hj) ?_
      have := h.lo j hj
      simp only [vm]; omega
    · exact h.le i j hi hj
/-- What has numbers isn't none, and has them still. -/
theorem close_sat {z : Zn} (h : Pre z) {v : Nat → Int} (hv : Sat z.n z.D v) : (closeZ z).none = false ∧ Sat z.n (closeZ z).D v := by
  rcases close_spec h with ⟨h1, h2, h3⟩ | ⟨_, h2⟩
  · exact ⟨h1, hv.zero, hv.lo, hv.hi, h2.top _ (vm_sub _ _) hv.own⟩
  · exact absurd hv.own (h2 _ (vm_sub _ _))
theorem close_le {z : Zn} (h : Pre z) (hn : (closeZ z).none = false) (i j : Nat) (hi : i ≤ z.n) (hj : j ≤ z.n) : (closeZ z).D i j ≤ z.D i j := by
  rcases close_spec h with ⟨_, h2, _⟩ | ⟨h1, _⟩
  · exact Int.le_trans (h2.le i j hi hj) (ownA_le _ _ _ _)
  · rw [h1] at hn; cases hn
theorem OKZ.bounds {z : Zn} (h : OKZ z) (hn : z.none = false) (i j : Nat) (hi : i ≤ z.n) (hj : j ≤ z.n) : -4294967296 ≤ z.D i j ∧ z.D i j ≤ 4294967296 := by
  have hs := h.sub hn
  have key : ∀ a b, a ≤ z.n → b ≤ z.n → z.D a b ≤ 4294967296 := fun a b ha hb => by
    have t := hs.tri a b 0 ha hb (by omega)
    have u : z.D a 0 ≤ 2147483647 := by
      by_cases h0 : a = 0
      · subst h0; rw [hs.diag 0 (by omega)]; omega
      · exact h.up hn a (by omega) ha
    have u' : z.D 0 b ≤ 2147483648 := by
      by_cases h0 : b = 0
      · subst h0; rw [hs.diag 0 (by omega)]; omega
      · exact h.down hn b (by omega) hb
    omega
  have t := hs.tri i i j hi hi hj
  rw [hs.diag i hi] at t
  have := key j i hj hi
  exact ⟨by omega, key i j hi hj⟩
theorem OKZ.pre {z : Zn} (h : OKZ z) (hn : z.none = false) : Pre z :=
  ⟨h.n, hn, (h.sub hn).diag, fun i j hi hj => by have := (h.bounds hn i j hi hj).1; omega, fun i j hi hj => by have := (h.bounds hn i j hi hj).2; omega, h.out⟩
theorem OKZ.own {z : Zn} (h : OKZ z) (hn : z.none = false) : ownA z.n z.D = z.D := by
  funext i j
  unfold ownA
  split
  · rename_i hc; obtain ⟨rfl, h1, h2⟩ := hc
    have := h.up hn i h1 h2
    unfold mn; split <;> omega
  · split
    · rename_i hc; obtain ⟨rfl, h1, h2⟩ := hc
      have := h.down hn j h1 h2
      unfold mn; split <;> omega
    · rfl
theorem Zn.ext' {z w : Zn} (h1 : z.n = w.n) (h2 : z.none = w.none) (h3 : ∀ i j, z.D i j = w.D i j) : z = w := by
  obtain ⟨n, b, D⟩ := z
  obtain ⟨m, c, E⟩ := w
  simp only at h1 h2 h3
  subst h1 h2
  rw [show D = E from funext fun i => funext fun j => h3 i j]
/-- A zone whose closure is known. -/
theorem close_eq {z : Zn} (h : Pre z) {C : Mat} (hC : IsClo z.n (ownA z.n z.D) C) (ho : ∀ i j, ¬ (i ≤ z.n ∧ j ≤ z.n) → C i j = 0) : closeZ z = ⟨z.n, false, C⟩ := by
  rcases close_spec h with ⟨h1, h2, h3⟩ | ⟨_, h2⟩
  · refine Zn.ext' (closeZ_n z) h1 fun i j => ?_
    by_cases hij : i ≤ z.n ∧ j ≤ z.n
    · exact h2.uniq hC hij.1 hij.2
    · rw [h3 i j hij]; exact (ho i j hij).symm
  · exact absurd h2 hC.feas
theorem OKZ.close {z : Zn} (h : OKZ z) : closeZ z = z := by
  cases hn : z.none with
  | true => unfold closeZ; rw [hn]; rfl
  | false =>
    have := close_eq (h.pre hn) (C := z.D) (by rw [h.own hn]; exact IsClo.self (h.sub hn)) h.out
    rw [this]
    refine Zn.ext' rfl hn.symm fun _ _ => rfl
/-! ### Bound -/
theorem orB_iff {z : Zn} {x : Int} : orB z x = true ↔ z.none = false ∧ -1 ≤ x ∧ x < z.n := by simp [orB]
theorem varB_iff {z : Zn} {x : Int} : varB z x = true ↔ z.none = false ∧ 0 ≤ x ∧ x < z.n := by simp [varB]
def setB (z : Zn) (i j : Nat) (d : Int) : Zn := { z with D := upd z.D i j (mn (z.D i j) (mx d (-far))) }
theorem boundZ_yes {z : Zn} (hn : z.none = false) {i j : Nat} (hi : i ≤ z.n) (hj : j ≤ z.n) (d : Int) : boundZ z ((i : Int) - 1) ((j : Int) - 1) d = closeZ (setB z i j d) := by
  unfold boundZ
  rw [if_pos (by simp only [Bool.and_eq_true]; exact ⟨orB_iff.2 ⟨hn, by omega, by omega⟩, orB_iff.2 ⟨hn, by omega, by omega⟩⟩)]
  rw [show ((i : Int) - 1 + 1).toNat = i by omega, show ((j : Int) - 1 + 1).toNat = j by omega]
  rfl
theorem boundZ_no {z : Zn} (x y d : Int) (h : ¬ (orB z x = true ∧ orB z y = true)) : boundZ z x y d = z := by
  unfold boundZ; rw [if_neg (by simpa using h)]
theorem boundZ_none {z : Zn} (hn : z.none = true) (x y d : Int) : boundZ z x y d = z := boundZ_no x y d fun h => by rw [orB_iff, hn] at h; cases h.1.1
theorem setB_pre {z : Zn} (h : OKZ z) (hn : z.none = false) {i j : Nat} (hi : i ≤ z.n) (hj : j ≤ z.n) (hij : i ≠ j) {d : Int} (hd : -274877906944 ≤ d) : Pre (setB z i j d) := by
  have hp := h.pre hn
  refine ⟨hp.n, hn, fun a ha => ?_, fun a b ha hb => ?_, fun a b ha hb => ?_, fun a b ho => ?_⟩
  · simp only [setB]; rw [upd_ne _ _ _ _ (by omega)]; exact hp.diag a ha
  · simp only [setB]
    by_cases hab : a = i ∧ b = j
    · obtain ⟨rfl, rfl⟩ := hab
      rw [upd_same]
      have := hp.lo a b hi hj
      unfold mn mx; repeat' split <;> omega
    · rw [upd_ne _ _ _ _ hab]; exact hp.lo a b ha hb
  · simp only [setB]
    by_cases hab : a = i ∧ b = j
    · obtain ⟨rfl, rfl⟩ := hab
      rw [upd_same]; exact Int.le_trans (mn_le _ _) (hp.hi a b hi hj)
    · rw [upd_ne _ _ _ _ hab]; exact hp.hi a b ha hb
  · simp only [setB] at ho ⊢
    rw [upd_ne _ _ _ _ (fun e => ho ⟨by omega, by omega⟩)]; exact hp.out a b ho
theorem bound_ok {z : Zn} (h : OKZ z) {i j : Nat} (hi : i ≤ z.n) (hj : j ≤ z.n) (hij : i ≠ j) {d : Int} (hd : -274877906944 ≤ d) : OKZ (boundZ z ((i : Int) - 1) ((j : Int) - 1) d) := by
  cases hn : z.none with
  | true => rw [boundZ_none hn]; exact h
  | false => rw [boundZ_yes hn hi hj]; exact close_ok (setB_pre h hn hi hj hij hd)
/-- Numbers that hold the new bound, too, are had still. -/
theorem bound_sat {z : Zn} (h : OKZ z) (hn : z.none = false) {i j : Nat} (hi : i ≤ z.n) (hj : j ≤ z.n) (hij : i ≠ j) {d : Int} (hd : -274877906944 ≤ d) {v : Nat → Int} (hv : Sat z.n z.D v) (hvd : v i - v j ≤ d) :
    (boundZ z ((i : Int) - 1) ((j : Int) - 1) d).none = false ∧ Sat z.n (boundZ z ((i : Int) - 1) ((j : Int) - 1) d).D v := by
  rw [boundZ_yes hn hi hj]
  refine close_sat (z := setB z i j d) (setB_pre h hn hi hj hij hd) ⟨hv.zero, hv.lo, hv.hi, fun a b ha hb => ?_⟩
  simp only [setB]
  by_cases hab : a = i ∧ b = j
  · obtain ⟨rfl, rfl⟩ := hab
    rw [upd_same]
    exact le_mn (hv.le a b hi hj) (by simp only [vm]; unfold mx; split <;> omega)
  · rw [upd_ne _ _ _ _ hab]; exact hv.le a b ha hb
/-- The bounds are no greater, and the new one is there. -/
theorem bound_le {z : Zn} (h : OKZ z) {i j : Nat} (hi : i ≤ z.n) (hj : j ≤ z.n) (hij : i ≠ j) {d : Int} (hd : -274877906944 ≤ d) (hno : (boundZ z ((i : Int) - 1) ((j : Int) - 1) d).none = false) :
    Le z.n (boundZ z ((i : Int) - 1) ((j : Int) - 1) d).D z.D ∧ (boundZ z ((i : Int) - 1) ((j : Int) - 1) d).D i j ≤ d := by
  cases hn : z.none with
  | true => rw [boundZ_none hn, hn] at hno; cases hno
  | false =>
    rw [boundZ_yes hn hi hj] at hno ⊢
    have hp := setB_pre h hn hi hj hij hd
    have hl := close_le hp hno
    refine ⟨fun a b ha hb => Int.le_trans (hl a b ha hb) ?_, Int.le_trans (hl i j hi hj) ?_⟩
    · simp only [setB]
      by_cases hab : a = i ∧ b = j
      · obtain ⟨rfl, rfl⟩ := hab; rw [upd_same]; exact mn_le _ _
      · rw [upd_ne _ _ _ _ hab]; exact Int.le_refl _
    · simp only [setB, upd_same]
      have := mn_le' (z.D i j) (mx d (-far))
      have hf : far = 1099511627776 := rfl
      have e : mx d (-far) = d := by unfold mx; split <;> omega
      rw [e] at this ⊢; exact this
/-! ### Top, Zeros -/
theorem topM_pre {n : Nat} (hn : n ≤ 6) : Pre ⟨n, false, topM n⟩ :=
  ⟨hn, rfl, fun i _ => by simp [topM], fun i j _ _ => by simp only [topM, far]; split <;> omega, fun i j _ _ => by simp only [topM, far]; split <;> omega, fun i j h => by simp only [topM]; rw [if_neg (fun e => h ⟨e.1, e.2.1⟩)]⟩
theorem top_ok {n : Nat} (hn : n ≤ 6) : OKZ (topZ n) := close_ok (topM_pre hn)
theorem topZ_n (n : Nat) : (topZ n).n = n := closeZ_n _
theorem top_sat {n : Nat} (hn : n ≤ 6) {v : Nat → Int} (h0 : v 0 = 0) (hlo : ∀ i, i ≤ n → -2147483648 ≤ v i) (hhi : ∀ i, i ≤ n → v i ≤ 2147483647) : (topZ n).none = false ∧ Sat n (topZ n).D v :=
  close_sat (z := ⟨n, false, topM n⟩) (topM_pre hn) ⟨h0, hlo, hhi, fun i j hi hj => by
    simp only [topM, vm, far]
    split
    · have := hlo j hj; have := hhi i hi; omega
    · rename_i h
      have hi' : i ≤ n := hi
      have hj' : j ≤ n := hj
      have : i = j := by omega
      subst this; omega⟩
theorem zeros_ok {n : Nat} (hn : n ≤ 6) : OKZ (zerosZ n) :=
  ⟨hn, fun h => (by cases h), fun _ => ⟨fun _ _ => rfl, fun _ _ _ _ _ _ => by simp [zerosZ, zeroM]⟩, fun _ _ _ _ => by simp [zerosZ, zeroM], fun _ _ _ _ => by simp [zerosZ, zeroM], fun _ _ _ => rfl⟩
end Go.Proofs.Ytgnkhncogfppgaa
