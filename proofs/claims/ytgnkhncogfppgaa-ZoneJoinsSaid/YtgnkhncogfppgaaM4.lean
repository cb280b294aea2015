import Derived.Test.YtgnkhncogfppgaaM3
namespace Go.Proofs.Ytgnkhncogfppgaa
/-! Forget and Copy. -/
theorem forgetM_at (row : Nat) (D : Mat) (i j : Nat) : ∀ m, forgetM row m D i j = if (i < m ∧ j = row ∧ i ≠ row) ∨ (j < m ∧ i = row ∧ j ≠ row) then far else D i j
  | 0 => by show D i j = _; rw [if_neg (by omega)]
  | m + 1 => by
    show forgetS row m (forgetM row m D) i j = _
    unfold forgetS
    by_cases hm : m = row
    · rw [if_neg (by simpa using hm), forgetM_at row D i j m]
      by_cases h : (i < m ∧ j = row ∧ i ≠ row) ∨ (j < m ∧ i = row ∧ j ≠ row)
      · rw [if_pos h, if_pos (by omega)]
      · rw [if_neg h, if_neg (by omega)]
    · rw [if_pos hm]
      unfold upd
      by_cases h1 : i = row ∧ j = m
      · rw [if_pos h1, if_pos (by omega)]
      · rw [if_neg h1]
        by_cases h2 : i = m ∧ j = row
        · rw [if_pos h2, if_pos (by omega)]
        · rw [if_neg h2, forgetM_at row D i j m]
          by_cases h : (i < m ∧ j = row ∧ i ≠ row) ∨ (j < m ∧ i = row ∧ j ≠ row)
          · rw [if_pos h, if_pos (by omega)]
          · rw [if_neg h, if_neg (by omega)]
def clearZ (z : Zn) (row : Nat) : Zn := { z with D := forgetM row (z.n + 1) z.D }
theorem clear_pre {z : Zn} (h : OKZ z) (hn : z.none = false) {row : Nat} (hr : row ≤ z.n) : Pre (clearZ z row) := by
  have hp := h.pre hn
  refine ⟨hp.n, hn, fun a ha => ?_, fun a b ha hb => ?_, fun a b ha hb => ?_, fun a b ho => ?_⟩ <;> simp only [clearZ] at * <;> rw [forgetM_at]
  · rw [if_neg (by omega)]; exact hp.diag a ha
  · have := hp.lo a b ha hb; simp only [far]; split <;> omega
  · have := hp.hi a b ha hb; simp only [far]; split <;> omega
  · rw [if_neg (by omega)]; exact hp.out a b ho
/-- Numbers, one of which is another one. -/
def putV (v : Nat → Int) (i : Nat) (u : Int) : Nat → Int := fun k => if k = i then u else v k
theorem clear_sat {z : Zn} (h : OKZ z) (hn : z.none = false) {row : Nat} (hr1 : 1 ≤ row) (hr : row ≤ z.n) {v : Nat → Int} (hv : Sat z.n z.D v) {u : Int} (hu1 : -2147483648 ≤ u) (hu2 : u ≤ 2147483647) :
    Sat z.n (clearZ z row).D (putV v row u) := by
  refine ⟨by unfold putV; rw [if_neg (by omega)]; exact hv.zero, fun i hi => by unfold putV; split; exact hu1; exact hv.lo i hi, fun i hi => by unfold putV; split; exact hu2; exact hv.hi i hi, fun a b ha hb => ?_⟩
  simp only [clearZ, forgetM_at]
  simp only [vm, putV, far]
  have l1 := hv.lo a ha; have l2 := hv.hi a ha; have l3 := hv.lo b hb; have l4 := hv.hi b hb
  have l5 := hv.le a b ha hb
  simp only [vm] at l5
  by_cases h1 : a = row <;> by_cases h2 : b = row
  · have hab : a = b := by omega
    subst hab
    rw [if_pos h1, if_neg (by omega)]; have := (h.sub hn).diag a ha; omega
  · rw [if_pos h1, if_neg h2, if_pos (by omega)]; omega
  · rw [if_neg h1, if_pos h2, if_pos (by omega)]; omega
  · rw [if_neg h1, if_neg h2, if_neg (by omega)]; exact l5
theorem forgetZ_yes {z : Zn} (hn : z.none = false) {i : Nat} (hi : i < z.n) : forgetZ z (i : Int) = closeZ (clearZ z (i + 1)) := by
  unfold forgetZ
  rw [if_pos (varB_iff.2 ⟨hn, by omega, by omega⟩), show ((i : Int) + 1).toNat = i + 1 by omega]
  rfl
theorem forgetZ_no {z : Zn} (x : Int) (h : ¬ varB z x = true) : forgetZ z x = z := by unfold forgetZ; rw [if_neg h]
theorem forget_ok {z : Zn} (h : OKZ z) {i : Nat} (hi : i < z.n) : OKZ (forgetZ z (i : Int)) := by
  cases hn : z.none with
  | true => rw [forgetZ_no _ (by rw [varB_iff, hn]; simp)]; exact h
  | false => rw [forgetZ_yes hn hi]; exact close_ok (clear_pre h hn (by omega))
theorem forget_sat {z : Zn} (h : OKZ z) (hn : z.none = false) {i : Nat} (hi : i < z.n) {v : Nat → Int} (hv : Sat z.n z.D v) {u : Int} (hu1 : -2147483648 ≤ u) (hu2 : u ≤ 2147483647) :
    (forgetZ z (i : Int)).none = false ∧ Sat z.n (forgetZ z (i : Int)).D (putV v (i + 1) u) := by
  rw [forgetZ_yes hn hi]
  exact close_sat (z := clearZ z (i + 1)) (clear_pre h hn (by omega)) (clear_sat h hn (by omega) (by omega) hv hu1 hu2)
/-- There is a row of numbers in every zone that isn't none. -/
theorem OKZ.some {z : Zn} (h : OKZ z) (hn : z.none = false) : ∃ v, Sat z.n z.D v := by
  have hs := h.sub hn
  refine ⟨fun i => z.D i 0, hs.diag 0 (by omega), fun i hi => ?_, fun i hi => ?_, fun i j hi hj => ?_⟩
  · have t := hs.tri 0 0 i (by omega) (by omega) hi
    rw [hs.diag 0 (by omega)] at t
    by_cases h0 : i = 0
    · subst h0; rw [hs.diag 0 (by omega)]; omega
    · have := h.down hn i (by omega) hi; omega
  · by_cases h0 : i = 0
    · subst h0; rw [hs.diag 0 (by omega)]; omega
    · exact h.up hn i (by omega) hi
  · simp only [vm]
    have t := hs.tri i 0 j hi (by omega) hj
    omega
def midZ (z : Zn) (row : Nat) (d : Int) : Zn := { z with D := movedM row d (z.n + 1) z.D }
theorem movedM_at (row : Nat) (d : Int) (D : Mat) (hd : -274877906944 ≤ d ∧ d ≤ 274877906944) (hD : ∀ a b, -8589934592 ≤ D a b ∧ D a b ≤ 8589934592) (i j : Nat) : ∀ m,
    movedM row d m D i j = if i < m ∧ j = row ∧ i ≠ row then D i j - d else if j < m ∧ i = row ∧ j ≠ row then D i j + d else D i j
  | 0 => by show D i j = _; rw [if_neg (by omega), if_neg (by omega)]
  | m + 1 => by
    have ih := fun a b => movedM_at row d D hd hD a b m
    show movedS row d m (movedM row d m D) i j = _
    unfold movedS
    by_cases hm : m = row
    · rw [if_neg (by simpa using hm), ih]
      (repeat' split) <;> omega
    · rw [if_pos hm]
      have e1 : movedM row d m D row m = D row m := by rw [ih, if_neg (by omega), if_neg (by omega)]
      have e2 : movedM row d m D m row = D m row := by rw [ih, if_neg (by omega), if_neg (by omega)]
      have b1 := hD row m
      have b2 := hD m row
      rw [e1, upd_ne _ _ _ _ (show ¬ (m = row ∧ row = m) by omega), e2, w64_in (by omega) (by omega), w64_in (by omega) (by omega)]
      unfold upd
      rw [ih]
      by_cases h1 : i = m ∧ j = row
      · obtain ⟨rfl, rfl⟩ := h1
        rw [if_pos ⟨rfl, rfl⟩]
        (repeat' split) <;> omega
      · rw [if_neg h1]
        by_cases h2 : i = row ∧ j = m
        · obtain ⟨rfl, rfl⟩ := h2
          rw [if_pos ⟨rfl, rfl⟩]
          (repeat' split) <;> omega
        · rw [if_neg h2]
          (repeat' split) <;> omega
theorem OKZ.small {z : Zn} (h : OKZ z) (a b : Nat) : -8589934592 ≤ z.D a b ∧ z.D a b ≤ 8589934592 := by
  cases hn : z.none with
  | true => rw [h.nones hn]; omega
  | false =>
    by_cases hab : a ≤ z.n ∧ b ≤ z.n
    · have := h.bounds hn a b hab.1 hab.2; omega
    · rw [h.out a b hab]; omega
theorem mid_pre {z : Zn} (h : OKZ z) (hn : z.none = false) {row : Nat} (hr : row ≤ z.n) {d : Int} (hd : -137438953472 ≤ d ∧ d ≤ 137438953472) : Pre (midZ z row d) := by
  have hp := h.pre hn
  have e := fun a b => movedM_at row d z.D ⟨by omega, by omega⟩ h.small a b (z.n + 1)
  refine ⟨hp.n, hn, fun a ha => ?_, fun a b ha hb => ?_, fun a b ha hb => ?_, fun a b ho => ?_⟩ <;> simp only [midZ] at * <;> rw [e]
  · rw [if_neg (by omega), if_neg (by omega)]; exact hp.diag a ha
  · have := h.small a b; (repeat' split) <;> omega
  · have := h.small a b; (repeat' split) <;> omega
  · rw [if_neg (by omega), if_neg (by omega)]; exact hp.out a b ho
theorem mid_sat {z : Zn} (h : OKZ z) {row : Nat} (hr1 : 1 ≤ row) (hr : row ≤ z.n) {d : Int} (hd : -137438953472 ≤ d ∧ d ≤ 137438953472) {v : Nat → Int} (hv : Sat z.n z.D v)
    (hu1 : -2147483648 ≤ v row + d) (hu2 : v row + d ≤ 2147483647) : Sat z.n (midZ z row d).D (putV v row (v row + d)) := by
  have e := fun a b => movedM_at row d z.D ⟨by omega, by omega⟩ h.small a b (z.n + 1)
  refine ⟨by unfold putV; rw [if_neg (by omega)]; exact hv.zero, fun i hi => by unfold putV; split; exact hu1; exact hv.lo i hi, fun i hi => by unfold putV; split; exact hu2; exact hv.hi i hi, fun a b ha hb => ?_⟩
  simp only [midZ, e, vm, putV]
  have l5 := hv.le a b ha hb
  simp only [vm] at l5
  by_cases h1 : a = row <;> by_cases h2 : b = row
  · have hab : a = b := by omega
    subst hab
    rw [if_pos h1, if_neg (by omega), if_neg (by omega)]; omega
  · rw [if_pos h1, if_neg h2, if_neg (by omega), if_pos (by omega)]; subst h1; omega
  · rw [if_neg h1, if_pos h2, if_pos (by omega)]; subst h2; omega
  · rw [if_neg h1, if_neg h2, if_neg (by omega), if_neg (by omega)]; exact l5
def joinZ2 (z : Zn) (i j : Nat) (d : Int) : Zn := { z with D := upd (upd z.D i j d) j i (w64 (-d)) }
theorem copyZ_no {z : Zn} (x y d : Int) (h : ¬ (varB z x = true ∧ orB z y = true)) : copyZ z x y d = z := by unfold copyZ; rw [if_neg (by simpa using h)]
theorem copyZ_none {z : Zn} (hn : z.none = true) (x y d : Int) : copyZ z x y d = z := copyZ_no x y d fun h => by rw [varB_iff, hn] at h; cases h.1.1
theorem clampf {d : Int} (hd : -137438953472 ≤ d ∧ d ≤ 137438953472) : mn (mx d (-far)) far = d := by
  have hf : far = 1099511627776 := rfl
  unfold mn mx; (repeat' split) <;> omega
theorem copyZ_same {z : Zn} (hn : z.none = false) {i : Nat} (hi : i < z.n) {d : Int} (hd : -137438953472 ≤ d ∧ d ≤ 137438953472) : copyZ z (i : Int) (i : Int) d = closeZ (midZ z (i + 1) d) := by
  unfold copyZ
  rw [if_pos (by simp only [Bool.and_eq_true]; exact ⟨varB_iff.2 ⟨hn, by omega, by omega⟩, orB_iff.2 ⟨hn, by omega, by omega⟩⟩), if_pos rfl, clampf hd, show ((i : Int) + 1).toNat = i + 1 by omega]
  rfl
theorem copyZ_link {z : Zn} (hn : z.none = false) {i j : Nat} (hi : i < z.n) (hj : j ≤ z.n) (hij : i + 1 ≠ j) {d : Int} (hd : -137438953472 ≤ d ∧ d ≤ 137438953472) :
    copyZ z (i : Int) ((j : Int) - 1) d = closeZ (joinZ2 (closeZ (clearZ z (i + 1))) (i + 1) j d) := by
  unfold copyZ
  rw [if_pos (by simp only [Bool.and_eq_true]; exact ⟨varB_iff.2 ⟨hn, by omega, by omega⟩, orB_iff.2 ⟨hn, by omega, by omega⟩⟩), if_neg (by omega), clampf hd, show ((i : Int) + 1).toNat = i + 1 by omega]
  unfold linkZ
  rw [show ((i : Int) + 1).toNat = i + 1 by omega, show ((j : Int) - 1 + 1).toNat = j by omega]
  rfl
theorem join2_pre {z : Zn} (h : OKZ z) (hn : z.none = false) {i j : Nat} (hi : i ≤ z.n) (hj : j ≤ z.n) (hij : i ≠ j) {d : Int} (hd : -137438953472 ≤ d ∧ d ≤ 137438953472) : Pre (joinZ2 z i j d) := by
  have hp := h.pre hn
  refine ⟨hp.n, hn, fun a ha => ?_, fun a b ha hb => ?_, fun a b ha hb => ?_, fun a b ho => ?_⟩ <;> simp only [joinZ2] at * <;> unfold upd <;> rw [w64_in (by omega) (by omega)]
  · rw [if_neg (by omega), if_neg (by omega)]; exact hp.diag a ha
  · have := hp.lo a b ha hb; (repeat' split) <;> omega
  · have := hp.hi a b ha hb; (repeat' split) <;> omega
  · rw [if_neg (by omega), if_neg (by omega)]; exact hp.out a b ho
theorem copy_ok {z : Zn} (h : OKZ z) {i j : Nat} (hi : i < z.n) (hj : j ≤ z.n) {d : Int} (hd : -137438953472 ≤ d ∧ d ≤ 137438953472) : OKZ (copyZ z (i : Int) ((j : Int) - 1) d) := by
  cases hn : z.none with
  | true => rw [copyZ_none hn]; exact h
  | false =>
    by_cases hij : i + 1 = j
    · subst hij
      rw [show ((i + 1 : Nat) : Int) - 1 = (i : Int) by omega, copyZ_same hn hi hd]
      exact close_ok (mid_pre h hn (by omega) hd)
    · rw [copyZ_link hn hi hj hij hd]
      have hc := clear_pre h hn (row := i + 1) (by omega)
      have hk := close_ok hc
      obtain ⟨v, hv⟩ := h.some hn
      have hcn := (close_sat (z := clearZ z (i + 1)) hc (clear_sat h hn (by omega) (by omega) hv (u := 0) (by omega) (by omega))).1
      have e : (closeZ (clearZ z (i + 1))).n = z.n := closeZ_n _
      exact close_ok (join2_pre hk hcn (by omega) (by omega) hij hd)
theorem copy_sat {z : Zn} (h : OKZ z) (hn : z.none = false) {i j : Nat} (hi : i < z.n) (hj : j ≤ z.n) {d : Int} (hd : -137438953472 ≤ d ∧ d ≤ 137438953472) {v : Nat → Int} (hv : Sat z.n z.D v)
    (hu1 : -2147483648 ≤ v j + d) (hu2 : v j + d ≤ 2147483647) :
    (copyZ z (i : Int) ((j : Int) - 1) d).none = false ∧ Sat z.n (copyZ z (i : Int) ((j : Int) - 1) d).D (putV v (i + 1) (v j + d)) := by
  by_cases hij : i + 1 = j
  · subst hij
    rw [show ((i + 1 : Nat) : Int) - 1 = (i : Int) by omega, copyZ_same hn hi hd]
    exact close_sat (z := midZ z (i + 1) d) (mid_pre h hn (by omega) hd) (mid_sat h (by omega) (by omega) hd hv hu1 hu2)
  · rw [copyZ_link hn hi hj hij hd]
    have hc := clear_pre h hn (row := i + 1) (by omega)
    have hk := close_ok hc
    have e : (closeZ (clearZ z (i + 1))).n = z.n := closeZ_n _
    obtain ⟨hcn, hs⟩ := close_sat (z := clearZ z (i + 1)) hc (clear_sat h hn (by omega) (by omega) hv hu1 hu2)
    have hjp := join2_pre (i := i + 1) (j := j) hk hcn (by omega) (by omega) hij hd
    have hsat : Sat z.n (joinZ2 (closeZ (clearZ z (i + 1))) (i + 1) j d).D (putV v (i + 1) (v j + d)) := by
      have hs' : Sat z.n (closeZ (clearZ z (i + 1))).D (putV v (i + 1) (v j + d)) := hs
      refine ⟨hs'.zero, hs'.lo, hs'.hi, fun a b ha hb => ?_⟩
      have l := hs'.le a b ha hb
      simp only [joinZ2]
      unfold upd
      rw [w64_in (by omega) (by omega)]
      simp only [vm] at l ⊢
      by_cases h1 : a = j ∧ b = i + 1
      · rw [if_pos h1]; obtain ⟨rfl, rfl⟩ := h1
        simp only [putV, if_true]; rw [if_neg (by omega)]; omega
      · rw [if_neg h1]
        by_cases h2 : a = i + 1 ∧ b = j
        · rw [if_pos h2]; obtain ⟨rfl, rfl⟩ := h2
          simp only [putV, if_true]; rw [if_neg (by omega)]; omega
        · rw [if_neg h2]; exact l
    have := close_sat (z := joinZ2 (closeZ (clearZ z (i + 1))) (i + 1) j d) hjp (by rw [show (joinZ2 (closeZ (clearZ z (i + 1))) (i + 1) j d).n = z.n from e]; exact hsat)
    rw [show (joinZ2 (closeZ (clearZ z (i + 1))) (i + 1) j d).n = z.n from e] at this
    exact this
/-- The bounds that a copy makes, and those of the others among themselves. -/
theorem copy_le {z : Zn} (h : OKZ z) (hn : z.none = false) {i j : Nat} (hi : i < z.n) (hj : j ≤ z.n) (hij : i + 1 ≠ j) {d : Int} (hd : -137438953472 ≤ d ∧ d ≤ 137438953472)
    (hno : (copyZ z (i : Int) ((j : Int) - 1) d).none = false) :
    (copyZ z (i : Int) ((j : Int) - 1) d).D (i + 1) j ≤ d ∧ (copyZ z (i : Int) ((j : Int) - 1) d).D j (i + 1) ≤ -d ∧
      ∀ a b, a ≤ z.n → b ≤ z.n → a ≠ i + 1 → b ≠ i + 1 → (copyZ z (i : Int) ((j : Int) - 1) d).D a b ≤ z.D a b := by
  rw [copyZ_link hn hi hj hij hd] at hno ⊢
  have hc := clear_pre h hn (row := i + 1) (by omega)
  have hk := close_ok hc
  have e : (closeZ (clearZ z (i + 1))).n = z.n := closeZ_n _
  obtain ⟨v, hv⟩ := h.some hn
  have hcn := (close_sat (z := clearZ z (i + 1)) hc (clear_sat h hn (by omega) (by omega) hv (u := 0) (by omega) (by omega))).1
  have hjp := join2_pre (i := i + 1) (j := j) hk hcn (by omega) (by omega) hij hd
  have hl := close_le hjp hno
  have hl' := close_le hc hcn
  have e' : (joinZ2 (closeZ (clearZ z (i + 1))) (i + 1) j d).n = z.n := e
  rw [e'] at hl
  refine ⟨Int.le_trans (hl _ _ (by omega) hj) ?_, Int.le_trans (hl _ _ hj (by omega)) ?_, fun a b ha hb ha' hb' => Int.le_trans (hl _ _ ha hb) ?_⟩
  · simp only [joinZ2]; rw [upd_ne _ _ _ _ (by omega), upd_same]; exact Int.le_refl _
  · simp only [joinZ2]; rw [upd_same, w64_in (by omega) (by omega)]; exact Int.le_refl _
  · simp only [joinZ2]; rw [upd_ne _ _ _ _ (by omega), upd_ne _ _ _ _ (by omega)]
    refine Int.le_trans (hl' a b ha hb) ?_
    simp only [clearZ]; rw [forgetM_at, if_neg (by omega)]; exact Int.le_refl _
/-- Nothing is moved by 0. -/
theorem copy_zero {z : Zn} (h : OKZ z) {i : Nat} (hi : i < z.n) : copyZ z (i : Int) (i : Int) 0 = z := by
  cases hn : z.none with
  | true => exact copyZ_none hn _ _ _
  | false =>
    rw [copyZ_same hn hi (by omega)]
    have : midZ z (i + 1) 0 = z := by
      refine Zn.ext' rfl rfl fun a b => ?_
      simp only [midZ]
      rw [movedM_at _ _ _ (by omega) h.small]
      (repeat' split) <;> omega
    rw [this]
    exact h.close
end Go.Proofs.Ytgnkhncogfppgaa
