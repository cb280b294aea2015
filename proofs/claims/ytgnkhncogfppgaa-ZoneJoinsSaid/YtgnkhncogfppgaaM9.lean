import Derived.Test.YtgnkhncogfppgaaM8
import Derived.Test.YtgnkhncogfppgaaZ8
namespace Go.Proofs.Ytgnkhncogfppgaa
/-! Of either, and what widening makes: plain. -/
theorem within_iff {a b : Zn} : withinB a b = true ↔ a.n = b.n ∧ (a.none = true ∨ (b.none = false ∧ ∀ i, i < 7 → ∀ j, j < 7 → a.D i j ≤ b.D i j)) := by
  unfold withinB
  simp only [Bool.and_eq_true, decide_eq_true_eq, Bool.or_eq_true, Bool.not_eq_true', leB_iff]
theorem within_not {a b : Zn} (h : ¬ withinB a b = true) : withinB a b = false := by simpa using h
theorem within_refl (a : Zn) : withinB a a = true := within_iff.2 ⟨rfl, by cases h : a.none <;> simp⟩
theorem within_n {a b : Zn} (h : a.n ≠ b.n) : withinB a b = false := within_not fun hw => h (within_iff.1 hw).1
def mxM (D E : Mat) : Mat := fun i j => mx (D i j) (E i j)
def joinZ (a b : Zn) : Zn := if a.n ≠ b.n ∨ b.none = true then a else if a.none = true then b else ⟨a.n, false, mxM a.D b.D⟩
theorem mx_l (x y : Int) : x ≤ mx x y := by unfold mx; split <;> omega
theorem mx_r (x y : Int) : y ≤ mx x y := by unfold mx; split <;> omega
theorem mx_le {x y c : Int} (h1 : x ≤ c) (h2 : y ≤ c) : mx x y ≤ c := by unfold mx; split <;> omega
theorem joinZ_n (a b : Zn) (h : a.n = b.n) : (joinZ a b).n = a.n := by
  unfold joinZ; split
  · rfl
  · split
    · exact h.symm
    · rfl
theorem joinZ_l {a b : Zn} (h : a.n ≠ b.n ∨ b.none = true) : joinZ a b = a := by unfold joinZ; rw [if_pos h]
theorem joinZ_r {a b : Zn} (h : a.n = b.n) (hb : b.none = false) (ha : a.none = true) : joinZ a b = b := by unfold joinZ; rw [if_neg (by rw [hb]; simp [h]), if_pos ha]
theorem joinZ_both {a b : Zn} (h : a.n = b.n) (hb : b.none = false) (ha : a.none = false) : joinZ a b = ⟨a.n, false, mxM a.D b.D⟩ := by unfold joinZ; rw [if_neg (by rw [hb]; simp [h]), if_neg (by rw [ha]; simp)]
theorem join_ok {a b : Zn} (ha : OKZ a) (hb : OKZ b) : OKZ (joinZ a b) := by
  by_cases h : a.n ≠ b.n ∨ b.none = true
  · rw [joinZ_l h]; exact ha
  · have h1 : a.n = b.n := by
      by_cases e : a.n = b.n
      · exact e
      · exact absurd (.inl e) h
    have h2 : b.none = false := by
      cases e : b.none with
      | false => rfl
      | true => exact absurd (.inr e) h
    cases h3 : a.none with
    | true => rw [joinZ_r h1 h2 h3]; exact hb
    | false =>
      rw [joinZ_both h1 h2 h3]
      have sa := ha.sub h3
      have sb := hb.sub h2
      rw [← h1] at sb
      refine ⟨ha.n, fun h => (by cases h), fun _ => ⟨fun i hi => ?_, fun i j k hi hj hk => ?_⟩, fun _ i h4 h5 => ?_, fun _ i h4 h5 => ?_, fun i j ho => ?_⟩
      · show mx _ _ = _; rw [sa.diag i hi, sb.diag i hi]; rfl
      · have t1 := sa.tri i j k hi hj hk
        have t2 := sb.tri i j k hi hj hk
        have u1 := mx_l (a.D i k) (b.D i k)
        have u2 := mx_r (a.D i k) (b.D i k)
        have u3 := mx_l (a.D k j) (b.D k j)
        have u4 := mx_r (a.D k j) (b.D k j)
        show mx (a.D i j) (b.D i j) ≤ mx (a.D i k) (b.D i k) + mx (a.D k j) (b.D k j)
        exact mx_le (by omega) (by omega)
      · exact mx_le (ha.up h3 i h4 h5) (hb.up h2 i h4 (by rw [← h1]; exact h5))
      · exact mx_le (ha.down h3 i h4 h5) (hb.down h2 i h4 (by rw [← h1]; exact h5))
      · show mx _ _ = _; rw [ha.out i j ho, hb.out i j (by rw [← h1]; exact ho)]; rfl
theorem join_upl {a b : Zn} (h : a.n = b.n) : withinB a (joinZ a b) = true := by
  cases h2 : b.none with
  | true => rw [joinZ_l (.inr h2)]; exact within_refl a
  | false =>
    cases h3 : a.none with
    | true => rw [joinZ_r h h2 h3]; exact within_iff.2 ⟨h, .inl h3⟩
    | false => rw [joinZ_both h h2 h3]; exact within_iff.2 ⟨rfl, .inr ⟨rfl, fun i _ j _ => mx_l _ _⟩⟩
theorem join_upr {a b : Zn} (h : a.n = b.n) : withinB b (joinZ a b) = true := by
  cases h2 : b.none with
  | true => exact within_iff.2 ⟨by rw [joinZ_n _ _ h]; exact h.symm, .inl h2⟩
  | false =>
    cases h3 : a.none with
    | true => rw [joinZ_r h h2 h3]; exact within_refl b
    | false => rw [joinZ_both h h2 h3]; exact within_iff.2 ⟨h.symm, .inr ⟨rfl, fun i _ j _ => mx_r _ _⟩⟩
/-! ### Widening -/
def keptI (a b : Int) : Int := if a < b then far else a
def widM (n : Nat) (D E : Mat) : Mat := fun i j => if i ≤ n ∧ j ≤ n ∧ i ≠ j then (if i = 0 ∨ j = 0 then keptI (D i j) (E i j) else far) else 0
noncomputable def widZ (a b : Zn) : Zn := if a.n ≠ b.n ∨ withinB b a = true then a else if a.none = true then b else closeZ ⟨a.n, false, widM a.n a.D b.D⟩
def wU (D E : Mat) (i : Nat) : Int := if i = 0 then 0 else if D i 0 < E i 0 then 2147483647 else D i 0
def wV (D E : Mat) (i : Nat) : Int := if i = 0 then 0 else if D 0 i < E 0 i then 2147483648 else D 0 i
def starM (n : Nat) (U V : Nat → Int) : Mat := fun i j => if i ≤ n ∧ j ≤ n then (if i = j then 0 else U i + V j) else 0
theorem starM_at {n : Nat} {U V : Nat → Int} {i j : Nat} (hi : i ≤ n) (hj : j ≤ n) : starM n U V i j = if i = j then 0 else U i + V j := if_pos ⟨hi, hj⟩
theorem wU0 (D E : Mat) : wU D E 0 = 0 := rfl
theorem wV0 (D E : Mat) : wV D E 0 = 0 := rfl
theorem wid_pre {a : Zn} (ha : OKZ a) (hn : a.none = false) (E : Mat) : Pre ⟨a.n, false, widM a.n a.D E⟩ := by
  have f0 : far = 1099511627776 := rfl
  refine ⟨ha.n, rfl, fun i hi => ?_, fun i j hi hj => ?_, fun i j hi hj => ?_, fun i j ho => ?_⟩
  · show widM a.n a.D E i i = 0
    unfold widM; rw [if_neg (by omega)]
  · have hi : i ≤ a.n := hi
    have hj : j ≤ a.n := hj
    have := ha.bounds hn i j hi hj
    show -274877906944 ≤ widM a.n a.D E i j
    unfold widM keptI; repeat' split <;> omega
  · have hi : i ≤ a.n := hi
    have hj : j ≤ a.n := hj
    have := ha.bounds hn i j hi hj
    show widM a.n a.D E i j ≤ 1000000000000000
    unfold widM keptI; repeat' split <;> omega
  · have ho : ¬ (i ≤ a.n ∧ j ≤ a.n) := ho
    show widM a.n a.D E i j = 0
    unfold widM; rw [if_neg (by omega)]
section
variable {a : Zn} {E : Mat}
theorem ownW_u (ha : OKZ a) (hn : a.none = false) {i : Nat} (h1 : 1 ≤ i) (h2 : i ≤ a.n) : ownA a.n (widM a.n a.D E) i 0 = wU a.D E i := by
  have := ha.up hn i h1 h2
  have f0 : far = 1099511627776 := rfl
  have e : widM a.n a.D E i 0 = keptI (a.D i 0) (E i 0) := by unfold widM; rw [if_pos (show i ≤ a.n ∧ 0 ≤ a.n ∧ i ≠ 0 by omega), if_pos (Or.inr rfl)]
  have e2 : wU a.D E i = if a.D i 0 < E i 0 then 2147483647 else a.D i 0 := by unfold wU; rw [if_neg (show ¬ i = 0 by omega)]
  unfold ownA; rw [if_pos ⟨rfl, h1, h2⟩, e, e2]
  unfold keptI mn
  repeat' split <;> omega
theorem ownW_v (ha : OKZ a) (hn : a.none = false) {i : Nat} (h1 : 1 ≤ i) (h2 : i ≤ a.n) : ownA a.n (widM a.n a.D E) 0 i = wV a.D E i := by
  have := ha.down hn i h1 h2
  have f0 : far = 1099511627776 := rfl
  have e : widM a.n a.D E 0 i = keptI (a.D 0 i) (E 0 i) := by unfold widM; rw [if_pos (show 0 ≤ a.n ∧ i ≤ a.n ∧ 0 ≠ i by omega), if_pos (Or.inl rfl)]
  have e2 : wV a.D E i = if a.D 0 i < E 0 i then 2147483648 else a.D 0 i := by unfold wV; rw [if_neg (show ¬ i = 0 by omega)]
  unfold ownA; rw [if_neg (by omega), if_pos ⟨rfl, h1, h2⟩, e, e2]
  unfold keptI mn
  repeat' split <;> omega
theorem ownW_d (i : Nat) : ownA a.n (widM a.n a.D E) i i = 0 := by
  rw [ownA_diag]; unfold widM; rw [if_neg (by omega)]
theorem ownW_x {i j : Nat} (h1 : 1 ≤ i) (h2 : i ≤ a.n) (h3 : 1 ≤ j) (h4 : j ≤ a.n) (h5 : i ≠ j) : ownA a.n (widM a.n a.D E) i j = far := by
  unfold ownA; rw [if_neg (by omega), if_neg (by omega)]
  unfold widM; rw [if_pos ⟨h2, h4, h5⟩, if_neg (show ¬ (i = 0 ∨ j = 0) by omega)]
theorem wU_le (ha : OKZ a) (hn : a.none = false) {i : Nat} (h2 : i ≤ a.n) : a.D i 0 ≤ wU a.D E i ∧ wU a.D E i ≤ 2147483647 := by
  have h0 := (ha.sub hn).diag 0 (by omega)
  unfold wU
  by_cases hi : i = 0
  · subst hi; rw [if_pos rfl]; omega
  · rw [if_neg hi]
    have := ha.up hn i (by omega) h2
    split <;> omega
theorem wV_le (ha : OKZ a) (hn : a.none = false) {i : Nat} (h2 : i ≤ a.n) : a.D 0 i ≤ wV a.D E i ∧ wV a.D E i ≤ 2147483648 := by
  have h0 := (ha.sub hn).diag 0 (by omega)
  unfold wV
  by_cases hi : i = 0
  · subst hi; rw [if_pos rfl]; omega
  · rw [if_neg hi]
    have := ha.down hn i (by omega) h2
    split <;> omega
theorem wUV (ha : OKZ a) (hn : a.none = false) {i : Nat} (h2 : i ≤ a.n) : 0 ≤ wU a.D E i + wV a.D E i := by
  have u := wU_le (E := E) ha hn h2
  have v := wV_le (E := E) ha hn h2
  have s := ha.sub hn
  have t := s.tri i i 0 h2 h2 (by omega)
  rw [s.diag i h2] at t
  omega
theorem star_sub (ha : OKZ a) (hn : a.none = false) : Sub a.n (starM a.n (wU a.D E) (wV a.D E)) := by
  refine ⟨fun i hi => ?_, fun i j k hi hj hk => ?_⟩
  · rw [starM_at hi hi, if_pos rfl]
  · rw [starM_at hi hj, starM_at hi hk, starM_at hk hj]
    have p := wUV (E := E) ha hn hi
    have q := wUV (E := E) ha hn hk
    (repeat' split) <;> first | omega | (subst_vars; omega)
/-- Widening, told whole. -/
theorem wid_clo (ha : OKZ a) (hn : a.none = false) : IsClo a.n (ownA a.n (widM a.n a.D E)) (starM a.n (wU a.D E) (wV a.D E)) := by
  refine ⟨star_sub ha hn, fun i j hi hj => ?_, fun B hB hle i j hi hj => ?_⟩
  · rw [starM_at hi hj]
    by_cases hij : i = j
    · subst hij; rw [if_pos rfl, ownW_d]; exact Int.le_refl _
    · rw [if_neg hij]
      by_cases hj0 : j = 0
      · subst hj0; rw [ownW_u ha hn (by omega) hi, wV0]; omega
      · by_cases hi0 : i = 0
        · subst hi0; rw [ownW_v ha hn (by omega) hj, wU0]; omega
        · rw [ownW_x (by omega) hi (by omega) hj hij]
          have u := (wU_le (E := E) ha hn hi).2
          have v := (wV_le (E := E) ha hn hj).2
          have f0 : far = 1099511627776 := rfl
          omega
  · rw [starM_at hi hj]
    by_cases hij : i = j
    · subst hij; rw [if_pos rfl, hB.diag i hi]; exact Int.le_refl _
    · rw [if_neg hij]
      have t := hB.tri i j 0 hi hj (by omega)
      have b0 := hB.diag 0 (by omega)
      have u : B i 0 ≤ wU a.D E i := by
        by_cases hi0 : i = 0
        · subst hi0; rw [wU0]; omega
        · have := hle i 0 hi (by omega); rw [ownW_u ha hn (by omega) hi] at this; exact this
      have v : B 0 j ≤ wV a.D E j := by
        by_cases hj0 : j = 0
        · subst hj0; rw [wV0]; omega
        · have := hle 0 j (by omega) hj; rw [ownW_v ha hn (by omega) hj] at this; exact this
      omega
theorem wid_closed (ha : OKZ a) (hn : a.none = false) (E : Mat) : closeZ ⟨a.n, false, widM a.n a.D E⟩ = ⟨a.n, false, starM a.n (wU a.D E) (wV a.D E)⟩ :=
  close_eq (wid_pre ha hn E) (wid_clo ha hn) fun i j ho => by
    have ho : ¬ (i ≤ a.n ∧ j ≤ a.n) := ho
    unfold starM; rw [if_neg ho]
theorem star_ok (ha : OKZ a) (hn : a.none = false) (E : Mat) : OKZ ⟨a.n, false, starM a.n (wU a.D E) (wV a.D E)⟩ := by
  rw [← wid_closed ha hn E]; exact close_ok (wid_pre ha hn E)
end
theorem widZ_l {a b : Zn} (h : a.n ≠ b.n ∨ withinB b a = true) : widZ a b = a := by unfold widZ; rw [if_pos h]
theorem widZ_r {a b : Zn} (h : ¬ (a.n ≠ b.n ∨ withinB b a = true)) (ha : a.none = true) : widZ a b = b := by unfold widZ; rw [if_neg h, if_pos ha]
theorem widZ_both {a b : Zn} (h : ¬ (a.n ≠ b.n ∨ withinB b a = true)) (ha : OKZ a) (hn : a.none = false) : widZ a b = ⟨a.n, false, starM a.n (wU a.D b.D) (wV a.D b.D)⟩ := by
  unfold widZ; rw [if_neg h, if_neg (by rw [hn]; simp), wid_closed ha hn]
theorem wid_ok {a b : Zn} (ha : OKZ a) (hb : OKZ b) : OKZ (widZ a b) := by
  by_cases h : a.n ≠ b.n ∨ withinB b a = true
  · rw [widZ_l h]; exact ha
  · cases hn : a.none with
    | true => rw [widZ_r h hn]; exact hb
    | false => rw [widZ_both h ha hn]; exact star_ok ha hn _
theorem widZ_n {a b : Zn} (ha : OKZ a) (h : a.n = b.n) : (widZ a b).n = a.n := by
  by_cases h1 : a.n ≠ b.n ∨ withinB b a = true
  · rw [widZ_l h1]
  · cases hn : a.none with
    | true => rw [widZ_r h1 hn]; exact h.symm
    | false => rw [widZ_both h1 ha hn]
/-- What either has, widening has. -/
theorem wid_up {a b : Zn} (ha : OKZ a) (hb : OKZ b) (h : a.n = b.n) : withinB (joinZ a b) (widZ a b) = true := by
  by_cases h1 : a.n ≠ b.n ∨ withinB b a = true
  · rw [widZ_l h1]
    have h2 : withinB b a = true := h1.resolve_left (fun hh => hh h)
    obtain ⟨_, h4⟩ := within_iff.1 h2
    rcases h4 with h4 | ⟨h4, h5⟩
    · rw [joinZ_l (.inr h4)]; exact within_refl a
    · cases hbn : b.none with
      | true => rw [joinZ_l (.inr hbn)]; exact within_refl a
      | false => rw [joinZ_both h hbn h4]; exact within_iff.2 ⟨rfl, .inr ⟨h4, fun i hi j hj => mx_le (Int.le_refl _) (h5 i hi j hj)⟩⟩
  · have h2 : withinB b a = false := within_not fun hh => h1 (.inr hh)
    have hbn : b.none = false := by
      cases e : b.none with
      | false => rfl
      | true => exact absurd (within_iff.2 ⟨h.symm, .inl e⟩) (by rw [h2]; simp)
    cases hn : a.none with
    | true => rw [widZ_r h1 hn, joinZ_r h hbn hn]; exact within_refl b
    | false =>
      have hj := join_ok ha hb
      rw [joinZ_both h hbn hn] at hj ⊢
      rw [widZ_both h1 ha hn]
      have sj := hj.sub rfl
      refine within_iff.2 ⟨rfl, .inr ⟨rfl, fun i _ j _ => ?_⟩⟩
      show mxM a.D b.D i j ≤ starM a.n (wU a.D b.D) (wV a.D b.D) i j
      by_cases hij : i ≤ a.n ∧ j ≤ a.n
      · obtain ⟨hi, hj'⟩ := hij
        rw [starM_at hi hj']
        by_cases e : i = j
        · subst e; rw [if_pos rfl]; exact Int.le_of_eq (sj.diag i hi)
        · rw [if_neg e]
          have t : mxM a.D b.D i j ≤ mxM a.D b.D i 0 + mxM a.D b.D 0 j := sj.tri i j 0 hi hj' (Nat.zero_le _)
          have d0 : mxM a.D b.D 0 0 = 0 := sj.diag 0 (Nat.zero_le _)
          have u : mxM a.D b.D i 0 ≤ wU a.D b.D i := by
            by_cases hi0 : i = 0
            · subst hi0; rw [d0, wU0]; exact Int.le_refl _
            · have := hb.up hbn i (by omega) (by omega)
              unfold mxM mx wU; rw [if_neg hi0]; split <;> omega
          have v : mxM a.D b.D 0 j ≤ wV a.D b.D j := by
            by_cases hj0 : j = 0
            · subst hj0; rw [d0, wV0]; exact Int.le_refl _
            · have := hb.down hbn j (by omega) (by omega)
              unfold mxM mx wV; rw [if_neg hj0]; split <;> omega
          omega
      · rw [show mxM a.D b.D i j = 0 from hj.out i j hij]; unfold starM; rw [if_neg hij]; omega
/-! ### The document's widening -/
def rwS (a b : Zn) (x : Nat) (z : Zn) : Zn :=
  let z1 := if b.D (x + 1) 0 ≤ a.D (x + 1) 0 then boundZ z (x : Int) (-1) (a.D (x + 1) 0) else z
  if b.D 0 (x + 1) ≤ a.D 0 (x + 1) then boundZ z1 (-1) (x : Int) (a.D 0 (x + 1)) else z1
def rwZ (a b : Zn) (m : Nat) : Zn := iter (rwS a b) m (topZ a.n)
/-- A zone that stands for what holds P. -/
def Std (n : Nat) (P : Mat → Prop) (z : Zn) : Prop := OKZ z ∧ ∃ A, Rep n A z ∧ ∀ X, Sub n X → (Le n X A ↔ P X)
theorem Std.n {n : Nat} {P} {z : Zn} (h : Std n P z) : z.n = n := by obtain ⟨_, A, h1, _⟩ := h; exact h1.1
theorem Std.uniq {n : Nat} {P} {z w : Zn} (h : Std n P z) (h' : Std n P w) : z = w := by
  obtain ⟨_, A, h1, h2⟩ := h
  obtain ⟨_, B, g1, g2⟩ := h'
  exact (h1.congr (B := B) fun X hX => (h2 X hX).trans (g2 X hX).symm).uniq g1
theorem Std.congr {n : Nat} {P Q : Mat → Prop} {z : Zn} (h : Std n P z) (hpq : ∀ X, Sub n X → (P X ↔ Q X)) : Std n Q z := by
  obtain ⟨h0, A, h1, h2⟩ := h
  exact ⟨h0, A, h1, fun X hX => (h2 X hX).trans (hpq X hX)⟩
theorem Std.bound {n : Nat} {P} {z : Zn} (h : Std n P z) {i j : Nat} (hi : i ≤ n) (hj : j ≤ n) (hij : i ≠ j) {d : Int} (hd : -274877906944 ≤ d) : Std n (fun X => P X ∧ X i j ≤ d) (boundZ z ((i : Int) - 1) ((j : Int) - 1) d) := by
  have hn := h.n
  obtain ⟨h0, A, h1, h2⟩ := h
  subst hn
  exact ⟨bound_ok h0 hi hj hij hd, addM A i j d, rep_bound h0 h1 hi hj hij hd, fun X hX => by rw [addM_le hi hj, h2 X hX]⟩
theorem topM_le {n : Nat} {X : Mat} (hX : Sub n X) : Le n X (ownA n (topM n)) ↔ ∀ i, 1 ≤ i → i ≤ n → X i 0 ≤ 2147483647 ∧ X 0 i ≤ 2147483648 := by
  have f0 : far = 1099511627776 := rfl
  constructor
  · intro h i h1 h2
    exact ⟨Int.le_trans (h i 0 h2 (by omega)) (ownA_up _ h1 h2), Int.le_trans (h 0 i (by omega) h2) (ownA_down _ h1 h2)⟩
  · intro h i j hi hj
    have t := hX.tri i j 0 hi hj (by omega)
    have d0 := hX.diag 0 (by omega)
    unfold ownA topM
    by_cases e : i = j
    · subst e; rw [if_neg (by omega), if_neg (by omega), if_neg (by omega), hX.diag i hi]; exact Int.le_refl _
    · have hi' := h i
      have hj' := h j
      unfold mn
      repeat' split
      all_goals first | omega | (by_cases hi0 : i = 0 <;> by_cases hj0 : j = 0 <;> (first | subst hi0 | skip) <;> (first | subst hj0 | skip) <;> omega)
theorem top_std {n : Nat} (hn : n ≤ 6) : Std n (fun X => ∀ i, 1 ≤ i → i ≤ n → X i 0 ≤ 2147483647 ∧ X 0 i ≤ 2147483648) (topZ n) :=
  ⟨top_ok hn, _, close_rep (topM_pre hn), fun _ hX => topM_le hX⟩
theorem rw_std {a b : Zn} (ha : OKZ a) (hn : a.none = false) : ∀ m, m ≤ a.n →
    Std a.n (fun X => (∀ i, 1 ≤ i → i ≤ a.n → X i 0 ≤ 2147483647 ∧ X 0 i ≤ 2147483648) ∧ ∀ i, 1 ≤ i → i ≤ m → (b.D i 0 ≤ a.D i 0 → X i 0 ≤ a.D i 0) ∧ (b.D 0 i ≤ a.D 0 i → X 0 i ≤ a.D 0 i)) (rwZ a b m)
  | 0, _ => (top_std ha.n).congr fun X _ => ⟨fun h => ⟨h, fun i h1 h2 => by omega⟩, fun h => h.1⟩
  | m + 1, hm => by
    have ih := rw_std (b := b) ha hn m (by omega)
    show Std _ _ (rwS a b m (rwZ a b m))
    have b1 := ha.bounds hn (m + 1) 0 hm (by omega)
    have b2 := ha.bounds hn 0 (m + 1) (by omega) hm
    unfold rwS
    have e1 : ((m + 1 : Nat) : Int) - 1 = (m : Int) := by omega
    have e2 : ((0 : Nat) : Int) - 1 = -1 := by omega
    have s1 : Std a.n (fun X => ((∀ i, 1 ≤ i → i ≤ a.n → X i 0 ≤ 2147483647 ∧ X 0 i ≤ 2147483648) ∧ ∀ i, 1 ≤ i → i ≤ m → (b.D i 0 ≤ a.D i 0 → X i 0 ≤ a.D i 0) ∧ (b.D 0 i ≤ a.D 0 i → X 0 i ≤ a.D 0 i)) ∧ (b.D (m + 1) 0 ≤ a.D (m + 1) 0 → X (m + 1) 0 ≤ a.D (m + 1) 0))
        (if b.D (m + 1) 0 ≤ a.D (m + 1) 0 then boundZ (rwZ a b m) (m : Int) (-1) (a.D (m + 1) 0) else rwZ a b m) := by
      split
      · rename_i hc
        have := ih.bound (i := m + 1) (j := 0) hm (by omega) (by omega) (d := a.D (m + 1) 0) (by omega)
        rw [e1, e2] at this
        exact this.congr fun X _ => and_congr_right fun _ => ⟨fun h _ => h, fun h => h hc⟩
      · rename_i hc
        exact ih.congr fun X _ => ⟨fun h => ⟨h, fun h2 => absurd h2 hc⟩, fun h => h.1⟩
    generalize (if b.D (m + 1) 0 ≤ a.D (m + 1) 0 then boundZ (rwZ a b m) (m : Int) (-1) (a.D (m + 1) 0) else rwZ a b m) = z1 at s1 ⊢
    have s2 : Std a.n (fun X => (((∀ i, 1 ≤ i → i ≤ a.n → X i 0 ≤ 2147483647 ∧ X 0 i ≤ 2147483648) ∧ ∀ i, 1 ≤ i → i ≤ m → (b.D i 0 ≤ a.D i 0 → X i 0 ≤ a.D i 0) ∧ (b.D 0 i ≤ a.D 0 i → X 0 i ≤ a.D 0 i)) ∧ (b.D (m + 1) 0 ≤ a.D (m + 1) 0 → X (m + 1) 0 ≤ a.D (m + 1) 0)) ∧ (b.D 0 (m + 1) ≤ a.D 0 (m + 1) → X 0 (m + 1) ≤ a.D 0 (m + 1)))
        (if b.D 0 (m + 1) ≤ a.D 0 (m + 1) then boundZ z1 (-1) (m : Int) (a.D 0 (m + 1)) else z1) := by
      split
      · rename_i hc
        have := s1.bound (i := 0) (j := m + 1) (by omega) hm (by omega) (d := a.D 0 (m + 1)) (by omega)
        rw [e1, e2] at this
        exact this.congr fun X _ => and_congr_right fun _ => ⟨fun h _ => h, fun h => h hc⟩
      · rename_i hc
        exact s1.congr fun X _ => ⟨fun h => ⟨h, fun h2 => absurd h2 hc⟩, fun h => h.1⟩
    refine s2.congr fun X _ => ⟨fun ⟨⟨⟨h1, h2⟩, h3⟩, h4⟩ => ⟨h1, fun i hi1 hi2 => ?_⟩, fun ⟨h1, h2⟩ => ⟨⟨⟨h1, fun i hi1 hi2 => h2 i hi1 (by omega)⟩, (h2 (m + 1) (by omega) (by omega)).1⟩, (h2 (m + 1) (by omega) (by omega)).2⟩⟩
    by_cases e : i = m + 1
    · subst e; exact ⟨h3, h4⟩
    · exact h2 i hi1 (by omega)
theorem rw_eq {a b : Zn} (ha : OKZ a) (hn : a.none = false) : rwZ a b a.n = ⟨a.n, false, starM a.n (wU a.D b.D) (wV a.D b.D)⟩ := by
  refine (rw_std (b := b) ha hn a.n (Nat.le_refl _)).uniq ⟨star_ok ha hn _, _, ⟨rfl, .inl ⟨rfl, wid_clo ha hn, fun i j ho => ?_⟩⟩, fun X hX => ?_⟩
  · show starM _ _ _ _ _ = _; unfold starM; rw [if_neg ho]
  · constructor
    · intro h
      have hu : ∀ i, 1 ≤ i → i ≤ a.n → X i 0 ≤ wU a.D b.D i := fun i h1 h2 => by have := h i 0 h2 (by omega); rw [ownW_u ha hn h1 h2] at this; exact this
      have hv : ∀ i, 1 ≤ i → i ≤ a.n → X 0 i ≤ wV a.D b.D i := fun i h1 h2 => by have := h 0 i (by omega) h2; rw [ownW_v ha hn h1 h2] at this; exact this
      refine ⟨fun i h1 h2 => ⟨Int.le_trans (hu i h1 h2) (wU_le ha hn h2).2, Int.le_trans (hv i h1 h2) (wV_le ha hn h2).2⟩, fun i h1 h2 => ⟨fun h3 => ?_, fun h3 => ?_⟩⟩
      · have := hu i h1 h2; unfold wU at this; rw [if_neg (by omega), if_neg (by omega)] at this; exact this
      · have := hv i h1 h2; unfold wV at this; rw [if_neg (by omega), if_neg (by omega)] at this; exact this
    · rintro ⟨h1, h2⟩
      have hu : ∀ i, i ≤ a.n → X i 0 ≤ wU a.D b.D i := fun i hi => by
        unfold wU; split
        · rename_i e; subst e; exact Int.le_of_eq (hX.diag 0 hi)
        · split
          · exact (h1 i (by omega) hi).1
          · exact (h2 i (by omega) hi).1 (by omega)
      have hv : ∀ i, i ≤ a.n → X 0 i ≤ wV a.D b.D i := fun i hi => by
        unfold wV; split
        · rename_i e; subst e; exact Int.le_of_eq (hX.diag 0 hi)
        · split
          · exact (h1 i (by omega) hi).2
          · exact (h2 i (by omega) hi).2 (by omega)
      refine fun i j hi hj => Int.le_trans ?_ ((wid_clo (E := b.D) ha hn).le i j hi hj)
      rw [starM_at hi hj]
      by_cases e : i = j
      · subst e; rw [if_pos rfl]; exact Int.le_of_eq (hX.diag i hi)
      · rw [if_neg e]
        have t := hX.tri i j 0 hi hj (by omega)
        have := hu i hi
        have := hv j hj
        omega
/-- The document's widening is the program's. -/
theorem rwid_eq {a b : Zn} (ha : OKZ a) (hb : OKZ b) (h : a.n = b.n) : widZ a b = if a.none = true then b else if withinB b a = true then a else rwZ a b a.n := by
  by_cases h1 : a.n ≠ b.n ∨ withinB b a = true
  · have h2 : withinB b a = true := h1.resolve_left (fun hh => hh h)
    rw [widZ_l h1]
    cases hn : a.none with
    | true =>
      rw [if_pos rfl]
      obtain ⟨_, h4⟩ := within_iff.1 h2
      have hbn : b.none = true := h4.resolve_right fun ⟨h5, _⟩ => by rw [hn] at h5; cases h5
      exact Zn.ext' h (hn.trans hbn.symm) fun i j => by rw [ha.nones hn, hb.nones hbn]
    | false => rw [if_neg (by simp), if_pos h2]
  · cases hn : a.none with
    | true => rw [widZ_r h1 hn, if_pos rfl]
    | false => rw [widZ_both h1 ha hn, if_neg (by simp), if_neg (fun hh => h1 (.inr hh)), rw_eq ha hn]
end Go.Proofs.Ytgnkhncogfppgaa
