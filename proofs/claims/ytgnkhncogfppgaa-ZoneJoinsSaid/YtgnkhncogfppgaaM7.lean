import Derived.Test.YtgnkhncogfppgaaM6
namespace Go.Proofs.Ytgnkhncogfppgaa
/-! What a zone stands for: the matrices with triangles below A. -/
def Rep (n : Nat) (A : Mat) (z : Zn) : Prop := z.n = n ∧ ((z.none = false ∧ IsClo n A z.D ∧ ∀ i j, ¬ (i ≤ n ∧ j ≤ n) → z.D i j = 0) ∨ (z = noneZ n ∧ Infeas n A))
theorem Rep.uniq {n : Nat} {A : Mat} {z w : Zn} (h : Rep n A z) (h' : Rep n A w) : z = w := by
  obtain ⟨h1, h2⟩ := h
  obtain ⟨g1, g2⟩ := h'
  rcases h2 with ⟨a1, a2, a3⟩ | ⟨a1, a2⟩ <;> rcases g2 with ⟨b1, b2, b3⟩ | ⟨b1, b2⟩
  · refine Zn.ext' (h1.trans g1.symm) (a1.trans b1.symm) fun i j => ?_
    by_cases hij : i ≤ n ∧ j ≤ n
    · exact a2.uniq b2 hij.1 hij.2
    · rw [a3 i j hij, b3 i j hij]
  · exact absurd b2 a2.feas
  · exact absurd a2 b2.feas
  · rw [a1, b1]
theorem IsClo.congr {n : Nat} {A B C : Mat} (h : IsClo n A C) (hab : ∀ X, Sub n X → (Le n X A ↔ Le n X B)) : IsClo n B C :=
  ⟨h.sub, (hab C h.sub).1 h.le, fun X hX hXB => h.top X hX ((hab X hX).2 hXB)⟩
theorem Infeas.congr {n : Nat} {A B : Mat} (h : Infeas n A) (hab : ∀ X, Sub n X → (Le n X A ↔ Le n X B)) : Infeas n B := fun X hX hXB => h X hX ((hab X hX).2 hXB)
theorem Rep.congr {n : Nat} {A B : Mat} {z : Zn} (h : Rep n A z) (hab : ∀ X, Sub n X → (Le n X A ↔ Le n X B)) : Rep n B z :=
  ⟨h.1, h.2.imp (fun ⟨a, b, c⟩ => ⟨a, b.congr hab, c⟩) fun ⟨a, b⟩ => ⟨a, b.congr hab⟩⟩
theorem close_rep {z : Zn} (h : Pre z) : Rep z.n (ownA z.n z.D) (closeZ z) := ⟨closeZ_n z, close_spec h⟩
theorem OKZ.rep {z : Zn} (h : OKZ z) (hn : z.none = false) : Rep z.n z.D z := ⟨rfl, .inl ⟨hn, IsClo.self (h.sub hn), h.out⟩⟩
theorem Rep.le {n : Nat} {A : Mat} {z : Zn} (h : Rep n A z) (hn : z.none = false) : IsClo n A z.D := by
  rcases h.2 with ⟨_, b, _⟩ | ⟨a, _⟩
  · exact b
  · rw [a] at hn; cases hn
theorem Rep.inf {n : Nat} {A : Mat} {z : Zn} (h : Rep n A z) (hn : z.none = true) : Infeas n A := by
  rcases h.2 with ⟨a, _, _⟩ | ⟨_, b⟩
  · rw [a] at hn; cases hn
  · exact b
/-- One bound more. -/
def addM (A : Mat) (i j : Nat) (d : Int) : Mat := upd A i j (mn (A i j) d)
theorem addM_le {A : Mat} {i j : Nat} {d : Int} {n : Nat} {X : Mat} (hi : i ≤ n) (hj : j ≤ n) : Le n X (addM A i j d) ↔ Le n X A ∧ X i j ≤ d := by
  constructor
  · intro h
    refine ⟨fun a b ha hb => ?_, ?_⟩
    · refine Int.le_trans (h a b ha hb) ?_
      unfold addM
      by_cases hab : a = i ∧ b = j
      · obtain ⟨rfl, rfl⟩ := hab; rw [upd_same]; exact mn_le _ _
      · rw [upd_ne _ _ _ _ hab]; exact Int.le_refl _
    · refine Int.le_trans (h i j hi hj) ?_
      unfold addM; rw [upd_same]; exact mn_le' _ _
  · rintro ⟨h1, h2⟩ a b ha hb
    unfold addM
    by_cases hab : a = i ∧ b = j
    · obtain ⟨rfl, rfl⟩ := hab; rw [upd_same]; exact le_mn (h1 a b ha hb) h2
    · rw [upd_ne _ _ _ _ hab]; exact h1 a b ha hb
/-- What is below a right zone's bounds holds the numbers' own bounds. -/
theorem own_le {n : Nat} {A X : Mat} (h1 : ∀ i, 1 ≤ i → i ≤ n → X i 0 ≤ 2147483647) (h2 : ∀ i, 1 ≤ i → i ≤ n → X 0 i ≤ 2147483648) : Le n X (ownA n A) ↔ Le n X A := by
  constructor
  · exact fun h i j hi hj => Int.le_trans (h i j hi hj) (ownA_le _ _ _ _)
  · intro h i j hi hj
    unfold ownA
    split
    · rename_i hc; obtain ⟨rfl, a, b⟩ := hc; exact le_mn (h i 0 hi hj) (h1 i a b)
    · split
      · rename_i hc; obtain ⟨rfl, a, b⟩ := hc; exact le_mn (h 0 j hi hj) (h2 j a b)
      · exact h i j hi hj
theorem rep_bound {z : Zn} (h : OKZ z) {n : Nat} {A : Mat} (hr : Rep n A z) {i j : Nat} (hi : i ≤ n) (hj : j ≤ n) (hij : i ≠ j) {d : Int} (hd : -274877906944 ≤ d) : Rep n (addM A i j d) (boundZ z ((i : Int) - 1) ((j : Int) - 1) d) := by
  obtain ⟨hzn, hr2⟩ := hr
  subst hzn
  rcases hr2 with ⟨hn, hc, _⟩ | ⟨hn, hf⟩
  · rw [boundZ_yes hn hi hj]
    have hp := setB_pre h hn hi hj hij hd
    have := close_rep hp
    refine Rep.congr this fun X hX => ?_
    have e : mx d (-far) = d := by unfold mx far; split <;> omega
    have e2 : (setB z i j d).D = addM z.D i j d := by unfold setB addM; rw [e]
    rw [e2]
    show Le z.n X (ownA z.n _) ↔ _
    have key : Le z.n X z.D ↔ Le z.n X A := ⟨fun h => fun a b ha hb => Int.le_trans (h a b ha hb) (hc.le a b ha hb), fun h => hc.top X hX h⟩
    constructor
    · intro hx
      have hx2 : Le z.n X (addM z.D i j d) := fun a b ha hb => Int.le_trans (hx a b ha hb) (ownA_le _ _ _ _)
      rw [addM_le hi hj] at hx2 ⊢
      exact ⟨key.1 hx2.1, hx2.2⟩
    · intro hx
      rw [addM_le hi hj] at hx
      have hz := key.2 hx.1
      refine (own_le (fun a h1 h2 => Int.le_trans (hz a 0 h2 (by omega)) (h.up hn a h1 h2)) (fun a h1 h2 => Int.le_trans (hz 0 a (by omega) h2) (h.down hn a h1 h2))).2 ?_
      rw [addM_le hi hj]
      exact ⟨hz, hx.2⟩
  · have hnn : z.none = true := by rw [hn]; rfl
    rw [boundZ_none hnn]
    exact ⟨rfl, .inr ⟨hn, fun X hX hx => hf X hX ((addM_le hi hj).1 hx).1⟩⟩
theorem addM_comm (A : Mat) (i j k l : Nat) (d e : Int) : addM (addM A i j d) k l e = addM (addM A k l e) i j d := by
  funext a b
  unfold addM upd
  by_cases h1 : a = i ∧ b = j <;> by_cases h2 : a = k ∧ b = l
  · obtain ⟨rfl, rfl⟩ := h1
    obtain ⟨rfl, rfl⟩ := h2
    simp only [and_self, if_true]; unfold mn; repeat' split <;> omega
  · rw [if_neg h2, if_pos h1, if_pos h1, if_neg (by omega)]
  · rw [if_pos h2, if_neg h1, if_pos h2, if_neg (by omega)]
  · rw [if_neg h2, if_neg h1, if_neg h1, if_neg h2]
theorem addM_idem (A : Mat) (i j : Nat) (d : Int) : addM (addM A i j d) i j d = addM A i j d := by
  funext a b
  unfold addM upd
  by_cases h1 : a = i ∧ b = j
  · rw [if_pos h1, if_pos h1]; simp only [and_self, if_true]; unfold mn; repeat' split <;> omega
  · rw [if_neg h1, if_neg h1]
/-! ### Forget, told whole -/
def anyM (D : Mat) (n row : Nat) : Mat := fun a b => if a ≤ n ∧ b ≤ n then (if a = row then (if b = row then 0 else 2147483647 + D 0 b) else if b = row then D a 0 + 2147483648 else D a b) else 0
theorem forget_eq {z : Zn} (h : OKZ z) (hn : z.none = false) {i : Nat} (hi : i < z.n) : forgetZ z (i : Int) = ⟨z.n, false, anyM z.D z.n (i + 1)⟩ := by
  rw [forgetZ_yes hn hi]
  have hs := h.sub hn
  have d0 := hs.diag 0 (by omega)
  have hp := clear_pre h hn (row := i + 1) (by omega)
  refine close_eq hp ⟨⟨fun a ha => ?_, fun a b c ha hb hc => ?_⟩, fun a b ha hb => ?_, fun X hX hx a b ha hb => ?_⟩ fun a b ho => ?_
  · have hA : a ≤ z.n := ha
    unfold anyM
    have := hs.diag a hA
    rw [if_pos ⟨hA, hA⟩]
    split
    · rfl
    · exact this
  · have hA : a ≤ z.n := ha
    have hB : b ≤ z.n := hb
    have hC : c ≤ z.n := hc
    unfold anyM
    rw [if_pos (show a ≤ z.n ∧ b ≤ z.n from ⟨hA, hB⟩), if_pos (show a ≤ z.n ∧ c ≤ z.n from ⟨hA, hC⟩), if_pos (show c ≤ z.n ∧ b ≤ z.n from ⟨hC, hB⟩)]
    have t1 := hs.tri a b c hA hB hC
    have t2 := hs.tri a b 0 hA hB (by omega)
    have t3 := hs.tri 0 b c (by omega) hB hC
    have t4 := hs.tri a 0 c hA (by omega) hC
    have t5 := hs.tri 0 0 c (by omega) (by omega) hC
    (repeat' split) <;> omega
  · have hA : a ≤ z.n := ha
    have hB : b ≤ z.n := hb
    show anyM z.D z.n (i + 1) a b ≤ ownA z.n (forgetM (i + 1) (z.n + 1) z.D) a b
    have g1 := h.bounds hn a 0 hA (by omega)
    have g2 := h.bounds hn 0 b (by omega) hB
    have g3 := h.own hn
    have g4 : ∀ a b, mn (z.D a 0) 2147483647 = z.D a 0 ∨ ¬ (1 ≤ a ∧ a ≤ z.n) := fun a b => by
      by_cases hc : 1 ≤ a ∧ a ≤ z.n
      · left; have := h.up hn a hc.1 hc.2; unfold mn; split <;> omega
      · exact .inr hc
    unfold anyM
    rw [if_pos ⟨hA, hB⟩]
    unfold ownA
    have f0 : far = 1099511627776 := rfl
    by_cases c1 : b = 0 ∧ 1 ≤ a ∧ a ≤ z.n
    · rw [if_pos c1]
      obtain ⟨rfl, c2, c3⟩ := c1
      have u := h.up hn a c2 c3
      rw [forgetM_at]
      by_cases ca : a = i + 1
      · subst ca; rw [if_pos rfl, if_neg (by omega), if_pos (by omega)]; unfold mn; split <;> omega
      · rw [if_neg ca, if_neg (by omega), if_neg (by omega)]; unfold mn; split <;> omega
    · rw [if_neg c1]
      by_cases c2 : a = 0 ∧ 1 ≤ b ∧ b ≤ z.n
      · rw [if_pos c2]
        obtain ⟨rfl, c3, c4⟩ := c2
        have u := h.down hn b c3 c4
        rw [forgetM_at]
        by_cases cb : b = i + 1
        · subst cb; rw [if_neg (by omega), if_pos rfl, if_pos (by omega)]; unfold mn; split <;> omega
        · rw [if_neg (by omega), if_neg cb, if_neg (by omega)]; unfold mn; split <;> omega
      · rw [if_neg c2, forgetM_at]
        have dg := hs.diag a hA
        by_cases ca : a = i + 1
        · by_cases cb : b = i + 1
          · subst ca; subst cb; rw [if_pos rfl, if_pos rfl, if_neg (by omega)]; omega
          · rw [if_pos ca, if_neg cb, if_pos (by omega)]; omega
        · by_cases cb : b = i + 1
          · rw [if_neg ca, if_pos cb, if_pos (by omega)]; omega
          · rw [if_neg ca, if_neg cb, if_neg (by omega)]; exact Int.le_refl _
  · have hA : a ≤ z.n := ha
    have hB : b ≤ z.n := hb
    have hx' : ∀ a b, a ≤ z.n → b ≤ z.n → X a b ≤ ownA z.n (forgetM (i + 1) (z.n + 1) z.D) a b := hx
    have key : ∀ a b, a ≤ z.n → b ≤ z.n → a ≠ i + 1 → b ≠ i + 1 → X a b ≤ z.D a b := fun a b ha hb h1 h2 => by
      refine Int.le_trans (hx' a b ha hb) (Int.le_trans (ownA_le _ _ _ _) ?_)
      rw [forgetM_at, if_neg (by omega)]; exact Int.le_refl _
    have k1 : X (i + 1) 0 ≤ 2147483647 := Int.le_trans (hx' (i + 1) 0 (by omega) (by omega)) (ownA_up _ (by omega) (by omega))
    have k2 : X 0 (i + 1) ≤ 2147483648 := Int.le_trans (hx' 0 (i + 1) (by omega) (by omega)) (ownA_down _ (by omega) (by omega))
    unfold anyM
    rw [if_pos ⟨hA, hB⟩]
    by_cases ca : a = i + 1
    · subst ca
      by_cases cb : b = i + 1
      · subst cb; rw [if_pos rfl, if_pos rfl]; exact Int.le_of_eq (hX.diag _ hA)
      · rw [if_pos rfl, if_neg cb]
        have := hX.tri (i + 1) b 0 hA hB (by omega)
        have := key 0 b (by omega) hB (by omega) cb
        omega
    · by_cases cb : b = i + 1
      · subst cb
        rw [if_neg ca, if_pos rfl]
        have := hX.tri a (i + 1) 0 hA hB (by omega)
        have := key a 0 hA (by omega) ca (by omega)
        omega
      · rw [if_neg ca, if_neg cb]; exact key a b hA hB ca cb
  · unfold anyM; rw [if_neg (show ¬ (a ≤ z.n ∧ b ≤ z.n) from ho)]
end Go.Proofs.Ytgnkhncogfppgaa
