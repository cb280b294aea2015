import Derived.Test.YtgnkhncogfppgaaZ2
namespace Go.Proofs.Ytgnkhncogfppgaa
open Go.RowKit
set_option maxHeartbeats 400000 in
theorem copy_same (z : Zn) (hn : z.n ≤ 6) (x d : Int) (h1 : varB z x = true) (w : World) : Calls Try.prog 23 #[.agg z.c, .int .i64 x, .int .i64 x, .int .i64 d] w (Ret w (.agg (copyZ z x x d).c)) := by
  have h2 : orB z x = true := by simp [orB, varB] at h1 ⊢; exact ⟨h1.1, by omega, h1.2.2⟩
  have hx : ∀ (W : World), Calls Try.prog 79 #[.agg (zc z.n z.none z.D), .int .i64 x] W (Ret W (.bool true)) := fun W => h1 ▸ var_any z hn x W
  have hy : ∀ (W : World), Calls Try.prog 78 #[.agg (zc z.n z.none z.D), .int .i64 x] W (Ret W (.bool true)) := fun W => h2 ▸ or_any z hn x W
  have hfin : (copyZ z x x d).c = (movedZ z (x + 1).toNat (mn (mx d (-far)) far)).c := by unfold copyZ; rw [h1, h2]; simp
  have HF := Lib.hid hfin
  have HX := Lib.hid hx
  have HY := Lib.hid hy
  have hxx : 0 ≤ x ∧ x < z.n := by simp [varB] at h1; omega
  clear hfin hx hy h1 h2
  obtain ⟨i, rfl⟩ : ∃ i : Nat, x = (i : Int) := ⟨x.toNat, by omega⟩
  rw [show ((i : Int) + 1).toNat = i + 1 by omega] at HF
  have hi : i < z.n := by omega
  clear hxx
  have hcast : (i : Int) + 1 = ((i + 1 : Nat) : Int) := by omega
  have hm : ∀ (v : Int) (W : World), Calls Try.prog 80 #[.agg (zc z.n z.none z.D), .int .i64 ((i : Int) + 1), .int .i64 v] W (Ret W (.agg (movedZ z (i + 1) v).c)) := fun v W => by rw [hcast]; exact moved_any z hn (i + 1) (by omega) v W
  have HM := Lib.hid hm
  clear hm hcast
  go_enter Try.func23, Try.ntmps23
  go_wp2_with (first
    | (refine wpList_box_zone rfl 26 _ rfl _ _ _ rfl ?_; intro W hz hb hs; have hnc := hz.n_cell; have hbc := hz.b_cell) | (refine wpList_alloc_zone rfl 26 rfl zz ?_; intro W1 hz1 hb1 hs1; rw [hs.out] at hz1 hb1 hs1; have hz := hz.below hb1 (by omega); have hnc := hz.n_cell; have hbc := hz.b_cell; have hb := hb.trans (hb1.mono (by omega)); rw [hs.out]; clear hs hb1)
    | (refine load_z rfl _ rfl rfl hz ?_)
    | (go_at_call 79; ((with_reducible refine (HX.out _).mono ?_); rintro e W2 ⟨rfl, hb2⟩; have hz := hz.below hb2 hz.lt; have hz1 := hz1.below hb2 hz1.lt; have hnc := hz.n_cell; have hbc := hz.b_cell; have hb := hb.trans (hb2.mono hb.size); clear hb2))
    | (go_at_call 78; ((with_reducible refine (HY.out _).mono ?_); rintro e W2 ⟨rfl, hb2⟩; have hz := hz.below hb2 hz.lt; have hz1 := hz1.below hb2 hz1.lt; have hnc := hz.n_cell; have hbc := hz.b_cell; have hb := hb.trans (hb2.mono hb.size); clear hb2))
    | (go_at_call 80; ((with_reducible refine (HM.out _ _).mono ?_); rintro e W2 ⟨rfl, hb2⟩; have hz := hz.below hb2 hz.lt; have hz1 := hz1.below hb2 hz1.lt; have hnc := hz.n_cell; have hbc := hz.b_cell; have hb := hb.trans (hb2.mono hb.size); clear hb2))
    | (refine store_z rfl _ _ rfl rfl rfl hz1 ?_; intro W4 hz4 hg4 hs4)
    | fail)
  exact bodyPost_ret (results_z rfl (by simp [Act.put]) hz4) rfl ⟨by rw [HF.out]; rfl, below_only hb hg4 hb.size (by omega)⟩
set_option maxHeartbeats 1000000 in
theorem copy_link (z : Zn) (hn : z.n ≤ 6) (x y d : Int) (hxy : x ≠ y) (h1 : varB z x = true) (h2 : orB z y = true) (w : World) : Calls Try.prog 23 #[.agg z.c, .int .i64 x, .int .i64 y, .int .i64 d] w (Ret w (.agg (copyZ z x y d).c)) := by
  have hx : ∀ (W : World), Calls Try.prog 79 #[.agg (zc z.n z.none z.D), .int .i64 x] W (Ret W (.bool true)) := fun W => h1 ▸ var_any z hn x W
  have hy : ∀ (W : World), Calls Try.prog 78 #[.agg (zc z.n z.none z.D), .int .i64 y] W (Ret W (.bool true)) := fun W => h2 ▸ or_any z hn y W
  obtain ⟨v, hv⟩ : ∃ v, v = mn (mx d (-far)) far := ⟨_, rfl⟩
  have hfin : (copyZ z x y d).c = (linkZ (closeZ { z with D := forgetM (x + 1).toNat (z.n + 1) z.D }) x y v).c := by unfold copyZ; rw [h1, h2, hv]; simp [hxy]
  have HX := Lib.hid hx
  have HY := Lib.hid hy
  have HF := Lib.hid hfin
  have HV := Lib.hid hv
  have hxx : 0 ≤ x ∧ x < z.n := by simp [varB] at h1; omega
  have hyy : -1 ≤ y ∧ y < z.n := by simp [orB] at h2; omega
  clear hfin hx hy h1 h2 hv
  have heqb : (x == y) = false := by simpa using hxy
  obtain ⟨i, rfl⟩ : ∃ i : Nat, x = (i : Int) := ⟨x.toNat, by omega⟩
  obtain ⟨j, rfl⟩ : ∃ j : Nat, y = (j : Int) - 1 := ⟨(y + 1).toNat, by omega⟩
  rw [show ((i : Int) + 1).toNat = i + 1 by omega] at HF
  have hi : i < z.n := by omega
  have hj : j ≤ z.n := by omega
  have hij : i + 1 ≠ j := by omega
  clear hxx hyy hxy
  have hcast : (i : Int) + 1 = ((i + 1 : Nat) : Int) := by omega
  have hw : ∀ (W : World), ZAt 26 W w.heap.size z.n z.none z.D → Calls Try.prog 81 #[.pointer (some ⟨w.heap.size, 0, none⟩), .int .i64 ((i : Int) + 1)] W fun e w' => e = .returned (.tuple #[]) ∧ W.grownBy w' (some w.heap.size) ∧ ZAt 26 w' w.heap.size z.n z.none (forgetM (i + 1) (z.n + 1) z.D) := fun W h => by
    rw [hcast]; exact forgetp_any _ z.n hn z.none (i + 1) (by omega) z.D W h
  have HW := Lib.hid hw
  clear hw hcast
  have hc : ∀ (W : World), Calls Try.prog 77 #[.agg (zc z.n z.none (forgetM (i + 1) (z.n + 1) z.D))] W (Ret W (.agg (closeZ { z with D := forgetM (i + 1) (z.n + 1) z.D }).c)) := fun W => close_any { z with D := forgetM (i + 1) (z.n + 1) z.D } hn W
  obtain ⟨Z1, hZ1⟩ : ∃ Z1, Z1 = closeZ { z with D := forgetM (i + 1) (z.n + 1) z.D } := ⟨_, rfl⟩
  have hZn : Z1.n = z.n := by rw [hZ1, closeZ_n]
  rw [← hZ1] at HF hc
  have HC := Lib.hid hc
  have HN := Lib.hid hZn
  clear hc hZ1 hZn
  have hd : ∀ (W : World), Calls Try.prog 77 #[.agg (zc Z1.n Z1.none (upd (upd Z1.D (i + 1) j v) j (i + 1) (wrap64 (-v))))] W (Ret W (.agg (linkZ Z1 (i : Int) ((j : Int) - 1) v).c)) := fun W => by
    have h := close_any { Z1 with D := upd (upd Z1.D (i + 1) j v) j (i + 1) (wrap64 (-v)) } (by show Z1.n ≤ 6; rw [HN.out]; exact hn) W
    have e : linkZ Z1 (i : Int) ((j : Int) - 1) v = closeZ { Z1 with D := upd (upd Z1.D (i + 1) j v) j (i + 1) (wrap64 (-v)) } := by
      unfold linkZ; rw [show ((i : Int) + 1).toNat = i + 1 by omega, show ((j : Int) - 1 + 1).toNat = j by omega, wrap64_w64]
    rw [e]; exact h
  have HD := Lib.hid hd
  clear hd
  go_enter Try.func23, Try.ntmps23
  go_wp2_with (first
    | (refine wpList_box_zone rfl 26 _ rfl _ _ _ rfl ?_; intro W hz hb hs; have hnc := hz.n_cell; have hbc := hz.b_cell) | (refine wpList_alloc_zone rfl 26 rfl zz ?_; intro W1 hz1 hb1 hs1; rw [hs.out] at hz1 hb1 hs1; have hz := hz.below hb1 (by omega); have hnc := hz.n_cell; have hbc := hz.b_cell; have hb := hb.trans (hb1.mono (by omega)); rw [hs.out]; clear hs hb1)
    | (refine load_z rfl _ rfl rfl hz ?_)
    | (go_at_call 79; ((with_reducible refine (HX.out _).mono ?_); rintro e W2 ⟨rfl, hb2⟩; have hz := hz.below hb2 hz.lt; have hz1 := hz1.below hb2 hz1.lt; have hnc := hz.n_cell; have hbc := hz.b_cell; have hb := hb.trans (hb2.mono hb.size); clear hb2))
    | (go_at_call 78; ((with_reducible refine (HY.out _).mono ?_); rintro e W2 ⟨rfl, hb2⟩; have hz := hz.below hb2 hz.lt; have hz1 := hz1.below hb2 hz1.lt; have hnc := hz.n_cell; have hbc := hz.b_cell; have hb := hb.trans (hb2.mono hb.size); clear hb2))
    | (go_at_call 81; ((with_reducible refine (HW.out _ hz).mono ?_); rintro e W3 ⟨rfl, hg3, hz3⟩; have hz := hz3; have hz1 := hz1.only hg3 (by omega); have hb := below_only hb hg3 hb.size (Nat.le_refl _)))
    | (go_at_call 77; ((with_reducible refine (HC.out _).mono ?_); rintro e W2 ⟨rfl, hb2⟩; have hz := hz.below hb2 hz.lt; have hz1 := hz1.below hb2 hz1.lt; have hnc := hz.n_cell; have hbc := hz.b_cell; have hb := hb.trans (hb2.mono hb.size); clear hb2))
    | (refine store_z rfl _ _ rfl rfl rfl hz ?_; intro W4 hz4 hg4 hs4; have hz := hz4; have hz1 := hz1.only hg4 (by omega); have hb := below_only hb hg4 hb.size (Nat.le_refl _))
    | fail)
  rw [← HV.out]
  have f1 := hz.frozen (2 + (i + 1) * 7 + j)
  have f2 := hz.frozen (2 + j * 7 + (i + 1))
  have c1 := hz.cell (i + 1) j (by omega) (by omega)
  have c0 := hz.cell j (i + 1) (by omega) (by omega)
  have g1 := hz.set (i + 1) j v (by omega) (by omega)
  have c2 := g1.cell j (i + 1) (by omega) (by omega)
  rw [upd_ne _ _ _ _ (by omega)] at c2
  have s1 := Lib.hid (g1.set j (i + 1) (wrap64 (-v)) (by omega) (by omega)).drew
  have s2 := Lib.hid ((hz1.set_other (a := ⟨w.heap.size, 2 + (i + 1) * 7 + j, none⟩) (by simp) (.int .i64 v)).set_other (a := ⟨w.heap.size, 2 + j * 7 + (i + 1), none⟩) (by simp) (.int .i64 (wrap64 (-v)))).drew
  have s3 := Lib.hid (((hb.setCell (p := ⟨w.heap.size, 2 + (i + 1) * 7 + j, none⟩) (Nat.le_refl _) (.int .i64 v)).setCell (p := ⟨w.heap.size, 2 + j * 7 + (i + 1), none⟩) (Nat.le_refl _) (.int .i64 (wrap64 (-v)))).drew)
  clear g1 hz1 hb HC HX HY HW hz4
  simp only [Act.put]
  go_region
  generalize ((W4.setCell { block := w.heap.size, off := 2 + (i + 1) * 7 + j } (Value.int IntKind.i64 v)).setCell { block := w.heap.size, off := 2 + j * 7 + (i + 1) } (Value.int IntKind.i64 (wrap64 (-v)))).drew = w3 at *
  have hz := s1.out
  have hz1 := s2.out
  have hb := s3.out
  have hnc := hz.n_cell
  have hbc := hz.b_cell
  clear f1 f2 c1 c0 c2 s1 s2 s3
  go_wp2_with (first
    | (refine load_z rfl _ rfl rfl hz ?_)
    | (go_at_call 77; ((with_reducible refine (HD.out _).mono ?_); rintro e W2 ⟨rfl, hb2⟩; have hz := hz.below hb2 hz.lt; have hz1 := hz1.below hb2 hz1.lt; have hnc := hz.n_cell; have hbc := hz.b_cell; have hb := hb.trans (hb2.mono hb.size); clear hb2))
    | (refine store_z rfl _ _ rfl rfl rfl hz1 ?_; intro W4 hz4 hg4 hs4)
    | fail)
  exact bodyPost_ret (results_z rfl (by simp [Act.put]) hz4) rfl ⟨by rw [HF.out]; rfl, below_only hb hg4 hb.size (by omega)⟩
set_option maxHeartbeats 400000 in
theorem copy_not (z : Zn) (hn : z.n ≤ 6) (x y d : Int) (h : ¬ (varB z x && orB z y) = true) (w : World) : Calls Try.prog 23 #[.agg z.c, .int .i64 x, .int .i64 y, .int .i64 d] w (Ret w (.agg (copyZ z x y d).c)) := by
  have hx : ∀ (W : World), Calls Try.prog 79 #[.agg (zc z.n z.none z.D), .int .i64 x] W (Ret W (.bool (varB z x))) := fun W => var_any z hn x W
  have hy : ∀ (W : World), Calls Try.prog 78 #[.agg (zc z.n z.none z.D), .int .i64 y] W (Ret W (.bool (orB z y))) := fun W => or_any z hn y W
  have hfin : (copyZ z x y d).c = z.c := by unfold copyZ; rw [if_neg h]
  rw [hfin]
  clear hfin
  by_cases h1 : varB z x = true
  · have h2 : orB z y = false := by simpa [h1] using h
    rw [h1] at hx
    rw [h2] at hy
    have HX := Lib.hid hx
    have HY := Lib.hid hy
    clear hx hy h h1 h2
    go_enter Try.func23, Try.ntmps23
    go_wp2_with (first
      | (refine wpList_box_zone rfl 26 _ rfl _ _ _ rfl ?_; intro W hz hb hs; have hnc := hz.n_cell; have hbc := hz.b_cell) | (refine wpList_alloc_zone rfl 26 rfl zz ?_; intro W1 hz1 hb1 hs1; rw [hs.out] at hz1 hb1 hs1; have hz := hz.below hb1 (by omega); have hnc := hz.n_cell; have hbc := hz.b_cell; have hb := hb.trans (hb1.mono (by omega)); rw [hs.out]; clear hs hb1)
      | (refine load_z rfl _ rfl rfl hz ?_)
      | (go_at_call 79; ((with_reducible refine (HX.out _).mono ?_); rintro e W2 ⟨rfl, hb2⟩; have hz := hz.below hb2 hz.lt; have hz1 := hz1.below hb2 hz1.lt; have hnc := hz.n_cell; have hbc := hz.b_cell; have hb := hb.trans (hb2.mono hb.size); clear hb2))
      | (go_at_call 78; ((with_reducible refine (HY.out _).mono ?_); rintro e W2 ⟨rfl, hb2⟩; have hz := hz.below hb2 hz.lt; have hz1 := hz1.below hb2 hz1.lt; have hnc := hz.n_cell; have hbc := hz.b_cell; have hb := hb.trans (hb2.mono hb.size); clear hb2))
      | (refine store_z rfl _ _ rfl rfl rfl hz1 ?_; intro W4 hz4 hg4 hs4)
      | fail)
    exact bodyPost_ret (results_z rfl (by simp [Act.put]) hz4) rfl ⟨rfl, below_only hb hg4 hb.size (by omega)⟩
  · rw [show varB z x = false by simpa using h1] at hx
    have HX := Lib.hid hx
    clear hx h h1 hy
    go_enter Try.func23, Try.ntmps23
    go_wp2_with (first
      | (refine wpList_box_zone rfl 26 _ rfl _ _ _ rfl ?_; intro W hz hb hs; have hnc := hz.n_cell; have hbc := hz.b_cell) | (refine wpList_alloc_zone rfl 26 rfl zz ?_; intro W1 hz1 hb1 hs1; rw [hs.out] at hz1 hb1 hs1; have hz := hz.below hb1 (by omega); have hnc := hz.n_cell; have hbc := hz.b_cell; have hb := hb.trans (hb1.mono (by omega)); rw [hs.out]; clear hs hb1)
      | (refine load_z rfl _ rfl rfl hz ?_)
      | (go_at_call 79; ((with_reducible refine (HX.out _).mono ?_); rintro e W2 ⟨rfl, hb2⟩; have hz := hz.below hb2 hz.lt; have hz1 := hz1.below hb2 hz1.lt; have hnc := hz.n_cell; have hbc := hz.b_cell; have hb := hb.trans (hb2.mono hb.size); clear hb2))
      | (refine store_z rfl _ _ rfl rfl rfl hz1 ?_; intro W4 hz4 hg4 hs4)
      | fail)
    exact bodyPost_ret (results_z rfl (by simp [Act.put]) hz4) rfl ⟨rfl, below_only hb hg4 hb.size (by omega)⟩
theorem copy_any (z : Zn) (hn : z.n ≤ 6) (x y d : Int) (w : World) : Calls Try.prog 23 #[.agg z.c, .int .i64 x, .int .i64 y, .int .i64 d] w (Ret w (.agg (copyZ z x y d).c)) := by
  by_cases h : (varB z x && orB z y) = true
  · have h' := h
    simp only [Bool.and_eq_true] at h'
    by_cases hxy : x = y
    · subst hxy; exact copy_same z hn x d h'.1 w
    · exact copy_link z hn x y d hxy h'.1 h'.2 w
  · exact copy_not z hn x y d h w
end Go.Proofs.Ytgnkhncogfppgaa
