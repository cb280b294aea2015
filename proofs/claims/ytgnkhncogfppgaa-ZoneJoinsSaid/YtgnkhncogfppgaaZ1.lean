import Derived.Test.YtgnkhncogfppgaaZ0
namespace Go.Proofs.Ytgnkhncogfppgaa
open Go.RowKit
set_option maxHeartbeats 400000 in
theorem bound_any (z : Zn) (hn : z.n ≤ 6) (x y d : Int) (w : World) : Calls Try.prog 22 #[.agg z.c, .int .i64 x, .int .i64 y, .int .i64 d] w (Ret w (.agg (boundZ z x y d).c)) := by
  have hx : ∀ (W : World), Calls Try.prog 78 #[.agg (zc z.n z.none z.D), .int .i64 x] W (Ret W (.bool (orB z x))) := fun W => or_any z hn x W
  have hy : ∀ (W : World), Calls Try.prog 78 #[.agg (zc z.n z.none z.D), .int .i64 y] W (Ret W (.bool (orB z y))) := fun W => or_any z hn y W
  by_cases h1 : orB z x = true
  · by_cases h2 : orB z y = true
    · have hfin : (boundZ z x y d).c = (closeZ { z with D := upd z.D (x + 1).toNat (y + 1).toNat (mn (z.D (x + 1).toNat (y + 1).toNat) (mx d (-far))) }).c := by
        unfold boundZ; rw [h1, h2]; rfl
      have HF := Lib.hid hfin
      clear hfin
      rw [h1] at hx
      rw [h2] at hy
      have HX := Lib.hid hx
      have HY := Lib.hid hy
      clear hx hy
      have hxx : -1 ≤ x ∧ x < z.n := by simp [orB] at h1; omega
      have hyy : -1 ≤ y ∧ y < z.n := by simp [orB] at h2; omega
      clear h1 h2
      obtain ⟨i, rfl⟩ : ∃ i : Nat, x = (i : Int) - 1 := ⟨(x + 1).toNat, by omega⟩
      obtain ⟨j, rfl⟩ : ∃ j : Nat, y = (j : Int) - 1 := ⟨(y + 1).toNat, by omega⟩
      simp only [Int.sub_add_cancel, Int.toNat_natCast] at HF
      have hi : i ≤ z.n := by omega
      have hj : j ≤ z.n := by omega
      clear hxx hyy
      have hc : ∀ (v : Int) (W : World), Calls Try.prog 77 #[.agg (zc z.n z.none (upd z.D i j v))] W (Ret W (.agg (closeZ { z with D := upd z.D i j v }).c)) := fun v W => close_any { z with D := upd z.D i j v } hn W
      have HC := Lib.hid hc
      clear hc
      go_enter Try.func22, Try.ntmps22
      go_wp2_with (first
        | (refine wpList_box_zone rfl 26 _ rfl _ _ _ rfl ?_; intro W hz hb hs; have hnc := hz.n_cell; have hbc := hz.b_cell) | (refine wpList_alloc_zone rfl 26 rfl zz ?_; intro W1 hz1 hb1 hs1; rw [hs.out] at hz1 hb1 hs1; have hz := hz.below hb1 (by omega); have hnc := hz.n_cell; have hbc := hz.b_cell; have hb := hb.trans (hb1.mono (by omega)); rw [hs.out]; clear hs hb1)
        | (refine load_z rfl _ rfl rfl hz ?_)
        | (go_at_call 78; ((with_reducible refine (HX.out _).mono ?_); rintro e W2 ⟨rfl, hb2⟩; have hz := hz.below hb2 hz.lt; have hz1 := hz1.below hb2 hz1.lt; have hnc := hz.n_cell; have hbc := hz.b_cell; have hb := hb.trans (hb2.mono hb.size); clear hb2))
        | (go_at_call 78; ((with_reducible refine (HY.out _).mono ?_); rintro e W2 ⟨rfl, hb2⟩; have hz := hz.below hb2 hz.lt; have hz1 := hz1.below hb2 hz1.lt; have hnc := hz.n_cell; have hbc := hz.b_cell; have hb := hb.trans (hb2.mono hb.size); clear hb2))
        | fail)
      obtain ⟨v, hv⟩ : ∃ v, v = mn (z.D i j) (mx d (-far)) := ⟨_, rfl⟩
      have c1 := hz.cell i j (by omega) (by omega)
      have f1 := hz.frozen (2 + i * 7 + j)
      have s1 := Lib.hid (hz.set i j v (by omega) (by omega)).drew
      have s2 := Lib.hid (hz1.set_other (a := ⟨w.heap.size, 2 + i * 7 + j, none⟩) (by simp) (.int .i64 v)).drew
      have s3 := Lib.hid ((hb.setCell (p := ⟨w.heap.size, 2 + i * 7 + j, none⟩) (Nat.le_refl _) (.int .i64 v)).drew)
      have HV := Lib.hid hv
      clear hv hz1 hb
      go_region
      rw [← HV.out]
      generalize (W2.setCell { block := w.heap.size, off := 2 + i * 7 + j } (Value.int IntKind.i64 v)).drew = w3 at *
      have hz := s1.out
      have hz1 := s2.out
      have hb := s3.out
      clear c1 f1 s1 s2 s3
      go_wp2_with (first
        | (refine load_z rfl _ rfl rfl hz ?_)
        | (go_at_call 77; ((with_reducible refine (HC.out _ _).mono ?_); rintro e W2 ⟨rfl, hb2⟩; have hz := hz.below hb2 hz.lt; have hz1 := hz1.below hb2 hz1.lt; have hnc := hz.n_cell; have hbc := hz.b_cell; have hb := hb.trans (hb2.mono hb.size); clear hb2))
        | (refine store_z rfl _ _ rfl rfl rfl hz1 ?_; intro W4 hz4 hg4 hs4)
        | fail)
      exact bodyPost_ret (results_z rfl (by simp [Act.put]) hz4) rfl ⟨by rw [HF.out, HV.out]; rfl, below_only hb hg4 hb.size (by omega)⟩
    · have hfin : (boundZ z x y d).c = z.c := by unfold boundZ; rw [if_neg (by simp [h2])]
      rw [hfin]
      clear hfin
      rw [h1] at hx
      rw [show orB z y = false by simpa using h2] at hy
      have HX := Lib.hid hx
      have HY := Lib.hid hy
      clear hx hy h1 h2
      go_enter Try.func22, Try.ntmps22
      go_wp2_with (first
        | (refine wpList_box_zone rfl 26 _ rfl _ _ _ rfl ?_; intro W hz hb hs; have hnc := hz.n_cell; have hbc := hz.b_cell) | (refine wpList_alloc_zone rfl 26 rfl zz ?_; intro W1 hz1 hb1 hs1; rw [hs.out] at hz1 hb1 hs1; have hz := hz.below hb1 (by omega); have hnc := hz.n_cell; have hbc := hz.b_cell; have hb := hb.trans (hb1.mono (by omega)); rw [hs.out]; clear hs hb1)
        | (refine load_z rfl _ rfl rfl hz ?_)
        | (go_at_call 78; ((with_reducible refine (HX.out _).mono ?_); rintro e W2 ⟨rfl, hb2⟩; have hz := hz.below hb2 hz.lt; have hz1 := hz1.below hb2 hz1.lt; have hnc := hz.n_cell; have hbc := hz.b_cell; have hb := hb.trans (hb2.mono hb.size); clear hb2))
        | (go_at_call 78; ((with_reducible refine (HY.out _).mono ?_); rintro e W2 ⟨rfl, hb2⟩; have hz := hz.below hb2 hz.lt; have hz1 := hz1.below hb2 hz1.lt; have hnc := hz.n_cell; have hbc := hz.b_cell; have hb := hb.trans (hb2.mono hb.size); clear hb2))
        | (refine store_z rfl _ _ rfl rfl rfl hz1 ?_; intro W4 hz4 hg4 hs4)
        | fail)
      exact bodyPost_ret (results_z rfl (by simp [Act.put]) hz4) rfl ⟨rfl, below_only hb hg4 hb.size (by omega)⟩
  · have hfin : (boundZ z x y d).c = z.c := by unfold boundZ; rw [if_neg (by simp [h1])]
    rw [hfin]
    clear hfin
    rw [show orB z x = false by simpa using h1] at hx
    have HX := Lib.hid hx
    clear hx h1 hy
    go_enter Try.func22, Try.ntmps22
    go_wp2_with (first
      | (refine wpList_box_zone rfl 26 _ rfl _ _ _ rfl ?_; intro W hz hb hs; have hnc := hz.n_cell; have hbc := hz.b_cell) | (refine wpList_alloc_zone rfl 26 rfl zz ?_; intro W1 hz1 hb1 hs1; rw [hs.out] at hz1 hb1 hs1; have hz := hz.below hb1 (by omega); have hnc := hz.n_cell; have hbc := hz.b_cell; have hb := hb.trans (hb1.mono (by omega)); rw [hs.out]; clear hs hb1)
      | (refine load_z rfl _ rfl rfl hz ?_)
      | (go_at_call 78; ((with_reducible refine (HX.out _).mono ?_); rintro e W2 ⟨rfl, hb2⟩; have hz := hz.below hb2 hz.lt; have hz1 := hz1.below hb2 hz1.lt; have hnc := hz.n_cell; have hbc := hz.b_cell; have hb := hb.trans (hb2.mono hb.size); clear hb2))
      | (refine store_z rfl _ _ rfl rfl rfl hz1 ?_; intro W4 hz4 hg4 hs4)
      | fail)
    exact bodyPost_ret (results_z rfl (by simp [Act.put]) hz4) rfl ⟨rfl, below_only hb hg4 hb.size (by omega)⟩
end Go.Proofs.Ytgnkhncogfppgaa
