import Derived.Test.YtgnkhncogfppgaaZ4
import Derived.Test.YtgnkhncogfppgaaI0
namespace Go.Proofs.Ytgnkhncogfppgaa
open Go.RowKit
def itvZ (z : Zn) (x : Int) : Int × Int := if varB z x then ofP (w64 (-(z.D 0 (x + 1).toNat))) (z.D (x + 1).toNat 0) else (1, 0)
set_option maxRecDepth 100000 in
set_option maxHeartbeats 400000 in
theorem zitv_any (z : Zn) (hn : z.n ≤ 6) (x : Int) (w : World) : Calls Try.prog 25 #[.agg z.c, .int .i64 x] w (Ret w (iv (itvZ z x))) := by
  have hx : ∀ (W : World), Calls Try.prog 79 #[.agg (zc z.n z.none z.D), .int .i64 x] W (Ret W (.bool (varB z x))) := fun W => var_any z hn x W
  by_cases h1 : varB z x = true
  · have hfin : itvZ z x = ofP (w64 (-(z.D 0 (x + 1).toNat))) (z.D (x + 1).toNat 0) := by unfold itvZ; rw [h1]; rfl
    have HF := Lib.hid hfin
    clear hfin
    rw [h1] at hx
    have HX := Lib.hid hx
    clear hx
    have hxx : 0 ≤ x ∧ x < z.n := by simp [varB] at h1; omega
    clear h1
    obtain ⟨i, rfl⟩ : ∃ i : Nat, x = (i : Int) := ⟨x.toNat, by omega⟩
    rw [show ((i : Int) + 1).toNat = i + 1 by omega] at HF
    have hi : i < z.n := by omega
    clear hxx
    go_enter Try.func25, Try.ntmps25
    go_wp2_with (first
      | (refine wpList_box_zone rfl 26 _ rfl _ _ _ rfl ?_; intro W hz hb hs; have hnc := hz.n_cell; have hbc := hz.b_cell)
      | (refine alloc_row rfl 32 rfl _ iz32 ?_; intro W1 hz1 hb1 hs1; rw [hs.out] at hz1 hb1 hs1; have hz := hz.below hb1 (by omega); have hb := hb.trans (hb1.mono (by omega)); rw [hs.out]; clear hs hb1)
      | (refine load_z rfl _ rfl rfl hz ?_)
      | (go_at_call 79; ((with_reducible refine (HX.out _).mono ?_); rintro e W2 ⟨rfl, hb2⟩; have hz := hz.on hb2; have hz1 := hz1.on hb2; have hb := hb.trans (hb2.mono hb.size); clear hb2))
      | fail)
    have c1 := hz.cell 0 (i + 1) (by omega) (by omega)
    have c2 := hz.cell (i + 1) 0 (by omega) (by omega)
    simp only [Nat.zero_mul, Nat.add_zero] at c1 c2
    have e1 : IntKind.i64.wrap ((i : Int) + 1) = (i : Int) + 1 := IntWalk.i64_in _ (by omega)
    have e2 : (0 : Int) ≤ (i : Int) + 1 := by omega
    have e3 : (i : Int) + 1 < 7 := by omega
    have e4 : ((i : Int) + 1).toNat = i + 1 := by omega
    go_still_tail 13, (by kernel_rfl)
    change wpList _ _ _ _ _ W2.drew
    rw [IntWalk.i64_left]
    have hz1 := hz1.drew
    have hb := hb.drew
    have ho : ∀ W : World, Calls Try.prog 49 #[.int .i64 (wrap64 (-z.D 0 (i + 1))), .int .i64 (z.D (i + 1) 0)] W (Ret W (iv (itvZ z i))) := fun W => by
      rw [HF.out, ← wrap64_w64]; exact of_any _ _ W
    have HO := Lib.hid ho
    clear ho e1 e2 e3 e4 c1 c2 hz
    generalize W2.drew = w2 at *
    go_wp2_with (first
      | (go_at_call 49; ((with_reducible refine (HO.out _).mono ?_); rintro e W3 ⟨rfl, hb2⟩; have hz1 := hz1.on hb2; have hb := hb.trans (hb2.mono hb.size); clear hb2))
      | (refine store_i rfl _ _ rfl rfl rfl hz1 ?_; intro W4 hz4 hg4 hs4)
      | fail)
    exact bodyPost_ret (results_i rfl (by simp [Act.put]) hz4) rfl ⟨rfl, below_only hb hg4 hb.size (by omega)⟩
  · have hfin : itvZ z x = (1, 0) := by unfold itvZ; rw [if_neg h1]
    rw [hfin]
    clear hfin
    rw [show varB z x = false by simpa using h1] at hx
    have HX := Lib.hid hx
    clear hx h1
    go_enter Try.func25, Try.ntmps25
    go_wp2_with (first
      | (refine wpList_box_zone rfl 26 _ rfl _ _ _ rfl ?_; intro W hz hb hs; have hnc := hz.n_cell; have hbc := hz.b_cell)
      | (refine alloc_row rfl 32 rfl _ iz32 ?_; intro W1 hz1 hb1 hs1; rw [hs.out] at hz1 hb1 hs1; have hz := hz.below hb1 (by omega); have hb := hb.trans (hb1.mono (by omega)); rw [hs.out]; clear hs hb1)
      | (refine load_z rfl _ rfl rfl hz ?_)
      | (go_at_call 79; ((with_reducible refine (HX.out _).mono ?_); rintro e W2 ⟨rfl, hb2⟩; have hz := hz.on hb2; have hz1 := hz1.on hb2; have hb := hb.trans (hb2.mono hb.size); clear hb2))
      | (go_at_call 32; ((with_reducible refine (inone_any _).mono ?_); rintro e W2 ⟨rfl, hb2⟩; have hz := hz.on hb2; have hz1 := hz1.on hb2; have hb := hb.trans (hb2.mono hb.size); clear hb2))
      | (refine store_i rfl _ _ rfl rfl rfl hz1 ?_; intro W4 hz4 hg4 hs4)
      | fail)
    exact bodyPost_ret (results_i rfl (by simp [Act.put]) hz4) rfl ⟨rfl, below_only hb hg4 hb.size (by omega)⟩
end Go.Proofs.Ytgnkhncogfppgaa
