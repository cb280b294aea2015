import Derived.Test.YtgnkhncogfppgaaW3
namespace Go.Proofs.Ytgnkhncogfppgaa
open Go.RowKit
theorem inone_any (w : World) : Calls Try.prog 32 #[] w (Ret w (.agg (ic 1 0))) := by
  go_enter Try.func32, Try.ntmps32
  go_wp2_with (first
    | (refine alloc_row rfl 32 rfl _ iz32 ?_; intro W1 hz1 hb hs1)
    | (refine wpList_build_val rfl 32 _ rfl #[(0, .int .i64 1), (1, .int .i64 0)] (by simp [Act.eval]) _ (build_i _ _ _) ?_)
    | (refine store_i rfl _ _ rfl rfl rfl hz1 ?_; intro W4 hz4 hg4 hs4)
    | fail)
  exact bodyPost_ret (results_i rfl (by simp [Act.put]) hz4) rfl ⟨rfl, below_only hb hg4 hb.size (by omega)⟩
theorem iall_any (w : World) : Calls Try.prog 45 #[] w (Ret w (.agg (ic (-2147483648) 2147483647))) := by
  go_enter Try.func45, Try.ntmps45
  go_wp2_with (first
    | (refine alloc_row rfl 32 rfl _ iz32 ?_; intro W1 hz1 hb hs1)
    | (refine wpList_build_val rfl 32 _ rfl #[(0, .int .i64 (-2147483648)), (1, .int .i64 2147483647)] (by simp [Act.eval]) _ (build_i _ _ _) ?_)
    | (refine store_i rfl _ _ rfl rfl rfl hz1 ?_; intro W4 hz4 hg4 hs4)
    | fail)
  exact bodyPost_ret (results_i rfl (by simp [Act.put]) hz4) rfl ⟨rfl, below_only hb hg4 hb.size (by omega)⟩
theorem empty_any (lo hi : Int) (w : World) : Calls Try.prog 40 #[.agg (ic lo hi)] w (Ret w (.bool (decide (hi < lo)))) := by
  go_enter Try.func40, Try.ntmps40
  go_wp2_with (first
    | (refine box_row rfl 32 _ rfl _ rfl ?_; intro W hz hb hs; have c0 := hz.cell' 0 rfl; have c1 := hz.cell' 1 rfl)
    | fail)
  go_ret
  exact ⟨rfl, hb⟩
/-- As it is told: the empty one is 1 to 0. -/
def nrm (lo hi : Int) : Int × Int := if hi < lo then (1, 0) else (lo, hi)
def ofP (lo hi : Int) : Int × Int := nrm (mx lo (-2147483648)) (mn hi 2147483647)
/-- An Itv as a value. -/
abbrev iv (p : Int × Int) : Value := .agg (ic p.1 p.2)
theorem norm_any (lo hi : Int) (w : World) : Calls Try.prog 91 #[.agg (ic lo hi)] w (Ret w (iv (nrm lo hi))) := by
  have he : ∀ W : World, Calls Try.prog 40 #[.agg (ic lo hi)] W (Ret W (.bool (decide (hi < lo)))) := fun W => empty_any lo hi W
  by_cases h : hi < lo
  · rw [show decide (hi < lo) = true by simpa using h] at he
    have HE := Lib.hid he
    have hfin : nrm lo hi = (1, 0) := by unfold nrm; rw [if_pos h]
    rw [hfin]
    clear he h hfin
    go_enter Try.func91, Try.ntmps91
    go_wp2_with (first
      | (refine box_row rfl 32 _ rfl _ rfl ?_; intro W hz hb hs)
      | (refine alloc_row rfl 32 rfl _ iz32 ?_; intro W1 hz1 hb1 hs1; rw [hs.out] at hz1 hb1 hs1; have hz := hz.below hb1 (by omega); have hb := hb.trans (hb1.mono (by omega)); rw [hs.out]; clear hs hb1)
      | (refine load_i rfl _ rfl rfl hz ?_)
      | (go_at_call 40; ((with_reducible refine (HE.out _).mono ?_); rintro e W2 ⟨rfl, hb2⟩; have hz := hz.on hb2; have hz1 := hz1.on hb2; have hb := hb.trans (hb2.mono hb.size); clear hb2))
      | (go_at_call 32; ((with_reducible refine (inone_any _).mono ?_); rintro e W2 ⟨rfl, hb2⟩; have hz := hz.on hb2; have hz1 := hz1.on hb2; have hb := hb.trans (hb2.mono hb.size); clear hb2))
      | (refine store_i rfl _ _ rfl rfl rfl hz1 ?_; intro W4 hz4 hg4 hs4)
      | fail)
    exact bodyPost_ret (results_i rfl (by simp [Act.put]) hz4) rfl ⟨rfl, below_only hb hg4 hb.size (by omega)⟩
  · rw [show decide (hi < lo) = false by simpa using h] at he
    have HE := Lib.hid he
    have hfin : nrm lo hi = (lo, hi) := by unfold nrm; rw [if_neg h]
    rw [hfin]
    clear he h hfin
    go_enter Try.func91, Try.ntmps91
    go_wp2_with (first
      | (refine box_row rfl 32 _ rfl _ rfl ?_; intro W hz hb hs)
      | (refine alloc_row rfl 32 rfl _ iz32 ?_; intro W1 hz1 hb1 hs1; rw [hs.out] at hz1 hb1 hs1; have hz := hz.below hb1 (by omega); have hb := hb.trans (hb1.mono (by omega)); rw [hs.out]; clear hs hb1)
      | (refine load_i rfl _ rfl rfl hz ?_)
      | (go_at_call 40; ((with_reducible refine (HE.out _).mono ?_); rintro e W2 ⟨rfl, hb2⟩; have hz := hz.on hb2; have hz1 := hz1.on hb2; have hb := hb.trans (hb2.mono hb.size); clear hb2))
      | (refine store_i rfl _ _ rfl rfl rfl hz1 ?_; intro W4 hz4 hg4 hs4)
      | fail)
    exact bodyPost_ret (results_i rfl (by simp [Act.put]) hz4) rfl ⟨rfl, below_only hb hg4 hb.size (by omega)⟩
theorem of_any (lo hi : Int) (w : World) : Calls Try.prog 49 #[.int .i64 lo, .int .i64 hi] w (Ret w (iv (ofP lo hi))) := by
  have he : ∀ W : World, Calls Try.prog 91 #[.agg (ic (mx lo (-2147483648)) (mn hi 2147483647))] W (Ret W (iv (ofP lo hi))) := fun W => norm_any _ _ W
  have HE := Lib.hid he
  clear he
  go_enter Try.func49, Try.ntmps49
  go_wp2_with (first
    | (refine alloc_row rfl 32 rfl _ iz32 ?_; intro W1 hz1 hb hs1)
    | (refine wpList_build_val rfl 32 _ rfl #[(0, .int .i64 (mx lo (-2147483648))), (1, .int .i64 (mn hi 2147483647))] (by simp [Act.eval]) _ (build_i _ _ _) ?_)
    | (go_at_call 91; ((with_reducible refine (HE.out _).mono ?_); rintro e W2 ⟨rfl, hb2⟩; have hz1 := hz1.on hb2; have hb := hb.trans (hb2.mono hb.size); clear hb2))
    | (refine store_i rfl _ _ rfl rfl rfl hz1 ?_; intro W4 hz4 hg4 hs4)
    | fail)
  exact bodyPost_ret (results_i rfl (by simp [Act.put]) hz4) rfl ⟨rfl, below_only hb hg4 hb.size (by omega)⟩
theorem const_any (n : Int) (w : World) : Calls Try.prog 26 #[.int .i64 n] w (Ret w (iv (ofP n n))) := by
  go_enter Try.func26, Try.ntmps26
  go_wp2_with (first
    | (refine alloc_row rfl 32 rfl _ iz32 ?_; intro W1 hz1 hb hs1)
    | (go_at_call 49; ((with_reducible refine (of_any _ _ _).mono ?_); rintro e W2 ⟨rfl, hb2⟩; have hz1 := hz1.on hb2; have hb := hb.trans (hb2.mono hb.size); clear hb2))
    | (refine store_i rfl _ _ rfl rfl rfl hz1 ?_; intro W4 hz4 hg4 hs4)
    | fail)
  exact bodyPost_ret (results_i rfl (by simp [Act.put]) hz4) rfl ⟨rfl, below_only hb hg4 hb.size (by omega)⟩
theorem ihas_any (lo hi n : Int) (w : World) : Calls Try.prog 73 #[.agg (ic lo hi), .int .i64 n] w (Ret w (.bool (decide (lo ≤ n ∧ n ≤ hi)))) := by
  by_cases h1 : lo ≤ n <;> by_cases h2 : n ≤ hi
  all_goals
    go_enter Try.func73, Try.ntmps73
    go_wp2_with (first
      | (refine box_row rfl 32 _ rfl _ rfl ?_; intro W hz hb hs; have c0 := hz.cell' 0 rfl; have c1 := hz.cell' 1 rfl)
      | fail)
    go_ret
    exact ⟨by simp [h1, h2], hb⟩
@[go_sem high] theorem eql_i (a b c d : Int) (w : World) : (binOp .eql 32 (.agg (ic a b)) (.agg (ic c d))).run Try.prog w = .ok (.bool (decide (a = c ∧ b = d))) w := by
  by_cases h1 : a = c <;> by_cases h2 : b = d <;> simp [go_sem, h1, h2, Try.underlying32, Try.stoodInHeld32]
end Go.Proofs.Ytgnkhncogfppgaa
