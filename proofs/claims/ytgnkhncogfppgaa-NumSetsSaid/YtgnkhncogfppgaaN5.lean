import Derived.Test.YtgnkhncogfppgaaN4
import Derived.Test.YtgnkhncogfppgaaBF
namespace Go.Proofs.Ytgnkhncogfppgaa
open Go.RowKit
theorem bend_any (lo hi : Int) (w : World) : Calls Try.prog 36 #[.agg (ic lo hi)] w (Ret w (.agg (ic (wrap32 lo) (wrap32 hi)))) := by
  obtain ⟨p, hp⟩ : ∃ p, wrap32 lo = p := ⟨_, rfl⟩
  obtain ⟨q, hq⟩ : ∃ q, wrap32 hi = q := ⟨_, rfl⟩
  obtain ⟨p1, p2⟩ : -2147483648 ≤ p ∧ p ≤ 2147483647 := by rw [← hp]; exact wrap32_bd _
  obtain ⟨q1, q2⟩ : -2147483648 ≤ q ∧ q ≤ 2147483647 := by rw [← hq]; exact wrap32_bd _
  rw [hp, hq]
  go_enter Try.func36, Try.ntmps36
  go_wp2_with (first
    | (refine box_row rfl 53 _ rfl _ rfl ?_; intro W hz hb hs)
    | (refine alloc_row rfl 53 rfl _ iz8 ?_; intro W1 hz1 hb1 hs1; rw [hs.out] at hz1 hb1 hs1; have hz := hz.below hb1 (by omega); have c0 := hz.cell' 0 rfl; have c1 := hz.cell' 1 rfl; have hb := hb.trans (hb1.mono (by omega)); rw [hs.out]; clear hs hb1)
    | (refine wpList_build_val rfl 53 _ rfl #[(0, .int .i64 p), (1, .int .i64 q)] (by simp [Act.eval]) _ (build_8 _ _ _) ?_)
    | (refine store_8 rfl _ _ rfl rfl rfl hz1 ?_; intro W4 hz4 hg4 hs4)
    | fail)
  exact bodyPost_ret (results_8 rfl (by simp [Act.put]) hz4) rfl ⟨rfl, below_only hb hg4 hb.size (by omega)⟩
end Go.Proofs.Ytgnkhncogfppgaa
