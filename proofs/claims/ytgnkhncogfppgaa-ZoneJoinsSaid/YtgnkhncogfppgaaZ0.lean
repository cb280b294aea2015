import Derived.Test.YtgnkhncogfppgaaC2
import Derived.Test.YtgnkhncogfppgaaW3
namespace Go.Proofs.Ytgnkhncogfppgaa
open Go.RowKit
def Zn.c (z : Zn) : Array Value := zc z.n z.none z.D
theorem close_none (n : Nat) (D : Mat) (w : World) : Calls Try.prog 77 #[.agg (zc n true D)] w (Ret w (.agg (zc n true D))) := by
  go_enter Try.func77, Try.ntmps77
  go_wp2_with (first
    | (refine wpList_box_zone rfl 26 _ rfl _ _ _ rfl ?_; intro W hz hb hs; have hnc := hz.n_cell; have hbc := hz.b_cell)
    | (refine wpList_alloc_zone rfl 26 rfl zz ?_; intro W1 hz1 hb1 hs1; rw [hs.out] at hz1 hb1 hs1; have hz := hz.below hb1 (by omega); have hnc := hz.n_cell; have hbc := hz.b_cell; have hb := hb.trans (hb1.mono (by omega)); rw [hs.out]; clear hs)
    | (refine load_z rfl _ rfl rfl hz ?_)
    | (refine store_z rfl _ _ rfl rfl rfl hz1 ?_; intro W4 hz4 hg4 hs4))
  exact bodyPost_ret (results_z rfl (by simp [Act.put]) hz4) rfl ⟨rfl, below_only hb hg4 hb.size (by omega)⟩
theorem close_any (z : Zn) (hn : z.n ≤ 6) (w : World) : Calls Try.prog 77 #[.agg z.c] w (Ret w (.agg (closeZ z).c)) := by
  obtain ⟨n, b, D⟩ := z
  cases b
  · refine (close_yes n hn D w).mono fun e w' ⟨he, hb⟩ => ⟨he.trans ?_, hb⟩
    congr 2
    simp only [closeC, closeZ, Zn.c, Bool.false_eq_true, if_false]
    split <;> rfl
  · exact (close_none n D w).mono fun e w' ⟨he, hb⟩ => ⟨he, hb⟩
set_option maxHeartbeats 400000 in
theorem var_any (z : Zn) (hn : z.n ≤ 6) (x : Int) (w : World) : Calls Try.prog 79 #[.agg z.c, .int .i64 x] w (Ret w (.bool (varB z x))) := by
  obtain ⟨n, b, D⟩ := z
  have hfin : ∀ v, v = varB ⟨n, b, D⟩ x → Value.bool v = .bool (varB ⟨n, b, D⟩ x) := fun v h => by rw [h]
  cases b <;> by_cases h0 : 0 ≤ x <;> by_cases h1 : x < n
  all_goals try (exfalso; omega)
  all_goals
    go_enter Try.func79, Try.ntmps79
    go_wp2_with (first
      | (refine wpList_box_zone rfl 26 _ rfl _ _ _ rfl ?_; intro W hz hb hs; have hnc := hz.n_cell; have hbc := hz.b_cell)
      | (go_at_call 85; refine (count_yes n hn _).mono ?_; rintro e w' ⟨rfl, rfl⟩))
    go_ret
    exact ⟨by simp [varB, h0, h1], hb⟩
set_option maxHeartbeats 400000 in
theorem or_any (z : Zn) (hn : z.n ≤ 6) (x : Int) (w : World) : Calls Try.prog 78 #[.agg z.c, .int .i64 x] w (Ret w (.bool (orB z x))) := by
  have hv : ∀ (W : World), Calls Try.prog 79 #[.agg (zc z.n z.none z.D), .int .i64 x] W (Ret W (.bool (varB z x))) := fun W => var_any z hn x W
  have HV := Lib.hid hv
  clear hv
  obtain ⟨n, b, D⟩ := z
  have e1 : ¬ x = -1 → orB ⟨n, b, D⟩ x = varB ⟨n, b, D⟩ x := fun h => by
    simp only [orB, varB]; congr 1; simp only [decide_eq_decide]; omega
  by_cases hx : x = -1
  · subst hx
    cases b
    all_goals
      go_enter Try.func78, Try.ntmps78
      go_wp2_with (first
        | (refine wpList_box_zone rfl 26 _ rfl _ _ _ rfl ?_; intro W hz hb hs; have hnc := hz.n_cell; have hbc := hz.b_cell)
        | (refine load_z rfl _ rfl rfl hz ?_)
        | (go_at_call 85; refine (count_yes n hn _).mono ?_; rintro e w' ⟨rfl, rfl⟩)
        | (go_at_call 79; refine (HV.out _).mono ?_; rintro e w' ⟨rfl, hb2⟩))
      go_ret
    · exact ⟨by simp [orB]; omega, hb⟩
    · exact ⟨by simp [orB, varB], hb.trans (hb2.mono hb.size)⟩
  · have hxb : (x == -1) = false := by simpa using hx
    rw [e1 hx]
    clear e1
    cases b
    all_goals
      go_enter Try.func78, Try.ntmps78
      go_wp2_with (first
        | (refine wpList_box_zone rfl 26 _ rfl _ _ _ rfl ?_; intro W hz hb hs; have hnc := hz.n_cell; have hbc := hz.b_cell)
        | (refine load_z rfl _ rfl rfl hz ?_)
        | (go_at_call 85; refine (count_yes n hn _).mono ?_; rintro e w' ⟨rfl, rfl⟩)
        | (go_at_call 79; refine (HV.out _).mono ?_; rintro e w' ⟨rfl, hb2⟩))
      go_ret
      exact ⟨rfl, hb.trans (hb2.mono hb.size)⟩
end Go.Proofs.Ytgnkhncogfppgaa
