import Derived.Test.YtgnkhncogfppgaaU3
import Derived.Test.YtgnkhncogfppgaaN2
namespace Go.Proofs.Ytgnkhncogfppgaa
open Go.RowKit
set_option maxRecDepth 100000 in
set_option maxHeartbeats 1000000 in
theorem num_zeros (n : Nat) (hn : n ≤ 6) (w : World) : Calls Try.prog 38 #[.int .i64 (n : Int)] w (NRet w (zerosZ n)) := by
  have HC : Hid (∀ W : World, Calls Try.prog 28 #[.int .i64 (n : Int)] W (Ret W (.agg (zerosZ n).c))) := fun W => zeros_any n hn W
  have HO : Hid (∀ W : World, Calls Try.prog 87 #[.agg (zerosZ n).c] W (NRet W (zerosZ n))) := fun W => of_zone _ (by show n ≤ 6; exact hn) W
  generalize zerosZ n = z2 at *
  go_enter Try.func38, Try.ntmps38
  go_wp2_with (first
    | (refine alloc_n rfl rfl ?_; intro W3 hr hb hs3)
    | (go_at_call 28; ((with_reducible refine (HC.out _).mono ?_); rintro e W4 ⟨rfl, hb4⟩; have hr := hr.on hb4;  have hb := hb.trans (hb4.mono hb.size); clear hb4))
    | (go_at_call 87; ((with_reducible refine (HO.out _).mono ?_); rintro e W5 ⟨_, rfl, ⟨sl2, rfl, ho⟩, hb5⟩; have ho := ho.mono hb.size; have hr := hr.on hb5; have hb := hb.trans (hb5.mono hb.size); clear hb5))
    | (refine store_n rfl _ _ rfl rfl rfl ho.one hr ?_; intro W6 hr6 hg6 hs6)
    | fail)
  exact bodyPost_ret (results_n rfl (by simp [Act.put]) hr6) rfl ⟨_, rfl, ⟨sl2, rfl, ho.only hg6 hr (by decide)⟩, below_only hb hg6 hb.size (by omega)⟩
set_option maxRecDepth 100000 in
set_option maxHeartbeats 1000000 in
theorem num_top (n : Nat) (hn : n ≤ 6) (w : World) : Calls Try.prog 47 #[.int .i64 (n : Int)] w (NRet w (topZ n)) := by
  have HC : Hid (∀ W : World, Calls Try.prog 21 #[.int .i64 (n : Int)] W (Ret W (.agg (topZ n).c))) := fun W => top_any n hn W
  have HO : Hid (∀ W : World, Calls Try.prog 87 #[.agg (topZ n).c] W (NRet W (topZ n))) := fun W => of_zone _ (by rw [topZ_n]; exact hn) W
  generalize topZ n = z2 at *
  go_enter Try.func47, Try.ntmps47
  go_wp2_with (first
    | (refine alloc_n rfl rfl ?_; intro W3 hr hb hs3)
    | (go_at_call 21; ((with_reducible refine (HC.out _).mono ?_); rintro e W4 ⟨rfl, hb4⟩; have hr := hr.on hb4;  have hb := hb.trans (hb4.mono hb.size); clear hb4))
    | (go_at_call 87; ((with_reducible refine (HO.out _).mono ?_); rintro e W5 ⟨_, rfl, ⟨sl2, rfl, ho⟩, hb5⟩; have ho := ho.mono hb.size; have hr := hr.on hb5; have hb := hb.trans (hb5.mono hb.size); clear hb5))
    | (refine store_n rfl _ _ rfl rfl rfl ho.one hr ?_; intro W6 hr6 hg6 hs6)
    | fail)
  exact bodyPost_ret (results_n rfl (by simp [Act.put]) hr6) rfl ⟨_, rfl, ⟨sl2, rfl, ho.only hg6 hr (by decide)⟩, below_only hb hg6 hb.size (by omega)⟩
theorem mx_ni (n : Int) (h : 0 ≤ n) : mx n 0 = n := by unfold mx; split <;> omega
set_option maxRecDepth 100000 in
set_option maxHeartbeats 1000000 in
theorem num_none (n : Nat) (hn : n ≤ 6) (w : World) : Calls Try.prog 53 #[.int .i64 (n : Int)] w (NRet w (noneZ n)) := by
  have HO : Hid (∀ W : World, Calls Try.prog 87 #[.agg (zc n true fun _ _ => 0)] W (NRet W (noneZ n))) := fun W => of_zone (noneZ n) hn W
  have e1 : mx (n : Int) 0 = n := mx_nn _
  have e2 : mn (n : Int) 6 = n := mn_n6 hn
  generalize noneZ n = z2 at *
  go_enter Try.func53, Try.ntmps53
  go_wp2_with (first
    | (refine alloc_n rfl rfl ?_; intro W3 hr hb hs3)
    | (refine wpList_build_val rfl 26 _ rfl #[(0, .int .i64 n), (1, .bool true)] (by simp [Act.eval, Act.put]) _ (build_nz _ _ _) ?_)
    | (go_at_call 87; ((with_reducible refine (HO.out _).mono ?_); rintro e W5 ⟨_, rfl, ⟨sl2, rfl, ho⟩, hb5⟩; have ho := ho.mono hb.size; have hr := hr.on hb5; have hb := hb.trans (hb5.mono hb.size); clear hb5))
    | (refine store_n rfl _ _ rfl rfl rfl ho.one hr ?_; intro W6 hr6 hg6 hs6)
    | fail)
  exact bodyPost_ret (results_n rfl (by simp [Act.put]) hr6) rfl ⟨_, rfl, ⟨sl2, rfl, ho.only hg6 hr (by decide)⟩, below_only hb hg6 hb.size (by omega)⟩
set_option maxRecDepth 100000 in
set_option maxHeartbeats 1000000 in
theorem num_copy (z : Zn) (hn : z.n ≤ 6) (b : Bool) (sl : Value) (x y d : Int) (w : World) : Calls Try.prog 55 #[.agg (nc b sl z.n z.none z.D), .int .i64 x, .int .i64 y, .int .i64 d] w (NRet w (copyZ z x y d)) := by
  have HC : Hid (∀ W : World, Calls Try.prog 23 #[.agg (zc z.n z.none z.D), .int .i64 x, .int .i64 y, .int .i64 d] W (Ret W (.agg (copyZ z x y d).c))) := fun W => copy_any z hn x y d W
  have HO : Hid (∀ W : World, Calls Try.prog 87 #[.agg (copyZ z x y d).c] W (NRet W (copyZ z x y d))) := fun W => of_zone _ (by rw [copyZ_n]; exact hn) W
  generalize copyZ z x y d = z2 at *
  go_enter Try.func55, Try.ntmps55
  go_wp2_with (first
    | (refine box_row rfl 57 _ rfl _ rfl ?_; intro W1 hv hb hs1)
    | (refine alloc_n rfl rfl ?_; intro W3 hr hb3 hs3; rw [hs1.out] at hr hb3 hs3; rw [hs1.out]; have hv := hv.below hb3 (by omega); have hb := hb.trans (hb3.mono (by omega)); clear hb3)
    | (refine load_nz rfl _ rfl rfl hv ?_)
    | (go_at_call 23; ((with_reducible refine (HC.out _).mono ?_); rintro e W4 ⟨rfl, hb4⟩; have hr := hr.on hb4;  have hb := hb.trans (hb4.mono hb.size); clear hb4))
    | (go_at_call 87; ((with_reducible refine (HO.out _).mono ?_); rintro e W5 ⟨_, rfl, ⟨sl2, rfl, ho⟩, hb5⟩; have ho := ho.mono hb.size; have hr := hr.on hb5; have hb := hb.trans (hb5.mono hb.size); clear hb5))
    | (refine store_n rfl _ _ rfl rfl rfl ho.one hr ?_; intro W6 hr6 hg6 hs6)
    | fail)
  exact bodyPost_ret (results_n rfl (by simp [Act.put]) hr6) rfl ⟨_, rfl, ⟨sl2, rfl, ho.only hg6 hr (by decide)⟩, below_only hb hg6 hb.size (by omega)⟩
set_option maxRecDepth 100000 in
set_option maxHeartbeats 1000000 in
theorem num_bound (z : Zn) (hn : z.n ≤ 6) (b : Bool) (sl : Value) (x y d : Int) (w : World) : Calls Try.prog 46 #[.agg (nc b sl z.n z.none z.D), .int .i64 x, .int .i64 y, .int .i64 d] w (NRet w (boundZ z x y d)) := by
  have HC : Hid (∀ W : World, Calls Try.prog 22 #[.agg (zc z.n z.none z.D), .int .i64 x, .int .i64 y, .int .i64 d] W (Ret W (.agg (boundZ z x y d).c))) := fun W => bound_any z hn x y d W
  have HO : Hid (∀ W : World, Calls Try.prog 87 #[.agg (boundZ z x y d).c] W (NRet W (boundZ z x y d))) := fun W => of_zone _ (by rw [boundZ_n]; exact hn) W
  generalize boundZ z x y d = z2 at *
  go_enter Try.func46, Try.ntmps46
  go_wp2_with (first
    | (refine box_row rfl 57 _ rfl _ rfl ?_; intro W1 hv hb hs1)
    | (refine alloc_n rfl rfl ?_; intro W3 hr hb3 hs3; rw [hs1.out] at hr hb3 hs3; rw [hs1.out]; have hv := hv.below hb3 (by omega); have hb := hb.trans (hb3.mono (by omega)); clear hb3)
    | (refine load_nz rfl _ rfl rfl hv ?_)
    | (go_at_call 22; ((with_reducible refine (HC.out _).mono ?_); rintro e W4 ⟨rfl, hb4⟩; have hr := hr.on hb4;  have hb := hb.trans (hb4.mono hb.size); clear hb4))
    | (go_at_call 87; ((with_reducible refine (HO.out _).mono ?_); rintro e W5 ⟨_, rfl, ⟨sl2, rfl, ho⟩, hb5⟩; have ho := ho.mono hb.size; have hr := hr.on hb5; have hb := hb.trans (hb5.mono hb.size); clear hb5))
    | (refine store_n rfl _ _ rfl rfl rfl ho.one hr ?_; intro W6 hr6 hg6 hs6)
    | fail)
  exact bodyPost_ret (results_n rfl (by simp [Act.put]) hr6) rfl ⟨_, rfl, ⟨sl2, rfl, ho.only hg6 hr (by decide)⟩, below_only hb hg6 hb.size (by omega)⟩
set_option maxRecDepth 100000 in
set_option maxHeartbeats 1000000 in
theorem num_join (z y : Zn) (hz : OKZ z) (hy : OKZ y) (b c : Bool) (sl tl : Value) (w : World) : Calls Try.prog 64 #[.agg (nc b sl z.n z.none z.D), .agg (nc c tl y.n y.none y.D)] w (NRet w (joinZ z y)) := by
  have HC : Hid (∀ W : World, Calls Try.prog 57 #[.agg (zc z.n z.none z.D), .agg (zc y.n y.none y.D)] W (Ret W (.agg (joinZ z y).c))) := fun W => join_any hz hy W
  have HO : Hid (∀ W : World, Calls Try.prog 87 #[.agg (joinZ z y).c] W (NRet W (joinZ z y))) := fun W => of_zone _ (join_ok hz hy).n W
  generalize joinZ z y = z2 at *
  go_enter Try.func64, Try.ntmps64
  go_wp2_with (first
    | (have _t := hv; refine box_row rfl 57 _ rfl _ rfl ?_; intro W2 hv2 hb2 hs2; rw [hs1.out] at hv2 hb2 hs2; rw [hs1.out]; have hv := hv.below hb2 (by omega); have hb := hb.trans (hb2.mono (by omega)); clear hb2 _t)
    | (refine box_row rfl 57 _ rfl _ rfl ?_; intro W1 hv hb hs1)
    | (refine alloc_n rfl rfl ?_; intro W3 hr hb3 hs3; rw [hs2.out] at hr hb3 hs3; rw [hs2.out]; have hv := hv.below hb3 (by omega); have hv2 := hv2.below hb3 (by omega); have hb := hb.trans (hb3.mono (by omega)); clear hb3)
    | (refine load_nz rfl _ rfl rfl hv ?_)
    | (refine load_nz rfl _ rfl rfl hv2 ?_)
    | (go_at_call 57; ((with_reducible refine (HC.out _).mono ?_); rintro e W4 ⟨rfl, hb4⟩; have hr := hr.on hb4;  have hb := hb.trans (hb4.mono hb.size); clear hb4))
    | (go_at_call 87; ((with_reducible refine (HO.out _).mono ?_); rintro e W5 ⟨_, rfl, ⟨sl2, rfl, ho⟩, hb5⟩; have ho := ho.mono hb.size; have hr := hr.on hb5; have hb := hb.trans (hb5.mono hb.size); clear hb5))
    | (refine store_n rfl _ _ rfl rfl rfl ho.one hr ?_; intro W6 hr6 hg6 hs6)
    | fail)
  exact bodyPost_ret (results_n rfl (by simp [Act.put]) hr6) rfl ⟨_, rfl, ⟨sl2, rfl, ho.only hg6 hr (by decide)⟩, below_only hb hg6 hb.size (by omega)⟩
set_option maxRecDepth 100000 in
set_option maxHeartbeats 1000000 in
theorem num_widen (z y : Zn) (hz : OKZ z) (hy : OKZ y) (b c : Bool) (sl tl : Value) (w : World) : Calls Try.prog 65 #[.agg (nc b sl z.n z.none z.D), .agg (nc c tl y.n y.none y.D)] w (NRet w (widZ z y)) := by
  have HC : Hid (∀ W : World, Calls Try.prog 58 #[.agg (zc z.n z.none z.D), .agg (zc y.n y.none y.D)] W (Ret W (.agg (widZ z y).c))) := fun W => widen_any hz hy W
  have HO : Hid (∀ W : World, Calls Try.prog 87 #[.agg (widZ z y).c] W (NRet W (widZ z y))) := fun W => of_zone _ (wid_ok hz hy).n W
  generalize widZ z y = z2 at *
  go_enter Try.func65, Try.ntmps65
  go_wp2_with (first
    | (have _t := hv; refine box_row rfl 57 _ rfl _ rfl ?_; intro W2 hv2 hb2 hs2; rw [hs1.out] at hv2 hb2 hs2; rw [hs1.out]; have hv := hv.below hb2 (by omega); have hb := hb.trans (hb2.mono (by omega)); clear hb2 _t)
    | (refine box_row rfl 57 _ rfl _ rfl ?_; intro W1 hv hb hs1)
    | (refine alloc_n rfl rfl ?_; intro W3 hr hb3 hs3; rw [hs2.out] at hr hb3 hs3; rw [hs2.out]; have hv := hv.below hb3 (by omega); have hv2 := hv2.below hb3 (by omega); have hb := hb.trans (hb3.mono (by omega)); clear hb3)
    | (refine load_nz rfl _ rfl rfl hv ?_)
    | (refine load_nz rfl _ rfl rfl hv2 ?_)
    | (go_at_call 58; ((with_reducible refine (HC.out _).mono ?_); rintro e W4 ⟨rfl, hb4⟩; have hr := hr.on hb4;  have hb := hb.trans (hb4.mono hb.size); clear hb4))
    | (go_at_call 87; ((with_reducible refine (HO.out _).mono ?_); rintro e W5 ⟨_, rfl, ⟨sl2, rfl, ho⟩, hb5⟩; have ho := ho.mono hb.size; have hr := hr.on hb5; have hb := hb.trans (hb5.mono hb.size); clear hb5))
    | (refine store_n rfl _ _ rfl rfl rfl ho.one hr ?_; intro W6 hr6 hg6 hs6)
    | fail)
  exact bodyPost_ret (results_n rfl (by simp [Act.put]) hr6) rfl ⟨_, rfl, ⟨sl2, rfl, ho.only hg6 hr (by decide)⟩, below_only hb hg6 hb.size (by omega)⟩
set_option maxRecDepth 100000 in
set_option maxHeartbeats 1000000 in
theorem num_within (z y : Zn) (hz : z.n ≤ 6) (b c : Bool) (sl tl : Value) (w : World) : Calls Try.prog 50 #[.agg (nc b sl z.n z.none z.D), .agg (nc c tl y.n y.none y.D)] w (Ret w (.bool (withinB z y))) := by
  have HC : Hid (∀ W : World, Calls Try.prog 43 #[.agg (zc z.n z.none z.D), .agg (zc y.n y.none y.D)] W (Ret W (.bool (withinB z y)))) := fun W => within_any z y hz W
  generalize withinB z y = r at *
  go_enter Try.func50, Try.ntmps50
  go_wp2_with (first
    | (have _t := hv; refine box_row rfl 57 _ rfl _ rfl ?_; intro W2 hv2 hb2 hs2; rw [hs1.out] at hv2 hb2 hs2; rw [hs1.out]; have hv := hv.below hb2 (by omega); have hb := hb.trans (hb2.mono (by omega)); clear hb2 _t)
    | (refine box_row rfl 57 _ rfl _ rfl ?_; intro W1 hv hb hs1)
    | (refine load_nz rfl _ rfl rfl hv ?_)
    | (refine load_nz rfl _ rfl rfl hv2 ?_)
    | (go_at_call 43; ((with_reducible refine (HC.out _).mono ?_); rintro e W4 ⟨rfl, hb4⟩; have hb := hb.trans (hb4.mono hb.size); clear hb4))
    | fail)
  go_ret
  exact ⟨rfl, hb⟩
set_option maxRecDepth 100000 in
set_option maxHeartbeats 1000000 in
theorem held_out (z : Zn) {x : Int} (hx : x < 0 ∨ (z.n : Int) ≤ x) (lo hi : Int) (w : World) : Calls Try.prog 88 #[.agg z.c, .int .i64 x, .agg (ic lo hi)] w (Ret w (.agg z.c)) := by
  show Calls Try.prog 88 #[.agg (zc z.n z.none z.D), .int .i64 x, .agg (ic lo hi)] w (Ret w (.agg (zc z.n z.none z.D)))
  by_cases h : x < 0
  all_goals
    (try have h2 : (z.n : Int) ≤ x := by omega)
    clear hx
    go_enter Try.func88, Try.ntmps88
    go_wp2_with (first
      | (refine wpList_box_zone rfl 26 _ rfl _ _ _ rfl ?_; intro W1 hz hb hs1)
      | (refine box_row rfl 32 _ rfl _ rfl ?_; intro W2 hi' hb2 hs2; rw [hs1.out] at hi' hb2 hs2; rw [hs1.out]; have hz := hz.below hb2 (by omega); have hb := hb.trans (hb2.mono (by omega)); clear hb2)
      | (refine wpList_alloc_zone rfl 26 rfl zz ?_; intro W3 hz1 hb3 hs3; rw [hs2.out] at hz1 hb3 hs3; rw [hs2.out]; have hz := hz.below hb3 (by omega); have hb := hb.trans (hb3.mono (by omega)); have hnc := hz.n_cell; clear hb3)
      | (refine load_z rfl _ rfl rfl hz ?_)
      | (refine store_z rfl _ _ rfl rfl rfl hz1 ?_; intro W4 hz4 hg4 hs4)
      | fail)
    exact bodyPost_ret (results_z rfl (by simp [Act.put]) hz4) rfl ⟨rfl, below_only hb hg4 hb.size (by omega)⟩
set_option maxRecDepth 100000 in
set_option maxHeartbeats 1000000 in
theorem held_empty (z : Zn) (hn : z.n ≤ 6) {m : Nat} (hm : m < z.n) {lo hi : Int} (hl : hi < lo) (w : World) : Calls Try.prog 88 #[.agg z.c, .int .i64 (m : Int), .agg (ic lo hi)] w (Ret w (.agg (noneZ z.n).c)) := by
  have HE : Hid (∀ W : World, Calls Try.prog 40 #[.agg (ic lo hi)] W (Ret W (.bool true))) := fun W => by
    have := empty_any lo hi W
    rw [show decide (hi < lo) = true from decide_eq_true hl] at this; exact this
  have HN : Hid (∀ W : World, Calls Try.prog 53 #[.int .i64 (z.n : Int)] W (NRet W (noneZ z.n))) := fun W => num_none _ hn W
  have q0 : ¬ ((m : Int) < 0) := by omega
  have q1 : ¬ ((z.n : Int) ≤ (m : Int)) := by omega
  have q2 : (m : Int) < (z.n : Int) := by omega
  show Calls Try.prog 88 #[.agg (zc z.n z.none z.D), .int .i64 (m : Int), .agg (ic lo hi)] w _
  generalize noneZ z.n = z2 at *
  show Calls Try.prog 88 _ w (Ret w (.agg (zc z2.n z2.none z2.D)))
  go_enter Try.func88, Try.ntmps88
  go_wp2_with (first
    | (refine wpList_box_zone rfl 26 _ rfl _ _ _ rfl ?_; intro W1 hz hb hs1)
    | (refine box_row rfl 32 _ rfl _ rfl ?_; intro W2 hi' hb2 hs2; rw [hs1.out] at hi' hb2 hs2; rw [hs1.out]; have hz := hz.below hb2 (by omega); have hb := hb.trans (hb2.mono (by omega)); clear hb2)
    | (refine wpList_alloc_zone rfl 26 rfl zz ?_; intro W3 hz1 hb3 hs3; rw [hs2.out] at hz1 hb3 hs3; rw [hs2.out]; have hz := hz.below hb3 (by omega); have hi' := hi'.below hb3 (by omega); have hb := hb.trans (hb3.mono (by omega)); have hnc := hz.n_cell; clear hb3)
    | (refine load_i rfl _ rfl rfl hi' ?_)
    | (go_at_call 40; ((with_reducible refine (HE.out _).mono ?_); rintro e W4 ⟨rfl, hb4⟩; have hz := hz.on hb4; have hnc := hz.n_cell; have hz1 := hz1.on hb4; have hb := hb.trans (hb4.mono hb.size); clear hb4))
    | (go_at_call 53; ((with_reducible refine (HN.out _).mono ?_); rintro e W5 ⟨_, rfl, ⟨sl2, rfl, ho⟩, hb5⟩; have hz1 := hz1.on hb5; have hb := hb.trans (hb5.mono hb.size); clear hb5))
    | (refine store_z rfl _ _ rfl rfl rfl hz1 ?_; intro W4 hz4 hg4 hs4)
    | fail)
  exact bodyPost_ret (results_z rfl (by simp [Act.put]) hz4) rfl ⟨rfl, below_only hb hg4 hb.size (by omega)⟩
/-- What an Itv must hold to, for a variable that there is. -/
def InB (z : Zn) (x lo hi : Int) : Prop := 0 ≤ x → x < z.n → lo ≤ hi → -2147483649 ≤ lo ∧ lo ≤ 2147483648
theorem held_all (z : Zn) (hn : z.n ≤ 6) {x lo hi : Int} (hI : InB z x lo hi) (w : World) : Calls Try.prog 88 #[.agg z.c, .int .i64 x, .agg (ic lo hi)] w (Ret w (.agg (heldZ z x (lo, hi)).c)) := by
  by_cases h : x < 0 ∨ (z.n : Int) ≤ x
  · rw [held_no h]; exact held_out z h lo hi w
  · obtain ⟨m, rfl⟩ : ∃ m : Nat, x = (m : Int) := ⟨x.toNat, by omega⟩
    have hm : m < z.n := by omega
    by_cases hl : hi < lo
    · rw [held_none hm hl]; exact held_empty z hn hm hl w
    · obtain ⟨h1, h2⟩ := hI (by omega) (by omega) (by omega)
      exact held_any z hn hm (by omega) h1 h2 w
set_option maxRecDepth 100000 in
set_option maxHeartbeats 1000000 in
theorem num_meet (z : Zn) (hn : z.n ≤ 6) (b : Bool) (sl : Value) {x lo hi : Int} (hI : InB z x lo hi) (w : World) : Calls Try.prog 48 #[.agg (nc b sl z.n z.none z.D), .int .i64 x, .agg (ic lo hi)] w (NRet w (heldZ z x (lo, hi))) := by
  have HC : Hid (∀ W : World, Calls Try.prog 88 #[.agg (zc z.n z.none z.D), .int .i64 x, .agg (ic lo hi)] W (Ret W (.agg (heldZ z x (lo, hi)).c))) := fun W => held_all z hn hI W
  have HO : Hid (∀ W : World, Calls Try.prog 87 #[.agg (heldZ z x (lo, hi)).c] W (NRet W (heldZ z x (lo, hi)))) := fun W => of_zone _ (by rw [heldZ_n]; exact hn) W
  generalize heldZ z x (lo, hi) = z2 at *
  clear hI
  go_enter Try.func48, Try.ntmps48
  go_wp2_with (first
    | (refine box_row rfl 57 _ rfl _ rfl ?_; intro W1 hv hb hs1)
    | (refine box_row rfl 32 _ rfl _ rfl ?_; intro W2 hi' hb2 hs2; rw [hs1.out] at hi' hb2 hs2; rw [hs1.out]; have hv := hv.below hb2 (by omega); have hb := hb.trans (hb2.mono (by omega)); clear hb2)
    | (refine alloc_n rfl rfl ?_; intro W3 hr hb3 hs3; rw [hs2.out] at hr hb3 hs3; rw [hs2.out]; have hv := hv.below hb3 (by omega); have hi' := hi'.below hb3 (by omega); have hb := hb.trans (hb3.mono (by omega)); clear hb3)
    | (refine load_nz rfl _ rfl rfl hv ?_)
    | (refine load_i rfl _ rfl rfl hi' ?_)
    | (go_at_call 88; ((with_reducible refine (HC.out _).mono ?_); rintro e W4 ⟨rfl, hb4⟩; have hr := hr.on hb4;  have hb := hb.trans (hb4.mono hb.size); clear hb4))
    | (go_at_call 87; ((with_reducible refine (HO.out _).mono ?_); rintro e W5 ⟨_, rfl, ⟨sl2, rfl, ho⟩, hb5⟩; have ho := ho.mono hb.size; have hr := hr.on hb5; have hb := hb.trans (hb5.mono hb.size); clear hb5))
    | (refine store_n rfl _ _ rfl rfl rfl ho.one hr ?_; intro W6 hr6 hg6 hs6)
    | fail)
  exact bodyPost_ret (results_n rfl (by simp [Act.put]) hr6) rfl ⟨_, rfl, ⟨sl2, rfl, ho.only hg6 hr (by decide)⟩, below_only hb hg6 hb.size (by omega)⟩
set_option maxRecDepth 100000 in
set_option maxHeartbeats 1000000 in
theorem num_set (z : Zn) (hn : z.n ≤ 6) (b : Bool) (sl : Value) {x lo hi : Int} (hI : InB z x lo hi) (w : World) : Calls Try.prog 37 #[.agg (nc b sl z.n z.none z.D), .int .i64 x, .agg (ic lo hi)] w (NRet w (heldZ (forgetZ z x) x (lo, hi))) := by
  have HF : Hid (∀ W : World, Calls Try.prog 33 #[.agg (zc z.n z.none z.D), .int .i64 x] W (Ret W (.agg (zc (forgetZ z x).n (forgetZ z x).none (forgetZ z x).D)))) := fun W => forget_any z hn x W
  have HC : Hid (∀ W : World, Calls Try.prog 88 #[.agg (zc (forgetZ z x).n (forgetZ z x).none (forgetZ z x).D), .int .i64 x, .agg (ic lo hi)] W (Ret W (.agg (heldZ (forgetZ z x) x (lo, hi)).c))) := fun W => held_all _ (by rw [forgetZ_n]; exact hn) (fun h1 h2 h3 => hI h1 (by rw [forgetZ_n] at h2; exact h2) h3) W
  have HO : Hid (∀ W : World, Calls Try.prog 87 #[.agg (heldZ (forgetZ z x) x (lo, hi)).c] W (NRet W (heldZ (forgetZ z x) x (lo, hi)))) := fun W => of_zone _ (by rw [heldZ_n, forgetZ_n]; exact hn) W
  generalize heldZ (forgetZ z x) x (lo, hi) = z2 at *
  generalize forgetZ z x = z1 at *
  clear hI
  go_enter Try.func37, Try.ntmps37
  go_wp2_with (first
    | (refine box_row rfl 57 _ rfl _ rfl ?_; intro W1 hv hb hs1)
    | (refine box_row rfl 32 _ rfl _ rfl ?_; intro W2 hi' hb2 hs2; rw [hs1.out] at hi' hb2 hs2; rw [hs1.out]; have hv := hv.below hb2 (by omega); have hb := hb.trans (hb2.mono (by omega)); clear hb2)
    | (refine alloc_n rfl rfl ?_; intro W3 hr hb3 hs3; rw [hs2.out] at hr hb3 hs3; rw [hs2.out]; have hv := hv.below hb3 (by omega); have hi' := hi'.below hb3 (by omega); have hb := hb.trans (hb3.mono (by omega)); clear hb3)
    | fail)
  refine head0 7 (by kernel_rfl) (by kernel_rfl) (by kernel_rfl) (by kernel_rfl) ?_
  simp only [List.take_succ_cons, List.take_zero, List.drop_succ_cons, List.drop_zero]
  (refine o_start ?_; (iterate 7 (first | (refine o_skip rfl rfl rfl ?_) | (refine o_have rfl fun hw => ?_; (first | (refine o_move hw.out _ rfl rfl rfl rfl ?_) | (refine o_pickT hw.out _ _ _ rfl rfl rfl rfl rfl ?_) | (refine o_pickF hw.out _ _ _ rfl rfl rfl rfl rfl ?_) | (refine o_load_nz hw.out _ rfl rfl hv rfl rfl ?_) | (refine o_load_row hw.out _ _ rfl rfl hi' (by first | exact Try.underlying32) rfl isz32 rfl rfl ?_) | (refine o_bin hw.out _ _ _ _ _ rfl rfl rfl rfl rfl (fun W => by go_simp; first | done | rfl) ?_) | (refine o_un hw.out _ _ _ rfl rfl rfl rfl (fun W => by go_simp; first | done | rfl) ?_) | (refine o_field hw.out _ _ _ rfl rfl rfl rfl (fun W => by go_simp; first | done | rfl) ?_) | (refine o_index hw.out _ _ _ rfl rfl rfl rfl rfl (fun W => by go_simp; first | done | rfl) ?_) | (refine o_conv hw.out _ _ _ rfl rfl rfl rfl (fun W => by go_simp; first | done | rfl) ?_) | (refine o_call hw.out _ _ _ rfl rfl (fun W hW => HF.out W) (by with_reducible rfl) (by with_reducible rfl) rfl rfl (fun ρ W hρ => by go_simp; done) ?_) | (refine o_call hw.out _ _ _ rfl rfl (fun W hW => HC.out W) (by with_reducible rfl) (by with_reducible rfl) rfl rfl (fun ρ W hρ => by go_simp; done) ?_)); clear hw))); refine o_end ?_; simp only [app])
  intro w3 hb3
  have hr := hr.on hb3
  have hb := hb.trans (hb3.mono hb.size)
  clear hb3 hv hi'
  go_wp2_with (first
    | (go_at_call 87; ((with_reducible refine (HO.out _).mono ?_); rintro e W5 ⟨_, rfl, ⟨sl2, rfl, ho⟩, hb5⟩; have ho := ho.mono hb.size; have hr := hr.on hb5; have hb := hb.trans (hb5.mono hb.size); clear hb5))
    | (refine store_n rfl _ _ rfl rfl rfl ho.one hr ?_; intro W6 hr6 hg6 hs6)
    | fail)
  exact bodyPost_ret (results_n rfl (by simp [Act.put]) hr6) rfl ⟨_, rfl, ⟨sl2, rfl, ho.only hg6 hr (by decide)⟩, below_only hb hg6 hb.size (by omega)⟩
end Go.Proofs.Ytgnkhncogfppgaa
