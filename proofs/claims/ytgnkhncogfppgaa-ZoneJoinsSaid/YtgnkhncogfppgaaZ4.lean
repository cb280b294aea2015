import Derived.Test.YtgnkhncogfppgaaZ3
namespace Go.Proofs.Ytgnkhncogfppgaa
open Go.RowKit
theorem zeros_any (n : Nat) (hn : n ≤ 6) (w : World) : Calls Try.prog 28 #[.int .i64 n] w (Ret w (.agg (zerosZ n).c)) := by
  have e : mn (mx (n : Int) 0) 6 = n := by unfold mn mx; split <;> split <;> omega
  have HE := Lib.hid e
  clear e
  go_enter Try.func28, Try.ntmps28
  go_wp2_with (first
    | (refine wpList_alloc_zone rfl 26 rfl zz ?_; intro W1 hz1 hb hs1)
    | (refine wpList_build_val rfl 26 _ rfl #[(0, .int .i64 n)] (by simp [Act.eval, HE.out]) _ (build_n n _) ?_)
    | (refine store_z rfl _ _ rfl rfl rfl hz1 ?_; intro W4 hz4 hg4 hs4)
    | fail)
  exact bodyPost_ret (results_z rfl (by simp [Act.put]) hz4) rfl ⟨rfl, below_only hb hg4 hb.size (by omega)⟩
/-- Where all between i, j and what is done of them is far. -/
def topP (n i j : Nat) : Mat := fun a b => if (a < i ∨ (a = i ∧ b < j)) ∧ a ≤ n ∧ b ≤ n ∧ a ≠ b then far else 0
theorem topP_next (n i j : Nat) (hi : i ≤ n) (hj : j ≤ n) (h : i ≠ j) : upd (topP n i j) i j far = topP n i (j + 1) := by
  funext a b
  unfold upd topP
  by_cases hab : a = i ∧ b = j
  · obtain ⟨rfl, rfl⟩ := hab
    rw [if_pos ⟨rfl, rfl⟩, if_pos (by omega)]
  · rw [if_neg hab]
    by_cases h2 : (a < i ∨ (a = i ∧ b < j)) ∧ a ≤ n ∧ b ≤ n ∧ a ≠ b
    · rw [if_pos h2, if_pos (by omega)]
    · rw [if_neg h2, if_neg (by omega)]
theorem topP_same (n i : Nat) : topP n i i = topP n i (i + 1) := by
  funext a b
  unfold topP
  by_cases h2 : (a < i ∨ (a = i ∧ b < i)) ∧ a ≤ n ∧ b ≤ n ∧ a ≠ b
  · rw [if_pos h2, if_pos (by omega)]
  · rw [if_neg h2, if_neg (by omega)]
theorem topP_row (n i : Nat) : topP n i (n + 1) = topP n (i + 1) 0 := by
  funext a b
  unfold topP
  by_cases h2 : (a < i ∨ (a = i ∧ b < n + 1)) ∧ a ≤ n ∧ b ≤ n ∧ a ≠ b
  · rw [if_pos h2, if_pos (by omega)]
  · rw [if_neg h2, if_neg (by omega)]
theorem topP_start (n : Nat) : topP n 0 0 = fun _ _ => 0 := by
  funext a b; unfold topP; rw [if_neg (by omega)]
theorem topP_end (n : Nat) : topP n (n + 1) 0 = topM n := by
  funext a b
  unfold topP topM
  by_cases h2 : a ≤ n ∧ b ≤ n ∧ a ≠ b
  · rw [if_pos h2, if_pos (by omega)]
  · rw [if_neg h2, if_neg (by omega)]
set_option maxHeartbeats 1000000 in
theorem top_any (n : Nat) (hn : n ≤ 6) (w : World) : Calls Try.prog 21 #[.int .i64 n] w (Ret w (.agg (topZ n).c)) := by
  have e : mn (mx (n : Int) 0) 6 = n := by unfold mn mx; split <;> split <;> omega
  have HE := Lib.hid e
  have hc : ∀ (W : World), Calls Try.prog 77 #[.agg (zc n false (topM n))] W (Ret W (.agg (topZ n).c)) := fun W => close_any ⟨n, false, topM n⟩ hn W
  have HC := Lib.hid hc
  clear e hc
  go_enter Try.func21, Try.ntmps21
  go_wp2_with (first
    | (have _t := hzR; refine wpList_alloc_zone rfl 26 rfl zz ?_; intro W1 hz hb1 hs1; rw [hs.out] at hz hb1 hs1; have hz1 := hzR.below hb1 (by omega); have hb := hb.trans (hb1.mono (by omega)); rw [hs.out]; clear hzR hs hb1 _t)
    | (refine wpList_alloc_zone rfl 26 rfl zz ?_; intro W hzR hb hs)
    | (refine wpList_build_val rfl 26 _ rfl #[(0, .int .i64 n)] (by simp [Act.eval, HE.out]) _ (build_n n _) ?_)
    | (refine store_z rfl _ _ rfl rfl rfl hz ?_; intro W4 hz4 hg4 hs4; have hz := hz4; have hz1 := hz1.only hg4 (by omega); have hb := below_only hb hg4 hb.size (by omega); have hnc := hz.n_cell; clear hz4 hg4)
    | fail)
  have HZ : Hid (ZAt 26 W4 (w.heap.size + 1) n false (topP n 0 0)) := by rw [topP_start]; exact hz
  have HZ1 := Lib.hid hz1
  have HB := Lib.hid hb
  clear hz hz1 hb hnc
  go_loopw [4] (fun i_ wr => ∃ i : Nat, i ≤ n + 1 ∧ i_ = .int .i64 (i : Int) ∧ Hid (Below w.heap.size w wr) ∧ Hid (ZAt 26 wr (w.heap.size + 1) n false (topP n i 0)) ∧ Hid (ZAt 26 wr w.heap.size 0 false zeroM)) (fun i _ => n + 2 - (intOf i).toNat)
  case atStart => exact ⟨0, Nat.zero_le _, rfl, HB, HZ, HZ1⟩
  case round =>
    clear HB HZ HZ1
    obtain ⟨i, hi, rfl, HB, HZ, HZ1⟩ := hrel
    have hnc := HZ.out.n_cell
    by_cases hlt : i ≤ n
    · go_wp2
      go_loopw [5] (fun j_ wr => ∃ j : Nat, j ≤ n + 1 ∧ j_ = .int .i64 (j : Int) ∧ Hid (Below w.heap.size w wr) ∧ Hid (ZAt 26 wr (w.heap.size + 1) n false (topP n i j)) ∧ Hid (ZAt 26 wr w.heap.size 0 false zeroM)) (fun i _ => n + 2 - (intOf i).toNat)
      case atStart => exact ⟨0, Nat.zero_le _, rfl, HB, HZ, HZ1⟩
      case round =>
        clear HB HZ HZ1 hnc
        obtain ⟨j, hj, rfl, HB, HZ, HZ1⟩ := hrel
        have hnc := HZ.out.n_cell
        by_cases hlj : j ≤ n
        · by_cases hij : i = j
          · subst hij
            go_wp2
            go_roundw
            case rel => exact ⟨i + 1, by omega, by go_num, HB, by rw [← topP_same]; exact HZ, HZ1⟩
            case measure => simp [intOf]; omega
          · have hne : ((i : Int) != (j : Int)) = true := by simp; omega
            have c1 := HZ.out.cell i j (by omega) (by omega)
            have f1 := HZ.out.frozen (2 + i * 7 + j)
            have s1 := Lib.hid (HZ.out.set i j far (by omega) (by omega))
            rw [topP_next n i j hlt hlj hij] at s1
            have s2 := Lib.hid (HZ1.out.set_other (a := ⟨w.heap.size + 1, 2 + i * 7 + j, none⟩) (by simp) (.int .i64 far))
            have s3 := Lib.hid (HB.out.setCell (p := ⟨w.heap.size + 1, 2 + i * 7 + j, none⟩) (by simp) (.int .i64 far))
            go_wp2
            go_roundw
            case rel => exact ⟨j + 1, by omega, by go_num, s3, s1, s2⟩
            case measure => simp [intOf]; omega
        · obtain rfl : j = n + 1 := by omega
          rw [topP_row] at HZ
          go_wp2
          go_roundw
          case rel => exact ⟨i + 1, by omega, by go_num, HB, HZ, HZ1⟩
          case measure => simp [intOf]; omega
    · obtain rfl : i = n + 1 := by omega
      rw [topP_end] at HZ
      have hz := HZ.out
      have hz1 := HZ1.out
      have hb := HB.out
      have hbc := hz.b_cell
      go_wp2_with (first
        | (refine load_z rfl _ rfl rfl hz ?_)
        | (go_at_call 77; ((with_reducible refine (HC.out _).mono ?_); rintro e W2 ⟨rfl, hb2⟩; have hz := hz.below hb2 hz.lt; have hz1 := hz1.below hb2 hz1.lt; have hnc := hz.n_cell; have hbc := hz.b_cell; have hb := hb.trans (hb2.mono hb.size); clear hb2))
        | (refine store_z rfl _ _ rfl rfl rfl hz1 ?_; intro W4 hz4 hg4 hs4)
        | fail)
      exact bodyPost_ret (results_z rfl (by simp [Act.put]) hz4) rfl ⟨rfl, below_only hb hg4 hb.size (by omega)⟩
end Go.Proofs.Ytgnkhncogfppgaa
