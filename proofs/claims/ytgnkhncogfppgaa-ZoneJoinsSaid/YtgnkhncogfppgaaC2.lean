import Derived.Test.YtgnkhncogfppgaaA1
import Derived.Test.YtgnkhncogfppgaaC1
namespace Go.Proofs.Ytgnkhncogfppgaa
open Go.RowKit
theorem none_any (n : Int) (w : World) : Calls Try.prog 107 #[.int .i64 n] w fun e w' => e = .returned (.agg (zc n true zeroM)) ∧ Below w.heap.size w w' := by
  go_enter Try.func107, Try.ntmps107
  go_wp2_with (first
    | (refine wpList_alloc_zone rfl 26 rfl zz ?_; intro W1 hz1 hb1 hs1)
    | (refine wpList_build_val rfl 26 _ rfl #[(0, .int .i64 n), (1, .bool true)] (by simp [Act.eval]) _ (build_nb n true _) ?_)
    | (refine store_z rfl _ _ rfl rfl rfl hz1 ?_; intro W2 hz2 hg2 hs2))
  exact bodyPost_ret (results_z rfl (by simp [Act.put]) hz2) rfl ⟨rfl, below_only hb1 hg2 hb1.size (Nat.le_refl _)⟩
def closeC (n : Nat) (D : Mat) : Array Value :=
  if negB n (fwK n (n + 1) (ownF n D)) then zc n true zeroM else zc n false (fwK n (n + 1) (ownF n D))
set_option maxHeartbeats 1000000 in
theorem close_yes (n : Nat) (hn : n ≤ 6) (D : Mat) (w : World) :
    Calls Try.prog 77 #[.agg (zc n false D)] w fun e w' => e = .returned (.agg (closeC n D)) ∧ Below w.heap.size w w' := by
  go_enter Try.func77, Try.ntmps77
  go_wp2_with (first
    | (refine wpList_box_zone rfl 26 _ rfl _ _ _ rfl ?_; intro W hz hb hs; have hnc := hz.n_cell; have hbc := hz.b_cell)
    | (refine wpList_alloc_zone rfl 26 rfl zz ?_; intro W1 hz1 hb1 hs1; rw [hs.out] at hz1 hb1 hs1; have hz := hz.below hb1 (by omega); have hnc := hz.n_cell; have hbc := hz.b_cell; have hb := hb.trans (hb1.mono (by omega)); rw [hs.out]; clear hs)
    | (go_at_call 85; refine (count_yes n hn _).mono ?_; rintro e w' ⟨rfl, rfl⟩)
    | (go_at_call 106; refine (own_any _ n hn false D _ hz).mono ?_; rintro e W2 ⟨rfl, hg2, hz2⟩; have hz1' := hz1.only hg2 (by omega); have hb2 := below_only hb hg2 hb.size (Nat.le_refl _); clear hz hb hg2 hnc hbc hb1 hz1)
    | fail)
  have HZ2 := Lib.hid hz2
  have HZ1 := Lib.hid hz1'
  clear hz2 hz1'
  go_loopw [3] (fun i wr => ∃ k : Nat, k ≤ n + 1 ∧ i = .int .i64 (k : Int) ∧ Below w.heap.size w wr ∧ Hid (ZAt 26 wr w.heap.size n false (fwK n k (ownF n D))) ∧ Hid (ZAt 26 wr (w.heap.size + 1) 0 false zeroM)) (fun i _ => n + 2 - (intOf i).toNat)
  case atStart => exact ⟨0, Nat.zero_le _, rfl, hb2, HZ2, HZ1⟩
  case round =>
    clear hb2 HZ2 HZ1
    obtain ⟨k, hk, rfl, hb, hz, hz1⟩ := hrel
    have hnc := hz.out.n_cell
    by_cases hlt : k ≤ n
    · go_wp2
      go_loopw [4] (fun i wr => ∃ i' : Nat, i' ≤ n + 1 ∧ i = .int .i64 (i' : Int) ∧ Below w.heap.size w wr ∧ Hid (ZAt 26 wr w.heap.size n false (fwI n k i' (fwK n k (ownF n D)))) ∧ Hid (ZAt 26 wr (w.heap.size + 1) 0 false zeroM)) (fun i _ => n + 2 - (intOf i).toNat)
      case atStart => exact ⟨0, Nat.zero_le _, rfl, hb, hz, hz1⟩
      case round =>
        clear hb hz hz1 hnc
        obtain ⟨i, hi, rfl, hb, hz, hz1⟩ := hrel
        have hnc := hz.out.n_cell
        by_cases hli : i ≤ n
        · go_wp2
          go_loopw [5] (fun i_ wr => ∃ j : Nat, j ≤ n + 1 ∧ i_ = .int .i64 (j : Int) ∧ Below w.heap.size w wr ∧ Hid (ZAt 26 wr w.heap.size n false (fwJ k i j (fwI n k i (fwK n k (ownF n D))))) ∧ Hid (ZAt 26 wr (w.heap.size + 1) 0 false zeroM)) (fun i _ => n + 2 - (intOf i).toNat)
          case atStart => exact ⟨0, Nat.zero_le _, rfl, hb, hz, hz1⟩
          case round =>
            clear hb hz hz1 hnc
            obtain ⟨j, hj, rfl, hb, hz, hz1⟩ := hrel
            have hnc := hz.out.n_cell
            by_cases hlj : j ≤ n
            · obtain ⟨S, hS⟩ : ∃ S, S = fwJ k i j (fwI n k i (fwK n k (ownF n D))) := ⟨_, rfl⟩
              rw [← hS] at hz
              have HS := Lib.hid hS
              clear hS
              have c1 := hz.out.cell i j (by omega) (by omega)
              have c2 := hz.out.cell i k (by omega) (by omega)
              have c3 := hz.out.cell k j (by omega) (by omega)
              have f1 := hz.out.frozen (2 + i * 7 + j)
              have s1 := Lib.hid (hz.out.set i j (mn (S i j) (wrap64 (S i k + S k j))) (by omega) (by omega)).drew
              have s2 := Lib.hid (hz1.out.set_other (a := ⟨w.heap.size, 2 + i * 7 + j, none⟩) (by simp) (.int .i64 (mn (S i j) (wrap64 (S i k + S k j))))).drew
              have s3 := Lib.hid ((hb.setCell (p := ⟨w.heap.size, 2 + i * 7 + j, none⟩) (Nat.le_refl _) (.int .i64 (mn (S i j) (wrap64 (S i k + S k j))))).drew)
              clear hb hz1
              go_wp2
              go_region
              generalize (wr.setCell { block := w.heap.size, off := 2 + i * 7 + j } (Value.int IntKind.i64 (mn (S i j) (wrap64 (S i k + S k j))))).drew = w3 at *
              go_wp2
              go_roundw
              case rel => exact ⟨j + 1, by omega, by go_num, s3.out, by rw [wrap64_w64, HS.out] at s1; exact s1, s2⟩
              case measure => simp [intOf]; omega
            · obtain rfl : j = n + 1 := by omega
              go_wp2
              go_roundw
              case rel => exact ⟨i + 1, by omega, by go_num, hb, hz, hz1⟩
              case measure => simp [intOf]; omega
        · obtain rfl : i = n + 1 := by omega
          go_wp2
          go_roundw
          case rel => exact ⟨k + 1, by omega, by go_num, hb, hz, hz1⟩
          case measure => simp [intOf]; omega
    · obtain rfl : k = n + 1 := by omega
      go_wp2
      obtain ⟨F, hF⟩ : ∃ F, F = fwK n (n + 1) (ownF n D) := ⟨_, rfl⟩
      rw [← hF] at hz
      have HF := Lib.hid hF
      clear hF
      go_loopw [6] (fun i wr => ∃ i' : Nat, i' ≤ n + 1 ∧ i = .int .i64 (i' : Int) ∧ Hid (∀ m, m < i' → ¬ F m m < 0) ∧ Below w.heap.size w wr ∧ Hid (ZAt 26 wr w.heap.size n false F) ∧ Hid (ZAt 26 wr (w.heap.size + 1) 0 false zeroM)) (fun i _ => n + 2 - (intOf i).toNat)
      case atStart => exact ⟨0, Nat.zero_le _, rfl, (fun m hm => absurd hm (Nat.not_lt_zero _)), hb, hz, hz1⟩
      case round =>
        clear hb hz hz1 hnc
        obtain ⟨i, hi, rfl, hall, hb, hz, hz1⟩ := hrel
        have hnc := hz.out.n_cell
        by_cases hli : i ≤ n
        · have c1 := hz.out.cell i i (by omega) (by omega)
          by_cases hneg : F i i < 0
          · go_wp2_with (first
              | (go_at_call 107; refine (none_any _ _).mono ?_; rintro e W3 ⟨rfl, hb3⟩; have hz2 := hz1.out.below hb3 hz1.out.lt; have hb4 := hb.trans (hb3.mono hb.size))
              | (refine store_z rfl _ _ rfl rfl rfl hz2 ?_; intro W4 hz4 hg4 hs4)
              | fail)
            have hne : negB n (fwK n (n + 1) (ownF n D)) = true := by
              rw [← HF.out]; simp only [negB, List.any_eq_true, List.mem_range, decide_eq_true_eq]; exact ⟨i, by omega, hneg⟩
            have hfin : closeC n D = zc n true zeroM := by unfold closeC; rw [if_pos hne]
            exact bodyPost_ret (results_z rfl (by simp [Act.put]) hz4) rfl ⟨by rw [hfin], below_only hb4 hg4 hb4.size (by omega)⟩
          · go_wp2
            go_roundw
            case rel => exact ⟨i + 1, by omega, by go_num, (fun m hm => by by_cases h : m = i; · rw [h]; exact hneg
                                                                           · exact hall.out m (by omega)), hb, hz, hz1⟩
            case measure => simp [intOf]; omega
        · obtain rfl : i = n + 1 := by omega
          go_wp2_with (first
            | (refine load_z rfl _ rfl rfl hz.out ?_)
            | (refine store_z rfl _ _ rfl rfl rfl hz1.out ?_; intro W4 hz4 hg4 hs4)
            | fail)
          have hne : ¬ negB n (fwK n (n + 1) (ownF n D)) = true := by
            rw [← HF.out]; simp only [negB, List.any_eq_true, List.mem_range, decide_eq_true_eq]; rintro ⟨i, h1, h2⟩; have := hall.out i h1; omega
          have hfin : closeC n D = zc n false F := by unfold closeC; rw [if_neg hne, HF.out]
          exact bodyPost_ret (results_z rfl (by simp []) hz4) rfl ⟨by rw [hfin], below_only hb hg4 hb.size (by omega)⟩
end Go.Proofs.Ytgnkhncogfppgaa
