import Derived.Test.YtgnkhncogfppgaaY0
import Derived.Test.YtgnkhncogfppgaaQ2
import Derived.Test.YtgnkhncogfppgaaZ0
namespace Go.Proofs.Ytgnkhncogfppgaa
open Go.RowKit
theorem build_rnb (n : Int) (b : Bool) (w : World) : (Instr.build 38 #[(0, .int .i64 n), (1, .bool b)]).run Try.prog w = .ok (.agg (zc n b fun _ _ => 0)) w := by kernel_rfl
theorem build_rn (n : Int) (w : World) : (Instr.build 38 #[(0, .int .i64 n)]).run Try.prog w = .ok (.agg (zc n false fun _ _ => 0)) w := by kernel_rfl
set_option maxHeartbeats 2000000 in
theorem rclose_yes (n : Nat) (hn : n ≤ 6) (D : Mat) (w : World) : Calls Try.prog 82 #[.agg (zc n false D)] w (Ret w (.agg (rcloseZ ⟨n, false, D⟩).c)) := by
  go_enter Try.func82, Try.ntmps82
  go_wp2_with (first
    | (refine wpList_box_zone rfl 38 _ rfl _ _ _ rfl ?_; intro W hz hb hs; have hnc := hz.n_cell; have hbc := hz.b_cell) | (refine wpList_alloc_zone rfl 38 rfl rz ?_; intro W1 hz1 hb1 hs1; rw [hs.out] at hz1 hb1 hs1; have hz := hz.below hb1 (by omega); have hnc := hz.n_cell; have hbc := hz.b_cell; have hb := hb.trans (hb1.mono (by omega)); rw [hs.out]; clear hs hb1)
    | fail)
  have HZ : Hid (ZAt 38 W1 w.heap.size n false (ownF 0 D)) := hz
  have HZ1 := Lib.hid hz1
  have HB := Lib.hid hb
  clear hz hz1 hb hnc hbc hs1
  go_loopw [3] (fun i wr => ∃ k : Nat, k ≤ n ∧ i = .int .i64 ((k : Int) + 1) ∧ Hid (Below w.heap.size w wr) ∧ Hid (ZAt 38 wr w.heap.size n false (ownF k D)) ∧ Hid (ZAt 38 wr (w.heap.size + 1) 0 false zeroM)) (fun i _ => n + 1 - (intOf i).toNat)
  case atStart => exact ⟨0, Nat.zero_le _, rfl, HB, HZ, HZ1⟩
  case round =>
    clear HB HZ HZ1
    obtain ⟨k, hk, rfl, HB, HZ, HZ1⟩ := hrel
    have hc := HZ.out.n_cell
    by_cases hlt : k < n
    · have c1 := HZ.out.cell (k + 1) 0 (by omega) (by omega)
      have f1 := HZ.out.frozen (2 + (k + 1) * 7)
      have s1 := Lib.hid (HZ.out.set (k + 1) 0 (mn (ownF k D (k + 1) 0) 2147483647) (by omega) (by omega)).drew
      have g1 := Lib.hid ((HB.out.setCell (p := ⟨w.heap.size, 2 + (k + 1) * 7, none⟩) (Nat.le_refl _) (.int .i64 (mn (ownF k D (k + 1) 0) 2147483647))).drew)
      have r1 := Lib.hid (HZ1.out.set_other (a := ⟨w.heap.size, 2 + (k + 1) * 7, none⟩) (by simp) (.int .i64 (mn (ownF k D (k + 1) 0) 2147483647))).drew
      clear HB HZ HZ1
      simp only [Nat.add_zero] at c1 s1
      go_wp2
      go_region
      generalize (wr.setCell { block := w.heap.size, off := 2 + (k + 1) * 7 } (Value.int IntKind.i64 (mn (ownF k D (k + 1) 0) 2147483647))).drew = w2 at *
      have c2 := s1.out.cell 0 (k + 1) (by omega) (by omega)
      have f2 := s1.out.frozen (2 + (k + 1))
      simp only [Nat.zero_mul, Nat.add_zero] at c2
      obtain ⟨v, hv⟩ : ∃ v, v = upd (ownF k D) (k + 1) 0 (mn (ownF k D (k + 1) 0) 2147483647) 0 (k + 1) := ⟨_, rfl⟩
      have s2 := Lib.hid (s1.out.set 0 (k + 1) (mn v 2147483648) (by omega) (by omega))
      have g2 := Lib.hid (g1.out.setCell (p := ⟨w.heap.size, 2 + (k + 1), none⟩) (Nat.le_refl _) (.int .i64 (mn v 2147483648)))
      have r2 := Lib.hid (r1.out.set_other (a := ⟨w.heap.size, 2 + (k + 1), none⟩) (by simp) (.int .i64 (mn v 2147483648)))
      rw [← hv] at c2
      have hV := Lib.hid hv
      clear hv
      simp only [Nat.zero_mul, Nat.add_zero] at s2
      have hE : ownF (k + 1) D = upd (upd (ownF k D) (k + 1) 0 (mn (ownF k D (k + 1) 0) 2147483647)) 0 (k + 1) (mn v 2147483648) := by rw [hV.out]; rfl
      rw [← hE] at s2
      clear hE
      go_wp2
      go_roundw
      case rel => exact ⟨k + 1, by omega, by go_num, g2, s2, r2⟩
      case measure => simp [intOf]; omega
    · obtain rfl : k = n := by omega
      go_wp2
      obtain ⟨A, hA⟩ : ∃ A, A = ownF k D := ⟨_, rfl⟩
      rw [← hA] at HZ
      have HA := Lib.hid hA
      clear hA
      have HZ : Hid (ZAt 38 wr w.heap.size k false (rR k 0 A)) := HZ
      go_loopw [4] (fun i wr => ∃ m : Nat, m ≤ k + 2 ∧ i = .int .i64 (m : Int) ∧ Hid (Below w.heap.size w wr) ∧ Hid (ZAt 38 wr w.heap.size k false (rR k m A)) ∧ Hid (ZAt 38 wr (w.heap.size + 1) 0 false zeroM)) (fun i _ => k + 3 - (intOf i).toNat)
      case atStart => exact ⟨0, Nat.zero_le _, rfl, HB, HZ, HZ1⟩
      case round =>
        clear HB HZ HZ1 hc
        obtain ⟨m, hm, rfl, HB, HZ, HZ1⟩ := hrel
        have hc := HZ.out.n_cell
        by_cases hlm : m ≤ k + 1
        · go_wp2
          go_loopw [5] (fun i_ wr => ∃ i : Nat, i ≤ k + 1 ∧ i_ = .int .i64 (i : Int) ∧ Hid (Below w.heap.size w wr) ∧ Hid (ZAt 38 wr w.heap.size k false (rI k i (rR k m A))) ∧ Hid (ZAt 38 wr (w.heap.size + 1) 0 false zeroM)) (fun i _ => k + 2 - (intOf i).toNat)
          case atStart => exact ⟨0, Nat.zero_le _, rfl, HB, HZ, HZ1⟩
          case round =>
            clear HB HZ HZ1 hc
            obtain ⟨i, hi, rfl, HB, HZ, HZ1⟩ := hrel
            have hc := HZ.out.n_cell
            by_cases hli : i ≤ k
            · go_wp2
              go_loopw [6] (fun i_ wr => ∃ j : Nat, j ≤ k + 1 ∧ i_ = .int .i64 (j : Int) ∧ Hid (Below w.heap.size w wr) ∧ Hid (ZAt 38 wr w.heap.size k false (rJ k i j (rI k i (rR k m A)))) ∧ Hid (ZAt 38 wr (w.heap.size + 1) 0 false zeroM)) (fun i _ => k + 2 - (intOf i).toNat)
              case atStart => exact ⟨0, Nat.zero_le _, rfl, HB, HZ, HZ1⟩
              case round =>
                clear HB HZ HZ1 hc
                obtain ⟨j, hj, rfl, HB, HZ, HZ1⟩ := hrel
                have hc := HZ.out.n_cell
                by_cases hlj : j ≤ k
                · go_wp2
                  go_loopw [7] (fun i_ wr => ∃ x : Nat, x ≤ k + 1 ∧ i_ = .int .i64 (x : Int) ∧ Hid (Below w.heap.size w wr) ∧ Hid (ZAt 38 wr w.heap.size k false (rK i j x (rJ k i j (rI k i (rR k m A))))) ∧ Hid (ZAt 38 wr (w.heap.size + 1) 0 false zeroM)) (fun i _ => k + 2 - (intOf i).toNat)
                  case atStart => exact ⟨0, Nat.zero_le _, rfl, HB, HZ, HZ1⟩
                  case round =>
                    clear HB HZ HZ1 hc
                    obtain ⟨x, hx, rfl, HB, HZ, HZ1⟩ := hrel
                    have hc := HZ.out.n_cell
                    by_cases hlx : x ≤ k
                    · obtain ⟨S, hS⟩ : ∃ S, S = rK i j x (rJ k i j (rI k i (rR k m A))) := ⟨_, rfl⟩
                      rw [← hS] at HZ
                      have HS := Lib.hid hS
                      clear hS
                      have c1 := HZ.out.cell i j (by omega) (by omega)
                      have c2 := HZ.out.cell i x (by omega) (by omega)
                      have c3 := HZ.out.cell x j (by omega) (by omega)
                      have f1 := HZ.out.frozen (2 + i * 7 + j)
                      have s1 := Lib.hid (HZ.out.set i j (mx (mn (S i j) (wrap64 (S i x + S x j))) (-35184372088832)) (by omega) (by omega)).drew
                      have s2 := Lib.hid (HZ1.out.set_other (a := ⟨w.heap.size, 2 + i * 7 + j, none⟩) (by simp) (.int .i64 (mx (mn (S i j) (wrap64 (S i x + S x j))) (-35184372088832)))).drew
                      have s3 := Lib.hid ((HB.out.setCell (p := ⟨w.heap.size, 2 + i * 7 + j, none⟩) (Nat.le_refl _) (.int .i64 (mx (mn (S i j) (wrap64 (S i x + S x j))) (-35184372088832)))).drew)
                      clear HB HZ HZ1
                      go_wp2
                      go_region
                      generalize (wr.setCell { block := w.heap.size, off := 2 + i * 7 + j } (Value.int IntKind.i64 (mx (mn (S i j) (wrap64 (S i x + S x j))) (-35184372088832)))).drew = w3 at *
                      go_wp2
                      go_roundw
                      case rel => exact ⟨x + 1, by omega, by go_num, s3, by rw [wrap64_w64, HS.out] at s1; exact s1, s2⟩
                      case measure => simp [intOf]; omega
                    · obtain rfl : x = k + 1 := by omega
                      go_wp2
                      go_roundw
                      case rel => exact ⟨j + 1, by omega, by go_num, HB, HZ, HZ1⟩
                      case measure => simp [intOf]; omega
                · obtain rfl : j = k + 1 := by omega
                  go_wp2
                  go_roundw
                  case rel => exact ⟨i + 1, by omega, by go_num, HB, HZ, HZ1⟩
                  case measure => simp [intOf]; omega
            · obtain rfl : i = k + 1 := by omega
              go_wp2
              go_roundw
              case rel => exact ⟨m + 1, by omega, by go_num, HB, HZ, HZ1⟩
              case measure => simp [intOf]; omega
        · obtain rfl : m = k + 2 := by omega
          go_wp2
          obtain ⟨F, hF⟩ : ∃ F, F = rR k (k + 2) A := ⟨_, rfl⟩
          rw [← hF] at HZ
          have HF := Lib.hid hF
          clear hF
          go_loopw [8] (fun i_ wr => ∃ i' : Nat, i' ≤ k + 1 ∧ i_ = .int .i64 (i' : Int) ∧ Hid (∀ m, m < i' → ¬ F m m < 0) ∧ Hid (Below w.heap.size w wr) ∧ Hid (ZAt 38 wr w.heap.size k false F) ∧ Hid (ZAt 38 wr (w.heap.size + 1) 0 false zeroM)) (fun i _ => k + 2 - (intOf i).toNat)
          case atStart => exact ⟨0, Nat.zero_le _, rfl, (fun m hm => absurd hm (Nat.not_lt_zero _)), HB, HZ, HZ1⟩
          case round =>
            clear HB HZ HZ1 hc
            obtain ⟨i, hi, rfl, hall, HB, HZ, HZ1⟩ := hrel
            have hc := HZ.out.n_cell
            by_cases hli : i ≤ k
            · have c1 := HZ.out.cell i i (by omega) (by omega)
              by_cases hneg : F i i < 0
              · have hz1 := HZ1.out
                have hb := HB.out
                go_wp2_with (first
                  | (refine wpList_build_val rfl 38 _ rfl #[(0, .int .i64 k), (1, .bool true)] (by simp [Act.eval]) _ (build_rnb k true _) ?_)
                  | (refine store_r rfl _ _ rfl rfl rfl hz1 ?_; intro W4 hz4 hg4 hs4)
                  | fail)
                have hne : negB k (rR k (k + 2) (ownF k D)) = true := by
                  rw [← HA.out, ← HF.out]; simp only [negB, List.any_eq_true, List.mem_range, decide_eq_true_eq]; exact ⟨i, by omega, hneg⟩
                have hfin : (rcloseZ ⟨k, false, D⟩).c = zc k true zeroM := by unfold rcloseZ; rw [if_pos hne]; rfl
                exact bodyPost_ret (results_r rfl (by simp []) hz4) rfl ⟨by rw [hfin]; rfl, below_only hb hg4 hb.size (by omega)⟩
              · go_wp2
                go_roundw
                case rel => exact ⟨i + 1, by omega, by go_num, (fun m hm => by by_cases h : m = i; · rw [h]; exact hneg
                                                                               · exact hall.out m (by omega)), HB, HZ, HZ1⟩
                case measure => simp [intOf]; omega
            · obtain rfl : i = k + 1 := by omega
              have hz := HZ.out
              have hz1 := HZ1.out
              have hb := HB.out
              go_wp2_with (first
                | (refine load_r rfl _ rfl rfl hz ?_)
                | (refine store_r rfl _ _ rfl rfl rfl hz1 ?_; intro W4 hz4 hg4 hs4)
                | fail)
              have hne : ¬ negB k (rR k (k + 2) (ownF k D)) = true := by
                rw [← HA.out, ← HF.out]; simp only [negB, List.any_eq_true, List.mem_range, decide_eq_true_eq]; rintro ⟨i, h1, h2⟩; have := hall.out i h1; omega
              have hfin : (rcloseZ ⟨k, false, D⟩).c = zc k false F := by unfold rcloseZ; rw [if_neg hne, ← HA.out, ← HF.out]; rfl
              exact bodyPost_ret (results_r rfl (by simp []) hz4) rfl ⟨by rw [hfin], below_only hb hg4 hb.size (by omega)⟩
/-- The document's close of none. -/
theorem rclose_none (n : Nat) (D : Mat) (w : World) : Calls Try.prog 82 #[.agg (zc n true D)] w (Ret w (.agg (noneZ n).c)) := by
  go_enter Try.func82, Try.ntmps82
  go_wp2_with (first
    | (refine wpList_box_zone rfl 38 _ rfl _ _ _ rfl ?_; intro W hz hb hs; have hnc := hz.n_cell; have hbc := hz.b_cell) | (refine wpList_alloc_zone rfl 38 rfl rz ?_; intro W1 hz1 hb1 hs1; rw [hs.out] at hz1 hb1 hs1; have hz := hz.below hb1 (by omega); have hnc := hz.n_cell; have hbc := hz.b_cell; have hb := hb.trans (hb1.mono (by omega)); rw [hs.out]; clear hs hb1)
    | (refine wpList_build_val rfl 38 _ rfl #[(0, .int .i64 n), (1, .bool true)] (by simp [Act.eval]) _ (build_rnb n true _) ?_)
    | (refine store_r rfl _ _ rfl rfl rfl hz1 ?_; intro W4 hz4 hg4 hs4)
    | fail)
  exact bodyPost_ret (results_r rfl (by simp [Act.put]) hz4) rfl ⟨rfl, below_only hb hg4 hb.size (by omega)⟩
/-- The document's close is the program's. -/
theorem rclose_any {z : Zn} (h : Pre z) (w : World) : Calls Try.prog 82 #[.agg z.c] w (Ret w (.agg (closeZ z).c)) := by
  have := rclose_yes z.n h.n z.D w
  rw [show (⟨z.n, false, z.D⟩ : Zn) = z by rw [← h.none], rclose_eq h] at this
  rw [Zn.c, h.none]
  exact this
end Go.Proofs.Ytgnkhncogfppgaa
