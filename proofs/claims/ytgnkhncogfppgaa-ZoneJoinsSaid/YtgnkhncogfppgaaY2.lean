import Derived.Test.YtgnkhncogfppgaaY1
import Derived.Test.YtgnkhncogfppgaaZ4
namespace Go.Proofs.Ytgnkhncogfppgaa
open Go.RowKit
set_option maxHeartbeats 1000000 in
theorem rtop_any (n : Nat) (hn : n ≤ 6) (w : World) : Calls Try.prog 27 #[.int .i64 n] w (Ret w (.agg (topZ n).c)) := by
  have e : mn (mx (n : Int) 0) 6 = n := by unfold mn mx; split <;> split <;> omega
  have hc : ∀ (W : World), Calls Try.prog 82 #[.agg (zc n false (topM n))] W (Ret W (.agg (topZ n).c)) := fun W => rclose_any (topM_pre hn) W
  have HC := Lib.hid hc
  clear hc
  go_enter Try.func27, Try.ntmps27
  go_wp2_with (first
    | (have _t := hzR; refine wpList_alloc_zone rfl 38 rfl rz ?_; intro W1 hz hb1 hs1; rw [hs.out] at hz hb1 hs1; have hz1 := hzR.below hb1 (by omega); have hb := hb.trans (hb1.mono (by omega)); rw [hs.out]; clear hzR hs hb1 _t)
    | (refine wpList_alloc_zone rfl 38 rfl rz ?_; intro W hzR hb hs)
    | (refine wpList_build_val rfl 38 _ rfl #[(0, .int .i64 n)] (by simp [Act.eval]) _ (build_rn n _) ?_)
    | (refine store_r rfl _ _ rfl rfl rfl hz ?_; intro W4 hz4 hg4 hs4; have hz := hz4; have hz1 := hz1.only hg4 (by omega); have hb := below_only hb hg4 hb.size (by omega); have hnc := hz.n_cell; clear hz4 hg4)
    | fail)
  have HZ : Hid (ZAt 38 W4 (w.heap.size + 1) n false (topP n 0 0)) := by rw [topP_start]; exact hz
  have HZ1 := Lib.hid hz1
  have HB := Lib.hid hb
  clear hz hz1 hb hnc
  go_loopw [4] (fun i_ wr => ∃ i : Nat, i ≤ n + 1 ∧ i_ = .int .i64 (i : Int) ∧ Hid (Below w.heap.size w wr) ∧ Hid (ZAt 38 wr (w.heap.size + 1) n false (topP n i 0)) ∧ Hid (ZAt 38 wr w.heap.size 0 false zeroM)) (fun i _ => n + 2 - (intOf i).toNat)
  case atStart => exact ⟨0, Nat.zero_le _, rfl, HB, HZ, HZ1⟩
  case round =>
    clear HB HZ HZ1
    obtain ⟨i, hi, rfl, HB, HZ, HZ1⟩ := hrel
    have hnc := HZ.out.n_cell
    by_cases hlt : i ≤ n
    · go_wp2
      go_loopw [5] (fun j_ wr => ∃ j : Nat, j ≤ n + 1 ∧ j_ = .int .i64 (j : Int) ∧ Hid (Below w.heap.size w wr) ∧ Hid (ZAt 38 wr (w.heap.size + 1) n false (topP n i j)) ∧ Hid (ZAt 38 wr w.heap.size 0 false zeroM)) (fun i _ => n + 2 - (intOf i).toNat)
      case atStart => exact ⟨0, Nat.zero_le _, rfl, HB, HZ, HZ1⟩
      case round =>
        clear HB HZ HZ1 hnc
        obtain ⟨j, hj, rfl, HB, HZ, HZ1⟩ := hrel
        have hnc := HZ.out.n_cell
        by_cases hlj : j ≤ n
        · by_cases hij : i = j
          · subst hij
            go_wp2
            go_roundw
            case rel => exact ⟨i + 1, by omega, by go_num, HB, by rw [← topP_same]; exact HZ, HZ1⟩
            case measure => simp [intOf]; omega
          · have hne : ((i : Int) != (j : Int)) = true := by simp; omega
            have c1 := HZ.out.cell i j (by omega) (by omega)
            have f1 := HZ.out.frozen (2 + i * 7 + j)
            have s1 := Lib.hid (HZ.out.set i j far (by omega) (by omega))
            rw [topP_next n i j hlt hlj hij] at s1
            have s2 := Lib.hid (HZ1.out.set_other (a := ⟨w.heap.size + 1, 2 + i * 7 + j, none⟩) (by simp) (.int .i64 far))
            have s3 := Lib.hid (HB.out.setCell (p := ⟨w.heap.size + 1, 2 + i * 7 + j, none⟩) (by simp) (.int .i64 far))
            go_wp2
            go_roundw
            case rel => exact ⟨j + 1, by omega, by go_num, s3, s1, s2⟩
            case measure => simp [intOf]; omega
        · obtain rfl : j = n + 1 := by omega
          rw [topP_row] at HZ
          go_wp2
          go_roundw
          case rel => exact ⟨i + 1, by omega, by go_num, HB, HZ, HZ1⟩
          case measure => simp [intOf]; omega
    · obtain rfl : i = n + 1 := by omega
      rw [topP_end] at HZ
      have hz := HZ.out
      have hz1 := HZ1.out
      have hb := HB.out
      have hbc := hz.b_cell
      go_wp2_with (first
        | (refine load_r rfl _ rfl rfl hz ?_)
        | (go_at_call 82; ((with_reducible refine (HC.out _).mono ?_); rintro e W2 ⟨rfl, hb2⟩; have hz := hz.below hb2 hz.lt; have hz1 := hz1.below hb2 hz1.lt; have hnc := hz.n_cell; have hbc := hz.b_cell; have hb := hb.trans (hb2.mono hb.size); clear hb2))
        | (refine store_r rfl _ _ rfl rfl rfl hz1 ?_; intro W4 hz4 hg4 hs4)
        | fail)
      exact bodyPost_ret (results_r rfl (by simp [Act.put]) hz4) rfl ⟨rfl, below_only hb hg4 hb.size (by omega)⟩
set_option maxHeartbeats 400000 in
/-- The document's Bound is the program's. -/
theorem rbound_any {z : Zn} (h : OKZ z) {i j : Nat} (hi : i ≤ z.n) (hj : j ≤ z.n) (hij : i ≠ j) {d : Int} (hd : -274877906944 ≤ d) (w : World) :
    Calls Try.prog 29 #[.agg z.c, .int .i64 ((i : Int) - 1), .int .i64 ((j : Int) - 1), .int .i64 d] w (Ret w (.agg (boundZ z ((i : Int) - 1) ((j : Int) - 1) d).c)) := by
  have hn6 := h.n
  cases hno : z.none with
  | true =>
    rw [boundZ_none hno, Zn.c, hno]
    clear hno h
    go_enter Try.func29, Try.ntmps29
    go_wp2_with (first
      | (refine wpList_box_zone rfl 38 _ rfl _ _ _ rfl ?_; intro W hz hb hs; have hnc := hz.n_cell; have hbc := hz.b_cell) | (refine wpList_alloc_zone rfl 38 rfl rz ?_; intro W1 hz1 hb1 hs1; rw [hs.out] at hz1 hb1 hs1; have hz := hz.below hb1 (by omega); have hnc := hz.n_cell; have hbc := hz.b_cell; have hb := hb.trans (hb1.mono (by omega)); rw [hs.out]; clear hs hb1)
      | (refine load_r rfl _ rfl rfl hz ?_)
      | (refine store_r rfl _ _ rfl rfl rfl hz1 ?_; intro W4 hz4 hg4 hs4)
      | fail)
    exact bodyPost_ret (results_r rfl (by simp [Act.put]) hz4) rfl ⟨rfl, below_only hb hg4 hb.size (by omega)⟩
  | false =>
    obtain ⟨v, hv⟩ : ∃ v, v = mn (z.D i j) d := ⟨_, rfl⟩
    have hfin : boundZ z ((i : Int) - 1) ((j : Int) - 1) d = closeZ ⟨z.n, false, upd z.D i j v⟩ := by
      rw [boundZ_yes hno hi hj, hv, ← hno]
      show closeZ { z with D := upd z.D i j (mn (z.D i j) (mx d (-far))) } = _
      rw [show mx d (-far) = d by unfold mx far; split <;> omega]
    have hpre : Pre ⟨z.n, false, upd z.D i j v⟩ := by
      have := setB_pre h hno hi hj hij hd
      unfold setB at this
      rw [show mx d (-far) = d by unfold mx far; split <;> omega, hno, ← hv] at this
      exact this
    have hc : ∀ (W : World), Calls Try.prog 82 #[.agg (zc z.n false (upd z.D i j v))] W (Ret W (.agg (closeZ ⟨z.n, false, upd z.D i j v⟩).c)) := fun W => rclose_any hpre W
    rw [hfin, Zn.c, hno]
    have HC := Lib.hid hc
    have HV := Lib.hid hv
    clear hno h hc hpre hfin hv
    go_enter Try.func29, Try.ntmps29
    go_wp2_with (first
      | (refine wpList_box_zone rfl 38 _ rfl _ _ _ rfl ?_; intro W hz hb hs; have hnc := hz.n_cell; have hbc := hz.b_cell) | (refine wpList_alloc_zone rfl 38 rfl rz ?_; intro W1 hz1 hb1 hs1; rw [hs.out] at hz1 hb1 hs1; have hz := hz.below hb1 (by omega); have hnc := hz.n_cell; have hbc := hz.b_cell; have hb := hb.trans (hb1.mono (by omega)); rw [hs.out]; clear hs hb1)
      | fail)
    have c1 := hz.cell i j (by omega) (by omega)
    have f1 := hz.frozen (2 + i * 7 + j)
    have s1 := Lib.hid (hz.set i j v (by omega) (by omega)).drew
    have s2 := Lib.hid (hz1.set_other (a := ⟨w.heap.size, 2 + i * 7 + j, none⟩) (by simp) (.int .i64 v)).drew
    have s3 := Lib.hid ((hb.setCell (p := ⟨w.heap.size, 2 + i * 7 + j, none⟩) (Nat.le_refl _) (.int .i64 v)).drew)
    clear hz1 hb
    go_region
    rw [← HV.out]
    generalize (W1.setCell { block := w.heap.size, off := 2 + i * 7 + j } (Value.int IntKind.i64 v)).drew = w3 at *
    have hz := s1.out
    have hz1 := s2.out
    have hb := s3.out
    clear c1 f1 s1 s2 s3
    go_wp2_with (first
      | (refine load_r rfl _ rfl rfl hz ?_)
      | (go_at_call 82; ((with_reducible refine (HC.out _).mono ?_); rintro e W2 ⟨rfl, hb2⟩; have hz := hz.below hb2 hz.lt; have hz1 := hz1.below hb2 hz1.lt; have hnc := hz.n_cell; have hbc := hz.b_cell; have hb := hb.trans (hb2.mono hb.size); clear hb2))
      | (refine store_r rfl _ _ rfl rfl rfl hz1 ?_; intro W4 hz4 hg4 hs4)
      | fail)
    exact bodyPost_ret (results_r rfl (by simp [Act.put]) hz4) rfl ⟨rfl, below_only hb hg4 hb.size (by omega)⟩
set_option maxHeartbeats 400000 in
/-- The document's Forget is the program's. -/
theorem rforget_any {z : Zn} (h : OKZ z) {i : Nat} (hi : i < z.n) (w : World) : Calls Try.prog 83 #[.agg z.c, .int .i64 (i : Int)] w (Ret w (.agg (forgetZ z (i : Int)).c)) := by
  have hn6 := h.n
  cases hno : z.none with
  | true =>
    rw [forgetZ_no _ (by rw [varB_iff, hno]; simp), Zn.c, hno]
    clear hno h
    go_enter Try.func83, Try.ntmps83
    go_wp2_with (first
      | (refine wpList_box_zone rfl 38 _ rfl _ _ _ rfl ?_; intro W hz hb hs; have hnc := hz.n_cell; have hbc := hz.b_cell) | (refine wpList_alloc_zone rfl 38 rfl rz ?_; intro W1 hz1 hb1 hs1; rw [hs.out] at hz1 hb1 hs1; have hz := hz.below hb1 (by omega); have hnc := hz.n_cell; have hbc := hz.b_cell; have hb := hb.trans (hb1.mono (by omega)); rw [hs.out]; clear hs hb1)
      | (refine load_r rfl _ rfl rfl hz ?_)
      | (refine store_r rfl _ _ rfl rfl rfl hz1 ?_; intro W4 hz4 hg4 hs4)
      | fail)
    exact bodyPost_ret (results_r rfl (by simp [Act.put]) hz4) rfl ⟨rfl, below_only hb hg4 hb.size (by omega)⟩
  | false =>
    have hfin : forgetZ z (i : Int) = closeZ ⟨z.n, false, forgetM (i + 1) (z.n + 1) z.D⟩ := by
      rw [forgetZ_yes hno hi, ← hno]; rfl
    have hpre : Pre ⟨z.n, false, forgetM (i + 1) (z.n + 1) z.D⟩ := by
      have := clear_pre h hno (row := i + 1) (by omega)
      unfold clearZ at this
      rw [hno] at this
      exact this
    have hc : ∀ (W : World), Calls Try.prog 82 #[.agg (zc z.n false (forgetM (i + 1) (z.n + 1) z.D))] W (Ret W (.agg (closeZ ⟨z.n, false, forgetM (i + 1) (z.n + 1) z.D⟩).c)) := fun W => rclose_any hpre W
    rw [hfin, Zn.c, hno]
    have HC := Lib.hid hc
    clear hno h hc hpre hfin
    obtain ⟨n, b, D⟩ := z
    have hn6 : n ≤ 6 := hn6
    have hi : i < n := hi
    have HC : Hid (∀ (W : World), Calls Try.prog 82 #[.agg (zc n false (forgetM (i + 1) (n + 1) D))] W (Ret W (.agg (closeZ ⟨n, false, forgetM (i + 1) (n + 1) D⟩).c))) := HC
    show Calls Try.prog 83 #[.agg (zc n false D), .int .i64 (i : Int)] w (Ret w (.agg (closeZ ⟨n, false, forgetM (i + 1) (n + 1) D⟩).c))
    go_enter Try.func83, Try.ntmps83
    go_wp2_with (first
      | (refine wpList_box_zone rfl 38 _ rfl _ _ _ rfl ?_; intro W hz hb hs; have hnc := hz.n_cell; have hbc := hz.b_cell) | (refine wpList_alloc_zone rfl 38 rfl rz ?_; intro W1 hz1 hb1 hs1; rw [hs.out] at hz1 hb1 hs1; have hz := hz.below hb1 (by omega); have hnc := hz.n_cell; have hbc := hz.b_cell; have hb := hb.trans (hb1.mono (by omega)); rw [hs.out]; clear hs hb1)
      | fail)
    have HZ := Lib.hid hz
    have HZ1 := Lib.hid hz1
    have HB := Lib.hid hb
    clear hz hz1 hb hnc hbc hs1
    go_loopw [5] (fun i_ wr => ∃ k : Nat, k ≤ n + 1 ∧ i_ = .int .i64 (k : Int) ∧ Hid (Below w.heap.size w wr) ∧ Hid (ZAt 38 wr w.heap.size n false (forgetM (i + 1) k D)) ∧ Hid (ZAt 38 wr (w.heap.size + 1) 0 false zeroM)) (fun i _ => n + 2 - (intOf i).toNat)
    case atStart => exact ⟨0, Nat.zero_le _, rfl, HB, HZ, HZ1⟩
    case round =>
      clear HB HZ HZ1
      obtain ⟨k, hk, rfl, HB, HZ, HZ1⟩ := hrel
      have hnc := HZ.out.n_cell
      by_cases hlt : k ≤ n
      · by_cases hkr : k = i + 1
        · subst hkr
          have hne : (((i + 1 : Nat) : Int) != (i : Int) + 1) = false := by simp
          go_wp2
          go_roundw
          case rel => exact ⟨i + 1 + 1, by omega, by go_num, HB, by show ZAt _ _ _ _ _ (forgetS (i + 1) (i + 1) (forgetM (i + 1) (i + 1) D)); unfold forgetS; rw [if_neg (by simp)]; exact HZ, HZ1⟩
          case measure => simp [intOf]; omega
        · have hne : ((k : Int) != (i : Int) + 1) = true := by simp; omega
          obtain ⟨S, hS⟩ : ∃ S, S = forgetM (i + 1) k D := ⟨_, rfl⟩
          rw [← hS] at HZ
          have HS := Lib.hid hS
          clear hS
          have c1 := HZ.out.cell k (i + 1) (by omega) (by omega)
          have f1 := HZ.out.frozen (2 + k * 7 + (i + 1))
          have f2 := HZ.out.frozen (2 + (i + 1) * 7 + k)
          have g1 := HZ.out.set k (i + 1) far (by omega) (by omega)
          have c2 := g1.cell (i + 1) k (by omega) (by omega)
          have c3 := HZ.out.cell (i + 1) k (by omega) (by omega)
          rw [upd_ne _ _ _ _ (by omega)] at c2
          have s1 := Lib.hid (g1.set (i + 1) k far (by omega) (by omega)).drew
          have s2 := Lib.hid ((HZ1.out.set_other (a := ⟨w.heap.size, 2 + k * 7 + (i + 1), none⟩) (by simp) (.int .i64 far)).set_other (a := ⟨w.heap.size, 2 + (i + 1) * 7 + k, none⟩) (by simp) (.int .i64 far)).drew
          have s3 := Lib.hid (((HB.out.setCell (p := ⟨w.heap.size, 2 + k * 7 + (i + 1), none⟩) (Nat.le_refl _) (.int .i64 far)).setCell (p := ⟨w.heap.size, 2 + (i + 1) * 7 + k, none⟩) (Nat.le_refl _) (.int .i64 far)).drew)
          have e1 : (0 : Int) ≤ (i : Int) + 1 := by omega
          have e2 : ((i : Int) + 1).toNat = i + 1 := by omega
          clear g1 HB HZ HZ1
          go_wp2
          go_region
          generalize ((wr.setCell { block := w.heap.size, off := 2 + k * 7 + (i + 1) } (Value.int IntKind.i64 far)).setCell { block := w.heap.size, off := 2 + (i + 1) * 7 + k } (Value.int IntKind.i64 far)).drew = w3 at *
          have hE : forgetM (i + 1) (k + 1) D = upd (upd S k (i + 1) far) (i + 1) k far := by
            show forgetS (i + 1) k (forgetM (i + 1) k D) = _
            unfold forgetS
            rw [if_pos hkr, ← HS.out]
          rw [← hE] at s1
          clear hE c1 c2 c3 f1 f2 e1 e2
          go_wp2
          go_roundw
          case rel => exact ⟨k + 1, by omega, by go_num, s3, s1, s2⟩
          case measure => simp [intOf]; omega
      · obtain rfl : k = n + 1 := by omega
        have hz := HZ.out
        have hz1 := HZ1.out
        have hb := HB.out
        have hbc := hz.b_cell
        go_wp2_with (first
          | (refine load_r rfl _ rfl rfl hz ?_)
          | (go_at_call 82; ((with_reducible refine (HC.out _).mono ?_); rintro e W2 ⟨rfl, hb2⟩; have hz := hz.below hb2 hz.lt; have hz1 := hz1.below hb2 hz1.lt; have hnc := hz.n_cell; have hbc := hz.b_cell; have hb := hb.trans (hb2.mono hb.size); clear hb2))
          | (refine store_r rfl _ _ rfl rfl rfl hz1 ?_; intro W4 hz4 hg4 hs4)
          | fail)
        exact bodyPost_ret (results_r rfl (by simp [Act.put]) hz4) rfl ⟨rfl, below_only hb hg4 hb.size (by omega)⟩
set_option maxHeartbeats 1000000 in
/-- A row and its column moved, as the document moves them. -/
theorem rcopy_same {z : Zn} (h : OKZ z) (hno : z.none = false) {i : Nat} (hi : i < z.n) {d : Int} (hd : -137438953472 ≤ d ∧ d ≤ 137438953472) (w : World) :
    Calls Try.prog 84 #[.agg z.c, .int .i64 (i : Int), .int .i64 (i : Int), .int .i64 d] w (Ret w (.agg (copyZ z (i : Int) (i : Int) d).c)) := by
  have hn6 := h.n
  have hfin : copyZ z (i : Int) (i : Int) d = closeZ ⟨z.n, false, movedM (i + 1) d (z.n + 1) z.D⟩ := by
    rw [copyZ_same hno hi hd, ← hno]; rfl
  have hpre : Pre ⟨z.n, false, movedM (i + 1) d (z.n + 1) z.D⟩ := by
    have := mid_pre h hno (row := i + 1) (by omega) hd
    unfold midZ at this
    rw [hno] at this
    exact this
  have hc : ∀ (W : World), Calls Try.prog 82 #[.agg (zc z.n false (movedM (i + 1) d (z.n + 1) z.D))] W (Ret W (.agg (closeZ ⟨z.n, false, movedM (i + 1) d (z.n + 1) z.D⟩).c)) := fun W => rclose_any hpre W
  rw [hfin, Zn.c, hno]
  have HC := Lib.hid hc
  clear hno h hc hpre hfin
  obtain ⟨n, b, D⟩ := z
  have hn6 : n ≤ 6 := hn6
  have hi : i < n := hi
  have HC : Hid (∀ (W : World), Calls Try.prog 82 #[.agg (zc n false (movedM (i + 1) d (n + 1) D))] W (Ret W (.agg (closeZ ⟨n, false, movedM (i + 1) d (n + 1) D⟩).c))) := HC
  show Calls Try.prog 84 #[.agg (zc n false D), .int .i64 (i : Int), .int .i64 (i : Int), .int .i64 d] w (Ret w (.agg (closeZ ⟨n, false, movedM (i + 1) d (n + 1) D⟩).c))
  go_enter Try.func84, Try.ntmps84
  go_wp2_with (first
    | (refine wpList_box_zone rfl 38 _ rfl _ _ _ rfl ?_; intro W hz hb hs; have hnc := hz.n_cell; have hbc := hz.b_cell) | (refine wpList_alloc_zone rfl 38 rfl rz ?_; intro W1 hz1 hb1 hs1; rw [hs.out] at hz1 hb1 hs1; have hz := hz.below hb1 (by omega); have hnc := hz.n_cell; have hbc := hz.b_cell; have hb := hb.trans (hb1.mono (by omega)); rw [hs.out]; clear hs hb1)
    | fail)
  have HZ := Lib.hid hz
  have HZ1 := Lib.hid hz1
  have HB := Lib.hid hb
  clear hz hz1 hb hnc hbc hs1
  go_loopw [9] (fun i_ wr => ∃ k : Nat, k ≤ n + 1 ∧ i_ = .int .i64 (k : Int) ∧ Hid (Below w.heap.size w wr) ∧ Hid (ZAt 38 wr w.heap.size n false (movedM (i + 1) d k D)) ∧ Hid (ZAt 38 wr (w.heap.size + 1) 0 false zeroM)) (fun i _ => n + 2 - (intOf i).toNat)
  case atStart => exact ⟨0, Nat.zero_le _, rfl, HB, HZ, HZ1⟩
  case round =>
    clear HB HZ HZ1
    obtain ⟨k, hk, rfl, HB, HZ, HZ1⟩ := hrel
    have hnc := HZ.out.n_cell
    by_cases hlt : k ≤ n
    · by_cases hkr : k = i + 1
      · subst hkr
        have hne : (((i + 1 : Nat) : Int) != (i : Int) + 1) = false := by simp
        go_wp2
        go_roundw
        case rel => exact ⟨i + 1 + 1, by omega, by go_num, HB, by show ZAt _ _ _ _ _ (movedS (i + 1) d (i + 1) (movedM (i + 1) d (i + 1) D)); unfold movedS; rw [if_neg (by simp)]; exact HZ, HZ1⟩
        case measure => simp [intOf]; omega
      · have hne : ((k : Int) != (i : Int) + 1) = true := by simp; omega
        obtain ⟨S, hS⟩ : ∃ S, S = movedM (i + 1) d k D := ⟨_, rfl⟩
        rw [← hS] at HZ
        have e1 : (0 : Int) ≤ (i : Int) + 1 := by omega
        have e2 : ((i : Int) + 1).toNat = i + 1 := by omega
        have c1 := HZ.out.cell (i + 1) k (by omega) (by omega)
        have f1 := HZ.out.frozen (2 + (i + 1) * 7 + k)
        obtain ⟨v, hv⟩ : ∃ v, v = wrap64 (S (i + 1) k + d) := ⟨_, rfl⟩
        have s1 := Lib.hid (HZ.out.set (i + 1) k v (by omega) (by omega)).drew
        have s2 := Lib.hid (HZ1.out.set_other (a := ⟨w.heap.size, 2 + (i + 1) * 7 + k, none⟩) (by simp) (.int .i64 v)).drew
        have s3 := Lib.hid ((HB.out.setCell (p := ⟨w.heap.size, 2 + (i + 1) * 7 + k, none⟩) (Nat.le_refl _) (.int .i64 v)).drew)
        have HV := Lib.hid hv
        have HS := Lib.hid hS
        clear hv hS HZ HB HZ1
        go_wp2
        go_region
        rw [← HV.out]
        generalize (wr.setCell { block := w.heap.size, off := 2 + (i + 1) * 7 + k } (Value.int IntKind.i64 v)).drew = w3 at *
        have c2 := s1.out.cell k (i + 1) (by omega) (by omega)
        have f2 := s1.out.frozen (2 + k * 7 + (i + 1))
        rw [upd_ne _ _ _ _ (by omega)] at c2
        obtain ⟨u, hu⟩ : ∃ u, u = wrap64 (S k (i + 1) - d) := ⟨_, rfl⟩
        have t1 := Lib.hid (s1.out.set k (i + 1) u (by omega) (by omega)).drew
        have t2 := Lib.hid (s2.out.set_other (a := ⟨w.heap.size, 2 + k * 7 + (i + 1), none⟩) (by simp) (.int .i64 u)).drew
        have t3 := Lib.hid ((s3.out.setCell (p := ⟨w.heap.size, 2 + k * 7 + (i + 1), none⟩) (Nat.le_refl _) (.int .i64 u)).drew)
        have HU := Lib.hid hu
        clear hu s1 s2 s3 c1 f1
        go_wp2
        go_region
        rw [← HU.out]
        generalize (w3.setCell { block := w.heap.size, off := 2 + k * 7 + (i + 1) } (Value.int IntKind.i64 u)).drew = w4 at *
        have hE : movedM (i + 1) d (k + 1) D = upd (upd S (i + 1) k v) k (i + 1) u := by
          show movedS (i + 1) d k (movedM (i + 1) d k D) = _
          unfold movedS
          rw [if_pos hkr, ← HS.out, HV.out, HU.out, wrap64_w64, wrap64_w64, upd_ne _ _ _ _ (by omega)]
        rw [← hE] at t1
        clear hE c2 f2 e1 e2
        go_wp2
        go_roundw
        case rel => exact ⟨k + 1, by omega, by go_num, t3, t1, t2⟩
        case measure => simp [intOf]; omega
    · obtain rfl : k = n + 1 := by omega
      have hz := HZ.out
      have hz1 := HZ1.out
      have hb := HB.out
      have hbc := hz.b_cell
      go_wp2_with (first
        | (refine load_r rfl _ rfl rfl hz ?_)
        | (go_at_call 82; ((with_reducible refine (HC.out _).mono ?_); rintro e W2 ⟨rfl, hb2⟩; have hz := hz.below hb2 hz.lt; have hz1 := hz1.below hb2 hz1.lt; have hnc := hz.n_cell; have hbc := hz.b_cell; have hb := hb.trans (hb2.mono hb.size); clear hb2))
        | (refine store_r rfl _ _ rfl rfl rfl hz1 ?_; intro W4 hz4 hg4 hs4)
        | fail)
      exact bodyPost_ret (results_r rfl (by simp [Act.put]) hz4) rfl ⟨rfl, below_only hb hg4 hb.size (by omega)⟩
set_option maxHeartbeats 1000000 in
theorem rcopy_link {z : Zn} (h : OKZ z) (hno : z.none = false) {i j : Nat} (hi : i < z.n) (hj : j ≤ z.n) (hij : i + 1 ≠ j) {d : Int} (hd : -137438953472 ≤ d ∧ d ≤ 137438953472) (w : World) :
    Calls Try.prog 84 #[.agg z.c, .int .i64 (i : Int), .int .i64 ((j : Int) - 1), .int .i64 d] w (Ret w (.agg (copyZ z (i : Int) ((j : Int) - 1) d).c)) := by
  have hn6 := h.n
  have hp := clear_pre h hno (row := i + 1) (by omega)
  have hk := close_ok hp
  obtain ⟨v, hv⟩ := h.some hno
  have hcn := (close_sat (z := clearZ z (i + 1)) hp (clear_sat h hno (by omega) (by omega) hv (u := 0) (by omega) (by omega))).1
  have e : (closeZ (clearZ z (i + 1))).n = z.n := closeZ_n _
  obtain ⟨Y, hY⟩ : ∃ Y, Y = (closeZ (clearZ z (i + 1))).D := ⟨_, rfl⟩
  have hjp := join2_pre (i := i + 1) (j := j) hk hcn (by omega) (by omega) hij hd
  have hcl : closeZ (clearZ z (i + 1)) = ⟨z.n, false, Y⟩ := by rw [← e, ← hcn, hY]
  have hcopy := copyZ_link hno hi hj hij hd
  rw [hcl] at hcopy hjp
  have hf : ∀ (W : World), Calls Try.prog 83 #[.agg (zc z.n false z.D), .int .i64 (i : Int)] W (Ret W (.agg (zc z.n false Y))) := fun W => by
    have := rforget_any h hi W
    rw [forgetZ_yes hno hi, hcl, Zn.c, hno] at this
    exact this
  have hc : ∀ (W : World), Calls Try.prog 82 #[.agg (zc z.n false (upd (upd Y (i + 1) j d) j (i + 1) (-d)))] W (Ret W (.agg (copyZ z (i : Int) ((j : Int) - 1) d).c)) := fun W => by
    have := rclose_any hjp W
    rw [← hcopy, Zn.c] at this
    simp only [joinZ2] at this
    rw [w64_in (by omega) (by omega)] at this
    exact this
  obtain ⟨C, hC⟩ : ∃ C, C = copyZ z (i : Int) ((j : Int) - 1) d := ⟨_, rfl⟩
  rw [← hC] at hc
  rw [← hC, Zn.c, hno]
  have hne : ((i : Int) == (j : Int) - 1) = false := by simp; omega
  have HF := Lib.hid hf
  have HC := Lib.hid hc
  clear hf hc hjp hC hY hcl hcopy hcn e hk hp hv h hno
  go_enter Try.func84, Try.ntmps84
  go_wp2_with (first
    | (refine wpList_box_zone rfl 38 _ rfl _ _ _ rfl ?_; intro W hz hb hs; have hnc := hz.n_cell; have hbc := hz.b_cell) | (refine wpList_alloc_zone rfl 38 rfl rz ?_; intro W1 hz1 hb1 hs1; rw [hs.out] at hz1 hb1 hs1; have hz := hz.below hb1 (by omega); have hnc := hz.n_cell; have hbc := hz.b_cell; have hb := hb.trans (hb1.mono (by omega)); rw [hs.out]; clear hs hb1)
    | (refine load_r rfl _ rfl rfl hz ?_)
    | (go_at_call 83; ((with_reducible refine (HF.out _).mono ?_); rintro e W2 ⟨rfl, hb2⟩; have hz := hz.below hb2 hz.lt; have hz1 := hz1.below hb2 hz1.lt; have hnc := hz.n_cell; have hbc := hz.b_cell; have hb := hb.trans (hb2.mono hb.size); clear hb2))
    | (refine store_r rfl _ _ rfl rfl rfl hz ?_; intro W4 hz4 hg4 hs4; have hz := hz4; have hz1 := hz1.only hg4 (by omega); have hb := below_only hb hg4 hb.size (Nat.le_refl _))
    | fail)
  have c1 := hz.cell (i + 1) j (by omega) (by omega)
  have f1 := hz.frozen (2 + (i + 1) * 7 + j)
  have f2 := hz.frozen (2 + j * 7 + (i + 1))
  have c0 := hz.cell j (i + 1) (by omega) (by omega)
  have g1 := hz.set (i + 1) j d (by omega) (by omega)
  have c2 := g1.cell j (i + 1) (by omega) (by omega)
  rw [upd_ne _ _ _ _ (by omega)] at c2
  have s1 := Lib.hid (g1.set j (i + 1) (-d) (by omega) (by omega)).drew
  have s2 := Lib.hid ((hz1.set_other (a := ⟨w.heap.size, 2 + (i + 1) * 7 + j, none⟩) (by simp) (.int .i64 d)).set_other (a := ⟨w.heap.size, 2 + j * 7 + (i + 1), none⟩) (by simp) (.int .i64 (-d))).drew
  have s3 := Lib.hid (((hb.setCell (p := ⟨w.heap.size, 2 + (i + 1) * 7 + j, none⟩) (Nat.le_refl _) (.int .i64 d)).setCell (p := ⟨w.heap.size, 2 + j * 7 + (i + 1), none⟩) (Nat.le_refl _) (.int .i64 (-d))).drew)
  have e1 : (0 : Int) ≤ (i : Int) + 1 := by omega
  have e2 : ((i : Int) + 1).toNat = i + 1 := by omega
  clear g1 hz1 hb hz4
  simp only [Act.put]
  go_region
  generalize ((W4.setCell { block := w.heap.size, off := 2 + (i + 1) * 7 + j } (Value.int IntKind.i64 d)).setCell { block := w.heap.size, off := 2 + j * 7 + (i + 1) } (Value.int IntKind.i64 (-d))).drew = w3 at *
  have hz := s1.out
  have hz1 := s2.out
  have hb := s3.out
  have hnc := hz.n_cell
  have hbc := hz.b_cell
  clear f1 f2 c1 c0 c2 s1 s2 s3
  go_wp2_with (first
    | (refine load_r rfl _ rfl rfl hz ?_)
    | (go_at_call 82; ((with_reducible refine (HC.out _).mono ?_); rintro e W2 ⟨rfl, hb2⟩; have hz := hz.below hb2 hz.lt; have hz1 := hz1.below hb2 hz1.lt; have hnc := hz.n_cell; have hbc := hz.b_cell; have hb := hb.trans (hb2.mono hb.size); clear hb2))
    | (refine store_r rfl _ _ rfl rfl rfl hz1 ?_; intro W4 hz4 hg4 hs4)
    | fail)
  exact bodyPost_ret (results_r rfl (by simp [Act.put]) hz4) rfl ⟨rfl, below_only hb hg4 hb.size (by omega)⟩
/-- The document's Copy is the program's. -/
theorem rcopy_any {z : Zn} (h : OKZ z) {i j : Nat} (hi : i < z.n) (hj : j ≤ z.n) {d : Int} (hd : -137438953472 ≤ d ∧ d ≤ 137438953472) (w : World) :
    Calls Try.prog 84 #[.agg z.c, .int .i64 (i : Int), .int .i64 ((j : Int) - 1), .int .i64 d] w (Ret w (.agg (copyZ z (i : Int) ((j : Int) - 1) d).c)) := by
  cases hno : z.none with
  | true =>
    rw [copyZ_none hno, Zn.c, hno]
    clear hno h
    go_enter Try.func84, Try.ntmps84
    go_wp2_with (first
      | (refine wpList_box_zone rfl 38 _ rfl _ _ _ rfl ?_; intro W hz hb hs; have hnc := hz.n_cell; have hbc := hz.b_cell) | (refine wpList_alloc_zone rfl 38 rfl rz ?_; intro W1 hz1 hb1 hs1; rw [hs.out] at hz1 hb1 hs1; have hz := hz.below hb1 (by omega); have hnc := hz.n_cell; have hbc := hz.b_cell; have hb := hb.trans (hb1.mono (by omega)); rw [hs.out]; clear hs hb1)
      | (refine load_r rfl _ rfl rfl hz ?_)
      | (refine store_r rfl _ _ rfl rfl rfl hz1 ?_; intro W4 hz4 hg4 hs4)
      | fail)
    exact bodyPost_ret (results_r rfl (by simp [Act.put]) hz4) rfl ⟨rfl, below_only hb hg4 hb.size (by omega)⟩
  | false =>
    by_cases hij : i + 1 = j
    · rw [show (j : Int) - 1 = (i : Int) by omega]
      exact rcopy_same h hno hi hd w
    · exact rcopy_link h hno hi hj hij hd w
end Go.Proofs.Ytgnkhncogfppgaa
