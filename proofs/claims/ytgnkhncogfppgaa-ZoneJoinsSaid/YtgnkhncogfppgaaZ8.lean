import Derived.Test.YtgnkhncogfppgaaZ7
namespace Go.Proofs.Ytgnkhncogfppgaa
open Go.RowKit
set_option maxHeartbeats 400000 in
theorem alike_any (n m : Nat) (hn : n ≤ 6) (b c : Bool) (D E : Mat) (w : World) : Calls Try.prog 90 #[.agg (zc n b D), .agg (zc m c E)] w (Ret w (.bool (decide (n = m)))) := by
  by_cases h : n = m
  · subst h
    go_enter Try.func90, Try.ntmps90
    go_wp2_with (first
      | (have _t := hz; refine wpList_box_zone rfl 26 _ rfl _ _ _ rfl ?_; intro W2 hq hb2 hs2; rw [hs.out] at hq hb2 hs2; have hz := hz.below hb2 (by omega); have hnc := hz.n_cell; have hqc := hq.n_cell; have hb := hb.trans (hb2.mono (by omega)); rw [hs.out]; clear hb2 hs _t)
      | (refine wpList_box_zone rfl 26 _ rfl _ _ _ rfl ?_; intro W hz hb hs)
      | (go_at_call 85; ((with_reducible refine (count_yes n hn _).mono ?_); rintro e W2 ⟨rfl, rfl⟩))
      | fail)
    go_ret
    exact ⟨by simp, hb⟩
  · have he : ((n : Int) == (m : Int)) = false := by simp; omega
    go_enter Try.func90, Try.ntmps90
    go_wp2_with (first
      | (have _t := hz; refine wpList_box_zone rfl 26 _ rfl _ _ _ rfl ?_; intro W2 hq hb2 hs2; rw [hs.out] at hq hb2 hs2; have hz := hz.below hb2 (by omega); have hnc := hz.n_cell; have hqc := hq.n_cell; have hb := hb.trans (hb2.mono (by omega)); rw [hs.out]; clear hb2 hs _t)
      | (refine wpList_box_zone rfl 26 _ rfl _ _ _ rfl ?_; intro W hz hb hs)
      | fail)
    go_ret
    exact ⟨by simp [h], hb⟩
open Classical in
noncomputable def leB (D E : Mat) : Bool := decide (∀ i, i < 7 → ∀ j, j < 7 → D i j ≤ E i j)
theorem leB_iff {D E : Mat} : leB D E = true ↔ ∀ i, i < 7 → ∀ j, j < 7 → D i j ≤ E i j := by simp [leB]
theorem leB_not {D E : Mat} {i j : Nat} (hi : i < 7) (hj : j < 7) (h : E i j < D i j) : leB D E = false := by
  cases hl : leB D E with
  | false => rfl
  | true => have := leB_iff.1 hl i hi j hj; omega
/-- Has b all of a? -/
noncomputable def withinB (a b : Zn) : Bool := decide (a.n = b.n) && (a.none || (!b.none && leB a.D b.D))
set_option maxHeartbeats 1000000 in
theorem within_any (a b : Zn) (ha : a.n ≤ 6) (w : World) : Calls Try.prog 43 #[.agg a.c, .agg b.c] w (Ret w (.bool (withinB a b))) := by
  obtain ⟨n, x, D⟩ := a
  obtain ⟨m, y, E⟩ := b
  have ha : n ≤ 6 := ha
  show Calls Try.prog 43 #[.agg (zc n x D), .agg (zc m y E)] w _
  have hal : ∀ W : World, Calls Try.prog 90 #[.agg (zc n x D), .agg (zc m y E)] W (Ret W (.bool (decide (n = m)))) := fun W => alike_any n m ha x y D E W
  by_cases h : n = m
  · subst h
    simp only [decide_true] at hal
    have HAL := Lib.hid hal
    clear hal
    cases x with
    | true =>
      go_enter Try.func43, Try.ntmps43
      go_wp2_with (first
        | (have _t := hz; refine wpList_box_zone rfl 26 _ rfl _ _ _ rfl ?_; intro W2 hq hb2 hs2; rw [hs.out] at hq hb2 hs2; have hz := hz.below hb2 (by omega); have hb := hb.trans (hb2.mono (by omega)); rw [hs.out]; clear hb2 hs _t)
        | (refine wpList_box_zone rfl 26 _ rfl _ _ _ rfl ?_; intro W hz hb hs)
        | (refine load_z rfl _ rfl rfl hz ?_)
        | (refine load_z rfl _ rfl rfl hq ?_)
        | (go_at_call 90; ((with_reducible refine (HAL.out _).mono ?_); rintro e W3 ⟨rfl, hb3⟩; have hz := hz.on hb3; have hbc := hz.b_cell; have hb := hb.trans (hb3.mono hb.size); clear hb3))
        | fail)
      go_ret
      exact ⟨by simp [withinB], hb⟩
    | false =>
      cases y with
      | true =>
        go_enter Try.func43, Try.ntmps43
        go_wp2_with (first
          | (have _t := hz; refine wpList_box_zone rfl 26 _ rfl _ _ _ rfl ?_; intro W2 hq hb2 hs2; rw [hs.out] at hq hb2 hs2; have hz := hz.below hb2 (by omega); have hb := hb.trans (hb2.mono (by omega)); rw [hs.out]; clear hb2 hs _t)
          | (refine wpList_box_zone rfl 26 _ rfl _ _ _ rfl ?_; intro W hz hb hs)
          | (refine load_z rfl _ rfl rfl hz ?_)
          | (refine load_z rfl _ rfl rfl hq ?_)
          | (go_at_call 90; ((with_reducible refine (HAL.out _).mono ?_); rintro e W3 ⟨rfl, hb3⟩; have hz := hz.on hb3; have hq := hq.on hb3; have hbc := hz.b_cell; have hqc := hq.b_cell; have hb := hb.trans (hb3.mono hb.size); clear hb3))
          | fail)
        go_ret
        exact ⟨by simp [withinB], hb⟩
      | false =>
        have HT : Hid ((∀ i, i < 7 → ∀ j, j < 7 → D i j ≤ E i j) → withinB ⟨n, false, D⟩ ⟨n, false, E⟩ = true) := fun h => by simp only [withinB, decide_true, Bool.not_false, Bool.true_and, Bool.false_or]; exact leB_iff.2 h
        have HF : Hid (∀ i j, i < 7 → j < 7 → E i j < D i j → withinB ⟨n, false, D⟩ ⟨n, false, E⟩ = false) := fun i j hi hj h => by
          simp only [withinB, decide_true, Bool.not_false, Bool.true_and, Bool.false_or]; exact leB_not hi hj h
        obtain ⟨R, hR⟩ : ∃ R, R = withinB ⟨n, false, D⟩ ⟨n, false, E⟩ := ⟨_, rfl⟩
        rw [← hR] at HT HF ⊢
        clear hR
        go_enter Try.func43, Try.ntmps43
        go_wp2_with (first
          | (have _t := hz; refine wpList_box_zone rfl 26 _ rfl _ _ _ rfl ?_; intro W2 hq hb2 hs2; rw [hs.out] at hq hb2 hs2; have hz := hz.below hb2 (by omega); have hb := hb.trans (hb2.mono (by omega)); rw [hs.out]; clear hb2 hs _t)
          | (refine wpList_box_zone rfl 26 _ rfl _ _ _ rfl ?_; intro W hz hb hs)
          | (refine load_z rfl _ rfl rfl hz ?_)
          | (refine load_z rfl _ rfl rfl hq ?_)
          | (go_at_call 90; ((with_reducible refine (HAL.out _).mono ?_); rintro e W3 ⟨rfl, hb3⟩; have hz := hz.on hb3; have hq := hq.on hb3; have hbc := hz.b_cell; have hqc := hq.b_cell; have hb := hb.trans (hb3.mono hb.size); clear hb3))
          | (refine load_m rfl _ rfl rfl hz ?_)
          | fail)
        have HQ := Lib.hid hq
        have HB := Lib.hid hb
        clear hz hb hq hbc hqc hs2
        go_loopw [22] (fun i_ wr => ∃ i : Nat, i ≤ 7 ∧ i_ = .int .i64 (i : Int) ∧ Hid (Below w.heap.size w wr) ∧ Hid (ZAt 26 wr (w.heap.size + 1) n false E) ∧ Hid (∀ i', i' < i → ∀ j, j < 7 → D i' j ≤ E i' j)) (fun i _ => 8 - (intOf i).toNat)
        case atStart => exact ⟨0, Nat.zero_le _, rfl, HB, HQ, fun i' hi' => absurd hi' (Nat.not_lt_zero _)⟩
        case round =>
          clear HB HQ
          obtain ⟨i, hi, rfl, HB, HQ, HL⟩ := hrel
          by_cases hlt : i < 7
          · go_wp2_with (first
              | (refine alloc_v rfl rfl ?_; intro W1 hv hb1 hs1)
              | (refine store_v rfl _ _ rfl rfl rfl hv ?_; intro W2 hv2 hg2 hs2)
              | (refine load_v rfl _ rfl rfl hv2 ?_)
              | fail)
            have HQ2 := HQ.out.on hb1
            have HB2 := HB.out.trans (hb1.mono HB.out.size)
            have hR2 := HQ2.only hg2 (by have := HQ.out.lt; omega)
            have HB3 := Lib.hid (below_only HB2 hg2 HB2.size (by have := HB.out.size; omega))
            have HQ3 := Lib.hid hR2
            clear HB HQ hv hb1 hs1 hv2 hg2 hs2 HQ2 HB2 hR2
            go_loop [27] (fun j_ => ∃ j : Nat, j ≤ 7 ∧ j_ = .int .i64 (j : Int) ∧ Hid (∀ j', j' < j → D i j' ≤ E i j')) (fun i => 8 - (intOf i).toNat)
            case atStart => exact ⟨0, Nat.zero_le _, rfl, fun j' hj' => absurd hj' (Nat.not_lt_zero _)⟩
            case round =>
              obtain ⟨j, hj, rfl, HJ⟩ := hrel
              by_cases hlj : j < 7
              · have c1 := HQ3.out.cell i j (by omega) (by omega)
                by_cases hle : D i j ≤ E i j
                · go_wp2
                  exact ⟨⟨j + 1, by omega, by go_num, fun j' hj' => by
                    by_cases hjj : j' = j
                    · subst hjj; exact hle
                    · exact HJ.out j' (by omega)⟩, by simp [intOf]; omega⟩
                · have hgt : E i j < D i j := by omega
                  have hfin := HF.out i j hlt hlj hgt
                  have HFIN := Lib.hid hfin
                  clear hfin hle
                  go_wp2
                  go_ret
                  exact ⟨by rw [HFIN.out]; rfl, HB3.out⟩
              · obtain rfl : j = 7 := by omega
                go_wp2
                go_roundw
                case rel => exact ⟨i + 1, by omega, by go_num, HB3, HQ3, fun i' hi' => by
                  by_cases hii : i' = i
                  · subst hii; exact fun j hj => HJ.out j hj
                  · exact HL.out i' (by omega)⟩
                case measure => simp [intOf]; omega
          · obtain rfl : i = 7 := by omega
            have hfin := HT.out fun i hi j hj => HL.out i hi j hj
            have HFIN := Lib.hid hfin
            clear hfin
            go_wp2
            go_ret
            exact ⟨by rw [HFIN.out]; rfl, HB.out⟩
  · have hfin : withinB ⟨n, x, D⟩ ⟨m, y, E⟩ = false := by simp [withinB, h]
    rw [show decide (n = m) = false by simpa using h] at hal
    rw [hfin]
    have HAL := Lib.hid hal
    clear hal hfin h
    go_enter Try.func43, Try.ntmps43
    go_wp2_with (first
      | (have _t := hz; refine wpList_box_zone rfl 26 _ rfl _ _ _ rfl ?_; intro W2 hq hb2 hs2; rw [hs.out] at hq hb2 hs2; have hz := hz.below hb2 (by omega); have hb := hb.trans (hb2.mono (by omega)); rw [hs.out]; clear hb2 hs _t)
      | (refine wpList_box_zone rfl 26 _ rfl _ _ _ rfl ?_; intro W hz hb hs)
      | (refine load_z rfl _ rfl rfl hz ?_)
      | (refine load_z rfl _ rfl rfl hq ?_)
      | (go_at_call 90; ((with_reducible refine (HAL.out _).mono ?_); rintro e W3 ⟨rfl, hb3⟩; have hb := hb.trans (hb3.mono hb.size); clear hb3))
      | fail)
    go_ret
    exact ⟨rfl, hb⟩
end Go.Proofs.Ytgnkhncogfppgaa
