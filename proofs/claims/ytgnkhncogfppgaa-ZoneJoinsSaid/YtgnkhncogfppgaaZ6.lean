import Derived.Test.YtgnkhncogfppgaaZ5
import Derived.Test.YtgnkhncogfppgaaQ2
namespace Go.Proofs.Ytgnkhncogfppgaa
open Go.RowKit
/-- What Right asks of a zone's cells, and that its bounds are the least ones. -/
structure RightP (z : Zn) : Prop where
  n : z.n ≤ 6
  nought : ∀ i j, i < 7 → j < 7 → (z.none = true ∨ z.n < i ∨ z.n < j ∨ i = j) → z.D i j = 0
  hi : ∀ i j, i < 7 → j < 7 → z.D i j ≤ far
  lo : ∀ i j, i < 7 → j < 7 → -far ≤ z.D i j
  clo : (closeZ z).c = z.c
set_option maxHeartbeats 1000000 in
theorem right_yes (z : Zn) (hR : RightP z) (w : World) : Calls Try.prog 44 #[.agg z.c] w (Ret w (.bool true)) := by
  have hR' := Lib.hid hR
  have hn := hR.n
  have hcl : ∀ (W : World), Calls Try.prog 77 #[.agg (zc z.n z.none z.D)] W (Ret W (.agg (zc z.n z.none z.D))) := fun W => by
    have h := close_any z hn W
    rw [hR.clo] at h
    exact h
  have HC := Lib.hid hcl
  clear hR hcl
  obtain ⟨n, b, D⟩ := z
  have hn : n ≤ 6 := hn
  go_enter Try.func44, Try.ntmps44
  go_wp2_with (first
    | (refine wpList_box_zone rfl 26 _ rfl _ _ _ rfl ?_; intro W hz hb hs; have hnc := hz.n_cell; have hbc := hz.b_cell)
    | (go_at_call 85; ((with_reducible refine (count_yes n hn _).mono ?_); rintro e W2 ⟨rfl, rfl⟩))
    | (refine load_m rfl _ rfl rfl hz ?_)
    | fail)
  have HZ := Lib.hid hz
  have HB := Lib.hid hb
  clear hz hb hnc hbc hs
  go_loopw [13] (fun i_ wr => ∃ i : Nat, i ≤ 7 ∧ i_ = .int .i64 (i : Int) ∧ Hid (Below w.heap.size w wr) ∧ Hid (ZAt 26 wr w.heap.size n b D)) (fun i _ => 8 - (intOf i).toNat)
  case atStart => exact ⟨0, Nat.zero_le _, rfl, HB, HZ⟩
  case round =>
    clear HB HZ
    obtain ⟨i, hi, rfl, HB, HZ⟩ := hrel
    by_cases hlt : i < 7
    · go_wp2_with (first
        | (refine alloc_v rfl rfl ?_; intro W1 hv hb1 hs1)
        | (refine store_v rfl _ _ rfl rfl rfl hv ?_; intro W2 hv2 hg2 hs2)
        | (refine load_v rfl _ rfl rfl hv2 ?_)
        | fail)
      have HZ2 := HZ.out.on hb1
      have HB2 := HB.out.trans (hb1.mono HB.out.size)
      have hR2 := HZ2.only hg2 (by have := HZ.out.lt; omega)
      have HB3 := Lib.hid (below_only HB2 hg2 HB2.size (by have := HB.out.size; omega))
      have HZ3 := Lib.hid hR2
      clear HB HZ hv hb1 hs1 hv2 hg2 hs2 HZ2 HB2 hR2
      go_loop [18] (fun j_ => ∃ j : Nat, j ≤ 7 ∧ j_ = .int .i64 (j : Int)) (fun i => 8 - (intOf i).toNat)
      case atStart => exact ⟨0, Nat.zero_le _, rfl⟩
      case round =>
        obtain ⟨j, hj, rfl⟩ := hrel
        by_cases hlj : j < 7
        · have hnc := HZ3.out.n_cell
          have hbc := HZ3.out.b_cell
          have v1 : D i j ≤ 1099511627776 := hR'.out.hi i j hlt hlj
          have v2 : -1099511627776 ≤ D i j := hR'.out.lo i j hlt hlj
          have v0 := hR'.out.nought i j hlt hlj
          simp only at v0
          have V0 := Lib.hid v0
          clear v0
          cases b
          · by_cases h1 : n < i
            · have hz : (D i j != 0) = false := by simp [V0.out (Or.inr (Or.inl h1))]
              go_wp2
              exact ⟨⟨j + 1, by omega, by go_num⟩, by simp [intOf]; omega⟩
            · by_cases h2 : n < j
              · have hz : (D i j != 0) = false := by simp [V0.out (Or.inr (Or.inr (Or.inl h2)))]
                go_wp2
                exact ⟨⟨j + 1, by omega, by go_num⟩, by simp [intOf]; omega⟩
              · by_cases h3 : i = j
                · have hz : (D i j != 0) = false := by simp [V0.out (Or.inr (Or.inr (Or.inr h3)))]
                  have he : ((i : Int) == (j : Int)) = true := by simp; omega
                  have H3 := Lib.hid h3
                  clear h3
                  go_wp2
                  exact ⟨⟨j + 1, by omega, by go_num⟩, by simp [intOf]; omega⟩
                · have he : ((i : Int) == (j : Int)) = false := by simp; omega
                  clear h3
                  go_wp2
                  exact ⟨⟨j + 1, by omega, by go_num⟩, by simp [intOf]; omega⟩
          · have hz : (D i j != 0) = false := by simp [V0.out (Or.inl rfl)]
            go_wp2
            exact ⟨⟨j + 1, by omega, by go_num⟩, by simp [intOf]; omega⟩
        · obtain rfl : j = 7 := by omega
          go_wp2
          go_roundw
          case rel => exact ⟨i + 1, by omega, by go_num, HB3, HZ3⟩
          case measure => simp [intOf]; omega
    · obtain rfl : i = 7 := by omega
      have hz := HZ.out
      have hb := HB.out
      have hnc := hz.n_cell
      have hbc := hz.b_cell
      go_wp2_with fail
      refine head0 4 (by kernel_rfl) (by kernel_rfl) (by kernel_rfl) (by kernel_rfl) ?_
      simp only [List.take_succ_cons, List.take_zero, List.drop_succ_cons, List.drop_zero]
      refine lex_load_z rfl _ rfl rfl hz ?_
      simp only [Act.put, List.setIfInBounds_toArray, List.set_cons_succ, List.set_cons_zero]
      (refine lex_call rfl rfl _ _ (fun W => ?_) _ (fun W hW => HC.out W) ?_; focus (go_simp; done))
      simp only [Act.put, List.setIfInBounds_toArray, List.set_cons_succ, List.set_cons_zero]
      refine lex_load_z rfl _ rfl rfl hz ?_
      simp only [Act.put, List.setIfInBounds_toArray, List.set_cons_succ, List.set_cons_zero]
      (refine lex_pure rfl rfl ?_ (fun W => ?_) ?_; rotate_left; focus (go_simp; try rfl))
      simp only [Act.put, List.setIfInBounds_toArray, List.set_cons_succ, List.set_cons_zero]
      intro w2 hb2
      rw [show zeq n b D n b D = true from zeq_iff.2 rfl]
      go_wp2
      go_ret
      exact ⟨rfl, hb.trans (hb2.mono hb.size)⟩
end Go.Proofs.Ytgnkhncogfppgaa
