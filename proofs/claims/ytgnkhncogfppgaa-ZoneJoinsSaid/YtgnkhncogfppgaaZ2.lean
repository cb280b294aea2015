import Derived.Test.YtgnkhncogfppgaaZ1
namespace Go.Proofs.Ytgnkhncogfppgaa
open Go.RowKit
set_option maxHeartbeats 400000 in
theorem forgetp_any (g n : Nat) (hn : n ≤ 6) (b : Bool) (row : Nat) (hr : row ≤ n) (D : Mat) (w : World) (hz : ZAt 26 w g n b D) :
    Calls Try.prog 81 #[.pointer (some ⟨g, 0, none⟩), .int .i64 row] w fun e w' => e = .returned (.tuple #[]) ∧ w.grownBy w' (some g) ∧ ZAt 26 w' g n b (forgetM row (n + 1) D) := by
  have hZ := Lib.hid hz
  clear hz
  go_enter Try.func81, Try.ntmps81
  go_wp2
  go_loopw [4] (fun i wr => ∃ k : Nat, k ≤ n + 1 ∧ i = .int .i64 (k : Int) ∧ Hid (w.grownBy wr (some g)) ∧ Hid (ZAt 26 wr g n b (forgetM row k D))) (fun i _ => n + 2 - (intOf i).toNat)
  case atStart => exact ⟨0, Nat.zero_le _, rfl, .refl _ _, hZ⟩
  case round =>
    obtain ⟨k, hk, rfl, hgr, hZr⟩ := hrel
    have hc := hZr.out.n_cell
    by_cases hlt : k ≤ n
    · by_cases hkr : k = row
      · subst hkr
        go_wp2
        go_roundw
        case rel => exact ⟨k + 1, by omega, by go_num, hgr, by show ZAt _ _ _ _ _ (forgetS k k (forgetM k k D)); unfold forgetS; rw [if_neg (by simp)]; exact hZr⟩
        case measure => simp [intOf]; omega
      · have hne : ((k : Int) != (row : Int)) = true := by simp; omega
        have c1 := hZr.out.cell k row (by omega) (by omega)
        have f1 := hZr.out.frozen (2 + k * 7 + row)
        have f2 := hZr.out.frozen (2 + row * 7 + k)
        have g1 := hZr.out.set k row far (by omega) (by omega)
        have c2 := g1.cell row k (by omega) (by omega)
        have c0 := hZr.out.cell row k (by omega) (by omega)
        have s1 := Lib.hid (g1.set row k far (by omega) (by omega)).drew
        have s2 := Lib.hid (only_drew (only_setCell (p := ⟨g, 2 + row * 7 + k, none⟩) (only_setCell (p := ⟨g, 2 + k * 7 + row, none⟩) hgr.out (.inl rfl) (.int .i64 far)) (.inl rfl) (.int .i64 far)))
        have hstep : forgetM row (k + 1) D = upd (upd (forgetM row k D) k row far) row k far := by
          show forgetS row k (forgetM row k D) = _; unfold forgetS; rw [if_pos hkr]
        have HS := Lib.hid hstep
        clear hgr hstep g1
        go_wp2
        go_region
        generalize ((wr.setCell { block := g, off := 2 + k * 7 + row } (Value.int IntKind.i64 far)).setCell { block := g, off := 2 + row * 7 + k } (Value.int IntKind.i64 far)).drew = w3 at *
        go_wp2
        go_roundw
        case rel => exact ⟨k + 1, by omega, by go_num, s2, by rw [HS.out]; exact s1⟩
        case measure => simp [intOf]; omega
    · obtain rfl : k = n + 1 := by omega
      go_wp2
      go_end0
      exact ⟨rfl, hgr.out, hZr.out⟩
set_option maxHeartbeats 400000 in
theorem forget_any (z : Zn) (hn : z.n ≤ 6) (x : Int) (w : World) : Calls Try.prog 33 #[.agg z.c, .int .i64 x] w (Ret w (.agg (forgetZ z x).c)) := by
  have hx : ∀ (W : World), Calls Try.prog 79 #[.agg (zc z.n z.none z.D), .int .i64 x] W (Ret W (.bool (varB z x))) := fun W => var_any z hn x W
  by_cases h1 : varB z x = true
  · have hfin : (forgetZ z x).c = (closeZ { z with D := forgetM (x + 1).toNat (z.n + 1) z.D }).c := by unfold forgetZ; rw [h1]; rfl
    have HF := Lib.hid hfin
    clear hfin
    rw [h1] at hx
    have HX := Lib.hid hx
    clear hx
    have hxx : 0 ≤ x ∧ x < z.n := by simp [varB] at h1; omega
    clear h1
    obtain ⟨i, rfl⟩ : ∃ i : Nat, x = (i : Int) := ⟨x.toNat, by omega⟩
    rw [show ((i : Int) + 1).toNat = i + 1 by omega] at HF
    have hi : i < z.n := by omega
    clear hxx
    have hc : ∀ (W : World), Calls Try.prog 77 #[.agg (zc z.n z.none (forgetM (i + 1) (z.n + 1) z.D))] W (Ret W (.agg (closeZ { z with D := forgetM (i + 1) (z.n + 1) z.D }).c)) := fun W => close_any { z with D := forgetM (i + 1) (z.n + 1) z.D } hn W
    have HC := Lib.hid hc
    clear hc
    have hcast : (i : Int) + 1 = ((i + 1 : Nat) : Int) := by omega
    have hw : ∀ (W : World), ZAt 26 W w.heap.size z.n z.none z.D → Calls Try.prog 81 #[.pointer (some ⟨w.heap.size, 0, none⟩), .int .i64 ((i : Int) + 1)] W fun e w' => e = .returned (.tuple #[]) ∧ W.grownBy w' (some w.heap.size) ∧ ZAt 26 w' w.heap.size z.n z.none (forgetM (i + 1) (z.n + 1) z.D) := fun W h => by
      rw [hcast]; exact forgetp_any _ z.n hn z.none (i + 1) (by omega) z.D W h
    have HW := Lib.hid hw
    clear hw hcast
    go_enter Try.func33, Try.ntmps33
    go_wp2_with (first
      | (refine wpList_box_zone rfl 26 _ rfl _ _ _ rfl ?_; intro W hz hb hs; have hnc := hz.n_cell; have hbc := hz.b_cell) | (refine wpList_alloc_zone rfl 26 rfl zz ?_; intro W1 hz1 hb1 hs1; rw [hs.out] at hz1 hb1 hs1; have hz := hz.below hb1 (by omega); have hnc := hz.n_cell; have hbc := hz.b_cell; have hb := hb.trans (hb1.mono (by omega)); rw [hs.out]; clear hs hb1)
      | (refine load_z rfl _ rfl rfl hz ?_)
      | (go_at_call 79; ((with_reducible refine (HX.out _).mono ?_); rintro e W2 ⟨rfl, hb2⟩; have hz := hz.below hb2 hz.lt; have hz1 := hz1.below hb2 hz1.lt; have hnc := hz.n_cell; have hbc := hz.b_cell; have hb := hb.trans (hb2.mono hb.size); clear hb2))
      | (go_at_call 81; ((with_reducible refine (HW.out _ hz).mono ?_); rintro e W3 ⟨rfl, hg3, hz3⟩; have hz := hz3; have hz1 := hz1.only hg3 (by omega); have hb := below_only hb hg3 hb.size (Nat.le_refl _)))
      | (go_at_call 77; ((with_reducible refine (HC.out _).mono ?_); rintro e W2 ⟨rfl, hb2⟩; have hz := hz.below hb2 hz.lt; have hz1 := hz1.below hb2 hz1.lt; have hnc := hz.n_cell; have hbc := hz.b_cell; have hb := hb.trans (hb2.mono hb.size); clear hb2))
      | (refine store_z rfl _ _ rfl rfl rfl hz1 ?_; intro W4 hz4 hg4 hs4)
      | fail)
    exact bodyPost_ret (results_z rfl (by simp [Act.put]) hz4) rfl ⟨by rw [HF.out]; rfl, below_only hb hg4 hb.size (by omega)⟩
  · have hfin : (forgetZ z x).c = z.c := by unfold forgetZ; rw [if_neg h1]
    rw [hfin]
    clear hfin
    rw [show varB z x = false by simpa using h1] at hx
    have HX := Lib.hid hx
    clear hx h1
    go_enter Try.func33, Try.ntmps33
    go_wp2_with (first
      | (refine wpList_box_zone rfl 26 _ rfl _ _ _ rfl ?_; intro W hz hb hs; have hnc := hz.n_cell; have hbc := hz.b_cell) | (refine wpList_alloc_zone rfl 26 rfl zz ?_; intro W1 hz1 hb1 hs1; rw [hs.out] at hz1 hb1 hs1; have hz := hz.below hb1 (by omega); have hnc := hz.n_cell; have hbc := hz.b_cell; have hb := hb.trans (hb1.mono (by omega)); rw [hs.out]; clear hs hb1)
      | (refine load_z rfl _ rfl rfl hz ?_)
      | (go_at_call 79; ((with_reducible refine (HX.out _).mono ?_); rintro e W2 ⟨rfl, hb2⟩; have hz := hz.below hb2 hz.lt; have hz1 := hz1.below hb2 hz1.lt; have hnc := hz.n_cell; have hbc := hz.b_cell; have hb := hb.trans (hb2.mono hb.size); clear hb2))
      | (refine store_z rfl _ _ rfl rfl rfl hz1 ?_; intro W4 hz4 hg4 hs4)
      | fail)
    exact bodyPost_ret (results_z rfl (by simp [Act.put]) hz4) rfl ⟨rfl, below_only hb hg4 hb.size (by omega)⟩
set_option maxHeartbeats 400000 in
theorem moved_any (z : Zn) (hn : z.n ≤ 6) (row : Nat) (hr : row ≤ z.n) (d : Int) (w : World) : Calls Try.prog 80 #[.agg z.c, .int .i64 row, .int .i64 d] w (Ret w (.agg (movedZ z row d).c)) := by
  obtain ⟨n, b, D⟩ := z
  have hn : n ≤ 6 := hn
  have hr : row ≤ n := hr
  have hc : ∀ (W : World), Calls Try.prog 77 #[.agg (zc n b (movedM row d (n + 1) D))] W (Ret W (.agg (movedZ ⟨n, b, D⟩ row d).c)) := fun W => close_any ⟨n, b, movedM row d (n + 1) D⟩ hn W
  have HC := Lib.hid hc
  clear hc
  go_enter Try.func80, Try.ntmps80
  go_wp2_with (first
    | (refine wpList_box_zone rfl 26 _ rfl _ _ _ rfl ?_; intro W hz hb hs; have hnc := hz.n_cell; have hbc := hz.b_cell) | (refine wpList_alloc_zone rfl 26 rfl zz ?_; intro W1 hz1 hb1 hs1; rw [hs.out] at hz1 hb1 hs1; have hz := hz.below hb1 (by omega); have hnc := hz.n_cell; have hbc := hz.b_cell; have hb := hb.trans (hb1.mono (by omega)); rw [hs.out]; clear hs hb1)
    | fail)
  have HZ := Lib.hid hz
  have HZ1 := Lib.hid hz1
  have HB := Lib.hid hb
  clear hz hz1 hb
  go_loopw [7] (fun i wr => ∃ k : Nat, k ≤ n + 1 ∧ i = .int .i64 (k : Int) ∧ Hid (Below w.heap.size w wr) ∧ Hid (ZAt 26 wr w.heap.size n b (movedM row d k D)) ∧ Hid (ZAt 26 wr (w.heap.size + 1) 0 false zeroM)) (fun i _ => n + 2 - (intOf i).toNat)
  case atStart => exact ⟨0, Nat.zero_le _, rfl, HB, HZ, HZ1⟩
  case round =>
    clear HB HZ HZ1
    obtain ⟨k, hk, rfl, HB, HZ, HZ1⟩ := hrel
    have hnc := HZ.out.n_cell
    by_cases hlt : k ≤ n
    · by_cases hkr : k = row
      · subst hkr
        go_wp2
        go_roundw
        case rel => exact ⟨k + 1, by omega, by go_num, HB, by show ZAt _ _ _ _ _ (movedS k d k (movedM k d k D)); unfold movedS; rw [if_neg (by simp)]; exact HZ, HZ1⟩
        case measure => simp [intOf]; omega
      · have hne : ((k : Int) != (row : Int)) = true := by simp; omega
        obtain ⟨S, hS⟩ : ∃ S, S = movedM row d k D := ⟨_, rfl⟩
        rw [← hS] at HZ
        have c1 := HZ.out.cell row k (by omega) (by omega)
        have f1 := HZ.out.frozen (2 + row * 7 + k)
        obtain ⟨v, hv⟩ : ∃ v, v = wrap64 (S row k + d) := ⟨_, rfl⟩
        have s1 := Lib.hid (HZ.out.set row k v (by omega) (by omega)).drew
        have s2 := Lib.hid (HZ1.out.set_other (a := ⟨w.heap.size, 2 + row * 7 + k, none⟩) (by simp) (.int .i64 v)).drew
        have s3 := Lib.hid ((HB.out.setCell (p := ⟨w.heap.size, 2 + row * 7 + k, none⟩) (Nat.le_refl _) (.int .i64 v)).drew)
        have HV := Lib.hid hv
        have HS := Lib.hid hS
        clear hv hS
        go_wp2
        go_region
        rw [← HV.out]
        generalize (wr.setCell { block := w.heap.size, off := 2 + row * 7 + k } (Value.int IntKind.i64 v)).drew = w3 at *
        have c2 := s1.out.cell k row (by omega) (by omega)
        have f2 := s1.out.frozen (2 + k * 7 + row)
        rw [upd_ne _ _ _ _ (by omega)] at c2
        obtain ⟨u, hu⟩ : ∃ u, u = wrap64 (S k row - d) := ⟨_, rfl⟩
        have t1 := Lib.hid (s1.out.set k row u (by omega) (by omega)).drew
        have t2 := Lib.hid (s2.out.set_other (a := ⟨w.heap.size, 2 + k * 7 + row, none⟩) (by simp) (.int .i64 u)).drew
        have t3 := Lib.hid ((s3.out.setCell (p := ⟨w.heap.size, 2 + k * 7 + row, none⟩) (Nat.le_refl _) (.int .i64 u)).drew)
        have HU := Lib.hid hu
        clear hu
        go_wp2
        go_region
        rw [← HU.out]
        generalize (w3.setCell { block := w.heap.size, off := 2 + k * 7 + row } (Value.int IntKind.i64 u)).drew = w4 at *
        have hfin : movedM row d (k + 1) D = upd (upd S row k v) k row u := by
          show movedS row d k (movedM row d k D) = _
          unfold movedS
          rw [if_pos hkr, ← HS.out, HV.out, HU.out, wrap64_w64, wrap64_w64, upd_ne _ _ _ _ (by omega)]
        have HFN := Lib.hid hfin
        clear hfin
        go_wp2
        go_roundw
        case rel => exact ⟨k + 1, by omega, by go_num, t3, by rw [HFN.out]; exact t1, t2⟩
        case measure => simp [intOf]; omega
    · obtain rfl : k = n + 1 := by omega
      have hz := HZ.out
      have hz1 := HZ1.out
      have hb := HB.out
      have hbc := hz.b_cell
      go_wp2_with (first
        | (refine load_z rfl _ rfl rfl hz ?_)
        | (go_at_call 77; ((with_reducible refine (HC.out _).mono ?_); rintro e W2 ⟨rfl, hb2⟩; have hz := hz.below hb2 hz.lt; have hz1 := hz1.below hb2 hz1.lt; have hnc := hz.n_cell; have hbc := hz.b_cell; have hb := hb.trans (hb2.mono hb.size); clear hb2))
        | (refine store_z rfl _ _ rfl rfl rfl hz1 ?_; intro W4 hz4 hg4 hs4)
        | fail)
      exact bodyPost_ret (results_z rfl (by simp [Act.put]) hz4) rfl ⟨rfl, below_only hb hg4 hb.size (by omega)⟩
end Go.Proofs.Ytgnkhncogfppgaa
