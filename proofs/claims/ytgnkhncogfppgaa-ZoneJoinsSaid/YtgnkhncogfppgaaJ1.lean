import Derived.Test.YtgnkhncogfppgaaZ8
import Derived.Test.YtgnkhncogfppgaaM9
import Derived.Test.YtgnkhncogfppgaaQ6
namespace Go.Proofs.Ytgnkhncogfppgaa
open Go.RowKit
/-! Of either: the program's. -/
theorem max_any (a b : Int) (w : World) : Calls Try.prog 95 #[.int .i64 a, .int .i64 b] w (Ret w (.int .i64 (mx a b))) := by
  go_enter Try.func95, Try.ntmps95
  go_wp2
  go_ret
  exact ⟨rfl, Below.refl _ _⟩
/-- So far. -/
def jnM (D E : Mat) (i j : Nat) : Mat := fun a b => if a < i ∨ (a = i ∧ b < j) then mx (D a b) (E a b) else D a b
theorem jn_zero (D E : Mat) : jnM D E 0 0 = D := by funext a b; unfold jnM; rw [if_neg (by omega)]
theorem jn_at (D E : Mat) (i j : Nat) : jnM D E i j i j = D i j := by unfold jnM; rw [if_neg (by omega)]
theorem jn_step (D E : Mat) (i j : Nat) : upd (jnM D E i j) i j (mx (D i j) (E i j)) = jnM D E i (j + 1) := by
  funext a b
  unfold upd jnM
  by_cases h : a = i ∧ b = j
  · obtain ⟨rfl, rfl⟩ := h; rw [if_pos ⟨rfl, rfl⟩, if_pos (by omega)]
  · rw [if_neg h]
    by_cases h2 : a < i ∨ (a = i ∧ b < j)
    · rw [if_pos h2, if_pos (by omega)]
    · rw [if_neg h2, if_neg (by omega)]
theorem jn_row {D E : Mat} {c : Nat} (hD : ∀ a b, c ≤ b → D a b = 0) (hE : ∀ a b, c ≤ b → E a b = 0) (i : Nat) : jnM D E i c = jnM D E (i + 1) 0 := by
  funext a b
  unfold jnM
  by_cases h : a < i ∨ (a = i ∧ b < c)
  · rw [if_pos h, if_pos (by omega)]
  · rw [if_neg h]
    by_cases h2 : a < i + 1 ∨ (a = i + 1 ∧ b < 0)
    · rw [if_pos h2, hD a b (by omega), hE a b (by omega)]; rfl
    · rw [if_neg h2]
theorem jn_end {D E : Mat} {c : Nat} (hD : ∀ a b, c ≤ a → D a b = 0) (hE : ∀ a b, c ≤ a → E a b = 0) : jnM D E c 0 = mxM D E := by
  funext a b
  unfold jnM mxM
  by_cases h : a < c ∨ (a = c ∧ b < 0)
  · rw [if_pos h]
  · rw [if_neg h, hD a b (by omega), hE a b (by omega)]; rfl
set_option maxRecDepth 100000 in
set_option maxHeartbeats 2000000 in
theorem both_any {a b : Zn} (ha : OKZ a) (hb : OKZ b) (w : World) : Calls Try.prog 94 #[.agg a.c, .agg b.c, .func (.func 95) #[] #[]] w (Ret w (.agg (joinZ a b).c)) := by
  have hbox : ∀ (W : World), True := fun _ => trivial
  clear hbox
  obtain ⟨n, x, D⟩ := a
  obtain ⟨m, y, E⟩ := b
  have hn : n ≤ 6 := ha.n
  have hD : ∀ i j, 7 ≤ i ∨ 7 ≤ j → D i j = 0 := fun i j h => ha.out i j (by show ¬ (i ≤ n ∧ j ≤ n); omega)
  have hE : ∀ i j, 7 ≤ i ∨ 7 ≤ j → E i j = 0 := fun i j h => hb.out i j (by show ¬ (i ≤ m ∧ j ≤ m); have : m ≤ 6 := hb.n; omega)
  show Calls Try.prog 94 #[.agg (zc n x D), .agg (zc m y E), .func (.func 95) #[] #[]] w _
  have hal : ∀ W : World, Calls Try.prog 90 #[.agg (zc n x D), .agg (zc m y E)] W (Ret W (.bool (decide (n = m)))) := fun W => alike_any n m hn x y D E W
  clear ha hb
  by_cases h : n = m
  · subst h
    simp only [decide_true] at hal
    have HAL := Lib.hid hal
    clear hal
    cases y with
    | true =>
      rw [joinZ_l (.inr rfl)]
      go_enter Try.func94, Try.ntmps94
      go_wp2_with (first
        | (have _t := hz; refine wpList_box_zone rfl 26 _ rfl _ _ _ rfl ?_; intro W2 hq hb2 hs2; rw [hs.out] at hq hb2 hs2; have hz := hz.below hb2 (by omega); have hb := hb.trans (hb2.mono (by omega)); rw [hs.out]; clear hb2 hs _t)
        | (refine wpList_box_zone rfl 26 _ rfl _ _ _ rfl ?_; intro W hz hb hs)
        | (refine wpList_alloc_zone rfl 26 rfl zz ?_; intro W3 hz1 hb3 hs3; rw [hs2.out] at hz1 hb3 hs3; rw [hs2.out]; have hz := hz.below hb3 (by omega); have hq := hq.below hb3 (by omega); have hqc := hq.b_cell; have hbc := hz.b_cell; have hb := hb.trans (hb3.mono (by omega)); clear hb3 hs2)
        | (refine load_z rfl _ rfl rfl hz ?_)
        | (refine load_z rfl _ rfl rfl hq ?_)
        | (go_at_call 90; ((with_reducible refine (HAL.out _).mono ?_); rintro e W4 ⟨rfl, hb3⟩; have hz := hz.on hb3; have hq := hq.on hb3; have hz1 := hz1.on hb3; have hbc := hz.b_cell; have hqc := hq.b_cell; have hb := hb.trans (hb3.mono hb.size); clear hb3))
        | (refine store_z rfl _ _ rfl rfl rfl hz1 ?_; intro W4 hz4 hg4 hs4)
        | fail)
      exact bodyPost_ret (results_z rfl (by simp [Act.put]) hz4) rfl ⟨rfl, below_only hb hg4 hb.size (by omega)⟩
    | false =>
      cases x with
      | true =>
        rw [joinZ_r (a := ⟨n, true, D⟩) (b := ⟨n, false, E⟩) rfl rfl rfl]
        go_enter Try.func94, Try.ntmps94
        go_wp2_with (first
          | (have _t := hz; refine wpList_box_zone rfl 26 _ rfl _ _ _ rfl ?_; intro W2 hq hb2 hs2; rw [hs.out] at hq hb2 hs2; have hz := hz.below hb2 (by omega); have hb := hb.trans (hb2.mono (by omega)); rw [hs.out]; clear hb2 hs _t)
          | (refine wpList_box_zone rfl 26 _ rfl _ _ _ rfl ?_; intro W hz hb hs)
          | (refine wpList_alloc_zone rfl 26 rfl zz ?_; intro W3 hz1 hb3 hs3; rw [hs2.out] at hz1 hb3 hs3; rw [hs2.out]; have hz := hz.below hb3 (by omega); have hq := hq.below hb3 (by omega); have hqc := hq.b_cell; have hbc := hz.b_cell; have hb := hb.trans (hb3.mono (by omega)); clear hb3 hs2)
          | (refine load_z rfl _ rfl rfl hz ?_)
          | (refine load_z rfl _ rfl rfl hq ?_)
          | (go_at_call 90; ((with_reducible refine (HAL.out _).mono ?_); rintro e W4 ⟨rfl, hb3⟩; have hz := hz.on hb3; have hq := hq.on hb3; have hz1 := hz1.on hb3; have hbc := hz.b_cell; have hqc := hq.b_cell; have hb := hb.trans (hb3.mono hb.size); clear hb3))
          | (refine store_z rfl _ _ rfl rfl rfl hz1 ?_; intro W4 hz4 hg4 hs4)
          | fail)
        exact bodyPost_ret (results_z rfl (by simp [Act.put]) hz4) rfl ⟨rfl, below_only hb hg4 hb.size (by omega)⟩
      | false =>
        rw [joinZ_both (a := ⟨n, false, D⟩) (b := ⟨n, false, E⟩) rfl rfl rfl]
        have HD := Lib.hid hD
        have HE := Lib.hid hE
        clear hD hE
        go_enter Try.func94, Try.ntmps94
        go_wp2_with (first
          | (have _t := hz; refine wpList_box_zone rfl 26 _ rfl _ _ _ rfl ?_; intro W2 hq hb2 hs2; rw [hs.out] at hq hb2 hs2; have hz := hz.below hb2 (by omega); have hb := hb.trans (hb2.mono (by omega)); rw [hs.out]; clear hb2 hs _t)
          | (refine wpList_box_zone rfl 26 _ rfl _ _ _ rfl ?_; intro W hz hb hs)
          | (refine wpList_alloc_zone rfl 26 rfl zz ?_; intro W3 hz1 hb3 hs3; rw [hs2.out] at hz1 hb3 hs3; rw [hs2.out]; have hz := hz.below hb3 (by omega); have hq := hq.below hb3 (by omega); have hqc := hq.b_cell; have hbc := hz.b_cell; have hb := hb.trans (hb3.mono (by omega)); clear hb3 hs2)
          | (refine load_z rfl _ rfl rfl hz ?_)
          | (refine load_z rfl _ rfl rfl hq ?_)
          | (go_at_call 90; ((with_reducible refine (HAL.out _).mono ?_); rintro e W4 ⟨rfl, hb3⟩; have hz := hz.on hb3; have hq := hq.on hb3; have hz1 := hz1.on hb3; have hbc := hz.b_cell; have hqc := hq.b_cell; have hb := hb.trans (hb3.mono hb.size); clear hb3))
          | (refine load_m rfl _ rfl rfl hz ?_)
          | fail)
        have HQ := Lib.hid hq
        have HB := Lib.hid hb
        have HZ1 := Lib.hid hz1
        have HZ := Lib.hid hz
        rw [← jn_zero D E] at HZ
        clear hz hb hq hbc hqc hz1 hs3 HAL
        go_loopw [27] (fun i_ wr => ∃ i : Nat, i ≤ 7 ∧ i_ = .int .i64 (i : Int) ∧ Hid (Below w.heap.size w wr) ∧ Hid (ZAt 26 wr w.heap.size n false (jnM D E i 0)) ∧ Hid (ZAt 26 wr (w.heap.size + 1) n false E) ∧ Hid (ZAt 26 wr (w.heap.size + 1 + 1) 0 false fun _ _ => 0)) (fun i _ => 8 - (intOf i).toNat)
        case atStart => exact ⟨0, Nat.zero_le _, rfl, HB, HZ, HQ, HZ1⟩
        case round =>
          clear HB HZ HQ HZ1
          obtain ⟨i, hi, rfl, HB, HZ, HQ, HZ1⟩ := hrel
          by_cases hlt : i < 7
          · go_wp2_with (first
              | (refine alloc_v rfl rfl ?_; intro W1 hv hb1 hs1)
              | (refine store_v rfl _ _ rfl rfl rfl hv ?_; intro W2 hv2 hg2 hs2)
              | (refine load_v rfl _ rfl rfl hv2 ?_)
              | fail)
            have hl1 := HZ1.out.lt
            have hz := (HZ.out.on hb1).only hg2 (by omega)
            have hq := (HQ.out.on hb1).only hg2 (by omega)
            have hz1 := (HZ1.out.on hb1).only hg2 (by omega)
            have hsz := HB.out.size
            have hb := below_only (HB.out.trans (hb1.mono hsz)) hg2 (Nat.le_trans hsz hb1.size) (by omega)
            clear HB HZ HQ HZ1 hv hb1 hs1 hv2 hg2 hs2 hl1 hsz
            have HB := Lib.hid hb
            have HZ := Lib.hid hz
            have HQ := Lib.hid hq
            have HZ1 := Lib.hid hz1
            clear hb hz hq hz1
            go_loopw [32] (fun j_ wr => ∃ j : Nat, j ≤ 7 ∧ j_ = .int .i64 (j : Int) ∧ Hid (Below w.heap.size w wr) ∧ Hid (ZAt 26 wr w.heap.size n false (jnM D E i j)) ∧ Hid (ZAt 26 wr (w.heap.size + 1) n false E) ∧ Hid (ZAt 26 wr (w.heap.size + 1 + 1) 0 false fun _ _ => 0)) (fun j _ => 8 - (intOf j).toNat)
            case atStart => exact ⟨0, Nat.zero_le _, rfl, HB, HZ, HQ, HZ1⟩
            case round =>
              clear HB HZ HQ HZ1
              obtain ⟨j, hj, rfl, HB, HZ, HQ, HZ1⟩ := hrel
              by_cases hlj : j < 7
              · go_wp2
                have c1 := HQ.out.cell i j (by omega) (by omega)
                have e0 : (0 : Int) ≤ (i : Int) := by omega
                have e1 : (0 : Int) ≤ (j : Int) := by omega
                have e2 : (i : Int) < 7 := by omega
                have e3 : (j : Int) < 7 := by omega
                refine head0 14 (by kernel_rfl) (by kernel_rfl) (by kernel_rfl) (by kernel_rfl) ?_
                simp only [List.take_succ_cons, List.take_zero, List.drop_succ_cons, List.drop_zero]
                (refine o_start ?_; (iterate 14 (first | (refine o_skip rfl rfl rfl ?_) | (refine o_have rfl fun hw => ?_; (first | (refine o_move hw.out _ rfl rfl rfl rfl ?_) | (refine o_pickT hw.out _ _ _ rfl rfl rfl rfl rfl ?_) | (refine o_pickF hw.out _ _ _ rfl rfl rfl rfl rfl ?_) | (refine o_loadc hw.out _ _ rfl rfl c1 rfl rfl (by first | exact Try.underlying3 | exact Try.underlying4) rfl ?_) | (refine o_calld hw.out _ _ _ _ rfl rfl rfl (fun W hW => max_any _ _ W) (by with_reducible rfl) (by with_reducible rfl) rfl rfl (fun ρ W hρ => by go_simp; done) ?_) | (refine o_bin hw.out _ _ _ _ _ rfl rfl rfl rfl rfl (fun W => by go_simp; first | done | rfl) ?_) | (refine o_un hw.out _ _ _ rfl rfl rfl rfl (fun W => by go_simp; first | done | rfl) ?_) | (refine o_field hw.out _ _ _ rfl rfl rfl rfl (fun W => by go_simp; first | done | rfl) ?_) | (refine o_index hw.out _ _ _ rfl rfl rfl rfl rfl (fun W => by go_simp; first | done | rfl) ?_) | (refine o_conv hw.out _ _ _ rfl rfl rfl rfl (fun W => by go_simp; first | done | rfl) ?_)); clear hw))); refine o_end ?_; simp only [app, List.set_cons_succ, List.set_cons_zero])
                intro w3 hb3
                have hz := HZ.out.on hb3
                have hq := HQ.out.on hb3
                have hz1 := HZ1.out.on hb3
                have hb := HB.out.trans (hb3.mono HB.out.size)
                clear HB HZ HQ HZ1 c1
                have c2 := hz.cell i j (by omega) (by omega)
                have f1 := hz.frozen (2 + i * 7 + j)
                have s1 := Lib.hid (hz.set i j (mx (D i j) (E i j)) (by omega) (by omega))
                have s2 := Lib.hid (hq.set_other (a := ⟨w.heap.size, 2 + i * 7 + j, none⟩) (by simp) (.int .i64 (mx (D i j) (E i j))))
                have s3 := Lib.hid (hz1.set_other (a := ⟨w.heap.size, 2 + i * 7 + j, none⟩) (by simp; omega) (.int .i64 (mx (D i j) (E i j))))
                have s4 := Lib.hid (hb.setCell (p := ⟨w.heap.size, 2 + i * 7 + j, none⟩) (Nat.le_refl _) (.int .i64 (mx (D i j) (E i j))))
                clear hz hq hz1 hb hb3
                go_wp2
                go_roundw
                case rel => exact ⟨j + 1, by omega, by go_num, s4, by rw [jn_step] at s1; exact s1, s2, s3⟩
                case measure => simp [intOf]; omega
              · obtain rfl : j = 7 := by omega
                go_wp2
                go_roundw
                case rel => exact ⟨i + 1, by omega, by go_num, HB, by rw [jn_row (fun a b h => HD.out a b (.inr h)) (fun a b h => HE.out a b (.inr h))] at HZ; exact HZ, HQ, HZ1⟩
                case measure => simp [intOf]; omega
          · obtain rfl : i = 7 := by omega
            rw [jn_end (fun a b h => HD.out a b (.inl h)) (fun a b h => HE.out a b (.inl h))] at HZ
            have hz := HZ.out
            have hz1 := HZ1.out
            have hb := HB.out
            clear HB HZ HQ HZ1
            go_wp2_with (first
              | (refine load_z rfl _ rfl rfl hz ?_)
              | (refine store_z rfl _ _ rfl rfl rfl hz1 ?_; intro W4 hz4 hg4 hs4)
              | fail)
            exact bodyPost_ret (results_z rfl (by simp [Act.put]) hz4) rfl ⟨rfl, below_only hb hg4 hb.size (by omega)⟩
  · rw [joinZ_l (.inl h)]
    simp only [h, decide_false] at hal
    have HAL := Lib.hid hal
    clear hal
    go_enter Try.func94, Try.ntmps94
    go_wp2_with (first
      | (have _t := hz; refine wpList_box_zone rfl 26 _ rfl _ _ _ rfl ?_; intro W2 hq hb2 hs2; rw [hs.out] at hq hb2 hs2; have hz := hz.below hb2 (by omega); have hb := hb.trans (hb2.mono (by omega)); rw [hs.out]; clear hb2 hs _t)
      | (refine wpList_box_zone rfl 26 _ rfl _ _ _ rfl ?_; intro W hz hb hs)
      | (refine wpList_alloc_zone rfl 26 rfl zz ?_; intro W3 hz1 hb3 hs3; rw [hs2.out] at hz1 hb3 hs3; rw [hs2.out]; have hz := hz.below hb3 (by omega); have hq := hq.below hb3 (by omega); have hqc := hq.b_cell; have hbc := hz.b_cell; have hb := hb.trans (hb3.mono (by omega)); clear hb3 hs2)
      | (refine load_z rfl _ rfl rfl hz ?_)
      | (refine load_z rfl _ rfl rfl hq ?_)
      | (go_at_call 90; ((with_reducible refine (HAL.out _).mono ?_); rintro e W4 ⟨rfl, hb3⟩; have hz := hz.on hb3; have hq := hq.on hb3; have hz1 := hz1.on hb3; have hbc := hz.b_cell; have hqc := hq.b_cell; have hb := hb.trans (hb3.mono hb.size); clear hb3))
      | (refine store_z rfl _ _ rfl rfl rfl hz1 ?_; intro W4 hz4 hg4 hs4)
      | fail)
    exact bodyPost_ret (results_z rfl (by simp [Act.put]) hz4) rfl ⟨rfl, below_only hb hg4 hb.size (by omega)⟩
theorem join_any {a b : Zn} (ha : OKZ a) (hb : OKZ b) (w : World) : Calls Try.prog 57 #[.agg a.c, .agg b.c] w (Ret w (.agg (joinZ a b).c)) := by
  have hbo : ∀ W : World, Calls Try.prog 94 #[.agg (zc a.n a.none a.D), .agg (zc b.n b.none b.D), .func (.func 95) #[] #[]] W (Ret W (.agg (joinZ a b).c)) := fun W => both_any ha hb W
  have HBO := Lib.hid hbo
  clear hbo ha hb
  show Calls Try.prog 57 #[.agg (zc a.n a.none a.D), .agg (zc b.n b.none b.D)] w _
  go_enter Try.func57, Try.ntmps57
  go_wp2_with (first
    | (have _t := hz; refine wpList_box_zone rfl 26 _ rfl _ _ _ rfl ?_; intro W2 hq hb2 hs2; rw [hs.out] at hq hb2 hs2; have hz := hz.below hb2 (by omega); have hb := hb.trans (hb2.mono (by omega)); rw [hs.out]; clear hb2 hs _t)
    | (refine wpList_box_zone rfl 26 _ rfl _ _ _ rfl ?_; intro W hz hb hs)
    | (refine wpList_alloc_zone rfl 26 rfl zz ?_; intro W3 hz1 hb3 hs3; rw [hs2.out] at hz1 hb3 hs3; rw [hs2.out]; have hz := hz.below hb3 (by omega); have hq := hq.below hb3 (by omega); have hqc := hq.b_cell; have hbc := hz.b_cell; have hb := hb.trans (hb3.mono (by omega)); clear hb3 hs2)
    | (refine load_z rfl _ rfl rfl hz ?_)
    | (refine load_z rfl _ rfl rfl hq ?_)
    | (go_at_call 94; ((with_reducible refine (HBO.out _).mono ?_); rintro e W4 ⟨rfl, hb3⟩; have hz := hz.on hb3; have hq := hq.on hb3; have hz1 := hz1.on hb3; have hb := hb.trans (hb3.mono hb.size); clear hb3))
    | (refine store_z rfl _ _ rfl rfl rfl hz1 ?_; intro W4 hz4 hg4 hs4)
    | fail)
  exact bodyPost_ret (results_z rfl (by simp [Act.put]) hz4) rfl ⟨rfl, below_only hb hg4 hb.size (by omega)⟩
end Go.Proofs.Ytgnkhncogfppgaa
