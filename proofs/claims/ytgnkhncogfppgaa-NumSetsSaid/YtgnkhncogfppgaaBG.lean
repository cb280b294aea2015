import Derived.Test.YtgnkhncogfppgaaBF
import Derived.Test.YtgnkhncogfppgaaBE
namespace Go.Proofs.Ytgnkhncogfppgaa
open Go.RowKit
/-! Of either: the program's. -/
theorem max_any (a b : Int) (w : World) : Calls Try.prog 95 #[.int .i64 a, .int .i64 b] w (Ret w (.int .i64 (mx a b))) := by
  go_enter Try.func95, Try.ntmps95
  go_wp2
  go_ret
  exact ⟨rfl, Below.refl _ _⟩
/-- So far. -/
def jnM (D E : Mat) (i j : Nat) : Mat := fun a b => if a < i ∨ (a = i ∧ b < j) then mx (D a b) (E a b) else D a b
theorem jn_zero (D E : Mat) : jnM D E 0 0 = D := by funext a b; unfold jnM; rw [if_neg (by omega)]
theorem jn_at (D E : Mat) (i j : Nat) : jnM D E i j i j = D i j := by unfold jnM; rw [if_neg (by omega)]
theorem jn_step (D E : Mat) (i j : Nat) : upd (jnM D E i j) i j (mx (D i j) (E i j)) = jnM D E i (j + 1) := by
  funext a b
  unfold upd jnM
  by_cases h : a = i ∧ b = j
  · obtain ⟨rfl, rfl⟩ := h; rw [if_pos ⟨rfl, rfl⟩, if_pos (by omega)]
  · rw [if_neg h]
    by_cases h2 : a < i ∨ (a = i ∧ b < j)
    · rw [if_pos h2, if_pos (by omega)]
    · rw [if_neg h2, if_neg (by omega)]
theorem jn_row {D E : Mat} {c : Nat} (hD : ∀ a b, c ≤ b → D a b = 0) (hE : ∀ a b, c ≤ b → E a b = 0) (i : Nat) : jnM D E i c = jnM D E (i + 1) 0 := by
  funext a b
  unfold jnM
  by_cases h : a < i ∨ (a = i ∧ b < c)
  · rw [if_pos h, if_pos (by omega)]
  · rw [if_neg h]
    by_cases h2 : a < i + 1 ∨ (a = i + 1 ∧ b < 0)
    · rw [if_pos h2, hD a b (by omega), hE a b (by omega)]; rfl
    · rw [if_neg h2]
theorem jn_end {D E : Mat} {c : Nat} (hD : ∀ a b, c ≤ a → D a b = 0) (hE : ∀ a b, c ≤ a → E a b = 0) : jnM D E c 0 = mxM D E := by
  funext a b
  unfold jnM mxM
  by_cases h : a < c ∨ (a = c ∧ b < 0)
  · rw [if_pos h]
  · rw [if_neg h, hD a b (by omega), hE a b (by omega)]; rfl
set_option maxRecDepth 100000 in
set_option maxHeartbeats 2000000 in
theorem both_any {a b : Zn} (ha : OKZ a) (hb : OKZ b) (w : World) : Calls Try.prog 94 #[.agg a.c, .agg b.c, .func (.func 95) #[] #[]] w (Ret w (.agg (joinZ a b).c)) := by
  have hbox : ∀ (W : World), True := fun _ => trivial
  clear hbox
  obtain ⟨n, x, D⟩ := a
  obtain ⟨m, y, E⟩ := b
  have hn : n ≤ 6 := ha.n
  have hD : ∀ i j, 7 ≤ i ∨ 7 ≤ j → D i j = 0 := fun i j h => ha.out i j (by show ¬ (i ≤ n ∧ j ≤ n); omega)
  have hE : ∀ i j, 7 ≤ i ∨ 7 ≤ j → E i j = 0 := fun i j h => hb.out i j (by show ¬ (i ≤ m ∧ j ≤ m); have : m ≤ 6 := hb.n; omega)
  show Calls Try.prog 94 #[.agg (zc n x D), .agg (zc m y E), .func (.func 95) #[] #[]] w _
  have hal : ∀ W : World, Calls Try.prog 90 #[.agg (zc n x D), .agg (zc m y E)] W (Ret W (.bool (decide (n = m)))) := fun W => alike_any n m hn x y D E W
  clear ha hb
  by_cases h : n = m
  · subst h
    simp only [decide_true] at hal
    have HAL := Lib.hid hal
    clear hal
    cases y with
    | true =>
      rw [joinZ_l (.inr rfl)]
      go_enter Try.func94, Try.ntmps94
      go_wp2_with (first
        | (have _t := hz; refine wpList_box_zone rfl 26 _ rfl _ _ _ rfl ?_; intro W2 hq hb2 hs2; rw [hs.out] at hq hb2 hs2; have hz := hz.below hb2 (by omega); have hb := hb.trans (hb2.mono (by omega)); rw [hs.out]; clear hb2 hs _t)
        | (refine wpList_box_zone rfl 26 _ rfl _ _ _ rfl ?_; intro W hz hb hs)
        | (refine wpList_alloc_zone rfl 26 rfl zz ?_; intro W3 hz1 hb3 hs3; rw [hs2.out] at hz1 hb3 hs3; rw [hs2.out]; have hz := hz.below hb3 (by omega); have hq := hq.below hb3 (by omega); have hqc := hq.b_cell; have hbc := hz.b_cell; have hb := hb.trans (hb3.mono (by omega)); clear hb3 hs2)
        | (refine load_z rfl _ rfl rfl hz ?_)
        | (refine load_z rfl _ rfl rfl hq ?_)
        | (go_at_call 90; ((with_reducible refine (HAL.out _).mono ?_); rintro e W4 ⟨rfl, hb3⟩; have hz := hz.on hb3; have hq := hq.on hb3; have hz1 := hz1.on hb3; have hbc := hz.b_cell; have hqc := hq.b_cell; have hb := hb.trans (hb3.mono hb.size); clear hb3))
        | (refine store_z rfl _ _ rfl rfl rfl hz1 ?_; intro W4 hz4 hg4 hs4)
        | fail)
      exact bodyPost_ret (results_z rfl (by simp [Act.put]) hz4) rfl ⟨rfl, below_only hb hg4 hb.size (by omega)⟩
    | false =>
      cases x with
      | true =>
        rw [joinZ_r (a := ⟨n, true, D⟩) (b := ⟨n, false, E⟩) rfl rfl rfl]
        go_enter Try.func94, Try.ntmps94
        go_wp2_with (first
          | (have _t := hz; refine wpList_box_zone rfl 26 _ rfl _ _ _ rfl ?_; intro W2 hq hb2 hs2; rw [hs.out] at hq hb2 hs2; have hz := hz.below hb2 (by omega); have hb := hb.trans (hb2.mono (by omega)); rw [hs.out]; clear hb2 hs _t)
          | (refine wpList_box_zone rfl 26 _ rfl _ _ _ rfl ?_; intro W hz hb hs)
          | (refine wpList_alloc_zone rfl 26 rfl zz ?_; intro W3 hz1 hb3 hs3; rw [hs2.out] at hz1 hb3 hs3; rw [hs2.out]; have hz := hz.below hb3 (by omega); have hq := hq.below hb3 (by omega); have hqc := hq.b_cell; have hbc := hz.b_cell; have hb := hb.trans (hb3.mono (by omega)); clear hb3 hs2)
          | (refine load_z rfl _ rfl rfl hz ?_)
          | (refine load_z rfl _ rfl rfl hq ?_)
          | (go_at_call 90; ((with_reducible refine (HAL.out _).mono ?_); rintro e W4 ⟨rfl, hb3⟩; have hz := hz.on hb3; have hq := hq.on hb3; have hz1 := hz1.on hb3; have hbc := hz.b_cell; have hqc := hq.b_cell; have hb := hb.trans (hb3.mono hb.size); clear hb3))
          | (refine store_z rfl _ _ rfl rfl rfl hz1 ?_; intro W4 hz4 hg4 hs4)
          | fail)
        exact bodyPost_ret (results_z rfl (by simp [Act.put]) hz4) rfl ⟨rfl, below_only hb hg4 hb.size (by omega)⟩
      | false =>
        rw [joinZ_both (a := ⟨n, false, D⟩) (b := ⟨n, false, E⟩) rfl rfl rfl]
        have HD := Lib.hid hD
        have HE := Lib.hid hE
        clear hD hE
        go_enter Try.func94, Try.ntmps94
        go_wp2_with (first
          | (have _t := hz; refine wpList_box_zone rfl 26 _ rfl _ _ _ rfl ?_; intro W2 hq hb2 hs2; rw [hs.out] at hq hb2 hs2; have hz := hz.below hb2 (by omega); have hb := hb.trans (hb2.mono (by omega)); rw [hs.out]; clear hb2 hs _t)
          | (refine wpList_box_zone rfl 26 _ rfl _ _ _ rfl ?_; intro W hz hb hs)
          | (refine wpList_alloc_zone rfl 26 rfl zz ?_; intro W3 hz1 hb3 hs3; rw [hs2.out] at hz1 hb3 hs3; rw [hs2.out]; have hz := hz.below hb3 (by omega); have hq := hq.below hb3 (by omega); have hqc := hq.b_cell; have hbc := hz.b_cell; have hb := hb.trans (hb3.mono (by omega)); clear hb3 hs2)
          | (refine load_z rfl _ rfl rfl hz ?_)
          | (refine load_z rfl _ rfl rfl hq ?_)
          | (go_at_call 90; ((with_reducible refine (HAL.out _).mono ?_); rintro e W4 ⟨rfl, hb3⟩; have hz := hz.on hb3; have hq := hq.on hb3; have hz1 := hz1.on hb3; have hbc := hz.b_cell; have hqc := hq.b_cell; have hb := hb.trans (hb3.mono hb.size); clear hb3))
          | (refine load_m rfl _ rfl rfl hz ?_)
          | fail)
        have HQ := Lib.hid hq
        have HB := Lib.hid hb
        have HZ1 := Lib.hid hz1
        have HZ := Lib.hid hz
        rw [← jn_zero D E] at HZ
        clear hz hb hq hbc hqc hz1 hs3 HAL
        go_loopw [27] (fun i_ wr => ∃ i : Nat, i ≤ 7 ∧ i_ = .int .i64 (i : Int) ∧ Hid (Below w.heap.size w wr) ∧ Hid (ZAt 26 wr w.heap.size n false (jnM D E i 0)) ∧ Hid (ZAt 26 wr (w.heap.size + 1) n false E) ∧ Hid (ZAt 26 wr (w.heap.size + 1 + 1) 0 false fun _ _ => 0)) (fun i _ => 8 - (intOf i).toNat)
        case atStart => exact ⟨0, Nat.zero_le _, rfl, HB, HZ, HQ, HZ1⟩
        case round =>
          clear HB HZ HQ HZ1
          obtain ⟨i, hi, rfl, HB, HZ, HQ, HZ1⟩ := hrel
          by_cases hlt : i < 7
          · go_wp2_with (first
              | (refine alloc_v rfl rfl ?_; intro W1 hv hb1 hs1)
              | (refine store_v rfl _ _ rfl rfl rfl hv ?_; intro W2 hv2 hg2 hs2)
              | (refine load_v rfl _ rfl rfl hv2 ?_)
              | fail)
            have hl1 := HZ1.out.lt
            have hz := (HZ.out.on hb1).only hg2 (by omega)
            have hq := (HQ.out.on hb1).only hg2 (by omega)
            have hz1 := (HZ1.out.on hb1).only hg2 (by omega)
            have hsz := HB.out.size
            have hb := below_only (HB.out.trans (hb1.mono hsz)) hg2 (Nat.le_trans hsz hb1.size) (by omega)
            clear HB HZ HQ HZ1 hv hb1 hs1 hv2 hg2 hs2 hl1 hsz
            have HB := Lib.hid hb
            have HZ := Lib.hid hz
            have HQ := Lib.hid hq
            have HZ1 := Lib.hid hz1
            clear hb hz hq hz1
            go_loopw [32] (fun j_ wr => ∃ j : Nat, j ≤ 7 ∧ j_ = .int .i64 (j : Int) ∧ Hid (Below w.heap.size w wr) ∧ Hid (ZAt 26 wr w.heap.size n false (jnM D E i j)) ∧ Hid (ZAt 26 wr (w.heap.size + 1) n false E) ∧ Hid (ZAt 26 wr (w.heap.size + 1 + 1) 0 false fun _ _ => 0)) (fun j _ => 8 - (intOf j).toNat)
            case atStart => exact ⟨0, Nat.zero_le _, rfl, HB, HZ, HQ, HZ1⟩
            case round =>
              clear HB HZ HQ HZ1
              obtain ⟨j, hj, rfl, HB, HZ, HQ, HZ1⟩ := hrel
              by_cases hlj : j < 7
              · go_wp2
                have c1 := HQ.out.cell i j (by omega) (by omega)
                have e0 : (0 : Int) ≤ (i : Int) := by omega
                have e1 : (0 : Int) ≤ (j : Int) := by omega
                have e2 : (i : Int) < 7 := by omega
                have e3 : (j : Int) < 7 := by omega
                refine head0 14 (by kernel_rfl) (by kernel_rfl) (by kernel_rfl) (by kernel_rfl) ?_
                simp only [List.take_succ_cons, List.take_zero, List.drop_succ_cons, List.drop_zero]
                (refine o_start ?_; (iterate 14 (first | (refine o_skip rfl rfl rfl ?_) | (refine o_have rfl fun hw => ?_; (first | (refine o_move hw.out _ rfl rfl rfl rfl ?_) | (refine o_pickT hw.out _ _ _ rfl rfl rfl rfl rfl ?_) | (refine o_pickF hw.out _ _ _ rfl rfl rfl rfl rfl ?_) | (refine o_loadc hw.out _ _ rfl rfl c1 rfl rfl (by first | exact Try.underlying3 | exact Try.underlying4) rfl ?_) | (refine o_calld hw.out _ _ _ _ rfl rfl rfl (fun W hW => max_any _ _ W) (by with_reducible rfl) (by with_reducible rfl) rfl rfl (fun ρ W hρ => by go_simp; done) ?_) | (refine o_bin hw.out _ _ _ _ _ rfl rfl rfl rfl rfl (fun W => by go_simp; first | done | rfl) ?_) | (refine o_un hw.out _ _ _ rfl rfl rfl rfl (fun W => by go_simp; first | done | rfl) ?_) | (refine o_field hw.out _ _ _ rfl rfl rfl rfl (fun W => by go_simp; first | done | rfl) ?_) | (refine o_index hw.out _ _ _ rfl rfl rfl rfl rfl (fun W => by go_simp; first | done | rfl) ?_) | (refine o_conv hw.out _ _ _ rfl rfl rfl rfl (fun W => by go_simp; first | done | rfl) ?_)); clear hw))); refine o_end ?_; simp only [app, List.set_cons_succ, List.set_cons_zero])
                intro w3 hb3
                have hz := HZ.out.on hb3
                have hq := HQ.out.on hb3
                have hz1 := HZ1.out.on hb3
                have hb := HB.out.trans (hb3.mono HB.out.size)
                clear HB HZ HQ HZ1 c1
                have c2 := hz.cell i j (by omega) (by omega)
                have f1 := hz.frozen (2 + i * 7 + j)
                have s1 := Lib.hid (hz.set i j (mx (D i j) (E i j)) (by omega) (by omega))
                have s2 := Lib.hid (hq.set_other (a := ⟨w.heap.size, 2 + i * 7 + j, none⟩) (by simp) (.int .i64 (mx (D i j) (E i j))))
                have s3 := Lib.hid (hz1.set_other (a := ⟨w.heap.size, 2 + i * 7 + j, none⟩) (by simp; omega) (.int .i64 (mx (D i j) (E i j))))
                have s4 := Lib.hid (hb.setCell (p := ⟨w.heap.size, 2 + i * 7 + j, none⟩) (Nat.le_refl _) (.int .i64 (mx (D i j) (E i j))))
                clear hz hq hz1 hb hb3
                go_wp2
                go_roundw
                case rel => exact ⟨j + 1, by omega, by go_num, s4, by rw [jn_step] at s1; exact s1, s2, s3⟩
                case measure => simp [intOf]; omega
              · obtain rfl : j = 7 := by omega
                go_wp2
                go_roundw
                case rel => exact ⟨i + 1, by omega, by go_num, HB, by rw [jn_row (fun a b h => HD.out a b (.inr h)) (fun a b h => HE.out a b (.inr h))] at HZ; exact HZ, HQ, HZ1⟩
                case measure => simp [intOf]; omega
          · obtain rfl : i = 7 := by omega
            rw [jn_end (fun a b h => HD.out a b (.inl h)) (fun a b h => HE.out a b (.inl h))] at HZ
            have hz := HZ.out
            have hz1 := HZ1.out
            have hb := HB.out
            clear HB HZ HQ HZ1
            go_wp2_with (first
              | (refine load_z rfl _ rfl rfl hz ?_)
              | (refine store_z rfl _ _ rfl rfl rfl hz1 ?_; intro W4 hz4 hg4 hs4)
              | fail)
            exact bodyPost_ret (results_z rfl (by simp [Act.put]) hz4) rfl ⟨rfl, below_only hb hg4 hb.size (by omega)⟩
  · rw [joinZ_l (.inl h)]
    simp only [h, decide_false] at hal
    have HAL := Lib.hid hal
    clear hal
    go_enter Try.func94, Try.ntmps94
    go_wp2_with (first
      | (have _t := hz; refine wpList_box_zone rfl 26 _ rfl _ _ _ rfl ?_; intro W2 hq hb2 hs2; rw [hs.out] at hq hb2 hs2; have hz := hz.below hb2 (by omega); have hb := hb.trans (hb2.mono (by omega)); rw [hs.out]; clear hb2 hs _t)
      | (refine wpList_box_zone rfl 26 _ rfl _ _ _ rfl ?_; intro W hz hb hs)
      | (refine wpList_alloc_zone rfl 26 rfl zz ?_; intro W3 hz1 hb3 hs3; rw [hs2.out] at hz1 hb3 hs3; rw [hs2.out]; have hz := hz.below hb3 (by omega); have hq := hq.below hb3 (by omega); have hqc := hq.b_cell; have hbc := hz.b_cell; have hb := hb.trans (hb3.mono (by omega)); clear hb3 hs2)
      | (refine load_z rfl _ rfl rfl hz ?_)
      | (refine load_z rfl _ rfl rfl hq ?_)
      | (go_at_call 90; ((with_reducible refine (HAL.out _).mono ?_); rintro e W4 ⟨rfl, hb3⟩; have hz := hz.on hb3; have hq := hq.on hb3; have hz1 := hz1.on hb3; have hbc := hz.b_cell; have hqc := hq.b_cell; have hb := hb.trans (hb3.mono hb.size); clear hb3))
      | (refine store_z rfl _ _ rfl rfl rfl hz1 ?_; intro W4 hz4 hg4 hs4)
      | fail)
    exact bodyPost_ret (results_z rfl (by simp [Act.put]) hz4) rfl ⟨rfl, below_only hb hg4 hb.size (by omega)⟩
theorem join_any {a b : Zn} (ha : OKZ a) (hb : OKZ b) (w : World) : Calls Try.prog 57 #[.agg a.c, .agg b.c] w (Ret w (.agg (joinZ a b).c)) := by
  have hbo : ∀ W : World, Calls Try.prog 94 #[.agg (zc a.n a.none a.D), .agg (zc b.n b.none b.D), .func (.func 95) #[] #[]] W (Ret W (.agg (joinZ a b).c)) := fun W => both_any ha hb W
  have HBO := Lib.hid hbo
  clear hbo ha hb
  show Calls Try.prog 57 #[.agg (zc a.n a.none a.D), .agg (zc b.n b.none b.D)] w _
  go_enter Try.func57, Try.ntmps57
  go_wp2_with (first
    | (have _t := hz; refine wpList_box_zone rfl 26 _ rfl _ _ _ rfl ?_; intro W2 hq hb2 hs2; rw [hs.out] at hq hb2 hs2; have hz := hz.below hb2 (by omega); have hb := hb.trans (hb2.mono (by omega)); rw [hs.out]; clear hb2 hs _t)
    | (refine wpList_box_zone rfl 26 _ rfl _ _ _ rfl ?_; intro W hz hb hs)
    | (refine wpList_alloc_zone rfl 26 rfl zz ?_; intro W3 hz1 hb3 hs3; rw [hs2.out] at hz1 hb3 hs3; rw [hs2.out]; have hz := hz.below hb3 (by omega); have hq := hq.below hb3 (by omega); have hqc := hq.b_cell; have hbc := hz.b_cell; have hb := hb.trans (hb3.mono (by omega)); clear hb3 hs2)
    | (refine load_z rfl _ rfl rfl hz ?_)
    | (refine load_z rfl _ rfl rfl hq ?_)
    | (go_at_call 94; ((with_reducible refine (HBO.out _).mono ?_); rintro e W4 ⟨rfl, hb3⟩; have hz := hz.on hb3; have hq := hq.on hb3; have hz1 := hz1.on hb3; have hb := hb.trans (hb3.mono hb.size); clear hb3))
    | (refine store_z rfl _ _ rfl rfl rfl hz1 ?_; intro W4 hz4 hg4 hs4)
    | fail)
  exact bodyPost_ret (results_z rfl (by simp [Act.put]) hz4) rfl ⟨rfl, below_only hb hg4 hb.size (by omega)⟩
end Go.Proofs.Ytgnkhncogfppgaa

namespace Go.Proofs.Ytgnkhncogfppgaa
open Go.RowKit
/-! Widening: the program's. -/
theorem kept_any (a b : Int) (w : World) : Calls Try.prog 96 #[.int .i64 a, .int .i64 b] w (Ret w (.int .i64 (keptI a b))) := by
  by_cases h : a < b
  · have e : keptI a b = 1099511627776 := by unfold keptI; rw [if_pos h]
    rw [e]
    have h2 : b > a := h
    go_enter Try.func96, Try.ntmps96
    go_wp2
    go_ret
    exact ⟨rfl, Below.refl _ _⟩
  · have e : keptI a b = a := by unfold keptI; rw [if_neg h]
    rw [e]
    go_enter Try.func96, Try.ntmps96
    go_wp2
    go_ret
    exact ⟨rfl, Below.refl _ _⟩
/-- Some of the bounds are told already. -/
def wnM (S V : Mat) (p : Nat → Nat → Bool) : Mat := fun a b => if p a b = true then V a b else S a b
theorem wn_upd (S V : Mat) (p : Nat → Nat → Bool) (i j : Nat) : upd (wnM S V p) i j (V i j) = wnM S V (fun a b => p a b || (decide (a = i) && decide (b = j))) := by
  funext a b
  unfold upd wnM
  by_cases h : a = i ∧ b = j
  · obtain ⟨rfl, rfl⟩ := h; simp
  · rw [if_neg h]
    have : (decide (a = i) && decide (b = j)) = false := by
      by_cases h1 : a = i
      · have : ¬ b = j := fun e => h ⟨h1, e⟩
        simp [this]
      · simp [h1]
    show (if p a b = true then V a b else S a b) = if (p a b || (decide (a = i) && decide (b = j))) = true then V a b else S a b
    rw [this, Bool.or_false]
theorem wn_congr {S V : Mat} {p q : Nat → Nat → Bool} (h : ∀ a b, V a b = S a b ∨ (p a b = true ↔ q a b = true)) : wnM S V p = wnM S V q := by
  funext a b
  unfold wnM
  rcases h a b with h | h
  · rw [h]; simp
  · by_cases h1 : p a b = true
    · rw [if_pos h1, if_pos (h.1 h1)]
    · rw [if_neg h1, if_neg fun h2 => h1 (h.2 h2)]
def rowsB (i : Nat) : Nat → Nat → Bool := fun a b => (decide (1 ≤ a) && decide (a < i)) || (decide (a = 0) && decide (b < i))
def inB (i j : Nat) : Nat → Nat → Bool := fun a b => rowsB i a b || (decide (a = 0) && decide (b = i)) || (decide (a = i) && decide (b < j))
section
variable {n : Nat} {S V : Mat}
theorem wn_start (hd : ∀ a, V a a = S a a) : wnM S V (rowsB 1) = S := by
  have h1 : wnM S V (rowsB 1) = wnM S V (fun _ _ => false) := wn_congr fun a b => by
    by_cases h : a = b
    · subst h; exact .inl (hd a)
    · refine .inr ⟨fun h2 => ?_, fun h2 => by cases h2⟩
      simp only [rowsB, Bool.or_eq_true, Bool.and_eq_true, decide_eq_true_eq] at h2
      omega
  rw [h1]; rfl
theorem wn_pair {i : Nat} (hi : 1 ≤ i) : upd (upd (wnM S V (rowsB i)) i 0 (V i 0)) 0 i (V 0 i) = wnM S V (inB i 1) := by
  rw [wn_upd, wn_upd]
  refine wn_congr fun a b => .inr ?_
  simp only [inB, rowsB, Bool.or_eq_true, Bool.and_eq_true, decide_eq_true_eq]
  omega
theorem wn_in {i j : Nat} : upd (wnM S V (inB i j)) i j (V i j) = wnM S V (inB i (j + 1)) := by
  rw [wn_upd]
  refine wn_congr fun a b => .inr ?_
  simp only [inB, rowsB, Bool.or_eq_true, Bool.and_eq_true, decide_eq_true_eq]
  omega
theorem wn_self (hd : ∀ a, V a a = S a a) {i : Nat} : wnM S V (inB i i) = wnM S V (inB i (i + 1)) := by
  refine wn_congr fun a b => ?_
  by_cases h : a = b
  · subst h; exact .inl (hd a)
  · refine .inr ?_
    simp only [inB, rowsB, Bool.or_eq_true, Bool.and_eq_true, decide_eq_true_eq]
    omega
theorem wn_row (ho : ∀ a b, ¬ (a ≤ n ∧ b ≤ n) → V a b = S a b) {i : Nat} (hi : 1 ≤ i) : wnM S V (inB i (n + 1)) = wnM S V (rowsB (i + 1)) := by
  refine wn_congr fun a b => ?_
  by_cases h : a ≤ n ∧ b ≤ n
  · refine .inr ?_
    simp only [inB, rowsB, Bool.or_eq_true, Bool.and_eq_true, decide_eq_true_eq]
    omega
  · exact .inl (ho a b h)
theorem wn_end (ho : ∀ a b, ¬ (a ≤ n ∧ b ≤ n) → V a b = S a b) : wnM S V (rowsB (n + 1)) = V := by
  have h1 : wnM S V (rowsB (n + 1)) = wnM S V (fun _ _ => true) := wn_congr fun a b => by
    by_cases h : a ≤ n ∧ b ≤ n
    · refine .inr ⟨fun _ => rfl, fun _ => ?_⟩
      simp only [rowsB, Bool.or_eq_true, Bool.and_eq_true, decide_eq_true_eq]
      omega
    · exact .inl (ho a b h)
  rw [h1]; rfl
end
def twoM (S : Mat) (i : Nat) (u v : Int) (b1 b2 : Bool) : Mat := if b2 then upd (if b1 then upd S i 0 u else S) 0 i v else if b1 then upd S i 0 u else S
theorem two_fst (S : Mat) {i : Nat} (hi : 1 ≤ i) (u v : Int) (b2 : Bool) : upd (twoM S i u v false b2) i 0 u = twoM S i u v true b2 := by
  cases b2
  · rfl
  · funext a b
    simp only [twoM, if_true, Bool.false_eq_true, if_false]
    unfold upd
    by_cases h1 : a = i ∧ b = 0 <;> by_cases h2 : a = 0 ∧ b = i
    · omega
    · rw [if_pos h1, if_neg h2, if_pos h1]
    · rw [if_neg h1]
      simp only [if_pos h2]
    · simp only [if_neg h1, if_neg h2]
theorem two_snd (S : Mat) (i : Nat) (u v : Int) (b1 : Bool) : upd (twoM S i u v b1 false) 0 i v = twoM S i u v b1 true := by
  cases b1 <;> rfl
theorem step_store_cell {ops : Array Oper} {o : Oper} {l : List Value} {ds : List Deferred} {ov : List (Nat × Value)} {W : World} {good : Value → World → Prop} {g k : Nat} {u : Int} (hst : StO l ov) (hw : Region.wanted o (yO ops l ov) = true) (x y : Operand) (ho : o.op = .store 3 x y)
    (hx : evalO l ov x = some (.pointer (some ⟨g, k, none⟩))) (hy : evalO l ov y = some (.int .i64 u)) {c : Value} (hc : W.cell? ⟨g, k, none⟩ = some c) (hf : W.frozen? ⟨g, k, none⟩ = false) (hg : good undef (W.setCell ⟨g, k, none⟩ (.int .i64 u))) : stepG Try.prog ops o (fr l ds ov) W good := by
  refine .inl ⟨by show Region.wanted o (yielded ops (app l ov).toArray) = true; rw [yO_eq hst]; exact hw, ?_⟩
  have e1 := fr_eval (ds := ds) hst hx
  have e2 := fr_eval (ds := ds) hst hy
  unfold execOp
  simp only [ho, e1, e2]
  go_simp
  exact hg
set_option maxRecDepth 100000 in
set_option maxHeartbeats 4000000 in
theorem widen_any {a b : Zn} (ha : OKZ a) (hb : OKZ b) (w : World) : Calls Try.prog 58 #[.agg a.c, .agg b.c] w (Ret w (.agg (widZ a b).c)) := by
  have hwi : ∀ W : World, Calls Try.prog 43 #[.agg b.c, .agg a.c] W (Ret W (.bool (withinB b a))) := fun W => within_any b a hb.n W
  have hal : ∀ W : World, Calls Try.prog 90 #[.agg a.c, .agg b.c] W (Ret W (.bool (decide (a.n = b.n)))) := fun W => alike_any a.n b.n ha.n a.none b.none a.D b.D W
  show Calls Try.prog 58 #[.agg (zc a.n a.none a.D), .agg (zc b.n b.none b.D)] w _
  by_cases h : a.n = b.n
  · simp only [h, decide_true] at hal
    have HAL : Hid (∀ W : World, Calls Try.prog 90 #[.agg (zc a.n a.none a.D), .agg (zc b.n b.none b.D)] W (Ret W (.bool true))) := hal
    clear hal
    by_cases hin : withinB b a = true
    · rw [widZ_l (.inr hin)]
      rw [hin] at hwi
      have HWI : Hid (∀ W : World, Calls Try.prog 43 #[.agg (zc b.n b.none b.D), .agg (zc a.n a.none a.D)] W (Ret W (.bool true))) := hwi
      clear hwi ha hb hin h
      go_enter Try.func58, Try.ntmps58
      go_wp2_with (first
        | (have _t := hz; refine wpList_box_zone rfl 26 _ rfl _ _ _ rfl ?_; intro W2 hq hb2 hs2; rw [hs.out] at hq hb2 hs2; have hz := hz.below hb2 (by omega); have hb := hb.trans (hb2.mono (by omega)); rw [hs.out]; clear hb2 hs _t)
        | (refine wpList_box_zone rfl 26 _ rfl _ _ _ rfl ?_; intro W hz hb hs)
        | (have _t := hs2; refine wpList_alloc_zone rfl 26 rfl zz ?_; intro W3 hz1 hb3 hs3; rw [hs2.out] at hz1 hb3 hs3; rw [hs2.out]; have hz := hz.below hb3 (by omega); have hq := hq.below hb3 (by omega); have hqc := hq.b_cell; have hbc := hz.b_cell; have hnc := hz.n_cell; have hb := hb.trans (hb3.mono (by omega)); clear hb3 hs2 _t)
        | (refine load_z rfl _ rfl rfl hz ?_)
        | (refine load_z rfl _ rfl rfl hq ?_)
        | (go_at_call 90; ((with_reducible refine (HAL.out _).mono ?_); rintro e W4 ⟨rfl, hb3⟩; have hz := hz.on hb3; have hq := hq.on hb3; have hz1 := hz1.on hb3; have hbc := hz.b_cell; have hqc := hq.b_cell; have hnc := hz.n_cell; have hb := hb.trans (hb3.mono hb.size); clear hb3))
        | (go_at_call 43; ((with_reducible refine (HWI.out _).mono ?_); rintro e W5 ⟨rfl, hb3⟩; have hz := hz.on hb3; have hq := hq.on hb3; have hz1 := hz1.on hb3; have hbc := hz.b_cell; have hqc := hq.b_cell; have hnc := hz.n_cell; have hb := hb.trans (hb3.mono hb.size); clear hb3))
        | (refine store_z rfl _ _ rfl rfl rfl hz1 ?_; intro W4 hz4 hg4 hs4)
        | fail)
      exact bodyPost_ret (results_z rfl (by simp [Act.put]) hz4) rfl ⟨rfl, below_only hb hg4 hb.size (by omega)⟩
    · have hno : ¬ (a.n ≠ b.n ∨ withinB b a = true) := by simp [h, hin]
      rw [within_not hin] at hwi
      have HWI : Hid (∀ W : World, Calls Try.prog 43 #[.agg (zc b.n b.none b.D), .agg (zc a.n a.none a.D)] W (Ret W (.bool false))) := hwi
      clear hwi
      cases hn : a.none with
      | true =>
        rw [widZ_r hno hn]
        rw [hn] at HAL HWI
        clear ha hb hin hno hn h
        go_enter Try.func58, Try.ntmps58
        go_wp2_with (first
          | (have _t := hz; refine wpList_box_zone rfl 26 _ rfl _ _ _ rfl ?_; intro W2 hq hb2 hs2; rw [hs.out] at hq hb2 hs2; have hz := hz.below hb2 (by omega); have hb := hb.trans (hb2.mono (by omega)); rw [hs.out]; clear hb2 hs _t)
          | (refine wpList_box_zone rfl 26 _ rfl _ _ _ rfl ?_; intro W hz hb hs)
          | (have _t := hs2; refine wpList_alloc_zone rfl 26 rfl zz ?_; intro W3 hz1 hb3 hs3; rw [hs2.out] at hz1 hb3 hs3; rw [hs2.out]; have hz := hz.below hb3 (by omega); have hq := hq.below hb3 (by omega); have hqc := hq.b_cell; have hbc := hz.b_cell; have hnc := hz.n_cell; have hb := hb.trans (hb3.mono (by omega)); clear hb3 hs2 _t)
          | (refine load_z rfl _ rfl rfl hz ?_)
          | (refine load_z rfl _ rfl rfl hq ?_)
          | (go_at_call 90; ((with_reducible refine (HAL.out _).mono ?_); rintro e W4 ⟨rfl, hb3⟩; have hz := hz.on hb3; have hq := hq.on hb3; have hz1 := hz1.on hb3; have hbc := hz.b_cell; have hqc := hq.b_cell; have hnc := hz.n_cell; have hb := hb.trans (hb3.mono hb.size); clear hb3))
          | (go_at_call 43; ((with_reducible refine (HWI.out _).mono ?_); rintro e W5 ⟨rfl, hb3⟩; have hz := hz.on hb3; have hq := hq.on hb3; have hz1 := hz1.on hb3; have hbc := hz.b_cell; have hqc := hq.b_cell; have hnc := hz.n_cell; have hb := hb.trans (hb3.mono hb.size); clear hb3))
          | (refine store_z rfl _ _ rfl rfl rfl hz1 ?_; intro W4 hz4 hg4 hs4)
          | fail)
        exact bodyPost_ret (results_z rfl (by simp [Act.put]) hz4) rfl ⟨rfl, below_only hb hg4 hb.size (by omega)⟩
      | false =>
        have hfin : widZ a b = closeZ ⟨a.n, false, widM a.n a.D b.D⟩ := by rw [widZ_both hno ha hn, wid_closed ha hn]
        rw [hfin]
        rw [hn] at HAL HWI
        obtain ⟨n, hnn⟩ : ∃ n, a.n = n := ⟨_, rfl⟩
        have hn6 : n ≤ 6 := by have := ha.n; omega
        rw [hnn] at HAL HWI hfin
        have hbn : b.n = n := by rw [← h]; exact hnn
        rw [hbn] at HAL HWI
        obtain ⟨S, hS⟩ : ∃ S, S = (topZ n).D := ⟨_, rfl⟩
        have htn : (topZ n).none = false := (top_sat hn6 (v := fun _ => 0) rfl (fun _ _ => by omega) (fun _ _ => by omega)).1
        have HTOP : Hid (∀ W : World, Calls Try.prog 21 #[.int .i64 (n : Int)] W (Ret W (.agg (zc n false S)))) := fun W => by
          have := top_any n hn6 W
          rw [Zn.c, topZ_n, htn, ← hS] at this
          exact this
        have HCL : Hid (∀ W : World, Calls Try.prog 77 #[.agg (zc n false (widM n a.D b.D))] W (Ret W (.agg (closeZ ⟨n, false, widM n a.D b.D⟩).c))) := fun W => close_any ⟨n, false, widM n a.D b.D⟩ hn6 W
        have hvd : ∀ x, widM n a.D b.D x x = S x x := fun x => by
          have e : widM n a.D b.D x x = 0 := by unfold widM; rw [if_neg (by omega)]
          rw [e, hS]
          by_cases hx : x ≤ n
          · have := ((top_ok hn6).sub htn).diag x (by rw [topZ_n]; exact hx); exact this.symm
          · exact ((top_ok hn6).out x x (by rw [topZ_n]; omega)).symm
        have hvo : ∀ x y, ¬ (x ≤ n ∧ y ≤ n) → widM n a.D b.D x y = S x y := fun x y hxy => by
          have e : widM n a.D b.D x y = 0 := by unfold widM; rw [if_neg (by omega)]
          rw [e, hS]
          exact ((top_ok hn6).out x y (by rw [topZ_n]; exact hxy)).symm
        have HR0 := Lib.hid (wn_start hvd)
        have HEND := Lib.hid (wn_end hvo)
        have HROW : Hid (∀ i, 1 ≤ i → wnM S (widM n a.D b.D) (inB i (n + 1)) = wnM S (widM n a.D b.D) (rowsB (i + 1))) := fun i hi => wn_row hvo hi
        have HPAIR : Hid (∀ i, 1 ≤ i → i ≤ n → upd (upd (wnM S (widM n a.D b.D) (rowsB i)) i 0 (keptI (a.D i 0) (b.D i 0))) 0 i (keptI (a.D 0 i) (b.D 0 i)) = wnM S (widM n a.D b.D) (inB i 1)) := fun i h1 h2 => by
          have e1 : widM n a.D b.D i 0 = keptI (a.D i 0) (b.D i 0) := by unfold widM; rw [if_pos (by omega), if_pos (Or.inr rfl)]
          have e2 : widM n a.D b.D 0 i = keptI (a.D 0 i) (b.D 0 i) := by unfold widM; rw [if_pos (by omega), if_pos (Or.inl rfl)]
          rw [← e1, ← e2]; exact wn_pair h1
        have HIN : Hid (∀ i j, 1 ≤ i → i ≤ n → 1 ≤ j → j ≤ n → i ≠ j → upd (wnM S (widM n a.D b.D) (inB i j)) i j 1099511627776 = wnM S (widM n a.D b.D) (inB i (j + 1))) := fun i j h1 h2 h3 h4 h5 => by
          have e1 : widM n a.D b.D i j = 1099511627776 := by unfold widM; rw [if_pos (by omega), if_neg (by omega)]
          rw [← e1]; exact wn_in
        have HSELF : Hid (∀ i, wnM S (widM n a.D b.D) (inB i i) = wnM S (widM n a.D b.D) (inB i (i + 1))) := fun i => wn_self hvd
        rw [hnn, hbn]
        clear ha hb hin hno hn hfin hS htn hvd hvo h hnn hbn
        generalize hV : widM n a.D b.D = V at *
        clear hV
        generalize a.D = D at *
        generalize b.D = E at *
        generalize b.none = bn at *
        go_enter Try.func58, Try.ntmps58
        go_wp2_with (first
          | (have _t := hz; refine wpList_box_zone rfl 26 _ rfl _ _ _ rfl ?_; intro W2 hq hb2 hs2; rw [hs.out] at hq hb2 hs2; have hz := hz.below hb2 (by omega); have hb := hb.trans (hb2.mono (by omega)); rw [hs.out]; clear hb2 hs _t)
          | (refine wpList_box_zone rfl 26 _ rfl _ _ _ rfl ?_; intro W hz hb hs)
          | (have _t := hs2; refine wpList_alloc_zone rfl 26 rfl zz ?_; intro W3 hz1 hb3 hs3; rw [hs2.out] at hz1 hb3 hs3; rw [hs2.out]; have hz := hz.below hb3 (by omega); have hq := hq.below hb3 (by omega); have hqc := hq.b_cell; have hbc := hz.b_cell; have hnc := hz.n_cell; have hb := hb.trans (hb3.mono (by omega)); clear hb3 hs2 _t)
          | (refine load_z rfl _ rfl rfl hz ?_)
          | (refine load_z rfl _ rfl rfl hq ?_)
          | (go_at_call 90; ((with_reducible refine (HAL.out _).mono ?_); rintro e W4 ⟨rfl, hb3⟩; have hz := hz.on hb3; have hq := hq.on hb3; have hz1 := hz1.on hb3; have hbc := hz.b_cell; have hqc := hq.b_cell; have hnc := hz.n_cell; have hb := hb.trans (hb3.mono hb.size); clear hb3))
          | (go_at_call 43; ((with_reducible refine (HWI.out _).mono ?_); rintro e W5 ⟨rfl, hb3⟩; have hz := hz.on hb3; have hq := hq.on hb3; have hz1 := hz1.on hb3; have hbc := hz.b_cell; have hqc := hq.b_cell; have hnc := hz.n_cell; have hb := hb.trans (hb3.mono hb.size); clear hb3))
          | (go_at_call 21; ((with_reducible refine (HTOP.out _).mono ?_); rintro e W6 ⟨rfl, hb3⟩; have hl0 := hz1.lt; have hl1 := hb3.size; have hz := hz.on hb3; have hq := hq.on hb3; have hz1 := hz1.on hb3; have hb := hb.trans (hb3.mono hb.size); clear hb3 hbc hqc hnc))
          | (have _t := hl1; refine wpList_alloc_zone rfl 26 rfl zz ?_; intro W7 ho hb4 hs4; have hz := hz.on hb4; have hq := hq.on hb4; have hz1 := hz1.on hb4; have hb := hb.trans (hb4.mono hb.size); clear hb4 _t)
          | (refine store_z rfl _ _ rfl rfl rfl ho ?_; intro W8 ho8 hg8 hs8; have hz := hz.only hg8 (by omega); have hq := hq.only hg8 (by omega); have hz1 := hz1.only hg8 (by omega); have hb := below_only hb hg8 hb.size (by omega); clear ho; have ho := ho8; clear ho8 hg8 hs8)
          | fail)
        have hgg : w.heap.size + 1 + 1 < W6.heap.size := by omega
        generalize W6.heap.size = g at *
        have HB := Lib.hid hb
        have HZ := Lib.hid hz
        have HQ := Lib.hid hq
        have HZ1 := Lib.hid hz1
        rw [← HR0.out] at ho
        have HO := Lib.hid ho
        clear hb hz hq hz1 ho hl0 hl1 HAL HWI HTOP HR0
        go_loopw [6] (fun i_ wr => ∃ i : Nat, 1 ≤ i ∧ i ≤ n + 1 ∧ i_ = .int .i64 (i : Int) ∧ Hid (Below w.heap.size w wr) ∧ Hid (ZAt 26 wr w.heap.size n false D) ∧ Hid (ZAt 26 wr (w.heap.size + 1) n bn E) ∧ Hid (ZAt 26 wr (w.heap.size + 1 + 1) 0 false fun _ _ => 0) ∧ Hid (ZAt 26 wr g n false (wnM S V (rowsB i)))) (fun i _ => 9 - (intOf i).toNat)
        case atStart => exact ⟨1, Nat.le_refl _, by omega, rfl, HB, HZ, HQ, HZ1, HO⟩
        case round =>
          clear HB HZ HQ HZ1 HO
          obtain ⟨i, hi1, hi2, rfl, HB, HZ, HQ, HZ1, HO⟩ := hrel
          have hnc := HZ.out.n_cell
          by_cases hlt : i ≤ n
          · go_wp2
            have ca1 := HZ.out.cell i 0 (by omega) (by omega)
            have ca2 := HZ.out.cell 0 i (by omega) (by omega)
            have cb1 := HQ.out.cell i 0 (by omega) (by omega)
            have cb2 := HQ.out.cell 0 i (by omega) (by omega)
            simp only [Nat.zero_mul, Nat.add_zero] at ca1 ca2 cb1 cb2
            have q0 : (0 : Int) ≤ (i : Int) := by omega
            have q1 : (i : Int) < 7 := by omega
            have HLT := Lib.hid HO.out.lt
            apply region_LG (n := 32) (h := g) (Sx := fun k => Nat.beq k 27 || Nat.beq k 31) (Ψ := fun Λ _ W => ZAt 26 W g n false (twoM (wnM S V (rowsB i)) i (keptI (D i 0) (E i 0)) (keptI (D 0 i) (E 0 i)) (Λ 27) (Λ 31)))
            case hh => exact Nat.le_of_lt HLT.out
            case hm => kernel_rfl
            case hB => kernel_rfl
            case hT => kernel_rfl
            case stab => exact fun Λ ρ W W' k v hk hb _ hz => by rw [up_ne _ _ (fun e => by subst e; exact absurd hk (by decide)), up_ne _ _ (fun e => by subst e; exact absurd hk (by decide))]; exact hz.on hb
            case h0 => exact fun W hW => HO.out.on hW
            simp only [List.take_succ_cons, List.take_zero, List.drop_succ_cons, List.drop_zero]
            iterate 27 ((apply g_det; (exact rfl); (exact rfl); (exact rfl); (exact rfl); focus (intro W0 hW0; (first | (refine o_skip rfl rfl rfl ?_) | (refine o_have rfl fun hw => ?_; (first | (refine o_assign hw.out _ rfl rfl rfl rfl ?_) | (refine o_move hw.out _ rfl rfl rfl rfl ?_) | (refine o_pickT hw.out _ _ _ rfl rfl rfl rfl rfl ?_) | (refine o_pickF hw.out _ _ _ rfl rfl rfl rfl rfl ?_) | (refine o_loadc hw.out _ _ rfl rfl ((hW0.cell (p := ⟨_, _, none⟩) (by show w.heap.size < g; omega)).trans ca1) rfl rfl (by first | exact Try.underlying3 | exact Try.underlying4) rfl ?_) | (refine o_loadc hw.out _ _ rfl rfl ((hW0.cell (p := ⟨_, _, none⟩) (by show w.heap.size < g; omega)).trans ca2) rfl rfl (by first | exact Try.underlying3 | exact Try.underlying4) rfl ?_) | (refine o_loadc hw.out _ _ rfl rfl ((hW0.cell (p := ⟨_, _, none⟩) (by show w.heap.size + 1 < g; omega)).trans cb1) rfl rfl (by first | exact Try.underlying3 | exact Try.underlying4) rfl ?_) | (refine o_loadc hw.out _ _ rfl rfl ((hW0.cell (p := ⟨_, _, none⟩) (by show w.heap.size + 1 < g; omega)).trans cb2) rfl rfl (by first | exact Try.underlying3 | exact Try.underlying4) rfl ?_) | (refine o_bin hw.out _ _ _ _ _ rfl rfl rfl rfl rfl (fun W => by go_simp; first | done | rfl) ?_) | (refine o_un hw.out _ _ _ rfl rfl rfl rfl (fun W => by go_simp; first | done | rfl) ?_) | (refine o_field hw.out _ _ _ rfl rfl rfl rfl (fun W => by go_simp; first | done | rfl) ?_) | (refine o_index hw.out _ _ _ rfl rfl rfl rfl rfl (fun W => by go_simp; first | done | rfl) ?_) | (refine o_conv hw.out _ _ _ rfl rfl rfl rfl (fun W => by go_simp; first | done | rfl) ?_) | (refine o_call hw.out _ _ _ rfl rfl (fun W hW => kept_any _ _ W) (by with_reducible rfl) (by with_reducible rfl) rfl rfl (fun ρ W hρ => by go_simp; done) ?_)))); exact g_lk rfl)))
            apply g_spc (A := fun v => v = undef)
            case hv => exact ⟨undef, rfl⟩
            case h1 =>
              intro hst Λ ρ W hW hΨ hk hdep hval
              have hO : ZAt 26 W g n false (twoM (wnM S V (rowsB i)) i (keptI (D i 0) (E i 0)) (keptI (D 0 i) (E 0 i)) (Λ 27) (Λ 31)) := hΨ
              rw [show Λ 27 = false from hk] at hO
              have hc := hO.cell i 0 (by omega) (by omega)
              have hs := hO.set i 0 (keptI (D i 0) (E i 0)) (by omega) (by omega)
              simp only [Nat.add_zero] at hc hs
              refine step_store_cell hst rfl _ _ rfl rfl rfl hc (hO.frozen _) ⟨rfl, hW.setCell (p := ⟨g, _, none⟩) (Nat.le_refl _) _, ?_⟩
              show ZAt 26 _ g n false (twoM (wnM S V (rowsB i)) i (keptI (D i 0) (E i 0)) (keptI (D 0 i) (E 0 i)) (up Λ 27 true 27) (up Λ 27 true 31))
              rw [up_same, up_ne _ _ (by decide)]
              rw [two_fst _ hi1] at hs
              exact hs
            intro v hv
            have hv : v = undef := hv
            subst hv
            dsimp only [putO]
            iterate 3 ((apply g_det; (exact rfl); (exact rfl); (exact rfl); (exact rfl); focus (intro W0 hW0; (first | (refine o_skip rfl rfl rfl ?_) | (refine o_have rfl fun hw => ?_; (first | (refine o_assign hw.out _ rfl rfl rfl rfl ?_) | (refine o_move hw.out _ rfl rfl rfl rfl ?_) | (refine o_pickT hw.out _ _ _ rfl rfl rfl rfl rfl ?_) | (refine o_pickF hw.out _ _ _ rfl rfl rfl rfl rfl ?_) | (refine o_loadc hw.out _ _ rfl rfl ((hW0.cell (p := ⟨_, _, none⟩) (by show w.heap.size < g; omega)).trans ca1) rfl rfl (by first | exact Try.underlying3 | exact Try.underlying4) rfl ?_) | (refine o_loadc hw.out _ _ rfl rfl ((hW0.cell (p := ⟨_, _, none⟩) (by show w.heap.size < g; omega)).trans ca2) rfl rfl (by first | exact Try.underlying3 | exact Try.underlying4) rfl ?_) | (refine o_loadc hw.out _ _ rfl rfl ((hW0.cell (p := ⟨_, _, none⟩) (by show w.heap.size + 1 < g; omega)).trans cb1) rfl rfl (by first | exact Try.underlying3 | exact Try.underlying4) rfl ?_) | (refine o_loadc hw.out _ _ rfl rfl ((hW0.cell (p := ⟨_, _, none⟩) (by show w.heap.size + 1 < g; omega)).trans cb2) rfl rfl (by first | exact Try.underlying3 | exact Try.underlying4) rfl ?_) | (refine o_bin hw.out _ _ _ _ _ rfl rfl rfl rfl rfl (fun W => by go_simp; first | done | rfl) ?_) | (refine o_un hw.out _ _ _ rfl rfl rfl rfl (fun W => by go_simp; first | done | rfl) ?_) | (refine o_field hw.out _ _ _ rfl rfl rfl rfl (fun W => by go_simp; first | done | rfl) ?_) | (refine o_index hw.out _ _ _ rfl rfl rfl rfl rfl (fun W => by go_simp; first | done | rfl) ?_) | (refine o_conv hw.out _ _ _ rfl rfl rfl rfl (fun W => by go_simp; first | done | rfl) ?_) | (refine o_call hw.out _ _ _ rfl rfl (fun W hW => kept_any _ _ W) (by with_reducible rfl) (by with_reducible rfl) rfl rfl (fun ρ W hρ => by go_simp; done) ?_)))); exact g_lk rfl)))
            apply g_spc (A := fun v => v = undef)
            case hv => exact ⟨undef, rfl⟩
            case h1 =>
              intro hst Λ ρ W hW hΨ hk hdep hval
              have hO : ZAt 26 W g n false (twoM (wnM S V (rowsB i)) i (keptI (D i 0) (E i 0)) (keptI (D 0 i) (E 0 i)) (Λ 27) (Λ 31)) := hΨ
              rw [show Λ 31 = false from hk] at hO
              have hc := hO.cell 0 i (by omega) (by omega)
              have hs := hO.set 0 i (keptI (D 0 i) (E 0 i)) (by omega) (by omega)
              simp only [Nat.zero_mul, Nat.add_zero] at hc hs
              refine step_store_cell hst rfl _ _ rfl rfl rfl hc (hO.frozen _) ⟨rfl, hW.setCell (p := ⟨g, _, none⟩) (Nat.le_refl _) _, ?_⟩
              show ZAt 26 _ g n false (twoM (wnM S V (rowsB i)) i (keptI (D i 0) (E i 0)) (keptI (D 0 i) (E 0 i)) (up Λ 31 true 27) (up Λ 31 true 31))
              rw [up_same, up_ne _ _ (by decide)]
              rw [two_snd] at hs
              exact hs
            intro v hv
            have hv : v = undef := hv
            subst hv
            dsimp only [putO]
            apply g_end
            intro W Λ ρ hW hΨ hall _
            have hO : ZAt 26 W g n false (twoM (wnM S V (rowsB i)) i (keptI (D i 0) (E i 0)) (keptI (D 0 i) (E 0 i)) (Λ 27) (Λ 31)) := hΨ
            rw [hall 27 (by omega), hall 31 (by omega)] at hO
            rw [show twoM (wnM S V (rowsB i)) i (keptI (D i 0) (E i 0)) (keptI (D 0 i) (E 0 i)) true true = wnM S V (inB i 1) from HPAIR.out i hi1 hlt] at hO
            have HZ := Lib.hid (HZ.out.below hW (by omega))
            have HQ := Lib.hid (HQ.out.below hW (by omega))
            have HZ1 := Lib.hid (HZ1.out.below hW (by omega))
            have HB := Lib.hid (HB.out.trans (hW.mono (by omega)))
            have HO := Lib.hid hO
            clear hW hΨ hall hO ca1 ca2 cb1 cb2 hnc HLT
            simp only [fr, app, List.set_cons_succ, List.set_cons_zero]
            go_wp2
            go_loopw [7] (fun j_ wr => ∃ j : Nat, 1 ≤ j ∧ j ≤ n + 1 ∧ j_ = .int .i64 (j : Int) ∧ Hid (Below w.heap.size w wr) ∧ Hid (ZAt 26 wr w.heap.size n false D) ∧ Hid (ZAt 26 wr (w.heap.size + 1) n bn E) ∧ Hid (ZAt 26 wr (w.heap.size + 1 + 1) 0 false fun _ _ => 0) ∧ Hid (ZAt 26 wr g n false (wnM S V (inB i j)))) (fun j _ => 9 - (intOf j).toNat)
            case atStart => exact ⟨1, Nat.le_refl _, by omega, rfl, HB, HZ, HQ, HZ1, HO⟩
            case round =>
              clear HB HZ HQ HZ1 HO
              obtain ⟨j, hj1, hj2, rfl, HB, HZ, HQ, HZ1, HO⟩ := hrel
              have hnc := HZ.out.n_cell
              by_cases hlj : j ≤ n
              · by_cases hij : i = j
                · subst hij
                  go_wp2
                  go_roundw
                  case rel => exact ⟨i + 1, by omega, by omega, by go_num, HB, HZ, HQ, HZ1, by rw [HSELF.out] at HO; exact HO⟩
                  case measure => simp [intOf]; omega
                · have b1 : ((i : Int) == (j : Int)) = false := by simp; omega
                  have b2 : ((i : Int) != (j : Int)) = true := by simp; omega
                  have c1 := HO.out.cell i j (by omega) (by omega)
                  have f1 := HO.out.frozen (2 + i * 7 + j)
                  have q2 : (0 : Int) ≤ (j : Int) := by omega
                  have q3 : (j : Int) < 7 := by omega
                  have s1 := Lib.hid (HO.out.set i j 1099511627776 (by omega) (by omega))
                  have s2 := Lib.hid (HZ.out.set_other (a := ⟨g, 2 + i * 7 + j, none⟩) (by simp; omega) (.int .i64 1099511627776))
                  have s3 := Lib.hid (HQ.out.set_other (a := ⟨g, 2 + i * 7 + j, none⟩) (by simp; omega) (.int .i64 1099511627776))
                  have s4 := Lib.hid (HZ1.out.set_other (a := ⟨g, 2 + i * 7 + j, none⟩) (by simp; omega) (.int .i64 1099511627776))
                  have s5 := Lib.hid (HB.out.setCell (p := ⟨g, 2 + i * 7 + j, none⟩) (by show w.heap.size ≤ g; omega) (.int .i64 1099511627776))
                  clear HB HZ HQ HZ1 HO
                  go_wp2
                  go_roundw
                  case rel => exact ⟨j + 1, by omega, by omega, by go_num, s5, s2, s3, s4, by rw [HIN.out i j hi1 hlt hj1 hlj hij] at s1; exact s1⟩
                  case measure => simp [intOf]; omega
              · obtain rfl : j = n + 1 := by omega
                go_wp2
                go_roundw
                case rel => exact ⟨i + 1, by omega, by omega, by go_num, HB, HZ, HQ, HZ1, by rw [HROW.out i hi1] at HO; exact HO⟩
                case measure => simp [intOf]; omega
          · obtain rfl : i = n + 1 := by omega
            rw [HEND.out] at HO
            have hz := HZ.out
            have ho := HO.out
            have hz1 := HZ1.out
            have hb := HB.out
            clear HZ HQ HZ1 HB HO
            go_wp2_with (first
              | (refine load_z rfl _ rfl rfl ho ?_)
              | (go_at_call 77; ((with_reducible refine (HCL.out _).mono ?_); rintro e W9 ⟨rfl, hb3⟩; have hz1 := hz1.on hb3; have hb := hb.trans (hb3.mono hb.size); clear hb3))
              | (refine store_z rfl _ _ rfl rfl rfl hz1 ?_; intro W4 hz4 hg4 hs4)
              | fail)
            exact bodyPost_ret (results_z rfl (by simp [Act.put]) hz4) rfl ⟨rfl, below_only hb hg4 hb.size (by omega)⟩
  · rw [widZ_l (.inl h)]
    simp only [h, decide_false] at hal
    have HAL : Hid (∀ W : World, Calls Try.prog 90 #[.agg (zc a.n a.none a.D), .agg (zc b.n b.none b.D)] W (Ret W (.bool false))) := hal
    clear hal hwi ha hb h
    go_enter Try.func58, Try.ntmps58
    go_wp2_with (first
      | (have _t := hz; refine wpList_box_zone rfl 26 _ rfl _ _ _ rfl ?_; intro W2 hq hb2 hs2; rw [hs.out] at hq hb2 hs2; have hz := hz.below hb2 (by omega); have hb := hb.trans (hb2.mono (by omega)); rw [hs.out]; clear hb2 hs _t)
      | (refine wpList_box_zone rfl 26 _ rfl _ _ _ rfl ?_; intro W hz hb hs)
      | (have _t := hs2; refine wpList_alloc_zone rfl 26 rfl zz ?_; intro W3 hz1 hb3 hs3; rw [hs2.out] at hz1 hb3 hs3; rw [hs2.out]; have hz := hz.below hb3 (by omega); have hq := hq.below hb3 (by omega); have hqc := hq.b_cell; have hbc := hz.b_cell; have hnc := hz.n_cell; have hb := hb.trans (hb3.mono (by omega)); clear hb3 hs2 _t)
      | (refine load_z rfl _ rfl rfl hz ?_)
      | (refine load_z rfl _ rfl rfl hq ?_)
      | (go_at_call 90; ((with_reducible refine (HAL.out _).mono ?_); rintro e W4 ⟨rfl, hb3⟩; have hz := hz.on hb3; have hq := hq.on hb3; have hz1 := hz1.on hb3; have hbc := hz.b_cell; have hqc := hq.b_cell; have hnc := hz.n_cell; have hb := hb.trans (hb3.mono hb.size); clear hb3))
      | (refine store_z rfl _ _ rfl rfl rfl hz1 ?_; intro W4 hz4 hg4 hs4)
      | fail)
    exact bodyPost_ret (results_z rfl (by simp [Act.put]) hz4) rfl ⟨rfl, below_only hb hg4 hb.size (by omega)⟩
end Go.Proofs.Ytgnkhncogfppgaa
