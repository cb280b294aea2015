import Derived.Test.YtgnkhncogfppgaaS2
import Derived.Test.YtgnkhncogfppgaaM6
import Derived.Test.YtgnkhncogfppgaaK2
namespace Go.Proofs.Ytgnkhncogfppgaa
open Go.RowKit
set_option maxRecDepth 100000 in
set_option maxHeartbeats 4000000 in
theorem acts_walk (nn : Int) (zeros : Bool) (ad : Option Addr) (len cap : Nat) (hlen : len ≤ 9223372036854775807) (A : Nat → Nat → Int) (w : World) (hA : SlA w ad len A) :
    Calls Try.prog 4 #[.int .i64 nn, .bool zeros, .slice ad len cap] w (Ret w (.bool true)) := by
  have HA := Lib.hid hA
  clear hA
  obtain ⟨r, hr0⟩ : ∃ r : Nat, (IntKind.u64.wrap nn).toNat = r := ⟨_, rfl⟩
  have hrr : IntKind.u64.wrap nn = (r : Int) := by rw [← hr0]; exact u64_nat _
  obtain ⟨k, hk⟩ : ∃ k : Nat, r % 7 = k := ⟨_, rfl⟩
  have x3 : (r : Int) % 7 = (k : Int) := by omega
  have hk6 : k ≤ 6 := by omega
  clear hr0 hk
  have ht : ∀ W : World, Calls Try.prog 21 #[.int .i64 (k : Int)] W (Ret W (.agg (topZ k).c)) := fun W => top_any k hk6 W
  have hrt : ∀ W : World, Calls Try.prog 27 #[.int .i64 (k : Int)] W (Ret W (.agg (topZ k).c)) := fun W => rtop_any k hk6 W
  have hzs : ∀ W : World, Calls Try.prog 28 #[.int .i64 (k : Int)] W (Ret W (.agg (zerosZ k).c)) := fun W => zeros_any k hk6 W
  have HT := Lib.hid ht
  have HRT := Lib.hid hrt
  have HZS := Lib.hid hzs
  clear ht hrt hzs
  cases zeros with
  | false =>
    go_enter Try.func4, Try.ntmps4
    go_wp2_with (first
      | (go_at_call 21; ((with_reducible refine (HT.out _).mono ?_); rintro e W2 ⟨rfl, hb⟩))
      | (go_at_call 27; ((with_reducible refine (HRT.out _).mono ?_); rintro e W3 ⟨rfl, hb2⟩; have hb := hb.trans (hb2.mono hb.size); clear hb2))
      | (go_at_call 28; ((with_reducible refine (HZS.out _).mono ?_); rintro e W8 ⟨rfl, hb2⟩; have hz := hz.on hb2; have hr := hr.on hb2; have hb := hb.trans (hb2.mono hb.size); clear hb2))
      | (refine wpList_alloc_zone rfl 26 rfl zz ?_; intro W4 hz hb4 hs4; have hge := hb.size; have hb := hb.trans (hb4.mono hge); clear hb4)
      | (refine wpList_alloc_zone rfl 38 rfl rz ?_; intro W5 hr hb5 hs5; rw [hs4.out] at hr hb5 hs5; rw [hs4.out]; have hz := hz.below hb5 (by omega); have hb := hb.trans (hb5.mono (by omega)); clear hb5)
      | (refine store_z rfl _ _ rfl rfl rfl hz ?_; intro W6 hz6 hg6 hs6; have hr := hr.only hg6 (by omega); have hb := below_only hb hg6 hb.size (by omega); clear hz; have hz := hz6; clear hz6 hg6 hs6)
      | (refine store_r rfl _ _ rfl rfl rfl hr ?_; intro W7 hr7 hg7 hs7; have hz := hz.only hg7 (by omega); have hb := below_only hb hg7 hb.size (by omega); clear hr; have hr := hr7; clear hr7 hg7 hs7)
      | fail)
    clear hs4 hs5
    generalize W3.heap.size = g at hge hz hr ⊢
    rw [topZ_n] at hz hr
    obtain ⟨Z0, hZ0⟩ : ∃ Z0, Z0 = topZ k := ⟨_, rfl⟩
    have HOK0 := Lib.hid (show OKZ Z0 by rw [hZ0]; exact top_ok hk6)
    have HN0 := Lib.hid (show Z0.n = k by rw [hZ0]; exact topZ_n k)
    rw [← hZ0] at hz hr
    clear hZ0
    have hfr : ∀ W : World, Calls Try.prog 30 #[.agg (zc k Z0.none Z0.D)] W (Ret W (.agg (zc k Z0.none Z0.D))) := fun W => by have := from_any Z0 W; rw [Zn.c, HN0.out] at this; exact this
    obtain ⟨Y, hY⟩ : ∃ Y, Y = actsZ Z0 A (min len 20) := ⟨_, rfl⟩
    have HYK := Lib.hid (show OKZ Y by rw [hY]; exact acts_ok HOK0.out A _)
    have HYN := Lib.hid (show Y.n = k by rw [hY, actsZ_n]; exact HN0.out)
    have hap : ∀ W : World, Below w.heap.size w W → Calls Try.prog 31 #[.agg (zc k Z0.none Z0.D), .agg (zc k Z0.none Z0.D), .slice ad len cap] W (Ret W (.tuple #[.agg (zc k Y.none Y.D), .agg (zc k Y.none Y.D), .bool true])) := fun W hW => by
      have := apply_any HOK0.out ad len cap hlen A W (HA.out.on hW)
      rw [← hY, Zn.c, Zn.c, HYN.out, HN0.out] at this
      exact this
    have HFR := Lib.hid hfr
    have HAP := Lib.hid hap
    clear hfr hap hY
    refine head0 7 (by kernel_rfl) (by kernel_rfl) (by kernel_rfl) (by kernel_rfl) ?_
    simp only [List.take_succ_cons, List.take_zero, List.drop_succ_cons, List.drop_zero]
    (refine lex_call rfl rfl _ _ (fun W => ?_) _ (fun W hW => copies_any W) ?_; focus (go_simp; done))
    simp only [Act.put, List.setIfInBounds_toArray, List.set_cons_succ, List.set_cons_zero]
    (refine lex_pure rfl rfl ?_ (fun W => ?_) ?_; rotate_left; focus (go_simp; try rfl))
    simp only [Act.put, List.setIfInBounds_toArray, List.set_cons_succ, List.set_cons_zero]
    (refine lex_pure rfl rfl ?_ (fun W => ?_) ?_; rotate_left; focus (go_simp; try rfl))
    simp only [Act.put, List.setIfInBounds_toArray, List.set_cons_succ, List.set_cons_zero]
    refine lex_load_z rfl _ rfl rfl hz ?_
    simp only [Act.put, List.setIfInBounds_toArray, List.set_cons_succ, List.set_cons_zero]
    (refine lex_call rfl rfl _ _ (fun W => ?_) _ (fun W hW => HFR.out W) ?_; focus (go_simp; done))
    simp only [Act.put, List.setIfInBounds_toArray, List.set_cons_succ, List.set_cons_zero]
    refine lex_load_r rfl _ rfl rfl hr ?_
    simp only [Act.put, List.setIfInBounds_toArray, List.set_cons_succ, List.set_cons_zero]
    (refine lex_pure rfl rfl ?_ (fun W => ?_) ?_; rotate_left; focus (go_simp; try rfl))
    simp only [Act.put, List.setIfInBounds_toArray, List.set_cons_succ, List.set_cons_zero]
    intro w2 hb2
    have hz := hz.on hb2
    have hr := hr.on hb2
    have hb := hb.trans (hb2.mono hb.size)
    clear hb2 HFR
    go_wp2_with (first
      | (refine load_z rfl _ rfl rfl hz ?_)
      | (refine load_r rfl _ rfl rfl hr ?_)
      | (go_at_call 31; ((with_reducible refine (HAP.out _ hb).mono ?_); rintro e W3 ⟨rfl, hb3⟩; have hz := hz.on hb3; have hr := hr.on hb3; have hb := hb.trans (hb3.mono hb.size); clear hb3))
      | (refine store_z rfl _ _ rfl rfl rfl hz ?_; intro W6 hz6 hg6 hs6; have hr := hr.only hg6 (by omega); have hb := below_only hb hg6 hb.size (by omega); clear hz; have hz := hz6; clear hz6 hg6 hs6)
      | (refine store_r rfl _ _ rfl rfl rfl hr ?_; intro W7 hr7 hg7 hs7; have hz := hz.only hg7 (by omega); have hb := below_only hb hg7 hb.size (by omega); clear hr; have hr := hr7; clear hr7 hg7 hs7)
      | fail)
    have HZ := Lib.hid hz
    have HR := Lib.hid hr
    have HB := Lib.hid hb
    clear hz hr hb HAP
    go_loopw [12] (fun i_ wr => ∃ x : Nat, x ≤ k ∧ i_ = .int .i64 (x : Int) ∧ Hid (Below w.heap.size w wr) ∧ Hid (ZAt 26 wr g k Y.none Y.D) ∧ Hid (ZAt 38 wr (g + 1) k Y.none Y.D)) (fun i _ => 7 - (intOf i).toNat)
    case atStart => exact ⟨0, by omega, rfl, HB, HZ, HR⟩
    case round =>
      clear HB HZ HR
      obtain ⟨x, hx, rfl, HB, HZ, HR⟩ := hrel
      have hz := HZ.out
      have hr := HR.out
      have hb := HB.out
      by_cases hxk : x < k
      · obtain ⟨a, b, hab⟩ : ∃ a b : Int, itvZ Y (x : Int) = (a, b) := ⟨_, _, rfl⟩
        have hi : ∀ W : World, Calls Try.prog 25 #[.agg (zc k Y.none Y.D), .int .i64 (x : Int)] W (Ret W (.agg (ic a b))) := fun W => by
          have := zitv_any Y HYK.out.n (x : Int) W
          rw [hab, Zn.c, HYN.out] at this
          exact this
        have HI := Lib.hid hi
        clear hi
        cases hyn : Y.none with
        | true =>
          rw [itvZ_none _ (by rw [varB_iff, hyn]; simp)] at hab
          obtain ⟨rfl, rfl⟩ : a = 1 ∧ b = 0 := by simp at hab; omega
          rw [hyn] at hz hr HI
          have HYNONE := Lib.hid hyn
          clear hyn hab
          go_wp2_with (first
            | (refine load_z rfl _ rfl rfl hz ?_)
            | (go_at_call 25; ((with_reducible refine (HI.out _).mono ?_); rintro e W3 ⟨rfl, hb3⟩; have hz := hz.on hb3; have hr := hr.on hb3; have hb := hb.trans (hb3.mono hb.size); clear hb3))
            | (refine alloc_row rfl 32 rfl _ iz32 ?_; intro W4 hq hb4 hs4; have hl := hr.lt; have hz := hz.on hb4; have hr := hr.on hb4; have hsz := hb.size; have hb := hb.trans (hb4.mono hsz); clear hb4)
            | (refine store_i rfl _ _ rfl rfl rfl hq ?_; intro W5 hq5 hg5 hs5; have hz := hz.only hg5 (by omega); have hr := hr.only hg5 (by omega); have hb := below_only hb hg5 hb.size (by omega); clear hq hg5 hs5)
            | fail)
          have hbc := hr.b_cell
          refine head0 29 (by kernel_rfl) (by kernel_rfl) (by kernel_rfl) (by kernel_rfl) ?_
          simp only [List.take_succ_cons, List.take_zero, List.drop_succ_cons, List.drop_zero]
          (repeat (first | (refine lex_skip rfl ?_; simp only [Act.put, List.setIfInBounds_toArray, List.set_cons_succ, List.set_cons_zero]) | ((refine lex_load_bool rfl _ rfl rfl hbc ?_); simp only [Act.put, List.setIfInBounds_toArray, List.set_cons_succ, List.set_cons_zero]) | ((refine lex_load_i rfl _ rfl rfl hq5 ?_); simp only [Act.put, List.setIfInBounds_toArray, List.set_cons_succ, List.set_cons_zero]) | ((refine lex_call rfl rfl _ _ (fun W => ?_) _ (fun W hW => inone_any W) ?_; focus (go_simp; done)); simp only [Act.put, List.setIfInBounds_toArray, List.set_cons_succ, List.set_cons_zero]) | ((refine lex_pure rfl rfl ?_ (fun W => ?_) ?_; rotate_left; focus (go_simp; first | done | rfl)); simp only [Act.put, List.setIfInBounds_toArray, List.set_cons_succ, List.set_cons_zero])))
          intro w3 hb3
          have HZ := Lib.hid (hz.on hb3)
          have HR := Lib.hid (hr.on hb3)
          have HB := Lib.hid (hb.trans (hb3.mono hb.size))
          clear hz hr hb hb3 hbc hq5
          go_wp2
          go_roundw
          case rel => exact ⟨x + 1, by omega, by go_num, HB, HZ, HR⟩
          case measure => simp [intOf]; omega
        | false =>
          have hbd := HYK.out.bounds hyn 0 (x + 1) (by omega) (by rw [HYN.out]; omega)
          rw [itvZ_ok HYK.out hyn (by rw [HYN.out]; exact hxk)] at hab
          obtain ⟨rfl, rfl⟩ : a = -Y.D 0 (x + 1) ∧ b = Y.D (x + 1) 0 := by simp at hab; omega
          rw [hyn] at hz hr HI
          have HYNONE := Lib.hid hyn
          clear hyn hab
          go_wp2_with (first
            | (refine load_z rfl _ rfl rfl hz ?_)
            | (go_at_call 25; ((with_reducible refine (HI.out _).mono ?_); rintro e W3 ⟨rfl, hb3⟩; have hz := hz.on hb3; have hr := hr.on hb3; have hb := hb.trans (hb3.mono hb.size); clear hb3))
            | (refine alloc_row rfl 32 rfl _ iz32 ?_; intro W4 hq hb4 hs4; have hl := hr.lt; have hz := hz.on hb4; have hr := hr.on hb4; have hsz := hb.size; have hb := hb.trans (hb4.mono hsz); clear hb4)
            | (refine store_i rfl _ _ rfl rfl rfl hq ?_; intro W5 hq5 hg5 hs5; have hz := hz.only hg5 (by omega); have hr := hr.only hg5 (by omega); have hb := below_only hb hg5 hb.size (by omega); clear hq hg5 hs5)
            | fail)
          have hbc := hr.b_cell
          have d1 := hr.cell 0 (x + 1) (by omega) (by omega)
          have d2 := hr.cell (x + 1) 0 (by omega) (by omega)
          simp only [Nat.zero_mul, Nat.add_zero] at d1 d2
          have e1 : (0 : Int) ≤ (x : Int) + 1 := by omega
          have e2 : ((x : Int) + 1).toNat = x + 1 := by omega
          have e3 : (x : Int) + 1 < 7 := by omega
          obtain ⟨hbd1, hbd2⟩ := hbd
          refine head0 29 (by kernel_rfl) (by kernel_rfl) (by kernel_rfl) (by kernel_rfl) ?_
          simp only [List.take_succ_cons, List.take_zero, List.drop_succ_cons, List.drop_zero]
          (repeat (first | (refine lex_skip rfl ?_; simp only [Act.put, List.setIfInBounds_toArray, List.set_cons_succ, List.set_cons_zero]) | ((refine lex_load_bool rfl _ rfl rfl hbc ?_); simp only [Act.put, List.setIfInBounds_toArray, List.set_cons_succ, List.set_cons_zero]) | ((refine lex_load_i rfl _ rfl rfl hq5 ?_); simp only [Act.put, List.setIfInBounds_toArray, List.set_cons_succ, List.set_cons_zero]) | ((refine lex_load_int rfl _ rfl rfl d1 ?_); simp only [Act.put, List.setIfInBounds_toArray, List.set_cons_succ, List.set_cons_zero]) | ((refine lex_load_int rfl _ rfl rfl d2 ?_); simp only [Act.put, List.setIfInBounds_toArray, List.set_cons_succ, List.set_cons_zero]) | ((refine lex_build_i rfl _ _ rfl rfl rfl ?_); simp only [Act.put, List.setIfInBounds_toArray, List.set_cons_succ, List.set_cons_zero]) | ((refine lex_pure rfl rfl (.int .i64 ((x : Int) + 1)) (fun W => ?_) ?_; focus (go_simp; exact IntWalk.i64_in _ (by omega))); simp only [Act.put, List.setIfInBounds_toArray, List.set_cons_succ, List.set_cons_zero]) | ((refine lex_pure rfl rfl (.int .i64 (-Y.D 0 (x + 1))) (fun W => ?_) ?_; focus (go_simp; exact IntWalk.i64_in _ (by omega))); simp only [Act.put, List.setIfInBounds_toArray, List.set_cons_succ, List.set_cons_zero]) | ((refine lex_pure rfl rfl ?_ (fun W => ?_) ?_; rotate_left; focus (go_simp; first | done | rfl)); simp only [Act.put, List.setIfInBounds_toArray, List.set_cons_succ, List.set_cons_zero])))
          intro w3 hb3
          have HZ := Lib.hid (hz.on hb3)
          have HR := Lib.hid (hr.on hb3)
          have HB := Lib.hid (hb.trans (hb3.mono hb.size))
          clear hz hr hb hb3 hbc hq5 d1 d2 e1 e2
          go_wp2
          go_roundw
          case rel => exact ⟨x + 1, by omega, by go_num, HB, HZ, HR⟩
          case measure => simp [intOf]; omega
      · obtain rfl : k = x := by omega
        have hik : ∀ W : World, Calls Try.prog 25 #[.agg (zc k Y.none Y.D), .int .i64 (k : Int)] W (Ret W (.agg (ic 1 0))) := fun W => by
          have := zitv_any Y HYK.out.n (k : Int) W
          rw [itvZ_none _ (by rw [varB_iff, HYN.out]; omega), Zn.c, HYN.out] at this
          exact this
        have him : ∀ W : World, Calls Try.prog 25 #[.agg (zc k Y.none Y.D), .int .i64 (-1)] W (Ret W (.agg (ic 1 0))) := fun W => by
          have := zitv_any Y HYK.out.n (-1) W
          rw [itvZ_none _ (by rw [varB_iff]; omega), Zn.c, HYN.out] at this
          exact this
        have HIK := Lib.hid hik
        have HIM := Lib.hid him
        clear hik him
        go_wp2_with (first
          | (refine load_z rfl _ rfl rfl hz ?_)
          | (go_at_call 25; ((with_reducible refine (HIK.out _).mono ?_); rintro e W3 ⟨rfl, hb3⟩; have hz := hz.on hb3; have hb := hb.trans (hb3.mono hb.size); clear hb3))
          | (go_at_call 25; ((with_reducible refine (HIM.out _).mono ?_); rintro e W3 ⟨rfl, hb3⟩; have hz := hz.on hb3; have hb := hb.trans (hb3.mono hb.size); clear hb3))
          | (go_at_call 32; ((with_reducible refine (inone_any _).mono ?_); rintro e W3 ⟨rfl, hb3⟩; have hz := hz.on hb3; have hb := hb.trans (hb3.mono hb.size); clear hb3))
          | fail)
        go_ret
        exact ⟨rfl, hb⟩
  | true =>
    go_enter Try.func4, Try.ntmps4
    go_wp2_with (first
      | (go_at_call 21; ((with_reducible refine (HT.out _).mono ?_); rintro e W2 ⟨rfl, hb⟩))
      | (go_at_call 27; ((with_reducible refine (HRT.out _).mono ?_); rintro e W3 ⟨rfl, hb2⟩; have hb := hb.trans (hb2.mono hb.size); clear hb2))
      | (go_at_call 28; ((with_reducible refine (HZS.out _).mono ?_); rintro e W8 ⟨rfl, hb2⟩; have hz := hz.on hb2; have hr := hr.on hb2; have hb := hb.trans (hb2.mono hb.size); clear hb2))
      | (refine wpList_alloc_zone rfl 26 rfl zz ?_; intro W4 hz hb4 hs4; have hge := hb.size; have hb := hb.trans (hb4.mono hge); clear hb4)
      | (refine wpList_alloc_zone rfl 38 rfl rz ?_; intro W5 hr hb5 hs5; rw [hs4.out] at hr hb5 hs5; rw [hs4.out]; have hz := hz.below hb5 (by omega); have hb := hb.trans (hb5.mono (by omega)); clear hb5)
      | (refine store_z rfl _ _ rfl rfl rfl hz ?_; intro W6 hz6 hg6 hs6; have hr := hr.only hg6 (by omega); have hb := below_only hb hg6 hb.size (by omega); clear hz; have hz := hz6; clear hz6 hg6 hs6)
      | (refine store_r rfl _ _ rfl rfl rfl hr ?_; intro W7 hr7 hg7 hs7; have hz := hz.only hg7 (by omega); have hb := below_only hb hg7 hb.size (by omega); clear hr; have hr := hr7; clear hr7 hg7 hs7)
      | fail)
    clear hs4 hs5
    generalize W3.heap.size = g at hge hz hr ⊢
    have HZ := Lib.hid hz
    rw [topZ_n] at hr
    have HR := Lib.hid hr
    have HB := Lib.hid hb
    clear hz hr hb
    go_loopw [10] (fun i_ wr => ∃ x : Nat, x ≤ k ∧ i_ = .int .i64 (x : Int) ∧ Hid (Below w.heap.size w wr) ∧ Hid (ZAt 26 wr g k (zerosZ k).none (zerosZ k).D) ∧ Hid (ZAt 38 wr (g + 1) k (zrZ k x).none (zrZ k x).D)) (fun i _ => 7 - (intOf i).toNat)
    case atStart => exact ⟨0, by omega, rfl, HB, HZ, HR⟩
    case round =>
      clear HB HZ HR
      obtain ⟨x, hx, rfl, HB, HZ, HR⟩ := hrel
      have hz := HZ.out
      have hr := HR.out
      have hb := HB.out
      by_cases hxk : x < k
      · have hI := zrI hk6 x (by omega)
        have hI2 := zrI hk6 (x + 1) (by omega)
        have hb1 : ∀ W : World, Calls Try.prog 29 #[.agg (zc k (zrZ k x).none (zrZ k x).D), .int .i64 (x : Int), .int .i64 (-1), .int .i64 0] W (Ret W (.agg (boundZ (zrZ k x) x (-1) 0).c)) := fun W => by
          have := rbound_any hI.ok (i := x + 1) (j := 0) (by rw [hI.n]; omega) (by omega) (by omega) (d := 0) (by omega) W
          rw [show ((x + 1 : Nat) : Int) - 1 = x by omega, show ((0 : Nat) : Int) - 1 = -1 by omega, Zn.c, hI.n] at this
          exact this
        have hok : OKZ (boundZ (zrZ k x) x (-1) 0) := by
          have := bound_ok hI.ok (i := x + 1) (j := 0) (by rw [hI.n]; omega) (by omega) (by omega) (d := 0) (by omega)
          rw [show ((x + 1 : Nat) : Int) - 1 = x by omega, show ((0 : Nat) : Int) - 1 = -1 by omega] at this
          exact this
        have hb2 : ∀ W : World, Calls Try.prog 29 #[.agg (boundZ (zrZ k x) x (-1) 0).c, .int .i64 (-1), .int .i64 (x : Int), .int .i64 0] W (Ret W (.agg (zc k (zrZ k (x + 1)).none (zrZ k (x + 1)).D))) := fun W => by
          have := rbound_any hok (i := 0) (j := x + 1) (by omega) (by rw [boundZ_n, hI.n]; omega) (by omega) (d := 0) (by omega) W
          rw [show ((x + 1 : Nat) : Int) - 1 = x by omega, show ((0 : Nat) : Int) - 1 = -1 by omega, show boundZ (boundZ (zrZ k x) x (-1) 0) (-1) x 0 = zrZ k (x + 1) from rfl, show (zrZ k (x + 1)).c = zc (zrZ k (x + 1)).n (zrZ k (x + 1)).none (zrZ k (x + 1)).D from rfl, hI2.n] at this
          exact this
        have HB1 := Lib.hid hb1
        have HB2 := Lib.hid hb2
        clear hb1 hb2 hI hI2 hok
        go_wp2_with (first
          | (refine load_r rfl _ rfl rfl hr ?_)
          | (go_at_call 29; ((with_reducible refine (HB1.out _).mono ?_); rintro e W2 ⟨rfl, hb2⟩; have hz := hz.on hb2; have hr := hr.on hb2; have hb := hb.trans (hb2.mono hb.size); clear hb2))
          | (go_at_call 29; ((with_reducible refine (HB2.out _).mono ?_); rintro e W2 ⟨rfl, hb2⟩; have hz := hz.on hb2; have hr := hr.on hb2; have hb := hb.trans (hb2.mono hb.size); clear hb2))
          | (refine store_r rfl _ _ rfl rfl rfl hr ?_; intro W7 hr7 hg7 hs7; have hz := hz.only hg7 (by omega); have hb := below_only hb hg7 hb.size (by omega); clear hr; have hr := hr7; clear hr7 hg7 hs7)
          | fail)
        have HZ := Lib.hid hz
        have HR := Lib.hid hr
        have HB := Lib.hid hb
        clear hz hr hb
        go_roundw
        case rel => exact ⟨x + 1, by omega, by go_num, HB, HZ, HR⟩
        case measure => simp [intOf]; omega
      · obtain rfl : k = x := by omega
        go_wp2_with fail
        rw [zr_zeros hk6] at hr
        obtain ⟨Z0, hZ0⟩ : ∃ Z0, Z0 = zerosZ k := ⟨_, rfl⟩
        have HOK0 := Lib.hid (show OKZ Z0 by rw [hZ0]; exact zeros_ok hk6)
        have HN0 := Lib.hid (show Z0.n = k by rw [hZ0]; rfl)
        rw [← hZ0] at hz hr
        clear hZ0
        have hfr : ∀ W : World, Calls Try.prog 30 #[.agg (zc k Z0.none Z0.D)] W (Ret W (.agg (zc k Z0.none Z0.D))) := fun W => by have := from_any Z0 W; rw [Zn.c, HN0.out] at this; exact this
        obtain ⟨Y, hY⟩ : ∃ Y, Y = actsZ Z0 A (min len 20) := ⟨_, rfl⟩
        have HYK := Lib.hid (show OKZ Y by rw [hY]; exact acts_ok HOK0.out A _)
        have HYN := Lib.hid (show Y.n = k by rw [hY, actsZ_n]; exact HN0.out)
        have hap : ∀ W : World, Below w.heap.size w W → Calls Try.prog 31 #[.agg (zc k Z0.none Z0.D), .agg (zc k Z0.none Z0.D), .slice ad len cap] W (Ret W (.tuple #[.agg (zc k Y.none Y.D), .agg (zc k Y.none Y.D), .bool true])) := fun W hW => by
          have := apply_any HOK0.out ad len cap hlen A W (HA.out.on hW)
          rw [← hY, Zn.c, Zn.c, HYN.out, HN0.out] at this
          exact this
        have HFR := Lib.hid hfr
        have HAP := Lib.hid hap
        clear hfr hap hY
        refine head0 7 (by kernel_rfl) (by kernel_rfl) (by kernel_rfl) (by kernel_rfl) ?_
        simp only [List.take_succ_cons, List.take_zero, List.drop_succ_cons, List.drop_zero]
        (refine lex_call rfl rfl _ _ (fun W => ?_) _ (fun W hW => copies_any W) ?_; focus (go_simp; done))
        simp only [Act.put, List.setIfInBounds_toArray, List.set_cons_succ, List.set_cons_zero]
        (refine lex_pure rfl rfl ?_ (fun W => ?_) ?_; rotate_left; focus (go_simp; try rfl))
        simp only [Act.put, List.setIfInBounds_toArray, List.set_cons_succ, List.set_cons_zero]
        (refine lex_pure rfl rfl ?_ (fun W => ?_) ?_; rotate_left; focus (go_simp; try rfl))
        simp only [Act.put, List.setIfInBounds_toArray, List.set_cons_succ, List.set_cons_zero]
        refine lex_load_z rfl _ rfl rfl hz ?_
        simp only [Act.put, List.setIfInBounds_toArray, List.set_cons_succ, List.set_cons_zero]
        (refine lex_call rfl rfl _ _ (fun W => ?_) _ (fun W hW => HFR.out W) ?_; focus (go_simp; done))
        simp only [Act.put, List.setIfInBounds_toArray, List.set_cons_succ, List.set_cons_zero]
        refine lex_load_r rfl _ rfl rfl hr ?_
        simp only [Act.put, List.setIfInBounds_toArray, List.set_cons_succ, List.set_cons_zero]
        (refine lex_pure rfl rfl ?_ (fun W => ?_) ?_; rotate_left; focus (go_simp; try rfl))
        simp only [Act.put, List.setIfInBounds_toArray, List.set_cons_succ, List.set_cons_zero]
        intro w2 hb2
        have hz := hz.on hb2
        have hr := hr.on hb2
        have hb := hb.trans (hb2.mono hb.size)
        clear hb2 HFR
        go_wp2_with (first
          | (refine load_z rfl _ rfl rfl hz ?_)
          | (refine load_r rfl _ rfl rfl hr ?_)
          | (go_at_call 31; ((with_reducible refine (HAP.out _ hb).mono ?_); rintro e W3 ⟨rfl, hb3⟩; have hz := hz.on hb3; have hr := hr.on hb3; have hb := hb.trans (hb3.mono hb.size); clear hb3))
          | (refine store_z rfl _ _ rfl rfl rfl hz ?_; intro W6 hz6 hg6 hs6; have hr := hr.only hg6 (by omega); have hb := below_only hb hg6 hb.size (by omega); clear hz; have hz := hz6; clear hz6 hg6 hs6)
          | (refine store_r rfl _ _ rfl rfl rfl hr ?_; intro W7 hr7 hg7 hs7; have hz := hz.only hg7 (by omega); have hb := below_only hb hg7 hb.size (by omega); clear hr; have hr := hr7; clear hr7 hg7 hs7)
          | fail)
        have HZ := Lib.hid hz
        have HR := Lib.hid hr
        have HB := Lib.hid hb
        clear hz hr hb HAP
        go_loopw [12] (fun i_ wr => ∃ x : Nat, x ≤ k ∧ i_ = .int .i64 (x : Int) ∧ Hid (Below w.heap.size w wr) ∧ Hid (ZAt 26 wr g k Y.none Y.D) ∧ Hid (ZAt 38 wr (g + 1) k Y.none Y.D)) (fun i _ => 7 - (intOf i).toNat)
        case atStart => exact ⟨0, by omega, rfl, HB, HZ, HR⟩
        case round =>
          clear HB HZ HR
          obtain ⟨x, hx, rfl, HB, HZ, HR⟩ := hrel
          have hz := HZ.out
          have hr := HR.out
          have hb := HB.out
          by_cases hxk : x < k
          · obtain ⟨a, b, hab⟩ : ∃ a b : Int, itvZ Y (x : Int) = (a, b) := ⟨_, _, rfl⟩
            have hi : ∀ W : World, Calls Try.prog 25 #[.agg (zc k Y.none Y.D), .int .i64 (x : Int)] W (Ret W (.agg (ic a b))) := fun W => by
              have := zitv_any Y HYK.out.n (x : Int) W
              rw [hab, Zn.c, HYN.out] at this
              exact this
            have HI := Lib.hid hi
            clear hi
            cases hyn : Y.none with
            | true =>
              rw [itvZ_none _ (by rw [varB_iff, hyn]; simp)] at hab
              obtain ⟨rfl, rfl⟩ : a = 1 ∧ b = 0 := by simp at hab; omega
              rw [hyn] at hz hr HI
              have HYNONE := Lib.hid hyn
              clear hyn hab
              go_wp2_with (first
                | (refine load_z rfl _ rfl rfl hz ?_)
                | (go_at_call 25; ((with_reducible refine (HI.out _).mono ?_); rintro e W3 ⟨rfl, hb3⟩; have hz := hz.on hb3; have hr := hr.on hb3; have hb := hb.trans (hb3.mono hb.size); clear hb3))
                | (refine alloc_row rfl 32 rfl _ iz32 ?_; intro W4 hq hb4 hs4; have hl := hr.lt; have hz := hz.on hb4; have hr := hr.on hb4; have hsz := hb.size; have hb := hb.trans (hb4.mono hsz); clear hb4)
                | (refine store_i rfl _ _ rfl rfl rfl hq ?_; intro W5 hq5 hg5 hs5; have hz := hz.only hg5 (by omega); have hr := hr.only hg5 (by omega); have hb := below_only hb hg5 hb.size (by omega); clear hq hg5 hs5)
                | fail)
              have hbc := hr.b_cell
              refine head0 29 (by kernel_rfl) (by kernel_rfl) (by kernel_rfl) (by kernel_rfl) ?_
              simp only [List.take_succ_cons, List.take_zero, List.drop_succ_cons, List.drop_zero]
              (repeat (first | (refine lex_skip rfl ?_; simp only [Act.put, List.setIfInBounds_toArray, List.set_cons_succ, List.set_cons_zero]) | ((refine lex_load_bool rfl _ rfl rfl hbc ?_); simp only [Act.put, List.setIfInBounds_toArray, List.set_cons_succ, List.set_cons_zero]) | ((refine lex_load_i rfl _ rfl rfl hq5 ?_); simp only [Act.put, List.setIfInBounds_toArray, List.set_cons_succ, List.set_cons_zero]) | ((refine lex_call rfl rfl _ _ (fun W => ?_) _ (fun W hW => inone_any W) ?_; focus (go_simp; done)); simp only [Act.put, List.setIfInBounds_toArray, List.set_cons_succ, List.set_cons_zero]) | ((refine lex_pure rfl rfl ?_ (fun W => ?_) ?_; rotate_left; focus (go_simp; first | done | rfl)); simp only [Act.put, List.setIfInBounds_toArray, List.set_cons_succ, List.set_cons_zero])))
              intro w3 hb3
              have HZ := Lib.hid (hz.on hb3)
              have HR := Lib.hid (hr.on hb3)
              have HB := Lib.hid (hb.trans (hb3.mono hb.size))
              clear hz hr hb hb3 hbc hq5
              go_wp2
              go_roundw
              case rel => exact ⟨x + 1, by omega, by go_num, HB, HZ, HR⟩
              case measure => simp [intOf]; omega
            | false =>
              have hbd := HYK.out.bounds hyn 0 (x + 1) (by omega) (by rw [HYN.out]; omega)
              rw [itvZ_ok HYK.out hyn (by rw [HYN.out]; exact hxk)] at hab
              obtain ⟨rfl, rfl⟩ : a = -Y.D 0 (x + 1) ∧ b = Y.D (x + 1) 0 := by simp at hab; omega
              rw [hyn] at hz hr HI
              have HYNONE := Lib.hid hyn
              clear hyn hab
              go_wp2_with (first
                | (refine load_z rfl _ rfl rfl hz ?_)
                | (go_at_call 25; ((with_reducible refine (HI.out _).mono ?_); rintro e W3 ⟨rfl, hb3⟩; have hz := hz.on hb3; have hr := hr.on hb3; have hb := hb.trans (hb3.mono hb.size); clear hb3))
                | (refine alloc_row rfl 32 rfl _ iz32 ?_; intro W4 hq hb4 hs4; have hl := hr.lt; have hz := hz.on hb4; have hr := hr.on hb4; have hsz := hb.size; have hb := hb.trans (hb4.mono hsz); clear hb4)
                | (refine store_i rfl _ _ rfl rfl rfl hq ?_; intro W5 hq5 hg5 hs5; have hz := hz.only hg5 (by omega); have hr := hr.only hg5 (by omega); have hb := below_only hb hg5 hb.size (by omega); clear hq hg5 hs5)
                | fail)
              have hbc := hr.b_cell
              have d1 := hr.cell 0 (x + 1) (by omega) (by omega)
              have d2 := hr.cell (x + 1) 0 (by omega) (by omega)
              simp only [Nat.zero_mul, Nat.add_zero] at d1 d2
              have e1 : (0 : Int) ≤ (x : Int) + 1 := by omega
              have e2 : ((x : Int) + 1).toNat = x + 1 := by omega
              have e3 : (x : Int) + 1 < 7 := by omega
              obtain ⟨hbd1, hbd2⟩ := hbd
              refine head0 29 (by kernel_rfl) (by kernel_rfl) (by kernel_rfl) (by kernel_rfl) ?_
              simp only [List.take_succ_cons, List.take_zero, List.drop_succ_cons, List.drop_zero]
              (repeat (first | (refine lex_skip rfl ?_; simp only [Act.put, List.setIfInBounds_toArray, List.set_cons_succ, List.set_cons_zero]) | ((refine lex_load_bool rfl _ rfl rfl hbc ?_); simp only [Act.put, List.setIfInBounds_toArray, List.set_cons_succ, List.set_cons_zero]) | ((refine lex_load_i rfl _ rfl rfl hq5 ?_); simp only [Act.put, List.setIfInBounds_toArray, List.set_cons_succ, List.set_cons_zero]) | ((refine lex_load_int rfl _ rfl rfl d1 ?_); simp only [Act.put, List.setIfInBounds_toArray, List.set_cons_succ, List.set_cons_zero]) | ((refine lex_load_int rfl _ rfl rfl d2 ?_); simp only [Act.put, List.setIfInBounds_toArray, List.set_cons_succ, List.set_cons_zero]) | ((refine lex_build_i rfl _ _ rfl rfl rfl ?_); simp only [Act.put, List.setIfInBounds_toArray, List.set_cons_succ, List.set_cons_zero]) | ((refine lex_pure rfl rfl (.int .i64 ((x : Int) + 1)) (fun W => ?_) ?_; focus (go_simp; exact IntWalk.i64_in _ (by omega))); simp only [Act.put, List.setIfInBounds_toArray, List.set_cons_succ, List.set_cons_zero]) | ((refine lex_pure rfl rfl (.int .i64 (-Y.D 0 (x + 1))) (fun W => ?_) ?_; focus (go_simp; exact IntWalk.i64_in _ (by omega))); simp only [Act.put, List.setIfInBounds_toArray, List.set_cons_succ, List.set_cons_zero]) | ((refine lex_pure rfl rfl ?_ (fun W => ?_) ?_; rotate_left; focus (go_simp; first | done | rfl)); simp only [Act.put, List.setIfInBounds_toArray, List.set_cons_succ, List.set_cons_zero])))
              intro w3 hb3
              have HZ := Lib.hid (hz.on hb3)
              have HR := Lib.hid (hr.on hb3)
              have HB := Lib.hid (hb.trans (hb3.mono hb.size))
              clear hz hr hb hb3 hbc hq5 d1 d2 e1 e2
              go_wp2
              go_roundw
              case rel => exact ⟨x + 1, by omega, by go_num, HB, HZ, HR⟩
              case measure => simp [intOf]; omega
          · obtain rfl : k = x := by omega
            have hik : ∀ W : World, Calls Try.prog 25 #[.agg (zc k Y.none Y.D), .int .i64 (k : Int)] W (Ret W (.agg (ic 1 0))) := fun W => by
              have := zitv_any Y HYK.out.n (k : Int) W
              rw [itvZ_none _ (by rw [varB_iff, HYN.out]; omega), Zn.c, HYN.out] at this
              exact this
            have him : ∀ W : World, Calls Try.prog 25 #[.agg (zc k Y.none Y.D), .int .i64 (-1)] W (Ret W (.agg (ic 1 0))) := fun W => by
              have := zitv_any Y HYK.out.n (-1) W
              rw [itvZ_none _ (by rw [varB_iff]; omega), Zn.c, HYN.out] at this
              exact this
            have HIK := Lib.hid hik
            have HIM := Lib.hid him
            clear hik him
            go_wp2_with (first
              | (refine load_z rfl _ rfl rfl hz ?_)
              | (go_at_call 25; ((with_reducible refine (HIK.out _).mono ?_); rintro e W3 ⟨rfl, hb3⟩; have hz := hz.on hb3; have hb := hb.trans (hb3.mono hb.size); clear hb3))
              | (go_at_call 25; ((with_reducible refine (HIM.out _).mono ?_); rintro e W3 ⟨rfl, hb3⟩; have hz := hz.on hb3; have hb := hb.trans (hb3.mono hb.size); clear hb3))
              | (go_at_call 32; ((with_reducible refine (inone_any _).mono ?_); rintro e W3 ⟨rfl, hb3⟩; have hz := hz.on hb3; have hb := hb.trans (hb3.mono hb.size); clear hb3))
              | fail)
            go_ret
            exact ⟨rfl, hb⟩
end Go.Proofs.Ytgnkhncogfppgaa
