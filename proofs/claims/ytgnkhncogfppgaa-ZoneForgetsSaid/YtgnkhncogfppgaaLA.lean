import Derived.Test.YtgnkhncogfppgaaS2
import Derived.Test.YtgnkhncogfppgaaMB
import Derived.Test.YtgnkhncogfppgaaK2
import Derived.Test.YtgnkhncogfppgaaL9
namespace Go.Proofs.Ytgnkhncogfppgaa
open Go.RowKit
set_option maxRecDepth 100000 in
set_option maxHeartbeats 8000000 in
theorem forgets_walk (x : Int) (ad : Option Addr) (len cap : Nat) (hlen : len ≤ 9223372036854775807) (A : Nat → Nat → Int) (w : World) (hA : SlA w ad len A) :
    Calls Try.prog 9 #[.slice ad len cap, .int .i64 x] w (Ret w (.bool true)) := by
  obtain ⟨r, hr0⟩ : ∃ r : Nat, (IntKind.u64.wrap x).toNat = r := ⟨_, rfl⟩
  have hrr : IntKind.u64.wrap x = (r : Int) := by rw [← hr0]; exact u64_nat _
  obtain ⟨k, hk⟩ : ∃ k : Nat, r % 4 = k := ⟨_, rfl⟩
  have x3 : (r : Int) % 4 = (k : Int) := by omega
  have hk4 : k < 4 := by omega
  clear hr0 hk
  have ht : ∀ W : World, Calls Try.prog 21 #[.int .i64 4] W (Ret W (.agg (topZ 4).c)) := fun W => top_any 4 (by omega) W
  have hrt : ∀ W : World, Calls Try.prog 27 #[.int .i64 4] W (Ret W (.agg (topZ 4).c)) := fun W => rtop_any 4 (by omega) W
  obtain ⟨Y, hY⟩ : ∃ Y, Y = actsZ (topZ 4) A (min len 20) := ⟨_, rfl⟩
  have hYK : OKZ Y := by rw [hY]; exact acts_ok (top_ok (by omega)) A _
  have hYN : Y.n = 4 := by rw [hY, actsZ_n]; exact topZ_n 4
  have hap : ∀ W : World, Below w.heap.size w W → Calls Try.prog 31 #[.agg (topZ 4).c, .agg (topZ 4).c, .slice ad len cap] W (Ret W (.tuple #[.agg Y.c, .agg Y.c, .bool true])) := fun W hW => by
    rw [hY]; exact apply_any (top_ok (by omega)) ad len cap hlen A W (hA.on hW)
  have hfo : ∀ W : World, Calls Try.prog 33 #[.agg Y.c, .int .i64 (k : Int)] W (Ret W (.agg (forgetZ Y k).c)) := fun W => forget_any Y hYK.n k W
  clear hA hY
  obtain ⟨T0, hT0⟩ : ∃ T0, topZ 4 = T0 := ⟨_, rfl⟩
  rw [hT0] at ht hrt hap
  clear hT0
  have HT : Hid (∀ W : World, Calls Try.prog 21 #[.int .i64 4] W (Ret W (.agg (zc T0.n T0.none T0.D)))) := ht
  have HRT : Hid (∀ W : World, Calls Try.prog 27 #[.int .i64 4] W (Ret W (.agg (zc T0.n T0.none T0.D)))) := hrt
  have HAP : Hid (∀ W : World, Below w.heap.size w W → Calls Try.prog 31 #[.agg (zc T0.n T0.none T0.D), .agg (zc T0.n T0.none T0.D), .slice ad len cap] W (Ret W (.tuple #[.agg (zc Y.n Y.none Y.D), .agg (zc Y.n Y.none Y.D), .bool true]))) := hap
  clear ht hrt hap
  generalize (T0.n : Int) = t0 at *
  cases hyn : Y.none with
  | true =>
    have hfo2 : ∀ W : World, Calls Try.prog 33 #[.agg (zc Y.n true Y.D), .int .i64 (k : Int)] W (Ret W (.agg (zc Y.n true Y.D))) := fun W => by
      have := hfo W
      rw [forgetZ_no _ (by rw [varB_iff, hyn]; simp), Zn.c, hyn] at this
      exact this
    have HFO := Lib.hid hfo2
    rw [hyn] at HAP
    clear hfo hfo2 hYK hyn hYN
    generalize (Y.n : Int) = n at *
    go_enter Try.func9, Try.ntmps9
    go_wp2_with (first
      | (go_at_call 21; ((with_reducible refine (HT.out _).mono ?_); rintro e W2 ⟨rfl, hb⟩))
      | (go_at_call 27; ((with_reducible refine (HRT.out _).mono ?_); rintro e W3 ⟨rfl, hb2⟩; have hb := hb.trans (hb2.mono hb.size); clear hb2))
      | (go_at_call 31; ((with_reducible refine (HAP.out _ hb).mono ?_); rintro e W8 ⟨rfl, hb3⟩; have hb := hb.trans (hb3.mono hb.size); clear hb3))
      | (go_at_call 24; ((with_reducible refine (copies_any _).mono ?_); rintro e W12 ⟨rfl, hb3⟩; have hz := hz.on hb3; have hf := hf.on hb3; have hbc := hz.b_cell; have hb := hb.trans (hb3.mono hb.size); clear hb3))
      | (go_at_call 33; ((with_reducible refine (HFO.out _).mono ?_); rintro e W9 ⟨rfl, hb3⟩; have hge2 := Nat.lt_of_lt_of_le hz.lt hb3.size; have hz := hz.on hb3; have hb := hb.trans (hb3.mono hb.size); clear hb3 hr))
      | (refine wpList_alloc_zone rfl 38 rfl rz ?_; intro W5 hr hb5 hs5; rw [hs4.out] at hr hb5 hs5; rw [hs4.out]; have hz := hz.below hb5 (by omega); have hb := hb.trans (hb5.mono (by omega)); clear hb5)
      | (have _t := hge2; refine wpList_alloc_zone rfl 26 rfl zz ?_; intro W10 hf hb6 hs6; have hz := hz.on hb6; have hb := hb.trans (hb6.mono hb.size); clear hb6 _t)
      | (refine wpList_alloc_zone rfl 26 rfl zz ?_; intro W4 hz hb4 hs4; have hge := hb.size; have hb := hb.trans (hb4.mono hge); clear hb4)
      | (have _t := hge2; refine store_z rfl _ _ rfl rfl rfl hf ?_; intro W11 hf7 hg7 hs7; have hz := hz.only hg7 (by omega); have hb := below_only hb hg7 hb.size (by omega); clear hf; have hf := hf7; have hbc := hz.b_cell; clear hf7 hg7 hs7 _t)
      | (refine store_z rfl _ _ rfl rfl rfl hz ?_; intro W6 hz6 hg6 hs6; have hr := hr.only hg6 (by omega); have hb := below_only hb hg6 hb.size (by omega); clear hz; have hz := hz6; clear hz6 hg6 hs6)
      | (refine store_r rfl _ _ rfl rfl rfl hr ?_; intro W7 hr7 hg7 hs7; have hz := hz.only hg7 (by omega); have hb := below_only hb hg7 hb.size (by omega); clear hr; have hr := hr7; clear hr7 hg7 hs7)
      | (refine load_z rfl _ rfl rfl hz ?_)
      | (refine load_z rfl _ rfl rfl hf ?_)
      | fail)
    go_ret
    exact ⟨rfl, hb⟩
  | false =>
    have hY4 : k < Y.n := by omega
    obtain ⟨F, hF⟩ : ∃ F, anyM Y.D Y.n (k + 1) = F := ⟨_, rfl⟩
    have hfe := forget_eq hYK hyn (i := k) hY4
    have hit := any_itv hYK hyn (i := k) hY4
    have hwi := any_within hYK hyn (i := k) hY4
    have hag := any_again hYK hyn (i := k) hY4
    rw [hF] at hfe hit hwi hag
    have HFO : Hid (∀ W : World, Calls Try.prog 33 #[.agg (zc Y.n false Y.D), .int .i64 (k : Int)] W (Ret W (.agg (zc Y.n false F)))) := fun W => by
      have := hfo W
      rw [hfe, Zn.c, hyn] at this
      exact this
    have HIT : Hid (∀ W : World, Calls Try.prog 25 #[.agg (zc Y.n false F), .int .i64 (k : Int)] W (Ret W (.agg (ic (-2147483648) 2147483647)))) := fun W => by
      have := zitv_any ⟨Y.n, false, F⟩ hYK.n (k : Int) W
      rw [hit] at this
      exact this
    have HWI : Hid (∀ W : World, Calls Try.prog 43 #[.agg (zc Y.n false Y.D), .agg (zc Y.n false F)] W (Ret W (.bool true))) := fun W => by
      have := within_any Y ⟨Y.n, false, F⟩ hYK.n W
      rw [hwi, Zn.c, hyn] at this
      exact this
    have HAG : Hid (∀ W : World, Calls Try.prog 33 #[.agg (zc Y.n false F), .int .i64 (k : Int)] W (Ret W (.agg (zc Y.n false F)))) := fun W => by
      have := forget_any ⟨Y.n, false, F⟩ hYK.n (k : Int) W
      rw [hag] at this
      exact this
    have HEQ : Hid (∀ i j : Nat, i ≤ 4 → j ≤ 4 → i ≠ k + 1 → j ≠ k + 1 → F i j = Y.D i j) := fun i j hi hj h1 h2 => by
      rw [← hF]; exact any_else (by omega) (by omega) h1 h2
    rw [hyn] at HAP
    clear hfo hfe hit hwi hag hF hYK hyn hYN hY4
    generalize (Y.n : Int) = n at *
    generalize Y.D = D at *
    go_enter Try.func9, Try.ntmps9
    go_wp2_with (first
      | (go_at_call 21; ((with_reducible refine (HT.out _).mono ?_); rintro e W2 ⟨rfl, hb⟩))
      | (go_at_call 27; ((with_reducible refine (HRT.out _).mono ?_); rintro e W3 ⟨rfl, hb2⟩; have hb := hb.trans (hb2.mono hb.size); clear hb2))
      | (go_at_call 31; ((with_reducible refine (HAP.out _ hb).mono ?_); rintro e W8 ⟨rfl, hb3⟩; have hb := hb.trans (hb3.mono hb.size); clear hb3))
      | (go_at_call 24; ((with_reducible refine (copies_any _).mono ?_); rintro e W12 ⟨rfl, hb3⟩; have hz := hz.on hb3; have hf := hf.on hb3; have hbc := hz.b_cell; have hb := hb.trans (hb3.mono hb.size); clear hb3))
      | (go_at_call 33; ((with_reducible refine (HFO.out _).mono ?_); rintro e W9 ⟨rfl, hb3⟩; have hge2 := Nat.lt_of_lt_of_le hz.lt hb3.size; have hz := hz.on hb3; have hb := hb.trans (hb3.mono hb.size); clear hb3 hr))
      | (refine wpList_alloc_zone rfl 38 rfl rz ?_; intro W5 hr hb5 hs5; rw [hs4.out] at hr hb5 hs5; rw [hs4.out]; have hz := hz.below hb5 (by omega); have hb := hb.trans (hb5.mono (by omega)); clear hb5)
      | (have _t := hge2; refine wpList_alloc_zone rfl 26 rfl zz ?_; intro W10 hf hb6 hs6; have hz := hz.on hb6; have hb := hb.trans (hb6.mono hb.size); clear hb6 _t)
      | (refine wpList_alloc_zone rfl 26 rfl zz ?_; intro W4 hz hb4 hs4; have hge := hb.size; have hb := hb.trans (hb4.mono hge); clear hb4)
      | (have _t := hge2; refine store_z rfl _ _ rfl rfl rfl hf ?_; intro W11 hf7 hg7 hs7; have hz := hz.only hg7 (by omega); have hb := below_only hb hg7 hb.size (by omega); clear hf; have hf := hf7; have hbc := hz.b_cell; clear hf7 hg7 hs7 _t)
      | (refine store_z rfl _ _ rfl rfl rfl hz ?_; intro W6 hz6 hg6 hs6; have hr := hr.only hg6 (by omega); have hb := below_only hb hg6 hb.size (by omega); clear hz; have hz := hz6; clear hz6 hg6 hs6)
      | (refine store_r rfl _ _ rfl rfl rfl hr ?_; intro W7 hr7 hg7 hs7; have hz := hz.only hg7 (by omega); have hb := below_only hb hg7 hb.size (by omega); clear hr; have hr := hr7; clear hr7 hg7 hs7)
      | (refine load_z rfl _ rfl rfl hz ?_)
      | (refine load_z rfl _ rfl rfl hf ?_)
      | fail)
    generalize W8.heap.size = g at hz hge hge2 ⊢
    generalize W9.heap.size = gf at hf hge2 ⊢
    have HZ := Lib.hid hz
    have HF := Lib.hid hf
    have HB := Lib.hid hb
    clear hz hf hb hbc HAP HT HRT HFO hge hge2
    go_loopw [10] (fun i_ wr => ∃ i : Nat, i ≤ 5 ∧ i_ = .int .i64 (i : Int) ∧ Hid (Below w.heap.size w wr) ∧ Hid (ZAt 26 wr g n false D) ∧ Hid (ZAt 26 wr gf n false F)) (fun i _ => 6 - (intOf i).toNat)
    case atStart => exact ⟨0, by omega, rfl, HB, HZ, HF⟩
    case round =>
      clear HB HZ HF
      obtain ⟨i, hi, rfl, HB, HZ, HF⟩ := hrel
      by_cases hlt : i < 5
      · have hle : (i : Int) ≤ 4 := by omega
        go_wp2
        go_loopw [11] (fun j_ wr => ∃ j : Nat, j ≤ 5 ∧ j_ = .int .i64 (j : Int) ∧ Hid (Below w.heap.size w wr) ∧ Hid (ZAt 26 wr g n false D) ∧ Hid (ZAt 26 wr gf n false F)) (fun j _ => 6 - (intOf j).toNat)
        case atStart => exact ⟨0, by omega, rfl, HB, HZ, HF⟩
        case round =>
          clear HB HZ HF
          obtain ⟨j, hj, rfl, HB, HZ, HF⟩ := hrel
          by_cases hlj : j < 5
          · have hlej : (j : Int) ≤ 4 := by omega
            by_cases e1 : i = k + 1
            · have n1 : ((i : Int) == (k : Int) + 1) = true := by simp; omega
              have n2 : ((i : Int) != (k : Int) + 1) = false := by simp; omega
              go_wp2
              refine head0 24 (by kernel_rfl) (by kernel_rfl) (by kernel_rfl) (by kernel_rfl) ?_
              simp only [List.take_succ_cons, List.take_zero, List.drop_succ_cons, List.drop_zero]
              (refine o_start ?_; (iterate 24 (first | (refine o_skip rfl rfl rfl ?_) | (refine o_have rfl fun hw => ?_; (first | (refine o_move hw.out _ rfl rfl rfl rfl ?_) | (refine o_pickT hw.out _ _ _ rfl rfl rfl rfl rfl ?_) | (refine o_pickF hw.out _ _ _ rfl rfl rfl rfl rfl ?_) | (refine o_bin hw.out _ _ _ _ _ rfl rfl rfl rfl rfl (v := .int .i64 ((k : Int) + 1)) (fun W => by go_simp; exact IntWalk.i64_in _ (by omega)) ?_) | (refine o_bin hw.out _ _ _ _ _ rfl rfl rfl rfl rfl (fun W => by go_simp; first | done | rfl) ?_) | (refine o_un hw.out _ _ _ rfl rfl rfl rfl (fun W => by go_simp; first | done | rfl) ?_) | (refine o_field hw.out _ _ _ rfl rfl rfl rfl (fun W => by go_simp; first | done | rfl) ?_) | (refine o_index hw.out _ _ _ rfl rfl rfl rfl rfl (fun W => by go_simp; first | done | rfl) ?_) | (refine o_conv hw.out _ _ _ rfl rfl rfl rfl (fun W => by go_simp; first | done | rfl) ?_)); clear hw))); refine o_end ?_; simp only [app, List.set_cons_succ, List.set_cons_zero])
              intro w3 hb3
              have HZ := Lib.hid (HZ.out.on hb3)
              have HF := Lib.hid (HF.out.on hb3)
              have HB := Lib.hid (HB.out.trans (hb3.mono HB.out.size))
              clear hb3
              go_wp2
              go_roundw
              case rel => exact ⟨j + 1, by omega, by go_num, HB, HZ, HF⟩
              case measure => simp [intOf]; omega
            · have n1 : ((i : Int) == (k : Int) + 1) = false := by simp; omega
              have n2 : ((i : Int) != (k : Int) + 1) = true := by simp; omega
              by_cases e2 : j = k + 1
              · have m1 : ((j : Int) == (k : Int) + 1) = true := by simp; omega
                have m2 : ((j : Int) != (k : Int) + 1) = false := by simp; omega
                go_wp2
                refine head0 24 (by kernel_rfl) (by kernel_rfl) (by kernel_rfl) (by kernel_rfl) ?_
                simp only [List.take_succ_cons, List.take_zero, List.drop_succ_cons, List.drop_zero]
                (refine o_start ?_; (iterate 24 (first | (refine o_skip rfl rfl rfl ?_) | (refine o_have rfl fun hw => ?_; (first | (refine o_move hw.out _ rfl rfl rfl rfl ?_) | (refine o_pickT hw.out _ _ _ rfl rfl rfl rfl rfl ?_) | (refine o_pickF hw.out _ _ _ rfl rfl rfl rfl rfl ?_) | (refine o_bin hw.out _ _ _ _ _ rfl rfl rfl rfl rfl (v := .int .i64 ((k : Int) + 1)) (fun W => by go_simp; exact IntWalk.i64_in _ (by omega)) ?_) | (refine o_bin hw.out _ _ _ _ _ rfl rfl rfl rfl rfl (fun W => by go_simp; first | done | rfl) ?_) | (refine o_un hw.out _ _ _ rfl rfl rfl rfl (fun W => by go_simp; first | done | rfl) ?_) | (refine o_field hw.out _ _ _ rfl rfl rfl rfl (fun W => by go_simp; first | done | rfl) ?_) | (refine o_index hw.out _ _ _ rfl rfl rfl rfl rfl (fun W => by go_simp; first | done | rfl) ?_) | (refine o_conv hw.out _ _ _ rfl rfl rfl rfl (fun W => by go_simp; first | done | rfl) ?_)); clear hw))); refine o_end ?_; simp only [app, List.set_cons_succ, List.set_cons_zero])
                intro w3 hb3
                have HZ := Lib.hid (HZ.out.on hb3)
                have HF := Lib.hid (HF.out.on hb3)
                have HB := Lib.hid (HB.out.trans (hb3.mono HB.out.size))
                clear hb3
                go_wp2
                go_roundw
                case rel => exact ⟨j + 1, by omega, by go_num, HB, HZ, HF⟩
                case measure => simp [intOf]; omega
              · have m1 : ((j : Int) == (k : Int) + 1) = false := by simp; omega
                have m2 : ((j : Int) != (k : Int) + 1) = true := by simp; omega
                have c1 := HF.out.cell i j (by omega) (by omega)
                have c2 := HZ.out.cell i j (by omega) (by omega)
                rw [HEQ.out i j (by omega) (by omega) e1 e2] at c1
                have q0 : (0 : Int) ≤ (i : Int) := by omega
                have q1 : (0 : Int) ≤ (j : Int) := by omega
                have q2 : (i : Int) < 7 := by omega
                have q3 : (j : Int) < 7 := by omega
                go_wp2
                refine head0 24 (by kernel_rfl) (by kernel_rfl) (by kernel_rfl) (by kernel_rfl) ?_
                simp only [List.take_succ_cons, List.take_zero, List.drop_succ_cons, List.drop_zero]
                (refine o_start ?_; (iterate 24 (first | (refine o_skip rfl rfl rfl ?_) | (refine o_have rfl fun hw => ?_; (first | (refine o_move hw.out _ rfl rfl rfl rfl ?_) | (refine o_pickT hw.out _ _ _ rfl rfl rfl rfl rfl ?_) | (refine o_pickF hw.out _ _ _ rfl rfl rfl rfl rfl ?_) | (refine o_loadc hw.out _ _ rfl rfl c1 rfl rfl (by first | exact Try.underlying3 | exact Try.underlying4) rfl ?_) | (refine o_loadc hw.out _ _ rfl rfl c2 rfl rfl (by first | exact Try.underlying3 | exact Try.underlying4) rfl ?_) | (refine o_bin hw.out _ _ _ _ _ rfl rfl rfl rfl rfl (v := .int .i64 ((k : Int) + 1)) (fun W => by go_simp; exact IntWalk.i64_in _ (by omega)) ?_) | (refine o_bin hw.out _ _ _ _ _ rfl rfl rfl rfl rfl (fun W => by go_simp; first | done | rfl) ?_) | (refine o_un hw.out _ _ _ rfl rfl rfl rfl (fun W => by go_simp; first | done | rfl) ?_) | (refine o_field hw.out _ _ _ rfl rfl rfl rfl (fun W => by go_simp; first | done | rfl) ?_) | (refine o_index hw.out _ _ _ rfl rfl rfl rfl rfl (fun W => by go_simp; first | done | rfl) ?_) | (refine o_conv hw.out _ _ _ rfl rfl rfl rfl (fun W => by go_simp; first | done | rfl) ?_)); clear hw))); refine o_end ?_; simp only [app, List.set_cons_succ, List.set_cons_zero])
                clear c1 c2
                intro w3 hb3
                have HZ := Lib.hid (HZ.out.on hb3)
                have HF := Lib.hid (HF.out.on hb3)
                have HB := Lib.hid (HB.out.trans (hb3.mono HB.out.size))
                clear hb3
                go_wp2
                go_roundw
                case rel => exact ⟨j + 1, by omega, by go_num, HB, HZ, HF⟩
                case measure => simp [intOf]; omega
          · obtain rfl : j = 5 := by omega
            go_wp2
            go_roundw
            case rel => exact ⟨i + 1, by omega, by go_num, HB, HZ, HF⟩
            case measure => simp [intOf]; omega
      · obtain rfl : i = 5 := by omega
        go_wp2
        have hz := HZ.out
        have hf := HF.out
        have hb := HB.out
        refine head0 16 (by kernel_rfl) (by kernel_rfl) (by kernel_rfl) (by kernel_rfl) ?_
        simp only [List.take_succ_cons, List.take_zero, List.drop_succ_cons, List.drop_zero]
        (refine o_start ?_; (iterate 16 (first | (refine o_skip rfl rfl rfl ?_) | (refine o_have rfl fun hw => ?_; (first | (refine o_move hw.out _ rfl rfl rfl rfl ?_) | (refine o_pickT hw.out _ _ _ rfl rfl rfl rfl rfl ?_) | (refine o_pickF hw.out _ _ _ rfl rfl rfl rfl rfl ?_) | (refine o_load_z hw.out _ rfl rfl hz rfl rfl ?_) | (refine o_load_z hw.out _ rfl rfl hf rfl rfl ?_) | (refine o_bin hw.out _ _ _ _ _ rfl rfl rfl rfl rfl (fun W => by go_simp; first | done | rfl) ?_) | (refine o_un hw.out _ _ _ rfl rfl rfl rfl (fun W => by go_simp; first | done | rfl) ?_) | (refine o_field hw.out _ _ _ rfl rfl rfl rfl (fun W => by go_simp; first | done | rfl) ?_) | (refine o_index hw.out _ _ _ rfl rfl rfl rfl rfl (fun W => by go_simp; first | done | rfl) ?_) | (refine o_conv hw.out _ _ _ rfl rfl rfl rfl (fun W => by go_simp; first | done | rfl) ?_) | (refine o_call hw.out _ _ _ rfl rfl (fun W hW => HIT.out W) (by with_reducible rfl) (by with_reducible rfl) rfl rfl (fun ρ W hρ => by go_simp; done) ?_) | (refine o_call hw.out _ _ _ rfl rfl (fun W hW => iall_any W) (by with_reducible rfl) (by with_reducible rfl) rfl rfl (fun ρ W hρ => by go_simp; done) ?_) | (refine o_call hw.out _ _ _ rfl rfl (fun W hW => HWI.out W) (by with_reducible rfl) (by with_reducible rfl) rfl rfl (fun ρ W hρ => by go_simp; done) ?_) | (refine o_call hw.out _ _ _ rfl rfl (fun W hW => HAG.out W) (by with_reducible rfl) (by with_reducible rfl) rfl rfl (fun ρ W hρ => by go_simp; done) ?_)); clear hw))); refine o_end ?_; simp only [app, List.set_cons_succ, List.set_cons_zero])
        intro w3 hb3
        have hb := hb.trans (hb3.mono hb.size)
        clear hb3 hz hf
        go_wp2
        go_ret
        exact ⟨rfl, hb⟩
end Go.Proofs.Ytgnkhncogfppgaa
