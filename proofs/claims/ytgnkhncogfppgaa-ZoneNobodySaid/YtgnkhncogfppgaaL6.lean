import Derived.Test.YtgnkhncogfppgaaS2
import Derived.Test.YtgnkhncogfppgaaM6
import Derived.Test.YtgnkhncogfppgaaK2
import Derived.Test.YtgnkhncogfppgaaQ5
namespace Go.Proofs.Ytgnkhncogfppgaa
open Go.RowKit
@[go_sem high] theorem zeq_same (n : Int) (b : Bool) (D : Mat) (w : World) : (binOp .eql 26 (.agg (zc n b D)) (.agg (zc n b D))).run Try.prog w = .ok (.bool true) w := by
  rw [eql_z, zeq_self]
set_option maxRecDepth 100000 in
set_option maxHeartbeats 8000000 in
theorem nobody_walk (nn x : Int) (hx1 : -9223372036854775808 ≤ x) (hx2 : x ≤ 9223372036854775807) (ad : Option Addr) (len cap : Nat) (hlen : len ≤ 9223372036854775807) (A : Nat → Nat → Int) (w : World) (hA : SlA w ad len A) :
    Calls Try.prog 6 #[.int .i64 nn, .slice ad len cap, .int .i64 x] w (Ret w (.bool true)) := by
  have HA := Lib.hid hA
  clear hA
  obtain ⟨r, hr0⟩ : ∃ r : Nat, (IntKind.u64.wrap nn).toNat = r := ⟨_, rfl⟩
  have hrr : IntKind.u64.wrap nn = (r : Int) := by rw [← hr0]; exact u64_nat _
  obtain ⟨k, hk⟩ : ∃ k : Nat, r % 7 = k := ⟨_, rfl⟩
  have x3 : (r : Int) % 7 = (k : Int) := by omega
  have hk6 : k ≤ 6 := by omega
  clear hr0 hk
  have ht : ∀ W : World, Calls Try.prog 21 #[.int .i64 (k : Int)] W (Ret W (.agg (topZ k).c)) := fun W => top_any k hk6 W
  have hrt : ∀ W : World, Calls Try.prog 27 #[.int .i64 (k : Int)] W (Ret W (.agg (topZ k).c)) := fun W => rtop_any k hk6 W
  have HT := Lib.hid ht
  have HRT := Lib.hid hrt
  clear ht hrt
  obtain ⟨Y, hY⟩ : ∃ Y, Y = actsZ (topZ k) A (min len 20) := ⟨_, rfl⟩
  have HYK := Lib.hid (show OKZ Y by rw [hY]; exact acts_ok (top_ok hk6) A _)
  have HYN := Lib.hid (show Y.n = k by rw [hY, actsZ_n]; exact topZ_n k)
  have hap : ∀ W : World, Below w.heap.size w W → Calls Try.prog 31 #[.agg (topZ k).c, .agg (topZ k).c, .slice ad len cap] W (Ret W (.tuple #[.agg (zc k Y.none Y.D), .agg (zc k Y.none Y.D), .bool true])) := fun W hW => by
    have := apply_any (top_ok hk6) ad len cap hlen A W (HA.out.on hW)
    rw [← hY, show Y.c = zc Y.n Y.none Y.D from rfl, HYN.out] at this
    exact this
  have HAP := Lib.hid hap
  clear hap hY
  by_cases hx0 : 0 ≤ x
  · by_cases hxk : x < k
    · have hne : (((k : Int) + x) == -1) = false := by simp; omega
      have hv1 : ¬ ((-1 : Int) ≤ (k : Int) + x ∧ (k : Int) + x < k) := by omega
      have ho : ¬ orB Y ((k : Int) + x) = true := by rw [orB_iff, HYN.out]; omega
      have hvv : ¬ varB Y ((k : Int) + x) = true := by rw [varB_iff, HYN.out]; omega
      have hvm : ¬ varB Y (-1) = true := by rw [varB_iff]; omega
      have hb1 : ∀ W : World, Calls Try.prog 22 #[.agg (zc k Y.none Y.D), .int .i64 ((k : Int) + x), .int .i64 (-1), .int .i64 3] W (Ret W (.agg (zc k Y.none Y.D))) := fun W => by
        have := bound_any Y HYK.out.n ((k : Int) + x) (-1) 3 W; rw [boundZ_no _ _ _ (fun h => ho h.1), Zn.c, HYN.out] at this; exact this
      have hb2 : ∀ W : World, Calls Try.prog 22 #[.agg (zc k Y.none Y.D), .int .i64 (-1), .int .i64 ((k : Int) + x), .int .i64 3] W (Ret W (.agg (zc k Y.none Y.D))) := fun W => by
        have := bound_any Y HYK.out.n (-1) ((k : Int) + x) 3 W; rw [boundZ_no _ _ _ (fun h => ho h.2), Zn.c, HYN.out] at this; exact this
      have hf1 : ∀ W : World, Calls Try.prog 33 #[.agg (zc k Y.none Y.D), .int .i64 ((k : Int) + x)] W (Ret W (.agg (zc k Y.none Y.D))) := fun W => by
        have := forget_any Y HYK.out.n ((k : Int) + x) W; rw [forgetZ_no _ hvv, Zn.c, HYN.out] at this; exact this
      have hf2 : ∀ W : World, Calls Try.prog 33 #[.agg (zc k Y.none Y.D), .int .i64 (-1)] W (Ret W (.agg (zc k Y.none Y.D))) := fun W => by
        have := forget_any Y HYK.out.n (-1) W; rw [forgetZ_no _ hvm, Zn.c, HYN.out] at this; exact this
      have hc1 : ∀ W : World, Calls Try.prog 23 #[.agg (zc k Y.none Y.D), .int .i64 ((k : Int) + x), .int .i64 (-1), .int .i64 3] W (Ret W (.agg (zc k Y.none Y.D))) := fun W => by
        have := copy_any Y HYK.out.n ((k : Int) + x) (-1) 3 W; rw [copyZ_no _ _ _ (fun h => hvv h.1), Zn.c, HYN.out] at this; exact this
      have hc2 : ∀ W : World, Calls Try.prog 23 #[.agg (zc k Y.none Y.D), .int .i64 (-1), .int .i64 (-1), .int .i64 3] W (Ret W (.agg (zc k Y.none Y.D))) := fun W => by
        have := copy_any Y HYK.out.n (-1) (-1) 3 W; rw [copyZ_no _ _ _ (fun h => hvm h.1), Zn.c, HYN.out] at this; exact this
      have hc3 : ∀ W : World, Calls Try.prog 23 #[.agg (zc k Y.none Y.D), .int .i64 0, .int .i64 ((k : Int) + x), .int .i64 3] W (Ret W (.agg (zc k Y.none Y.D))) := fun W => by
        have := copy_any Y HYK.out.n 0 ((k : Int) + x) 3 W; rw [copyZ_no _ _ _ (fun h => ho h.2), Zn.c, HYN.out] at this; exact this
      have hi1 : ∀ W : World, Calls Try.prog 25 #[.agg (zc k Y.none Y.D), .int .i64 ((k : Int) + x)] W (Ret W (.agg (ic 1 0))) := fun W => by
        have := zitv_any Y HYK.out.n ((k : Int) + x) W; rw [itvZ_none _ hvv, Zn.c, HYN.out] at this; exact this
      have HB1 := Lib.hid hb1
      have HB2 := Lib.hid hb2
      have HF1 := Lib.hid hf1
      have HF2 := Lib.hid hf2
      have HC1 := Lib.hid hc1
      have HC2 := Lib.hid hc2
      have HC3 := Lib.hid hc3
      have HI1 := Lib.hid hi1
      clear hb1 hb2 hf1 hf2 hc1 hc2 hc3 hi1 ho hvv hvm hv1

      go_enter Try.func6, Try.ntmps6
      go_wp2_with (first
        | (go_at_call 21; ((with_reducible refine (HT.out _).mono ?_); rintro e W2 ⟨rfl, hb⟩))
        | (go_at_call 27; ((with_reducible refine (HRT.out _).mono ?_); rintro e W3 ⟨rfl, hb2⟩; have hb := hb.trans (hb2.mono hb.size); clear hb2))
        | (go_at_call 31; ((with_reducible refine (HAP.out _ hb).mono ?_); rintro e W8 ⟨rfl, hb3⟩; have hb := hb.trans (hb3.mono hb.size); clear hb3))
        | (refine wpList_alloc_zone rfl 26 rfl zz ?_; intro W4 hz hb4 hs4; have hge := hb.size; have hb := hb.trans (hb4.mono hge); clear hb4)
        | (refine wpList_alloc_zone rfl 38 rfl rz ?_; intro W5 hr hb5 hs5; rw [hs4.out] at hr hb5 hs5; rw [hs4.out]; have hz := hz.below hb5 (by omega); have hb := hb.trans (hb5.mono (by omega)); clear hb5)
        | (refine store_z rfl _ _ rfl rfl rfl hz ?_; intro W6 hz6 hg6 hs6; have hr := hr.only hg6 (by omega); have hb := below_only hb hg6 hb.size (by omega); clear hz; have hz := hz6; clear hz6 hg6 hs6)
        | (refine store_r rfl _ _ rfl rfl rfl hr ?_; intro W7 hr7 hg7 hs7; have hz := hz.only hg7 (by omega); have hb := below_only hb hg7 hb.size (by omega); clear hr; have hr := hr7; clear hr7 hg7 hs7)
        | fail)
      clear hs4 hs5 HAP HT HRT hr
      generalize W8.heap.size = g at hge hz ⊢
      generalize (k : Int) + x = v at *
      by_cases hk0 : k = 0
      · subst hk0
        refine head0 61 (by kernel_rfl) (by kernel_rfl) (by kernel_rfl) (by kernel_rfl) ?_
        simp only [List.take_succ_cons, List.take_zero, List.drop_succ_cons, List.drop_zero]
        (refine o_start ?_; (iterate 61 (first | (refine o_skip rfl rfl rfl ?_) | (refine o_have rfl fun hw => ?_; (first | (refine o_move hw.out _ rfl rfl rfl rfl ?_) | (refine o_pickT hw.out _ _ _ rfl rfl rfl rfl rfl ?_) | (refine o_pickF hw.out _ _ _ rfl rfl rfl rfl rfl ?_) | (refine o_load_z hw.out _ rfl rfl hz rfl rfl ?_) | (refine o_bin hw.out _ _ _ _ _ rfl rfl rfl rfl rfl (fun W => by go_simp; first | done | rfl) ?_) | (refine o_un hw.out _ _ _ rfl rfl rfl rfl (fun W => by go_simp; first | done | rfl) ?_) | (refine o_field hw.out _ _ _ rfl rfl rfl rfl (fun W => by go_simp; first | done | rfl) ?_) | (refine o_index hw.out _ _ _ rfl rfl rfl rfl rfl (fun W => by go_simp; first | done | rfl) ?_) | (refine o_conv hw.out _ _ _ rfl rfl rfl rfl (fun W => by go_simp; first | done | rfl) ?_) | (refine o_call hw.out _ _ _ rfl rfl (fun W hW => copies_any W) (by with_reducible rfl) (by with_reducible rfl) rfl rfl (fun ρ W hρ => by go_simp; done) ?_) | (refine o_call hw.out _ _ _ rfl rfl (fun W hW => HB1.out W) (by with_reducible rfl) (by with_reducible rfl) rfl rfl (fun ρ W hρ => by go_simp; done) ?_) | (refine o_call hw.out _ _ _ rfl rfl (fun W hW => HB2.out W) (by with_reducible rfl) (by with_reducible rfl) rfl rfl (fun ρ W hρ => by go_simp; done) ?_) | (refine o_call hw.out _ _ _ rfl rfl (fun W hW => HF1.out W) (by with_reducible rfl) (by with_reducible rfl) rfl rfl (fun ρ W hρ => by go_simp; done) ?_) | (refine o_call hw.out _ _ _ rfl rfl (fun W hW => HF2.out W) (by with_reducible rfl) (by with_reducible rfl) rfl rfl (fun ρ W hρ => by go_simp; done) ?_) | (refine o_call hw.out _ _ _ rfl rfl (fun W hW => HC1.out W) (by with_reducible rfl) (by with_reducible rfl) rfl rfl (fun ρ W hρ => by go_simp; done) ?_) | (refine o_call hw.out _ _ _ rfl rfl (fun W hW => HC2.out W) (by with_reducible rfl) (by with_reducible rfl) rfl rfl (fun ρ W hρ => by go_simp; done) ?_) | (refine o_call hw.out _ _ _ rfl rfl (fun W hW => HI1.out W) (by with_reducible rfl) (by with_reducible rfl) rfl rfl (fun ρ W hρ => by go_simp; done) ?_) | (refine o_call hw.out _ _ _ rfl rfl (fun W hW => inone_any W) (by with_reducible rfl) (by with_reducible rfl) rfl rfl (fun ρ W hρ => by go_simp; done) ?_)); clear hw))); refine o_end ?_; simp only [app, List.set_cons_succ, List.set_cons_zero])
        intro w3 hb3
        have hb := hb.trans (hb3.mono hb.size)
        clear hb3 hz
        go_wp2
        go_ret
        exact ⟨rfl, hb⟩
      · have hk1 : ((k : Int) == 0) = false := by simpa using hk0
        refine head0 61 (by kernel_rfl) (by kernel_rfl) (by kernel_rfl) (by kernel_rfl) ?_
        simp only [List.take_succ_cons, List.take_zero, List.drop_succ_cons, List.drop_zero]
        (refine o_start ?_; (iterate 61 (first | (refine o_skip rfl rfl rfl ?_) | (refine o_have rfl fun hw => ?_; (first | (refine o_move hw.out _ rfl rfl rfl rfl ?_) | (refine o_pickT hw.out _ _ _ rfl rfl rfl rfl rfl ?_) | (refine o_pickF hw.out _ _ _ rfl rfl rfl rfl rfl ?_) | (refine o_load_z hw.out _ rfl rfl hz rfl rfl ?_) | (refine o_bin hw.out _ _ _ _ _ rfl rfl rfl rfl rfl (fun W => by go_simp; first | done | rfl) ?_) | (refine o_un hw.out _ _ _ rfl rfl rfl rfl (fun W => by go_simp; first | done | rfl) ?_) | (refine o_field hw.out _ _ _ rfl rfl rfl rfl (fun W => by go_simp; first | done | rfl) ?_) | (refine o_index hw.out _ _ _ rfl rfl rfl rfl rfl (fun W => by go_simp; first | done | rfl) ?_) | (refine o_conv hw.out _ _ _ rfl rfl rfl rfl (fun W => by go_simp; first | done | rfl) ?_) | (refine o_call hw.out _ _ _ rfl rfl (fun W hW => copies_any W) (by with_reducible rfl) (by with_reducible rfl) rfl rfl (fun ρ W hρ => by go_simp; done) ?_) | (refine o_call hw.out _ _ _ rfl rfl (fun W hW => HB1.out W) (by with_reducible rfl) (by with_reducible rfl) rfl rfl (fun ρ W hρ => by go_simp; done) ?_) | (refine o_call hw.out _ _ _ rfl rfl (fun W hW => HB2.out W) (by with_reducible rfl) (by with_reducible rfl) rfl rfl (fun ρ W hρ => by go_simp; done) ?_) | (refine o_call hw.out _ _ _ rfl rfl (fun W hW => HF1.out W) (by with_reducible rfl) (by with_reducible rfl) rfl rfl (fun ρ W hρ => by go_simp; done) ?_) | (refine o_call hw.out _ _ _ rfl rfl (fun W hW => HF2.out W) (by with_reducible rfl) (by with_reducible rfl) rfl rfl (fun ρ W hρ => by go_simp; done) ?_) | (refine o_call hw.out _ _ _ rfl rfl (fun W hW => HC1.out W) (by with_reducible rfl) (by with_reducible rfl) rfl rfl (fun ρ W hρ => by go_simp; done) ?_) | (refine o_call hw.out _ _ _ rfl rfl (fun W hW => HC2.out W) (by with_reducible rfl) (by with_reducible rfl) rfl rfl (fun ρ W hρ => by go_simp; done) ?_) | (refine o_call hw.out _ _ _ rfl rfl (fun W hW => HC3.out W) (by with_reducible rfl) (by with_reducible rfl) rfl rfl (fun ρ W hρ => by go_simp; done) ?_) | (refine o_call hw.out _ _ _ rfl rfl (fun W hW => HI1.out W) (by with_reducible rfl) (by with_reducible rfl) rfl rfl (fun ρ W hρ => by go_simp; done) ?_) | (refine o_call hw.out _ _ _ rfl rfl (fun W hW => inone_any W) (by with_reducible rfl) (by with_reducible rfl) rfl rfl (fun ρ W hρ => by go_simp; done) ?_)); clear hw))); refine o_end ?_; simp only [app, List.set_cons_succ, List.set_cons_zero])
        intro w3 hb3
        have hb := hb.trans (hb3.mono hb.size)
        clear hb3 hz
        go_wp2
        go_ret
        exact ⟨rfl, hb⟩
    · have hne : (x == -1) = false := by simp; omega
      have hv1 : ¬ ((-1 : Int) ≤ x ∧ x < k) := by omega
      have ho : ¬ orB Y (x) = true := by rw [orB_iff, HYN.out]; omega
      have hvv : ¬ varB Y (x) = true := by rw [varB_iff, HYN.out]; omega
      have hvm : ¬ varB Y (-1) = true := by rw [varB_iff]; omega
      have hb1 : ∀ W : World, Calls Try.prog 22 #[.agg (zc k Y.none Y.D), .int .i64 (x), .int .i64 (-1), .int .i64 3] W (Ret W (.agg (zc k Y.none Y.D))) := fun W => by
        have := bound_any Y HYK.out.n (x) (-1) 3 W; rw [boundZ_no _ _ _ (fun h => ho h.1), Zn.c, HYN.out] at this; exact this
      have hb2 : ∀ W : World, Calls Try.prog 22 #[.agg (zc k Y.none Y.D), .int .i64 (-1), .int .i64 (x), .int .i64 3] W (Ret W (.agg (zc k Y.none Y.D))) := fun W => by
        have := bound_any Y HYK.out.n (-1) (x) 3 W; rw [boundZ_no _ _ _ (fun h => ho h.2), Zn.c, HYN.out] at this; exact this
      have hf1 : ∀ W : World, Calls Try.prog 33 #[.agg (zc k Y.none Y.D), .int .i64 (x)] W (Ret W (.agg (zc k Y.none Y.D))) := fun W => by
        have := forget_any Y HYK.out.n (x) W; rw [forgetZ_no _ hvv, Zn.c, HYN.out] at this; exact this
      have hf2 : ∀ W : World, Calls Try.prog 33 #[.agg (zc k Y.none Y.D), .int .i64 (-1)] W (Ret W (.agg (zc k Y.none Y.D))) := fun W => by
        have := forget_any Y HYK.out.n (-1) W; rw [forgetZ_no _ hvm, Zn.c, HYN.out] at this; exact this
      have hc1 : ∀ W : World, Calls Try.prog 23 #[.agg (zc k Y.none Y.D), .int .i64 (x), .int .i64 (-1), .int .i64 3] W (Ret W (.agg (zc k Y.none Y.D))) := fun W => by
        have := copy_any Y HYK.out.n (x) (-1) 3 W; rw [copyZ_no _ _ _ (fun h => hvv h.1), Zn.c, HYN.out] at this; exact this
      have hc2 : ∀ W : World, Calls Try.prog 23 #[.agg (zc k Y.none Y.D), .int .i64 (-1), .int .i64 (-1), .int .i64 3] W (Ret W (.agg (zc k Y.none Y.D))) := fun W => by
        have := copy_any Y HYK.out.n (-1) (-1) 3 W; rw [copyZ_no _ _ _ (fun h => hvm h.1), Zn.c, HYN.out] at this; exact this
      have hc3 : ∀ W : World, Calls Try.prog 23 #[.agg (zc k Y.none Y.D), .int .i64 0, .int .i64 (x), .int .i64 3] W (Ret W (.agg (zc k Y.none Y.D))) := fun W => by
        have := copy_any Y HYK.out.n 0 (x) 3 W; rw [copyZ_no _ _ _ (fun h => ho h.2), Zn.c, HYN.out] at this; exact this
      have hi1 : ∀ W : World, Calls Try.prog 25 #[.agg (zc k Y.none Y.D), .int .i64 (x)] W (Ret W (.agg (ic 1 0))) := fun W => by
        have := zitv_any Y HYK.out.n (x) W; rw [itvZ_none _ hvv, Zn.c, HYN.out] at this; exact this
      have HB1 := Lib.hid hb1
      have HB2 := Lib.hid hb2
      have HF1 := Lib.hid hf1
      have HF2 := Lib.hid hf2
      have HC1 := Lib.hid hc1
      have HC2 := Lib.hid hc2
      have HC3 := Lib.hid hc3
      have HI1 := Lib.hid hi1
      clear hb1 hb2 hf1 hf2 hc1 hc2 hc3 hi1 ho hvv hvm hv1

      go_enter Try.func6, Try.ntmps6
      go_wp2_with (first
        | (go_at_call 21; ((with_reducible refine (HT.out _).mono ?_); rintro e W2 ⟨rfl, hb⟩))
        | (go_at_call 27; ((with_reducible refine (HRT.out _).mono ?_); rintro e W3 ⟨rfl, hb2⟩; have hb := hb.trans (hb2.mono hb.size); clear hb2))
        | (go_at_call 31; ((with_reducible refine (HAP.out _ hb).mono ?_); rintro e W8 ⟨rfl, hb3⟩; have hb := hb.trans (hb3.mono hb.size); clear hb3))
        | (refine wpList_alloc_zone rfl 26 rfl zz ?_; intro W4 hz hb4 hs4; have hge := hb.size; have hb := hb.trans (hb4.mono hge); clear hb4)
        | (refine wpList_alloc_zone rfl 38 rfl rz ?_; intro W5 hr hb5 hs5; rw [hs4.out] at hr hb5 hs5; rw [hs4.out]; have hz := hz.below hb5 (by omega); have hb := hb.trans (hb5.mono (by omega)); clear hb5)
        | (refine store_z rfl _ _ rfl rfl rfl hz ?_; intro W6 hz6 hg6 hs6; have hr := hr.only hg6 (by omega); have hb := below_only hb hg6 hb.size (by omega); clear hz; have hz := hz6; clear hz6 hg6 hs6)
        | (refine store_r rfl _ _ rfl rfl rfl hr ?_; intro W7 hr7 hg7 hs7; have hz := hz.only hg7 (by omega); have hb := below_only hb hg7 hb.size (by omega); clear hr; have hr := hr7; clear hr7 hg7 hs7)
        | fail)
      clear hs4 hs5 HAP HT HRT hr
      generalize W8.heap.size = g at hge hz ⊢
      by_cases hk0 : k = 0
      · subst hk0
        refine head0 61 (by kernel_rfl) (by kernel_rfl) (by kernel_rfl) (by kernel_rfl) ?_
        simp only [List.take_succ_cons, List.take_zero, List.drop_succ_cons, List.drop_zero]
        (refine o_start ?_; (iterate 61 (first | (refine o_skip rfl rfl rfl ?_) | (refine o_have rfl fun hw => ?_; (first | (refine o_move hw.out _ rfl rfl rfl rfl ?_) | (refine o_pickT hw.out _ _ _ rfl rfl rfl rfl rfl ?_) | (refine o_pickF hw.out _ _ _ rfl rfl rfl rfl rfl ?_) | (refine o_load_z hw.out _ rfl rfl hz rfl rfl ?_) | (refine o_bin hw.out _ _ _ _ _ rfl rfl rfl rfl rfl (fun W => by go_simp; first | done | rfl) ?_) | (refine o_un hw.out _ _ _ rfl rfl rfl rfl (fun W => by go_simp; first | done | rfl) ?_) | (refine o_field hw.out _ _ _ rfl rfl rfl rfl (fun W => by go_simp; first | done | rfl) ?_) | (refine o_index hw.out _ _ _ rfl rfl rfl rfl rfl (fun W => by go_simp; first | done | rfl) ?_) | (refine o_conv hw.out _ _ _ rfl rfl rfl rfl (fun W => by go_simp; first | done | rfl) ?_) | (refine o_call hw.out _ _ _ rfl rfl (fun W hW => copies_any W) (by with_reducible rfl) (by with_reducible rfl) rfl rfl (fun ρ W hρ => by go_simp; done) ?_) | (refine o_call hw.out _ _ _ rfl rfl (fun W hW => HB1.out W) (by with_reducible rfl) (by with_reducible rfl) rfl rfl (fun ρ W hρ => by go_simp; done) ?_) | (refine o_call hw.out _ _ _ rfl rfl (fun W hW => HB2.out W) (by with_reducible rfl) (by with_reducible rfl) rfl rfl (fun ρ W hρ => by go_simp; done) ?_) | (refine o_call hw.out _ _ _ rfl rfl (fun W hW => HF1.out W) (by with_reducible rfl) (by with_reducible rfl) rfl rfl (fun ρ W hρ => by go_simp; done) ?_) | (refine o_call hw.out _ _ _ rfl rfl (fun W hW => HF2.out W) (by with_reducible rfl) (by with_reducible rfl) rfl rfl (fun ρ W hρ => by go_simp; done) ?_) | (refine o_call hw.out _ _ _ rfl rfl (fun W hW => HC1.out W) (by with_reducible rfl) (by with_reducible rfl) rfl rfl (fun ρ W hρ => by go_simp; done) ?_) | (refine o_call hw.out _ _ _ rfl rfl (fun W hW => HC2.out W) (by with_reducible rfl) (by with_reducible rfl) rfl rfl (fun ρ W hρ => by go_simp; done) ?_) | (refine o_call hw.out _ _ _ rfl rfl (fun W hW => HI1.out W) (by with_reducible rfl) (by with_reducible rfl) rfl rfl (fun ρ W hρ => by go_simp; done) ?_) | (refine o_call hw.out _ _ _ rfl rfl (fun W hW => inone_any W) (by with_reducible rfl) (by with_reducible rfl) rfl rfl (fun ρ W hρ => by go_simp; done) ?_)); clear hw))); refine o_end ?_; simp only [app, List.set_cons_succ, List.set_cons_zero])
        intro w3 hb3
        have hb := hb.trans (hb3.mono hb.size)
        clear hb3 hz
        go_wp2
        go_ret
        exact ⟨rfl, hb⟩
      · have hk1 : ((k : Int) == 0) = false := by simpa using hk0
        refine head0 61 (by kernel_rfl) (by kernel_rfl) (by kernel_rfl) (by kernel_rfl) ?_
        simp only [List.take_succ_cons, List.take_zero, List.drop_succ_cons, List.drop_zero]
        (refine o_start ?_; (iterate 61 (first | (refine o_skip rfl rfl rfl ?_) | (refine o_have rfl fun hw => ?_; (first | (refine o_move hw.out _ rfl rfl rfl rfl ?_) | (refine o_pickT hw.out _ _ _ rfl rfl rfl rfl rfl ?_) | (refine o_pickF hw.out _ _ _ rfl rfl rfl rfl rfl ?_) | (refine o_load_z hw.out _ rfl rfl hz rfl rfl ?_) | (refine o_bin hw.out _ _ _ _ _ rfl rfl rfl rfl rfl (fun W => by go_simp; first | done | rfl) ?_) | (refine o_un hw.out _ _ _ rfl rfl rfl rfl (fun W => by go_simp; first | done | rfl) ?_) | (refine o_field hw.out _ _ _ rfl rfl rfl rfl (fun W => by go_simp; first | done | rfl) ?_) | (refine o_index hw.out _ _ _ rfl rfl rfl rfl rfl (fun W => by go_simp; first | done | rfl) ?_) | (refine o_conv hw.out _ _ _ rfl rfl rfl rfl (fun W => by go_simp; first | done | rfl) ?_) | (refine o_call hw.out _ _ _ rfl rfl (fun W hW => copies_any W) (by with_reducible rfl) (by with_reducible rfl) rfl rfl (fun ρ W hρ => by go_simp; done) ?_) | (refine o_call hw.out _ _ _ rfl rfl (fun W hW => HB1.out W) (by with_reducible rfl) (by with_reducible rfl) rfl rfl (fun ρ W hρ => by go_simp; done) ?_) | (refine o_call hw.out _ _ _ rfl rfl (fun W hW => HB2.out W) (by with_reducible rfl) (by with_reducible rfl) rfl rfl (fun ρ W hρ => by go_simp; done) ?_) | (refine o_call hw.out _ _ _ rfl rfl (fun W hW => HF1.out W) (by with_reducible rfl) (by with_reducible rfl) rfl rfl (fun ρ W hρ => by go_simp; done) ?_) | (refine o_call hw.out _ _ _ rfl rfl (fun W hW => HF2.out W) (by with_reducible rfl) (by with_reducible rfl) rfl rfl (fun ρ W hρ => by go_simp; done) ?_) | (refine o_call hw.out _ _ _ rfl rfl (fun W hW => HC1.out W) (by with_reducible rfl) (by with_reducible rfl) rfl rfl (fun ρ W hρ => by go_simp; done) ?_) | (refine o_call hw.out _ _ _ rfl rfl (fun W hW => HC2.out W) (by with_reducible rfl) (by with_reducible rfl) rfl rfl (fun ρ W hρ => by go_simp; done) ?_) | (refine o_call hw.out _ _ _ rfl rfl (fun W hW => HC3.out W) (by with_reducible rfl) (by with_reducible rfl) rfl rfl (fun ρ W hρ => by go_simp; done) ?_) | (refine o_call hw.out _ _ _ rfl rfl (fun W hW => HI1.out W) (by with_reducible rfl) (by with_reducible rfl) rfl rfl (fun ρ W hρ => by go_simp; done) ?_) | (refine o_call hw.out _ _ _ rfl rfl (fun W hW => inone_any W) (by with_reducible rfl) (by with_reducible rfl) rfl rfl (fun ρ W hρ => by go_simp; done) ?_)); clear hw))); refine o_end ?_; simp only [app, List.set_cons_succ, List.set_cons_zero])
        intro w3 hb3
        have hb := hb.trans (hb3.mono hb.size)
        clear hb3 hz
        go_wp2
        go_ret
        exact ⟨rfl, hb⟩
  · by_cases hxm : x = -1
    · subst hxm
      have hv1 : ¬ ((-1 : Int) ≤ (-2 : Int) ∧ (-2 : Int) < k) := by omega
      have ho : ¬ orB Y ((-2 : Int)) = true := by rw [orB_iff, HYN.out]; omega
      have hvv : ¬ varB Y ((-2 : Int)) = true := by rw [varB_iff, HYN.out]; omega
      have hvm : ¬ varB Y (-1) = true := by rw [varB_iff]; omega
      have hb1 : ∀ W : World, Calls Try.prog 22 #[.agg (zc k Y.none Y.D), .int .i64 ((-2 : Int)), .int .i64 (-1), .int .i64 3] W (Ret W (.agg (zc k Y.none Y.D))) := fun W => by
        have := bound_any Y HYK.out.n ((-2 : Int)) (-1) 3 W; rw [boundZ_no _ _ _ (fun h => ho h.1), Zn.c, HYN.out] at this; exact this
      have hb2 : ∀ W : World, Calls Try.prog 22 #[.agg (zc k Y.none Y.D), .int .i64 (-1), .int .i64 ((-2 : Int)), .int .i64 3] W (Ret W (.agg (zc k Y.none Y.D))) := fun W => by
        have := bound_any Y HYK.out.n (-1) ((-2 : Int)) 3 W; rw [boundZ_no _ _ _ (fun h => ho h.2), Zn.c, HYN.out] at this; exact this
      have hf1 : ∀ W : World, Calls Try.prog 33 #[.agg (zc k Y.none Y.D), .int .i64 ((-2 : Int))] W (Ret W (.agg (zc k Y.none Y.D))) := fun W => by
        have := forget_any Y HYK.out.n ((-2 : Int)) W; rw [forgetZ_no _ hvv, Zn.c, HYN.out] at this; exact this
      have hf2 : ∀ W : World, Calls Try.prog 33 #[.agg (zc k Y.none Y.D), .int .i64 (-1)] W (Ret W (.agg (zc k Y.none Y.D))) := fun W => by
        have := forget_any Y HYK.out.n (-1) W; rw [forgetZ_no _ hvm, Zn.c, HYN.out] at this; exact this
      have hc1 : ∀ W : World, Calls Try.prog 23 #[.agg (zc k Y.none Y.D), .int .i64 ((-2 : Int)), .int .i64 (-1), .int .i64 3] W (Ret W (.agg (zc k Y.none Y.D))) := fun W => by
        have := copy_any Y HYK.out.n ((-2 : Int)) (-1) 3 W; rw [copyZ_no _ _ _ (fun h => hvv h.1), Zn.c, HYN.out] at this; exact this
      have hc2 : ∀ W : World, Calls Try.prog 23 #[.agg (zc k Y.none Y.D), .int .i64 (-1), .int .i64 (-1), .int .i64 3] W (Ret W (.agg (zc k Y.none Y.D))) := fun W => by
        have := copy_any Y HYK.out.n (-1) (-1) 3 W; rw [copyZ_no _ _ _ (fun h => hvm h.1), Zn.c, HYN.out] at this; exact this
      have hc3 : ∀ W : World, Calls Try.prog 23 #[.agg (zc k Y.none Y.D), .int .i64 0, .int .i64 ((-2 : Int)), .int .i64 3] W (Ret W (.agg (zc k Y.none Y.D))) := fun W => by
        have := copy_any Y HYK.out.n 0 ((-2 : Int)) 3 W; rw [copyZ_no _ _ _ (fun h => ho h.2), Zn.c, HYN.out] at this; exact this
      have hi1 : ∀ W : World, Calls Try.prog 25 #[.agg (zc k Y.none Y.D), .int .i64 ((-2 : Int))] W (Ret W (.agg (ic 1 0))) := fun W => by
        have := zitv_any Y HYK.out.n ((-2 : Int)) W; rw [itvZ_none _ hvv, Zn.c, HYN.out] at this; exact this
      have HB1 := Lib.hid hb1
      have HB2 := Lib.hid hb2
      have HF1 := Lib.hid hf1
      have HF2 := Lib.hid hf2
      have HC1 := Lib.hid hc1
      have HC2 := Lib.hid hc2
      have HC3 := Lib.hid hc3
      have HI1 := Lib.hid hi1
      clear hb1 hb2 hf1 hf2 hc1 hc2 hc3 hi1 ho hvv hvm hv1

      go_enter Try.func6, Try.ntmps6
      go_wp2_with (first
        | (go_at_call 21; ((with_reducible refine (HT.out _).mono ?_); rintro e W2 ⟨rfl, hb⟩))
        | (go_at_call 27; ((with_reducible refine (HRT.out _).mono ?_); rintro e W3 ⟨rfl, hb2⟩; have hb := hb.trans (hb2.mono hb.size); clear hb2))
        | (go_at_call 31; ((with_reducible refine (HAP.out _ hb).mono ?_); rintro e W8 ⟨rfl, hb3⟩; have hb := hb.trans (hb3.mono hb.size); clear hb3))
        | (refine wpList_alloc_zone rfl 26 rfl zz ?_; intro W4 hz hb4 hs4; have hge := hb.size; have hb := hb.trans (hb4.mono hge); clear hb4)
        | (refine wpList_alloc_zone rfl 38 rfl rz ?_; intro W5 hr hb5 hs5; rw [hs4.out] at hr hb5 hs5; rw [hs4.out]; have hz := hz.below hb5 (by omega); have hb := hb.trans (hb5.mono (by omega)); clear hb5)
        | (refine store_z rfl _ _ rfl rfl rfl hz ?_; intro W6 hz6 hg6 hs6; have hr := hr.only hg6 (by omega); have hb := below_only hb hg6 hb.size (by omega); clear hz; have hz := hz6; clear hz6 hg6 hs6)
        | (refine store_r rfl _ _ rfl rfl rfl hr ?_; intro W7 hr7 hg7 hs7; have hz := hz.only hg7 (by omega); have hb := below_only hb hg7 hb.size (by omega); clear hr; have hr := hr7; clear hr7 hg7 hs7)
        | fail)
      clear hs4 hs5 HAP HT HRT hr
      generalize W8.heap.size = g at hge hz ⊢
      by_cases hk0 : k = 0
      · subst hk0
        refine head0 61 (by kernel_rfl) (by kernel_rfl) (by kernel_rfl) (by kernel_rfl) ?_
        simp only [List.take_succ_cons, List.take_zero, List.drop_succ_cons, List.drop_zero]
        (refine o_start ?_; (iterate 61 (first | (refine o_skip rfl rfl rfl ?_) | (refine o_have rfl fun hw => ?_; (first | (refine o_move hw.out _ rfl rfl rfl rfl ?_) | (refine o_pickT hw.out _ _ _ rfl rfl rfl rfl rfl ?_) | (refine o_pickF hw.out _ _ _ rfl rfl rfl rfl rfl ?_) | (refine o_load_z hw.out _ rfl rfl hz rfl rfl ?_) | (refine o_bin hw.out _ _ _ _ _ rfl rfl rfl rfl rfl (fun W => by go_simp; first | done | rfl) ?_) | (refine o_un hw.out _ _ _ rfl rfl rfl rfl (fun W => by go_simp; first | done | rfl) ?_) | (refine o_field hw.out _ _ _ rfl rfl rfl rfl (fun W => by go_simp; first | done | rfl) ?_) | (refine o_index hw.out _ _ _ rfl rfl rfl rfl rfl (fun W => by go_simp; first | done | rfl) ?_) | (refine o_conv hw.out _ _ _ rfl rfl rfl rfl (fun W => by go_simp; first | done | rfl) ?_) | (refine o_call hw.out _ _ _ rfl rfl (fun W hW => copies_any W) (by with_reducible rfl) (by with_reducible rfl) rfl rfl (fun ρ W hρ => by go_simp; done) ?_) | (refine o_call hw.out _ _ _ rfl rfl (fun W hW => HB1.out W) (by with_reducible rfl) (by with_reducible rfl) rfl rfl (fun ρ W hρ => by go_simp; done) ?_) | (refine o_call hw.out _ _ _ rfl rfl (fun W hW => HB2.out W) (by with_reducible rfl) (by with_reducible rfl) rfl rfl (fun ρ W hρ => by go_simp; done) ?_) | (refine o_call hw.out _ _ _ rfl rfl (fun W hW => HF1.out W) (by with_reducible rfl) (by with_reducible rfl) rfl rfl (fun ρ W hρ => by go_simp; done) ?_) | (refine o_call hw.out _ _ _ rfl rfl (fun W hW => HF2.out W) (by with_reducible rfl) (by with_reducible rfl) rfl rfl (fun ρ W hρ => by go_simp; done) ?_) | (refine o_call hw.out _ _ _ rfl rfl (fun W hW => HC1.out W) (by with_reducible rfl) (by with_reducible rfl) rfl rfl (fun ρ W hρ => by go_simp; done) ?_) | (refine o_call hw.out _ _ _ rfl rfl (fun W hW => HC2.out W) (by with_reducible rfl) (by with_reducible rfl) rfl rfl (fun ρ W hρ => by go_simp; done) ?_) | (refine o_call hw.out _ _ _ rfl rfl (fun W hW => HI1.out W) (by with_reducible rfl) (by with_reducible rfl) rfl rfl (fun ρ W hρ => by go_simp; done) ?_) | (refine o_call hw.out _ _ _ rfl rfl (fun W hW => inone_any W) (by with_reducible rfl) (by with_reducible rfl) rfl rfl (fun ρ W hρ => by go_simp; done) ?_)); clear hw))); refine o_end ?_; simp only [app, List.set_cons_succ, List.set_cons_zero])
        intro w3 hb3
        have hb := hb.trans (hb3.mono hb.size)
        clear hb3 hz
        go_wp2
        go_ret
        exact ⟨rfl, hb⟩
      · have hk1 : ((k : Int) == 0) = false := by simpa using hk0
        refine head0 61 (by kernel_rfl) (by kernel_rfl) (by kernel_rfl) (by kernel_rfl) ?_
        simp only [List.take_succ_cons, List.take_zero, List.drop_succ_cons, List.drop_zero]
        (refine o_start ?_; (iterate 61 (first | (refine o_skip rfl rfl rfl ?_) | (refine o_have rfl fun hw => ?_; (first | (refine o_move hw.out _ rfl rfl rfl rfl ?_) | (refine o_pickT hw.out _ _ _ rfl rfl rfl rfl rfl ?_) | (refine o_pickF hw.out _ _ _ rfl rfl rfl rfl rfl ?_) | (refine o_load_z hw.out _ rfl rfl hz rfl rfl ?_) | (refine o_bin hw.out _ _ _ _ _ rfl rfl rfl rfl rfl (fun W => by go_simp; first | done | rfl) ?_) | (refine o_un hw.out _ _ _ rfl rfl rfl rfl (fun W => by go_simp; first | done | rfl) ?_) | (refine o_field hw.out _ _ _ rfl rfl rfl rfl (fun W => by go_simp; first | done | rfl) ?_) | (refine o_index hw.out _ _ _ rfl rfl rfl rfl rfl (fun W => by go_simp; first | done | rfl) ?_) | (refine o_conv hw.out _ _ _ rfl rfl rfl rfl (fun W => by go_simp; first | done | rfl) ?_) | (refine o_call hw.out _ _ _ rfl rfl (fun W hW => copies_any W) (by with_reducible rfl) (by with_reducible rfl) rfl rfl (fun ρ W hρ => by go_simp; done) ?_) | (refine o_call hw.out _ _ _ rfl rfl (fun W hW => HB1.out W) (by with_reducible rfl) (by with_reducible rfl) rfl rfl (fun ρ W hρ => by go_simp; done) ?_) | (refine o_call hw.out _ _ _ rfl rfl (fun W hW => HB2.out W) (by with_reducible rfl) (by with_reducible rfl) rfl rfl (fun ρ W hρ => by go_simp; done) ?_) | (refine o_call hw.out _ _ _ rfl rfl (fun W hW => HF1.out W) (by with_reducible rfl) (by with_reducible rfl) rfl rfl (fun ρ W hρ => by go_simp; done) ?_) | (refine o_call hw.out _ _ _ rfl rfl (fun W hW => HF2.out W) (by with_reducible rfl) (by with_reducible rfl) rfl rfl (fun ρ W hρ => by go_simp; done) ?_) | (refine o_call hw.out _ _ _ rfl rfl (fun W hW => HC1.out W) (by with_reducible rfl) (by with_reducible rfl) rfl rfl (fun ρ W hρ => by go_simp; done) ?_) | (refine o_call hw.out _ _ _ rfl rfl (fun W hW => HC2.out W) (by with_reducible rfl) (by with_reducible rfl) rfl rfl (fun ρ W hρ => by go_simp; done) ?_) | (refine o_call hw.out _ _ _ rfl rfl (fun W hW => HC3.out W) (by with_reducible rfl) (by with_reducible rfl) rfl rfl (fun ρ W hρ => by go_simp; done) ?_) | (refine o_call hw.out _ _ _ rfl rfl (fun W hW => HI1.out W) (by with_reducible rfl) (by with_reducible rfl) rfl rfl (fun ρ W hρ => by go_simp; done) ?_) | (refine o_call hw.out _ _ _ rfl rfl (fun W hW => inone_any W) (by with_reducible rfl) (by with_reducible rfl) rfl rfl (fun ρ W hρ => by go_simp; done) ?_)); clear hw))); refine o_end ?_; simp only [app, List.set_cons_succ, List.set_cons_zero])
        intro w3 hb3
        have hb := hb.trans (hb3.mono hb.size)
        clear hb3 hz
        go_wp2
        go_ret
        exact ⟨rfl, hb⟩
    · have hne : (x == -1) = false := by simpa using hxm
      have hv1 : ¬ ((-1 : Int) ≤ x ∧ x < k) := by omega
      have ho : ¬ orB Y (x) = true := by rw [orB_iff, HYN.out]; omega
      have hvv : ¬ varB Y (x) = true := by rw [varB_iff, HYN.out]; omega
      have hvm : ¬ varB Y (-1) = true := by rw [varB_iff]; omega
      have hb1 : ∀ W : World, Calls Try.prog 22 #[.agg (zc k Y.none Y.D), .int .i64 (x), .int .i64 (-1), .int .i64 3] W (Ret W (.agg (zc k Y.none Y.D))) := fun W => by
        have := bound_any Y HYK.out.n (x) (-1) 3 W; rw [boundZ_no _ _ _ (fun h => ho h.1), Zn.c, HYN.out] at this; exact this
      have hb2 : ∀ W : World, Calls Try.prog 22 #[.agg (zc k Y.none Y.D), .int .i64 (-1), .int .i64 (x), .int .i64 3] W (Ret W (.agg (zc k Y.none Y.D))) := fun W => by
        have := bound_any Y HYK.out.n (-1) (x) 3 W; rw [boundZ_no _ _ _ (fun h => ho h.2), Zn.c, HYN.out] at this; exact this
      have hf1 : ∀ W : World, Calls Try.prog 33 #[.agg (zc k Y.none Y.D), .int .i64 (x)] W (Ret W (.agg (zc k Y.none Y.D))) := fun W => by
        have := forget_any Y HYK.out.n (x) W; rw [forgetZ_no _ hvv, Zn.c, HYN.out] at this; exact this
      have hf2 : ∀ W : World, Calls Try.prog 33 #[.agg (zc k Y.none Y.D), .int .i64 (-1)] W (Ret W (.agg (zc k Y.none Y.D))) := fun W => by
        have := forget_any Y HYK.out.n (-1) W; rw [forgetZ_no _ hvm, Zn.c, HYN.out] at this; exact this
      have hc1 : ∀ W : World, Calls Try.prog 23 #[.agg (zc k Y.none Y.D), .int .i64 (x), .int .i64 (-1), .int .i64 3] W (Ret W (.agg (zc k Y.none Y.D))) := fun W => by
        have := copy_any Y HYK.out.n (x) (-1) 3 W; rw [copyZ_no _ _ _ (fun h => hvv h.1), Zn.c, HYN.out] at this; exact this
      have hc2 : ∀ W : World, Calls Try.prog 23 #[.agg (zc k Y.none Y.D), .int .i64 (-1), .int .i64 (-1), .int .i64 3] W (Ret W (.agg (zc k Y.none Y.D))) := fun W => by
        have := copy_any Y HYK.out.n (-1) (-1) 3 W; rw [copyZ_no _ _ _ (fun h => hvm h.1), Zn.c, HYN.out] at this; exact this
      have hc3 : ∀ W : World, Calls Try.prog 23 #[.agg (zc k Y.none Y.D), .int .i64 0, .int .i64 (x), .int .i64 3] W (Ret W (.agg (zc k Y.none Y.D))) := fun W => by
        have := copy_any Y HYK.out.n 0 (x) 3 W; rw [copyZ_no _ _ _ (fun h => ho h.2), Zn.c, HYN.out] at this; exact this
      have hi1 : ∀ W : World, Calls Try.prog 25 #[.agg (zc k Y.none Y.D), .int .i64 (x)] W (Ret W (.agg (ic 1 0))) := fun W => by
        have := zitv_any Y HYK.out.n (x) W; rw [itvZ_none _ hvv, Zn.c, HYN.out] at this; exact this
      have HB1 := Lib.hid hb1
      have HB2 := Lib.hid hb2
      have HF1 := Lib.hid hf1
      have HF2 := Lib.hid hf2
      have HC1 := Lib.hid hc1
      have HC2 := Lib.hid hc2
      have HC3 := Lib.hid hc3
      have HI1 := Lib.hid hi1
      clear hb1 hb2 hf1 hf2 hc1 hc2 hc3 hi1 ho hvv hvm hv1

      go_enter Try.func6, Try.ntmps6
      go_wp2_with (first
        | (go_at_call 21; ((with_reducible refine (HT.out _).mono ?_); rintro e W2 ⟨rfl, hb⟩))
        | (go_at_call 27; ((with_reducible refine (HRT.out _).mono ?_); rintro e W3 ⟨rfl, hb2⟩; have hb := hb.trans (hb2.mono hb.size); clear hb2))
        | (go_at_call 31; ((with_reducible refine (HAP.out _ hb).mono ?_); rintro e W8 ⟨rfl, hb3⟩; have hb := hb.trans (hb3.mono hb.size); clear hb3))
        | (refine wpList_alloc_zone rfl 26 rfl zz ?_; intro W4 hz hb4 hs4; have hge := hb.size; have hb := hb.trans (hb4.mono hge); clear hb4)
        | (refine wpList_alloc_zone rfl 38 rfl rz ?_; intro W5 hr hb5 hs5; rw [hs4.out] at hr hb5 hs5; rw [hs4.out]; have hz := hz.below hb5 (by omega); have hb := hb.trans (hb5.mono (by omega)); clear hb5)
        | (refine store_z rfl _ _ rfl rfl rfl hz ?_; intro W6 hz6 hg6 hs6; have hr := hr.only hg6 (by omega); have hb := below_only hb hg6 hb.size (by omega); clear hz; have hz := hz6; clear hz6 hg6 hs6)
        | (refine store_r rfl _ _ rfl rfl rfl hr ?_; intro W7 hr7 hg7 hs7; have hz := hz.only hg7 (by omega); have hb := below_only hb hg7 hb.size (by omega); clear hr; have hr := hr7; clear hr7 hg7 hs7)
        | fail)
      clear hs4 hs5 HAP HT HRT hr
      generalize W8.heap.size = g at hge hz ⊢
      by_cases hk0 : k = 0
      · subst hk0
        refine head0 61 (by kernel_rfl) (by kernel_rfl) (by kernel_rfl) (by kernel_rfl) ?_
        simp only [List.take_succ_cons, List.take_zero, List.drop_succ_cons, List.drop_zero]
        (refine o_start ?_; (iterate 61 (first | (refine o_skip rfl rfl rfl ?_) | (refine o_have rfl fun hw => ?_; (first | (refine o_move hw.out _ rfl rfl rfl rfl ?_) | (refine o_pickT hw.out _ _ _ rfl rfl rfl rfl rfl ?_) | (refine o_pickF hw.out _ _ _ rfl rfl rfl rfl rfl ?_) | (refine o_load_z hw.out _ rfl rfl hz rfl rfl ?_) | (refine o_bin hw.out _ _ _ _ _ rfl rfl rfl rfl rfl (fun W => by go_simp; first | done | rfl) ?_) | (refine o_un hw.out _ _ _ rfl rfl rfl rfl (fun W => by go_simp; first | done | rfl) ?_) | (refine o_field hw.out _ _ _ rfl rfl rfl rfl (fun W => by go_simp; first | done | rfl) ?_) | (refine o_index hw.out _ _ _ rfl rfl rfl rfl rfl (fun W => by go_simp; first | done | rfl) ?_) | (refine o_conv hw.out _ _ _ rfl rfl rfl rfl (fun W => by go_simp; first | done | rfl) ?_) | (refine o_call hw.out _ _ _ rfl rfl (fun W hW => copies_any W) (by with_reducible rfl) (by with_reducible rfl) rfl rfl (fun ρ W hρ => by go_simp; done) ?_) | (refine o_call hw.out _ _ _ rfl rfl (fun W hW => HB1.out W) (by with_reducible rfl) (by with_reducible rfl) rfl rfl (fun ρ W hρ => by go_simp; done) ?_) | (refine o_call hw.out _ _ _ rfl rfl (fun W hW => HB2.out W) (by with_reducible rfl) (by with_reducible rfl) rfl rfl (fun ρ W hρ => by go_simp; done) ?_) | (refine o_call hw.out _ _ _ rfl rfl (fun W hW => HF1.out W) (by with_reducible rfl) (by with_reducible rfl) rfl rfl (fun ρ W hρ => by go_simp; done) ?_) | (refine o_call hw.out _ _ _ rfl rfl (fun W hW => HF2.out W) (by with_reducible rfl) (by with_reducible rfl) rfl rfl (fun ρ W hρ => by go_simp; done) ?_) | (refine o_call hw.out _ _ _ rfl rfl (fun W hW => HC1.out W) (by with_reducible rfl) (by with_reducible rfl) rfl rfl (fun ρ W hρ => by go_simp; done) ?_) | (refine o_call hw.out _ _ _ rfl rfl (fun W hW => HC2.out W) (by with_reducible rfl) (by with_reducible rfl) rfl rfl (fun ρ W hρ => by go_simp; done) ?_) | (refine o_call hw.out _ _ _ rfl rfl (fun W hW => HI1.out W) (by with_reducible rfl) (by with_reducible rfl) rfl rfl (fun ρ W hρ => by go_simp; done) ?_) | (refine o_call hw.out _ _ _ rfl rfl (fun W hW => inone_any W) (by with_reducible rfl) (by with_reducible rfl) rfl rfl (fun ρ W hρ => by go_simp; done) ?_)); clear hw))); refine o_end ?_; simp only [app, List.set_cons_succ, List.set_cons_zero])
        intro w3 hb3
        have hb := hb.trans (hb3.mono hb.size)
        clear hb3 hz
        go_wp2
        go_ret
        exact ⟨rfl, hb⟩
      · have hk1 : ((k : Int) == 0) = false := by simpa using hk0
        refine head0 61 (by kernel_rfl) (by kernel_rfl) (by kernel_rfl) (by kernel_rfl) ?_
        simp only [List.take_succ_cons, List.take_zero, List.drop_succ_cons, List.drop_zero]
        (refine o_start ?_; (iterate 61 (first | (refine o_skip rfl rfl rfl ?_) | (refine o_have rfl fun hw => ?_; (first | (refine o_move hw.out _ rfl rfl rfl rfl ?_) | (refine o_pickT hw.out _ _ _ rfl rfl rfl rfl rfl ?_) | (refine o_pickF hw.out _ _ _ rfl rfl rfl rfl rfl ?_) | (refine o_load_z hw.out _ rfl rfl hz rfl rfl ?_) | (refine o_bin hw.out _ _ _ _ _ rfl rfl rfl rfl rfl (fun W => by go_simp; first | done | rfl) ?_) | (refine o_un hw.out _ _ _ rfl rfl rfl rfl (fun W => by go_simp; first | done | rfl) ?_) | (refine o_field hw.out _ _ _ rfl rfl rfl rfl (fun W => by go_simp; first | done | rfl) ?_) | (refine o_index hw.out _ _ _ rfl rfl rfl rfl rfl (fun W => by go_simp; first | done | rfl) ?_) | (refine o_conv hw.out _ _ _ rfl rfl rfl rfl (fun W => by go_simp; first | done | rfl) ?_) | (refine o_call hw.out _ _ _ rfl rfl (fun W hW => copies_any W) (by with_reducible rfl) (by with_reducible rfl) rfl rfl (fun ρ W hρ => by go_simp; done) ?_) | (refine o_call hw.out _ _ _ rfl rfl (fun W hW => HB1.out W) (by with_reducible rfl) (by with_reducible rfl) rfl rfl (fun ρ W hρ => by go_simp; done) ?_) | (refine o_call hw.out _ _ _ rfl rfl (fun W hW => HB2.out W) (by with_reducible rfl) (by with_reducible rfl) rfl rfl (fun ρ W hρ => by go_simp; done) ?_) | (refine o_call hw.out _ _ _ rfl rfl (fun W hW => HF1.out W) (by with_reducible rfl) (by with_reducible rfl) rfl rfl (fun ρ W hρ => by go_simp; done) ?_) | (refine o_call hw.out _ _ _ rfl rfl (fun W hW => HF2.out W) (by with_reducible rfl) (by with_reducible rfl) rfl rfl (fun ρ W hρ => by go_simp; done) ?_) | (refine o_call hw.out _ _ _ rfl rfl (fun W hW => HC1.out W) (by with_reducible rfl) (by with_reducible rfl) rfl rfl (fun ρ W hρ => by go_simp; done) ?_) | (refine o_call hw.out _ _ _ rfl rfl (fun W hW => HC2.out W) (by with_reducible rfl) (by with_reducible rfl) rfl rfl (fun ρ W hρ => by go_simp; done) ?_) | (refine o_call hw.out _ _ _ rfl rfl (fun W hW => HC3.out W) (by with_reducible rfl) (by with_reducible rfl) rfl rfl (fun ρ W hρ => by go_simp; done) ?_) | (refine o_call hw.out _ _ _ rfl rfl (fun W hW => HI1.out W) (by with_reducible rfl) (by with_reducible rfl) rfl rfl (fun ρ W hρ => by go_simp; done) ?_) | (refine o_call hw.out _ _ _ rfl rfl (fun W hW => inone_any W) (by with_reducible rfl) (by with_reducible rfl) rfl rfl (fun ρ W hρ => by go_simp; done) ?_)); clear hw))); refine o_end ?_; simp only [app, List.set_cons_succ, List.set_cons_zero])
        intro w3 hb3
        have hb := hb.trans (hb3.mono hb.size)
        clear hb3 hz
        go_wp2
        go_ret
        exact ⟨rfl, hb⟩
end Go.Proofs.Ytgnkhncogfppgaa
