import Derived.Test.YtgnkhncogfppgaaN3
namespace Go.Proofs.Ytgnkhncogfppgaa
open Go.RowKit
/-! The document's Set. -/
set_option maxRecDepth 100000 in
set_option maxHeartbeats 1000000 in
theorem rset_any {z : Zn} (h : OKZ z) (hno : z.none = false) {m : Nat} (hm : m < z.n) {lo hi : Int} (hl : lo ≤ hi) (h1 : -2147483649 ≤ lo) (h2 : lo ≤ 2147483648) (w : World) : Calls Try.prog 93 #[.agg z.c, .int .i64 (m : Int), .agg (ic lo hi)] w (Ret w (.agg (heldZ (forgetZ z (m : Int)) (m : Int) (lo, hi)).c)) := by
  have b1 : ∀ W : World, Calls Try.prog 83 #[.agg z.c, .int .i64 (m : Int)] W (Ret W (.agg (forgetZ z (m : Int)).c)) := fun W => rforget_any h hm W
  have b2 : ∀ W : World, Calls Try.prog 51 #[.agg (forgetZ z (m : Int)).c, .int .i64 (m : Int), .agg (ic lo hi)] W (Ret W (.agg (heldZ (forgetZ z (m : Int)) (m : Int) (lo, hi)).c)) := fun W =>
    rmeet_any (forget_ok h hm) (by rw [forget_eq h hno hm]) (by rw [forgetZ_n]; exact hm) hl h1 h2 W
  generalize heldZ (forgetZ z (m : Int)) (m : Int) (lo, hi) = z2 at *
  generalize forgetZ z (m : Int) = z1 at *
  have B1 : Hid (∀ W : World, Calls Try.prog 83 #[.agg (zc z.n z.none z.D), .int .i64 (m : Int)] W (Ret W (.agg (zc z1.n z1.none z1.D)))) := b1
  have B2 : Hid (∀ W : World, Calls Try.prog 51 #[.agg (zc z1.n z1.none z1.D), .int .i64 (m : Int), .agg (ic lo hi)] W (Ret W (.agg z2.c))) := b2
  show Calls Try.prog 93 #[.agg (zc z.n z.none z.D), .int .i64 (m : Int), .agg (ic lo hi)] w _
  clear b1 b2 h hno
  go_enter Try.func93, Try.ntmps93
  go_wp2_with (first
    | (refine wpList_box_zone rfl 38 _ rfl _ _ _ rfl ?_; intro W1 hz hb hs1)
    | (refine box_row rfl 53 _ rfl _ rfl ?_; intro W2 hi' hb2 hs2; rw [hs1.out] at hi' hb2 hs2; rw [hs1.out]; have hz := hz.below hb2 (by omega); have hb := hb.trans (hb2.mono (by omega)); clear hb2)
    | (refine wpList_alloc_zone rfl 38 rfl rz ?_; intro W3 hz1 hb3 hs3; rw [hs2.out] at hz1 hb3 hs3; rw [hs2.out]; have hz := hz.below hb3 (by omega); have hi' := hi'.below hb3 (by omega); have hb := hb.trans (hb3.mono (by omega)); clear hb3)
    | fail)
  refine head0 6 (by kernel_rfl) (by kernel_rfl) (by kernel_rfl) (by kernel_rfl) ?_
  simp only [List.take_succ_cons, List.take_zero, List.drop_succ_cons, List.drop_zero]
  (refine o_start ?_; (iterate 6 (first | (refine o_skip rfl rfl rfl ?_) | (refine o_have rfl fun hw => ?_; (first | (refine o_move hw.out _ rfl rfl rfl rfl ?_) | (refine o_pickT hw.out _ _ _ rfl rfl rfl rfl rfl ?_) | (refine o_pickF hw.out _ _ _ rfl rfl rfl rfl rfl ?_) | (refine o_load_r hw.out _ rfl rfl hz rfl rfl ?_) | (refine o_load_row hw.out _ _ rfl rfl hi' (by first | exact Try.underlying53) rfl isz8 rfl rfl ?_) | (refine o_bin hw.out _ _ _ _ _ rfl rfl rfl rfl rfl (fun W => by go_simp; first | done | rfl) ?_) | (refine o_un hw.out _ _ _ rfl rfl rfl rfl (fun W => by go_simp; first | done | rfl) ?_) | (refine o_field hw.out _ _ _ rfl rfl rfl rfl (fun W => by go_simp; first | done | rfl) ?_) | (refine o_index hw.out _ _ _ rfl rfl rfl rfl rfl (fun W => by go_simp; first | done | rfl) ?_) | (refine o_conv hw.out _ _ _ rfl rfl rfl rfl (fun W => by go_simp; first | done | rfl) ?_) | (refine o_call hw.out _ _ _ rfl rfl (fun W hW => B1.out W) (by with_reducible rfl) (by with_reducible rfl) rfl rfl (fun ρ W hρ => by go_simp; done) ?_) | (refine o_call hw.out _ _ _ rfl rfl (fun W hW => B2.out W) (by with_reducible rfl) (by with_reducible rfl) rfl rfl (fun ρ W hρ => by go_simp; done) ?_)); clear hw))); refine o_end ?_; simp only [app])
  intro w3 hb3
  have hz1 := hz1.on hb3
  have hb := hb.trans (hb3.mono hb.size)
  clear hb3 hz hi'
  go_wp2_with (first
    | (refine store_r rfl _ _ rfl rfl rfl hz1 ?_; intro W4 hz4 hg4 hs4)
    | fail)
  exact bodyPost_ret (results_r rfl (by simp [Act.put]) hz4) rfl ⟨rfl, below_only hb hg4 hb.size (by omega)⟩
end Go.Proofs.Ytgnkhncogfppgaa
