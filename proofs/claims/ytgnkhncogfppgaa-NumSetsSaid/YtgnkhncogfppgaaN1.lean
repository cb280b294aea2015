import Derived.Test.YtgnkhncogfppgaaBI
import Derived.Test.YtgnkhncogfppgaaMD
namespace Go.Proofs.Ytgnkhncogfppgaa
open Go.RowKit
/-! The document's Meet. -/
theorem build_none (n : Int) (w : World) : (Instr.build 38 #[(0, .int .i64 n), (1, .bool true)]).run Try.prog w = .ok (.agg (zc n true fun _ _ => 0)) w := by
  go_simp
  try rfl
set_option maxRecDepth 100000 in
set_option maxHeartbeats 1000000 in
theorem rmeet_any {z : Zn} (h : OKZ z) (hno : z.none = false) {m : Nat} (hm : m < z.n) {lo hi : Int} (hl : lo ≤ hi) (h1 : -2147483649 ≤ lo) (h2 : lo ≤ 2147483648) (w : World) : Calls Try.prog 51 #[.agg z.c, .int .i64 (m : Int), .agg (ic lo hi)] w (Ret w (.agg (heldZ z (m : Int) (lo, hi)).c)) := by
  have e1 : (m : Int) = ((m + 1 : Nat) : Int) - 1 := by omega
  have e2 : (-1 : Int) = ((0 : Nat) : Int) - 1 := by omega
  have ok1 := bound_ok h (i := m + 1) (j := 0) (by omega) (by omega) (by omega) (d := hi) (by omega)
  have b1 : ∀ W : World, Calls Try.prog 29 #[.agg z.c, .int .i64 (m : Int), .int .i64 (-1), .int .i64 hi] W (Ret W (.agg (boundZ z (m : Int) (-1) hi).c)) := fun W => by
    have := rbound_any h (i := m + 1) (j := 0) (by omega) (by omega) (by omega) (d := hi) (by omega) W
    rw [← e1, ← e2] at this; exact this
  have b2 : ∀ W : World, Calls Try.prog 29 #[.agg (boundZ z (m : Int) (-1) hi).c, .int .i64 (-1), .int .i64 (m : Int), .int .i64 (-lo)] W (Ret W (.agg (heldZ z (m : Int) (lo, hi)).c)) := fun W => by
    have := rbound_any ok1 (i := 0) (j := m + 1) (by omega) (by rw [boundZ_n]; omega) (by omega) (d := -lo) (by omega) W
    rw [← e1, ← e2, ← held_yes hm hl h1 h2] at this; exact this
  generalize boundZ z (m : Int) (-1) hi = z1 at *
  generalize heldZ z (m : Int) (lo, hi) = z2 at *
  have B1 : Hid (∀ W : World, Calls Try.prog 29 #[.agg (zc z.n false z.D), .int .i64 (m : Int), .int .i64 (-1), .int .i64 hi] W (Ret W (.agg (zc z1.n z1.none z1.D)))) := fun W => by
    have := b1 W; rw [Zn.c, hno] at this; exact this
  have B2 : Hid (∀ W : World, Calls Try.prog 29 #[.agg (zc z1.n z1.none z1.D), .int .i64 (-1), .int .i64 (m : Int), .int .i64 (-lo)] W (Ret W (.agg z2.c))) := b2
  have hgt : ¬ (hi < lo) := by omega
  show Calls Try.prog 51 #[.agg (zc z.n z.none z.D), .int .i64 (m : Int), .agg (ic lo hi)] w _
  rw [hno]
  clear b1 b2 ok1 e1 e2 h hno
  go_enter Try.func51, Try.ntmps51
  go_wp2_with (first
    | (refine wpList_box_zone rfl 38 _ rfl _ _ _ rfl ?_; intro W1 hz hb hs1)
    | (refine box_row rfl 53 _ rfl _ rfl ?_; intro W2 hi' hb2 hs2; rw [hs1.out] at hi' hb2 hs2; rw [hs1.out]; have hz := hz.below hb2 (by omega); have hb := hb.trans (hb2.mono (by omega)); clear hb2)
    | (refine wpList_alloc_zone rfl 38 rfl rz ?_; intro W3 hz1 hb3 hs3; rw [hs2.out] at hz1 hb3 hs3; rw [hs2.out]; have hz := hz.below hb3 (by omega); have hi' := hi'.below hb3 (by omega); have hb := hb.trans (hb3.mono (by omega)); have hbc := hz.b_cell; have c0 : W3.cell? ⟨w.heap.size + 1, 0, none⟩ = some (.int .i64 lo) := hi'.cell' 0 rfl; have c1 : W3.cell? ⟨w.heap.size + 1, 1, none⟩ = some (.int .i64 hi) := hi'.cell' 1 rfl; clear hb3)
    | fail)
  refine head0 10 (by kernel_rfl) (by kernel_rfl) (by kernel_rfl) (by kernel_rfl) ?_
  simp only [List.take_succ_cons, List.take_zero, List.drop_succ_cons, List.drop_zero]
  (refine o_start ?_; (iterate 10 (first | (refine o_skip rfl rfl rfl ?_) | (refine o_have rfl fun hw => ?_; (first | (refine o_move hw.out _ rfl rfl rfl rfl ?_) | (refine o_pickT hw.out _ _ _ rfl rfl rfl rfl rfl ?_) | (refine o_pickF hw.out _ _ _ rfl rfl rfl rfl rfl ?_) | (refine o_load_r hw.out _ rfl rfl hz rfl rfl ?_) | (refine o_loadc hw.out _ _ rfl rfl c0 rfl rfl (by first | exact Try.underlying3 | exact Try.underlying4) rfl ?_) | (refine o_loadc hw.out _ _ rfl rfl c1 rfl rfl (by first | exact Try.underlying3 | exact Try.underlying4) rfl ?_) | (refine o_bin hw.out _ _ _ _ _ rfl rfl rfl rfl rfl (v := .int .i64 (-lo)) (fun W => by go_simp; exact IntWalk.i64_in _ (by omega)) ?_) | (refine o_bin hw.out _ _ _ _ _ rfl rfl rfl rfl rfl (fun W => by go_simp; first | done | rfl) ?_) | (refine o_un hw.out _ _ _ rfl rfl rfl rfl (fun W => by go_simp; first | done | rfl) ?_) | (refine o_field hw.out _ _ _ rfl rfl rfl rfl (fun W => by go_simp; first | done | rfl) ?_) | (refine o_index hw.out _ _ _ rfl rfl rfl rfl rfl (fun W => by go_simp; first | done | rfl) ?_) | (refine o_conv hw.out _ _ _ rfl rfl rfl rfl (fun W => by go_simp; first | done | rfl) ?_) | (refine o_call hw.out _ _ _ rfl rfl (fun W hW => B1.out W) (by with_reducible rfl) (by with_reducible rfl) rfl rfl (fun ρ W hρ => by go_simp; done) ?_) | (refine o_call hw.out _ _ _ rfl rfl (fun W hW => B2.out W) (by with_reducible rfl) (by with_reducible rfl) rfl rfl (fun ρ W hρ => by go_simp; done) ?_)); clear hw))); refine o_end ?_; simp only [app, List.set_cons_succ, List.set_cons_zero])
  intro w3 hb3
  have hz1 := hz1.on hb3
  have hb := hb.trans (hb3.mono hb.size)
  clear hb3 hz hi' c0 c1 hbc
  go_wp2_with (first
    | (refine store_r rfl _ _ rfl rfl rfl hz1 ?_; intro W4 hz4 hg4 hs4)
    | fail)
  exact bodyPost_ret (results_r rfl (by simp [Act.put]) hz4) rfl ⟨rfl, below_only hb hg4 hb.size (by omega)⟩
end Go.Proofs.Ytgnkhncogfppgaa
