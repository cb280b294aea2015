import Derived.Test.YtgnkhncogfppgaaN5
namespace Go.Proofs.Ytgnkhncogfppgaa
open Go.RowKit
section
variable {ops : Array Oper} {rest : List Oper} {o : Oper} {w0 : World} {L : Act → Prop} {l : List Value} {ov : List (Nat × Value)} {ds : List Deferred} {d : Nat}
theorem o_build8 (hw : Region.wanted o (yO ops l ov) = true) (x y : Operand) (ho : o.op = .build 53 #[(0, x), (1, y)]) {a b : Int} (hx : evalO l ov x = some (.int .i64 a)) (hy : evalO l ov y = some (.int .i64 b)) (hd : o.dst = some d) (hl : Nat.blt d l.length = true)
    (h : LX Try.prog ops w0 L rest l ((d, .agg (ic a b)) :: ov) ds) : LX Try.prog ops w0 L (o :: rest) l ov ds :=
  fun hst => lex_pure (by rw [yO_eq hst]; exact hw) (by simp [isNew, ho]) _ (fun W => by
    unfold execOp
    simp only [ho, List.map_toArray, List.map_cons, List.map_nil, evalL_eval ((evalO_L hst x).trans hx), evalL_eval ((evalO_L hst y).trans hy), Sem.run_bind, build_8, Sem.run_pure, Result.andThen_ok]) (o_put hd hl h hst)
end
set_option maxRecDepth 100000 in
set_option maxHeartbeats 1000000 in
theorem ritv_any {z : Zn} (h : OKZ z) (hno : z.none = false) {m : Nat} (hm : m < z.n) (w : World) : Calls Try.prog 92 #[.agg z.c, .int .i64 (m : Int)] w (Ret w (.agg (ic (-(z.D 0 (m + 1))) (z.D (m + 1) 0)))) := by
  have h6 := h.n
  have b1 := h.bounds hno 0 (m + 1) (by omega) (by omega)
  show Calls Try.prog 92 #[.agg (zc z.n z.none z.D), .int .i64 (m : Int)] w _
  rw [hno]
  clear h hno
  have e1 : (0 : Int) ≤ (m : Int) + 1 := by omega
  have e2 : ((m : Int) + 1).toNat = m + 1 := by omega
  have e3 : (m : Int) + 1 < 7 := by omega
  go_enter Try.func92, Try.ntmps92
  go_wp2_with (first
    | (refine wpList_box_zone rfl 38 _ rfl _ _ _ rfl ?_; intro W1 hz hb hs1)
    | (refine alloc_row rfl 53 rfl _ iz8 ?_; intro W2 hz1 hb1 hs2; rw [hs1.out] at hz1 hb1 hs2; have hz := hz.below hb1 (by omega); have hbc := hz.b_cell; have hb := hb.trans (hb1.mono (by omega)); rw [hs1.out]; clear hb1)
    | fail)
  have d1 := hz.cell 0 (m + 1) (by omega) (by omega)
  have d2 := hz.cell (m + 1) 0 (by omega) (by omega)
  simp only [Nat.zero_mul, Nat.add_zero] at d1 d2
  refine head0 14 (by kernel_rfl) (by kernel_rfl) (by kernel_rfl) (by kernel_rfl) ?_
  simp only [List.take_succ_cons, List.take_zero, List.drop_succ_cons, List.drop_zero]
  (refine o_start ?_; (iterate 14 (first | (refine o_skip rfl rfl rfl ?_) | (refine o_have rfl fun hw => ?_; (first | (refine o_move hw.out _ rfl rfl rfl rfl ?_) | (refine o_pickT hw.out _ _ _ rfl rfl rfl rfl rfl ?_) | (refine o_pickF hw.out _ _ _ rfl rfl rfl rfl rfl ?_) | (refine o_loadc hw.out _ _ rfl rfl d1 rfl rfl (by first | exact Try.underlying3 | exact Try.underlying4) rfl ?_) | (refine o_loadc hw.out _ _ rfl rfl d2 rfl rfl (by first | exact Try.underlying3 | exact Try.underlying4) rfl ?_) | (refine o_bin hw.out _ _ _ _ _ rfl rfl rfl rfl rfl (v := .int .i64 ((m : Int) + 1)) (fun W => by go_simp; exact IntWalk.i64_in _ (by omega)) ?_) | (refine o_bin hw.out _ _ _ _ _ rfl rfl rfl rfl rfl (v := .int .i64 (-z.D 0 (m + 1))) (fun W => by go_simp; exact IntWalk.i64_in _ (by omega)) ?_) | (refine o_build8 hw.out _ _ rfl rfl rfl rfl rfl ?_) | (refine o_bin hw.out _ _ _ _ _ rfl rfl rfl rfl rfl (fun W => by go_simp; first | done | rfl) ?_) | (refine o_un hw.out _ _ _ rfl rfl rfl rfl (fun W => by go_simp; first | done | rfl) ?_) | (refine o_field hw.out _ _ _ rfl rfl rfl rfl (fun W => by go_simp; first | done | rfl) ?_) | (refine o_index hw.out _ _ _ rfl rfl rfl rfl rfl (fun W => by go_simp; first | done | rfl) ?_) | (refine o_conv hw.out _ _ _ rfl rfl rfl rfl (fun W => by go_simp; first | done | rfl) ?_)); clear hw))); refine o_end ?_; simp only [app, List.set_cons_succ, List.set_cons_zero])
  intro w3 hb3
  have hz1 := hz1.on hb3
  have hb := hb.trans (hb3.mono hb.size)
  clear hb3 hz d1 d2 hbc
  go_wp2_with (first
    | (refine store_8 rfl _ _ rfl rfl rfl hz1 ?_; intro W4 hz4 hg4 hs4)
    | fail)
  exact bodyPost_ret (results_8 rfl (by simp [Act.put]) hz4) rfl ⟨rfl, below_only hb hg4 hb.size (by omega)⟩
end Go.Proofs.Ytgnkhncogfppgaa
