import Derived.Test.YtgnkhncogfppgaaUF
import Derived.Test.YtgnkhncogfppgaaUA
namespace Go.Proofs.Ytgnkhncogfppgaa
open Go.RowKit
/-! law10.like: of a Num that tells a zone. -/
theorem run_neq_rs (n : Int) (b : Bool) (D : Mat) (x y : Operand) (W : World) : (do eqGuard .neq 38 x y (.agg (zc n b D)) (.agg (zc n b D)); binOp .neq 38 (.agg (zc n b D)) (.agg (zc n b D)) : Sem Value).run Try.prog W = .ok (.bool false) W := by
  have h : zeq n b D n b D = true := zeq_iff.2 rfl
  go_simp
section
variable {ops : Array Oper} {rest : List Oper} {o : Oper} {w0 : World} {L : Act → Prop} {l : List Value} {ov : List (Nat × Value)} {ds : List Deferred} {d : Nat}
theorem o_buildi (hw : Region.wanted o (yO ops l ov) = true) (x y : Operand) (ho : o.op = .build 32 #[(0, x), (1, y)]) {a b : Int} (hx : evalO l ov x = some (.int .i64 a)) (hy : evalO l ov y = some (.int .i64 b)) (hd : o.dst = some d) (hl : Nat.blt d l.length = true)
    (h : LX Try.prog ops w0 L rest l ((d, .agg (ic a b)) :: ov) ds) : LX Try.prog ops w0 L (o :: rest) l ov ds :=
  fun hst => lex_pure (by rw [yO_eq hst]; exact hw) (by simp [isNew, ho]) _ (fun W => by
    unfold execOp
    simp only [ho, List.map_toArray, List.map_cons, List.map_nil, evalL_eval ((evalO_L hst x).trans hx), evalL_eval ((evalO_L hst y).trans hy), Sem.run_bind, build_i, Sem.run_pure, Result.andThen_ok]) (o_put hd hl h hst)
end
set_option maxRecDepth 100000 in
set_option maxHeartbeats 4000000 in
theorem like_true {z : Zn} (h : OKZ z) {sl : Value} {w : World} (hs : SlT w sl z.n (itvs z)) : Calls Try.prog 52 #[.agg (nz z sl), .agg z.c] w (Ret w (.bool true)) := by
  have HF : Hid (∀ W : World, Calls Try.prog 30 #[.agg (zc z.n z.none z.D)] W (Ret W (.agg (zc z.n z.none z.D)))) := fun W => from_any z W
  have HR : Hid (∀ W : World, Below w.heap.size w W → Calls Try.prog 41 #[.agg (nc z.none sl z.n z.none z.D)] W (Ret W (.bool true))) := fun W hW => num_right h (hs.on hW)
  have HI : Hid (∀ (i : Nat) (W : World), i < z.n → Calls Try.prog 92 #[.agg (zc z.n z.none z.D), .int .i64 (i : Int)] W (Ret W (.agg (ic (itvs z i).1 (itvs z i).2)))) := fun i W hi => ritv_all h hi W
  have hn6 := h.n
  show Calls Try.prog 52 #[.agg (nc z.none sl z.n z.none z.D), .agg (zc z.n z.none z.D)] w _
  obtain ⟨n, hnn⟩ : ∃ n, z.n = n := ⟨_, rfl⟩
  rw [hnn] at hs HF HR HI hn6 ⊢
  obtain ⟨ad, cap, rfl, hc⟩ := hs
  have HC := Lib.hid hc
  clear hc hnn h
  generalize itvs z = V at *
  generalize z.none = zb at *
  generalize z.D = D at *
  have q0 : (0 : Int) ≤ n := by omega
  go_enter Try.func52, Try.ntmps52
  go_wp2_with (first
    | (refine box_row rfl 57 _ rfl _ rfl ?_; intro W1 hv hb hs1)
    | (refine wpList_box_zone rfl 38 _ rfl _ _ _ rfl ?_; intro W2 hz hb2 hs2; rw [hs1.out] at hz hb2 hs2; rw [hs1.out]; have hv := hv.below hb2 (by omega); have hb := hb.trans (hb2.mono (by omega)); clear hb2)
    | fail)
  have c0 := hv.cell 0
  rw [nc_b] at c0
  have c1 := hv.cell 1
  rw [nc_sl] at c1
  have d0 := hz.n_cell
  have d1 := hz.b_cell
  refine head0 24 (by kernel_rfl) (by kernel_rfl) (by kernel_rfl) (by kernel_rfl) ?_
  simp only [List.take_succ_cons, List.take_zero, List.drop_succ_cons, List.drop_zero]
  (refine o_start ?_; (iterate 24 (first | (refine o_skip rfl rfl rfl ?_) | (refine o_have rfl fun hw => ?_; (first | (refine o_move hw.out _ rfl rfl rfl rfl ?_) | (refine o_pickT hw.out _ _ _ rfl rfl rfl rfl rfl ?_) | (refine o_pickF hw.out _ _ _ rfl rfl rfl rfl rfl ?_) | (refine o_bin hw.out _ _ _ _ _ rfl rfl rfl rfl rfl (fun W => run_neq_rs _ _ _ _ _ W) ?_) | (refine o_load_nz hw.out _ rfl rfl hv rfl rfl ?_) | (refine o_load_r hw.out _ rfl rfl hz rfl rfl ?_) | (refine o_load_n hw.out _ rfl rfl hv rfl rfl ?_) | (refine o_loadc hw.out _ _ rfl rfl c0 rfl rfl (by first | exact Try.underlying3 | exact Try.underlying4) rfl ?_) | (refine o_loadc hw.out _ _ rfl rfl d0 rfl rfl (by first | exact Try.underlying3 | exact Try.underlying4) rfl ?_) | (refine o_loadc hw.out _ _ rfl rfl d1 rfl rfl (by first | exact Try.underlying3 | exact Try.underlying4) rfl ?_) | (refine o_loadc hw.out _ _ rfl rfl c1 rfl rfl Try.underlying55 rfl ?_) | (refine o_len hw.out _ rfl rfl rfl rfl ?_) | (refine o_bin hw.out _ _ _ _ _ rfl rfl rfl rfl rfl (fun W => by go_simp; first | done | rfl) ?_) | (refine o_un hw.out _ _ _ rfl rfl rfl rfl (fun W => by go_simp; first | done | rfl) ?_) | (refine o_field hw.out _ _ _ rfl rfl rfl rfl (fun W => by go_simp; first | done | rfl) ?_) | (refine o_index hw.out _ _ _ rfl rfl rfl rfl rfl (fun W => by go_simp; first | done | rfl) ?_) | (refine o_conv hw.out _ _ _ rfl rfl rfl rfl (fun W => by go_simp; first | done | rfl) ?_) | (refine o_call hw.out _ _ _ rfl rfl (fun W hW => HF.out W) (by with_reducible rfl) (by with_reducible rfl) rfl rfl (fun ρ W hρ => by go_simp; done) ?_) | (refine o_call hw.out _ _ _ rfl rfl (fun W hW => HR.out W (hb.trans (hW.mono hb.size))) (by with_reducible rfl) (by with_reducible rfl) rfl rfl (fun ρ W hρ => by go_simp; done) ?_)); clear hw))); refine o_end ?_; simp only [app, List.set_cons_succ, List.set_cons_zero])
  intro w3 hb3
  have HV := Lib.hid (hv.on hb3)
  have HZ := Lib.hid (hz.on hb3)
  have HB := Lib.hid (hb.trans (hb3.mono hb.size))
  have HSZ := Lib.hid (Nat.le_trans (Nat.le_of_eq hs2.out.symm) hb3.size)
  clear c0 c1 d0 d1 hb3 hv hz hb HF HR hs1 hs2
  go_wp2
  go_loopw [5] (fun i_ wr => ∃ i : Nat, i ≤ n ∧ i_ = .int .i64 (i : Int) ∧ Hid (Below w.heap.size w wr) ∧ Hid (w.heap.size + 1 + 1 ≤ wr.heap.size) ∧ Hid (RowAt 57 wr w.heap.size (nc zb (.slice ad n cap) n zb D)) ∧ Hid (ZAt 38 wr (w.heap.size + 1) n zb D)) (fun i _ => 8 - (intOf i).toNat)
  case atStart => exact ⟨0, by omega, rfl, HB, HSZ, HV, HZ⟩
  case round =>
    clear HB HSZ HV HZ
    obtain ⟨i, hi, rfl, HB, HSZ, HV, HZ⟩ := hrel
    have d0 := HZ.out.n_cell
    by_cases hlt : i < n
    · obtain ⟨g1, rfl, a1⟩ := HC.out i hlt
      have IX : Hid (∀ W, (Instr.indexAt 55 (.slice (some ⟨g1, 0, none⟩) n cap) (.int .i64 (i : Int))).run Try.prog W = .ok (.pointer (some ⟨g1, i * 2, none⟩)) W) := fun W => run_index_t (k := i) rfl hlt W
      have hz := HZ.out
      have hb := HB.out
      have A1 := Lib.hid a1
      clear a1
      go_wp2_with (first
        | (refine load_r rfl _ rfl rfl hz ?_)
        | (go_at_call 92; ((with_reducible refine (HI.out i _ hlt).mono ?_); rintro e W5 ⟨rfl, hb5⟩; have HV := Lib.hid (HV.out.on hb5); have hz := hz.on hb5; have HSZ := Lib.hid (Nat.le_trans HSZ.out hb5.size); have hb := hb.trans (hb5.mono hb.size); clear hb5 d0))
        | (refine alloc_row rfl 53 rfl _ iz8 ?_; intro W6 hr hb6 hs6; have hg := HSZ.out; have HV := Lib.hid (HV.out.on hb6); have hz := hz.on hb6; have HSZ := Lib.hid (Nat.le_trans HSZ.out hb6.size); have hb := hb.trans (hb6.mono hb.size); clear hb6 hs6)
        | (refine store_8 rfl _ _ rfl rfl rfl hr ?_; intro W7 hr7 hg7 hs7; have HV := Lib.hid (HV.out.only hg7 (by omega)); have hz := hz.only hg7 (by omega); have HSZ := Lib.hid (Nat.le_trans HSZ.out hg7.size); have hb := below_only hb hg7 hb.size (by omega); clear hr hg7 hs7)
        | fail)
      have B1 := Lib.hid (And.intro ((hb.cell (p := ⟨g1, i * 2, none⟩) (block_lt_of_cell A1.out.1)).trans A1.out.1) ((hb.cell (p := ⟨g1, i * 2 + 1, none⟩) (block_lt_of_cell A1.out.2)).trans A1.out.2))
      have c1 := HV.out.cell 1
      rw [nc_sl] at c1
      have f0 := hr7.cell' 0 rfl
      have f1 := hr7.cell' 1 rfl
      have C1 := Lib.hid c1
      have F0 := Lib.hid f0
      have F1 := Lib.hid f1
      clear c1 f0 f1 hg A1
      refine head0 10 (by kernel_rfl) (by kernel_rfl) (by kernel_rfl) (by kernel_rfl) ?_
      simp only [List.take_succ_cons, List.take_zero, List.drop_succ_cons, List.drop_zero]
      (refine o_start ?_; (iterate 10 (first | (refine o_skip rfl rfl rfl ?_) | (refine o_have rfl fun hw => ?_; (first | (refine o_move hw.out _ rfl rfl rfl rfl ?_) | (refine o_pickT hw.out _ _ _ rfl rfl rfl rfl rfl ?_) | (refine o_pickF hw.out _ _ _ rfl rfl rfl rfl rfl ?_) | (refine o_loadc hw.out _ _ rfl rfl C1.out rfl rfl Try.underlying55 rfl ?_) | (refine o_loadc hw.out _ _ rfl rfl F0.out rfl rfl (by first | exact Try.underlying3 | exact Try.underlying4) rfl ?_) | (refine o_loadc hw.out _ _ rfl rfl F1.out rfl rfl (by first | exact Try.underlying3 | exact Try.underlying4) rfl ?_) | (refine o_index hw.out _ _ _ rfl rfl rfl rfl rfl (fun W => IX.out W) ?_) | (refine o_load_two hw.out _ rfl rfl B1.out rfl rfl ?_) | (refine o_buildi hw.out _ _ rfl rfl rfl rfl rfl ?_) | (refine o_bin hw.out _ _ _ _ _ rfl rfl rfl rfl rfl (fun W => by go_simp; first | done | rfl) ?_) | (refine o_un hw.out _ _ _ rfl rfl rfl rfl (fun W => by go_simp; first | done | rfl) ?_) | (refine o_field hw.out _ _ _ rfl rfl rfl rfl (fun W => by go_simp; first | done | rfl) ?_) | (refine o_index hw.out _ _ _ rfl rfl rfl rfl rfl (fun W => by go_simp; first | done | rfl) ?_) | (refine o_conv hw.out _ _ _ rfl rfl rfl rfl (fun W => by go_simp; first | done | rfl) ?_)); clear hw))); refine o_end ?_; simp only [app, List.set_cons_succ, List.set_cons_zero])
      intro w4 hb4
      have HB := Lib.hid (hb.trans (hb4.mono hb.size))
      have HSZ := Lib.hid (Nat.le_trans HSZ.out hb4.size)
      have HV := Lib.hid (HV.out.on hb4)
      have HZ := Lib.hid (hz.on hb4)
      clear hb4 B1 C1 F0 F1 IX hb hz hr7
      go_wp2
      go_roundw
      case rel => exact ⟨i + 1, by omega, by go_num, HB, HSZ, HV, HZ⟩
      case measure => simp [intOf]; omega
    · obtain rfl : i = n := by omega
      go_wp2
      go_ret
      exact ⟨rfl, HB.out⟩
end Go.Proofs.Ytgnkhncogfppgaa
