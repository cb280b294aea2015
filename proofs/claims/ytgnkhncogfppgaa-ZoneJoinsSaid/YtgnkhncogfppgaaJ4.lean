import Derived.Test.YtgnkhncogfppgaaJ3
namespace Go.Proofs.Ytgnkhncogfppgaa
open Go.RowKit
set_option maxRecDepth 100000 in
set_option maxHeartbeats 8000000 in
theorem rwiden_any {A B : Zn} (ha : OKZ A) (hb : OKZ B) (h : A.n = B.n) (w : World) : Calls Try.prog 60 #[.agg A.c, .agg B.c] w (Ret w (.agg (widZ A B).c)) := by
  rw [rwid_eq ha hb h]
  have hwi : ∀ W : World, Calls Try.prog 61 #[.agg B.c, .agg A.c] W (Ret W (.bool (withinB B A))) := fun W => rwithin_any hb ha h.symm W
  show Calls Try.prog 60 #[.agg (zc A.n A.none A.D), .agg (zc B.n B.none B.D)] w _
  cases hn : A.none with
  | true =>
    rw [if_pos rfl]
    clear ha hb hwi h hn
    go_enter Try.func60, Try.ntmps60
    go_wp2_with (first
      | (have _t := hz; refine wpList_box_zone rfl 38 _ rfl _ _ _ rfl ?_; intro W2 hq hb2 hs2; rw [hs.out] at hq hb2 hs2; have hz := hz.below hb2 (by omega); have hbc := hz.b_cell; have hnc := hz.n_cell; have hqc := hq.b_cell; have hqn := hq.n_cell; have hb := hb.trans (hb2.mono (by omega)); rw [hs.out]; clear hb2 hs _t)
      | (refine wpList_box_zone rfl 38 _ rfl _ _ _ rfl ?_; intro W hz hb hs; have hbc := hz.b_cell; have hnc := hz.n_cell)
      | (have _t := hs2; refine wpList_alloc_zone rfl 38 rfl rz ?_; intro W3 hz1 hb3 hs3; rw [hs2.out] at hz1 hb3 hs3; rw [hs2.out]; have hz := hz.below hb3 (by omega); have hq := hq.below hb3 (by omega); have hqc := hq.b_cell; have hbc := hz.b_cell; have hnc := hz.n_cell; have hb := hb.trans (hb3.mono (by omega)); clear hb3 hs2 _t)
      | (refine load_r rfl _ rfl rfl hq ?_)
      | (refine store_r rfl _ _ rfl rfl rfl hz1 ?_; intro W4 hz4 hg4 hs4)
      | fail)
    exact bodyPost_ret (results_r rfl (by simp [Act.put]) hz4) rfl ⟨rfl, below_only hb hg4 hb.size (by omega)⟩
  | false =>
    rw [if_neg (by simp)]
    by_cases hin : withinB B A = true
    · rw [if_pos hin]
      rw [hin] at hwi
      have HWI : Hid (∀ W : World, Calls Try.prog 61 #[.agg (zc B.n B.none B.D), .agg (zc A.n A.none A.D)] W (Ret W (.bool true))) := hwi
      rw [hn] at HWI
      rw [Zn.c, hn]
      clear ha hb hwi h hn hin
      go_enter Try.func60, Try.ntmps60
      go_wp2_with (first
        | (have _t := hz; refine wpList_box_zone rfl 38 _ rfl _ _ _ rfl ?_; intro W2 hq hb2 hs2; rw [hs.out] at hq hb2 hs2; have hz := hz.below hb2 (by omega); have hbc := hz.b_cell; have hnc := hz.n_cell; have hqc := hq.b_cell; have hqn := hq.n_cell; have hb := hb.trans (hb2.mono (by omega)); rw [hs.out]; clear hb2 hs _t)
        | (refine wpList_box_zone rfl 38 _ rfl _ _ _ rfl ?_; intro W hz hb hs; have hbc := hz.b_cell; have hnc := hz.n_cell)
        | (have _t := hs2; refine wpList_alloc_zone rfl 38 rfl rz ?_; intro W3 hz1 hb3 hs3; rw [hs2.out] at hz1 hb3 hs3; rw [hs2.out]; have hz := hz.below hb3 (by omega); have hq := hq.below hb3 (by omega); have hqc := hq.b_cell; have hbc := hz.b_cell; have hnc := hz.n_cell; have hb := hb.trans (hb3.mono (by omega)); clear hb3 hs2 _t)
        | (refine load_r rfl _ rfl rfl hz ?_)
        | (refine load_r rfl _ rfl rfl hq ?_)
        | (go_at_call 61; ((with_reducible refine (HWI.out _).mono ?_); rintro e W5 ⟨rfl, hb3⟩; have hz := hz.on hb3; have hz1 := hz1.on hb3; have hb := hb.trans (hb3.mono hb.size); clear hb3))
        | (refine store_r rfl _ _ rfl rfl rfl hz1 ?_; intro W4 hz4 hg4 hs4)
        | fail)
      exact bodyPost_ret (results_r rfl (by simp [Act.put]) hz4) rfl ⟨rfl, below_only hb hg4 hb.size (by omega)⟩
    · rw [if_neg hin]
      rw [within_not hin] at hwi
      have HWI : Hid (∀ W : World, Calls Try.prog 61 #[.agg (zc B.n B.none B.D), .agg (zc A.n A.none A.D)] W (Ret W (.bool false))) := hwi
      obtain ⟨n, hnn⟩ : ∃ n, A.n = n := ⟨_, rfl⟩
      have hn6 : n ≤ 6 := by have := ha.n; omega
      have hbn : B.n = n := by rw [← h]; exact hnn
      have HSTD : Hid (∀ x, x ≤ n → OKZ (rwZ A B x) ∧ (rwZ A B x).n = n) := fun x hx => by
        have := rw_std (b := B) ha hn x (by omega)
        exact ⟨this.1, by rw [this.n]; exact hnn⟩
      have HBD1 : Hid (∀ i, 1 ≤ i → i ≤ n → -4294967296 ≤ A.D i 0 ∧ -4294967296 ≤ A.D 0 i) := fun i h1 h2 => ⟨(ha.bounds hn i 0 (by omega) (by omega)).1, (ha.bounds hn 0 i (by omega) (by omega)).1⟩
      have HTOP : Hid (∀ W : World, Calls Try.prog 27 #[.int .i64 (n : Int)] W (Ret W (.agg (zc n (rwZ A B 0).none (rwZ A B 0).D)))) := fun W => by
        have := rtop_any n hn6 W
        rw [Zn.c, topZ_n] at this
        show Calls Try.prog 27 _ _ (Ret W (.agg (zc n (topZ A.n).none (topZ A.n).D)))
        rw [hnn]
        exact this
      rw [hn] at HWI
      rw [hnn, hbn] at HWI ⊢
      have hfn : (rwZ A B n).n = n := (HSTD.out n (Nat.le_refl _)).2
      rw [show (rwZ A B n).c = zc n (rwZ A B n).none (rwZ A B n).D by rw [Zn.c, hfn]]
      clear ha hb hwi h hn hin hnn hbn hfn
      obtain ⟨D, hD⟩ : ∃ D, A.D = D := ⟨_, rfl⟩
      obtain ⟨E, hE⟩ : ∃ E, B.D = E := ⟨_, rfl⟩
      have HAD := Lib.hid hD
      have HBD := Lib.hid hE
      rw [hD, hE] at HWI
      rw [hD] at HBD1
      rw [hD, hE]
      clear hD hE
      generalize B.none = bn at *
      go_enter Try.func60, Try.ntmps60
      go_wp2_with (first
        | (have _t := hz; refine wpList_box_zone rfl 38 _ rfl _ _ _ rfl ?_; intro W2 hq hb2 hs2; rw [hs.out] at hq hb2 hs2; have hz := hz.below hb2 (by omega); have hbc := hz.b_cell; have hnc := hz.n_cell; have hqc := hq.b_cell; have hqn := hq.n_cell; have hb := hb.trans (hb2.mono (by omega)); rw [hs.out]; clear hb2 hs _t)
        | (refine wpList_box_zone rfl 38 _ rfl _ _ _ rfl ?_; intro W hz hb hs; have hbc := hz.b_cell; have hnc := hz.n_cell)
        | (have _t := hs2; refine wpList_alloc_zone rfl 38 rfl rz ?_; intro W3 hz1 hb3 hs3; rw [hs2.out] at hz1 hb3 hs3; rw [hs2.out]; have hz := hz.below hb3 (by omega); have hq := hq.below hb3 (by omega); have hqc := hq.b_cell; have hbc := hz.b_cell; have hnc := hz.n_cell; have hb := hb.trans (hb3.mono (by omega)); clear hb3 hs2 _t)
        | (refine load_r rfl _ rfl rfl hz ?_)
        | (refine load_r rfl _ rfl rfl hq ?_)
        | (go_at_call 61; ((with_reducible refine (HWI.out _).mono ?_); rintro e W5 ⟨rfl, hb3⟩; have hz := hz.on hb3; have hq := hq.on hb3; have hnc := hz.n_cell; have hz1 := hz1.on hb3; have hb := hb.trans (hb3.mono hb.size); clear hb3))
        | (go_at_call 27; ((with_reducible refine (HTOP.out _).mono ?_); rintro e W6 ⟨rfl, hb3⟩; have hl0 := hz1.lt; have hl1 := hb3.size; have hz := hz.on hb3; have hq := hq.on hb3; have hz1 := hz1.on hb3; have hb := hb.trans (hb3.mono hb.size); clear hb3))
        | (have _t := hl1; refine wpList_alloc_zone rfl 38 rfl rz ?_; intro W7 ho hb4 hs4; have hz := hz.on hb4; have hq := hq.on hb4; have hz1 := hz1.on hb4; have hb := hb.trans (hb4.mono hb.size); clear hb4 _t)
        | (refine store_r rfl _ _ rfl rfl rfl ho ?_; intro W8 ho8 hg8 hs8; have hz := hz.only hg8 (by omega); have hq := hq.only hg8 (by omega); have hz1 := hz1.only hg8 (by omega); have hb := below_only hb hg8 hb.size (by omega); clear ho; have ho := ho8; clear ho8 hg8 hs8)
        | fail)
      have hgg : w.heap.size + 1 + 1 < W6.heap.size := by omega
      generalize W6.heap.size = g at *
      have HB := Lib.hid hb
      have HZ := Lib.hid hz
      have HQ := Lib.hid hq
      have HZ1 := Lib.hid hz1
      have HO := Lib.hid ho
      clear hb hz hq hz1 ho hl0 hl1 HWI HTOP hbc hnc
      go_loopw [6] (fun i_ wr => ∃ x : Nat, x ≤ n ∧ i_ = .int .i64 (x : Int) ∧ Hid (Below w.heap.size w wr) ∧ Hid (ZAt 38 wr w.heap.size n false D) ∧ Hid (ZAt 38 wr (w.heap.size + 1) n bn E) ∧ Hid (ZAt 38 wr (w.heap.size + 1 + 1) 0 false fun _ _ => 0) ∧ Hid (ZAt 38 wr g n (rwZ A B x).none (rwZ A B x).D)) (fun i _ => 9 - (intOf i).toNat)
      case atStart => exact ⟨0, by omega, rfl, HB, HZ, HQ, HZ1, HO⟩
      case round =>
        clear HB HZ HQ HZ1 HO
        obtain ⟨x, hx, rfl, HB, HZ, HQ, HZ1, HO⟩ := hrel
        have hz := HZ.out
        have hq := HQ.out
        have hz1 := HZ1.out
        have ho := HO.out
        have hb := HB.out
        have hnc := hz.n_cell
        clear HB HZ HQ HZ1 HO
        by_cases hlt : x < n
        · have ca1 := hz.cell (x + 1) 0 (by omega) (by omega)
          have ca2 := hz.cell 0 (x + 1) (by omega) (by omega)
          have cb1 := hq.cell (x + 1) 0 (by omega) (by omega)
          have cb2 := hq.cell 0 (x + 1) (by omega) (by omega)
          simp only [Nat.zero_mul, Nat.add_zero] at ca1 ca2 cb1 cb2
          have hzl := hz.lt
          have hql := hq.lt
          have e1 : (0 : Int) ≤ (x : Int) + 1 := by omega
          have e2 : ((x : Int) + 1).toNat = x + 1 := by omega
          have e3 : (x : Int) + 1 < 7 := by omega
          obtain ⟨bd1, bd2⟩ := HBD1.out (x + 1) (by omega) (by omega)
          have hstd := HSTD.out x (by omega)
          obtain ⟨Z, hZ⟩ : ∃ Z, rwZ A B x = Z := ⟨_, rfl⟩
          have HZE := Lib.hid hZ
          rw [hZ] at hstd ho
          have HZK := Lib.hid hstd.1
          have HZN := Lib.hid hstd.2
          clear hZ hstd
          go_wp2
          clear hnc
          by_cases c1 : E (x + 1) 0 ≤ D (x + 1) 0
          · by_cases c2 : E 0 (x + 1) ≤ D 0 (x + 1)
            · obtain ⟨z1, hz1e⟩ : ∃ z1, z1 = boundZ Z (x : Int) (-1) (D (x + 1) 0) := ⟨_, rfl⟩
              have HB1 : Hid (∀ W : World, Calls Try.prog 29 #[.agg (zc n Z.none Z.D), .int .i64 (x : Int), .int .i64 (-1), .int .i64 (D (x + 1) 0)] W (Ret W (.agg (zc n z1.none z1.D)))) := fun W => by
                have := rbound_any HZK.out (i := x + 1) (j := 0) (by rw [HZN.out]; omega) (by omega) (by omega) (d := D (x + 1) 0) (by omega) W
                rw [show ((x + 1 : Nat) : Int) - 1 = x by omega, show ((0 : Nat) : Int) - 1 = -1 by omega, ← hz1e, Zn.c, Zn.c, HZN.out, show z1.n = n by rw [hz1e, boundZ_n]; exact HZN.out] at this
                exact this
              have HZK1 : Hid (OKZ z1) := by
                have := bound_ok HZK.out (i := x + 1) (j := 0) (by rw [HZN.out]; omega) (by omega) (by omega) (d := D (x + 1) 0) (by omega)
                rw [show ((x + 1 : Nat) : Int) - 1 = x by omega, show ((0 : Nat) : Int) - 1 = -1 by omega, ← hz1e] at this
                exact this
              have HZN1 : Hid (z1.n = n) := by rw [hz1e]; show (boundZ Z _ _ _).n = n; rw [boundZ_n]; exact HZN.out
              obtain ⟨z2, hz2e⟩ : ∃ z2, z2 = boundZ z1 (-1) (x : Int) (D 0 (x + 1)) := ⟨_, rfl⟩
              have HB2 : Hid (∀ W : World, Calls Try.prog 29 #[.agg (zc n z1.none z1.D), .int .i64 (-1), .int .i64 (x : Int), .int .i64 (D 0 (x + 1))] W (Ret W (.agg (zc n z2.none z2.D)))) := fun W => by
                have := rbound_any HZK1.out (i := 0) (j := x + 1) (by omega) (by rw [HZN1.out]; omega) (by omega) (d := D 0 (x + 1)) (by omega) W
                rw [show ((x + 1 : Nat) : Int) - 1 = x by omega, show ((0 : Nat) : Int) - 1 = -1 by omega, ← hz2e, Zn.c, Zn.c, HZN1.out, show z2.n = n by rw [hz2e, boundZ_n]; exact HZN1.out] at this
                exact this
              have HNX : Hid (rwZ A B (x + 1) = z2) := by
                show rwS A B x (rwZ A B x) = z2
                rw [HZE.out, hz2e, hz1e]
                unfold rwS
                rw [HAD.out, HBD.out]
                simp only [if_pos c1, if_pos c2]
              clear hz1e
              clear hz2e
              clear HZK HZN HZE HZK1 HZN1
              go_wp2
              refine head0 12 (by kernel_rfl) (by kernel_rfl) (by kernel_rfl) (by kernel_rfl) ?_
              simp only [List.take_succ_cons, List.take_zero, List.drop_succ_cons, List.drop_zero]
              (refine o_start ?_; (iterate 12 (first | (refine o_skip rfl rfl rfl ?_) | (refine o_have rfl fun hw => ?_; (first | (refine o_move hw.out _ rfl rfl rfl rfl ?_) | (refine o_pickT hw.out _ _ _ rfl rfl rfl rfl rfl ?_) | (refine o_pickF hw.out _ _ _ rfl rfl rfl rfl rfl ?_) | (refine o_loadc hw.out _ _ rfl rfl ca1 rfl rfl (by first | exact Try.underlying3 | exact Try.underlying4) rfl ?_) | (refine o_loadc hw.out _ _ rfl rfl ca2 rfl rfl (by first | exact Try.underlying3 | exact Try.underlying4) rfl ?_) | (refine o_loadc hw.out _ _ rfl rfl cb1 rfl rfl (by first | exact Try.underlying3 | exact Try.underlying4) rfl ?_) | (refine o_loadc hw.out _ _ rfl rfl cb2 rfl rfl (by first | exact Try.underlying3 | exact Try.underlying4) rfl ?_) | (refine o_bin hw.out _ _ _ _ _ rfl rfl rfl rfl rfl (v := .int .i64 ((x : Int) + 1)) (fun W => by go_simp; exact IntWalk.i64_in _ (by omega)) ?_) | (refine o_bin hw.out _ _ _ _ _ rfl rfl rfl rfl rfl (fun W => by go_simp; first | done | rfl) ?_) | (refine o_un hw.out _ _ _ rfl rfl rfl rfl (fun W => by go_simp; first | done | rfl) ?_) | (refine o_field hw.out _ _ _ rfl rfl rfl rfl (fun W => by go_simp; first | done | rfl) ?_) | (refine o_index hw.out _ _ _ rfl rfl rfl rfl rfl (fun W => by go_simp; first | done | rfl) ?_) | (refine o_conv hw.out _ _ _ rfl rfl rfl rfl (fun W => by go_simp; first | done | rfl) ?_)); clear hw))); refine o_end ?_; simp only [app, List.set_cons_succ, List.set_cons_zero])
              intro w3 hb3
              have hz := hz.on hb3
              have hq := hq.on hb3
              have hz1 := hz1.on hb3
              have ho := ho.on hb3
              have ca1 := (hb3.cell (p := ⟨_, _, none⟩) (by show w.heap.size < _; exact hzl)).trans ca1
              have ca2 := (hb3.cell (p := ⟨_, _, none⟩) (by show w.heap.size < _; exact hzl)).trans ca2
              have cb1 := (hb3.cell (p := ⟨_, _, none⟩) (by show w.heap.size + 1 < _; exact hql)).trans cb1
              have cb2 := (hb3.cell (p := ⟨_, _, none⟩) (by show w.heap.size + 1 < _; exact hql)).trans cb2
              have hzl := hz.lt
              have hql := hq.lt
              have hb := hb.trans (hb3.mono hb.size)
              clear hb3
              go_wp2
              refine head0 9 (by kernel_rfl) (by kernel_rfl) (by kernel_rfl) (by kernel_rfl) ?_
              simp only [List.take_succ_cons, List.take_zero, List.drop_succ_cons, List.drop_zero]
              (refine o_start ?_; (iterate 9 (first | (refine o_skip rfl rfl rfl ?_) | (refine o_have rfl fun hw => ?_; (first | (refine o_move hw.out _ rfl rfl rfl rfl ?_) | (refine o_pickT hw.out _ _ _ rfl rfl rfl rfl rfl ?_) | (refine o_pickF hw.out _ _ _ rfl rfl rfl rfl rfl ?_) | (refine o_load_r hw.out _ rfl rfl ho rfl rfl ?_) | (refine o_loadc hw.out _ _ rfl rfl ca1 rfl rfl (by first | exact Try.underlying3 | exact Try.underlying4) rfl ?_) | (refine o_loadc hw.out _ _ rfl rfl ca2 rfl rfl (by first | exact Try.underlying3 | exact Try.underlying4) rfl ?_) | (refine o_bin hw.out _ _ _ _ _ rfl rfl rfl rfl rfl (v := .int .i64 ((x : Int) + 1)) (fun W => by go_simp; exact IntWalk.i64_in _ (by omega)) ?_) | (refine o_bin hw.out _ _ _ _ _ rfl rfl rfl rfl rfl (fun W => by go_simp; first | done | rfl) ?_) | (refine o_un hw.out _ _ _ rfl rfl rfl rfl (fun W => by go_simp; first | done | rfl) ?_) | (refine o_field hw.out _ _ _ rfl rfl rfl rfl (fun W => by go_simp; first | done | rfl) ?_) | (refine o_index hw.out _ _ _ rfl rfl rfl rfl rfl (fun W => by go_simp; first | done | rfl) ?_) | (refine o_conv hw.out _ _ _ rfl rfl rfl rfl (fun W => by go_simp; first | done | rfl) ?_) | (refine o_call hw.out _ _ _ rfl rfl (fun W hW => HB1.out W) (by with_reducible rfl) (by with_reducible rfl) rfl rfl (fun ρ W hρ => by go_simp; done) ?_)); clear hw))); refine o_end ?_; simp only [app, List.set_cons_succ, List.set_cons_zero])
              intro w3 hb3
              have hz := hz.on hb3
              have hq := hq.on hb3
              have hz1 := hz1.on hb3
              have ho := ho.on hb3
              have hb := hb.trans (hb3.mono hb.size)
              clear hb3 ca1 ca2 cb1 cb2 hzl hql
              go_wp2_with (first
                | (refine store_r rfl _ _ rfl rfl rfl ho ?_; intro W8 ho8 hg8 hs8; have hz := hz.only hg8 (by omega); have hq := hq.only hg8 (by omega); have hz1 := hz1.only hg8 (by omega); have hb := below_only hb hg8 hb.size (by omega); clear ho; have ho := ho8; clear ho8 hg8 hs8)
                | fail)
              have ca1 := hz.cell (x + 1) 0 (by omega) (by omega)
              have ca2 := hz.cell 0 (x + 1) (by omega) (by omega)
              have cb1 := hq.cell (x + 1) 0 (by omega) (by omega)
              have cb2 := hq.cell 0 (x + 1) (by omega) (by omega)
              simp only [Nat.zero_mul, Nat.add_zero] at ca1 ca2 cb1 cb2
              have hzl := hz.lt
              have hql := hq.lt
              go_wp2
              refine head0 12 (by kernel_rfl) (by kernel_rfl) (by kernel_rfl) (by kernel_rfl) ?_
              simp only [List.take_succ_cons, List.take_zero, List.drop_succ_cons, List.drop_zero]
              (refine o_start ?_; (iterate 12 (first | (refine o_skip rfl rfl rfl ?_) | (refine o_have rfl fun hw => ?_; (first | (refine o_move hw.out _ rfl rfl rfl rfl ?_) | (refine o_pickT hw.out _ _ _ rfl rfl rfl rfl rfl ?_) | (refine o_pickF hw.out _ _ _ rfl rfl rfl rfl rfl ?_) | (refine o_loadc hw.out _ _ rfl rfl ca1 rfl rfl (by first | exact Try.underlying3 | exact Try.underlying4) rfl ?_) | (refine o_loadc hw.out _ _ rfl rfl ca2 rfl rfl (by first | exact Try.underlying3 | exact Try.underlying4) rfl ?_) | (refine o_loadc hw.out _ _ rfl rfl cb1 rfl rfl (by first | exact Try.underlying3 | exact Try.underlying4) rfl ?_) | (refine o_loadc hw.out _ _ rfl rfl cb2 rfl rfl (by first | exact Try.underlying3 | exact Try.underlying4) rfl ?_) | (refine o_bin hw.out _ _ _ _ _ rfl rfl rfl rfl rfl (v := .int .i64 ((x : Int) + 1)) (fun W => by go_simp; exact IntWalk.i64_in _ (by omega)) ?_) | (refine o_bin hw.out _ _ _ _ _ rfl rfl rfl rfl rfl (fun W => by go_simp; first | done | rfl) ?_) | (refine o_un hw.out _ _ _ rfl rfl rfl rfl (fun W => by go_simp; first | done | rfl) ?_) | (refine o_field hw.out _ _ _ rfl rfl rfl rfl (fun W => by go_simp; first | done | rfl) ?_) | (refine o_index hw.out _ _ _ rfl rfl rfl rfl rfl (fun W => by go_simp; first | done | rfl) ?_) | (refine o_conv hw.out _ _ _ rfl rfl rfl rfl (fun W => by go_simp; first | done | rfl) ?_)); clear hw))); refine o_end ?_; simp only [app, List.set_cons_succ, List.set_cons_zero])
              intro w3 hb3
              have hz := hz.on hb3
              have hq := hq.on hb3
              have hz1 := hz1.on hb3
              have ho := ho.on hb3
              have ca1 := (hb3.cell (p := ⟨_, _, none⟩) (by show w.heap.size < _; exact hzl)).trans ca1
              have ca2 := (hb3.cell (p := ⟨_, _, none⟩) (by show w.heap.size < _; exact hzl)).trans ca2
              have cb1 := (hb3.cell (p := ⟨_, _, none⟩) (by show w.heap.size + 1 < _; exact hql)).trans cb1
              have cb2 := (hb3.cell (p := ⟨_, _, none⟩) (by show w.heap.size + 1 < _; exact hql)).trans cb2
              have hzl := hz.lt
              have hql := hq.lt
              have hb := hb.trans (hb3.mono hb.size)
              clear hb3
              go_wp2
              refine head0 9 (by kernel_rfl) (by kernel_rfl) (by kernel_rfl) (by kernel_rfl) ?_
              simp only [List.take_succ_cons, List.take_zero, List.drop_succ_cons, List.drop_zero]
              (refine o_start ?_; (iterate 9 (first | (refine o_skip rfl rfl rfl ?_) | (refine o_have rfl fun hw => ?_; (first | (refine o_move hw.out _ rfl rfl rfl rfl ?_) | (refine o_pickT hw.out _ _ _ rfl rfl rfl rfl rfl ?_) | (refine o_pickF hw.out _ _ _ rfl rfl rfl rfl rfl ?_) | (refine o_load_r hw.out _ rfl rfl ho rfl rfl ?_) | (refine o_loadc hw.out _ _ rfl rfl ca1 rfl rfl (by first | exact Try.underlying3 | exact Try.underlying4) rfl ?_) | (refine o_loadc hw.out _ _ rfl rfl ca2 rfl rfl (by first | exact Try.underlying3 | exact Try.underlying4) rfl ?_) | (refine o_bin hw.out _ _ _ _ _ rfl rfl rfl rfl rfl (v := .int .i64 ((x : Int) + 1)) (fun W => by go_simp; exact IntWalk.i64_in _ (by omega)) ?_) | (refine o_bin hw.out _ _ _ _ _ rfl rfl rfl rfl rfl (fun W => by go_simp; first | done | rfl) ?_) | (refine o_un hw.out _ _ _ rfl rfl rfl rfl (fun W => by go_simp; first | done | rfl) ?_) | (refine o_field hw.out _ _ _ rfl rfl rfl rfl (fun W => by go_simp; first | done | rfl) ?_) | (refine o_index hw.out _ _ _ rfl rfl rfl rfl rfl (fun W => by go_simp; first | done | rfl) ?_) | (refine o_conv hw.out _ _ _ rfl rfl rfl rfl (fun W => by go_simp; first | done | rfl) ?_) | (refine o_call hw.out _ _ _ rfl rfl (fun W hW => HB2.out W) (by with_reducible rfl) (by with_reducible rfl) rfl rfl (fun ρ W hρ => by go_simp; done) ?_)); clear hw))); refine o_end ?_; simp only [app, List.set_cons_succ, List.set_cons_zero])
              intro w3 hb3
              have hz := hz.on hb3
              have hq := hq.on hb3
              have hz1 := hz1.on hb3
              have ho := ho.on hb3
              have hb := hb.trans (hb3.mono hb.size)
              clear hb3 ca1 ca2 cb1 cb2 hzl hql
              go_wp2_with (first
                | (refine store_r rfl _ _ rfl rfl rfl ho ?_; intro W8 ho8 hg8 hs8; have hz := hz.only hg8 (by omega); have hq := hq.only hg8 (by omega); have hz1 := hz1.only hg8 (by omega); have hb := below_only hb hg8 hb.size (by omega); clear ho; have ho := ho8; clear ho8 hg8 hs8)
                | fail)
              have ca1 := hz.cell (x + 1) 0 (by omega) (by omega)
              have ca2 := hz.cell 0 (x + 1) (by omega) (by omega)
              have cb1 := hq.cell (x + 1) 0 (by omega) (by omega)
              have cb2 := hq.cell 0 (x + 1) (by omega) (by omega)
              simp only [Nat.zero_mul, Nat.add_zero] at ca1 ca2 cb1 cb2
              have hzl := hz.lt
              have hql := hq.lt
              have HB := Lib.hid hb
              have HZ := Lib.hid hz
              have HQ := Lib.hid hq
              have HZ1 := Lib.hid hz1
              have HO := Lib.hid ho
              clear hb hz hq hz1 ho ca1 ca2 cb1 cb2 hzl hql
              go_wp2
              go_roundw
              case rel => exact ⟨x + 1, by omega, by go_num, HB, HZ, HQ, HZ1, by rw [HNX.out]; exact HO⟩
              case measure => simp [intOf]; omega
            · obtain ⟨z1, hz1e⟩ : ∃ z1, z1 = boundZ Z (x : Int) (-1) (D (x + 1) 0) := ⟨_, rfl⟩
              have HB1 : Hid (∀ W : World, Calls Try.prog 29 #[.agg (zc n Z.none Z.D), .int .i64 (x : Int), .int .i64 (-1), .int .i64 (D (x + 1) 0)] W (Ret W (.agg (zc n z1.none z1.D)))) := fun W => by
                have := rbound_any HZK.out (i := x + 1) (j := 0) (by rw [HZN.out]; omega) (by omega) (by omega) (d := D (x + 1) 0) (by omega) W
                rw [show ((x + 1 : Nat) : Int) - 1 = x by omega, show ((0 : Nat) : Int) - 1 = -1 by omega, ← hz1e, Zn.c, Zn.c, HZN.out, show z1.n = n by rw [hz1e, boundZ_n]; exact HZN.out] at this
                exact this
              have HZK1 : Hid (OKZ z1) := by
                have := bound_ok HZK.out (i := x + 1) (j := 0) (by rw [HZN.out]; omega) (by omega) (by omega) (d := D (x + 1) 0) (by omega)
                rw [show ((x + 1 : Nat) : Int) - 1 = x by omega, show ((0 : Nat) : Int) - 1 = -1 by omega, ← hz1e] at this
                exact this
              have HZN1 : Hid (z1.n = n) := by rw [hz1e]; show (boundZ Z _ _ _).n = n; rw [boundZ_n]; exact HZN.out
              obtain ⟨z2, hz2e⟩ : ∃ z2, z2 = z1 := ⟨_, rfl⟩
              have HNX : Hid (rwZ A B (x + 1) = z2) := by
                show rwS A B x (rwZ A B x) = z2
                rw [HZE.out, hz2e, hz1e]
                unfold rwS
                rw [HAD.out, HBD.out]
                simp only [if_pos c1, if_neg c2]
              clear hz1e
              subst hz2e
              clear HZK HZN HZE HZK1 HZN1
              go_wp2
              refine head0 12 (by kernel_rfl) (by kernel_rfl) (by kernel_rfl) (by kernel_rfl) ?_
              simp only [List.take_succ_cons, List.take_zero, List.drop_succ_cons, List.drop_zero]
              (refine o_start ?_; (iterate 12 (first | (refine o_skip rfl rfl rfl ?_) | (refine o_have rfl fun hw => ?_; (first | (refine o_move hw.out _ rfl rfl rfl rfl ?_) | (refine o_pickT hw.out _ _ _ rfl rfl rfl rfl rfl ?_) | (refine o_pickF hw.out _ _ _ rfl rfl rfl rfl rfl ?_) | (refine o_loadc hw.out _ _ rfl rfl ca1 rfl rfl (by first | exact Try.underlying3 | exact Try.underlying4) rfl ?_) | (refine o_loadc hw.out _ _ rfl rfl ca2 rfl rfl (by first | exact Try.underlying3 | exact Try.underlying4) rfl ?_) | (refine o_loadc hw.out _ _ rfl rfl cb1 rfl rfl (by first | exact Try.underlying3 | exact Try.underlying4) rfl ?_) | (refine o_loadc hw.out _ _ rfl rfl cb2 rfl rfl (by first | exact Try.underlying3 | exact Try.underlying4) rfl ?_) | (refine o_bin hw.out _ _ _ _ _ rfl rfl rfl rfl rfl (v := .int .i64 ((x : Int) + 1)) (fun W => by go_simp; exact IntWalk.i64_in _ (by omega)) ?_) | (refine o_bin hw.out _ _ _ _ _ rfl rfl rfl rfl rfl (fun W => by go_simp; first | done | rfl) ?_) | (refine o_un hw.out _ _ _ rfl rfl rfl rfl (fun W => by go_simp; first | done | rfl) ?_) | (refine o_field hw.out _ _ _ rfl rfl rfl rfl (fun W => by go_simp; first | done | rfl) ?_) | (refine o_index hw.out _ _ _ rfl rfl rfl rfl rfl (fun W => by go_simp; first | done | rfl) ?_) | (refine o_conv hw.out _ _ _ rfl rfl rfl rfl (fun W => by go_simp; first | done | rfl) ?_)); clear hw))); refine o_end ?_; simp only [app, List.set_cons_succ, List.set_cons_zero])
              intro w3 hb3
              have hz := hz.on hb3
              have hq := hq.on hb3
              have hz1 := hz1.on hb3
              have ho := ho.on hb3
              have ca1 := (hb3.cell (p := ⟨_, _, none⟩) (by show w.heap.size < _; exact hzl)).trans ca1
              have ca2 := (hb3.cell (p := ⟨_, _, none⟩) (by show w.heap.size < _; exact hzl)).trans ca2
              have cb1 := (hb3.cell (p := ⟨_, _, none⟩) (by show w.heap.size + 1 < _; exact hql)).trans cb1
              have cb2 := (hb3.cell (p := ⟨_, _, none⟩) (by show w.heap.size + 1 < _; exact hql)).trans cb2
              have hzl := hz.lt
              have hql := hq.lt
              have hb := hb.trans (hb3.mono hb.size)
              clear hb3
              go_wp2
              refine head0 9 (by kernel_rfl) (by kernel_rfl) (by kernel_rfl) (by kernel_rfl) ?_
              simp only [List.take_succ_cons, List.take_zero, List.drop_succ_cons, List.drop_zero]
              (refine o_start ?_; (iterate 9 (first | (refine o_skip rfl rfl rfl ?_) | (refine o_have rfl fun hw => ?_; (first | (refine o_move hw.out _ rfl rfl rfl rfl ?_) | (refine o_pickT hw.out _ _ _ rfl rfl rfl rfl rfl ?_) | (refine o_pickF hw.out _ _ _ rfl rfl rfl rfl rfl ?_) | (refine o_load_r hw.out _ rfl rfl ho rfl rfl ?_) | (refine o_loadc hw.out _ _ rfl rfl ca1 rfl rfl (by first | exact Try.underlying3 | exact Try.underlying4) rfl ?_) | (refine o_loadc hw.out _ _ rfl rfl ca2 rfl rfl (by first | exact Try.underlying3 | exact Try.underlying4) rfl ?_) | (refine o_bin hw.out _ _ _ _ _ rfl rfl rfl rfl rfl (v := .int .i64 ((x : Int) + 1)) (fun W => by go_simp; exact IntWalk.i64_in _ (by omega)) ?_) | (refine o_bin hw.out _ _ _ _ _ rfl rfl rfl rfl rfl (fun W => by go_simp; first | done | rfl) ?_) | (refine o_un hw.out _ _ _ rfl rfl rfl rfl (fun W => by go_simp; first | done | rfl) ?_) | (refine o_field hw.out _ _ _ rfl rfl rfl rfl (fun W => by go_simp; first | done | rfl) ?_) | (refine o_index hw.out _ _ _ rfl rfl rfl rfl rfl (fun W => by go_simp; first | done | rfl) ?_) | (refine o_conv hw.out _ _ _ rfl rfl rfl rfl (fun W => by go_simp; first | done | rfl) ?_) | (refine o_call hw.out _ _ _ rfl rfl (fun W hW => HB1.out W) (by with_reducible rfl) (by with_reducible rfl) rfl rfl (fun ρ W hρ => by go_simp; done) ?_)); clear hw))); refine o_end ?_; simp only [app, List.set_cons_succ, List.set_cons_zero])
              intro w3 hb3
              have hz := hz.on hb3
              have hq := hq.on hb3
              have hz1 := hz1.on hb3
              have ho := ho.on hb3
              have hb := hb.trans (hb3.mono hb.size)
              clear hb3 ca1 ca2 cb1 cb2 hzl hql
              go_wp2_with (first
                | (refine store_r rfl _ _ rfl rfl rfl ho ?_; intro W8 ho8 hg8 hs8; have hz := hz.only hg8 (by omega); have hq := hq.only hg8 (by omega); have hz1 := hz1.only hg8 (by omega); have hb := below_only hb hg8 hb.size (by omega); clear ho; have ho := ho8; clear ho8 hg8 hs8)
                | fail)
              have ca1 := hz.cell (x + 1) 0 (by omega) (by omega)
              have ca2 := hz.cell 0 (x + 1) (by omega) (by omega)
              have cb1 := hq.cell (x + 1) 0 (by omega) (by omega)
              have cb2 := hq.cell 0 (x + 1) (by omega) (by omega)
              simp only [Nat.zero_mul, Nat.add_zero] at ca1 ca2 cb1 cb2
              have hzl := hz.lt
              have hql := hq.lt
              go_wp2
              refine head0 12 (by kernel_rfl) (by kernel_rfl) (by kernel_rfl) (by kernel_rfl) ?_
              simp only [List.take_succ_cons, List.take_zero, List.drop_succ_cons, List.drop_zero]
              (refine o_start ?_; (iterate 12 (first | (refine o_skip rfl rfl rfl ?_) | (refine o_have rfl fun hw => ?_; (first | (refine o_move hw.out _ rfl rfl rfl rfl ?_) | (refine o_pickT hw.out _ _ _ rfl rfl rfl rfl rfl ?_) | (refine o_pickF hw.out _ _ _ rfl rfl rfl rfl rfl ?_) | (refine o_loadc hw.out _ _ rfl rfl ca1 rfl rfl (by first | exact Try.underlying3 | exact Try.underlying4) rfl ?_) | (refine o_loadc hw.out _ _ rfl rfl ca2 rfl rfl (by first | exact Try.underlying3 | exact Try.underlying4) rfl ?_) | (refine o_loadc hw.out _ _ rfl rfl cb1 rfl rfl (by first | exact Try.underlying3 | exact Try.underlying4) rfl ?_) | (refine o_loadc hw.out _ _ rfl rfl cb2 rfl rfl (by first | exact Try.underlying3 | exact Try.underlying4) rfl ?_) | (refine o_bin hw.out _ _ _ _ _ rfl rfl rfl rfl rfl (v := .int .i64 ((x : Int) + 1)) (fun W => by go_simp; exact IntWalk.i64_in _ (by omega)) ?_) | (refine o_bin hw.out _ _ _ _ _ rfl rfl rfl rfl rfl (fun W => by go_simp; first | done | rfl) ?_) | (refine o_un hw.out _ _ _ rfl rfl rfl rfl (fun W => by go_simp; first | done | rfl) ?_) | (refine o_field hw.out _ _ _ rfl rfl rfl rfl (fun W => by go_simp; first | done | rfl) ?_) | (refine o_index hw.out _ _ _ rfl rfl rfl rfl rfl (fun W => by go_simp; first | done | rfl) ?_) | (refine o_conv hw.out _ _ _ rfl rfl rfl rfl (fun W => by go_simp; first | done | rfl) ?_)); clear hw))); refine o_end ?_; simp only [app, List.set_cons_succ, List.set_cons_zero])
              intro w3 hb3
              have hz := hz.on hb3
              have hq := hq.on hb3
              have hz1 := hz1.on hb3
              have ho := ho.on hb3
              have ca1 := (hb3.cell (p := ⟨_, _, none⟩) (by show w.heap.size < _; exact hzl)).trans ca1
              have ca2 := (hb3.cell (p := ⟨_, _, none⟩) (by show w.heap.size < _; exact hzl)).trans ca2
              have cb1 := (hb3.cell (p := ⟨_, _, none⟩) (by show w.heap.size + 1 < _; exact hql)).trans cb1
              have cb2 := (hb3.cell (p := ⟨_, _, none⟩) (by show w.heap.size + 1 < _; exact hql)).trans cb2
              have hzl := hz.lt
              have hql := hq.lt
              have hb := hb.trans (hb3.mono hb.size)
              clear hb3
              have HB := Lib.hid hb
              have HZ := Lib.hid hz
              have HQ := Lib.hid hq
              have HZ1 := Lib.hid hz1
              have HO := Lib.hid ho
              clear hb hz hq hz1 ho ca1 ca2 cb1 cb2 hzl hql
              go_wp2
              go_roundw
              case rel => exact ⟨x + 1, by omega, by go_num, HB, HZ, HQ, HZ1, by rw [HNX.out]; exact HO⟩
              case measure => simp [intOf]; omega
          · by_cases c2 : E 0 (x + 1) ≤ D 0 (x + 1)
            · obtain ⟨z1, hz1e⟩ : ∃ z1, z1 = Z := ⟨_, rfl⟩
              have HZK1 : Hid (OKZ z1) := by rw [hz1e]; exact HZK.out
              have HZN1 : Hid (z1.n = n) := by rw [hz1e]; exact HZN.out
              obtain ⟨z2, hz2e⟩ : ∃ z2, z2 = boundZ z1 (-1) (x : Int) (D 0 (x + 1)) := ⟨_, rfl⟩
              have HB2 : Hid (∀ W : World, Calls Try.prog 29 #[.agg (zc n z1.none z1.D), .int .i64 (-1), .int .i64 (x : Int), .int .i64 (D 0 (x + 1))] W (Ret W (.agg (zc n z2.none z2.D)))) := fun W => by
                have := rbound_any HZK1.out (i := 0) (j := x + 1) (by omega) (by rw [HZN1.out]; omega) (by omega) (d := D 0 (x + 1)) (by omega) W
                rw [show ((x + 1 : Nat) : Int) - 1 = x by omega, show ((0 : Nat) : Int) - 1 = -1 by omega, ← hz2e, Zn.c, Zn.c, HZN1.out, show z2.n = n by rw [hz2e, boundZ_n]; exact HZN1.out] at this
                exact this
              have HNX : Hid (rwZ A B (x + 1) = z2) := by
                show rwS A B x (rwZ A B x) = z2
                rw [HZE.out, hz2e, hz1e]
                unfold rwS
                rw [HAD.out, HBD.out]
                simp only [if_neg c1, if_pos c2]
              subst hz1e
              clear hz2e
              clear HZK HZN HZE HZK1 HZN1
              go_wp2
              refine head0 12 (by kernel_rfl) (by kernel_rfl) (by kernel_rfl) (by kernel_rfl) ?_
              simp only [List.take_succ_cons, List.take_zero, List.drop_succ_cons, List.drop_zero]
              (refine o_start ?_; (iterate 12 (first | (refine o_skip rfl rfl rfl ?_) | (refine o_have rfl fun hw => ?_; (first | (refine o_move hw.out _ rfl rfl rfl rfl ?_) | (refine o_pickT hw.out _ _ _ rfl rfl rfl rfl rfl ?_) | (refine o_pickF hw.out _ _ _ rfl rfl rfl rfl rfl ?_) | (refine o_loadc hw.out _ _ rfl rfl ca1 rfl rfl (by first | exact Try.underlying3 | exact Try.underlying4) rfl ?_) | (refine o_loadc hw.out _ _ rfl rfl ca2 rfl rfl (by first | exact Try.underlying3 | exact Try.underlying4) rfl ?_) | (refine o_loadc hw.out _ _ rfl rfl cb1 rfl rfl (by first | exact Try.underlying3 | exact Try.underlying4) rfl ?_) | (refine o_loadc hw.out _ _ rfl rfl cb2 rfl rfl (by first | exact Try.underlying3 | exact Try.underlying4) rfl ?_) | (refine o_bin hw.out _ _ _ _ _ rfl rfl rfl rfl rfl (v := .int .i64 ((x : Int) + 1)) (fun W => by go_simp; exact IntWalk.i64_in _ (by omega)) ?_) | (refine o_bin hw.out _ _ _ _ _ rfl rfl rfl rfl rfl (fun W => by go_simp; first | done | rfl) ?_) | (refine o_un hw.out _ _ _ rfl rfl rfl rfl (fun W => by go_simp; first | done | rfl) ?_) | (refine o_field hw.out _ _ _ rfl rfl rfl rfl (fun W => by go_simp; first | done | rfl) ?_) | (refine o_index hw.out _ _ _ rfl rfl rfl rfl rfl (fun W => by go_simp; first | done | rfl) ?_) | (refine o_conv hw.out _ _ _ rfl rfl rfl rfl (fun W => by go_simp; first | done | rfl) ?_)); clear hw))); refine o_end ?_; simp only [app, List.set_cons_succ, List.set_cons_zero])
              intro w3 hb3
              have hz := hz.on hb3
              have hq := hq.on hb3
              have hz1 := hz1.on hb3
              have ho := ho.on hb3
              have ca1 := (hb3.cell (p := ⟨_, _, none⟩) (by show w.heap.size < _; exact hzl)).trans ca1
              have ca2 := (hb3.cell (p := ⟨_, _, none⟩) (by show w.heap.size < _; exact hzl)).trans ca2
              have cb1 := (hb3.cell (p := ⟨_, _, none⟩) (by show w.heap.size + 1 < _; exact hql)).trans cb1
              have cb2 := (hb3.cell (p := ⟨_, _, none⟩) (by show w.heap.size + 1 < _; exact hql)).trans cb2
              have hzl := hz.lt
              have hql := hq.lt
              have hb := hb.trans (hb3.mono hb.size)
              clear hb3
              go_wp2
              refine head0 12 (by kernel_rfl) (by kernel_rfl) (by kernel_rfl) (by kernel_rfl) ?_
              simp only [List.take_succ_cons, List.take_zero, List.drop_succ_cons, List.drop_zero]
              (refine o_start ?_; (iterate 12 (first | (refine o_skip rfl rfl rfl ?_) | (refine o_have rfl fun hw => ?_; (first | (refine o_move hw.out _ rfl rfl rfl rfl ?_) | (refine o_pickT hw.out _ _ _ rfl rfl rfl rfl rfl ?_) | (refine o_pickF hw.out _ _ _ rfl rfl rfl rfl rfl ?_) | (refine o_loadc hw.out _ _ rfl rfl ca1 rfl rfl (by first | exact Try.underlying3 | exact Try.underlying4) rfl ?_) | (refine o_loadc hw.out _ _ rfl rfl ca2 rfl rfl (by first | exact Try.underlying3 | exact Try.underlying4) rfl ?_) | (refine o_loadc hw.out _ _ rfl rfl cb1 rfl rfl (by first | exact Try.underlying3 | exact Try.underlying4) rfl ?_) | (refine o_loadc hw.out _ _ rfl rfl cb2 rfl rfl (by first | exact Try.underlying3 | exact Try.underlying4) rfl ?_) | (refine o_bin hw.out _ _ _ _ _ rfl rfl rfl rfl rfl (v := .int .i64 ((x : Int) + 1)) (fun W => by go_simp; exact IntWalk.i64_in _ (by omega)) ?_) | (refine o_bin hw.out _ _ _ _ _ rfl rfl rfl rfl rfl (fun W => by go_simp; first | done | rfl) ?_) | (refine o_un hw.out _ _ _ rfl rfl rfl rfl (fun W => by go_simp; first | done | rfl) ?_) | (refine o_field hw.out _ _ _ rfl rfl rfl rfl (fun W => by go_simp; first | done | rfl) ?_) | (refine o_index hw.out _ _ _ rfl rfl rfl rfl rfl (fun W => by go_simp; first | done | rfl) ?_) | (refine o_conv hw.out _ _ _ rfl rfl rfl rfl (fun W => by go_simp; first | done | rfl) ?_)); clear hw))); refine o_end ?_; simp only [app, List.set_cons_succ, List.set_cons_zero])
              intro w3 hb3
              have hz := hz.on hb3
              have hq := hq.on hb3
              have hz1 := hz1.on hb3
              have ho := ho.on hb3
              have ca1 := (hb3.cell (p := ⟨_, _, none⟩) (by show w.heap.size < _; exact hzl)).trans ca1
              have ca2 := (hb3.cell (p := ⟨_, _, none⟩) (by show w.heap.size < _; exact hzl)).trans ca2
              have cb1 := (hb3.cell (p := ⟨_, _, none⟩) (by show w.heap.size + 1 < _; exact hql)).trans cb1
              have cb2 := (hb3.cell (p := ⟨_, _, none⟩) (by show w.heap.size + 1 < _; exact hql)).trans cb2
              have hzl := hz.lt
              have hql := hq.lt
              have hb := hb.trans (hb3.mono hb.size)
              clear hb3
              go_wp2
              refine head0 9 (by kernel_rfl) (by kernel_rfl) (by kernel_rfl) (by kernel_rfl) ?_
              simp only [List.take_succ_cons, List.take_zero, List.drop_succ_cons, List.drop_zero]
              (refine o_start ?_; (iterate 9 (first | (refine o_skip rfl rfl rfl ?_) | (refine o_have rfl fun hw => ?_; (first | (refine o_move hw.out _ rfl rfl rfl rfl ?_) | (refine o_pickT hw.out _ _ _ rfl rfl rfl rfl rfl ?_) | (refine o_pickF hw.out _ _ _ rfl rfl rfl rfl rfl ?_) | (refine o_load_r hw.out _ rfl rfl ho rfl rfl ?_) | (refine o_loadc hw.out _ _ rfl rfl ca1 rfl rfl (by first | exact Try.underlying3 | exact Try.underlying4) rfl ?_) | (refine o_loadc hw.out _ _ rfl rfl ca2 rfl rfl (by first | exact Try.underlying3 | exact Try.underlying4) rfl ?_) | (refine o_bin hw.out _ _ _ _ _ rfl rfl rfl rfl rfl (v := .int .i64 ((x : Int) + 1)) (fun W => by go_simp; exact IntWalk.i64_in _ (by omega)) ?_) | (refine o_bin hw.out _ _ _ _ _ rfl rfl rfl rfl rfl (fun W => by go_simp; first | done | rfl) ?_) | (refine o_un hw.out _ _ _ rfl rfl rfl rfl (fun W => by go_simp; first | done | rfl) ?_) | (refine o_field hw.out _ _ _ rfl rfl rfl rfl (fun W => by go_simp; first | done | rfl) ?_) | (refine o_index hw.out _ _ _ rfl rfl rfl rfl rfl (fun W => by go_simp; first | done | rfl) ?_) | (refine o_conv hw.out _ _ _ rfl rfl rfl rfl (fun W => by go_simp; first | done | rfl) ?_) | (refine o_call hw.out _ _ _ rfl rfl (fun W hW => HB2.out W) (by with_reducible rfl) (by with_reducible rfl) rfl rfl (fun ρ W hρ => by go_simp; done) ?_)); clear hw))); refine o_end ?_; simp only [app, List.set_cons_succ, List.set_cons_zero])
              intro w3 hb3
              have hz := hz.on hb3
              have hq := hq.on hb3
              have hz1 := hz1.on hb3
              have ho := ho.on hb3
              have hb := hb.trans (hb3.mono hb.size)
              clear hb3 ca1 ca2 cb1 cb2 hzl hql
              go_wp2_with (first
                | (refine store_r rfl _ _ rfl rfl rfl ho ?_; intro W8 ho8 hg8 hs8; have hz := hz.only hg8 (by omega); have hq := hq.only hg8 (by omega); have hz1 := hz1.only hg8 (by omega); have hb := below_only hb hg8 hb.size (by omega); clear ho; have ho := ho8; clear ho8 hg8 hs8)
                | fail)
              have ca1 := hz.cell (x + 1) 0 (by omega) (by omega)
              have ca2 := hz.cell 0 (x + 1) (by omega) (by omega)
              have cb1 := hq.cell (x + 1) 0 (by omega) (by omega)
              have cb2 := hq.cell 0 (x + 1) (by omega) (by omega)
              simp only [Nat.zero_mul, Nat.add_zero] at ca1 ca2 cb1 cb2
              have hzl := hz.lt
              have hql := hq.lt
              have HB := Lib.hid hb
              have HZ := Lib.hid hz
              have HQ := Lib.hid hq
              have HZ1 := Lib.hid hz1
              have HO := Lib.hid ho
              clear hb hz hq hz1 ho ca1 ca2 cb1 cb2 hzl hql
              go_wp2
              go_roundw
              case rel => exact ⟨x + 1, by omega, by go_num, HB, HZ, HQ, HZ1, by rw [HNX.out]; exact HO⟩
              case measure => simp [intOf]; omega
            · obtain ⟨z1, hz1e⟩ : ∃ z1, z1 = Z := ⟨_, rfl⟩
              have HZK1 : Hid (OKZ z1) := by rw [hz1e]; exact HZK.out
              have HZN1 : Hid (z1.n = n) := by rw [hz1e]; exact HZN.out
              obtain ⟨z2, hz2e⟩ : ∃ z2, z2 = z1 := ⟨_, rfl⟩
              have HNX : Hid (rwZ A B (x + 1) = z2) := by
                show rwS A B x (rwZ A B x) = z2
                rw [HZE.out, hz2e, hz1e]
                unfold rwS
                rw [HAD.out, HBD.out]
                simp only [if_neg c1, if_neg c2]
              subst hz1e
              subst hz2e
              clear HZK HZN HZE HZK1 HZN1
              go_wp2
              refine head0 12 (by kernel_rfl) (by kernel_rfl) (by kernel_rfl) (by kernel_rfl) ?_
              simp only [List.take_succ_cons, List.take_zero, List.drop_succ_cons, List.drop_zero]
              (refine o_start ?_; (iterate 12 (first | (refine o_skip rfl rfl rfl ?_) | (refine o_have rfl fun hw => ?_; (first | (refine o_move hw.out _ rfl rfl rfl rfl ?_) | (refine o_pickT hw.out _ _ _ rfl rfl rfl rfl rfl ?_) | (refine o_pickF hw.out _ _ _ rfl rfl rfl rfl rfl ?_) | (refine o_loadc hw.out _ _ rfl rfl ca1 rfl rfl (by first | exact Try.underlying3 | exact Try.underlying4) rfl ?_) | (refine o_loadc hw.out _ _ rfl rfl ca2 rfl rfl (by first | exact Try.underlying3 | exact Try.underlying4) rfl ?_) | (refine o_loadc hw.out _ _ rfl rfl cb1 rfl rfl (by first | exact Try.underlying3 | exact Try.underlying4) rfl ?_) | (refine o_loadc hw.out _ _ rfl rfl cb2 rfl rfl (by first | exact Try.underlying3 | exact Try.underlying4) rfl ?_) | (refine o_bin hw.out _ _ _ _ _ rfl rfl rfl rfl rfl (v := .int .i64 ((x : Int) + 1)) (fun W => by go_simp; exact IntWalk.i64_in _ (by omega)) ?_) | (refine o_bin hw.out _ _ _ _ _ rfl rfl rfl rfl rfl (fun W => by go_simp; first | done | rfl) ?_) | (refine o_un hw.out _ _ _ rfl rfl rfl rfl (fun W => by go_simp; first | done | rfl) ?_) | (refine o_field hw.out _ _ _ rfl rfl rfl rfl (fun W => by go_simp; first | done | rfl) ?_) | (refine o_index hw.out _ _ _ rfl rfl rfl rfl rfl (fun W => by go_simp; first | done | rfl) ?_) | (refine o_conv hw.out _ _ _ rfl rfl rfl rfl (fun W => by go_simp; first | done | rfl) ?_)); clear hw))); refine o_end ?_; simp only [app, List.set_cons_succ, List.set_cons_zero])
              intro w3 hb3
              have hz := hz.on hb3
              have hq := hq.on hb3
              have hz1 := hz1.on hb3
              have ho := ho.on hb3
              have ca1 := (hb3.cell (p := ⟨_, _, none⟩) (by show w.heap.size < _; exact hzl)).trans ca1
              have ca2 := (hb3.cell (p := ⟨_, _, none⟩) (by show w.heap.size < _; exact hzl)).trans ca2
              have cb1 := (hb3.cell (p := ⟨_, _, none⟩) (by show w.heap.size + 1 < _; exact hql)).trans cb1
              have cb2 := (hb3.cell (p := ⟨_, _, none⟩) (by show w.heap.size + 1 < _; exact hql)).trans cb2
              have hzl := hz.lt
              have hql := hq.lt
              have hb := hb.trans (hb3.mono hb.size)
              clear hb3
              go_wp2
              refine head0 12 (by kernel_rfl) (by kernel_rfl) (by kernel_rfl) (by kernel_rfl) ?_
              simp only [List.take_succ_cons, List.take_zero, List.drop_succ_cons, List.drop_zero]
              (refine o_start ?_; (iterate 12 (first | (refine o_skip rfl rfl rfl ?_) | (refine o_have rfl fun hw => ?_; (first | (refine o_move hw.out _ rfl rfl rfl rfl ?_) | (refine o_pickT hw.out _ _ _ rfl rfl rfl rfl rfl ?_) | (refine o_pickF hw.out _ _ _ rfl rfl rfl rfl rfl ?_) | (refine o_loadc hw.out _ _ rfl rfl ca1 rfl rfl (by first | exact Try.underlying3 | exact Try.underlying4) rfl ?_) | (refine o_loadc hw.out _ _ rfl rfl ca2 rfl rfl (by first | exact Try.underlying3 | exact Try.underlying4) rfl ?_) | (refine o_loadc hw.out _ _ rfl rfl cb1 rfl rfl (by first | exact Try.underlying3 | exact Try.underlying4) rfl ?_) | (refine o_loadc hw.out _ _ rfl rfl cb2 rfl rfl (by first | exact Try.underlying3 | exact Try.underlying4) rfl ?_) | (refine o_bin hw.out _ _ _ _ _ rfl rfl rfl rfl rfl (v := .int .i64 ((x : Int) + 1)) (fun W => by go_simp; exact IntWalk.i64_in _ (by omega)) ?_) | (refine o_bin hw.out _ _ _ _ _ rfl rfl rfl rfl rfl (fun W => by go_simp; first | done | rfl) ?_) | (refine o_un hw.out _ _ _ rfl rfl rfl rfl (fun W => by go_simp; first | done | rfl) ?_) | (refine o_field hw.out _ _ _ rfl rfl rfl rfl (fun W => by go_simp; first | done | rfl) ?_) | (refine o_index hw.out _ _ _ rfl rfl rfl rfl rfl (fun W => by go_simp; first | done | rfl) ?_) | (refine o_conv hw.out _ _ _ rfl rfl rfl rfl (fun W => by go_simp; first | done | rfl) ?_)); clear hw))); refine o_end ?_; simp only [app, List.set_cons_succ, List.set_cons_zero])
              intro w3 hb3
              have hz := hz.on hb3
              have hq := hq.on hb3
              have hz1 := hz1.on hb3
              have ho := ho.on hb3
              have ca1 := (hb3.cell (p := ⟨_, _, none⟩) (by show w.heap.size < _; exact hzl)).trans ca1
              have ca2 := (hb3.cell (p := ⟨_, _, none⟩) (by show w.heap.size < _; exact hzl)).trans ca2
              have cb1 := (hb3.cell (p := ⟨_, _, none⟩) (by show w.heap.size + 1 < _; exact hql)).trans cb1
              have cb2 := (hb3.cell (p := ⟨_, _, none⟩) (by show w.heap.size + 1 < _; exact hql)).trans cb2
              have hzl := hz.lt
              have hql := hq.lt
              have hb := hb.trans (hb3.mono hb.size)
              clear hb3
              have HB := Lib.hid hb
              have HZ := Lib.hid hz
              have HQ := Lib.hid hq
              have HZ1 := Lib.hid hz1
              have HO := Lib.hid ho
              clear hb hz hq hz1 ho ca1 ca2 cb1 cb2 hzl hql
              go_wp2
              go_roundw
              case rel => exact ⟨x + 1, by omega, by go_num, HB, HZ, HQ, HZ1, by rw [HNX.out]; exact HO⟩
              case measure => simp [intOf]; omega
        · obtain rfl : x = n := by omega
          go_wp2_with (first
            | (refine load_r rfl _ rfl rfl ho ?_)
            | (refine store_r rfl _ _ rfl rfl rfl hz1 ?_; intro W4 hz4 hg4 hs4)
            | fail)
          exact bodyPost_ret (results_r rfl (by simp [Act.put]) hz4) rfl ⟨rfl, below_only hb hg4 hb.size (by omega)⟩
end Go.Proofs.Ytgnkhncogfppgaa
