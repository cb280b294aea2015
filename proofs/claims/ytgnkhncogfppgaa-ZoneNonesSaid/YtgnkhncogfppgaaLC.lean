import Derived.Test.YtgnkhncogfppgaaJ5
import Derived.Test.YtgnkhncogfppgaaL9
import Derived.Test.YtgnkhncogfppgaaL3
namespace Go.Proofs.Ytgnkhncogfppgaa
open Go.RowKit
theorem Std.nothing {n : Nat} {P} {z : Zn} (h : Std n P z) (hno : ∀ X, Sub n X → ¬ P X) : z = noneZ n := by
  obtain ⟨_, A, h1, h2⟩ := h
  rcases h1.2 with ⟨_, hc, _⟩ | ⟨he, _⟩
  · exact absurd ((h2 _ hc.sub).1 hc.le) (hno _ hc.sub)
  · exact he
theorem tmod_bd5 (x : Int) : -100000 ≤ x.tmod 100000 ∧ x.tmod 100000 ≤ 100000 := by
  have h := Int.tmod_lt_of_pos x (b := 100000) (by omega)
  have h2 := Int.lt_tmod_of_pos x (b := 100000) (by omega)
  omega
theorem nones {i j : Nat} (hi : i < 4) (hj : j ≤ 4) (hij : i + 1 ≠ j) {d : Int} (h1 : -100000 ≤ d) (h2 : d ≤ 100000) :
    OKZ (boundZ (topZ 4) (i : Int) ((j : Int) - 1) d) ∧ boundZ (boundZ (topZ 4) (i : Int) ((j : Int) - 1) d) ((j : Int) - 1) (i : Int) (-1 - d) = noneZ 4 ∧ OKZ (boundZ (boundZ (topZ 4) (i : Int) ((j : Int) - 1) d) ((j : Int) - 1) (i : Int) (-d)) ∧
      (boundZ (boundZ (topZ 4) (i : Int) ((j : Int) - 1) d) ((j : Int) - 1) (i : Int) (-d)).none = false ∧ (boundZ (boundZ (topZ 4) (i : Int) ((j : Int) - 1) d) ((j : Int) - 1) (i : Int) (-d)).n = 4 := by
  have e : (i : Int) = ((i + 1 : Nat) : Int) - 1 := by omega
  have s0 := top_std (n := 4) (by omega)
  have s1 := s0.bound (i := i + 1) (j := j) (by omega) (by omega) (by omega) (d := d) (by omega)
  have s2 := s1.bound (i := j) (j := i + 1) (by omega) (by omega) (by omega) (d := -1 - d) (by omega)
  have s3 := s1.bound (i := j) (j := i + 1) (by omega) (by omega) (by omega) (d := -d) (by omega)
  have t0 := top_sat (n := 4) (by omega) (v := fun k => if k = i + 1 then d else 0) (by simp) (fun k _ => by split <;> omega) (fun k _ => by split <;> omega)
  have t1 := bound_sat s0.1 t0.1 (i := i + 1) (j := j) (by rw [s0.n]; omega) (by rw [s0.n]; omega) (by omega) (d := d) (by omega) (v := fun k => if k = i + 1 then d else 0) (by rw [s0.n]; exact t0.2) (by rw [if_pos rfl, if_neg (by omega)]; omega)
  have t2 := bound_sat s1.1 t1.1 (i := j) (j := i + 1) (by rw [s1.n]; omega) (by rw [s1.n]; omega) (by omega) (d := -d) (by omega) (v := fun k => if k = i + 1 then d else 0) (by rw [s1.n]; rw [s0.n] at t1; exact t1.2) (by rw [if_pos rfl, if_neg (by omega)]; omega)
  rw [← e] at s1 s2 s3 t1 t2
  refine ⟨s1.1, s2.nothing fun X hX hP => ?_, s3.1, t2.1, s3.n⟩
  have a1 := hX.tri (i + 1) (i + 1) j (by omega) (by omega) (by omega)
  have a2 := hX.diag (i + 1) (by omega)
  have a3 := hP.2
  have a4 := hP.1.2
  omega
set_option maxRecDepth 100000 in
set_option maxHeartbeats 8000000 in
theorem nones_walk (x y b : Int) (hb1 : -2147483648 ≤ b) (hb2 : b ≤ 2147483647) (w : World) : Calls Try.prog 15 #[.int .i64 x, .int .i64 y, .int .i32 b] w (Ret w (.bool true)) := by
  obtain ⟨p, hp⟩ : ∃ p : Nat, (IntKind.u64.wrap x).toNat = p := ⟨_, rfl⟩
  obtain ⟨q, hq⟩ : ∃ q : Nat, (IntKind.u64.wrap y).toNat = q := ⟨_, rfl⟩
  have hpp : IntKind.u64.wrap x = (p : Int) := by rw [← hp]; exact u64_nat _
  have hqq : IntKind.u64.wrap y = (q : Int) := by rw [← hq]; exact u64_nat _
  obtain ⟨i, hi⟩ : ∃ i : Nat, p % 4 = i := ⟨_, rfl⟩
  obtain ⟨j, hj⟩ : ∃ j : Nat, q % 5 = j := ⟨_, rfl⟩
  have x1 : (p : Int) % 4 = (i : Int) := by omega
  have x2 : (q : Int) % 5 = (j : Int) := by omega
  have hi4 : i < 4 := by omega
  have hj5 : j ≤ 4 := by omega
  clear hp hq hi hj
  obtain ⟨d, hd⟩ : ∃ d : Int, b.tmod 100000 = d := ⟨_, rfl⟩
  obtain ⟨hd1, hd2⟩ : -100000 ≤ d ∧ d ≤ 100000 := by rw [← hd]; exact tmod_bd5 _
  by_cases hij : i + 1 = j
  · have e1 : ((i : Int) == (j : Int) - 1) = true := by simp; omega
    go_enter Try.func15, Try.ntmps15
    go_wp2_with (first
      | (go_at_call 24; ((with_reducible refine (copies_any _).mono ?_); rintro e W2 ⟨rfl, hb⟩))
      | fail)
    go_ret
    exact ⟨rfl, hb⟩
  · have e1 : ((i : Int) == (j : Int) - 1) = false := by simp; omega
    obtain ⟨k1, k2, k3, k4, k5⟩ := nones hi4 hj5 hij hd1 hd2
    have kt := t4_rep
    have ktn : (topZ 4).n = 4 := topZ_n 4
    obtain ⟨T0, hT⟩ : ∃ z, topZ 4 = z := ⟨_, rfl⟩
    have c0 : ∀ W : World, Calls Try.prog 21 #[.int .i64 4] W (Ret W (.agg (zc T0.n T0.none T0.D))) := fun W => by rw [← hT]; exact top_any 4 (by omega) W
    rw [hT] at k1 k2 k3 k4 k5 ktn
    obtain ⟨Z1, hZ1⟩ : ∃ z, boundZ T0 (i : Int) ((j : Int) - 1) d = z := ⟨_, rfl⟩
    have c1 : ∀ W : World, Calls Try.prog 22 #[.agg (zc T0.n T0.none T0.D), .int .i64 (i : Int), .int .i64 ((j : Int) - 1), .int .i64 d] W (Ret W (.agg (zc Z1.n Z1.none Z1.D))) := fun W => by
      have := bound_any T0 (by omega) (i : Int) ((j : Int) - 1) d W
      rw [hZ1] at this; exact this
    have z1n : Z1.n ≤ 6 := by rw [← hZ1, boundZ_n]; omega
    rw [hZ1] at k1 k2 k3 k4 k5
    have c2 : ∀ W : World, Calls Try.prog 22 #[.agg (zc Z1.n Z1.none Z1.D), .int .i64 ((j : Int) - 1), .int .i64 (i : Int), .int .i64 (-1 - d)] W (Ret W (.agg (noneZ 4).c)) := fun W => by
      have := bound_any Z1 z1n ((j : Int) - 1) (i : Int) (-1 - d) W
      rw [k2] at this; exact this
    obtain ⟨V, hV⟩ : ∃ z, boundZ Z1 ((j : Int) - 1) (i : Int) (-d) = z := ⟨_, rfl⟩
    have c3 : ∀ W : World, Calls Try.prog 22 #[.agg (zc Z1.n Z1.none Z1.D), .int .i64 ((j : Int) - 1), .int .i64 (i : Int), .int .i64 (-d)] W (Ret W (.agg V.c)) := fun W => by
      have := bound_any Z1 z1n ((j : Int) - 1) (i : Int) (-d) W
      rw [hV] at this; exact this
    rw [hV] at k3 k4 k5
    have ko := noneZ_ok (n := 4) (by omega)
    have d1 : ∀ W : World, Calls Try.prog 44 #[.agg (noneZ 4).c] W (Ret W (.bool true)) := fun W => right_ok ko W
    have d2 : ∀ W : World, Calls Try.prog 23 #[.agg (noneZ 4).c, .int .i64 0, .int .i64 1, .int .i64 2] W (Ret W (.agg (noneZ 4).c)) := fun W => by
      have := copy_any (noneZ 4) ko.n 0 1 2 W
      rw [copyZ_no _ _ _ (fun h => by rw [varB_iff] at h; cases h.1.1)] at this; exact this
    have d3 : ∀ W : World, Calls Try.prog 33 #[.agg (noneZ 4).c, .int .i64 0] W (Ret W (.agg (noneZ 4).c)) := fun W => by
      have := forget_any (noneZ 4) ko.n 0 W
      rw [forgetZ_no _ (fun h => by rw [varB_iff] at h; cases h.1)] at this; exact this
    have d4 : ∀ W : World, Calls Try.prog 22 #[.agg (noneZ 4).c, .int .i64 0, .int .i64 1, .int .i64 2] W (Ret W (.agg (noneZ 4).c)) := fun W => by
      have := bound_any (noneZ 4) ko.n 0 1 2 W
      rw [boundZ_none rfl] at this; exact this
    have d5 : ∀ W : World, Calls Try.prog 25 #[.agg (noneZ 4).c, .int .i64 0] W (Ret W (.agg (ic 1 0))) := fun W => by
      have := zitv_any (noneZ 4) ko.n 0 W
      rw [itvZ_none _ (fun h => by rw [varB_iff] at h; cases h.1)] at this; exact this
    have w1 : withinB (noneZ 4) V = true := within_iff.2 ⟨k5.symm, .inl rfl⟩
    have w2 : withinB V (noneZ 4) = false := within_not fun h => by
      rcases (within_iff.1 h).2 with h1 | ⟨h1, _⟩
      · rw [k4] at h1; cases h1
      · cases h1
    have d6 : ∀ W : World, Calls Try.prog 57 #[.agg (noneZ 4).c, .agg V.c] W (Ret W (.agg V.c)) := fun W => by
      have := join_any ko k3 W
      rw [joinZ_r k5.symm k4 rfl] at this; exact this
    have d7 : ∀ W : World, Calls Try.prog 57 #[.agg V.c, .agg (noneZ 4).c] W (Ret W (.agg V.c)) := fun W => by
      have := join_any k3 ko W
      rw [joinZ_l (.inr rfl)] at this; exact this
    have d8 : ∀ W : World, Calls Try.prog 58 #[.agg (noneZ 4).c, .agg V.c] W (Ret W (.agg V.c)) := fun W => by
      have := widen_any ko k3 W
      rw [widZ_r (by rw [w2, k5]; simp [noneZ]) rfl] at this; exact this
    have d9 : ∀ W : World, Calls Try.prog 58 #[.agg V.c, .agg (noneZ 4).c] W (Ret W (.agg V.c)) := fun W => by
      have := widen_any k3 ko W
      rw [widZ_l (.inr w1)] at this; exact this
    have f1 : ∀ W : World, Calls Try.prog 43 #[.agg (noneZ 4).c, .agg V.c] W (Ret W (.bool true)) := fun W => by
      have := within_any (noneZ 4) V ko.n W
      rw [w1] at this; exact this
    have f2 : ∀ W : World, Calls Try.prog 43 #[.agg V.c, .agg (noneZ 4).c] W (Ret W (.bool false)) := fun W => by
      have := within_any V (noneZ 4) k3.n W
      rw [w2] at this; exact this
    obtain ⟨vn, vb, vd⟩ := V
    have k4 : vb = false := k4
    subst k4
    obtain ⟨N, hN⟩ : ∃ N, noneZ 4 = N := ⟨_, rfl⟩
    have hNn : N.none = true := by rw [← hN]; rfl
    rw [hN] at c2 d1 d2 d3 d4 d5 d6 d7 d8 d9 f1 f2
    clear hN hT hZ1 hV k1 k2 k3 k5 kt ktn z1n ko w1 w2 hij hi4 hj5
    obtain ⟨nn, nb, nd⟩ := N
    have hNn : nb = true := hNn
    subst hNn
    have C0 := Lib.hid c0
    have C1 := Lib.hid c1
    have C2 : Hid (∀ W : World, Calls Try.prog 22 #[.agg (zc Z1.n Z1.none Z1.D), .int .i64 ((j : Int) - 1), .int .i64 (i : Int), .int .i64 (-1 - d)] W (Ret W (.agg (zc nn true nd)))) := c2
    have C3 : Hid (∀ W : World, Calls Try.prog 22 #[.agg (zc Z1.n Z1.none Z1.D), .int .i64 ((j : Int) - 1), .int .i64 (i : Int), .int .i64 (-d)] W (Ret W (.agg (zc vn false vd)))) := c3
    have D1 : Hid (∀ W : World, Calls Try.prog 44 #[.agg (zc nn true nd)] W (Ret W (.bool true))) := d1
    have D2 : Hid (∀ W : World, Calls Try.prog 23 #[.agg (zc nn true nd), .int .i64 0, .int .i64 1, .int .i64 2] W (Ret W (.agg (zc nn true nd)))) := d2
    have D3 : Hid (∀ W : World, Calls Try.prog 33 #[.agg (zc nn true nd), .int .i64 0] W (Ret W (.agg (zc nn true nd)))) := d3
    have D4 : Hid (∀ W : World, Calls Try.prog 22 #[.agg (zc nn true nd), .int .i64 0, .int .i64 1, .int .i64 2] W (Ret W (.agg (zc nn true nd)))) := d4
    have D5 : Hid (∀ W : World, Calls Try.prog 25 #[.agg (zc nn true nd), .int .i64 0] W (Ret W (.agg (ic 1 0)))) := d5
    have D6 : Hid (∀ W : World, Calls Try.prog 57 #[.agg (zc nn true nd), .agg (zc vn false vd)] W (Ret W (.agg (zc vn false vd)))) := d6
    have D7 : Hid (∀ W : World, Calls Try.prog 57 #[.agg (zc vn false vd), .agg (zc nn true nd)] W (Ret W (.agg (zc vn false vd)))) := d7
    have D8 : Hid (∀ W : World, Calls Try.prog 58 #[.agg (zc nn true nd), .agg (zc vn false vd)] W (Ret W (.agg (zc vn false vd)))) := d8
    have D9 : Hid (∀ W : World, Calls Try.prog 58 #[.agg (zc vn false vd), .agg (zc nn true nd)] W (Ret W (.agg (zc vn false vd)))) := d9
    have F1 : Hid (∀ W : World, Calls Try.prog 43 #[.agg (zc nn true nd), .agg (zc vn false vd)] W (Ret W (.bool true))) := f1
    have F2 : Hid (∀ W : World, Calls Try.prog 43 #[.agg (zc vn false vd), .agg (zc nn true nd)] W (Ret W (.bool false))) := f2
    clear c0 c1 c2 c3 d1 d2 d3 d4 d5 d6 d7 d8 d9 f1 f2
    generalize (T0.n : Int) = t0 at *
    generalize (Z1.n : Int) = z1 at *
    generalize (vn : Int) = vi at *
    generalize (nn : Int) = ni at *
    go_enter Try.func15, Try.ntmps15
    go_wp2_with (first
      | (go_at_call 21; ((with_reducible refine (C0.out _).mono ?_); (first | (have _t := hz; rintro e W4 ⟨rfl, hb4⟩; have hz := hz.on hb4; have hb := hb.trans (hb4.mono hb.size); clear hb4 _t) | (rintro e W4 ⟨rfl, hb⟩))))
      | (go_at_call 22; ((with_reducible refine (C1.out _).mono ?_); rintro e W5 ⟨rfl, hb5⟩; (first | (have hz := hz.on hb5) | skip); have hb := hb.trans (hb5.mono hb.size); clear hb5))
      | (go_at_call 22; ((with_reducible refine (C2.out _).mono ?_); rintro e W6 ⟨rfl, hb5⟩; have hb := hb.trans (hb5.mono hb.size); clear hb5))
      | (go_at_call 22; ((with_reducible refine (C3.out _).mono ?_); rintro e W9 ⟨rfl, hb5⟩; have hgz := Nat.lt_of_lt_of_le hz.lt hb5.size; have hz := hz.on hb5; have hb := hb.trans (hb5.mono hb.size); clear hb5))
      | (have _t := hgz; refine wpList_alloc_zone rfl 26 rfl zz ?_; intro W10 hv hb6 hs6; have hz := hz.on hb6; have hb := hb.trans (hb6.mono hb.size); clear hb6 _t)
      | (refine wpList_alloc_zone rfl 26 rfl zz ?_; intro W7 hz hb6 hs6; have hge := hb.size; have hb := hb.trans (hb6.mono hge); clear hb6)
      | (have _t := hgz; refine store_z rfl _ _ rfl rfl rfl hv ?_; intro W11 hv7 hg7 hs7; have hz := hz.only hg7 (by omega); have hb := below_only hb hg7 hb.size (by omega); clear hv; have hv := hv7; have hbz := hz.b_cell; have hbv := hv.b_cell; clear hv7 hg7 hs7 _t)
      | (refine store_z rfl _ _ rfl rfl rfl hz ?_; intro W8 hz6 hg6 hs6; have hb := below_only hb hg6 hb.size (by omega); clear hz; have hz := hz6; clear hz6 hg6 hs6)
      | fail)
    generalize W6.heap.size = g at *
    generalize W9.heap.size = gv at *
    clear C0 C1 C2 C3
    simp only [List.append_eq, List.cons_append, List.nil_append]
    refine head0 76 (by kernel_rfl) (by kernel_rfl) (by kernel_rfl) (by kernel_rfl) ?_
    simp only [List.take_succ_cons, List.take_zero, List.drop_succ_cons, List.drop_zero]
    (refine o_start ?_; (iterate 76 (first | (refine o_skip rfl rfl rfl ?_) | (refine o_have rfl fun hw => ?_; (first | (refine o_move hw.out _ rfl rfl rfl rfl ?_) | (refine o_pickT hw.out _ _ _ rfl rfl rfl rfl rfl ?_) | (refine o_pickF hw.out _ _ _ rfl rfl rfl rfl rfl ?_) | (refine o_load_z hw.out _ rfl rfl hz rfl rfl ?_) | (refine o_load_z hw.out _ rfl rfl hv rfl rfl ?_) | (refine o_loadc hw.out _ _ rfl rfl hbz rfl rfl (by first | exact Try.underlying3 | exact Try.underlying4) rfl ?_) | (refine o_loadc hw.out _ _ rfl rfl hbv rfl rfl (by first | exact Try.underlying3 | exact Try.underlying4) rfl ?_) | (refine o_bin hw.out _ _ _ _ _ rfl rfl rfl rfl rfl (fun W => by go_simp; first | done | rfl) ?_) | (refine o_un hw.out _ _ _ rfl rfl rfl rfl (fun W => by go_simp; first | done | rfl) ?_) | (refine o_field hw.out _ _ _ rfl rfl rfl rfl (fun W => by go_simp; first | done | rfl) ?_) | (refine o_index hw.out _ _ _ rfl rfl rfl rfl rfl (fun W => by go_simp; first | done | rfl) ?_) | (refine o_conv hw.out _ _ _ rfl rfl rfl rfl (fun W => by go_simp; first | done | rfl) ?_) | (refine o_call hw.out _ _ _ rfl rfl (fun W hW => copies_any W) (by with_reducible rfl) (by with_reducible rfl) rfl rfl (fun ρ W hρ => by go_simp; done) ?_) | (refine o_call hw.out _ _ _ rfl rfl (fun W hW => D1.out W) (by with_reducible rfl) (by with_reducible rfl) rfl rfl (fun ρ W hρ => by go_simp; done) ?_) | (refine o_call hw.out _ _ _ rfl rfl (fun W hW => D2.out W) (by with_reducible rfl) (by with_reducible rfl) rfl rfl (fun ρ W hρ => by go_simp; done) ?_) | (refine o_call hw.out _ _ _ rfl rfl (fun W hW => D3.out W) (by with_reducible rfl) (by with_reducible rfl) rfl rfl (fun ρ W hρ => by go_simp; done) ?_) | (refine o_call hw.out _ _ _ rfl rfl (fun W hW => D4.out W) (by with_reducible rfl) (by with_reducible rfl) rfl rfl (fun ρ W hρ => by go_simp; done) ?_) | (refine o_call hw.out _ _ _ rfl rfl (fun W hW => D5.out W) (by with_reducible rfl) (by with_reducible rfl) rfl rfl (fun ρ W hρ => by go_simp; done) ?_) | (refine o_call hw.out _ _ _ rfl rfl (fun W hW => inone_any W) (by with_reducible rfl) (by with_reducible rfl) rfl rfl (fun ρ W hρ => by go_simp; done) ?_) | (refine o_call hw.out _ _ _ rfl rfl (fun W hW => D6.out W) (by with_reducible rfl) (by with_reducible rfl) rfl rfl (fun ρ W hρ => by go_simp; done) ?_) | (refine o_call hw.out _ _ _ rfl rfl (fun W hW => D7.out W) (by with_reducible rfl) (by with_reducible rfl) rfl rfl (fun ρ W hρ => by go_simp; done) ?_) | (refine o_call hw.out _ _ _ rfl rfl (fun W hW => D8.out W) (by with_reducible rfl) (by with_reducible rfl) rfl rfl (fun ρ W hρ => by go_simp; done) ?_) | (refine o_call hw.out _ _ _ rfl rfl (fun W hW => D9.out W) (by with_reducible rfl) (by with_reducible rfl) rfl rfl (fun ρ W hρ => by go_simp; done) ?_) | (refine o_call hw.out _ _ _ rfl rfl (fun W hW => F1.out W) (by with_reducible rfl) (by with_reducible rfl) rfl rfl (fun ρ W hρ => by go_simp; done) ?_) | (refine o_call hw.out _ _ _ rfl rfl (fun W hW => F2.out W) (by with_reducible rfl) (by with_reducible rfl) rfl rfl (fun ρ W hρ => by go_simp; done) ?_)); clear hw))); refine o_end ?_; simp only [app, List.set_cons_succ, List.set_cons_zero])
    intro w3 hb3
    have hb := hb.trans (hb3.mono hb.size)
    clear hb3 hz hv hbz hbv
    go_wp2
    go_ret
    exact ⟨rfl, hb⟩
end Go.Proofs.Ytgnkhncogfppgaa
