import Derived.Test.YtgnkhncogfppgaaL8
import Derived.Test.YtgnkhncogfppgaaBD
namespace Go.Proofs.Ytgnkhncogfppgaa
open Go.RowKit
@[go_sem high] theorem zeq_refl (n : Int) (b : Bool) (D : Mat) : zeq n b D n b D = true := zeq_iff.2 rfl
set_option maxRecDepth 100000 in
set_option maxHeartbeats 4000000 in
theorem orders_walk (a b c : Nat → Int) (w : World) : Calls Try.prog 8 #[.agg (ac a), .agg (ac b), .agg (ac c)] w (Ret w (.bool true)) := by
  obtain ⟨k1, k2, k3, k4, k5, k6, k7, k8, k9⟩ := orders a b c
  have kt := t4_rep
  have ktn : (topZ 4).n = 4 := topZ_n 4
  obtain ⟨T0, hT⟩ : ∃ z, topZ 4 = z := ⟨_, rfl⟩
  have c0 : ∀ W : World, Calls Try.prog 21 #[.int .i64 4] W (Ret W (.agg (zc T0.n T0.none T0.D))) := fun W => by rw [← hT]; exact top_any 4 (by omega) W
  rw [hT] at k1 k2 k3 k4 k5 k6 k7 k8 k9 ktn
  have m1 : ∀ W : World, Calls Try.prog 42 #[.agg (zc T0.n T0.none T0.D), .agg (ac a)] W (Ret W (.agg (bndZ T0 a).c)) := fun W => bnd_any (by omega) a W
  have m2 : ∀ W : World, Calls Try.prog 42 #[.agg (bndZ T0 a).c, .agg (ac b)] W (Ret W (.agg (bndZ (bndZ T0 a) b).c)) := fun W => bnd_any (by omega) b W
  have m3 : ∀ W : World, Calls Try.prog 42 #[.agg (bndZ (bndZ T0 a) b).c, .agg (ac c)] W (Ret W (.agg (bndZ (bndZ (bndZ T0 a) b) c).c)) := fun W => bnd_any (by have := (k8 a b).2; omega) c W
  have m4 : ∀ W : World, Calls Try.prog 42 #[.agg (zc T0.n T0.none T0.D), .agg (ac c)] W (Ret W (.agg (bndZ T0 c).c)) := fun W => bnd_any (by omega) c W
  have m5 : ∀ W : World, Calls Try.prog 42 #[.agg (bndZ T0 c).c, .agg (ac a)] W (Ret W (.agg (bndZ (bndZ T0 c) a).c)) := fun W => bnd_any (by
    have := (bnd_rep kt.1 kt.2 c).2.1; rw [hT] at this; omega) a W
  have m6 : ∀ W : World, Calls Try.prog 42 #[.agg (bndZ (bndZ T0 c) a).c, .agg (ac b)] W (Ret W (.agg (bndZ (bndZ (bndZ T0 a) b) c).c)) := fun W => by rw [← k2]; exact bnd_any (by have := (k8 c a).2; omega) b W
  have m7 : ∀ W : World, Calls Try.prog 42 #[.agg (bndZ (bndZ (bndZ T0 a) b) c).c, .agg (ac b)] W (Ret W (.agg (bndZ (bndZ (bndZ T0 a) b) c).c)) := fun W => by
    have := bnd_any (z := bndZ (bndZ (bndZ T0 a) b) c) (by omega) b W
    rw [k3] at this; exact this
  have m8 : ∀ W : World, Calls Try.prog 43 #[.agg (bndZ (bndZ (bndZ T0 a) b) c).c, .agg (bndZ T0 a).c] W (Ret W (.bool true)) := fun W => by
    have := within_any (bndZ (bndZ (bndZ T0 a) b) c) (bndZ T0 a) (by omega) W
    rw [k4] at this; exact this
  have m9 : ∀ W : World, Calls Try.prog 44 #[.agg (bndZ (bndZ (bndZ T0 a) b) c).c] W (Ret W (.bool true)) := fun W => right_ok k1 W
  clear k1 k2 k3 k4 k5 k6 k7 k8 k9 kt ktn hT
  generalize bndZ (bndZ (bndZ T0 a) b) c = Z at *
  generalize bndZ (bndZ T0 a) b = A2 at *
  generalize bndZ T0 a = A1 at *
  generalize bndZ (bndZ T0 c) a = C2 at *
  generalize bndZ T0 c = C1 at *
  obtain ⟨zn, zb, zd⟩ := Z
  have C0 := Lib.hid c0
  have M1 : Hid (∀ W : World, Calls Try.prog 42 #[.agg (zc T0.n T0.none T0.D), .agg (ac a)] W (Ret W (.agg (zc A1.n A1.none A1.D)))) := m1
  have M2 : Hid (∀ W : World, Calls Try.prog 42 #[.agg (zc A1.n A1.none A1.D), .agg (ac b)] W (Ret W (.agg (zc A2.n A2.none A2.D)))) := m2
  have M3 : Hid (∀ W : World, Calls Try.prog 42 #[.agg (zc A2.n A2.none A2.D), .agg (ac c)] W (Ret W (.agg (zc zn zb zd)))) := m3
  have M4 : Hid (∀ W : World, Calls Try.prog 42 #[.agg (zc T0.n T0.none T0.D), .agg (ac c)] W (Ret W (.agg (zc C1.n C1.none C1.D)))) := m4
  have M5 : Hid (∀ W : World, Calls Try.prog 42 #[.agg (zc C1.n C1.none C1.D), .agg (ac a)] W (Ret W (.agg (zc C2.n C2.none C2.D)))) := m5
  have M6 : Hid (∀ W : World, Calls Try.prog 42 #[.agg (zc C2.n C2.none C2.D), .agg (ac b)] W (Ret W (.agg (zc zn zb zd)))) := m6
  have M7 : Hid (∀ W : World, Calls Try.prog 42 #[.agg (zc zn zb zd), .agg (ac b)] W (Ret W (.agg (zc zn zb zd)))) := m7
  have M8 : Hid (∀ W : World, Calls Try.prog 43 #[.agg (zc zn zb zd), .agg (zc A1.n A1.none A1.D)] W (Ret W (.bool true))) := m8
  have M9 : Hid (∀ W : World, Calls Try.prog 44 #[.agg (zc zn zb zd)] W (Ret W (.bool true))) := m9
  clear c0 m1 m2 m3 m4 m5 m6 m7 m8 m9
  generalize (T0.n : Int) = t0 at *
  generalize (A1.n : Int) = n1 at *
  generalize (A2.n : Int) = n2 at *
  generalize (C1.n : Int) = n3 at *
  generalize (C2.n : Int) = n4 at *
  generalize (zn : Int) = zi at *
  go_enter Try.func8, Try.ntmps8
  go_wp2_with (first
    | (have _t := hrb; refine box_row rfl 48 _ rfl _ rfl ?_; intro W3 hrc hb3 hs3; rw [hs2.out] at hrc hb3 hs3; rw [hs2.out]; have hra := hra.below hb3 (by omega); have hrb := hrb.below hb3 (by omega); have hb := hb.trans (hb3.mono (by omega)); clear hb3 hs2 _t)
    | (have _t := hra; refine box_row rfl 48 _ rfl _ rfl ?_; intro W2 hrb hb2 hs2; rw [hs1.out] at hrb hb2 hs2; rw [hs1.out]; have hra := hra.below hb2 (by omega); have hb := hb.trans (hb2.mono (by omega)); clear hb2 hs1 _t)
    | (refine box_row rfl 48 _ rfl _ rfl ?_; intro W1 hra hb hs1)
    | (go_at_call 21; ((with_reducible refine (C0.out _).mono ?_); rintro e W4 ⟨rfl, hb4⟩; have hs4 := hb4.size; have hra := hra.on hb4; have hrb := hrb.on hb4; have hrc := hrc.on hb4; have hb := hb.trans (hb4.mono hb.size); clear hb4))
    | (refine wpList_alloc_zone rfl 26 rfl zz ?_; intro W5 hz hb5 hs5; have hra := hra.on hb5; have hrb := hrb.on hb5; have hrc := hrc.on hb5; have hb := hb.trans (hb5.mono hb.size); clear hb5)
    | (refine store_z rfl _ _ rfl rfl rfl hz ?_; intro W6 hz6 hg6 hs6; have hra := hra.kept hg6 (fun j hj => by injection hj with hj; exact Nat.le_of_eq hj) (by have := hs3.out; omega); have hrb := hrb.kept hg6 (fun j hj => by injection hj with hj; exact Nat.le_of_eq hj) (by have := hs3.out; omega); have hrc := hrc.kept hg6 (fun j hj => by injection hj with hj; exact Nat.le_of_eq hj) (by have := hs3.out; omega); have hb := below_only hb hg6 hb.size (by have := hs3.out; omega); clear hz; have hz := hz6; clear hz6 hg6 hs6)
    | fail)
  have hl : w.heap.size + 2 < W4.heap.size := by have := hs3.out; omega
  clear hs3 hs4 hs5
  generalize W4.heap.size = g at *
  generalize h1 : w.heap.size + 1 = g1 at *
  simp only [Act.put, List.setIfInBounds_toArray, List.set_cons_succ, List.set_cons_zero]
  refine head1z 8 (by kernel_rfl) (by kernel_rfl) (by kernel_rfl) 7 (by kernel_rfl) 8 26 (by kernel_rfl) _ zz ?_
  simp only [List.take_succ_cons, List.take_zero, List.drop_succ_cons, List.drop_zero]
  (refine o_start ?_; (iterate 8 (first | (refine o_skip rfl rfl rfl ?_) | (refine o_have rfl fun hw => ?_; (first | (refine o_move hw.out _ rfl rfl rfl rfl ?_) | (refine o_pickT hw.out _ _ _ rfl rfl rfl rfl rfl ?_) | (refine o_pickF hw.out _ _ _ rfl rfl rfl rfl rfl ?_) | (refine o_new hw.out rfl rfl rfl ?_) | (refine o_load_z hw.out _ rfl rfl hz rfl rfl ?_) | (refine o_load_row hw.out _ _ rfl rfl hra (by first | exact Try.underlying48) rfl asz rfl rfl ?_) | (refine o_load_row hw.out _ _ rfl rfl hrb (by first | exact Try.underlying48) rfl asz rfl rfl ?_) | (refine o_load_row hw.out _ _ rfl rfl hrc (by first | exact Try.underlying48) rfl asz rfl rfl ?_) | (refine o_bin hw.out _ _ _ _ _ rfl rfl rfl rfl rfl (fun W => by go_simp; first | done | rfl) ?_) | (refine o_un hw.out _ _ _ rfl rfl rfl rfl (fun W => by go_simp; first | done | rfl) ?_) | (refine o_field hw.out _ _ _ rfl rfl rfl rfl (fun W => by go_simp; first | done | rfl) ?_) | (refine o_index hw.out _ _ _ rfl rfl rfl rfl rfl (fun W => by go_simp; first | done | rfl) ?_) | (refine o_conv hw.out _ _ _ rfl rfl rfl rfl (fun W => by go_simp; first | done | rfl) ?_) | (refine o_call hw.out _ _ _ rfl rfl (fun W hW => M1.out W) (by with_reducible rfl) (by with_reducible rfl) rfl rfl (fun ρ W hρ => by go_simp; done) ?_) | (refine o_call hw.out _ _ _ rfl rfl (fun W hW => M2.out W) (by with_reducible rfl) (by with_reducible rfl) rfl rfl (fun ρ W hρ => by go_simp; done) ?_) | (refine o_call hw.out _ _ _ rfl rfl (fun W hW => M3.out W) (by with_reducible rfl) (by with_reducible rfl) rfl rfl (fun ρ W hρ => by go_simp; done) ?_)); clear hw))); refine o_end ?_; simp only [app, List.set_cons_succ, List.set_cons_zero])
  intro w1 u1 hb1 hu1 hzu
  have hsz := hz.lt
  have hzu : ZAt 26 w1 u1 0 false (fun _ _ => 0) := hzu
  have hra := hra.on hb1
  have hrb := hrb.on hb1
  have hrc := hrc.on hb1
  have hz := hz.on hb1
  have hb := hb.trans (hb1.mono hb.size)
  have hug : g < u1 := by omega
  have M1' := M1
  clear hb1 hu1 hsz M1 M2 M3
  simp only [Act.put, List.setIfInBounds_toArray, List.set_cons_succ, List.set_cons_zero]
  go_wp2_with (first
    | (refine store_z rfl _ _ rfl rfl rfl hzu ?_; intro W6 hz6 hg6 hs6; have hra := hra.kept (base := u1) hg6 (fun j hj => by injection hj with hj; exact Nat.le_of_eq hj) (by omega); have hrb := hrb.kept (base := u1) hg6 (fun j hj => by injection hj with hj; exact Nat.le_of_eq hj) (by omega); have hrc := hrc.kept (base := u1) hg6 (fun j hj => by injection hj with hj; exact Nat.le_of_eq hj) (by omega); have hz := hz.kept (base := u1) hg6 (fun j hj => by injection hj with hj; exact Nat.le_of_eq hj) (by omega); have hb := below_only hb hg6 hb.size (by omega); clear hzu; have hzu := hz6; clear hz6 hg6 hs6)
    | fail)
  refine head1z 8 (by kernel_rfl) (by kernel_rfl) (by kernel_rfl) 7 (by kernel_rfl) 9 26 (by kernel_rfl) _ zz ?_
  simp only [List.take_succ_cons, List.take_zero, List.drop_succ_cons, List.drop_zero]
  (refine o_start ?_; (iterate 8 (first | (refine o_skip rfl rfl rfl ?_) | (refine o_have rfl fun hw => ?_; (first | (refine o_move hw.out _ rfl rfl rfl rfl ?_) | (refine o_pickT hw.out _ _ _ rfl rfl rfl rfl rfl ?_) | (refine o_pickF hw.out _ _ _ rfl rfl rfl rfl rfl ?_) | (refine o_new hw.out rfl rfl rfl ?_) | (refine o_load_z hw.out _ rfl rfl hz rfl rfl ?_) | (refine o_load_row hw.out _ _ rfl rfl hra (by first | exact Try.underlying48) rfl asz rfl rfl ?_) | (refine o_load_row hw.out _ _ rfl rfl hrb (by first | exact Try.underlying48) rfl asz rfl rfl ?_) | (refine o_load_row hw.out _ _ rfl rfl hrc (by first | exact Try.underlying48) rfl asz rfl rfl ?_) | (refine o_bin hw.out _ _ _ _ _ rfl rfl rfl rfl rfl (fun W => by go_simp; first | done | rfl) ?_) | (refine o_un hw.out _ _ _ rfl rfl rfl rfl (fun W => by go_simp; first | done | rfl) ?_) | (refine o_field hw.out _ _ _ rfl rfl rfl rfl (fun W => by go_simp; first | done | rfl) ?_) | (refine o_index hw.out _ _ _ rfl rfl rfl rfl rfl (fun W => by go_simp; first | done | rfl) ?_) | (refine o_conv hw.out _ _ _ rfl rfl rfl rfl (fun W => by go_simp; first | done | rfl) ?_) | (refine o_call hw.out _ _ _ rfl rfl (fun W hW => M4.out W) (by with_reducible rfl) (by with_reducible rfl) rfl rfl (fun ρ W hρ => by go_simp; done) ?_) | (refine o_call hw.out _ _ _ rfl rfl (fun W hW => M5.out W) (by with_reducible rfl) (by with_reducible rfl) rfl rfl (fun ρ W hρ => by go_simp; done) ?_) | (refine o_call hw.out _ _ _ rfl rfl (fun W hW => M6.out W) (by with_reducible rfl) (by with_reducible rfl) rfl rfl (fun ρ W hρ => by go_simp; done) ?_)); clear hw))); refine o_end ?_; simp only [app, List.set_cons_succ, List.set_cons_zero])
  intro w2 u2 hb2 hu2 hzv
  have hsz := hzu.lt
  have hzv : ZAt 26 w2 u2 0 false (fun _ _ => 0) := hzv
  have hra := hra.on hb2
  have hrb := hrb.on hb2
  have hz := hz.on hb2
  have hzu := hzu.on hb2
  have hb := hb.trans (hb2.mono hb.size)
  have hvg : u1 < u2 := by omega
  clear hb2 hu2 hsz M4 M5 M6 hrc
  simp only [Act.put, List.setIfInBounds_toArray, List.set_cons_succ, List.set_cons_zero]
  go_wp2_with (first
    | (refine store_z rfl _ _ rfl rfl rfl hzv ?_; intro W6 hz6 hg6 hs6; have hra := hra.kept (base := u2) hg6 (fun j hj => by injection hj with hj; exact Nat.le_of_eq hj) (by omega); have hrb := hrb.kept (base := u2) hg6 (fun j hj => by injection hj with hj; exact Nat.le_of_eq hj) (by omega); have hz := hz.kept (base := u2) hg6 (fun j hj => by injection hj with hj; exact Nat.le_of_eq hj) (by omega); have hzu := hzu.kept (base := u2) hg6 (fun j hj => by injection hj with hj; exact Nat.le_of_eq hj) (by omega); have hb := below_only hb hg6 hb.size (by omega); clear hzv; have hzv := hz6; clear hz6 hg6 hs6)
    | fail)
  have hbc := hzu.b_cell
  have M1 := M1'
  cases zb with
  | true =>
    refine head0 27 (by kernel_rfl) (by kernel_rfl) (by kernel_rfl) (by kernel_rfl) ?_
    simp only [List.take_succ_cons, List.take_zero, List.drop_succ_cons, List.drop_zero]
    (refine o_start ?_; (iterate 27 (first | (refine o_skip rfl rfl rfl ?_) | (refine o_have rfl fun hw => ?_; (first | (refine o_move hw.out _ rfl rfl rfl rfl ?_) | (refine o_pickT hw.out _ _ _ rfl rfl rfl rfl rfl ?_) | (refine o_pickF hw.out _ _ _ rfl rfl rfl rfl rfl ?_) | (refine o_load_z hw.out _ rfl rfl hz rfl rfl ?_) | (refine o_load_z hw.out _ rfl rfl hzu rfl rfl ?_) | (refine o_load_z hw.out _ rfl rfl hzv rfl rfl ?_) | (refine o_loadc hw.out _ _ rfl rfl hbc rfl rfl (by first | exact Try.underlying3 | exact Try.underlying4) rfl ?_) | (refine o_load_row hw.out _ _ rfl rfl hra (by first | exact Try.underlying48) rfl asz rfl rfl ?_) | (refine o_load_row hw.out _ _ rfl rfl hrb (by first | exact Try.underlying48) rfl asz rfl rfl ?_) | (refine o_bin hw.out _ _ _ _ _ rfl rfl rfl rfl rfl (fun W => by go_simp; first | done | rfl) ?_) | (refine o_un hw.out _ _ _ rfl rfl rfl rfl (fun W => by go_simp; first | done | rfl) ?_) | (refine o_field hw.out _ _ _ rfl rfl rfl rfl (fun W => by go_simp; first | done | rfl) ?_) | (refine o_index hw.out _ _ _ rfl rfl rfl rfl rfl (fun W => by go_simp; first | done | rfl) ?_) | (refine o_conv hw.out _ _ _ rfl rfl rfl rfl (fun W => by go_simp; first | done | rfl) ?_) | (refine o_call hw.out _ _ _ rfl rfl (fun W hW => copies_any W) (by with_reducible rfl) (by with_reducible rfl) rfl rfl (fun ρ W hρ => by go_simp; done) ?_) | (refine o_call hw.out _ _ _ rfl rfl (fun W hW => M1.out W) (by with_reducible rfl) (by with_reducible rfl) rfl rfl (fun ρ W hρ => by go_simp; done) ?_) | (refine o_call hw.out _ _ _ rfl rfl (fun W hW => M7.out W) (by with_reducible rfl) (by with_reducible rfl) rfl rfl (fun ρ W hρ => by go_simp; done) ?_) | (refine o_call hw.out _ _ _ rfl rfl (fun W hW => M8.out W) (by with_reducible rfl) (by with_reducible rfl) rfl rfl (fun ρ W hρ => by go_simp; done) ?_)); clear hw))); refine o_end ?_; simp only [app, List.set_cons_succ, List.set_cons_zero])
    intro w3 hb3
    have hb := hb.trans (hb3.mono hb.size)
    clear hb3 hz hzu hzv hra hrb hbc
    go_wp2
    go_ret
    exact ⟨rfl, hb⟩
  | false =>
    refine head0 27 (by kernel_rfl) (by kernel_rfl) (by kernel_rfl) (by kernel_rfl) ?_
    simp only [List.take_succ_cons, List.take_zero, List.drop_succ_cons, List.drop_zero]
    (refine o_start ?_; (iterate 27 (first | (refine o_skip rfl rfl rfl ?_) | (refine o_have rfl fun hw => ?_; (first | (refine o_move hw.out _ rfl rfl rfl rfl ?_) | (refine o_pickT hw.out _ _ _ rfl rfl rfl rfl rfl ?_) | (refine o_pickF hw.out _ _ _ rfl rfl rfl rfl rfl ?_) | (refine o_load_z hw.out _ rfl rfl hz rfl rfl ?_) | (refine o_load_z hw.out _ rfl rfl hzu rfl rfl ?_) | (refine o_load_z hw.out _ rfl rfl hzv rfl rfl ?_) | (refine o_loadc hw.out _ _ rfl rfl hbc rfl rfl (by first | exact Try.underlying3 | exact Try.underlying4) rfl ?_) | (refine o_load_row hw.out _ _ rfl rfl hra (by first | exact Try.underlying48) rfl asz rfl rfl ?_) | (refine o_load_row hw.out _ _ rfl rfl hrb (by first | exact Try.underlying48) rfl asz rfl rfl ?_) | (refine o_bin hw.out _ _ _ _ _ rfl rfl rfl rfl rfl (fun W => by go_simp; first | done | rfl) ?_) | (refine o_un hw.out _ _ _ rfl rfl rfl rfl (fun W => by go_simp; first | done | rfl) ?_) | (refine o_field hw.out _ _ _ rfl rfl rfl rfl (fun W => by go_simp; first | done | rfl) ?_) | (refine o_index hw.out _ _ _ rfl rfl rfl rfl rfl (fun W => by go_simp; first | done | rfl) ?_) | (refine o_conv hw.out _ _ _ rfl rfl rfl rfl (fun W => by go_simp; first | done | rfl) ?_) | (refine o_call hw.out _ _ _ rfl rfl (fun W hW => copies_any W) (by with_reducible rfl) (by with_reducible rfl) rfl rfl (fun ρ W hρ => by go_simp; done) ?_) | (refine o_call hw.out _ _ _ rfl rfl (fun W hW => M1.out W) (by with_reducible rfl) (by with_reducible rfl) rfl rfl (fun ρ W hρ => by go_simp; done) ?_) | (refine o_call hw.out _ _ _ rfl rfl (fun W hW => M7.out W) (by with_reducible rfl) (by with_reducible rfl) rfl rfl (fun ρ W hρ => by go_simp; done) ?_) | (refine o_call hw.out _ _ _ rfl rfl (fun W hW => M8.out W) (by with_reducible rfl) (by with_reducible rfl) rfl rfl (fun ρ W hρ => by go_simp; done) ?_) | (refine o_call hw.out _ _ _ rfl rfl (fun W hW => M9.out W) (by with_reducible rfl) (by with_reducible rfl) rfl rfl (fun ρ W hρ => by go_simp; done) ?_)); clear hw))); refine o_end ?_; simp only [app, List.set_cons_succ, List.set_cons_zero])
    intro w3 hb3
    have hb := hb.trans (hb3.mono hb.size)
    clear hb3 hz hzu hzv hra hrb hbc
    go_wp2
    go_ret
    exact ⟨rfl, hb⟩
end Go.Proofs.Ytgnkhncogfppgaa
