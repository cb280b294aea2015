import Derived.Test.YtgnkhncogfppgaaJ4
namespace Go.Proofs.Ytgnkhncogfppgaa
open Go.RowKit
set_option maxRecDepth 100000 in
set_option maxHeartbeats 4000000 in
theorem zerosof_any (k : Nat) (hk6 : k ≤ 6) (w : World) : Calls Try.prog 62 #[.int .i64 (k : Int)] w (Ret w (.agg (zerosZ k).c)) := by
  have HT : Hid (∀ W : World, Calls Try.prog 27 #[.int .i64 (k : Int)] W (Ret W (.agg (zc k (zrZ k 0).none (zrZ k 0).D)))) := fun W => by
    have := rtop_any k hk6 W
    rw [Zn.c, topZ_n] at this
    exact this
  go_enter Try.func62, Try.ntmps62
  go_wp2_with (first
    | (go_at_call 27; ((with_reducible refine (HT.out _).mono ?_); rintro e W2 ⟨rfl, hb2⟩; have hl0 := hz1.lt; have hl1 := hb2.size; have hz1 := hz1.on hb2; have hb := hb.trans (hb2.mono hb.size); clear hb2))
    | (have _t := hl1; refine wpList_alloc_zone rfl 38 rfl rz ?_; intro W3 hr hb3 hs3; have hz1 := hz1.on hb3; have hb := hb.trans (hb3.mono hb.size); clear hb3 _t)
    | (refine wpList_alloc_zone rfl 38 rfl rz ?_; intro W1 hz1 hb hs1)
    | (refine store_r rfl _ _ rfl rfl rfl hr ?_; intro W4 hr4 hg4 hs4; have hz1 := hz1.only hg4 (by omega); have hb := below_only hb hg4 hb.size (by omega); clear hr; have hr := hr4; clear hr4 hg4 hs4)
    | fail)
  have hgg : w.heap.size < W2.heap.size := by omega
  generalize W2.heap.size = g at *
  have HR := Lib.hid hr
  have HB := Lib.hid hb
  have HZ1 := Lib.hid hz1
  clear hr hb hz1 hl0 hl1 HT
  go_loopw [4] (fun i_ wr => ∃ x : Nat, x ≤ k ∧ i_ = .int .i64 (x : Int) ∧ Hid (Below w.heap.size w wr) ∧ Hid (ZAt 38 wr w.heap.size 0 false fun _ _ => 0) ∧ Hid (ZAt 38 wr g k (zrZ k x).none (zrZ k x).D)) (fun i _ => 7 - (intOf i).toNat)
  case atStart => exact ⟨0, by omega, rfl, HB, HZ1, HR⟩
  case round =>
    clear HB HZ1 HR
    obtain ⟨x, hx, rfl, HB, HZ1, HR⟩ := hrel
    have hz1 := HZ1.out
    have hr := HR.out
    have hb := HB.out
    by_cases hxk : x < k
    · have hI := zrI hk6 x (by omega)
      have hI2 := zrI hk6 (x + 1) (by omega)
      have hb1 : ∀ W : World, Calls Try.prog 29 #[.agg (zc k (zrZ k x).none (zrZ k x).D), .int .i64 (x : Int), .int .i64 (-1), .int .i64 0] W (Ret W (.agg (boundZ (zrZ k x) x (-1) 0).c)) := fun W => by
        have := rbound_any hI.ok (i := x + 1) (j := 0) (by rw [hI.n]; omega) (by omega) (by omega) (d := 0) (by omega) W
        rw [show ((x + 1 : Nat) : Int) - 1 = x by omega, show ((0 : Nat) : Int) - 1 = -1 by omega, Zn.c, hI.n] at this
        exact this
      have hok : OKZ (boundZ (zrZ k x) x (-1) 0) := by
        have := bound_ok hI.ok (i := x + 1) (j := 0) (by rw [hI.n]; omega) (by omega) (by omega) (d := 0) (by omega)
        rw [show ((x + 1 : Nat) : Int) - 1 = x by omega, show ((0 : Nat) : Int) - 1 = -1 by omega] at this
        exact this
      have hb2 : ∀ W : World, Calls Try.prog 29 #[.agg (boundZ (zrZ k x) x (-1) 0).c, .int .i64 (-1), .int .i64 (x : Int), .int .i64 0] W (Ret W (.agg (zc k (zrZ k (x + 1)).none (zrZ k (x + 1)).D))) := fun W => by
        have := rbound_any hok (i := 0) (j := x + 1) (by omega) (by rw [boundZ_n, hI.n]; omega) (by omega) (d := 0) (by omega) W
        rw [show ((x + 1 : Nat) : Int) - 1 = x by omega, show ((0 : Nat) : Int) - 1 = -1 by omega, show boundZ (boundZ (zrZ k x) x (-1) 0) (-1) x 0 = zrZ k (x + 1) from rfl, show (zrZ k (x + 1)).c = zc (zrZ k (x + 1)).n (zrZ k (x + 1)).none (zrZ k (x + 1)).D from rfl, hI2.n] at this
        exact this
      have HB1 := Lib.hid hb1
      have HB2 := Lib.hid hb2
      clear hb1 hb2 hI hI2 hok
      go_wp2_with (first
        | (refine load_r rfl _ rfl rfl hr ?_)
        | (go_at_call 29; ((with_reducible refine (HB1.out _).mono ?_); rintro e W2 ⟨rfl, hb2⟩; have hz1 := hz1.on hb2; have hr := hr.on hb2; have hb := hb.trans (hb2.mono hb.size); clear hb2))
        | (go_at_call 29; ((with_reducible refine (HB2.out _).mono ?_); rintro e W2 ⟨rfl, hb2⟩; have hz1 := hz1.on hb2; have hr := hr.on hb2; have hb := hb.trans (hb2.mono hb.size); clear hb2))
        | (refine store_r rfl _ _ rfl rfl rfl hr ?_; intro W7 hr7 hg7 hs7; have hz1 := hz1.only hg7 (by omega); have hb := below_only hb hg7 hb.size (by omega); clear hr; have hr := hr7; clear hr7 hg7 hs7)
        | fail)
      have HZ1 := Lib.hid hz1
      have HR := Lib.hid hr
      have HB := Lib.hid hb
      clear hz1 hr hb
      go_roundw
      case rel => exact ⟨x + 1, by omega, by go_num, HB, HZ1, HR⟩
      case measure => simp [intOf]; omega
    · obtain rfl : k = x := by omega
      rw [zr_zeros hk6] at hr
      go_wp2_with (first
        | (refine load_r rfl _ rfl rfl hr ?_)
        | (refine store_r rfl _ _ rfl rfl rfl hz1 ?_; intro W4 hz4 hg4 hs4)
        | fail)
      exact bodyPost_ret (results_r rfl (by simp [Act.put]) hz4) rfl ⟨rfl, below_only hb hg4 hb.size (by omega)⟩
end Go.Proofs.Ytgnkhncogfppgaa
