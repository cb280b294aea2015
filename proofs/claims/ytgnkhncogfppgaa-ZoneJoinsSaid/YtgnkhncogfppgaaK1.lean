import Derived.Test.YtgnkhncogfppgaaZ7
import Derived.Test.YtgnkhncogfppgaaM4
namespace Go.Proofs.Ytgnkhncogfppgaa
open Go.RowKit
theorem RowAt.new (w : World) (T : TypeId) (cs : Array Value) : RowAt T (w.alloc (.cells cs T)) w.heap.size cs := Go.heap_alloc_new w _
theorem right_of_ok {z : Zn} (h : OKZ z) : RightP z := by
  have hf : far = 1099511627776 := rfl
  refine ⟨h.n, fun i j _ _ hc => ?_, fun i j _ _ => ?_, fun i j _ _ => ?_, by rw [h.close]⟩
  · cases hn : z.none with
    | true => exact h.nones hn i j
    | false =>
      rcases hc with hc | hc | hc | hc
      · rw [hn] at hc; cases hc
      · exact h.out i j (by omega)
      · exact h.out i j (by omega)
      · subst hc
        by_cases hi : i ≤ z.n
        · exact (h.sub hn).diag i hi
        · exact h.out i i (by omega)
  · have := h.small i j; omega
  · have := h.small i j; omega
theorem right_ok {z : Zn} (h : OKZ z) (w : World) : Calls Try.prog 44 #[.agg z.c] w (Ret w (.bool true)) := right_yes z (right_of_ok h) w
/-- What a variable may be, of a zone that is right. -/
theorem itvZ_ok {z : Zn} (h : OKZ z) (hn : z.none = false) {i : Nat} (hi : i < z.n) : itvZ z (i : Int) = (-(z.D 0 (i + 1)), z.D (i + 1) 0) := by
  unfold itvZ
  rw [if_pos (varB_iff.2 ⟨hn, by omega, by omega⟩), show ((i : Int) + 1).toNat = i + 1 by omega]
  have b1 := h.bounds hn 0 (i + 1) (by omega) (by omega)
  have b2 := h.bounds hn (i + 1) 0 (by omega) (by omega)
  have u1 := h.up hn (i + 1) (by omega) (by omega)
  have u2 := h.down hn (i + 1) (by omega) (by omega)
  have t := (h.sub hn).tri 0 0 (i + 1) (by omega) (by omega) (by omega)
  rw [(h.sub hn).diag 0 (by omega)] at t
  rw [w64_in (by omega) (by omega)]
  unfold ofP nrm
  rw [show mx (-z.D 0 (i + 1)) (-2147483648) = -z.D 0 (i + 1) by unfold mx; split <;> omega, show mn (z.D (i + 1) 0) 2147483647 = z.D (i + 1) 0 by unfold mn; split <;> omega, if_neg (by omega)]
/-- A variable whose number is known. -/
theorem itvZ_one {z : Zn} (h : OKZ z) (hn : z.none = false) {i : Nat} (hi : i < z.n) {v : Nat → Int} (hv : Sat z.n z.D v) (h1 : z.D (i + 1) 0 ≤ v (i + 1)) (h2 : z.D 0 (i + 1) ≤ -v (i + 1)) : itvZ z (i : Int) = (v (i + 1), v (i + 1)) := by
  rw [itvZ_ok h hn hi]
  have a1 := hv.le (i + 1) 0 (by omega) (by omega)
  have a2 := hv.le 0 (i + 1) (by omega) (by omega)
  simp only [vm, hv.zero] at a1 a2
  rw [show z.D (i + 1) 0 = v (i + 1) by omega, show z.D 0 (i + 1) = -v (i + 1) by omega, Int.neg_neg]
theorem itvZ_none {z : Zn} (x : Int) (h : ¬ varB z x = true) : itvZ z x = (1, 0) := by unfold itvZ; rw [if_neg h]
theorem ofP_one {n : Int} (h1 : -2147483648 ≤ n) (h2 : n ≤ 2147483647) : ofP n n = (n, n) := by
  unfold ofP nrm
  rw [show mx n (-2147483648) = n by unfold mx; split <;> omega, show mn n 2147483647 = n by unfold mn; split <;> omega, if_neg (by omega)]
/-- Numbers that hold all bounds are had. -/
theorem hasB_sat {z : Zn} (hn : z.none = false) {V : Nat → Int} (h : Sat z.n z.D (atV V)) : hasB z z.n V = true := by
  refine hasB_iff.2 ⟨hn, rfl, fun i hi => ⟨?_, fun j hj => ⟨?_, ?_⟩⟩⟩
  · simp only [inr, decide_eq_true_eq]; exact ⟨h.lo i hi, h.hi i hi⟩
  · simp only [inr, decide_eq_true_eq]; exact ⟨h.lo j hj, h.hi j hj⟩
  · have := h.le i j hi hj; simpa only [vm] using this
theorem sat_hasB {z : Zn} {len : Nat} {V : Nat → Int} (h : hasB z len V = true) : z.none = false ∧ len = z.n ∧ Sat z.n z.D (atV V) := by
  obtain ⟨h1, h2, h3⟩ := hasB_iff.1 h
  refine ⟨h1, h2, rfl, fun i hi => ?_, fun i hi => ?_, fun i j hi hj => ?_⟩
  · have := (h3 i hi).1; simp only [inr, decide_eq_true_eq] at this; exact this.1
  · have := (h3 i hi).1; simp only [inr, decide_eq_true_eq] at this; exact this.2
  · exact ((h3 i hi).2 j hj).2
/-! ### copies -/
def cpZ : Zn := copyZ (zerosZ 2) ((0 : Nat) : Int) (((2 : Nat) : Int) - 1) 3
def cpV : Nat → Int := fun k => if k = 0 then 3 else 0
theorem cp_ok : OKZ cpZ := copy_ok (zeros_ok (by omega)) (by decide) (by decide) (by omega)
theorem cp_n : cpZ.n = 2 := copyZ_n _ _ _ _
theorem zeros_sat {n : Nat} : Sat n (zerosZ n).D (fun _ => 0) := ⟨rfl, fun _ _ => by omega, fun _ _ => by omega, fun _ _ _ _ => by simp [vm, zerosZ, zeroM]⟩
theorem cp_sat : cpZ.none = false ∧ Sat 2 cpZ.D (putV (fun _ => 0) 1 3) := by
  have := copy_sat (z := zerosZ 2) (i := 0) (j := 2) (zeros_ok (by omega)) rfl (by decide) (by decide) (d := 3) (by omega) (v := fun _ => 0) zeros_sat (by omega) (by omega)
  exact this
theorem cp_le : cpZ.D 1 0 ≤ 3 ∧ cpZ.D 0 1 ≤ -3 ∧ cpZ.D 2 0 ≤ 0 ∧ cpZ.D 0 2 ≤ 0 := by
  obtain ⟨h1, h2, h3⟩ := copy_le (z := zerosZ 2) (i := 0) (j := 2) (zeros_ok (by omega)) rfl (by decide) (by decide) (by decide) (d := 3) (by omega) cp_sat.1
  have hs := (cp_ok.sub cp_sat.1)
  have a1 : cpZ.D 2 0 ≤ 0 := h3 2 0 (by decide) (by decide) (by decide) (by decide)
  have a2 : cpZ.D 0 2 ≤ 0 := h3 0 2 (by decide) (by decide) (by decide) (by decide)
  have t1 := hs.tri 1 0 2 (by rw [cp_n]; omega) (by omega) (by rw [cp_n]; omega)
  have t2 := hs.tri 0 1 2 (by omega) (by rw [cp_n]; omega) (by rw [cp_n]; omega)
  have b1 : cpZ.D 1 2 ≤ 3 := h1
  have b2 : cpZ.D 2 1 ≤ -3 := h2
  omega
theorem cp_itv0 : itvZ cpZ 0 = (3, 3) := itvZ_one (i := 0) cp_ok cp_sat.1 (by rw [cp_n]; omega) (v := putV (fun _ => 0) 1 3) (by rw [cp_n]; exact cp_sat.2) cp_le.1 cp_le.2.1
theorem cp_itv1 : itvZ cpZ 1 = (0, 0) := itvZ_one (i := 1) cp_ok cp_sat.1 (by rw [cp_n]; omega) (v := putV (fun _ => 0) 1 3) (by rw [cp_n]; exact cp_sat.2) cp_le.2.2.1 cp_le.2.2.2
theorem cp_has : hasB cpZ 2 cpV = true := by
  have h : Sat cpZ.n cpZ.D (atV cpV) := by
    rw [cp_n, show atV cpV = putV (fun _ => 0) 1 3 from by
      funext k; simp only [atV, cpV, putV]
      by_cases h0 : k = 0
      · subst h0; simp
      · rw [if_neg h0]; by_cases h1 : k = 1
        · subst h1; simp
        · rw [if_neg (by omega), if_neg h1]]
    exact cp_sat.2
  have := hasB_sat cp_sat.1 h
  rwa [cp_n] at this
set_option maxHeartbeats 1000000 in
theorem copies_any (w : World) : Calls Try.prog 24 #[] w (Ret w (.bool true)) := by
  have hz : ∀ W : World, Calls Try.prog 28 #[.int .i64 2] W (Ret W (.agg (zerosZ 2).c)) := fun W => zeros_any 2 (by omega) W
  have hcp : ∀ W : World, Calls Try.prog 23 #[.agg (zerosZ 2).c, .int .i64 0, .int .i64 1, .int .i64 3] W (Ret W (.agg cpZ.c)) := fun W => copy_any (zerosZ 2) (by decide) 0 1 3 W
  have hi0 : ∀ W : World, Calls Try.prog 25 #[.agg (zc cpZ.n cpZ.none cpZ.D), .int .i64 0] W (Ret W (.agg (ic 3 3))) := fun W => by have := zitv_any cpZ cp_ok.n 0 W; rwa [cp_itv0] at this
  have hi1 : ∀ W : World, Calls Try.prog 25 #[.agg (zc cpZ.n cpZ.none cpZ.D), .int .i64 1] W (Ret W (.agg (ic 0 0))) := fun W => by have := zitv_any cpZ cp_ok.n 1 W; rwa [cp_itv1] at this
  have hc3 : ∀ W : World, Calls Try.prog 26 #[.int .i64 3] W (Ret W (.agg (ic 3 3))) := fun W => by have := const_any 3 W; rwa [ofP_one (by omega) (by omega)] at this
  have hc0 : ∀ W : World, Calls Try.prog 26 #[.int .i64 0] W (Ret W (.agg (ic 0 0))) := fun W => by have := const_any 0 W; rwa [ofP_one (by omega) (by omega)] at this
  have hr : ∀ W : World, Calls Try.prog 44 #[.agg (zc cpZ.n cpZ.none cpZ.D)] W (Ret W (.bool true)) := fun W => right_ok cp_ok W
  have ht : ∀ W : World, Calls Try.prog 21 #[.int .i64 3] W (Ret W (.agg (topZ 3).c)) := fun W => top_any 3 (by omega) W
  have hrt : ∀ W : World, Calls Try.prog 44 #[.agg (topZ 3).c] W (Ret W (.bool true)) := fun W => right_ok (top_ok (by omega)) W
  have hh : ∀ (W : World) (g : Nat), RowAt 3 W g #[.int .i64 3, .int .i64 0] → Calls Try.prog 34 #[.agg (zc cpZ.n cpZ.none cpZ.D), .slice (some ⟨g, 0, none⟩) 2 2] W (Ret W (.bool true)) := fun W g hg => by
    have := has_any cpZ cp_ok.n (some ⟨g, 0, none⟩) 2 2 (by omega) cpV W (fun k hk => ⟨g, 0, rfl, by
      rw [hg.cell]
      have : k = 0 ∨ k = 1 := by omega
      rcases this with rfl | rfl <;> rfl⟩)
    rwa [cp_has] at this
  have Hz := Lib.hid hz; have Hcp := Lib.hid hcp; have Hi0 := Lib.hid hi0; have Hi1 := Lib.hid hi1; have Hc3 := Lib.hid hc3; have Hc0 := Lib.hid hc0; have Hr := Lib.hid hr; have Ht := Lib.hid ht; have Hrt := Lib.hid hrt; have Hh := Lib.hid hh
  clear hz hcp hi0 hi1 hc3 hc0 hr ht hrt hh
  go_enter Try.func24, Try.ntmps24
  go_wp2_with (first
    | (go_at_call 28; ((with_reducible refine (Hz.out _).mono ?_); rintro e W2 ⟨rfl, hb⟩))
    | (go_at_call 23; ((with_reducible refine (Hcp.out _).mono ?_); rintro e W3 ⟨rfl, hb2⟩; have hb := hb.trans (hb2.mono hb.size); clear hb2))
    | (refine wpList_alloc_zone rfl 26 rfl zz ?_; intro W1 hz1 hb1 hs1; have hge := hb.size; have hb := hb.trans (hb1.mono hge); clear hb1 hs1)
    | (refine store_z rfl _ _ rfl rfl rfl hz1 ?_; intro W4 hz hg4 hs4; have hb := below_only hb hg4 hb.size (by omega))
    | (refine load_z rfl _ rfl rfl hz ?_)
    | (go_at_call 25; ((with_reducible refine (Hi0.out _).mono ?_); rintro e W2 ⟨rfl, hb2⟩; have hz := hz.below hb2 hz.lt; have hnc := hz.n_cell; have hbc := hz.b_cell; have hb := hb.trans (hb2.mono hb.size); clear hb2))
    | (go_at_call 25; ((with_reducible refine (Hi1.out _).mono ?_); rintro e W2 ⟨rfl, hb2⟩; have hz := hz.below hb2 hz.lt; have hnc := hz.n_cell; have hbc := hz.b_cell; have hb := hb.trans (hb2.mono hb.size); clear hb2))
    | (go_at_call 26; ((with_reducible refine (Hc3.out _).mono ?_); rintro e W2 ⟨rfl, hb2⟩; have hz := hz.below hb2 hz.lt; have hnc := hz.n_cell; have hbc := hz.b_cell; have hb := hb.trans (hb2.mono hb.size); clear hb2))
    | (go_at_call 26; ((with_reducible refine (Hc0.out _).mono ?_); rintro e W2 ⟨rfl, hb2⟩; have hz := hz.below hb2 hz.lt; have hnc := hz.n_cell; have hbc := hz.b_cell; have hb := hb.trans (hb2.mono hb.size); clear hb2))
    | (go_at_call 44; ((with_reducible refine (Hr.out _).mono ?_); rintro e W2 ⟨rfl, hb2⟩; have hz := hz.below hb2 hz.lt; have hnc := hz.n_cell; have hbc := hz.b_cell; have hb := hb.trans (hb2.mono hb.size); clear hb2))
    | (go_at_call 44; ((with_reducible refine (Hrt.out _).mono ?_); rintro e W2 ⟨rfl, hb2⟩; have hz := hz.below hb2 hz.lt; have hnc := hz.n_cell; have hbc := hz.b_cell; have hb := hb.trans (hb2.mono hb.size); clear hb2))
    | (go_at_call 21; ((with_reducible refine (Ht.out _).mono ?_); rintro e W2 ⟨rfl, hb2⟩; have hz := hz.below hb2 hz.lt; have hnc := hz.n_cell; have hbc := hz.b_cell; have hb := hb.trans (hb2.mono hb.size); clear hb2))
    | (go_at_call 34; ((with_reducible refine (Hh.out _ _ (RowAt.new _ _ _)).mono ?_); rintro e W5 ⟨rfl, hb2⟩; have hz := (hz.alloc _).on hb2; have hbs := hb.size; have hb := (hb.alloc hbs _).trans (hb2.mono (by simp; omega)); clear hb2 hbs))
    | fail)
  go_ret
  exact ⟨rfl, hb⟩
end Go.Proofs.Ytgnkhncogfppgaa
