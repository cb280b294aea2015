import Derived.Test.YtgnkhncogfppgaaJ2
import Derived.Test.YtgnkhncogfppgaaY2
import Derived.Test.YtgnkhncogfppgaaM6
import Derived.Test.YtgnkhncogfppgaaS0
namespace Go.Proofs.Ytgnkhncogfppgaa
open Go.RowKit
/-! The document's Within, Join, Widen are the program's, of zones that are right. -/
set_option maxRecDepth 100000 in
set_option maxHeartbeats 2000000 in
theorem rwithin_any {a b : Zn} (ha : OKZ a) (hb : OKZ b) (h : a.n = b.n) (w : World) : Calls Try.prog 61 #[.agg a.c, .agg b.c] w (Ret w (.bool (withinB a b))) := by
  obtain ⟨n, x, D⟩ := a
  obtain ⟨m, y, E⟩ := b
  have h : n = m := h
  subst h
  have hn : n ≤ 6 := ha.n
  show Calls Try.prog 61 #[.agg (zc n x D), .agg (zc n y E)] w _
  cases x with
  | true =>
    have hfin : withinB ⟨n, true, D⟩ ⟨n, y, E⟩ = true := within_iff.2 ⟨rfl, .inl rfl⟩
    rw [hfin]
    clear ha hb hfin
    go_enter Try.func61, Try.ntmps61
    go_wp2_with (first
      | (have _t := hz; refine wpList_box_zone rfl 38 _ rfl _ _ _ rfl ?_; intro W2 hq hb2 hs2; rw [hs.out] at hq hb2 hs2; have hz := hz.below hb2 (by omega); have hbc := hz.b_cell; have hnc := hz.n_cell; have hqc := hq.b_cell; have hqn := hq.n_cell; have hb := hb.trans (hb2.mono (by omega)); rw [hs.out]; clear hb2 hs _t)
      | (refine wpList_box_zone rfl 38 _ rfl _ _ _ rfl ?_; intro W hz hb hs; have hbc := hz.b_cell; have hnc := hz.n_cell)
      | fail)
    go_ret
    exact ⟨rfl, hb⟩
  | false =>
    cases y with
    | true =>
      have hfin : withinB ⟨n, false, D⟩ ⟨n, true, E⟩ = false := within_not fun hw => by
        rcases (within_iff.1 hw).2 with h1 | ⟨h1, _⟩ <;> cases h1
      rw [hfin]
      clear ha hb hfin
      have q0 : (0 : Int) ≤ (n : Int) := by omega
      go_enter Try.func61, Try.ntmps61
      go_wp2_with (first
        | (have _t := hz; refine wpList_box_zone rfl 38 _ rfl _ _ _ rfl ?_; intro W2 hq hb2 hs2; rw [hs.out] at hq hb2 hs2; have hz := hz.below hb2 (by omega); have hbc := hz.b_cell; have hnc := hz.n_cell; have hqc := hq.b_cell; have hqn := hq.n_cell; have hb := hb.trans (hb2.mono (by omega)); rw [hs.out]; clear hb2 hs _t)
        | (refine wpList_box_zone rfl 38 _ rfl _ _ _ rfl ?_; intro W hz hb hs; have hbc := hz.b_cell; have hnc := hz.n_cell)
        | fail)
      go_loop [5] (fun i_ => i_ = .int .i64 0) (fun _ => 0)
      case atStart => exact rfl
      case round =>
        subst hrel
        go_wp2
        go_ret
        exact ⟨rfl, hb⟩
    | false =>
      have HT : Hid ((∀ i, i ≤ n → ∀ j, j ≤ n → D i j ≤ E i j) → withinB ⟨n, false, D⟩ ⟨n, false, E⟩ = true) := fun hall => within_iff.2 ⟨rfl, .inr ⟨rfl, fun i _ j _ => by
        show D i j ≤ E i j
        by_cases hij : i ≤ n ∧ j ≤ n
        · exact hall i hij.1 j hij.2
        · have e1 : D i j = 0 := ha.out i j hij
          have e2 : E i j = 0 := hb.out i j hij
          omega⟩⟩
      have HF : Hid (∀ i j, i ≤ n → j ≤ n → E i j < D i j → withinB ⟨n, false, D⟩ ⟨n, false, E⟩ = false) := fun i j hi hj hlt => within_not fun hw => by
        rcases (within_iff.1 hw).2 with h1 | ⟨_, h2⟩
        · cases h1
        · have h3 : D i j ≤ E i j := h2 i (by omega) j (by omega)
          omega
      generalize withinB ⟨n, false, D⟩ ⟨n, false, E⟩ = R at *
      clear ha hb
      go_enter Try.func61, Try.ntmps61
      go_wp2_with (first
        | (have _t := hz; refine wpList_box_zone rfl 38 _ rfl _ _ _ rfl ?_; intro W2 hq hb2 hs2; rw [hs.out] at hq hb2 hs2; have hz := hz.below hb2 (by omega); have hbc := hz.b_cell; have hnc := hz.n_cell; have hqc := hq.b_cell; have hqn := hq.n_cell; have hb := hb.trans (hb2.mono (by omega)); rw [hs.out]; clear hb2 hs _t)
        | (refine wpList_box_zone rfl 38 _ rfl _ _ _ rfl ?_; intro W hz hb hs; have hbc := hz.b_cell; have hnc := hz.n_cell)
        | fail)
      have HB := Lib.hid hb
      have HZ := Lib.hid hz
      have HQ := Lib.hid hq
      clear hb hz hq hbc hnc hqc hqn hs2
      go_loopw [5] (fun i_ wr => ∃ i : Nat, i ≤ n + 1 ∧ i_ = .int .i64 (i : Int) ∧ Hid (Below w.heap.size w wr) ∧ Hid (ZAt 38 wr w.heap.size n false D) ∧ Hid (ZAt 38 wr (w.heap.size + 1) n false E) ∧ Hid (∀ i', i' < i → ∀ j, j ≤ n → D i' j ≤ E i' j)) (fun i _ => 9 - (intOf i).toNat)
      case atStart => exact ⟨0, by omega, rfl, HB, HZ, HQ, fun i' hi' => absurd hi' (Nat.not_lt_zero _)⟩
      case round =>
        clear HB HZ HQ
        obtain ⟨i, hi, rfl, HB, HZ, HQ, HL⟩ := hrel
        have hnc := HZ.out.n_cell
        have hqc := HQ.out.b_cell
        by_cases hlt : i ≤ n
        · go_wp2
          go_loopw [6] (fun j_ wr => ∃ j : Nat, j ≤ n + 1 ∧ j_ = .int .i64 (j : Int) ∧ Hid (Below w.heap.size w wr) ∧ Hid (ZAt 38 wr w.heap.size n false D) ∧ Hid (ZAt 38 wr (w.heap.size + 1) n false E) ∧ Hid (∀ j', j' < j → D i j' ≤ E i j')) (fun j _ => 9 - (intOf j).toNat)
          case atStart => exact ⟨0, by omega, rfl, HB, HZ, HQ, fun j' hj' => absurd hj' (Nat.not_lt_zero _)⟩
          case round =>
            clear HB HZ HQ hnc hqc
            obtain ⟨j, hj, rfl, HB, HZ, HQ, HJ⟩ := hrel
            have hnc := HZ.out.n_cell
            by_cases hlj : j ≤ n
            · have c1 := HZ.out.cell i j (by omega) (by omega)
              have c2 := HQ.out.cell i j (by omega) (by omega)
              have q0 : (0 : Int) ≤ (i : Int) := by omega
              have q1 : (0 : Int) ≤ (j : Int) := by omega
              have q2 : (i : Int) < 7 := by omega
              have q3 : (j : Int) < 7 := by omega
              by_cases hle : D i j ≤ E i j
              · have hng : ¬ (E i j < D i j) := by omega
                go_wp2
                refine head0 12 (by kernel_rfl) (by kernel_rfl) (by kernel_rfl) (by kernel_rfl) ?_
                simp only [List.take_succ_cons, List.take_zero, List.drop_succ_cons, List.drop_zero]
                (refine o_start ?_; (iterate 12 (first | (refine o_skip rfl rfl rfl ?_) | (refine o_have rfl fun hw => ?_; (first | (refine o_move hw.out _ rfl rfl rfl rfl ?_) | (refine o_pickT hw.out _ _ _ rfl rfl rfl rfl rfl ?_) | (refine o_pickF hw.out _ _ _ rfl rfl rfl rfl rfl ?_) | (refine o_loadc hw.out _ _ rfl rfl c1 rfl rfl (by first | exact Try.underlying3 | exact Try.underlying4) rfl ?_) | (refine o_loadc hw.out _ _ rfl rfl c2 rfl rfl (by first | exact Try.underlying3 | exact Try.underlying4) rfl ?_) | (refine o_bin hw.out _ _ _ _ _ rfl rfl rfl rfl rfl (fun W => by go_simp; first | done | rfl) ?_) | (refine o_un hw.out _ _ _ rfl rfl rfl rfl (fun W => by go_simp; first | done | rfl) ?_) | (refine o_field hw.out _ _ _ rfl rfl rfl rfl (fun W => by go_simp; first | done | rfl) ?_) | (refine o_index hw.out _ _ _ rfl rfl rfl rfl rfl (fun W => by go_simp; first | done | rfl) ?_) | (refine o_conv hw.out _ _ _ rfl rfl rfl rfl (fun W => by go_simp; first | done | rfl) ?_)); clear hw))); refine o_end ?_; simp only [app, List.set_cons_succ, List.set_cons_zero])
                intro w3 hb3
                have HZ := Lib.hid (HZ.out.on hb3); have HQ := Lib.hid (HQ.out.on hb3); have HB := Lib.hid (HB.out.trans (hb3.mono HB.out.size))
                clear hb3 c1 c2 hnc
                go_wp2
                go_roundw
                case rel => exact ⟨j + 1, by omega, by go_num, HB, HZ, HQ, fun j' hj' => by
                  by_cases hjj : j' = j
                  · subst hjj; exact hle
                  · exact HJ.out j' (by omega)⟩
                case measure => simp [intOf]; omega
              · have hgt : E i j < D i j := by omega
                have hfin := HF.out i j hlt hlj hgt
                have HFIN := Lib.hid hfin
                clear hfin hle
                go_wp2
                refine head0 12 (by kernel_rfl) (by kernel_rfl) (by kernel_rfl) (by kernel_rfl) ?_
                simp only [List.take_succ_cons, List.take_zero, List.drop_succ_cons, List.drop_zero]
                (refine o_start ?_; (iterate 12 (first | (refine o_skip rfl rfl rfl ?_) | (refine o_have rfl fun hw => ?_; (first | (refine o_move hw.out _ rfl rfl rfl rfl ?_) | (refine o_pickT hw.out _ _ _ rfl rfl rfl rfl rfl ?_) | (refine o_pickF hw.out _ _ _ rfl rfl rfl rfl rfl ?_) | (refine o_loadc hw.out _ _ rfl rfl c1 rfl rfl (by first | exact Try.underlying3 | exact Try.underlying4) rfl ?_) | (refine o_loadc hw.out _ _ rfl rfl c2 rfl rfl (by first | exact Try.underlying3 | exact Try.underlying4) rfl ?_) | (refine o_bin hw.out _ _ _ _ _ rfl rfl rfl rfl rfl (fun W => by go_simp; first | done | rfl) ?_) | (refine o_un hw.out _ _ _ rfl rfl rfl rfl (fun W => by go_simp; first | done | rfl) ?_) | (refine o_field hw.out _ _ _ rfl rfl rfl rfl (fun W => by go_simp; first | done | rfl) ?_) | (refine o_index hw.out _ _ _ rfl rfl rfl rfl rfl (fun W => by go_simp; first | done | rfl) ?_) | (refine o_conv hw.out _ _ _ rfl rfl rfl rfl (fun W => by go_simp; first | done | rfl) ?_)); clear hw))); refine o_end ?_; simp only [app, List.set_cons_succ, List.set_cons_zero])
                intro w3 hb3
                have HZ := Lib.hid (HZ.out.on hb3); have HQ := Lib.hid (HQ.out.on hb3); have HB := Lib.hid (HB.out.trans (hb3.mono HB.out.size))
                clear hb3 c1 c2 hnc
                go_wp2
                go_ret
                exact ⟨by rw [HFIN.out]; rfl, HB.out⟩
            · obtain rfl : j = n + 1 := by omega
              go_wp2
              go_roundw
              case rel => exact ⟨i + 1, by omega, by go_num, HB, HZ, HQ, fun i' hi' => by
                by_cases hii : i' = i
                · subst hii; exact fun j hj => HJ.out j (by omega)
                · exact HL.out i' (by omega)⟩
              case measure => simp [intOf]; omega
        · obtain rfl : i = n + 1 := by omega
          have hfin := HT.out fun i hi j hj => HL.out i (by omega) j hj
          have HFIN := Lib.hid hfin
          clear hfin
          go_wp2
          go_ret
          exact ⟨by rw [HFIN.out]; rfl, HB.out⟩
set_option maxRecDepth 100000 in
set_option maxHeartbeats 2000000 in
theorem rjoin_any {a b : Zn} (ha : OKZ a) (hb : OKZ b) (h : a.n = b.n) (w : World) : Calls Try.prog 59 #[.agg a.c, .agg b.c] w (Ret w (.agg (joinZ a b).c)) := by
  have hbd : ∀ i j, a.n + 1 ≤ i ∨ a.n + 1 ≤ j → a.D i j = 0 := fun i j hh => ha.out i j (by omega)
  have hbe : ∀ i j, a.n + 1 ≤ i ∨ a.n + 1 ≤ j → b.D i j = 0 := fun i j hh => hb.out i j (by omega)
  have hnn : a.none = true → b.none = true → joinZ a b = b := fun h1 h2 => by
    rw [joinZ_l (.inr h2)]
    exact Zn.ext' h (h1.trans h2.symm) fun i j => by rw [ha.nones h1, hb.nones h2]
  obtain ⟨n, x, D⟩ := a
  obtain ⟨m, y, E⟩ := b
  have h : n = m := h
  subst h
  have hn : n ≤ 6 := ha.n
  show Calls Try.prog 59 #[.agg (zc n x D), .agg (zc n y E)] w _
  clear ha hb
  cases x with
  | true =>
    have hfin : joinZ ⟨n, true, D⟩ ⟨n, y, E⟩ = ⟨n, y, E⟩ := by
      cases y with
      | true => exact hnn rfl rfl
      | false => exact joinZ_r (a := ⟨n, true, D⟩) (b := ⟨n, false, E⟩) rfl rfl rfl
    rw [hfin]
    clear hfin hnn
    go_enter Try.func59, Try.ntmps59
    go_wp2_with (first
      | (have _t := hz; refine wpList_box_zone rfl 38 _ rfl _ _ _ rfl ?_; intro W2 hq hb2 hs2; rw [hs.out] at hq hb2 hs2; have hz := hz.below hb2 (by omega); have hbc := hz.b_cell; have hnc := hz.n_cell; have hqc := hq.b_cell; have hqn := hq.n_cell; have hb := hb.trans (hb2.mono (by omega)); rw [hs.out]; clear hb2 hs _t)
      | (refine wpList_box_zone rfl 38 _ rfl _ _ _ rfl ?_; intro W hz hb hs; have hbc := hz.b_cell; have hnc := hz.n_cell)
      | (have _t := hs2; refine wpList_alloc_zone rfl 38 rfl rz ?_; intro W3 hz1 hb3 hs3; rw [hs2.out] at hz1 hb3 hs3; rw [hs2.out]; have hz := hz.below hb3 (by omega); have hq := hq.below hb3 (by omega); have hqc := hq.b_cell; have hbc := hz.b_cell; have hnc := hz.n_cell; have hb := hb.trans (hb3.mono (by omega)); clear hb3 hs2 _t)
      | (refine load_r rfl _ rfl rfl hq ?_)
      | (refine store_r rfl _ _ rfl rfl rfl hz1 ?_; intro W4 hz4 hg4 hs4)
      | fail)
    exact bodyPost_ret (results_r rfl (by simp []) hz4) rfl ⟨rfl, below_only hb hg4 hb.size (by omega)⟩
  | false =>
    clear hnn
    cases y with
    | true =>
      rw [joinZ_l (.inr rfl)]
      go_enter Try.func59, Try.ntmps59
      go_wp2_with (first
        | (have _t := hz; refine wpList_box_zone rfl 38 _ rfl _ _ _ rfl ?_; intro W2 hq hb2 hs2; rw [hs.out] at hq hb2 hs2; have hz := hz.below hb2 (by omega); have hbc := hz.b_cell; have hnc := hz.n_cell; have hqc := hq.b_cell; have hqn := hq.n_cell; have hb := hb.trans (hb2.mono (by omega)); rw [hs.out]; clear hb2 hs _t)
        | (refine wpList_box_zone rfl 38 _ rfl _ _ _ rfl ?_; intro W hz hb hs; have hbc := hz.b_cell; have hnc := hz.n_cell)
        | (have _t := hs2; refine wpList_alloc_zone rfl 38 rfl rz ?_; intro W3 hz1 hb3 hs3; rw [hs2.out] at hz1 hb3 hs3; rw [hs2.out]; have hz := hz.below hb3 (by omega); have hq := hq.below hb3 (by omega); have hqc := hq.b_cell; have hbc := hz.b_cell; have hnc := hz.n_cell; have hb := hb.trans (hb3.mono (by omega)); clear hb3 hs2 _t)
        | (refine load_r rfl _ rfl rfl hz ?_)
        | (refine store_r rfl _ _ rfl rfl rfl hz1 ?_; intro W4 hz4 hg4 hs4)
        | fail)
      exact bodyPost_ret (results_r rfl (by simp []) hz4) rfl ⟨rfl, below_only hb hg4 hb.size (by omega)⟩
    | false =>
      rw [joinZ_both (a := ⟨n, false, D⟩) (b := ⟨n, false, E⟩) rfl rfl rfl]
      have HROW : Hid (∀ i, jnM D E i (n + 1) = jnM D E (i + 1) 0) := fun i => jn_row (fun a b hh => hbd a b (.inr hh)) (fun a b hh => hbe a b (.inr hh)) i
      have HEND : Hid (jnM D E (n + 1) 0 = mxM D E) := jn_end (fun a b hh => hbd a b (.inl hh)) (fun a b hh => hbe a b (.inl hh))
      clear hbd hbe
      go_enter Try.func59, Try.ntmps59
      go_wp2_with (first
        | (have _t := hz; refine wpList_box_zone rfl 38 _ rfl _ _ _ rfl ?_; intro W2 hq hb2 hs2; rw [hs.out] at hq hb2 hs2; have hz := hz.below hb2 (by omega); have hbc := hz.b_cell; have hnc := hz.n_cell; have hqc := hq.b_cell; have hqn := hq.n_cell; have hb := hb.trans (hb2.mono (by omega)); rw [hs.out]; clear hb2 hs _t)
        | (refine wpList_box_zone rfl 38 _ rfl _ _ _ rfl ?_; intro W hz hb hs; have hbc := hz.b_cell; have hnc := hz.n_cell)
        | (have _t := hs2; refine wpList_alloc_zone rfl 38 rfl rz ?_; intro W3 hz1 hb3 hs3; rw [hs2.out] at hz1 hb3 hs3; rw [hs2.out]; have hz := hz.below hb3 (by omega); have hq := hq.below hb3 (by omega); have hqc := hq.b_cell; have hbc := hz.b_cell; have hnc := hz.n_cell; have hb := hb.trans (hb3.mono (by omega)); clear hb3 hs2 _t)
        | fail)
      rw [← jn_zero D E] at hz
      have HB := Lib.hid hb
      have HZ := Lib.hid hz
      have HQ := Lib.hid hq
      have HZ1 := Lib.hid hz1
      clear hb hz hq hz1 hbc hnc hqc hqn hs3
      go_loopw [5] (fun i_ wr => ∃ i : Nat, i ≤ n + 1 ∧ i_ = .int .i64 (i : Int) ∧ Hid (Below w.heap.size w wr) ∧ Hid (ZAt 38 wr w.heap.size n false (jnM D E i 0)) ∧ Hid (ZAt 38 wr (w.heap.size + 1) n false E) ∧ Hid (ZAt 38 wr (w.heap.size + 1 + 1) 0 false fun _ _ => 0)) (fun i _ => 9 - (intOf i).toNat)
      case atStart => exact ⟨0, by omega, rfl, HB, HZ, HQ, HZ1⟩
      case round =>
        clear HB HZ HQ HZ1
        obtain ⟨i, hi, rfl, HB, HZ, HQ, HZ1⟩ := hrel
        have hnc := HZ.out.n_cell
        by_cases hlt : i ≤ n
        · go_wp2
          go_loopw [6] (fun j_ wr => ∃ j : Nat, j ≤ n + 1 ∧ j_ = .int .i64 (j : Int) ∧ Hid (Below w.heap.size w wr) ∧ Hid (ZAt 38 wr w.heap.size n false (jnM D E i j)) ∧ Hid (ZAt 38 wr (w.heap.size + 1) n false E) ∧ Hid (ZAt 38 wr (w.heap.size + 1 + 1) 0 false fun _ _ => 0)) (fun j _ => 9 - (intOf j).toNat)
          case atStart => exact ⟨0, by omega, rfl, HB, HZ, HQ, HZ1⟩
          case round =>
            clear HB HZ HQ HZ1 hnc
            obtain ⟨j, hj, rfl, HB, HZ, HQ, HZ1⟩ := hrel
            have hnc := HZ.out.n_cell
            by_cases hlj : j ≤ n
            · have c1 := HZ.out.cell i j (by omega) (by omega)
              have c2 := HQ.out.cell i j (by omega) (by omega)
              rw [jn_at] at c1
              have f1 := HZ.out.frozen (2 + i * 7 + j)
              have q0 : (0 : Int) ≤ (i : Int) := by omega
              have q1 : (0 : Int) ≤ (j : Int) := by omega
              have q2 : (i : Int) < 7 := by omega
              have q3 : (j : Int) < 7 := by omega
              obtain ⟨v, hv⟩ : ∃ v, v = mx (D i j) (E i j) := ⟨_, rfl⟩
              have s1 := Lib.hid (HZ.out.set i j (mx (D i j) (E i j)) (by omega) (by omega)).drew
              have s2 := Lib.hid (HQ.out.set_other (a := ⟨w.heap.size, 2 + i * 7 + j, none⟩) (by simp) (.int .i64 (mx (D i j) (E i j)))).drew
              have s3 := Lib.hid (HZ1.out.set_other (a := ⟨w.heap.size, 2 + i * 7 + j, none⟩) (by simp; omega) (.int .i64 (mx (D i j) (E i j)))).drew
              have s4 := Lib.hid (HB.out.setCell (p := ⟨w.heap.size, 2 + i * 7 + j, none⟩) (Nat.le_refl _) (.int .i64 (mx (D i j) (E i j)))).drew
              clear HB HZ HQ HZ1 hv v
              go_wp2
              go_region
              generalize (wr.setCell { block := w.heap.size, off := 2 + i * 7 + j } (Value.int IntKind.i64 (mx (D i j) (E i j)))).drew = w3 at *
              clear c1 c2 f1 hnc
              go_wp2
              go_roundw
              case rel => exact ⟨j + 1, by omega, by go_num, s4, by rw [jn_step] at s1; exact s1, s2, s3⟩
              case measure => simp [intOf]; omega
            · obtain rfl : j = n + 1 := by omega
              go_wp2
              go_roundw
              case rel => exact ⟨i + 1, by omega, by go_num, HB, by rw [HROW.out] at HZ; exact HZ, HQ, HZ1⟩
              case measure => simp [intOf]; omega
        · obtain rfl : i = n + 1 := by omega
          rw [HEND.out] at HZ
          have hz := HZ.out
          have hz1 := HZ1.out
          have hb := HB.out
          clear HB HZ HQ HZ1
          go_wp2_with (first
            | (refine load_r rfl _ rfl rfl hz ?_)
            | (refine store_r rfl _ _ rfl rfl rfl hz1 ?_; intro W4 hz4 hg4 hs4)
            | fail)
          exact bodyPost_ret (results_r rfl (by simp [Act.put]) hz4) rfl ⟨rfl, below_only hb hg4 hb.size (by omega)⟩
end Go.Proofs.Ytgnkhncogfppgaa
