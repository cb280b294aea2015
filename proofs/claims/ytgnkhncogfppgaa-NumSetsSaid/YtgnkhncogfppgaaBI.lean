import Derived.Test.YtgnkhncogfppgaaBG
import Derived.Test.YtgnkhncogfppgaaBD
import Derived.Test.YtgnkhncogfppgaaBA
namespace Go.Proofs.Ytgnkhncogfppgaa
open Go.RowKit
/-! The document's Within, Join, Widen are the program's, of zones that are right. -/
set_option maxRecDepth 100000 in
set_option maxHeartbeats 2000000 in
theorem rwithin_any {a b : Zn} (ha : OKZ a) (hb : OKZ b) (h : a.n = b.n) (w : World) : Calls Try.prog 61 #[.agg a.c, .agg b.c] w (Ret w (.bool (withinB a b))) := by
  obtain ⟨n, x, D⟩ := a
  obtain ⟨m, y, E⟩ := b
  have h : n = m := h
  subst h
  have hn : n ≤ 6 := ha.n
  show Calls Try.prog 61 #[.agg (zc n x D), .agg (zc n y E)] w _
  cases x with
  | true =>
    have hfin : withinB ⟨n, true, D⟩ ⟨n, y, E⟩ = true := within_iff.2 ⟨rfl, .inl rfl⟩
    rw [hfin]
    clear ha hb hfin
    go_enter Try.func61, Try.ntmps61
    go_wp2_with (first
      | (have _t := hz; refine wpList_box_zone rfl 38 _ rfl _ _ _ rfl ?_; intro W2 hq hb2 hs2; rw [hs.out] at hq hb2 hs2; have hz := hz.below hb2 (by omega); have hbc := hz.b_cell; have hnc := hz.n_cell; have hqc := hq.b_cell; have hqn := hq.n_cell; have hb := hb.trans (hb2.mono (by omega)); rw [hs.out]; clear hb2 hs _t)
      | (refine wpList_box_zone rfl 38 _ rfl _ _ _ rfl ?_; intro W hz hb hs; have hbc := hz.b_cell; have hnc := hz.n_cell)
      | fail)
    go_ret
    exact ⟨rfl, hb⟩
  | false =>
    cases y with
    | true =>
      have hfin : withinB ⟨n, false, D⟩ ⟨n, true, E⟩ = false := within_not fun hw => by
        rcases (within_iff.1 hw).2 with h1 | ⟨h1, _⟩ <;> cases h1
      rw [hfin]
      clear ha hb hfin
      have q0 : (0 : Int) ≤ (n : Int) := by omega
      go_enter Try.func61, Try.ntmps61
      go_wp2_with (first
        | (have _t := hz; refine wpList_box_zone rfl 38 _ rfl _ _ _ rfl ?_; intro W2 hq hb2 hs2; rw [hs.out] at hq hb2 hs2; have hz := hz.below hb2 (by omega); have hbc := hz.b_cell; have hnc := hz.n_cell; have hqc := hq.b_cell; have hqn := hq.n_cell; have hb := hb.trans (hb2.mono (by omega)); rw [hs.out]; clear hb2 hs _t)
        | (refine wpList_box_zone rfl 38 _ rfl _ _ _ rfl ?_; intro W hz hb hs; have hbc := hz.b_cell; have hnc := hz.n_cell)
        | fail)
      go_loop [5] (fun i_ => i_ = .int .i64 0) (fun _ => 0)
      case atStart => exact rfl
      case round =>
        subst hrel
        go_wp2
        go_ret
        exact ⟨rfl, hb⟩
    | false =>
      have HT : Hid ((∀ i, i ≤ n → ∀ j, j ≤ n → D i j ≤ E i j) → withinB ⟨n, false, D⟩ ⟨n, false, E⟩ = true) := fun hall => within_iff.2 ⟨rfl, .inr ⟨rfl, fun i _ j _ => by
        show D i j ≤ E i j
        by_cases hij : i ≤ n ∧ j ≤ n
        · exact hall i hij.1 j hij.2
        · have e1 : D i j = 0 := ha.out i j hij
          have e2 : E i j = 0 := hb.out i j hij
          omega⟩⟩
      have HF : Hid (∀ i j, i ≤ n → j ≤ n → E i j < D i j → withinB ⟨n, false, D⟩ ⟨n, false, E⟩ = false) := fun i j hi hj hlt => within_not fun hw => by
        rcases (within_iff.1 hw).2 with h1 | ⟨_, h2⟩
        · cases h1
        · have h3 : D i j ≤ E i j := h2 i (by omega) j (by omega)
          omega
      generalize withinB ⟨n, false, D⟩ ⟨n, false, E⟩ = R at *
      clear ha hb
      go_enter Try.func61, Try.ntmps61
      go_wp2_with (first
        | (have _t := hz; refine wpList_box_zone rfl 38 _ rfl _ _ _ rfl ?_; intro W2 hq hb2 hs2; rw [hs.out] at hq hb2 hs2; have hz := hz.below hb2 (by omega); have hbc := hz.b_cell; have hnc := hz.n_cell; have hqc := hq.b_cell; have hqn := hq.n_cell; have hb := hb.trans (hb2.mono (by omega)); rw [hs.out]; clear hb2 hs _t)
        | (refine wpList_box_zone rfl 38 _ rfl _ _ _ rfl ?_; intro W hz hb hs; have hbc := hz.b_cell; have hnc := hz.n_cell)
        | fail)
      have HB := Lib.hid hb
      have HZ := Lib.hid hz
      have HQ := Lib.hid hq
      clear hb hz hq hbc hnc hqc hqn hs2
      go_loopw [5] (fun i_ wr => ∃ i : Nat, i ≤ n + 1 ∧ i_ = .int .i64 (i : Int) ∧ Hid (Below w.heap.size w wr) ∧ Hid (ZAt 38 wr w.heap.size n false D) ∧ Hid (ZAt 38 wr (w.heap.size + 1) n false E) ∧ Hid (∀ i', i' < i → ∀ j, j ≤ n → D i' j ≤ E i' j)) (fun i _ => 9 - (intOf i).toNat)
      case atStart => exact ⟨0, by omega, rfl, HB, HZ, HQ, fun i' hi' => absurd hi' (Nat.not_lt_zero _)⟩
      case round =>
        clear HB HZ HQ
        obtain ⟨i, hi, rfl, HB, HZ, HQ, HL⟩ := hrel
        have hnc := HZ.out.n_cell
        have hqc := HQ.out.b_cell
        by_cases hlt : i ≤ n
        · go_wp2
          go_loopw [6] (fun j_ wr => ∃ j : Nat, j ≤ n + 1 ∧ j_ = .int .i64 (j : Int) ∧ Hid (Below w.heap.size w wr) ∧ Hid (ZAt 38 wr w.heap.size n false D) ∧ Hid (ZAt 38 wr (w.heap.size + 1) n false E) ∧ Hid (∀ j', j' < j → D i j' ≤ E i j')) (fun j _ => 9 - (intOf j).toNat)
          case atStart => exact ⟨0, by omega, rfl, HB, HZ, HQ, fun j' hj' => absurd hj' (Nat.not_lt_zero _)⟩
          case round =>
            clear HB HZ HQ hnc hqc
            obtain ⟨j, hj, rfl, HB, HZ, HQ, HJ⟩ := hrel
            have hnc := HZ.out.n_cell
            by_cases hlj : j ≤ n
            · have c1 := HZ.out.cell i j (by omega) (by omega)
              have c2 := HQ.out.cell i j (by omega) (by omega)
              have q0 : (0 : Int) ≤ (i : Int) := by omega
              have q1 : (0 : Int) ≤ (j : Int) := by omega
              have q2 : (i : Int) < 7 := by omega
              have q3 : (j : Int) < 7 := by omega
              by_cases hle : D i j ≤ E i j
              · have hng : ¬ (E i j < D i j) := by omega
                go_wp2
                refine head0 12 (by kernel_rfl) (by kernel_rfl) (by kernel_rfl) (by kernel_rfl) ?_
                simp only [List.take_succ_cons, List.take_zero, List.drop_succ_cons, List.drop_zero]
                (refine o_start ?_; (iterate 12 (first | (refine o_skip rfl rfl rfl ?_) | (refine o_have rfl fun hw => ?_; (first | (refine o_move hw.out _ rfl rfl rfl rfl ?_) | (refine o_pickT hw.out _ _ _ rfl rfl rfl rfl rfl ?_) | (refine o_pickF hw.out _ _ _ rfl rfl rfl rfl rfl ?_) | (refine o_loadc hw.out _ _ rfl rfl c1 rfl rfl (by first | exact Try.underlying3 | exact Try.underlying4) rfl ?_) | (refine o_loadc hw.out _ _ rfl rfl c2 rfl rfl (by first | exact Try.underlying3 | exact Try.underlying4) rfl ?_) | (refine o_bin hw.out _ _ _ _ _ rfl rfl rfl rfl rfl (fun W => by go_simp; first | done | rfl) ?_) | (refine o_un hw.out _ _ _ rfl rfl rfl rfl (fun W => by go_simp; first | done | rfl) ?_) | (refine o_field hw.out _ _ _ rfl rfl rfl rfl (fun W => by go_simp; first | done | rfl) ?_) | (refine o_index hw.out _ _ _ rfl rfl rfl rfl rfl (fun W => by go_simp; first | done | rfl) ?_) | (refine o_conv hw.out _ _ _ rfl rfl rfl rfl (fun W => by go_simp; first | done | rfl) ?_)); clear hw))); refine o_end ?_; simp only [app, List.set_cons_succ, List.set_cons_zero])
                intro w3 hb3
                have HZ := Lib.hid (HZ.out.on hb3); have HQ := Lib.hid (HQ.out.on hb3); have HB := Lib.hid (HB.out.trans (hb3.mono HB.out.size))
                clear hb3 c1 c2 hnc
                go_wp2
                go_roundw
                case rel => exact ⟨j + 1, by omega, by go_num, HB, HZ, HQ, fun j' hj' => by
                  by_cases hjj : j' = j
                  · subst hjj; exact hle
                  · exact HJ.out j' (by omega)⟩
                case measure => simp [intOf]; omega
              · have hgt : E i j < D i j := by omega
                have hfin := HF.out i j hlt hlj hgt
                have HFIN := Lib.hid hfin
                clear hfin hle
                go_wp2
                refine head0 12 (by kernel_rfl) (by kernel_rfl) (by kernel_rfl) (by kernel_rfl) ?_
                simp only [List.take_succ_cons, List.take_zero, List.drop_succ_cons, List.drop_zero]
                (refine o_start ?_; (iterate 12 (first | (refine o_skip rfl rfl rfl ?_) | (refine o_have rfl fun hw => ?_; (first | (refine o_move hw.out _ rfl rfl rfl rfl ?_) | (refine o_pickT hw.out _ _ _ rfl rfl rfl rfl rfl ?_) | (refine o_pickF hw.out _ _ _ rfl rfl rfl rfl rfl ?_) | (refine o_loadc hw.out _ _ rfl rfl c1 rfl rfl (by first | exact Try.underlying3 | exact Try.underlying4) rfl ?_) | (refine o_loadc hw.out _ _ rfl rfl c2 rfl rfl (by first | exact Try.underlying3 | exact Try.underlying4) rfl ?_) | (refine o_bin hw.out _ _ _ _ _ rfl rfl rfl rfl rfl (fun W => by go_simp; first | done | rfl) ?_) | (refine o_un hw.out _ _ _ rfl rfl rfl rfl (fun W => by go_simp; first | done | rfl) ?_) | (refine o_field hw.out _ _ _ rfl rfl rfl rfl (fun W => by go_simp; first | done | rfl) ?_) | (refine o_index hw.out _ _ _ rfl rfl rfl rfl rfl (fun W => by go_simp; first | done | rfl) ?_) | (refine o_conv hw.out _ _ _ rfl rfl rfl rfl (fun W => by go_simp; first | done | rfl) ?_)); clear hw))); refine o_end ?_; simp only [app, List.set_cons_succ, List.set_cons_zero])
                intro w3 hb3
                have HZ := Lib.hid (HZ.out.on hb3); have HQ := Lib.hid (HQ.out.on hb3); have HB := Lib.hid (HB.out.trans (hb3.mono HB.out.size))
                clear hb3 c1 c2 hnc
                go_wp2
                go_ret
                exact ⟨by rw [HFIN.out]; rfl, HB.out⟩
            · obtain rfl : j = n + 1 := by omega
              go_wp2
              go_roundw
              case rel => exact ⟨i + 1, by omega, by go_num, HB, HZ, HQ, fun i' hi' => by
                by_cases hii : i' = i
                · subst hii; exact fun j hj => HJ.out j (by omega)
                · exact HL.out i' (by omega)⟩
              case measure => simp [intOf]; omega
        · obtain rfl : i = n + 1 := by omega
          have hfin := HT.out fun i hi j hj => HL.out i (by omega) j hj
          have HFIN := Lib.hid hfin
          clear hfin
          go_wp2
          go_ret
          exact ⟨by rw [HFIN.out]; rfl, HB.out⟩
set_option maxRecDepth 100000 in
set_option maxHeartbeats 2000000 in
theorem rjoin_any {a b : Zn} (ha : OKZ a) (hb : OKZ b) (h : a.n = b.n) (w : World) : Calls Try.prog 59 #[.agg a.c, .agg b.c] w (Ret w (.agg (joinZ a b).c)) := by
  have hbd : ∀ i j, a.n + 1 ≤ i ∨ a.n + 1 ≤ j → a.D i j = 0 := fun i j hh => ha.out i j (by omega)
  have hbe : ∀ i j, a.n + 1 ≤ i ∨ a.n + 1 ≤ j → b.D i j = 0 := fun i j hh => hb.out i j (by omega)
  have hnn : a.none = true → b.none = true → joinZ a b = b := fun h1 h2 => by
    rw [joinZ_l (.inr h2)]
    exact Zn.ext' h (h1.trans h2.symm) fun i j => by rw [ha.nones h1, hb.nones h2]
  obtain ⟨n, x, D⟩ := a
  obtain ⟨m, y, E⟩ := b
  have h : n = m := h
  subst h
  have hn : n ≤ 6 := ha.n
  show Calls Try.prog 59 #[.agg (zc n x D), .agg (zc n y E)] w _
  clear ha hb
  cases x with
  | true =>
    have hfin : joinZ ⟨n, true, D⟩ ⟨n, y, E⟩ = ⟨n, y, E⟩ := by
      cases y with
      | true => exact hnn rfl rfl
      | false => exact joinZ_r (a := ⟨n, true, D⟩) (b := ⟨n, false, E⟩) rfl rfl rfl
    rw [hfin]
    clear hfin hnn
    go_enter Try.func59, Try.ntmps59
    go_wp2_with (first
      | (have _t := hz; refine wpList_box_zone rfl 38 _ rfl _ _ _ rfl ?_; intro W2 hq hb2 hs2; rw [hs.out] at hq hb2 hs2; have hz := hz.below hb2 (by omega); have hbc := hz.b_cell; have hnc := hz.n_cell; have hqc := hq.b_cell; have hqn := hq.n_cell; have hb := hb.trans (hb2.mono (by omega)); rw [hs.out]; clear hb2 hs _t)
      | (refine wpList_box_zone rfl 38 _ rfl _ _ _ rfl ?_; intro W hz hb hs; have hbc := hz.b_cell; have hnc := hz.n_cell)
      | (have _t := hs2; refine wpList_alloc_zone rfl 38 rfl rz ?_; intro W3 hz1 hb3 hs3; rw [hs2.out] at hz1 hb3 hs3; rw [hs2.out]; have hz := hz.below hb3 (by omega); have hq := hq.below hb3 (by omega); have hqc := hq.b_cell; have hbc := hz.b_cell; have hnc := hz.n_cell; have hb := hb.trans (hb3.mono (by omega)); clear hb3 hs2 _t)
      | (refine load_r rfl _ rfl rfl hq ?_)
      | (refine store_r rfl _ _ rfl rfl rfl hz1 ?_; intro W4 hz4 hg4 hs4)
      | fail)
    exact bodyPost_ret (results_r rfl (by simp []) hz4) rfl ⟨rfl, below_only hb hg4 hb.size (by omega)⟩
  | false =>
    clear hnn
    cases y with
    | true =>
      rw [joinZ_l (.inr rfl)]
      go_enter Try.func59, Try.ntmps59
      go_wp2_with (first
        | (have _t := hz; refine wpList_box_zone rfl 38 _ rfl _ _ _ rfl ?_; intro W2 hq hb2 hs2; rw [hs.out] at hq hb2 hs2; have hz := hz.below hb2 (by omega); have hbc := hz.b_cell; have hnc := hz.n_cell; have hqc := hq.b_cell; have hqn := hq.n_cell; have hb := hb.trans (hb2.mono (by omega)); rw [hs.out]; clear hb2 hs _t)
        | (refine wpList_box_zone rfl 38 _ rfl _ _ _ rfl ?_; intro W hz hb hs; have hbc := hz.b_cell; have hnc := hz.n_cell)
        | (have _t := hs2; refine wpList_alloc_zone rfl 38 rfl rz ?_; intro W3 hz1 hb3 hs3; rw [hs2.out] at hz1 hb3 hs3; rw [hs2.out]; have hz := hz.below hb3 (by omega); have hq := hq.below hb3 (by omega); have hqc := hq.b_cell; have hbc := hz.b_cell; have hnc := hz.n_cell; have hb := hb.trans (hb3.mono (by omega)); clear hb3 hs2 _t)
        | (refine load_r rfl _ rfl rfl hz ?_)
        | (refine store_r rfl _ _ rfl rfl rfl hz1 ?_; intro W4 hz4 hg4 hs4)
        | fail)
      exact bodyPost_ret (results_r rfl (by simp []) hz4) rfl ⟨rfl, below_only hb hg4 hb.size (by omega)⟩
    | false =>
      rw [joinZ_both (a := ⟨n, false, D⟩) (b := ⟨n, false, E⟩) rfl rfl rfl]
      have HROW : Hid (∀ i, jnM D E i (n + 1) = jnM D E (i + 1) 0) := fun i => jn_row (fun a b hh => hbd a b (.inr hh)) (fun a b hh => hbe a b (.inr hh)) i
      have HEND : Hid (jnM D E (n + 1) 0 = mxM D E) := jn_end (fun a b hh => hbd a b (.inl hh)) (fun a b hh => hbe a b (.inl hh))
      clear hbd hbe
      go_enter Try.func59, Try.ntmps59
      go_wp2_with (first
        | (have _t := hz; refine wpList_box_zone rfl 38 _ rfl _ _ _ rfl ?_; intro W2 hq hb2 hs2; rw [hs.out] at hq hb2 hs2; have hz := hz.below hb2 (by omega); have hbc := hz.b_cell; have hnc := hz.n_cell; have hqc := hq.b_cell; have hqn := hq.n_cell; have hb := hb.trans (hb2.mono (by omega)); rw [hs.out]; clear hb2 hs _t)
        | (refine wpList_box_zone rfl 38 _ rfl _ _ _ rfl ?_; intro W hz hb hs; have hbc := hz.b_cell; have hnc := hz.n_cell)
        | (have _t := hs2; refine wpList_alloc_zone rfl 38 rfl rz ?_; intro W3 hz1 hb3 hs3; rw [hs2.out] at hz1 hb3 hs3; rw [hs2.out]; have hz := hz.below hb3 (by omega); have hq := hq.below hb3 (by omega); have hqc := hq.b_cell; have hbc := hz.b_cell; have hnc := hz.n_cell; have hb := hb.trans (hb3.mono (by omega)); clear hb3 hs2 _t)
        | fail)
      rw [← jn_zero D E] at hz
      have HB := Lib.hid hb
      have HZ := Lib.hid hz
      have HQ := Lib.hid hq
      have HZ1 := Lib.hid hz1
      clear hb hz hq hz1 hbc hnc hqc hqn hs3
      go_loopw [5] (fun i_ wr => ∃ i : Nat, i ≤ n + 1 ∧ i_ = .int .i64 (i : Int) ∧ Hid (Below w.heap.size w wr) ∧ Hid (ZAt 38 wr w.heap.size n false (jnM D E i 0)) ∧ Hid (ZAt 38 wr (w.heap.size + 1) n false E) ∧ Hid (ZAt 38 wr (w.heap.size + 1 + 1) 0 false fun _ _ => 0)) (fun i _ => 9 - (intOf i).toNat)
      case atStart => exact ⟨0, by omega, rfl, HB, HZ, HQ, HZ1⟩
      case round =>
        clear HB HZ HQ HZ1
        obtain ⟨i, hi, rfl, HB, HZ, HQ, HZ1⟩ := hrel
        have hnc := HZ.out.n_cell
        by_cases hlt : i ≤ n
        · go_wp2
          go_loopw [6] (fun j_ wr => ∃ j : Nat, j ≤ n + 1 ∧ j_ = .int .i64 (j : Int) ∧ Hid (Below w.heap.size w wr) ∧ Hid (ZAt 38 wr w.heap.size n false (jnM D E i j)) ∧ Hid (ZAt 38 wr (w.heap.size + 1) n false E) ∧ Hid (ZAt 38 wr (w.heap.size + 1 + 1) 0 false fun _ _ => 0)) (fun j _ => 9 - (intOf j).toNat)
          case atStart => exact ⟨0, by omega, rfl, HB, HZ, HQ, HZ1⟩
          case round =>
            clear HB HZ HQ HZ1 hnc
            obtain ⟨j, hj, rfl, HB, HZ, HQ, HZ1⟩ := hrel
            have hnc := HZ.out.n_cell
            by_cases hlj : j ≤ n
            · have c1 := HZ.out.cell i j (by omega) (by omega)
              have c2 := HQ.out.cell i j (by omega) (by omega)
              rw [jn_at] at c1
              have f1 := HZ.out.frozen (2 + i * 7 + j)
              have q0 : (0 : Int) ≤ (i : Int) := by omega
              have q1 : (0 : Int) ≤ (j : Int) := by omega
              have q2 : (i : Int) < 7 := by omega
              have q3 : (j : Int) < 7 := by omega
              obtain ⟨v, hv⟩ : ∃ v, v = mx (D i j) (E i j) := ⟨_, rfl⟩
              have s1 := Lib.hid (HZ.out.set i j (mx (D i j) (E i j)) (by omega) (by omega)).drew
              have s2 := Lib.hid (HQ.out.set_other (a := ⟨w.heap.size, 2 + i * 7 + j, none⟩) (by simp) (.int .i64 (mx (D i j) (E i j)))).drew
              have s3 := Lib.hid (HZ1.out.set_other (a := ⟨w.heap.size, 2 + i * 7 + j, none⟩) (by simp; omega) (.int .i64 (mx (D i j) (E i j)))).drew
              have s4 := Lib.hid (HB.out.setCell (p := ⟨w.heap.size, 2 + i * 7 + j, none⟩) (Nat.le_refl _) (.int .i64 (mx (D i j) (E i j)))).drew
              clear HB HZ HQ HZ1 hv v
              go_wp2
              go_region
              generalize (wr.setCell { block := w.heap.size, off := 2 + i * 7 + j } (Value.int IntKind.i64 (mx (D i j) (E i j)))).drew = w3 at *
              clear c1 c2 f1 hnc
              go_wp2
              go_roundw
              case rel => exact ⟨j + 1, by omega, by go_num, s4, by rw [jn_step] at s1; exact s1, s2, s3⟩
              case measure => simp [intOf]; omega
            · obtain rfl : j = n + 1 := by omega
              go_wp2
              go_roundw
              case rel => exact ⟨i + 1, by omega, by go_num, HB, by rw [HROW.out] at HZ; exact HZ, HQ, HZ1⟩
              case measure => simp [intOf]; omega
        · obtain rfl : i = n + 1 := by omega
          rw [HEND.out] at HZ
          have hz := HZ.out
          have hz1 := HZ1.out
          have hb := HB.out
          clear HB HZ HQ HZ1
          go_wp2_with (first
            | (refine load_r rfl _ rfl rfl hz ?_)
            | (refine store_r rfl _ _ rfl rfl rfl hz1 ?_; intro W4 hz4 hg4 hs4)
            | fail)
          exact bodyPost_ret (results_r rfl (by simp [Act.put]) hz4) rfl ⟨rfl, below_only hb hg4 hb.size (by omega)⟩
end Go.Proofs.Ytgnkhncogfppgaa

namespace Go.Proofs.Ytgnkhncogfppgaa
open Go.RowKit
set_option maxRecDepth 100000 in
set_option maxHeartbeats 8000000 in
theorem rwiden_any {A B : Zn} (ha : OKZ A) (hb : OKZ B) (h : A.n = B.n) (w : World) : Calls Try.prog 60 #[.agg A.c, .agg B.c] w (Ret w (.agg (widZ A B).c)) := by
  rw [rwid_eq ha hb h]
  have hwi : ∀ W : World, Calls Try.prog 61 #[.agg B.c, .agg A.c] W (Ret W (.bool (withinB B A))) := fun W => rwithin_any hb ha h.symm W
  show Calls Try.prog 60 #[.agg (zc A.n A.none A.D), .agg (zc B.n B.none B.D)] w _
  cases hn : A.none with
  | true =>
    rw [if_pos rfl]
    clear ha hb hwi h hn
    go_enter Try.func60, Try.ntmps60
    go_wp2_with (first
      | (have _t := hz; refine wpList_box_zone rfl 38 _ rfl _ _ _ rfl ?_; intro W2 hq hb2 hs2; rw [hs.out] at hq hb2 hs2; have hz := hz.below hb2 (by omega); have hbc := hz.b_cell; have hnc := hz.n_cell; have hqc := hq.b_cell; have hqn := hq.n_cell; have hb := hb.trans (hb2.mono (by omega)); rw [hs.out]; clear hb2 hs _t)
      | (refine wpList_box_zone rfl 38 _ rfl _ _ _ rfl ?_; intro W hz hb hs; have hbc := hz.b_cell; have hnc := hz.n_cell)
      | (have _t := hs2; refine wpList_alloc_zone rfl 38 rfl rz ?_; intro W3 hz1 hb3 hs3; rw [hs2.out] at hz1 hb3 hs3; rw [hs2.out]; have hz := hz.below hb3 (by omega); have hq := hq.below hb3 (by omega); have hqc := hq.b_cell; have hbc := hz.b_cell; have hnc := hz.n_cell; have hb := hb.trans (hb3.mono (by omega)); clear hb3 hs2 _t)
      | (refine load_r rfl _ rfl rfl hq ?_)
      | (refine store_r rfl _ _ rfl rfl rfl hz1 ?_; intro W4 hz4 hg4 hs4)
      | fail)
    exact bodyPost_ret (results_r rfl (by simp [Act.put]) hz4) rfl ⟨rfl, below_only hb hg4 hb.size (by omega)⟩
  | false =>
    rw [if_neg (by simp)]
    by_cases hin : withinB B A = true
    · rw [if_pos hin]
      rw [hin] at hwi
      have HWI : Hid (∀ W : World, Calls Try.prog 61 #[.agg (zc B.n B.none B.D), .agg (zc A.n A.none A.D)] W (Ret W (.bool true))) := hwi
      rw [hn] at HWI
      rw [Zn.c, hn]
      clear ha hb hwi h hn hin
      go_enter Try.func60, Try.ntmps60
      go_wp2_with (first
        | (have _t := hz; refine wpList_box_zone rfl 38 _ rfl _ _ _ rfl ?_; intro W2 hq hb2 hs2; rw [hs.out] at hq hb2 hs2; have hz := hz.below hb2 (by omega); have hbc := hz.b_cell; have hnc := hz.n_cell; have hqc := hq.b_cell; have hqn := hq.n_cell; have hb := hb.trans (hb2.mono (by omega)); rw [hs.out]; clear hb2 hs _t)
        | (refine wpList_box_zone rfl 38 _ rfl _ _ _ rfl ?_; intro W hz hb hs; have hbc := hz.b_cell; have hnc := hz.n_cell)
        | (have _t := hs2; refine wpList_alloc_zone rfl 38 rfl rz ?_; intro W3 hz1 hb3 hs3; rw [hs2.out] at hz1 hb3 hs3; rw [hs2.out]; have hz := hz.below hb3 (by omega); have hq := hq.below hb3 (by omega); have hqc := hq.b_cell; have hbc := hz.b_cell; have hnc := hz.n_cell; have hb := hb.trans (hb3.mono (by omega)); clear hb3 hs2 _t)
        | (refine load_r rfl _ rfl rfl hz ?_)
        | (refine load_r rfl _ rfl rfl hq ?_)
        | (go_at_call 61; ((with_reducible refine (HWI.out _).mono ?_); rintro e W5 ⟨rfl, hb3⟩; have hz := hz.on hb3; have hz1 := hz1.on hb3; have hb := hb.trans (hb3.mono hb.size); clear hb3))
        | (refine store_r rfl _ _ rfl rfl rfl hz1 ?_; intro W4 hz4 hg4 hs4)
        | fail)
      exact bodyPost_ret (results_r rfl (by simp [Act.put]) hz4) rfl ⟨rfl, below_only hb hg4 hb.size (by omega)⟩
    · rw [if_neg hin]
      rw [within_not hin] at hwi
      have HWI : Hid (∀ W : World, Calls Try.prog 61 #[.agg (zc B.n B.none B.D), .agg (zc A.n A.none A.D)] W (Ret W (.bool false))) := hwi
      obtain ⟨n, hnn⟩ : ∃ n, A.n = n := ⟨_, rfl⟩
      have hn6 : n ≤ 6 := by have := ha.n; omega
      have hbn : B.n = n := by rw [← h]; exact hnn
      have HSTD : Hid (∀ x, x ≤ n → OKZ (rwZ A B x) ∧ (rwZ A B x).n = n) := fun x hx => by
        have := rw_std (b := B) ha hn x (by omega)
        exact ⟨this.1, by rw [this.n]; exact hnn⟩
      have HBD1 : Hid (∀ i, 1 ≤ i → i ≤ n → -4294967296 ≤ A.D i 0 ∧ -4294967296 ≤ A.D 0 i) := fun i h1 h2 => ⟨(ha.bounds hn i 0 (by omega) (by omega)).1, (ha.bounds hn 0 i (by omega) (by omega)).1⟩
      have HTOP : Hid (∀ W : World, Calls Try.prog 27 #[.int .i64 (n : Int)] W (Ret W (.agg (zc n (rwZ A B 0).none (rwZ A B 0).D)))) := fun W => by
        have := rtop_any n hn6 W
        rw [Zn.c, topZ_n] at this
        show Calls Try.prog 27 _ _ (Ret W (.agg (zc n (topZ A.n).none (topZ A.n).D)))
        rw [hnn]
        exact this
      rw [hn] at HWI
      rw [hnn, hbn] at HWI ⊢
      have hfn : (rwZ A B n).n = n := (HSTD.out n (Nat.le_refl _)).2
      rw [show (rwZ A B n).c = zc n (rwZ A B n).none (rwZ A B n).D by rw [Zn.c, hfn]]
      clear ha hb hwi h hn hin hnn hbn hfn
      obtain ⟨D, hD⟩ : ∃ D, A.D = D := ⟨_, rfl⟩
      obtain ⟨E, hE⟩ : ∃ E, B.D = E := ⟨_, rfl⟩
      have HAD := Lib.hid hD
      have HBD := Lib.hid hE
      rw [hD, hE] at HWI
      rw [hD] at HBD1
      rw [hD, hE]
      clear hD hE
      generalize B.none = bn at *
      go_enter Try.func60, Try.ntmps60
      go_wp2_with (first
        | (have _t := hz; refine wpList_box_zone rfl 38 _ rfl _ _ _ rfl ?_; intro W2 hq hb2 hs2; rw [hs.out] at hq hb2 hs2; have hz := hz.below hb2 (by omega); have hbc := hz.b_cell; have hnc := hz.n_cell; have hqc := hq.b_cell; have hqn := hq.n_cell; have hb := hb.trans (hb2.mono (by omega)); rw [hs.out]; clear hb2 hs _t)
        | (refine wpList_box_zone rfl 38 _ rfl _ _ _ rfl ?_; intro W hz hb hs; have hbc := hz.b_cell; have hnc := hz.n_cell)
        | (have _t := hs2; refine wpList_alloc_zone rfl 38 rfl rz ?_; intro W3 hz1 hb3 hs3; rw [hs2.out] at hz1 hb3 hs3; rw [hs2.out]; have hz := hz.below hb3 (by omega); have hq := hq.below hb3 (by omega); have hqc := hq.b_cell; have hbc := hz.b_cell; have hnc := hz.n_cell; have hb := hb.trans (hb3.mono (by omega)); clear hb3 hs2 _t)
        | (refine load_r rfl _ rfl rfl hz ?_)
        | (refine load_r rfl _ rfl rfl hq ?_)
        | (go_at_call 61; ((with_reducible refine (HWI.out _).mono ?_); rintro e W5 ⟨rfl, hb3⟩; have hz := hz.on hb3; have hq := hq.on hb3; have hnc := hz.n_cell; have hz1 := hz1.on hb3; have hb := hb.trans (hb3.mono hb.size); clear hb3))
        | (go_at_call 27; ((with_reducible refine (HTOP.out _).mono ?_); rintro e W6 ⟨rfl, hb3⟩; have hl0 := hz1.lt; have hl1 := hb3.size; have hz := hz.on hb3; have hq := hq.on hb3; have hz1 := hz1.on hb3; have hb := hb.trans (hb3.mono hb.size); clear hb3))
        | (have _t := hl1; refine wpList_alloc_zone rfl 38 rfl rz ?_; intro W7 ho hb4 hs4; have hz := hz.on hb4; have hq := hq.on hb4; have hz1 := hz1.on hb4; have hb := hb.trans (hb4.mono hb.size); clear hb4 _t)
        | (refine store_r rfl _ _ rfl rfl rfl ho ?_; intro W8 ho8 hg8 hs8; have hz := hz.only hg8 (by omega); have hq := hq.only hg8 (by omega); have hz1 := hz1.only hg8 (by omega); have hb := below_only hb hg8 hb.size (by omega); clear ho; have ho := ho8; clear ho8 hg8 hs8)
        | fail)
      have hgg : w.heap.size + 1 + 1 < W6.heap.size := by omega
      generalize W6.heap.size = g at *
      have HB := Lib.hid hb
      have HZ := Lib.hid hz
      have HQ := Lib.hid hq
      have HZ1 := Lib.hid hz1
      have HO := Lib.hid ho
      clear hb hz hq hz1 ho hl0 hl1 HWI HTOP hbc hnc
      go_loopw [6] (fun i_ wr => ∃ x : Nat, x ≤ n ∧ i_ = .int .i64 (x : Int) ∧ Hid (Below w.heap.size w wr) ∧ Hid (ZAt 38 wr w.heap.size n false D) ∧ Hid (ZAt 38 wr (w.heap.size + 1) n bn E) ∧ Hid (ZAt 38 wr (w.heap.size + 1 + 1) 0 false fun _ _ => 0) ∧ Hid (ZAt 38 wr g n (rwZ A B x).none (rwZ A B x).D)) (fun i _ => 9 - (intOf i).toNat)
      case atStart => exact ⟨0, by omega, rfl, HB, HZ, HQ, HZ1, HO⟩
      case round =>
        clear HB HZ HQ HZ1 HO
        obtain ⟨x, hx, rfl, HB, HZ, HQ, HZ1, HO⟩ := hrel
        have hz := HZ.out
        have hq := HQ.out
        have hz1 := HZ1.out
        have ho := HO.out
        have hb := HB.out
        have hnc := hz.n_cell
        clear HB HZ HQ HZ1 HO
        by_cases hlt : x < n
        · have ca1 := hz.cell (x + 1) 0 (by omega) (by omega)
          have ca2 := hz.cell 0 (x + 1) (by omega) (by omega)
          have cb1 := hq.cell (x + 1) 0 (by omega) (by omega)
          have cb2 := hq.cell 0 (x + 1) (by omega) (by omega)
          simp only [Nat.zero_mul, Nat.add_zero] at ca1 ca2 cb1 cb2
          have hzl := hz.lt
          have hql := hq.lt
          have e1 : (0 : Int) ≤ (x : Int) + 1 := by omega
          have e2 : ((x : Int) + 1).toNat = x + 1 := by omega
          have e3 : (x : Int) + 1 < 7 := by omega
          obtain ⟨bd1, bd2⟩ := HBD1.out (x + 1) (by omega) (by omega)
          have hstd := HSTD.out x (by omega)
          obtain ⟨Z, hZ⟩ : ∃ Z, rwZ A B x = Z := ⟨_, rfl⟩
          have HZE := Lib.hid hZ
          rw [hZ] at hstd ho
          have HZK := Lib.hid hstd.1
          have HZN := Lib.hid hstd.2
          clear hZ hstd
          go_wp2
          clear hnc
          by_cases c1 : E (x + 1) 0 ≤ D (x + 1) 0
          · by_cases c2 : E 0 (x + 1) ≤ D 0 (x + 1)
            · obtain ⟨z1, hz1e⟩ : ∃ z1, z1 = boundZ Z (x : Int) (-1) (D (x + 1) 0) := ⟨_, rfl⟩
              have HB1 : Hid (∀ W : World, Calls Try.prog 29 #[.agg (zc n Z.none Z.D), .int .i64 (x : Int), .int .i64 (-1), .int .i64 (D (x + 1) 0)] W (Ret W (.agg (zc n z1.none z1.D)))) := fun W => by
                have := rbound_any HZK.out (i := x + 1) (j := 0) (by rw [HZN.out]; omega) (by omega) (by omega) (d := D (x + 1) 0) (by omega) W
                rw [show ((x + 1 : Nat) : Int) - 1 = x by omega, show ((0 : Nat) : Int) - 1 = -1 by omega, ← hz1e, Zn.c, Zn.c, HZN.out, show z1.n = n by rw [hz1e, boundZ_n]; exact HZN.out] at this
                exact this
              have HZK1 : Hid (OKZ z1) := by
                have := bound_ok HZK.out (i := x + 1) (j := 0) (by rw [HZN.out]; omega) (by omega) (by omega) (d := D (x + 1) 0) (by omega)
                rw [show ((x + 1 : Nat) : Int) - 1 = x by omega, show ((0 : Nat) : Int) - 1 = -1 by omega, ← hz1e] at this
                exact this
              have HZN1 : Hid (z1.n = n) := by rw [hz1e]; show (boundZ Z _ _ _).n = n; rw [boundZ_n]; exact HZN.out
              obtain ⟨z2, hz2e⟩ : ∃ z2, z2 = boundZ z1 (-1) (x : Int) (D 0 (x + 1)) := ⟨_, rfl⟩
              have HB2 : Hid (∀ W : World, Calls Try.prog 29 #[.agg (zc n z1.none z1.D), .int .i64 (-1), .int .i64 (x : Int), .int .i64 (D 0 (x + 1))] W (Ret W (.agg (zc n z2.none z2.D)))) := fun W => by
                have := rbound_any HZK1.out (i := 0) (j := x + 1) (by omega) (by rw [HZN1.out]; omega) (by omega) (d := D 0 (x + 1)) (by omega) W
                rw [show ((x + 1 : Nat) : Int) - 1 = x by omega, show ((0 : Nat) : Int) - 1 = -1 by omega, ← hz2e, Zn.c, Zn.c, HZN1.out, show z2.n = n by rw [hz2e, boundZ_n]; exact HZN1.out] at this
                exact this
              have HNX : Hid (rwZ A B (x + 1) = z2) := by
                show rwS A B x (rwZ A B x) = z2
                rw [HZE.out, hz2e, hz1e]
                unfold rwS
                rw [HAD.out, HBD.out]
                simp only [if_pos c1, if_pos c2]
              clear hz1e
              clear hz2e
              clear HZK HZN HZE HZK1 HZN1
              go_wp2
              refine head0 12 (by kernel_rfl) (by kernel_rfl) (by kernel_rfl) (by kernel_rfl) ?_
              simp only [List.take_succ_cons, List.take_zero, List.drop_succ_cons, List.drop_zero]
              (refine o_start ?_; (iterate 12 (first | (refine o_skip rfl rfl rfl ?_) | (refine o_have rfl fun hw => ?_; (first | (refine o_move hw.out _ rfl rfl rfl rfl ?_) | (refine o_pickT hw.out _ _ _ rfl rfl rfl rfl rfl ?_) | (refine o_pickF hw.out _ _ _ rfl rfl rfl rfl rfl ?_) | (refine o_loadc hw.out _ _ rfl rfl ca1 rfl rfl (by first | exact Try.underlying3 | exact Try.underlying4) rfl ?_) | (refine o_loadc hw.out _ _ rfl rfl ca2 rfl rfl (by first | exact Try.underlying3 | exact Try.underlying4) rfl ?_) | (refine o_loadc hw.out _ _ rfl rfl cb1 rfl rfl (by first | exact Try.underlying3 | exact Try.underlying4) rfl ?_) | (refine o_loadc hw.out _ _ rfl rfl cb2 rfl rfl (by first | exact Try.underlying3 | exact Try.underlying4) rfl ?_) | (refine o_bin hw.out _ _ _ _ _ rfl rfl rfl rfl rfl (v := .int .i64 ((x : Int) + 1)) (fun W => by go_simp; exact IntWalk.i64_in _ (by omega)) ?_) | (refine o_bin hw.out _ _ _ _ _ rfl rfl rfl rfl rfl (fun W => by go_simp; first | done | rfl) ?_) | (refine o_un hw.out _ _ _ rfl rfl rfl rfl (fun W => by go_simp; first | done | rfl) ?_) | (refine o_field hw.out _ _ _ rfl rfl rfl rfl (fun W => by go_simp; first | done | rfl) ?_) | (refine o_index hw.out _ _ _ rfl rfl rfl rfl rfl (fun W => by go_simp; first | done | rfl) ?_) | (refine o_conv hw.out _ _ _ rfl rfl rfl rfl (fun W => by go_simp; first | done | rfl) ?_)); clear hw))); refine o_end ?_; simp only [app, List.set_cons_succ, List.set_cons_zero])
              intro w3 hb3
              have hz := hz.on hb3
              have hq := hq.on hb3
              have hz1 := hz1.on hb3
              have ho := ho.on hb3
              have ca1 := (hb3.cell (p := ⟨_, _, none⟩) (by show w.heap.size < _; exact hzl)).trans ca1
              have ca2 := (hb3.cell (p := ⟨_, _, none⟩) (by show w.heap.size < _; exact hzl)).trans ca2
              have cb1 := (hb3.cell (p := ⟨_, _, none⟩) (by show w.heap.size + 1 < _; exact hql)).trans cb1
              have cb2 := (hb3.cell (p := ⟨_, _, none⟩) (by show w.heap.size + 1 < _; exact hql)).trans cb2
              have hzl := hz.lt
              have hql := hq.lt
              have hb := hb.trans (hb3.mono hb.size)
              clear hb3
              go_wp2
              refine head0 9 (by kernel_rfl) (by kernel_rfl) (by kernel_rfl) (by kernel_rfl) ?_
              simp only [List.take_succ_cons, List.take_zero, List.drop_succ_cons, List.drop_zero]
              (refine o_start ?_; (iterate 9 (first | (refine o_skip rfl rfl rfl ?_) | (refine o_have rfl fun hw => ?_; (first | (refine o_move hw.out _ rfl rfl rfl rfl ?_) | (refine o_pickT hw.out _ _ _ rfl rfl rfl rfl rfl ?_) | (refine o_pickF hw.out _ _ _ rfl rfl rfl rfl rfl ?_) | (refine o_load_r hw.out _ rfl rfl ho rfl rfl ?_) | (refine o_loadc hw.out _ _ rfl rfl ca1 rfl rfl (by first | exact Try.underlying3 | exact Try.underlying4) rfl ?_) | (refine o_loadc hw.out _ _ rfl rfl ca2 rfl rfl (by first | exact Try.underlying3 | exact Try.underlying4) rfl ?_) | (refine o_bin hw.out _ _ _ _ _ rfl rfl rfl rfl rfl (v := .int .i64 ((x : Int) + 1)) (fun W => by go_simp; exact IntWalk.i64_in _ (by omega)) ?_) | (refine o_bin hw.out _ _ _ _ _ rfl rfl rfl rfl rfl (fun W => by go_simp; first | done | rfl) ?_) | (refine o_un hw.out _ _ _ rfl rfl rfl rfl (fun W => by go_simp; first | done | rfl) ?_) | (refine o_field hw.out _ _ _ rfl rfl rfl rfl (fun W => by go_simp; first | done | rfl) ?_) | (refine o_index hw.out _ _ _ rfl rfl rfl rfl rfl (fun W => by go_simp; first | done | rfl) ?_) | (refine o_conv hw.out _ _ _ rfl rfl rfl rfl (fun W => by go_simp; first | done | rfl) ?_) | (refine o_call hw.out _ _ _ rfl rfl (fun W hW => HB1.out W) (by with_reducible rfl) (by with_reducible rfl) rfl rfl (fun ρ W hρ => by go_simp; done) ?_)); clear hw))); refine o_end ?_; simp only [app, List.set_cons_succ, List.set_cons_zero])
              intro w3 hb3
              have hz := hz.on hb3
              have hq := hq.on hb3
              have hz1 := hz1.on hb3
              have ho := ho.on hb3
              have hb := hb.trans (hb3.mono hb.size)
              clear hb3 ca1 ca2 cb1 cb2 hzl hql
              go_wp2_with (first
                | (refine store_r rfl _ _ rfl rfl rfl ho ?_; intro W8 ho8 hg8 hs8; have hz := hz.only hg8 (by omega); have hq := hq.only hg8 (by omega); have hz1 := hz1.only hg8 (by omega); have hb := below_only hb hg8 hb.size (by omega); clear ho; have ho := ho8; clear ho8 hg8 hs8)
                | fail)
              have ca1 := hz.cell (x + 1) 0 (by omega) (by omega)
              have ca2 := hz.cell 0 (x + 1) (by omega) (by omega)
              have cb1 := hq.cell (x + 1) 0 (by omega) (by omega)
              have cb2 := hq.cell 0 (x + 1) (by omega) (by omega)
              simp only [Nat.zero_mul, Nat.add_zero] at ca1 ca2 cb1 cb2
              have hzl := hz.lt
              have hql := hq.lt
              go_wp2
              refine head0 12 (by kernel_rfl) (by kernel_rfl) (by kernel_rfl) (by kernel_rfl) ?_
              simp only [List.take_succ_cons, List.take_zero, List.drop_succ_cons, List.drop_zero]
              (refine o_start ?_; (iterate 12 (first | (refine o_skip rfl rfl rfl ?_) | (refine o_have rfl fun hw => ?_; (first | (refine o_move hw.out _ rfl rfl rfl rfl ?_) | (refine o_pickT hw.out _ _ _ rfl rfl rfl rfl rfl ?_) | (refine o_pickF hw.out _ _ _ rfl rfl rfl rfl rfl ?_) | (refine o_loadc hw.out _ _ rfl rfl ca1 rfl rfl (by first | exact Try.underlying3 | exact Try.underlying4) rfl ?_) | (refine o_loadc hw.out _ _ rfl rfl ca2 rfl rfl (by first | exact Try.underlying3 | exact Try.underlying4) rfl ?_) | (refine o_loadc hw.out _ _ rfl rfl cb1 rfl rfl (by first | exact Try.underlying3 | exact Try.underlying4) rfl ?_) | (refine o_loadc hw.out _ _ rfl rfl cb2 rfl rfl (by first | exact Try.underlying3 | exact Try.underlying4) rfl ?_) | (refine o_bin hw.out _ _ _ _ _ rfl rfl rfl rfl rfl (v := .int .i64 ((x : Int) + 1)) (fun W => by go_simp; exact IntWalk.i64_in _ (by omega)) ?_) | (refine o_bin hw.out _ _ _ _ _ rfl rfl rfl rfl rfl (fun W => by go_simp; first | done | rfl) ?_) | (refine o_un hw.out _ _ _ rfl rfl rfl rfl (fun W => by go_simp; first | done | rfl) ?_) | (refine o_field hw.out _ _ _ rfl rfl rfl rfl (fun W => by go_simp; first | done | rfl) ?_) | (refine o_index hw.out _ _ _ rfl rfl rfl rfl rfl (fun W => by go_simp; first | done | rfl) ?_) | (refine o_conv hw.out _ _ _ rfl rfl rfl rfl (fun W => by go_simp; first | done | rfl) ?_)); clear hw))); refine o_end ?_; simp only [app, List.set_cons_succ, List.set_cons_zero])
              intro w3 hb3
              have hz := hz.on hb3
              have hq := hq.on hb3
              have hz1 := hz1.on hb3
              have ho := ho.on hb3
              have ca1 := (hb3.cell (p := ⟨_, _, none⟩) (by show w.heap.size < _; exact hzl)).trans ca1
              have ca2 := (hb3.cell (p := ⟨_, _, none⟩) (by show w.heap.size < _; exact hzl)).trans ca2
              have cb1 := (hb3.cell (p := ⟨_, _, none⟩) (by show w.heap.size + 1 < _; exact hql)).trans cb1
              have cb2 := (hb3.cell (p := ⟨_, _, none⟩) (by show w.heap.size + 1 < _; exact hql)).trans cb2
              have hzl := hz.lt
              have hql := hq.lt
              have hb := hb.trans (hb3.mono hb.size)
              clear hb3
              go_wp2
              refine head0 9 (by kernel_rfl) (by kernel_rfl) (by kernel_rfl) (by kernel_rfl) ?_
              simp only [List.take_succ_cons, List.take_zero, List.drop_succ_cons, List.drop_zero]
              (refine o_start ?_; (iterate 9 (first | (refine o_skip rfl rfl rfl ?_) | (refine o_have rfl fun hw => ?_; (first | (refine o_move hw.out _ rfl rfl rfl rfl ?_) | (refine o_pickT hw.out _ _ _ rfl rfl rfl rfl rfl ?_) | (refine o_pickF hw.out _ _ _ rfl rfl rfl rfl rfl ?_) | (refine o_load_r hw.out _ rfl rfl ho rfl rfl ?_) | (refine o_loadc hw.out _ _ rfl rfl ca1 rfl rfl (by first | exact Try.underlying3 | exact Try.underlying4) rfl ?_) | (refine o_loadc hw.out _ _ rfl rfl ca2 rfl rfl (by first | exact Try.underlying3 | exact Try.underlying4) rfl ?_) | (refine o_bin hw.out _ _ _ _ _ rfl rfl rfl rfl rfl (v := .int .i64 ((x : Int) + 1)) (fun W => by go_simp; exact IntWalk.i64_in _ (by omega)) ?_) | (refine o_bin hw.out _ _ _ _ _ rfl rfl rfl rfl rfl (fun W => by go_simp; first | done | rfl) ?_) | (refine o_un hw.out _ _ _ rfl rfl rfl rfl (fun W => by go_simp; first | done | rfl) ?_) | (refine o_field hw.out _ _ _ rfl rfl rfl rfl (fun W => by go_simp; first | done | rfl) ?_) | (refine o_index hw.out _ _ _ rfl rfl rfl rfl rfl (fun W => by go_simp; first | done | rfl) ?_) | (refine o_conv hw.out _ _ _ rfl rfl rfl rfl (fun W => by go_simp; first | done | rfl) ?_) | (refine o_call hw.out _ _ _ rfl rfl (fun W hW => HB2.out W) (by with_reducible rfl) (by with_reducible rfl) rfl rfl (fun ρ W hρ => by go_simp; done) ?_)); clear hw))); refine o_end ?_; simp only [app, List.set_cons_succ, List.set_cons_zero])
              intro w3 hb3
              have hz := hz.on hb3
              have hq := hq.on hb3
              have hz1 := hz1.on hb3
              have ho := ho.on hb3
              have hb := hb.trans (hb3.mono hb.size)
              clear hb3 ca1 ca2 cb1 cb2 hzl hql
              go_wp2_with (first
                | (refine store_r rfl _ _ rfl rfl rfl ho ?_; intro W8 ho8 hg8 hs8; have hz := hz.only hg8 (by omega); have hq := hq.only hg8 (by omega); have hz1 := hz1.only hg8 (by omega); have hb := below_only hb hg8 hb.size (by omega); clear ho; have ho := ho8; clear ho8 hg8 hs8)
                | fail)
              have ca1 := hz.cell (x + 1) 0 (by omega) (by omega)
              have ca2 := hz.cell 0 (x + 1) (by omega) (by omega)
              have cb1 := hq.cell (x + 1) 0 (by omega) (by omega)
              have cb2 := hq.cell 0 (x + 1) (by omega) (by omega)
              simp only [Nat.zero_mul, Nat.add_zero] at ca1 ca2 cb1 cb2
              have hzl := hz.lt
              have hql := hq.lt
              have HB := Lib.hid hb
              have HZ := Lib.hid hz
              have HQ := Lib.hid hq
              have HZ1 := Lib.hid hz1
              have HO := Lib.hid ho
              clear hb hz hq hz1 ho ca1 ca2 cb1 cb2 hzl hql
              go_wp2
              go_roundw
              case rel => exact ⟨x + 1, by omega, by go_num, HB, HZ, HQ, HZ1, by rw [HNX.out]; exact HO⟩
              case measure => simp [intOf]; omega
            · obtain ⟨z1, hz1e⟩ : ∃ z1, z1 = boundZ Z (x : Int) (-1) (D (x + 1) 0) := ⟨_, rfl⟩
              have HB1 : Hid (∀ W : World, Calls Try.prog 29 #[.agg (zc n Z.none Z.D), .int .i64 (x : Int), .int .i64 (-1), .int .i64 (D (x + 1) 0)] W (Ret W (.agg (zc n z1.none z1.D)))) := fun W => by
                have := rbound_any HZK.out (i := x + 1) (j := 0) (by rw [HZN.out]; omega) (by omega) (by omega) (d := D (x + 1) 0) (by omega) W
                rw [show ((x + 1 : Nat) : Int) - 1 = x by omega, show ((0 : Nat) : Int) - 1 = -1 by omega, ← hz1e, Zn.c, Zn.c, HZN.out, show z1.n = n by rw [hz1e, boundZ_n]; exact HZN.out] at this
                exact this
              have HZK1 : Hid (OKZ z1) := by
                have := bound_ok HZK.out (i := x + 1) (j := 0) (by rw [HZN.out]; omega) (by omega) (by omega) (d := D (x + 1) 0) (by omega)
                rw [show ((x + 1 : Nat) : Int) - 1 = x by omega, show ((0 : Nat) : Int) - 1 = -1 by omega, ← hz1e] at this
                exact this
              have HZN1 : Hid (z1.n = n) := by rw [hz1e]; show (boundZ Z _ _ _).n = n; rw [boundZ_n]; exact HZN.out
              obtain ⟨z2, hz2e⟩ : ∃ z2, z2 = z1 := ⟨_, rfl⟩
              have HNX : Hid (rwZ A B (x + 1) = z2) := by
                show rwS A B x (rwZ A B x) = z2
                rw [HZE.out, hz2e, hz1e]
                unfold rwS
                rw [HAD.out, HBD.out]
                simp only [if_pos c1, if_neg c2]
              clear hz1e
              subst hz2e
              clear HZK HZN HZE HZK1 HZN1
              go_wp2
              refine head0 12 (by kernel_rfl) (by kernel_rfl) (by kernel_rfl) (by kernel_rfl) ?_
              simp only [List.take_succ_cons, List.take_zero, List.drop_succ_cons, List.drop_zero]
              (refine o_start ?_; (iterate 12 (first | (refine o_skip rfl rfl rfl ?_) | (refine o_have rfl fun hw => ?_; (first | (refine o_move hw.out _ rfl rfl rfl rfl ?_) | (refine o_pickT hw.out _ _ _ rfl rfl rfl rfl rfl ?_) | (refine o_pickF hw.out _ _ _ rfl rfl rfl rfl rfl ?_) | (refine o_loadc hw.out _ _ rfl rfl ca1 rfl rfl (by first | exact Try.underlying3 | exact Try.underlying4) rfl ?_) | (refine o_loadc hw.out _ _ rfl rfl ca2 rfl rfl (by first | exact Try.underlying3 | exact Try.underlying4) rfl ?_) | (refine o_loadc hw.out _ _ rfl rfl cb1 rfl rfl (by first | exact Try.underlying3 | exact Try.underlying4) rfl ?_) | (refine o_loadc hw.out _ _ rfl rfl cb2 rfl rfl (by first | exact Try.underlying3 | exact Try.underlying4) rfl ?_) | (refine o_bin hw.out _ _ _ _ _ rfl rfl rfl rfl rfl (v := .int .i64 ((x : Int) + 1)) (fun W => by go_simp; exact IntWalk.i64_in _ (by omega)) ?_) | (refine o_bin hw.out _ _ _ _ _ rfl rfl rfl rfl rfl (fun W => by go_simp; first | done | rfl) ?_) | (refine o_un hw.out _ _ _ rfl rfl rfl rfl (fun W => by go_simp; first | done | rfl) ?_) | (refine o_field hw.out _ _ _ rfl rfl rfl rfl (fun W => by go_simp; first | done | rfl) ?_) | (refine o_index hw.out _ _ _ rfl rfl rfl rfl rfl (fun W => by go_simp; first | done | rfl) ?_) | (refine o_conv hw.out _ _ _ rfl rfl rfl rfl (fun W => by go_simp; first | done | rfl) ?_)); clear hw))); refine o_end ?_; simp only [app, List.set_cons_succ, List.set_cons_zero])
              intro w3 hb3
              have hz := hz.on hb3
              have hq := hq.on hb3
              have hz1 := hz1.on hb3
              have ho := ho.on hb3
              have ca1 := (hb3.cell (p := ⟨_, _, none⟩) (by show w.heap.size < _; exact hzl)).trans ca1
              have ca2 := (hb3.cell (p := ⟨_, _, none⟩) (by show w.heap.size < _; exact hzl)).trans ca2
              have cb1 := (hb3.cell (p := ⟨_, _, none⟩) (by show w.heap.size + 1 < _; exact hql)).trans cb1
              have cb2 := (hb3.cell (p := ⟨_, _, none⟩) (by show w.heap.size + 1 < _; exact hql)).trans cb2
              have hzl := hz.lt
              have hql := hq.lt
              have hb := hb.trans (hb3.mono hb.size)
              clear hb3
              go_wp2
              refine head0 9 (by kernel_rfl) (by kernel_rfl) (by kernel_rfl) (by kernel_rfl) ?_
              simp only [List.take_succ_cons, List.take_zero, List.drop_succ_cons, List.drop_zero]
              (refine o_start ?_; (iterate 9 (first | (refine o_skip rfl rfl rfl ?_) | (refine o_have rfl fun hw => ?_; (first | (refine o_move hw.out _ rfl rfl rfl rfl ?_) | (refine o_pickT hw.out _ _ _ rfl rfl rfl rfl rfl ?_) | (refine o_pickF hw.out _ _ _ rfl rfl rfl rfl rfl ?_) | (refine o_load_r hw.out _ rfl rfl ho rfl rfl ?_) | (refine o_loadc hw.out _ _ rfl rfl ca1 rfl rfl (by first | exact Try.underlying3 | exact Try.underlying4) rfl ?_) | (refine o_loadc hw.out _ _ rfl rfl ca2 rfl rfl (by first | exact Try.underlying3 | exact Try.underlying4) rfl ?_) | (refine o_bin hw.out _ _ _ _ _ rfl rfl rfl rfl rfl (v := .int .i64 ((x : Int) + 1)) (fun W => by go_simp; exact IntWalk.i64_in _ (by omega)) ?_) | (refine o_bin hw.out _ _ _ _ _ rfl rfl rfl rfl rfl (fun W => by go_simp; first | done | rfl) ?_) | (refine o_un hw.out _ _ _ rfl rfl rfl rfl (fun W => by go_simp; first | done | rfl) ?_) | (refine o_field hw.out _ _ _ rfl rfl rfl rfl (fun W => by go_simp; first | done | rfl) ?_) | (refine o_index hw.out _ _ _ rfl rfl rfl rfl rfl (fun W => by go_simp; first | done | rfl) ?_) | (refine o_conv hw.out _ _ _ rfl rfl rfl rfl (fun W => by go_simp; first | done | rfl) ?_) | (refine o_call hw.out _ _ _ rfl rfl (fun W hW => HB1.out W) (by with_reducible rfl) (by with_reducible rfl) rfl rfl (fun ρ W hρ => by go_simp; done) ?_)); clear hw))); refine o_end ?_; simp only [app, List.set_cons_succ, List.set_cons_zero])
              intro w3 hb3
              have hz := hz.on hb3
              have hq := hq.on hb3
              have hz1 := hz1.on hb3
              have ho := ho.on hb3
              have hb := hb.trans (hb3.mono hb.size)
              clear hb3 ca1 ca2 cb1 cb2 hzl hql
              go_wp2_with (first
                | (refine store_r rfl _ _ rfl rfl rfl ho ?_; intro W8 ho8 hg8 hs8; have hz := hz.only hg8 (by omega); have hq := hq.only hg8 (by omega); have hz1 := hz1.only hg8 (by omega); have hb := below_only hb hg8 hb.size (by omega); clear ho; have ho := ho8; clear ho8 hg8 hs8)
                | fail)
              have ca1 := hz.cell (x + 1) 0 (by omega) (by omega)
              have ca2 := hz.cell 0 (x + 1) (by omega) (by omega)
              have cb1 := hq.cell (x + 1) 0 (by omega) (by omega)
              have cb2 := hq.cell 0 (x + 1) (by omega) (by omega)
              simp only [Nat.zero_mul, Nat.add_zero] at ca1 ca2 cb1 cb2
              have hzl := hz.lt
              have hql := hq.lt
              go_wp2
              refine head0 12 (by kernel_rfl) (by kernel_rfl) (by kernel_rfl) (by kernel_rfl) ?_
              simp only [List.take_succ_cons, List.take_zero, List.drop_succ_cons, List.drop_zero]
              (refine o_start ?_; (iterate 12 (first | (refine o_skip rfl rfl rfl ?_) | (refine o_have rfl fun hw => ?_; (first | (refine o_move hw.out _ rfl rfl rfl rfl ?_) | (refine o_pickT hw.out _ _ _ rfl rfl rfl rfl rfl ?_) | (refine o_pickF hw.out _ _ _ rfl rfl rfl rfl rfl ?_) | (refine o_loadc hw.out _ _ rfl rfl ca1 rfl rfl (by first | exact Try.underlying3 | exact Try.underlying4) rfl ?_) | (refine o_loadc hw.out _ _ rfl rfl ca2 rfl rfl (by first | exact Try.underlying3 | exact Try.underlying4) rfl ?_) | (refine o_loadc hw.out _ _ rfl rfl cb1 rfl rfl (by first | exact Try.underlying3 | exact Try.underlying4) rfl ?_) | (refine o_loadc hw.out _ _ rfl rfl cb2 rfl rfl (by first | exact Try.underlying3 | exact Try.underlying4) rfl ?_) | (refine o_bin hw.out _ _ _ _ _ rfl rfl rfl rfl rfl (v := .int .i64 ((x : Int) + 1)) (fun W => by go_simp; exact IntWalk.i64_in _ (by omega)) ?_) | (refine o_bin hw.out _ _ _ _ _ rfl rfl rfl rfl rfl (fun W => by go_simp; first | done | rfl) ?_) | (refine o_un hw.out _ _ _ rfl rfl rfl rfl (fun W => by go_simp; first | done | rfl) ?_) | (refine o_field hw.out _ _ _ rfl rfl rfl rfl (fun W => by go_simp; first | done | rfl) ?_) | (refine o_index hw.out _ _ _ rfl rfl rfl rfl rfl (fun W => by go_simp; first | done | rfl) ?_) | (refine o_conv hw.out _ _ _ rfl rfl rfl rfl (fun W => by go_simp; first | done | rfl) ?_)); clear hw))); refine o_end ?_; simp only [app, List.set_cons_succ, List.set_cons_zero])
              intro w3 hb3
              have hz := hz.on hb3
              have hq := hq.on hb3
              have hz1 := hz1.on hb3
              have ho := ho.on hb3
              have ca1 := (hb3.cell (p := ⟨_, _, none⟩) (by show w.heap.size < _; exact hzl)).trans ca1
              have ca2 := (hb3.cell (p := ⟨_, _, none⟩) (by show w.heap.size < _; exact hzl)).trans ca2
              have cb1 := (hb3.cell (p := ⟨_, _, none⟩) (by show w.heap.size + 1 < _; exact hql)).trans cb1
              have cb2 := (hb3.cell (p := ⟨_, _, none⟩) (by show w.heap.size + 1 < _; exact hql)).trans cb2
              have hzl := hz.lt
              have hql := hq.lt
              have hb := hb.trans (hb3.mono hb.size)
              clear hb3
              have HB := Lib.hid hb
              have HZ := Lib.hid hz
              have HQ := Lib.hid hq
              have HZ1 := Lib.hid hz1
              have HO := Lib.hid ho
              clear hb hz hq hz1 ho ca1 ca2 cb1 cb2 hzl hql
              go_wp2
              go_roundw
              case rel => exact ⟨x + 1, by omega, by go_num, HB, HZ, HQ, HZ1, by rw [HNX.out]; exact HO⟩
              case measure => simp [intOf]; omega
          · by_cases c2 : E 0 (x + 1) ≤ D 0 (x + 1)
            · obtain ⟨z1, hz1e⟩ : ∃ z1, z1 = Z := ⟨_, rfl⟩
              have HZK1 : Hid (OKZ z1) := by rw [hz1e]; exact HZK.out
              have HZN1 : Hid (z1.n = n) := by rw [hz1e]; exact HZN.out
              obtain ⟨z2, hz2e⟩ : ∃ z2, z2 = boundZ z1 (-1) (x : Int) (D 0 (x + 1)) := ⟨_, rfl⟩
              have HB2 : Hid (∀ W : World, Calls Try.prog 29 #[.agg (zc n z1.none z1.D), .int .i64 (-1), .int .i64 (x : Int), .int .i64 (D 0 (x + 1))] W (Ret W (.agg (zc n z2.none z2.D)))) := fun W => by
                have := rbound_any HZK1.out (i := 0) (j := x + 1) (by omega) (by rw [HZN1.out]; omega) (by omega) (d := D 0 (x + 1)) (by omega) W
                rw [show ((x + 1 : Nat) : Int) - 1 = x by omega, show ((0 : Nat) : Int) - 1 = -1 by omega, ← hz2e, Zn.c, Zn.c, HZN1.out, show z2.n = n by rw [hz2e, boundZ_n]; exact HZN1.out] at this
                exact this
              have HNX : Hid (rwZ A B (x + 1) = z2) := by
                show rwS A B x (rwZ A B x) = z2
                rw [HZE.out, hz2e, hz1e]
                unfold rwS
                rw [HAD.out, HBD.out]
                simp only [if_neg c1, if_pos c2]
              subst hz1e
              clear hz2e
              clear HZK HZN HZE HZK1 HZN1
              go_wp2
              refine head0 12 (by kernel_rfl) (by kernel_rfl) (by kernel_rfl) (by kernel_rfl) ?_
              simp only [List.take_succ_cons, List.take_zero, List.drop_succ_cons, List.drop_zero]
              (refine o_start ?_; (iterate 12 (first | (refine o_skip rfl rfl rfl ?_) | (refine o_have rfl fun hw => ?_; (first | (refine o_move hw.out _ rfl rfl rfl rfl ?_) | (refine o_pickT hw.out _ _ _ rfl rfl rfl rfl rfl ?_) | (refine o_pickF hw.out _ _ _ rfl rfl rfl rfl rfl ?_) | (refine o_loadc hw.out _ _ rfl rfl ca1 rfl rfl (by first | exact Try.underlying3 | exact Try.underlying4) rfl ?_) | (refine o_loadc hw.out _ _ rfl rfl ca2 rfl rfl (by first | exact Try.underlying3 | exact Try.underlying4) rfl ?_) | (refine o_loadc hw.out _ _ rfl rfl cb1 rfl rfl (by first | exact Try.underlying3 | exact Try.underlying4) rfl ?_) | (refine o_loadc hw.out _ _ rfl rfl cb2 rfl rfl (by first | exact Try.underlying3 | exact Try.underlying4) rfl ?_) | (refine o_bin hw.out _ _ _ _ _ rfl rfl rfl rfl rfl (v := .int .i64 ((x : Int) + 1)) (fun W => by go_simp; exact IntWalk.i64_in _ (by omega)) ?_) | (refine o_bin hw.out _ _ _ _ _ rfl rfl rfl rfl rfl (fun W => by go_simp; first | done | rfl) ?_) | (refine o_un hw.out _ _ _ rfl rfl rfl rfl (fun W => by go_simp; first | done | rfl) ?_) | (refine o_field hw.out _ _ _ rfl rfl rfl rfl (fun W => by go_simp; first | done | rfl) ?_) | (refine o_index hw.out _ _ _ rfl rfl rfl rfl rfl (fun W => by go_simp; first | done | rfl) ?_) | (refine o_conv hw.out _ _ _ rfl rfl rfl rfl (fun W => by go_simp; first | done | rfl) ?_)); clear hw))); refine o_end ?_; simp only [app, List.set_cons_succ, List.set_cons_zero])
              intro w3 hb3
              have hz := hz.on hb3
              have hq := hq.on hb3
              have hz1 := hz1.on hb3
              have ho := ho.on hb3
              have ca1 := (hb3.cell (p := ⟨_, _, none⟩) (by show w.heap.size < _; exact hzl)).trans ca1
              have ca2 := (hb3.cell (p := ⟨_, _, none⟩) (by show w.heap.size < _; exact hzl)).trans ca2
              have cb1 := (hb3.cell (p := ⟨_, _, none⟩) (by show w.heap.size + 1 < _; exact hql)).trans cb1
              have cb2 := (hb3.cell (p := ⟨_, _, none⟩) (by show w.heap.size + 1 < _; exact hql)).trans cb2
              have hzl := hz.lt
              have hql := hq.lt
              have hb := hb.trans (hb3.mono hb.size)
              clear hb3
              go_wp2
              refine head0 12 (by kernel_rfl) (by kernel_rfl) (by kernel_rfl) (by kernel_rfl) ?_
              simp only [List.take_succ_cons, List.take_zero, List.drop_succ_cons, List.drop_zero]
              (refine o_start ?_; (iterate 12 (first | (refine o_skip rfl rfl rfl ?_) | (refine o_have rfl fun hw => ?_; (first | (refine o_move hw.out _ rfl rfl rfl rfl ?_) | (refine o_pickT hw.out _ _ _ rfl rfl rfl rfl rfl ?_) | (refine o_pickF hw.out _ _ _ rfl rfl rfl rfl rfl ?_) | (refine o_loadc hw.out _ _ rfl rfl ca1 rfl rfl (by first | exact Try.underlying3 | exact Try.underlying4) rfl ?_) | (refine o_loadc hw.out _ _ rfl rfl ca2 rfl rfl (by first | exact Try.underlying3 | exact Try.underlying4) rfl ?_) | (refine o_loadc hw.out _ _ rfl rfl cb1 rfl rfl (by first | exact Try.underlying3 | exact Try.underlying4) rfl ?_) | (refine o_loadc hw.out _ _ rfl rfl cb2 rfl rfl (by first | exact Try.underlying3 | exact Try.underlying4) rfl ?_) | (refine o_bin hw.out _ _ _ _ _ rfl rfl rfl rfl rfl (v := .int .i64 ((x : Int) + 1)) (fun W => by go_simp; exact IntWalk.i64_in _ (by omega)) ?_) | (refine o_bin hw.out _ _ _ _ _ rfl rfl rfl rfl rfl (fun W => by go_simp; first | done | rfl) ?_) | (refine o_un hw.out _ _ _ rfl rfl rfl rfl (fun W => by go_simp; first | done | rfl) ?_) | (refine o_field hw.out _ _ _ rfl rfl rfl rfl (fun W => by go_simp; first | done | rfl) ?_) | (refine o_index hw.out _ _ _ rfl rfl rfl rfl rfl (fun W => by go_simp; first | done | rfl) ?_) | (refine o_conv hw.out _ _ _ rfl rfl rfl rfl (fun W => by go_simp; first | done | rfl) ?_)); clear hw))); refine o_end ?_; simp only [app, List.set_cons_succ, List.set_cons_zero])
              intro w3 hb3
              have hz := hz.on hb3
              have hq := hq.on hb3
              have hz1 := hz1.on hb3
              have ho := ho.on hb3
              have ca1 := (hb3.cell (p := ⟨_, _, none⟩) (by show w.heap.size < _; exact hzl)).trans ca1
              have ca2 := (hb3.cell (p := ⟨_, _, none⟩) (by show w.heap.size < _; exact hzl)).trans ca2
              have cb1 := (hb3.cell (p := ⟨_, _, none⟩) (by show w.heap.size + 1 < _; exact hql)).trans cb1
              have cb2 := (hb3.cell (p := ⟨_, _, none⟩) (by show w.heap.size + 1 < _; exact hql)).trans cb2
              have hzl := hz.lt
              have hql := hq.lt
              have hb := hb.trans (hb3.mono hb.size)
              clear hb3
              go_wp2
              refine head0 9 (by kernel_rfl) (by kernel_rfl) (by kernel_rfl) (by kernel_rfl) ?_
              simp only [List.take_succ_cons, List.take_zero, List.drop_succ_cons, List.drop_zero]
              (refine o_start ?_; (iterate 9 (first | (refine o_skip rfl rfl rfl ?_) | (refine o_have rfl fun hw => ?_; (first | (refine o_move hw.out _ rfl rfl rfl rfl ?_) | (refine o_pickT hw.out _ _ _ rfl rfl rfl rfl rfl ?_) | (refine o_pickF hw.out _ _ _ rfl rfl rfl rfl rfl ?_) | (refine o_load_r hw.out _ rfl rfl ho rfl rfl ?_) | (refine o_loadc hw.out _ _ rfl rfl ca1 rfl rfl (by first | exact Try.underlying3 | exact Try.underlying4) rfl ?_) | (refine o_loadc hw.out _ _ rfl rfl ca2 rfl rfl (by first | exact Try.underlying3 | exact Try.underlying4) rfl ?_) | (refine o_bin hw.out _ _ _ _ _ rfl rfl rfl rfl rfl (v := .int .i64 ((x : Int) + 1)) (fun W => by go_simp; exact IntWalk.i64_in _ (by omega)) ?_) | (refine o_bin hw.out _ _ _ _ _ rfl rfl rfl rfl rfl (fun W => by go_simp; first | done | rfl) ?_) | (refine o_un hw.out _ _ _ rfl rfl rfl rfl (fun W => by go_simp; first | done | rfl) ?_) | (refine o_field hw.out _ _ _ rfl rfl rfl rfl (fun W => by go_simp; first | done | rfl) ?_) | (refine o_index hw.out _ _ _ rfl rfl rfl rfl rfl (fun W => by go_simp; first | done | rfl) ?_) | (refine o_conv hw.out _ _ _ rfl rfl rfl rfl (fun W => by go_simp; first | done | rfl) ?_) | (refine o_call hw.out _ _ _ rfl rfl (fun W hW => HB2.out W) (by with_reducible rfl) (by with_reducible rfl) rfl rfl (fun ρ W hρ => by go_simp; done) ?_)); clear hw))); refine o_end ?_; simp only [app, List.set_cons_succ, List.set_cons_zero])
              intro w3 hb3
              have hz := hz.on hb3
              have hq := hq.on hb3
              have hz1 := hz1.on hb3
              have ho := ho.on hb3
              have hb := hb.trans (hb3.mono hb.size)
              clear hb3 ca1 ca2 cb1 cb2 hzl hql
              go_wp2_with (first
                | (refine store_r rfl _ _ rfl rfl rfl ho ?_; intro W8 ho8 hg8 hs8; have hz := hz.only hg8 (by omega); have hq := hq.only hg8 (by omega); have hz1 := hz1.only hg8 (by omega); have hb := below_only hb hg8 hb.size (by omega); clear ho; have ho := ho8; clear ho8 hg8 hs8)
                | fail)
              have ca1 := hz.cell (x + 1) 0 (by omega) (by omega)
              have ca2 := hz.cell 0 (x + 1) (by omega) (by omega)
              have cb1 := hq.cell (x + 1) 0 (by omega) (by omega)
              have cb2 := hq.cell 0 (x + 1) (by omega) (by omega)
              simp only [Nat.zero_mul, Nat.add_zero] at ca1 ca2 cb1 cb2
              have hzl := hz.lt
              have hql := hq.lt
              have HB := Lib.hid hb
              have HZ := Lib.hid hz
              have HQ := Lib.hid hq
              have HZ1 := Lib.hid hz1
              have HO := Lib.hid ho
              clear hb hz hq hz1 ho ca1 ca2 cb1 cb2 hzl hql
              go_wp2
              go_roundw
              case rel => exact ⟨x + 1, by omega, by go_num, HB, HZ, HQ, HZ1, by rw [HNX.out]; exact HO⟩
              case measure => simp [intOf]; omega
            · obtain ⟨z1, hz1e⟩ : ∃ z1, z1 = Z := ⟨_, rfl⟩
              have HZK1 : Hid (OKZ z1) := by rw [hz1e]; exact HZK.out
              have HZN1 : Hid (z1.n = n) := by rw [hz1e]; exact HZN.out
              obtain ⟨z2, hz2e⟩ : ∃ z2, z2 = z1 := ⟨_, rfl⟩
              have HNX : Hid (rwZ A B (x + 1) = z2) := by
                show rwS A B x (rwZ A B x) = z2
                rw [HZE.out, hz2e, hz1e]
                unfold rwS
                rw [HAD.out, HBD.out]
                simp only [if_neg c1, if_neg c2]
              subst hz1e
              subst hz2e
              clear HZK HZN HZE HZK1 HZN1
              go_wp2
              refine head0 12 (by kernel_rfl) (by kernel_rfl) (by kernel_rfl) (by kernel_rfl) ?_
              simp only [List.take_succ_cons, List.take_zero, List.drop_succ_cons, List.drop_zero]
              (refine o_start ?_; (iterate 12 (first | (refine o_skip rfl rfl rfl ?_) | (refine o_have rfl fun hw => ?_; (first | (refine o_move hw.out _ rfl rfl rfl rfl ?_) | (refine o_pickT hw.out _ _ _ rfl rfl rfl rfl rfl ?_) | (refine o_pickF hw.out _ _ _ rfl rfl rfl rfl rfl ?_) | (refine o_loadc hw.out _ _ rfl rfl ca1 rfl rfl (by first | exact Try.underlying3 | exact Try.underlying4) rfl ?_) | (refine o_loadc hw.out _ _ rfl rfl ca2 rfl rfl (by first | exact Try.underlying3 | exact Try.underlying4) rfl ?_) | (refine o_loadc hw.out _ _ rfl rfl cb1 rfl rfl (by first | exact Try.underlying3 | exact Try.underlying4) rfl ?_) | (refine o_loadc hw.out _ _ rfl rfl cb2 rfl rfl (by first | exact Try.underlying3 | exact Try.underlying4) rfl ?_) | (refine o_bin hw.out _ _ _ _ _ rfl rfl rfl rfl rfl (v := .int .i64 ((x : Int) + 1)) (fun W => by go_simp; exact IntWalk.i64_in _ (by omega)) ?_) | (refine o_bin hw.out _ _ _ _ _ rfl rfl rfl rfl rfl (fun W => by go_simp; first | done | rfl) ?_) | (refine o_un hw.out _ _ _ rfl rfl rfl rfl (fun W => by go_simp; first | done | rfl) ?_) | (refine o_field hw.out _ _ _ rfl rfl rfl rfl (fun W => by go_simp; first | done | rfl) ?_) | (refine o_index hw.out _ _ _ rfl rfl rfl rfl rfl (fun W => by go_simp; first | done | rfl) ?_) | (refine o_conv hw.out _ _ _ rfl rfl rfl rfl (fun W => by go_simp; first | done | rfl) ?_)); clear hw))); refine o_end ?_; simp only [app, List.set_cons_succ, List.set_cons_zero])
              intro w3 hb3
              have hz := hz.on hb3
              have hq := hq.on hb3
              have hz1 := hz1.on hb3
              have ho := ho.on hb3
              have ca1 := (hb3.cell (p := ⟨_, _, none⟩) (by show w.heap.size < _; exact hzl)).trans ca1
              have ca2 := (hb3.cell (p := ⟨_, _, none⟩) (by show w.heap.size < _; exact hzl)).trans ca2
              have cb1 := (hb3.cell (p := ⟨_, _, none⟩) (by show w.heap.size + 1 < _; exact hql)).trans cb1
              have cb2 := (hb3.cell (p := ⟨_, _, none⟩) (by show w.heap.size + 1 < _; exact hql)).trans cb2
              have hzl := hz.lt
              have hql := hq.lt
              have hb := hb.trans (hb3.mono hb.size)
              clear hb3
              go_wp2
              refine head0 12 (by kernel_rfl) (by kernel_rfl) (by kernel_rfl) (by kernel_rfl) ?_
              simp only [List.take_succ_cons, List.take_zero, List.drop_succ_cons, List.drop_zero]
              (refine o_start ?_; (iterate 12 (first | (refine o_skip rfl rfl rfl ?_) | (refine o_have rfl fun hw => ?_; (first | (refine o_move hw.out _ rfl rfl rfl rfl ?_) | (refine o_pickT hw.out _ _ _ rfl rfl rfl rfl rfl ?_) | (refine o_pickF hw.out _ _ _ rfl rfl rfl rfl rfl ?_) | (refine o_loadc hw.out _ _ rfl rfl ca1 rfl rfl (by first | exact Try.underlying3 | exact Try.underlying4) rfl ?_) | (refine o_loadc hw.out _ _ rfl rfl ca2 rfl rfl (by first | exact Try.underlying3 | exact Try.underlying4) rfl ?_) | (refine o_loadc hw.out _ _ rfl rfl cb1 rfl rfl (by first | exact Try.underlying3 | exact Try.underlying4) rfl ?_) | (refine o_loadc hw.out _ _ rfl rfl cb2 rfl rfl (by first | exact Try.underlying3 | exact Try.underlying4) rfl ?_) | (refine o_bin hw.out _ _ _ _ _ rfl rfl rfl rfl rfl (v := .int .i64 ((x : Int) + 1)) (fun W => by go_simp; exact IntWalk.i64_in _ (by omega)) ?_) | (refine o_bin hw.out _ _ _ _ _ rfl rfl rfl rfl rfl (fun W => by go_simp; first | done | rfl) ?_) | (refine o_un hw.out _ _ _ rfl rfl rfl rfl (fun W => by go_simp; first | done | rfl) ?_) | (refine o_field hw.out _ _ _ rfl rfl rfl rfl (fun W => by go_simp; first | done | rfl) ?_) | (refine o_index hw.out _ _ _ rfl rfl rfl rfl rfl (fun W => by go_simp; first | done | rfl) ?_) | (refine o_conv hw.out _ _ _ rfl rfl rfl rfl (fun W => by go_simp; first | done | rfl) ?_)); clear hw))); refine o_end ?_; simp only [app, List.set_cons_succ, List.set_cons_zero])
              intro w3 hb3
              have hz := hz.on hb3
              have hq := hq.on hb3
              have hz1 := hz1.on hb3
              have ho := ho.on hb3
              have ca1 := (hb3.cell (p := ⟨_, _, none⟩) (by show w.heap.size < _; exact hzl)).trans ca1
              have ca2 := (hb3.cell (p := ⟨_, _, none⟩) (by show w.heap.size < _; exact hzl)).trans ca2
              have cb1 := (hb3.cell (p := ⟨_, _, none⟩) (by show w.heap.size + 1 < _; exact hql)).trans cb1
              have cb2 := (hb3.cell (p := ⟨_, _, none⟩) (by show w.heap.size + 1 < _; exact hql)).trans cb2
              have hzl := hz.lt
              have hql := hq.lt
              have hb := hb.trans (hb3.mono hb.size)
              clear hb3
              have HB := Lib.hid hb
              have HZ := Lib.hid hz
              have HQ := Lib.hid hq
              have HZ1 := Lib.hid hz1
              have HO := Lib.hid ho
              clear hb hz hq hz1 ho ca1 ca2 cb1 cb2 hzl hql
              go_wp2
              go_roundw
              case rel => exact ⟨x + 1, by omega, by go_num, HB, HZ, HQ, HZ1, by rw [HNX.out]; exact HO⟩
              case measure => simp [intOf]; omega
        · obtain rfl : x = n := by omega
          go_wp2_with (first
            | (refine load_r rfl _ rfl rfl ho ?_)
            | (refine store_r rfl _ _ rfl rfl rfl hz1 ?_; intro W4 hz4 hg4 hs4)
            | fail)
          exact bodyPost_ret (results_r rfl (by simp [Act.put]) hz4) rfl ⟨rfl, below_only hb hg4 hb.size (by omega)⟩
end Go.Proofs.Ytgnkhncogfppgaa

namespace Go.Proofs.Ytgnkhncogfppgaa
open Go.RowKit
set_option maxRecDepth 100000 in
set_option maxHeartbeats 4000000 in
theorem zerosof_any (k : Nat) (hk6 : k ≤ 6) (w : World) : Calls Try.prog 62 #[.int .i64 (k : Int)] w (Ret w (.agg (zerosZ k).c)) := by
  have HT : Hid (∀ W : World, Calls Try.prog 27 #[.int .i64 (k : Int)] W (Ret W (.agg (zc k (zrZ k 0).none (zrZ k 0).D)))) := fun W => by
    have := rtop_any k hk6 W
    rw [Zn.c, topZ_n] at this
    exact this
  go_enter Try.func62, Try.ntmps62
  go_wp2_with (first
    | (go_at_call 27; ((with_reducible refine (HT.out _).mono ?_); rintro e W2 ⟨rfl, hb2⟩; have hl0 := hz1.lt; have hl1 := hb2.size; have hz1 := hz1.on hb2; have hb := hb.trans (hb2.mono hb.size); clear hb2))
    | (have _t := hl1; refine wpList_alloc_zone rfl 38 rfl rz ?_; intro W3 hr hb3 hs3; have hz1 := hz1.on hb3; have hb := hb.trans (hb3.mono hb.size); clear hb3 _t)
    | (refine wpList_alloc_zone rfl 38 rfl rz ?_; intro W1 hz1 hb hs1)
    | (refine store_r rfl _ _ rfl rfl rfl hr ?_; intro W4 hr4 hg4 hs4; have hz1 := hz1.only hg4 (by omega); have hb := below_only hb hg4 hb.size (by omega); clear hr; have hr := hr4; clear hr4 hg4 hs4)
    | fail)
  have hgg : w.heap.size < W2.heap.size := by omega
  generalize W2.heap.size = g at *
  have HR := Lib.hid hr
  have HB := Lib.hid hb
  have HZ1 := Lib.hid hz1
  clear hr hb hz1 hl0 hl1 HT
  go_loopw [4] (fun i_ wr => ∃ x : Nat, x ≤ k ∧ i_ = .int .i64 (x : Int) ∧ Hid (Below w.heap.size w wr) ∧ Hid (ZAt 38 wr w.heap.size 0 false fun _ _ => 0) ∧ Hid (ZAt 38 wr g k (zrZ k x).none (zrZ k x).D)) (fun i _ => 7 - (intOf i).toNat)
  case atStart => exact ⟨0, by omega, rfl, HB, HZ1, HR⟩
  case round =>
    clear HB HZ1 HR
    obtain ⟨x, hx, rfl, HB, HZ1, HR⟩ := hrel
    have hz1 := HZ1.out
    have hr := HR.out
    have hb := HB.out
    by_cases hxk : x < k
    · have hI := zrI hk6 x (by omega)
      have hI2 := zrI hk6 (x + 1) (by omega)
      have hb1 : ∀ W : World, Calls Try.prog 29 #[.agg (zc k (zrZ k x).none (zrZ k x).D), .int .i64 (x : Int), .int .i64 (-1), .int .i64 0] W (Ret W (.agg (boundZ (zrZ k x) x (-1) 0).c)) := fun W => by
        have := rbound_any hI.ok (i := x + 1) (j := 0) (by rw [hI.n]; omega) (by omega) (by omega) (d := 0) (by omega) W
        rw [show ((x + 1 : Nat) : Int) - 1 = x by omega, show ((0 : Nat) : Int) - 1 = -1 by omega, Zn.c, hI.n] at this
        exact this
      have hok : OKZ (boundZ (zrZ k x) x (-1) 0) := by
        have := bound_ok hI.ok (i := x + 1) (j := 0) (by rw [hI.n]; omega) (by omega) (by omega) (d := 0) (by omega)
        rw [show ((x + 1 : Nat) : Int) - 1 = x by omega, show ((0 : Nat) : Int) - 1 = -1 by omega] at this
        exact this
      have hb2 : ∀ W : World, Calls Try.prog 29 #[.agg (boundZ (zrZ k x) x (-1) 0).c, .int .i64 (-1), .int .i64 (x : Int), .int .i64 0] W (Ret W (.agg (zc k (zrZ k (x + 1)).none (zrZ k (x + 1)).D))) := fun W => by
        have := rbound_any hok (i := 0) (j := x + 1) (by omega) (by rw [boundZ_n, hI.n]; omega) (by omega) (d := 0) (by omega) W
        rw [show ((x + 1 : Nat) : Int) - 1 = x by omega, show ((0 : Nat) : Int) - 1 = -1 by omega, show boundZ (boundZ (zrZ k x) x (-1) 0) (-1) x 0 = zrZ k (x + 1) from rfl, show (zrZ k (x + 1)).c = zc (zrZ k (x + 1)).n (zrZ k (x + 1)).none (zrZ k (x + 1)).D from rfl, hI2.n] at this
        exact this
      have HB1 := Lib.hid hb1
      have HB2 := Lib.hid hb2
      clear hb1 hb2 hI hI2 hok
      go_wp2_with (first
        | (refine load_r rfl _ rfl rfl hr ?_)
        | (go_at_call 29; ((with_reducible refine (HB1.out _).mono ?_); rintro e W2 ⟨rfl, hb2⟩; have hz1 := hz1.on hb2; have hr := hr.on hb2; have hb := hb.trans (hb2.mono hb.size); clear hb2))
        | (go_at_call 29; ((with_reducible refine (HB2.out _).mono ?_); rintro e W2 ⟨rfl, hb2⟩; have hz1 := hz1.on hb2; have hr := hr.on hb2; have hb := hb.trans (hb2.mono hb.size); clear hb2))
        | (refine store_r rfl _ _ rfl rfl rfl hr ?_; intro W7 hr7 hg7 hs7; have hz1 := hz1.only hg7 (by omega); have hb := below_only hb hg7 hb.size (by omega); clear hr; have hr := hr7; clear hr7 hg7 hs7)
        | fail)
      have HZ1 := Lib.hid hz1
      have HR := Lib.hid hr
      have HB := Lib.hid hb
      clear hz1 hr hb
      go_roundw
      case rel => exact ⟨x + 1, by omega, by go_num, HB, HZ1, HR⟩
      case measure => simp [intOf]; omega
    · obtain rfl : k = x := by omega
      rw [zr_zeros hk6] at hr
      go_wp2_with (first
        | (refine load_r rfl _ rfl rfl hr ?_)
        | (refine store_r rfl _ _ rfl rfl rfl hz1 ?_; intro W4 hz4 hg4 hs4)
        | fail)
      exact bodyPost_ret (results_r rfl (by simp [Act.put]) hz4) rfl ⟨rfl, below_only hb hg4 hb.size (by omega)⟩
end Go.Proofs.Ytgnkhncogfppgaa
