import Derived.Test.YtgnkhncogfppgaaBD
import Derived.Test.YtgnkhncogfppgaaBC
import Derived.Test.YtgnkhncogfppgaaBA
namespace Go.Proofs.Ytgnkhncogfppgaa
open Go.RowKit
/-! ### a row of acts, as the law's own apply does them -/
def xOf (n : Nat) (x : Int) : Nat := (IntKind.u64.wrap x).toNat % n
def yOf (n : Nat) (y : Int) : Nat := (IntKind.u64.wrap y).toNat % (n + 1)
def whOf (a : Int) : Nat := (IntKind.u64.wrap a).toNat % 5
theorem u64_nat (x : Int) : IntKind.u64.wrap x = (((IntKind.u64.wrap x).toNat : Nat) : Int) := by
  have := wrap_u64_nonneg x; omega
theorem wrap32_bd (x : Int) : -2147483648 ≤ wrap32 x ∧ wrap32 x ≤ 2147483647 := by unfold wrap32; omega
def actZ (z : Zn) (wh i j : Nat) (d : Int) : Zn :=
  if wh = 0 then (if i + 1 = j then z else boundZ z (i : Int) ((j : Int) - 1) d)
  else if wh = 1 then (if i + 1 = j then z else boundZ z ((j : Int) - 1) (i : Int) d)
  else if wh = 2 then forgetZ z (i : Int)
  else copyZ z (i : Int) ((j : Int) - 1) d
def stepZ (z : Zn) (A : Nat → Int) : Zn := if z.n = 0 then z else actZ z (whOf (A 0)) (xOf z.n (A 1)) (yOf z.n (A 2)) (wrap32 (A 3))
def actsZ (z : Zn) (A : Nat → Nat → Int) : Nat → Zn
  | 0 => z
  | k + 1 => stepZ (actsZ z A k) (A k)
theorem actZ_n (z : Zn) (wh i j : Nat) (d : Int) : (actZ z wh i j d).n = z.n := by
  unfold actZ
  split
  · split
    · rfl
    · exact boundZ_n _ _ _ _
  · split
    · split
      · rfl
      · exact boundZ_n _ _ _ _
    · split
      · exact forgetZ_n _ _
      · exact copyZ_n _ _ _ _
theorem act_ok {z : Zn} (h : OKZ z) (wh : Nat) {i j : Nat} (hi : i < z.n) (hj : j ≤ z.n) {d : Int} (hd : -2147483648 ≤ d ∧ d ≤ 2147483647) : OKZ (actZ z wh i j d) := by
  have e : (i : Int) = ((i + 1 : Nat) : Int) - 1 := by omega
  unfold actZ
  split
  · split
    · exact h
    · rw [e]; exact bound_ok h (by omega) hj (by omega) (by omega)
  · split
    · split
      · exact h
      · rw [e]; exact bound_ok h hj (by omega) (by omega) (by omega)
    · split
      · exact forget_ok h hi
      · exact copy_ok h hi hj (by omega)
theorem stepZ_n (z : Zn) (A : Nat → Int) : (stepZ z A).n = z.n := by unfold stepZ; split; rfl; exact actZ_n _ _ _ _ _
theorem step_ok {z : Zn} (h : OKZ z) (A : Nat → Int) : OKZ (stepZ z A) := by
  unfold stepZ
  split
  · exact h
  · rename_i hn
    exact act_ok h _ (Nat.mod_lt _ (by omega)) (Nat.le_of_lt_succ (Nat.mod_lt _ (by omega))) (wrap32_bd _)
theorem actsZ_n (z : Zn) (A : Nat → Nat → Int) : ∀ k, (actsZ z A k).n = z.n
  | 0 => rfl
  | k + 1 => (stepZ_n _ _).trans (actsZ_n z A k)
theorem acts_ok {z : Zn} (h : OKZ z) (A : Nat → Nat → Int) : ∀ k, OKZ (actsZ z A k)
  | 0 => h
  | k + 1 => step_ok (acts_ok h A k) _
theorem actsZ_0 {z : Zn} (h : z.n = 0) (A : Nat → Nat → Int) : ∀ k, actsZ z A k = z
  | 0 => rfl
  | k + 1 => by
    show stepZ (actsZ z A k) (A k) = z
    rw [actsZ_0 h A k]; unfold stepZ; rw [if_pos h]
end Go.Proofs.Ytgnkhncogfppgaa

namespace Go.Proofs.Ytgnkhncogfppgaa
open Go.RowKit
set_option maxHeartbeats 400000 in
theorem alike_any (n m : Nat) (hn : n ≤ 6) (b c : Bool) (D E : Mat) (w : World) : Calls Try.prog 90 #[.agg (zc n b D), .agg (zc m c E)] w (Ret w (.bool (decide (n = m)))) := by
  by_cases h : n = m
  · subst h
    go_enter Try.func90, Try.ntmps90
    go_wp2_with (first
      | (have _t := hz; refine wpList_box_zone rfl 26 _ rfl _ _ _ rfl ?_; intro W2 hq hb2 hs2; rw [hs.out] at hq hb2 hs2; have hz := hz.below hb2 (by omega); have hnc := hz.n_cell; have hqc := hq.n_cell; have hb := hb.trans (hb2.mono (by omega)); rw [hs.out]; clear hb2 hs _t)
      | (refine wpList_box_zone rfl 26 _ rfl _ _ _ rfl ?_; intro W hz hb hs)
      | (go_at_call 85; ((with_reducible refine (count_yes n hn _).mono ?_); rintro e W2 ⟨rfl, rfl⟩))
      | fail)
    go_ret
    exact ⟨by simp, hb⟩
  · have he : ((n : Int) == (m : Int)) = false := by simp; omega
    go_enter Try.func90, Try.ntmps90
    go_wp2_with (first
      | (have _t := hz; refine wpList_box_zone rfl 26 _ rfl _ _ _ rfl ?_; intro W2 hq hb2 hs2; rw [hs.out] at hq hb2 hs2; have hz := hz.below hb2 (by omega); have hnc := hz.n_cell; have hqc := hq.n_cell; have hb := hb.trans (hb2.mono (by omega)); rw [hs.out]; clear hb2 hs _t)
      | (refine wpList_box_zone rfl 26 _ rfl _ _ _ rfl ?_; intro W hz hb hs)
      | fail)
    go_ret
    exact ⟨by simp [h], hb⟩
open Classical in
noncomputable def leB (D E : Mat) : Bool := decide (∀ i, i < 7 → ∀ j, j < 7 → D i j ≤ E i j)
theorem leB_iff {D E : Mat} : leB D E = true ↔ ∀ i, i < 7 → ∀ j, j < 7 → D i j ≤ E i j := by simp [leB]
theorem leB_not {D E : Mat} {i j : Nat} (hi : i < 7) (hj : j < 7) (h : E i j < D i j) : leB D E = false := by
  cases hl : leB D E with
  | false => rfl
  | true => have := leB_iff.1 hl i hi j hj; omega
/-- Has b all of a? -/
noncomputable def withinB (a b : Zn) : Bool := decide (a.n = b.n) && (a.none || (!b.none && leB a.D b.D))
set_option maxHeartbeats 1000000 in
theorem within_any (a b : Zn) (ha : a.n ≤ 6) (w : World) : Calls Try.prog 43 #[.agg a.c, .agg b.c] w (Ret w (.bool (withinB a b))) := by
  obtain ⟨n, x, D⟩ := a
  obtain ⟨m, y, E⟩ := b
  have ha : n ≤ 6 := ha
  show Calls Try.prog 43 #[.agg (zc n x D), .agg (zc m y E)] w _
  have hal : ∀ W : World, Calls Try.prog 90 #[.agg (zc n x D), .agg (zc m y E)] W (Ret W (.bool (decide (n = m)))) := fun W => alike_any n m ha x y D E W
  by_cases h : n = m
  · subst h
    simp only [decide_true] at hal
    have HAL := Lib.hid hal
    clear hal
    cases x with
    | true =>
      go_enter Try.func43, Try.ntmps43
      go_wp2_with (first
        | (have _t := hz; refine wpList_box_zone rfl 26 _ rfl _ _ _ rfl ?_; intro W2 hq hb2 hs2; rw [hs.out] at hq hb2 hs2; have hz := hz.below hb2 (by omega); have hb := hb.trans (hb2.mono (by omega)); rw [hs.out]; clear hb2 hs _t)
        | (refine wpList_box_zone rfl 26 _ rfl _ _ _ rfl ?_; intro W hz hb hs)
        | (refine load_z rfl _ rfl rfl hz ?_)
        | (refine load_z rfl _ rfl rfl hq ?_)
        | (go_at_call 90; ((with_reducible refine (HAL.out _).mono ?_); rintro e W3 ⟨rfl, hb3⟩; have hz := hz.on hb3; have hbc := hz.b_cell; have hb := hb.trans (hb3.mono hb.size); clear hb3))
        | fail)
      go_ret
      exact ⟨by simp [withinB], hb⟩
    | false =>
      cases y with
      | true =>
        go_enter Try.func43, Try.ntmps43
        go_wp2_with (first
          | (have _t := hz; refine wpList_box_zone rfl 26 _ rfl _ _ _ rfl ?_; intro W2 hq hb2 hs2; rw [hs.out] at hq hb2 hs2; have hz := hz.below hb2 (by omega); have hb := hb.trans (hb2.mono (by omega)); rw [hs.out]; clear hb2 hs _t)
          | (refine wpList_box_zone rfl 26 _ rfl _ _ _ rfl ?_; intro W hz hb hs)
          | (refine load_z rfl _ rfl rfl hz ?_)
          | (refine load_z rfl _ rfl rfl hq ?_)
          | (go_at_call 90; ((with_reducible refine (HAL.out _).mono ?_); rintro e W3 ⟨rfl, hb3⟩; have hz := hz.on hb3; have hq := hq.on hb3; have hbc := hz.b_cell; have hqc := hq.b_cell; have hb := hb.trans (hb3.mono hb.size); clear hb3))
          | fail)
        go_ret
        exact ⟨by simp [withinB], hb⟩
      | false =>
        have HT : Hid ((∀ i, i < 7 → ∀ j, j < 7 → D i j ≤ E i j) → withinB ⟨n, false, D⟩ ⟨n, false, E⟩ = true) := fun h => by simp only [withinB, decide_true, Bool.not_false, Bool.true_and, Bool.false_or]; exact leB_iff.2 h
        have HF : Hid (∀ i j, i < 7 → j < 7 → E i j < D i j → withinB ⟨n, false, D⟩ ⟨n, false, E⟩ = false) := fun i j hi hj h => by
          simp only [withinB, decide_true, Bool.not_false, Bool.true_and, Bool.false_or]; exact leB_not hi hj h
        obtain ⟨R, hR⟩ : ∃ R, R = withinB ⟨n, false, D⟩ ⟨n, false, E⟩ := ⟨_, rfl⟩
        rw [← hR] at HT HF ⊢
        clear hR
        go_enter Try.func43, Try.ntmps43
        go_wp2_with (first
          | (have _t := hz; refine wpList_box_zone rfl 26 _ rfl _ _ _ rfl ?_; intro W2 hq hb2 hs2; rw [hs.out] at hq hb2 hs2; have hz := hz.below hb2 (by omega); have hb := hb.trans (hb2.mono (by omega)); rw [hs.out]; clear hb2 hs _t)
          | (refine wpList_box_zone rfl 26 _ rfl _ _ _ rfl ?_; intro W hz hb hs)
          | (refine load_z rfl _ rfl rfl hz ?_)
          | (refine load_z rfl _ rfl rfl hq ?_)
          | (go_at_call 90; ((with_reducible refine (HAL.out _).mono ?_); rintro e W3 ⟨rfl, hb3⟩; have hz := hz.on hb3; have hq := hq.on hb3; have hbc := hz.b_cell; have hqc := hq.b_cell; have hb := hb.trans (hb3.mono hb.size); clear hb3))
          | (refine load_m rfl _ rfl rfl hz ?_)
          | fail)
        have HQ := Lib.hid hq
        have HB := Lib.hid hb
        clear hz hb hq hbc hqc hs2
        go_loopw [22] (fun i_ wr => ∃ i : Nat, i ≤ 7 ∧ i_ = .int .i64 (i : Int) ∧ Hid (Below w.heap.size w wr) ∧ Hid (ZAt 26 wr (w.heap.size + 1) n false E) ∧ Hid (∀ i', i' < i → ∀ j, j < 7 → D i' j ≤ E i' j)) (fun i _ => 8 - (intOf i).toNat)
        case atStart => exact ⟨0, Nat.zero_le _, rfl, HB, HQ, fun i' hi' => absurd hi' (Nat.not_lt_zero _)⟩
        case round =>
          clear HB HQ
          obtain ⟨i, hi, rfl, HB, HQ, HL⟩ := hrel
          by_cases hlt : i < 7
          · go_wp2_with (first
              | (refine alloc_v rfl rfl ?_; intro W1 hv hb1 hs1)
              | (refine store_v rfl _ _ rfl rfl rfl hv ?_; intro W2 hv2 hg2 hs2)
              | (refine load_v rfl _ rfl rfl hv2 ?_)
              | fail)
            have HQ2 := HQ.out.on hb1
            have HB2 := HB.out.trans (hb1.mono HB.out.size)
            have hR2 := HQ2.only hg2 (by have := HQ.out.lt; omega)
            have HB3 := Lib.hid (below_only HB2 hg2 HB2.size (by have := HB.out.size; omega))
            have HQ3 := Lib.hid hR2
            clear HB HQ hv hb1 hs1 hv2 hg2 hs2 HQ2 HB2 hR2
            go_loop [27] (fun j_ => ∃ j : Nat, j ≤ 7 ∧ j_ = .int .i64 (j : Int) ∧ Hid (∀ j', j' < j → D i j' ≤ E i j')) (fun i => 8 - (intOf i).toNat)
            case atStart => exact ⟨0, Nat.zero_le _, rfl, fun j' hj' => absurd hj' (Nat.not_lt_zero _)⟩
            case round =>
              obtain ⟨j, hj, rfl, HJ⟩ := hrel
              by_cases hlj : j < 7
              · have c1 := HQ3.out.cell i j (by omega) (by omega)
                by_cases hle : D i j ≤ E i j
                · go_wp2
                  exact ⟨⟨j + 1, by omega, by go_num, fun j' hj' => by
                    by_cases hjj : j' = j
                    · subst hjj; exact hle
                    · exact HJ.out j' (by omega)⟩, by simp [intOf]; omega⟩
                · have hgt : E i j < D i j := by omega
                  have hfin := HF.out i j hlt hlj hgt
                  have HFIN := Lib.hid hfin
                  clear hfin hle
                  go_wp2
                  go_ret
                  exact ⟨by rw [HFIN.out]; rfl, HB3.out⟩
              · obtain rfl : j = 7 := by omega
                go_wp2
                go_roundw
                case rel => exact ⟨i + 1, by omega, by go_num, HB3, HQ3, fun i' hi' => by
                  by_cases hii : i' = i
                  · subst hii; exact fun j hj => HJ.out j hj
                  · exact HL.out i' (by omega)⟩
                case measure => simp [intOf]; omega
          · obtain rfl : i = 7 := by omega
            have hfin := HT.out fun i hi j hj => HL.out i hi j hj
            have HFIN := Lib.hid hfin
            clear hfin
            go_wp2
            go_ret
            exact ⟨by rw [HFIN.out]; rfl, HB.out⟩
  · have hfin : withinB ⟨n, x, D⟩ ⟨m, y, E⟩ = false := by simp [withinB, h]
    rw [show decide (n = m) = false by simpa using h] at hal
    rw [hfin]
    have HAL := Lib.hid hal
    clear hal hfin h
    go_enter Try.func43, Try.ntmps43
    go_wp2_with (first
      | (have _t := hz; refine wpList_box_zone rfl 26 _ rfl _ _ _ rfl ?_; intro W2 hq hb2 hs2; rw [hs.out] at hq hb2 hs2; have hz := hz.below hb2 (by omega); have hb := hb.trans (hb2.mono (by omega)); rw [hs.out]; clear hb2 hs _t)
      | (refine wpList_box_zone rfl 26 _ rfl _ _ _ rfl ?_; intro W hz hb hs)
      | (refine load_z rfl _ rfl rfl hz ?_)
      | (refine load_z rfl _ rfl rfl hq ?_)
      | (go_at_call 90; ((with_reducible refine (HAL.out _).mono ?_); rintro e W3 ⟨rfl, hb3⟩; have hb := hb.trans (hb3.mono hb.size); clear hb3))
      | fail)
    go_ret
    exact ⟨rfl, hb⟩
end Go.Proofs.Ytgnkhncogfppgaa

namespace Go.Proofs.Ytgnkhncogfppgaa
open Go.RowKit
/-! ### bounds in another order -/
def bndZ (z : Zn) (a : Nat → Int) : Zn :=
  if (IntKind.u64.wrap (a 1)).toNat % 4 + 1 = (IntKind.u64.wrap (a 2)).toNat % 5 then z
  else boundZ z (((IntKind.u64.wrap (a 1)).toNat % 4 : Nat) : Int) ((((IntKind.u64.wrap (a 2)).toNat % 5 : Nat) : Int) - 1) (wrap32 (a 3))
def conM (A : Mat) (a : Nat → Int) : Mat :=
  if (IntKind.u64.wrap (a 1)).toNat % 4 + 1 = (IntKind.u64.wrap (a 2)).toNat % 5 then A
  else addM A ((IntKind.u64.wrap (a 1)).toNat % 4 + 1) ((IntKind.u64.wrap (a 2)).toNat % 5) (wrap32 (a 3))
theorem bnd_rep {z : Zn} (h : OKZ z) {A : Mat} (hr : Rep 4 A z) (a : Nat → Int) : OKZ (bndZ z a) ∧ Rep 4 (conM A a) (bndZ z a) := by
  unfold bndZ conM
  by_cases hc : (IntKind.u64.wrap (a 1)).toNat % 4 + 1 = (IntKind.u64.wrap (a 2)).toNat % 5
  · rw [if_pos hc, if_pos hc]; exact ⟨h, hr⟩
  · rw [if_neg hc, if_neg hc]
    obtain ⟨i, hi⟩ : ∃ i, i = (IntKind.u64.wrap (a 1)).toNat % 4 := ⟨_, rfl⟩
    obtain ⟨j, hj⟩ : ∃ j, j = (IntKind.u64.wrap (a 2)).toNat % 5 := ⟨_, rfl⟩
    rw [← hi, ← hj] at hc ⊢
    have hi4 : i < 4 := by omega
    have hj5 : j < 5 := by omega
    have hd := wrap32_bd (a 3)
    have hn := hr.1
    have e : (i : Int) = ((i + 1 : Nat) : Int) - 1 := by omega
    rw [e]
    exact ⟨bound_ok h (by omega) (by omega) hc (by omega), rep_bound h hr (by omega) (by omega) hc (by omega)⟩
theorem conM_comm (A : Mat) (a b : Nat → Int) : conM (conM A a) b = conM (conM A b) a := by
  unfold conM
  split <;> split <;> first | rfl | exact addM_comm _ _ _ _ _ _ _
theorem conM_idem (A : Mat) (a : Nat → Int) : conM (conM A a) a = conM A a := by
  unfold conM
  split
  · rfl
  · exact addM_idem _ _ _ _
theorem conM_le {A : Mat} {a : Nat → Int} {X : Mat} (h : Le 4 X (conM A a)) : Le 4 X A := by
  unfold conM at h
  split at h
  · exact h
  · rw [addM_le (by omega) (by omega)] at h; exact h.1
def T4 : Mat := ownA 4 (topM 4)
theorem t4_rep : OKZ (topZ 4) ∧ Rep 4 T4 (topZ 4) := ⟨top_ok (by omega), close_rep (z := ⟨4, false, topM 4⟩) (topM_pre (by omega))⟩
theorem orders (a b c : Nat → Int) : OKZ (bndZ (bndZ (bndZ (topZ 4) a) b) c) ∧ bndZ (bndZ (bndZ (topZ 4) c) a) b = bndZ (bndZ (bndZ (topZ 4) a) b) c ∧ bndZ (bndZ (bndZ (bndZ (topZ 4) a) b) c) b = bndZ (bndZ (bndZ (topZ 4) a) b) c ∧
    withinB (bndZ (bndZ (bndZ (topZ 4) a) b) c) (bndZ (topZ 4) a) = true ∧ (bndZ (bndZ (bndZ (topZ 4) a) b) c).n = 4 ∧ (bndZ (topZ 4) a).n = 4 ∧ OKZ (bndZ (topZ 4) a) ∧ (∀ x y, OKZ (bndZ (bndZ (topZ 4) x) y) ∧ (bndZ (bndZ (topZ 4) x) y).n = 4) ∧ (bndZ (bndZ (bndZ (topZ 4) c) a) b).n = 4 := by
  have r1 := bnd_rep t4_rep.1 t4_rep.2 a
  have r2 := bnd_rep r1.1 r1.2 b
  have r3 := bnd_rep r2.1 r2.2 c
  have q1 := bnd_rep t4_rep.1 t4_rep.2 c
  have q2 := bnd_rep q1.1 q1.2 a
  have q3 := bnd_rep q2.1 q2.2 b
  have p := bnd_rep r3.1 r3.2 b
  refine ⟨r3.1, ?_, ?_, ?_, r3.2.1, r1.2.1, r1.1, fun x y => ?_, q3.2.1⟩
  · refine q3.2.uniq ?_
    rw [conM_comm T4 c a, conM_comm (conM T4 a) c b]; exact r3.2
  · refine p.2.uniq ?_
    rw [conM_comm (conM (conM T4 a) b) c b, conM_idem]; exact r3.2
  · unfold withinB
    rw [r3.2.1, r1.2.1]
    simp only [decide_true, Bool.true_and]
    cases hn : (bndZ (bndZ (bndZ (topZ 4) a) b) c).none with
    | true => rfl
    | false =>
      have hc := r3.2.le hn
      have hle : Le 4 (bndZ (bndZ (bndZ (topZ 4) a) b) c).D (conM T4 a) := conM_le (conM_le hc.le)
      cases hm : (bndZ (topZ 4) a).none with
      | true => exact absurd hle (r1.2.inf hm _ hc.sub)
      | false =>
        have hd := r1.2.le hm
        have := hd.top _ hc.sub hle
        simp only [Bool.not_false, Bool.true_and, Bool.false_or]
        refine leB_iff.2 fun i hi j hj => ?_
        by_cases hij : i ≤ 4 ∧ j ≤ 4
        · exact this i j hij.1 hij.2
        · rw [r3.1.out i j (by rw [r3.2.1]; exact hij), r1.1.out i j (by rw [r1.2.1]; exact hij)]; exact Int.le_refl _
  · have s1 := bnd_rep t4_rep.1 t4_rep.2 x
    have s2 := bnd_rep s1.1 s1.2 y
    exact ⟨s2.1, s2.2.1⟩
end Go.Proofs.Ytgnkhncogfppgaa

namespace Go.Proofs.Ytgnkhncogfppgaa
/-! Of either, and what widening makes: plain. -/
theorem within_iff {a b : Zn} : withinB a b = true ↔ a.n = b.n ∧ (a.none = true ∨ (b.none = false ∧ ∀ i, i < 7 → ∀ j, j < 7 → a.D i j ≤ b.D i j)) := by
  unfold withinB
  simp only [Bool.and_eq_true, decide_eq_true_eq, Bool.or_eq_true, Bool.not_eq_true', leB_iff]
theorem within_not {a b : Zn} (h : ¬ withinB a b = true) : withinB a b = false := by simpa using h
theorem within_refl (a : Zn) : withinB a a = true := within_iff.2 ⟨rfl, by cases h : a.none <;> simp⟩
theorem within_n {a b : Zn} (h : a.n ≠ b.n) : withinB a b = false := within_not fun hw => h (within_iff.1 hw).1
def mxM (D E : Mat) : Mat := fun i j => mx (D i j) (E i j)
def joinZ (a b : Zn) : Zn := if a.n ≠ b.n ∨ b.none = true then a else if a.none = true then b else ⟨a.n, false, mxM a.D b.D⟩
theorem mx_l (x y : Int) : x ≤ mx x y := by unfold mx; split <;> omega
theorem mx_r (x y : Int) : y ≤ mx x y := by unfold mx; split <;> omega
theorem mx_le {x y c : Int} (h1 : x ≤ c) (h2 : y ≤ c) : mx x y ≤ c := by unfold mx; split <;> omega
theorem joinZ_n (a b : Zn) (h : a.n = b.n) : (joinZ a b).n = a.n := by
  unfold joinZ; split
  · rfl
  · split
    · exact h.symm
    · rfl
theorem joinZ_l {a b : Zn} (h : a.n ≠ b.n ∨ b.none = true) : joinZ a b = a := by unfold joinZ; rw [if_pos h]
theorem joinZ_r {a b : Zn} (h : a.n = b.n) (hb : b.none = false) (ha : a.none = true) : joinZ a b = b := by unfold joinZ; rw [if_neg (by rw [hb]; simp [h]), if_pos ha]
theorem joinZ_both {a b : Zn} (h : a.n = b.n) (hb : b.none = false) (ha : a.none = false) : joinZ a b = ⟨a.n, false, mxM a.D b.D⟩ := by unfold joinZ; rw [if_neg (by rw [hb]; simp [h]), if_neg (by rw [ha]; simp)]
theorem join_ok {a b : Zn} (ha : OKZ a) (hb : OKZ b) : OKZ (joinZ a b) := by
  by_cases h : a.n ≠ b.n ∨ b.none = true
  · rw [joinZ_l h]; exact ha
  · have h1 : a.n = b.n := by
      by_cases e : a.n = b.n
      · exact e
      · exact absurd (.inl e) h
    have h2 : b.none = false := by
      cases e : b.none with
      | false => rfl
      | true => exact absurd (.inr e) h
    cases h3 : a.none with
    | true => rw [joinZ_r h1 h2 h3]; exact hb
    | false =>
      rw [joinZ_both h1 h2 h3]
      have sa := ha.sub h3
      have sb := hb.sub h2
      rw [← h1] at sb
      refine ⟨ha.n, fun h => (by cases h), fun _ => ⟨fun i hi => ?_, fun i j k hi hj hk => ?_⟩, fun _ i h4 h5 => ?_, fun _ i h4 h5 => ?_, fun i j ho => ?_⟩
      · show mx _ _ = _; rw [sa.diag i hi, sb.diag i hi]; rfl
      · have t1 := sa.tri i j k hi hj hk
        have t2 := sb.tri i j k hi hj hk
        have u1 := mx_l (a.D i k) (b.D i k)
        have u2 := mx_r (a.D i k) (b.D i k)
        have u3 := mx_l (a.D k j) (b.D k j)
        have u4 := mx_r (a.D k j) (b.D k j)
        show mx (a.D i j) (b.D i j) ≤ mx (a.D i k) (b.D i k) + mx (a.D k j) (b.D k j)
        exact mx_le (by omega) (by omega)
      · exact mx_le (ha.up h3 i h4 h5) (hb.up h2 i h4 (by rw [← h1]; exact h5))
      · exact mx_le (ha.down h3 i h4 h5) (hb.down h2 i h4 (by rw [← h1]; exact h5))
      · show mx _ _ = _; rw [ha.out i j ho, hb.out i j (by rw [← h1]; exact ho)]; rfl
theorem join_upl {a b : Zn} (h : a.n = b.n) : withinB a (joinZ a b) = true := by
  cases h2 : b.none with
  | true => rw [joinZ_l (.inr h2)]; exact within_refl a
  | false =>
    cases h3 : a.none with
    | true => rw [joinZ_r h h2 h3]; exact within_iff.2 ⟨h, .inl h3⟩
    | false => rw [joinZ_both h h2 h3]; exact within_iff.2 ⟨rfl, .inr ⟨rfl, fun i _ j _ => mx_l _ _⟩⟩
theorem join_upr {a b : Zn} (h : a.n = b.n) : withinB b (joinZ a b) = true := by
  cases h2 : b.none with
  | true => exact within_iff.2 ⟨by rw [joinZ_n _ _ h]; exact h.symm, .inl h2⟩
  | false =>
    cases h3 : a.none with
    | true => rw [joinZ_r h h2 h3]; exact within_refl b
    | false => rw [joinZ_both h h2 h3]; exact within_iff.2 ⟨h.symm, .inr ⟨rfl, fun i _ j _ => mx_r _ _⟩⟩
/-! ### Widening -/
def keptI (a b : Int) : Int := if a < b then far else a
def widM (n : Nat) (D E : Mat) : Mat := fun i j => if i ≤ n ∧ j ≤ n ∧ i ≠ j then (if i = 0 ∨ j = 0 then keptI (D i j) (E i j) else far) else 0
noncomputable def widZ (a b : Zn) : Zn := if a.n ≠ b.n ∨ withinB b a = true then a else if a.none = true then b else closeZ ⟨a.n, false, widM a.n a.D b.D⟩
def wU (D E : Mat) (i : Nat) : Int := if i = 0 then 0 else if D i 0 < E i 0 then 2147483647 else D i 0
def wV (D E : Mat) (i : Nat) : Int := if i = 0 then 0 else if D 0 i < E 0 i then 2147483648 else D 0 i
def starM (n : Nat) (U V : Nat → Int) : Mat := fun i j => if i ≤ n ∧ j ≤ n then (if i = j then 0 else U i + V j) else 0
theorem starM_at {n : Nat} {U V : Nat → Int} {i j : Nat} (hi : i ≤ n) (hj : j ≤ n) : starM n U V i j = if i = j then 0 else U i + V j := if_pos ⟨hi, hj⟩
theorem wU0 (D E : Mat) : wU D E 0 = 0 := rfl
theorem wV0 (D E : Mat) : wV D E 0 = 0 := rfl
theorem wid_pre {a : Zn} (ha : OKZ a) (hn : a.none = false) (E : Mat) : Pre ⟨a.n, false, widM a.n a.D E⟩ := by
  have f0 : far = 1099511627776 := rfl
  refine ⟨ha.n, rfl, fun i hi => ?_, fun i j hi hj => ?_, fun i j hi hj => ?_, fun i j ho => ?_⟩
  · show widM a.n a.D E i i = 0
    unfold widM; rw [if_neg (by omega)]
  · have hi : i ≤ a.n := hi
    have hj : j ≤ a.n := hj
    have := ha.bounds hn i j hi hj
    show -274877906944 ≤ widM a.n a.D E i j
    unfold widM keptI; repeat' split <;> omega
  · have hi : i ≤ a.n := hi
    have hj : j ≤ a.n := hj
    have := ha.bounds hn i j hi hj
    show widM a.n a.D E i j ≤ 1000000000000000
    unfold widM keptI; repeat' split <;> omega
  · have ho : ¬ (i ≤ a.n ∧ j ≤ a.n) := ho
    show widM a.n a.D E i j = 0
    unfold widM; rw [if_neg (by omega)]
section
variable {a : Zn} {E : Mat}
theorem ownW_u (ha : OKZ a) (hn : a.none = false) {i : Nat} (h1 : 1 ≤ i) (h2 : i ≤ a.n) : ownA a.n (widM a.n a.D E) i 0 = wU a.D E i := by
  have := ha.up hn i h1 h2
  have f0 : far = 1099511627776 := rfl
  have e : widM a.n a.D E i 0 = keptI (a.D i 0) (E i 0) := by unfold widM; rw [if_pos (show i ≤ a.n ∧ 0 ≤ a.n ∧ i ≠ 0 by omega), if_pos (Or.inr rfl)]
  have e2 : wU a.D E i = if a.D i 0 < E i 0 then 2147483647 else a.D i 0 := by unfold wU; rw [if_neg (show ¬ i = 0 by omega)]
  unfold ownA; rw [if_pos ⟨rfl, h1, h2⟩, e, e2]
  unfold keptI mn
  repeat' split <;> omega
theorem ownW_v (ha : OKZ a) (hn : a.none = false) {i : Nat} (h1 : 1 ≤ i) (h2 : i ≤ a.n) : ownA a.n (widM a.n a.D E) 0 i = wV a.D E i := by
  have := ha.down hn i h1 h2
  have f0 : far = 1099511627776 := rfl
  have e : widM a.n a.D E 0 i = keptI (a.D 0 i) (E 0 i) := by unfold widM; rw [if_pos (show 0 ≤ a.n ∧ i ≤ a.n ∧ 0 ≠ i by omega), if_pos (Or.inl rfl)]
  have e2 : wV a.D E i = if a.D 0 i < E 0 i then 2147483648 else a.D 0 i := by unfold wV; rw [if_neg (show ¬ i = 0 by omega)]
  unfold ownA; rw [if_neg (by omega), if_pos ⟨rfl, h1, h2⟩, e, e2]
  unfold keptI mn
  repeat' split <;> omega
theorem ownW_d (i : Nat) : ownA a.n (widM a.n a.D E) i i = 0 := by
  rw [ownA_diag]; unfold widM; rw [if_neg (by omega)]
theorem ownW_x {i j : Nat} (h1 : 1 ≤ i) (h2 : i ≤ a.n) (h3 : 1 ≤ j) (h4 : j ≤ a.n) (h5 : i ≠ j) : ownA a.n (widM a.n a.D E) i j = far := by
  unfold ownA; rw [if_neg (by omega), if_neg (by omega)]
  unfold widM; rw [if_pos ⟨h2, h4, h5⟩, if_neg (show ¬ (i = 0 ∨ j = 0) by omega)]
theorem wU_le (ha : OKZ a) (hn : a.none = false) {i : Nat} (h2 : i ≤ a.n) : a.D i 0 ≤ wU a.D E i ∧ wU a.D E i ≤ 2147483647 := by
  have h0 := (ha.sub hn).diag 0 (by omega)
  unfold wU
  by_cases hi : i = 0
  · subst hi; rw [if_pos rfl]; omega
  · rw [if_neg hi]
    have := ha.up hn i (by omega) h2
    split <;> omega
theorem wV_le (ha : OKZ a) (hn : a.none = false) {i : Nat} (h2 : i ≤ a.n) : a.D 0 i ≤ wV a.D E i ∧ wV a.D E i ≤ 2147483648 := by
  have h0 := (ha.sub hn).diag 0 (by omega)
  unfold wV
  by_cases hi : i = 0
  · subst hi; rw [if_pos rfl]; omega
  · rw [if_neg hi]
    have := ha.down hn i (by omega) h2
    split <;> omega
theorem wUV (ha : OKZ a) (hn : a.none = false) {i : Nat} (h2 : i ≤ a.n) : 0 ≤ wU a.D E i + wV a.D E i := by
  have u := wU_le (E := E) ha hn h2
  have v := wV_le (E := E) ha hn h2
  have s := ha.sub hn
  have t := s.tri i i 0 h2 h2 (by omega)
  rw [s.diag i h2] at t
  omega
theorem star_sub (ha : OKZ a) (hn : a.none = false) : Sub a.n (starM a.n (wU a.D E) (wV a.D E)) := by
  refine ⟨fun i hi => ?_, fun i j k hi hj hk => ?_⟩
  · rw [starM_at hi hi, if_pos rfl]
  · rw [starM_at hi hj, starM_at hi hk, starM_at hk hj]
    have p := wUV (E := E) ha hn hi
    have q := wUV (E := E) ha hn hk
    (repeat' split) <;> first | omega | (subst_vars; omega)
/-- Widening, told whole. -/
theorem wid_clo (ha : OKZ a) (hn : a.none = false) : IsClo a.n (ownA a.n (widM a.n a.D E)) (starM a.n (wU a.D E) (wV a.D E)) := by
  refine ⟨star_sub ha hn, fun i j hi hj => ?_, fun B hB hle i j hi hj => ?_⟩
  · rw [starM_at hi hj]
    by_cases hij : i = j
    · subst hij; rw [if_pos rfl, ownW_d]; exact Int.le_refl _
    · rw [if_neg hij]
      by_cases hj0 : j = 0
      · subst hj0; rw [ownW_u ha hn (by omega) hi, wV0]; omega
      · by_cases hi0 : i = 0
        · subst hi0; rw [ownW_v ha hn (by omega) hj, wU0]; omega
        · rw [ownW_x (by omega) hi (by omega) hj hij]
          have u := (wU_le (E := E) ha hn hi).2
          have v := (wV_le (E := E) ha hn hj).2
          have f0 : far = 1099511627776 := rfl
          omega
  · rw [starM_at hi hj]
    by_cases hij : i = j
    · subst hij; rw [if_pos rfl, hB.diag i hi]; exact Int.le_refl _
    · rw [if_neg hij]
      have t := hB.tri i j 0 hi hj (by omega)
      have b0 := hB.diag 0 (by omega)
      have u : B i 0 ≤ wU a.D E i := by
        by_cases hi0 : i = 0
        · subst hi0; rw [wU0]; omega
        · have := hle i 0 hi (by omega); rw [ownW_u ha hn (by omega) hi] at this; exact this
      have v : B 0 j ≤ wV a.D E j := by
        by_cases hj0 : j = 0
        · subst hj0; rw [wV0]; omega
        · have := hle 0 j (by omega) hj; rw [ownW_v ha hn (by omega) hj] at this; exact this
      omega
theorem wid_closed (ha : OKZ a) (hn : a.none = false) (E : Mat) : closeZ ⟨a.n, false, widM a.n a.D E⟩ = ⟨a.n, false, starM a.n (wU a.D E) (wV a.D E)⟩ :=
  close_eq (wid_pre ha hn E) (wid_clo ha hn) fun i j ho => by
    have ho : ¬ (i ≤ a.n ∧ j ≤ a.n) := ho
    unfold starM; rw [if_neg ho]
theorem star_ok (ha : OKZ a) (hn : a.none = false) (E : Mat) : OKZ ⟨a.n, false, starM a.n (wU a.D E) (wV a.D E)⟩ := by
  rw [← wid_closed ha hn E]; exact close_ok (wid_pre ha hn E)
end
theorem widZ_l {a b : Zn} (h : a.n ≠ b.n ∨ withinB b a = true) : widZ a b = a := by unfold widZ; rw [if_pos h]
theorem widZ_r {a b : Zn} (h : ¬ (a.n ≠ b.n ∨ withinB b a = true)) (ha : a.none = true) : widZ a b = b := by unfold widZ; rw [if_neg h, if_pos ha]
theorem widZ_both {a b : Zn} (h : ¬ (a.n ≠ b.n ∨ withinB b a = true)) (ha : OKZ a) (hn : a.none = false) : widZ a b = ⟨a.n, false, starM a.n (wU a.D b.D) (wV a.D b.D)⟩ := by
  unfold widZ; rw [if_neg h, if_neg (by rw [hn]; simp), wid_closed ha hn]
theorem wid_ok {a b : Zn} (ha : OKZ a) (hb : OKZ b) : OKZ (widZ a b) := by
  by_cases h : a.n ≠ b.n ∨ withinB b a = true
  · rw [widZ_l h]; exact ha
  · cases hn : a.none with
    | true => rw [widZ_r h hn]; exact hb
    | false => rw [widZ_both h ha hn]; exact star_ok ha hn _
theorem widZ_n {a b : Zn} (ha : OKZ a) (h : a.n = b.n) : (widZ a b).n = a.n := by
  by_cases h1 : a.n ≠ b.n ∨ withinB b a = true
  · rw [widZ_l h1]
  · cases hn : a.none with
    | true => rw [widZ_r h1 hn]; exact h.symm
    | false => rw [widZ_both h1 ha hn]
/-- What either has, widening has. -/
theorem wid_up {a b : Zn} (ha : OKZ a) (hb : OKZ b) (h : a.n = b.n) : withinB (joinZ a b) (widZ a b) = true := by
  by_cases h1 : a.n ≠ b.n ∨ withinB b a = true
  · rw [widZ_l h1]
    have h2 : withinB b a = true := h1.resolve_left (fun hh => hh h)
    obtain ⟨_, h4⟩ := within_iff.1 h2
    rcases h4 with h4 | ⟨h4, h5⟩
    · rw [joinZ_l (.inr h4)]; exact within_refl a
    · cases hbn : b.none with
      | true => rw [joinZ_l (.inr hbn)]; exact within_refl a
      | false => rw [joinZ_both h hbn h4]; exact within_iff.2 ⟨rfl, .inr ⟨h4, fun i hi j hj => mx_le (Int.le_refl _) (h5 i hi j hj)⟩⟩
  · have h2 : withinB b a = false := within_not fun hh => h1 (.inr hh)
    have hbn : b.none = false := by
      cases e : b.none with
      | false => rfl
      | true => exact absurd (within_iff.2 ⟨h.symm, .inl e⟩) (by rw [h2]; simp)
    cases hn : a.none with
    | true => rw [widZ_r h1 hn, joinZ_r h hbn hn]; exact within_refl b
    | false =>
      have hj := join_ok ha hb
      rw [joinZ_both h hbn hn] at hj ⊢
      rw [widZ_both h1 ha hn]
      have sj := hj.sub rfl
      refine within_iff.2 ⟨rfl, .inr ⟨rfl, fun i _ j _ => ?_⟩⟩
      show mxM a.D b.D i j ≤ starM a.n (wU a.D b.D) (wV a.D b.D) i j
      by_cases hij : i ≤ a.n ∧ j ≤ a.n
      · obtain ⟨hi, hj'⟩ := hij
        rw [starM_at hi hj']
        by_cases e : i = j
        · subst e; rw [if_pos rfl]; exact Int.le_of_eq (sj.diag i hi)
        · rw [if_neg e]
          have t : mxM a.D b.D i j ≤ mxM a.D b.D i 0 + mxM a.D b.D 0 j := sj.tri i j 0 hi hj' (Nat.zero_le _)
          have d0 : mxM a.D b.D 0 0 = 0 := sj.diag 0 (Nat.zero_le _)
          have u : mxM a.D b.D i 0 ≤ wU a.D b.D i := by
            by_cases hi0 : i = 0
            · subst hi0; rw [d0, wU0]; exact Int.le_refl _
            · have := hb.up hbn i (by omega) (by omega)
              unfold mxM mx wU; rw [if_neg hi0]; split <;> omega
          have v : mxM a.D b.D 0 j ≤ wV a.D b.D j := by
            by_cases hj0 : j = 0
            · subst hj0; rw [d0, wV0]; exact Int.le_refl _
            · have := hb.down hbn j (by omega) (by omega)
              unfold mxM mx wV; rw [if_neg hj0]; split <;> omega
          omega
      · rw [show mxM a.D b.D i j = 0 from hj.out i j hij]; unfold starM; rw [if_neg hij]; omega
/-! ### The document's widening -/
def rwS (a b : Zn) (x : Nat) (z : Zn) : Zn :=
  let z1 := if b.D (x + 1) 0 ≤ a.D (x + 1) 0 then boundZ z (x : Int) (-1) (a.D (x + 1) 0) else z
  if b.D 0 (x + 1) ≤ a.D 0 (x + 1) then boundZ z1 (-1) (x : Int) (a.D 0 (x + 1)) else z1
def rwZ (a b : Zn) (m : Nat) : Zn := iter (rwS a b) m (topZ a.n)
/-- A zone that stands for what holds P. -/
def Std (n : Nat) (P : Mat → Prop) (z : Zn) : Prop := OKZ z ∧ ∃ A, Rep n A z ∧ ∀ X, Sub n X → (Le n X A ↔ P X)
theorem Std.n {n : Nat} {P} {z : Zn} (h : Std n P z) : z.n = n := by obtain ⟨_, A, h1, _⟩ := h; exact h1.1
theorem Std.uniq {n : Nat} {P} {z w : Zn} (h : Std n P z) (h' : Std n P w) : z = w := by
  obtain ⟨_, A, h1, h2⟩ := h
  obtain ⟨_, B, g1, g2⟩ := h'
  exact (h1.congr (B := B) fun X hX => (h2 X hX).trans (g2 X hX).symm).uniq g1
theorem Std.congr {n : Nat} {P Q : Mat → Prop} {z : Zn} (h : Std n P z) (hpq : ∀ X, Sub n X → (P X ↔ Q X)) : Std n Q z := by
  obtain ⟨h0, A, h1, h2⟩ := h
  exact ⟨h0, A, h1, fun X hX => (h2 X hX).trans (hpq X hX)⟩
theorem Std.bound {n : Nat} {P} {z : Zn} (h : Std n P z) {i j : Nat} (hi : i ≤ n) (hj : j ≤ n) (hij : i ≠ j) {d : Int} (hd : -274877906944 ≤ d) : Std n (fun X => P X ∧ X i j ≤ d) (boundZ z ((i : Int) - 1) ((j : Int) - 1) d) := by
  have hn := h.n
  obtain ⟨h0, A, h1, h2⟩ := h
  subst hn
  exact ⟨bound_ok h0 hi hj hij hd, addM A i j d, rep_bound h0 h1 hi hj hij hd, fun X hX => by rw [addM_le hi hj, h2 X hX]⟩
theorem topM_le {n : Nat} {X : Mat} (hX : Sub n X) : Le n X (ownA n (topM n)) ↔ ∀ i, 1 ≤ i → i ≤ n → X i 0 ≤ 2147483647 ∧ X 0 i ≤ 2147483648 := by
  have f0 : far = 1099511627776 := rfl
  constructor
  · intro h i h1 h2
    exact ⟨Int.le_trans (h i 0 h2 (by omega)) (ownA_up _ h1 h2), Int.le_trans (h 0 i (by omega) h2) (ownA_down _ h1 h2)⟩
  · intro h i j hi hj
    have t := hX.tri i j 0 hi hj (by omega)
    have d0 := hX.diag 0 (by omega)
    unfold ownA topM
    by_cases e : i = j
    · subst e; rw [if_neg (by omega), if_neg (by omega), if_neg (by omega), hX.diag i hi]; exact Int.le_refl _
    · have hi' := h i
      have hj' := h j
      unfold mn
      repeat' split
      all_goals first | omega | (by_cases hi0 : i = 0 <;> by_cases hj0 : j = 0 <;> (first | subst hi0 | skip) <;> (first | subst hj0 | skip) <;> omega)
theorem top_std {n : Nat} (hn : n ≤ 6) : Std n (fun X => ∀ i, 1 ≤ i → i ≤ n → X i 0 ≤ 2147483647 ∧ X 0 i ≤ 2147483648) (topZ n) :=
  ⟨top_ok hn, _, close_rep (topM_pre hn), fun _ hX => topM_le hX⟩
theorem rw_std {a b : Zn} (ha : OKZ a) (hn : a.none = false) : ∀ m, m ≤ a.n →
    Std a.n (fun X => (∀ i, 1 ≤ i → i ≤ a.n → X i 0 ≤ 2147483647 ∧ X 0 i ≤ 2147483648) ∧ ∀ i, 1 ≤ i → i ≤ m → (b.D i 0 ≤ a.D i 0 → X i 0 ≤ a.D i 0) ∧ (b.D 0 i ≤ a.D 0 i → X 0 i ≤ a.D 0 i)) (rwZ a b m)
  | 0, _ => (top_std ha.n).congr fun X _ => ⟨fun h => ⟨h, fun i h1 h2 => by omega⟩, fun h => h.1⟩
  | m + 1, hm => by
    have ih := rw_std (b := b) ha hn m (by omega)
    show Std _ _ (rwS a b m (rwZ a b m))
    have b1 := ha.bounds hn (m + 1) 0 hm (by omega)
    have b2 := ha.bounds hn 0 (m + 1) (by omega) hm
    unfold rwS
    have e1 : ((m + 1 : Nat) : Int) - 1 = (m : Int) := by omega
    have e2 : ((0 : Nat) : Int) - 1 = -1 := by omega
    have s1 : Std a.n (fun X => ((∀ i, 1 ≤ i → i ≤ a.n → X i 0 ≤ 2147483647 ∧ X 0 i ≤ 2147483648) ∧ ∀ i, 1 ≤ i → i ≤ m → (b.D i 0 ≤ a.D i 0 → X i 0 ≤ a.D i 0) ∧ (b.D 0 i ≤ a.D 0 i → X 0 i ≤ a.D 0 i)) ∧ (b.D (m + 1) 0 ≤ a.D (m + 1) 0 → X (m + 1) 0 ≤ a.D (m + 1) 0))
        (if b.D (m + 1) 0 ≤ a.D (m + 1) 0 then boundZ (rwZ a b m) (m : Int) (-1) (a.D (m + 1) 0) else rwZ a b m) := by
      split
      · rename_i hc
        have := ih.bound (i := m + 1) (j := 0) hm (by omega) (by omega) (d := a.D (m + 1) 0) (by omega)
        rw [e1, e2] at this
        exact this.congr fun X _ => and_congr_right fun _ => ⟨fun h _ => h, fun h => h hc⟩
      · rename_i hc
        exact ih.congr fun X _ => ⟨fun h => ⟨h, fun h2 => absurd h2 hc⟩, fun h => h.1⟩
    generalize (if b.D (m + 1) 0 ≤ a.D (m + 1) 0 then boundZ (rwZ a b m) (m : Int) (-1) (a.D (m + 1) 0) else rwZ a b m) = z1 at s1 ⊢
    have s2 : Std a.n (fun X => (((∀ i, 1 ≤ i → i ≤ a.n → X i 0 ≤ 2147483647 ∧ X 0 i ≤ 2147483648) ∧ ∀ i, 1 ≤ i → i ≤ m → (b.D i 0 ≤ a.D i 0 → X i 0 ≤ a.D i 0) ∧ (b.D 0 i ≤ a.D 0 i → X 0 i ≤ a.D 0 i)) ∧ (b.D (m + 1) 0 ≤ a.D (m + 1) 0 → X (m + 1) 0 ≤ a.D (m + 1) 0)) ∧ (b.D 0 (m + 1) ≤ a.D 0 (m + 1) → X 0 (m + 1) ≤ a.D 0 (m + 1)))
        (if b.D 0 (m + 1) ≤ a.D 0 (m + 1) then boundZ z1 (-1) (m : Int) (a.D 0 (m + 1)) else z1) := by
      split
      · rename_i hc
        have := s1.bound (i := 0) (j := m + 1) (by omega) hm (by omega) (d := a.D 0 (m + 1)) (by omega)
        rw [e1, e2] at this
        exact this.congr fun X _ => and_congr_right fun _ => ⟨fun h _ => h, fun h => h hc⟩
      · rename_i hc
        exact s1.congr fun X _ => ⟨fun h => ⟨h, fun h2 => absurd h2 hc⟩, fun h => h.1⟩
    refine s2.congr fun X _ => ⟨fun ⟨⟨⟨h1, h2⟩, h3⟩, h4⟩ => ⟨h1, fun i hi1 hi2 => ?_⟩, fun ⟨h1, h2⟩ => ⟨⟨⟨h1, fun i hi1 hi2 => h2 i hi1 (by omega)⟩, (h2 (m + 1) (by omega) (by omega)).1⟩, (h2 (m + 1) (by omega) (by omega)).2⟩⟩
    by_cases e : i = m + 1
    · subst e; exact ⟨h3, h4⟩
    · exact h2 i hi1 (by omega)
theorem rw_eq {a b : Zn} (ha : OKZ a) (hn : a.none = false) : rwZ a b a.n = ⟨a.n, false, starM a.n (wU a.D b.D) (wV a.D b.D)⟩ := by
  refine (rw_std (b := b) ha hn a.n (Nat.le_refl _)).uniq ⟨star_ok ha hn _, _, ⟨rfl, .inl ⟨rfl, wid_clo ha hn, fun i j ho => ?_⟩⟩, fun X hX => ?_⟩
  · show starM _ _ _ _ _ = _; unfold starM; rw [if_neg ho]
  · constructor
    · intro h
      have hu : ∀ i, 1 ≤ i → i ≤ a.n → X i 0 ≤ wU a.D b.D i := fun i h1 h2 => by have := h i 0 h2 (by omega); rw [ownW_u ha hn h1 h2] at this; exact this
      have hv : ∀ i, 1 ≤ i → i ≤ a.n → X 0 i ≤ wV a.D b.D i := fun i h1 h2 => by have := h 0 i (by omega) h2; rw [ownW_v ha hn h1 h2] at this; exact this
      refine ⟨fun i h1 h2 => ⟨Int.le_trans (hu i h1 h2) (wU_le ha hn h2).2, Int.le_trans (hv i h1 h2) (wV_le ha hn h2).2⟩, fun i h1 h2 => ⟨fun h3 => ?_, fun h3 => ?_⟩⟩
      · have := hu i h1 h2; unfold wU at this; rw [if_neg (by omega), if_neg (by omega)] at this; exact this
      · have := hv i h1 h2; unfold wV at this; rw [if_neg (by omega), if_neg (by omega)] at this; exact this
    · rintro ⟨h1, h2⟩
      have hu : ∀ i, i ≤ a.n → X i 0 ≤ wU a.D b.D i := fun i hi => by
        unfold wU; split
        · rename_i e; subst e; exact Int.le_of_eq (hX.diag 0 hi)
        · split
          · exact (h1 i (by omega) hi).1
          · exact (h2 i (by omega) hi).1 (by omega)
      have hv : ∀ i, i ≤ a.n → X 0 i ≤ wV a.D b.D i := fun i hi => by
        unfold wV; split
        · rename_i e; subst e; exact Int.le_of_eq (hX.diag 0 hi)
        · split
          · exact (h1 i (by omega) hi).2
          · exact (h2 i (by omega) hi).2 (by omega)
      refine fun i j hi hj => Int.le_trans ?_ ((wid_clo (E := b.D) ha hn).le i j hi hj)
      rw [starM_at hi hj]
      by_cases e : i = j
      · subst e; rw [if_pos rfl]; exact Int.le_of_eq (hX.diag i hi)
      · rw [if_neg e]
        have t := hX.tri i j 0 hi hj (by omega)
        have := hu i hi
        have := hv j hj
        omega
/-- The document's widening is the program's. -/
theorem rwid_eq {a b : Zn} (ha : OKZ a) (hb : OKZ b) (h : a.n = b.n) : widZ a b = if a.none = true then b else if withinB b a = true then a else rwZ a b a.n := by
  by_cases h1 : a.n ≠ b.n ∨ withinB b a = true
  · have h2 : withinB b a = true := h1.resolve_left (fun hh => hh h)
    rw [widZ_l h1]
    cases hn : a.none with
    | true =>
      rw [if_pos rfl]
      obtain ⟨_, h4⟩ := within_iff.1 h2
      have hbn : b.none = true := h4.resolve_right fun ⟨h5, _⟩ => by rw [hn] at h5; cases h5
      exact Zn.ext' h (hn.trans hbn.symm) fun i j => by rw [ha.nones hn, hb.nones hbn]
    | false => rw [if_neg (by simp), if_pos h2]
  · cases hn : a.none with
    | true => rw [widZ_r h1 hn, if_pos rfl]
    | false => rw [widZ_both h1 ha hn, if_neg (by simp), if_neg (fun hh => h1 (.inr hh)), rw_eq ha hn]
end Go.Proofs.Ytgnkhncogfppgaa

namespace Go.Proofs.Ytgnkhncogfppgaa
/-! Ever more that are joined by widening: a measure that falls. -/
def cntF (D : Mat) (i : Nat) : Nat := (if D (i + 1) 0 < 2147483647 then 1 else 0) + (if D 0 (i + 1) < 2147483648 then 1 else 0)
def cntN (D : Mat) : Nat → Nat
  | 0 => 0
  | m + 1 => cntN D m + cntF D m
theorem cntN_le (D : Mat) : ∀ m, cntN D m ≤ 2 * m
  | 0 => Nat.le_refl _
  | m + 1 => by
    have := cntN_le D m
    have : cntF D m ≤ 2 := by unfold cntF; (repeat' split) <;> omega
    show cntN D m + cntF D m ≤ _
    omega
theorem cntN_mono {D E : Mat} : ∀ m, (∀ i, i < m → cntF E i ≤ cntF D i) → cntN E m ≤ cntN D m
  | 0, _ => Nat.le_refl _
  | m + 1, h => by
    have := cntN_mono m fun i hi => h i (by omega)
    have := h m (by omega)
    show cntN E m + cntF E m ≤ cntN D m + cntF D m
    omega
theorem cntN_lt {D E : Mat} {k : Nat} : ∀ m, (∀ i, i < m → cntF E i ≤ cntF D i) → k < m → cntF E k < cntF D k → cntN E m < cntN D m
  | 0, _, h, _ => by omega
  | m + 1, h, hk, hlt => by
    have h2 := h m (by omega)
    show cntN E m + cntF E m < cntN D m + cntF D m
    by_cases e : k = m
    · subst e
      have := cntN_mono k fun i hi => h i (by omega)
      omega
    · have := cntN_lt m (fun i hi => h i (by omega)) (by omega) hlt
      omega
def StarZ (z : Zn) : Prop := ∀ i, i ≤ z.n → ∀ j, j ≤ z.n → i ≠ j → z.D i j = z.D i 0 + z.D 0 j
open Classical in
noncomputable def muZ (z : Zn) : Nat := if z.none = true then 14 else if StarZ z then cntN z.D z.n else 13
theorem muZ_le {z : Zn} (h : z.n ≤ 6) : muZ z ≤ 14 := by
  have := cntN_le z.D z.n
  unfold muZ; (repeat' split) <;> omega
theorem muZ_some {z : Zn} (h : z.n ≤ 6) (hn : z.none = false) : muZ z ≤ 13 := by
  have := cntN_le z.D z.n
  unfold muZ; rw [if_neg (by rw [hn]; simp)]; split <;> omega
theorem muZ_star {z : Zn} (hn : z.none = false) (hs : StarZ z) : muZ z = cntN z.D z.n := by
  unfold muZ; rw [if_neg (by rw [hn]; simp), if_pos hs]
theorem star_star {a : Zn} (_ : OKZ a) (_ : a.none = false) (E : Mat) : StarZ ⟨a.n, false, starM a.n (wU a.D E) (wV a.D E)⟩ := by
  intro i hi j hj hij
  have hi : i ≤ a.n := hi
  have hj : j ≤ a.n := hj
  show starM _ _ _ i j = starM _ _ _ i 0 + starM _ _ _ 0 j
  have u0 : wU a.D E 0 = 0 := rfl
  have v0 : wV a.D E 0 = 0 := rfl
  rw [starM_at hi hj, starM_at hi (Nat.zero_le _), starM_at (Nat.zero_le _) hj, if_neg hij]
  by_cases hi0 : i = 0
  · subst hi0; rw [if_pos rfl, if_neg hij]; omega
  · rw [if_neg hi0]
    by_cases hj0 : j = 0
    · subst hj0; rw [if_pos rfl]; omega
    · rw [if_neg (fun h => hj0 h.symm)]; omega
/-- ONE STEP: it falls, or nothing is another one. -/
theorem wid_falls {z x : Zn} (hz : OKZ z) (hx : OKZ x) (h : z.n = x.n) (hne : widZ z (joinZ z x) ≠ z) : muZ (widZ z (joinZ z x)) < muZ z := by
  have hj := join_ok hz hx
  have hjn := joinZ_n z x h
  by_cases h1 : z.n ≠ (joinZ z x).n ∨ withinB (joinZ z x) z = true
  · exact absurd (widZ_l h1) hne
  · have hw : ¬ withinB (joinZ z x) z = true := fun hh => h1 (.inr hh)
    have hJn : (joinZ z x).none = false := by
      cases e : (joinZ z x).none with
      | false => rfl
      | true => exact absurd (within_iff.2 ⟨hjn, .inl e⟩) hw
    cases hn : z.none with
    | true =>
      rw [widZ_r h1 hn]
      have := muZ_some hj.n hJn
      unfold muZ at this ⊢
      rw [if_pos hn]
      omega
    | false =>
      rw [widZ_both h1 hz hn]
      have hs := star_star hz hn (joinZ z x).D
      have hxn : x.none = false := by
        cases e : x.none with
        | false => rfl
        | true => rw [joinZ_l (.inr e)] at hw; exact absurd (within_refl z) hw
      by_cases hst : StarZ z
      · rw [muZ_star hn hst, muZ_star rfl hs]
        show cntN (starM z.n (wU z.D (joinZ z x).D) (wV z.D (joinZ z x).D)) z.n < cntN z.D z.n
        generalize hE : (joinZ z x).D = E at *
        have d0 := (hz.sub hn).diag 0 (by omega)
        have su : ∀ i, i < z.n → starM z.n (wU z.D E) (wV z.D E) (i + 1) 0 = if z.D (i + 1) 0 < E (i + 1) 0 then 2147483647 else z.D (i + 1) 0 := fun i hi => by
          rw [starM_at (by omega) (by omega), if_neg (by omega), wV0]; unfold wU; rw [if_neg (by omega)]; split <;> omega
        have sv : ∀ i, i < z.n → starM z.n (wU z.D E) (wV z.D E) 0 (i + 1) = if z.D 0 (i + 1) < E 0 (i + 1) then 2147483648 else z.D 0 (i + 1) := fun i hi => by
          rw [starM_at (by omega) (by omega), if_neg (by omega), wU0]; unfold wV; rw [if_neg (by omega)]; split <;> omega
        have hle : ∀ i, i < z.n → cntF (starM z.n (wU z.D E) (wV z.D E)) i ≤ cntF z.D i := fun i hi => by
          have := hz.up hn (i + 1) (by omega) (by omega)
          have := hz.down hn (i + 1) (by omega) (by omega)
          unfold cntF; rw [su i hi, sv i hi]; (repeat' split) <;> omega
        -- a bound that isn't there any more
        have hex : ∃ k, k < z.n ∧ (z.D (k + 1) 0 < E (k + 1) 0 ∨ z.D 0 (k + 1) < E 0 (k + 1)) := by
          refine Classical.byContradiction fun hno => hw (within_iff.2 ⟨hjn, .inr ⟨hn, fun i _ j _ => ?_⟩⟩)
          rw [hE]
          have hu : ∀ i, i ≤ z.n → E i 0 ≤ z.D i 0 := fun i hi => by
            by_cases hi0 : i = 0
            · subst hi0
              have := (hj.sub hJn).diag 0 (by omega)
              rw [hE] at this; omega
            · refine Int.not_lt.1 fun hlt => hno ⟨i - 1, by omega, .inl ?_⟩
              rw [show i - 1 + 1 = i by omega]; exact hlt
          have hv : ∀ i, i ≤ z.n → E 0 i ≤ z.D 0 i := fun i hi => by
            by_cases hi0 : i = 0
            · subst hi0
              have := (hj.sub hJn).diag 0 (by omega)
              rw [hE] at this; omega
            · refine Int.not_lt.1 fun hlt => hno ⟨i - 1, by omega, .inr ?_⟩
              rw [show i - 1 + 1 = i by omega]; exact hlt
          by_cases hij : i ≤ z.n ∧ j ≤ z.n
          · obtain ⟨hi, hj'⟩ := hij
            have sj := hj.sub hJn
            rw [hjn, hE] at sj
            by_cases e : i = j
            · subst e; rw [sj.diag i hi, (hz.sub hn).diag i hi]; exact Int.le_refl _
            · rw [hst i hi j hj' e]
              have := sj.tri i j 0 hi hj' (by omega)
              have := hu i hi
              have := hv j hj'
              omega
          · have := hj.out i j (by rw [hjn]; exact hij)
            rw [hE] at this
            rw [this, hz.out i j hij]; exact Int.le_refl _
        obtain ⟨k, hk, hlt⟩ := hex
        have e1 := hj.up hJn (k + 1) (by omega) (by rw [hjn]; omega)
        have e2 := hj.down hJn (k + 1) (by omega) (by rw [hjn]; omega)
        rw [hE] at e1 e2
        refine cntN_lt z.n hle hk ?_
        unfold cntF; rw [su k hk, sv k hk]
        rcases hlt with hlt | hlt <;> (repeat' split) <;> omega
      · have := cntN_le (starM z.n (wU z.D (joinZ z x).D) (wV z.D (joinZ z x).D)) z.n
        have h6 := hz.n
        rw [muZ_star rfl hs]
        show cntN (starM z.n (wU z.D (joinZ z x).D) (wV z.D (joinZ z x).D)) z.n < _
        have e : muZ z = 13 := by unfold muZ; rw [if_neg (by rw [hn]; simp), if_neg hst]
        omega
end Go.Proofs.Ytgnkhncogfppgaa
