import Derived.Test.YtgnkhncogfppgaaBF
import Derived.Test.YtgnkhncogfppgaaBE
namespace Go.Proofs.Ytgnkhncogfppgaa
open Go.RowKit
theorem results_zr3 {fn : Func} {p q u : Tmp} {tmps : Array Value} {w : World} {g g' : Nat} {T T' : TypeId} {n m : Int} {b c : Bool} {D E : Mat} (h : fn.results = #[.cell p 26, .cell q 38, .tmp u])
    (hp : tmps.getD p undef = .pointer (some ⟨g, 0, none⟩)) (hq : tmps.getD q undef = .pointer (some ⟨g', 0, none⟩)) (hz : ZAt T w g n b D) (hr : ZAt T' w g' m c E) :
    (results fn tmps).run Try.prog w = .ok (.tuple #[.agg (zc n b D), .agg (zc m c E), tmps.getD u undef]) w := by
  have h1 := run_loadVar_row (P := Try.prog) w g T 26 (zc n b D) (0, 0) _ hz Try.underlying26 rfl (by rw [zc_size]; exact zsz)
  have h2 := run_loadVar_row (P := Try.prog) w g' T' 38 (zc m c E) (0, 0) _ hr Try.underlying38 rfl (by rw [zc_size]; exact rsz)
  have hp' : tmps[p]?.getD undef = .pointer (some ⟨g, 0, none⟩) := by simpa using hp
  have hq' : tmps[q]?.getD undef = .pointer (some ⟨g', 0, none⟩) := by simpa using hq
  simp [results, h, hp', hq', asAddr, h1, h2]
@[go_sem high] theorem zeq_self (n : Int) (b : Bool) (D : Mat) : zeq n b D n b D = true := zeq_iff.2 rfl
set_option maxRecDepth 100000 in
set_option maxHeartbeats 8000000 in
theorem apply_any {z : Zn} (h : OKZ z) (ad : Option Addr) (len cap : Nat) (hlen : len ≤ 9223372036854775807) (A : Nat → Nat → Int) (w : World) (hA : SlA w ad len A) :
    Calls Try.prog 31 #[.agg z.c, .agg z.c, .slice ad len cap] w (Ret w (.tuple #[.agg (actsZ z A (min len 20)).c, .agg (actsZ z A (min len 20)).c, .bool true])) := by
  have HA := Lib.hid hA
  have HOK := Lib.hid fun k => acts_ok h A k
  have HN := Lib.hid fun k => actsZ_n z A k
  have hn6 := h.n
  obtain ⟨n, hzn⟩ : ∃ n, n = z.n := ⟨_, rfl⟩
  rw [← hzn] at HN hn6
  have HZN := Lib.hid hzn
  rw [Zn.c, ← hzn]
  obtain ⟨b, hb0⟩ : ∃ b, b = z.none := ⟨_, rfl⟩
  obtain ⟨D, hD0⟩ : ∃ D, D = z.D := ⟨_, rfl⟩
  rw [← hb0, ← hD0]
  have H0 := Lib.hid (And.intro hb0 hD0)
  clear hA h hb0 hD0 hzn
  go_enter Try.func31, Try.ntmps31
  go_wp2_with (first
    | (refine wpList_box_zone rfl 26 _ rfl _ _ _ rfl ?_; intro W1 hz hb hs1)
    | (refine wpList_box_zone rfl 38 _ rfl _ _ _ rfl ?_; intro W2 hr hb2 hs2; rw [hs1.out] at hr hb2 hs2; rw [hs1.out]; have hz := hz.below hb2 (by omega); have hb := hb.trans (hb2.mono (by omega)); clear hb2)
    | (refine wpList_alloc_zone rfl 26 rfl zz ?_; intro W3 hu hb3 hs3; rw [hs2.out] at hu hb3 hs3; rw [hs2.out]; have hz := hz.below hb3 (by omega); have hr := hr.below hb3 (by omega); have hb := hb.trans (hb3.mono (by omega)); clear hb3)
    | (refine wpList_alloc_zone rfl 38 rfl rz ?_; intro W4 hv hb4 hs4; rw [hs3.out] at hv hb4 hs4; rw [hs3.out]; have hz := hz.below hb4 (by omega); have hr := hr.below hb4 (by omega); have hu := hu.below hb4 (by omega); have hb := hb.trans (hb4.mono (by omega)); clear hb4)
    | fail)
  have HZ : Hid (ZAt 26 W4 w.heap.size n (actsZ z A 0).none (actsZ z A 0).D) := by rw [H0.out.1, H0.out.2] at hz; exact hz
  have HR : Hid (ZAt 38 W4 (w.heap.size + 1) n (actsZ z A 0).none (actsZ z A 0).D) := by rw [H0.out.1, H0.out.2] at hr; exact hr
  have HU := Lib.hid hu
  have HV := Lib.hid hv
  have HB := Lib.hid hb
  clear hs1 hs2 hs3 hs4 hz hr hu hv hb
  go_loopw [9] (fun i_ wr => ∃ k : Nat, k ≤ len ∧ k ≤ 20 ∧ i_ = .int .i64 (k : Int) ∧ Hid (Below w.heap.size w wr) ∧ Hid (ZAt 26 wr w.heap.size n (actsZ z A k).none (actsZ z A k).D) ∧ Hid (ZAt 38 wr (w.heap.size + 1) n (actsZ z A k).none (actsZ z A k).D) ∧
    Hid (ZAt 26 wr (w.heap.size + 1 + 1) 0 false zeroM) ∧ Hid (ZAt 38 wr (w.heap.size + 1 + 1 + 1) 0 false zeroM)) (fun i _ => 21 - (intOf i).toNat)
  case atStart => exact ⟨0, by omega, by omega, rfl, HB, HZ, HR, HU, HV⟩
  case round =>
    clear HB HZ HR HU HV
    obtain ⟨k, hk, hk20, rfl, HB, HZ, HR, HU, HV⟩ := hrel
    have HOKK := Lib.hid (HOK.out k)
    have HNK := Lib.hid (HN.out k)
    have hnx : actsZ z A (k + 1) = stepZ (actsZ z A k) (A k) := rfl
    have HNX := Lib.hid hnx
    clear hnx
    obtain ⟨Z, hZ⟩ : ∃ Z, Z = actsZ z A k := ⟨_, rfl⟩
    rw [← hZ] at HZ HR HOKK HNK HNX
    have HZZ := Lib.hid hZ
    clear hZ
    have hb := HB.out
    have hz := HZ.out
    have hr := HR.out
    have hu := HU.out
    have hv := HV.out
    by_cases hlt : k < len
    · by_cases hlt2 : k < 20
      · obtain ⟨bb, off, rfl, hac⟩ := HA.out.on HB.out k hlt
        have hnc := hr.n_cell
        by_cases hn0' : n = 0
        · subst hn0'
          go_wp2_with (first
            | (refine load_ac rfl _ rfl _ _ rfl hac ?_)
            | (refine alloc_ac rfl rfl ?_; intro W5 ha hb5 hs5; have hz := hz.on hb5; have hr := hr.on hb5; have hu := hu.on hb5; have hv := hv.on hb5; have hnc := hr.n_cell; have hb := hb.trans (hb5.mono hb.size))
            | (refine store_ac rfl _ _ rfl rfl rfl ha ?_; intro W6 ha2 hg6 hs6; have hz := hz.only hg6 (by have := hz.lt; have := HZ.out.lt; omega); have hr := hr.only hg6 (by have := hr.lt; have := HR.out.lt; omega); have hu := hu.only hg6 (by have := HU.out.lt; omega); have hv := hv.only hg6 (by have := HV.out.lt; omega); have hnc := hr.n_cell; have hb := below_only hb hg6 hb.size HB.out.size)
            | fail)
          have HFIN : Hid (actsZ z A (min len 20) = Z) := by rw [HZZ.out, actsZ_0 HZN.out.symm, actsZ_0 HZN.out.symm]; exact rfl
          have hnZ : Z.n = 0 := HNK.out
          refine wp_region_any (by kernel_rfl) ?_
          have hz := hz.drew
          have hr := hr.drew
          have hu := hu.drew
          have hv := hv.drew
          have hb := hb.drew
          refine wpAny_two (i := 0) (j := 1) (by kernel_rfl) ?_ ?_
          · refine op_load_z rfl rfl _ rfl rfl hz ?_
            simp only [List.getElem_toArray, List.getElem_cons_zero, Act.put, List.setIfInBounds_toArray, List.set_cons_succ, List.set_cons_zero]
            refine wpAny_two (i := 1) (j := 2) (by kernel_rfl) ?_ ?_
            · refine op_load_r rfl rfl _ rfl rfl hr ?_
              simp only [List.getElem_toArray, List.getElem_cons_succ, List.getElem_cons_zero, Act.put, List.setIfInBounds_toArray, List.set_cons_succ, List.set_cons_zero]
              refine wpAny_one (i := 2) (by kernel_rfl) ?_
              refine op_store_z rfl rfl _ _ rfl rfl rfl hu ?_
              intro W7 hu7 hg7
              simp only [List.getElem_toArray, List.getElem_cons_succ, List.getElem_cons_zero, Act.put]
              have hv7 := hv.only hg7 (by omega)
              have hr7 := hr.only hg7 (by omega)
              have hb7 := below_only hb hg7 hb.size (by omega)
              refine wpAny_one (i := 3) (by kernel_rfl) ?_
              refine op_store_r rfl rfl _ _ rfl rfl rfl hv7 ?_
              intro W8 hv8 hg8
              simp only [List.getElem_toArray, List.getElem_cons_succ, List.getElem_cons_zero, Act.put]
              have hu8 := hu7.only hg8 (by omega)
              have hb8 := below_only hb7 hg8 hb7.size (by omega)
              refine wpAny_one (i := 4) (by kernel_rfl) ?_
              refine op_assign rfl rfl _ rfl ?_
              simp only [List.getElem_toArray, List.getElem_cons_succ, List.getElem_cons_zero, Act.put, List.setIfInBounds_toArray, List.set_cons_succ, List.set_cons_zero]
              refine wpAny_done (by kernel_rfl) ?_
              go_wp2_with fail
              exact bodyPost_ret (results_zr3 rfl rfl rfl hu8 hv8) rfl ⟨by rw [HFIN.out, Zn.c, hnZ]; rfl, hb8⟩

            · refine op_store_z rfl rfl _ _ rfl rfl rfl hu ?_
              intro W7 hu7 hg7
              simp only [List.getElem_toArray, List.getElem_cons_succ, List.getElem_cons_zero, Act.put]
              have hv7 := hv.only hg7 (by omega)
              have hr7 := hr.only hg7 (by omega)
              have hb7 := below_only hb hg7 hb.size (by omega)

              refine wpAny_one (i := 1) (by kernel_rfl) ?_
              refine op_load_r rfl rfl _ rfl rfl hr7 ?_
              simp only [List.getElem_toArray, List.getElem_cons_succ, List.getElem_cons_zero, Act.put, List.setIfInBounds_toArray, List.set_cons_succ, List.set_cons_zero]
              refine wpAny_one (i := 3) (by kernel_rfl) ?_
              refine op_store_r rfl rfl _ _ rfl rfl rfl hv7 ?_
              intro W8 hv8 hg8
              simp only [List.getElem_toArray, List.getElem_cons_succ, List.getElem_cons_zero, Act.put]
              have hu8 := hu7.only hg8 (by omega)
              have hb8 := below_only hb7 hg8 hb7.size (by omega)
              refine wpAny_one (i := 4) (by kernel_rfl) ?_
              refine op_assign rfl rfl _ rfl ?_
              simp only [List.getElem_toArray, List.getElem_cons_succ, List.getElem_cons_zero, Act.put, List.setIfInBounds_toArray, List.set_cons_succ, List.set_cons_zero]
              refine wpAny_done (by kernel_rfl) ?_
              go_wp2_with fail
              exact bodyPost_ret (results_zr3 rfl rfl rfl hu8 hv8) rfl ⟨by rw [HFIN.out, Zn.c, hnZ]; rfl, hb8⟩

          · refine op_load_r rfl rfl _ rfl rfl hr ?_
            simp only [List.getElem_toArray, List.getElem_cons_succ, List.getElem_cons_zero, Act.put, List.setIfInBounds_toArray, List.set_cons_succ, List.set_cons_zero]
            refine wpAny_one (i := 0) (by kernel_rfl) ?_
            refine op_load_z rfl rfl _ rfl rfl hz ?_
            simp only [List.getElem_toArray, List.getElem_cons_zero, Act.put, List.setIfInBounds_toArray, List.set_cons_succ, List.set_cons_zero]
            refine wpAny_one (i := 2) (by kernel_rfl) ?_
            refine op_store_z rfl rfl _ _ rfl rfl rfl hu ?_
            intro W7 hu7 hg7
            simp only [List.getElem_toArray, List.getElem_cons_succ, List.getElem_cons_zero, Act.put]
            have hv7 := hv.only hg7 (by omega)
            have hr7 := hr.only hg7 (by omega)
            have hb7 := below_only hb hg7 hb.size (by omega)
            refine wpAny_one (i := 3) (by kernel_rfl) ?_
            refine op_store_r rfl rfl _ _ rfl rfl rfl hv7 ?_
            intro W8 hv8 hg8
            simp only [List.getElem_toArray, List.getElem_cons_succ, List.getElem_cons_zero, Act.put]
            have hu8 := hu7.only hg8 (by omega)
            have hb8 := below_only hb7 hg8 hb7.size (by omega)
            refine wpAny_one (i := 4) (by kernel_rfl) ?_
            refine op_assign rfl rfl _ rfl ?_
            simp only [List.getElem_toArray, List.getElem_cons_succ, List.getElem_cons_zero, Act.put, List.setIfInBounds_toArray, List.set_cons_succ, List.set_cons_zero]
            refine wpAny_done (by kernel_rfl) ?_
            go_wp2_with fail
            exact bodyPost_ret (results_zr3 rfl rfl rfl hu8 hv8) rfl ⟨by rw [HFIN.out, Zn.c, hnZ]; rfl, hb8⟩
        · have hn0 : ((n : Int) == 0) = false := by simpa using hn0'
          have e0 : (0 : Int) ≤ (k : Int) := by omega
          go_wp2_with (first
            | (refine load_ac rfl _ rfl _ _ rfl hac ?_)
            | (refine alloc_ac rfl rfl ?_; intro W5 ha hb5 hs5; have hz := hz.on hb5; have hr := hr.on hb5; have hu := hu.on hb5; have hv := hv.on hb5; have hnc := hr.n_cell; have hb := hb.trans (hb5.mono hb.size))
            | (refine store_ac rfl _ _ rfl rfl rfl ha ?_; intro W6 ha2 hg6 hs6; have hz := hz.only hg6 (by have := hz.lt; have := HZ.out.lt; omega); have hr := hr.only hg6 (by have := hr.lt; have := HR.out.lt; omega); have hu := hu.only hg6 (by have := HU.out.lt; omega); have hv := hv.only hg6 (by have := HV.out.lt; omega); have hnc := hr.n_cell; have hb := below_only hb hg6 hb.size HB.out.size; have c1 := ha2.cell 1; have c2 := ha2.cell 2; have c0 := ha2.cell 0; have c3 := ha2.cell 3; simp only [ac, List.getElem?_toArray, List.getElem?_cons_zero, List.getElem?_cons_succ] at c0 c1 c2 c3)
            | fail)
          have u1 : IntKind.u64.wrap (n : Int) = n := IntWalk.u64_in _ (by omega)
          have u2 : IntKind.u64.wrap (wrap64 ((n : Int) + 1)) = ((n + 1 : Nat) : Int) := by rw [wrap64_w64, w64_in (by omega) (by omega)]; exact IntWalk.u64_in _ (by omega)
          obtain ⟨p, hp⟩ : ∃ p : Nat, (IntKind.u64.wrap (A k 1)).toNat = p := ⟨_, rfl⟩
          obtain ⟨q, hq⟩ : ∃ q : Nat, (IntKind.u64.wrap (A k 2)).toNat = q := ⟨_, rfl⟩
          obtain ⟨r, hr0⟩ : ∃ r : Nat, (IntKind.u64.wrap (A k 0)).toNat = r := ⟨_, rfl⟩
          have hpp : IntKind.u64.wrap (A k 1) = (p : Int) := by rw [← hp]; exact u64_nat _
          have hqq : IntKind.u64.wrap (A k 2) = (q : Int) := by rw [← hq]; exact u64_nat _
          have hrr : IntKind.u64.wrap (A k 0) = (r : Int) := by rw [← hr0]; exact u64_nat _
          obtain ⟨i, hi⟩ : ∃ i : Nat, p % n = i := ⟨_, rfl⟩
          obtain ⟨j, hj⟩ : ∃ j : Nat, q % (n + 1) = j := ⟨_, rfl⟩
          obtain ⟨c, hc⟩ : ∃ c : Nat, r % 5 = c := ⟨_, rfl⟩
          obtain ⟨d, hd⟩ : ∃ d : Int, wrap32 (A k 3) = d := ⟨_, rfl⟩
          have hin : i < n := by rw [← hi]; exact Nat.mod_lt _ (by omega)
          have hjn : j ≤ n := by rw [← hj]; exact Nat.le_of_lt_succ (Nat.mod_lt _ (by omega))
          have hcn : c < 5 := by rw [← hc]; exact Nat.mod_lt _ (by omega)
          obtain ⟨hd1, hd2⟩ : -2147483648 ≤ d ∧ d ≤ 2147483647 := by rw [← hd]; exact wrap32_bd _
          have HNX2 : Hid (actsZ z A (k + 1) = actZ Z c i j d) := by
            rw [HNX.out]; unfold stepZ; rw [if_neg (by rw [HNK.out]; exact hn0')]
            unfold whOf xOf yOf
            rw [HNK.out, hp, hq, hr0, hi, hj, hc, hd]; exact rfl
          have x1 : (p : Int) % (n : Int) = (i : Int) := by rw [← hi]; exact (Int.natCast_emod p n).symm
          have x2 : (q : Int) % ((n : Int) + 1) = (j : Int) := by rw [← hj]; exact (Int.natCast_emod q (n + 1)).symm
          have x3 : (r : Int) % 5 = (c : Int) := by omega
          clear hp hq hr0 hi hj hc HNX HZZ
          go_region
          have hz := hz.drew
          have hr := hr.drew
          have hu := hu.drew
          have hv := hv.drew
          have hb := hb.drew
          have c0 : W6.drew.cell? _ = _ := c0
          have c3 : W6.drew.cell? _ = _ := c3
          clear x1 x2 u1 u2 hpp hqq c1 c2 hnc
          generalize W6.drew = w7 at *
          obtain hc0 | hc1 | hc2 | hc3 | hc4 : c = 0 ∨ c = 1 ∨ c = 2 ∨ c = 3 ∨ c = 4 := by omega
          · have hcc : c = 0 := hc0
            subst hcc
            by_cases hij : i + 1 = j
            · have hne : ((i : Int) != (j : Int) - 1) = false := by simp; omega
              have HNX2 := Lib.hid (show actsZ z A (k + 1) = Z by rw [HNX2.out]; unfold actZ; simp [hij])
              obtain ⟨Y, hY⟩ : ∃ Y, Y = Z := ⟨_, rfl⟩
              rw [← hY] at HNX2 hz hr
              have HY : Hid (OKZ Y) := by rw [← HNX2.out]; exact HOK.out (k + 1)
              have HYN : Hid (Y.n = n) := by rw [← HNX2.out]; exact HN.out (k + 1)
              clear hY
              go_wp2_with fail
              have hfr : ∀ W : World, Calls Try.prog 30 #[.agg (zc n Y.none Y.D)] W (Ret W (.agg (zc n Y.none Y.D))) := fun W => by have := from_any Y W; rw [Zn.c, HYN.out] at this; exact this
              have hrt : ∀ W : World, Calls Try.prog 44 #[.agg (zc n Y.none Y.D)] W (Ret W (.bool true)) := fun W => by have := right_ok HY.out W; rw [Zn.c, HYN.out] at this; exact this
              have HFR := Lib.hid hfr
              have HRT := Lib.hid hrt
              clear hfr hrt
              refine head0 8 (by kernel_rfl) (by kernel_rfl) (by kernel_rfl) (by kernel_rfl) ?_
              simp only [List.take_succ_cons, List.take_zero, List.drop_succ_cons, List.drop_zero]
              refine lex_load_z rfl _ rfl rfl hz ?_
              simp only [Act.put, List.setIfInBounds_toArray, List.set_cons_succ, List.set_cons_zero]
              (refine lex_call rfl rfl _ _ (fun W => ?_) _ (fun W hW => HFR.out W) ?_; focus (go_simp; done))
              simp only [Act.put, List.setIfInBounds_toArray, List.set_cons_succ, List.set_cons_zero]
              refine lex_load_r rfl _ rfl rfl hr ?_
              simp only [Act.put, List.setIfInBounds_toArray, List.set_cons_succ, List.set_cons_zero]
              (refine lex_pure rfl rfl ?_ (fun W => ?_) ?_; rotate_left; focus (go_simp; try rfl))
              simp only [Act.put, List.setIfInBounds_toArray, List.set_cons_succ, List.set_cons_zero]
              (refine lex_pure rfl rfl ?_ (fun W => ?_) ?_; rotate_left; focus (go_simp; try rfl))
              simp only [Act.put, List.setIfInBounds_toArray, List.set_cons_succ, List.set_cons_zero]
              refine lex_load_z rfl _ rfl rfl hz ?_
              simp only [Act.put, List.setIfInBounds_toArray, List.set_cons_succ, List.set_cons_zero]
              (refine lex_call rfl rfl _ _ (fun W => ?_) _ (fun W hW => HRT.out W) ?_; focus (go_simp; done))
              simp only [Act.put, List.setIfInBounds_toArray, List.set_cons_succ, List.set_cons_zero]
              (refine lex_pure rfl rfl ?_ (fun W => ?_) ?_; rotate_left; focus (go_simp; try rfl))
              simp only [Act.put, List.setIfInBounds_toArray, List.set_cons_succ, List.set_cons_zero]
              intro w3 hb3
              have hz := Lib.hid (hz.on hb3)
              have hr := Lib.hid (hr.on hb3)
              have hu := Lib.hid (hu.on hb3)
              have hv := Lib.hid (hv.on hb3)
              have hb := Lib.hid (hb.trans (hb3.mono hb.size))
              rw [← HNX2.out] at hz hr
              clear HFR HRT hb3
              go_wp2
              go_roundw
              case rel => exact ⟨k + 1, by omega, by omega, by go_num, hb, hz, hr, hu, hv⟩
              case measure => simp [intOf]; omega
            · have hne : ((i : Int) != (j : Int) - 1) = true := by simp; omega
              have HNX2 := Lib.hid (show actsZ z A (k + 1) = boundZ Z (i : Int) ((j : Int) - 1) d by rw [HNX2.out]; unfold actZ; simp [hij])
              go_wp2_with fail
              obtain ⟨Y, hY⟩ : ∃ Y, Y = boundZ Z (i : Int) ((j : Int) - 1) d := ⟨_, rfl⟩
              have HB1 := Lib.hid (show ∀ W : World, Calls Try.prog 22 #[.agg (zc n Z.none Z.D), .int .i64 ((i : Int)), .int .i64 ((j : Int) - 1), .int .i64 (d)] W (Ret W (.agg (boundZ Z (i : Int) ((j : Int) - 1) d).c)) from fun W => by have := bound_any Z HOKK.out.n ((i : Int)) ((j : Int) - 1) d W; rw [Zn.c, HNK.out] at this; exact this)
              have HB2 := Lib.hid (show ∀ W : World, Calls Try.prog 29 #[.agg (zc n Z.none Z.D), .int .i64 ((i : Int)), .int .i64 ((j : Int) - 1), .int .i64 (d)] W (Ret W (.agg (boundZ Z (i : Int) ((j : Int) - 1) d).c)) from fun W => by have := rbound_any HOKK.out (i := i + 1) (j := j) (by rw [HNK.out]; omega) (by rw [HNK.out]; omega) (by omega) (d := d) (by omega) W; rw [Zn.c, HNK.out] at this; simpa only [Int.natCast_succ, Int.add_sub_cancel] using this)
              rw [← hY] at HNX2 HB1 HB2
              have HY : Hid (OKZ Y) := by rw [← HNX2.out]; exact HOK.out (k + 1)
              have HYN : Hid (Y.n = n) := by rw [← HNX2.out]; exact HN.out (k + 1)
              rw [Zn.c, HYN.out] at HB1 HB2
              clear hY
              refine head0 10 (by kernel_rfl) (by kernel_rfl) (by kernel_rfl) (by kernel_rfl) ?_
              simp only [List.take_succ_cons, List.take_zero, List.drop_succ_cons, List.drop_zero]
              refine lex_load_z rfl _ rfl rfl hz ?_
              simp only [Act.put, List.setIfInBounds_toArray, List.set_cons_succ, List.set_cons_zero]
              (refine lex_pure rfl rfl ?_ (fun W => ?_) ?_; rotate_left; focus (go_simp; try rfl))
              simp only [Act.put, List.setIfInBounds_toArray, List.set_cons_succ, List.set_cons_zero]
              (refine lex_pure rfl rfl ?_ (fun W => ?_) ?_; rotate_left; focus (go_simp; try rfl))
              simp only [Act.put, List.setIfInBounds_toArray, List.set_cons_succ, List.set_cons_zero]
              (refine lex_pure rfl rfl ?_ (fun W => ?_) ?_; rotate_left; focus (go_simp; try rfl))
              simp only [Act.put, List.setIfInBounds_toArray, List.set_cons_succ, List.set_cons_zero]
              (refine lex_call rfl rfl _ _ (fun W => ?_) _ (fun W hW => HB1.out W) ?_; focus (go_simp; done))
              simp only [Act.put, List.setIfInBounds_toArray, List.set_cons_succ, List.set_cons_zero]
              refine lex_load_r rfl _ rfl rfl hr ?_
              simp only [Act.put, List.setIfInBounds_toArray, List.set_cons_succ, List.set_cons_zero]
              (refine lex_pure rfl rfl ?_ (fun W => ?_) ?_; rotate_left; focus (go_simp; try rfl))
              simp only [Act.put, List.setIfInBounds_toArray, List.set_cons_succ, List.set_cons_zero]
              (refine lex_pure rfl rfl ?_ (fun W => ?_) ?_; rotate_left; focus (go_simp; try rfl))
              simp only [Act.put, List.setIfInBounds_toArray, List.set_cons_succ, List.set_cons_zero]
              (refine lex_pure rfl rfl ?_ (fun W => ?_) ?_; rotate_left; focus (go_simp; try rfl))
              simp only [Act.put, List.setIfInBounds_toArray, List.set_cons_succ, List.set_cons_zero]
              (refine lex_call rfl rfl _ _ (fun W => ?_) _ (fun W hW => HB2.out W) ?_; focus (go_simp; done))
              simp only [Act.put, List.setIfInBounds_toArray, List.set_cons_succ, List.set_cons_zero]
              intro w2 hb2
              have hz := hz.on hb2
              have hr := hr.on hb2
              have hu := hu.on hb2
              have hv := hv.on hb2
              have hb := hb.trans (hb2.mono hb.size)
              clear hb2 HB1 HB2
              go_wp2_with (first
                | (refine store_z rfl _ _ rfl rfl rfl hz ?_; intro W7 hz7 hg7 hs7; have hr := hr.only hg7 (by omega); have hu := hu.only hg7 (by omega); have hv := hv.only hg7 (by omega); have hb := below_only hb hg7 hb.size (by omega); clear hz; have hz := hz7; clear hg7 hz7 hs7)
                | (refine store_r rfl _ _ rfl rfl rfl hr ?_; intro W8 hr8 hg8 hs8; have hz := hz.only hg8 (by omega); have hu := hu.only hg8 (by omega); have hv := hv.only hg8 (by omega); have hb := below_only hb hg8 hb.size (by omega); clear hr; have hr := hr8; clear hg8 hr8 hs8)
                | fail)
              have hfr : ∀ W : World, Calls Try.prog 30 #[.agg (zc n Y.none Y.D)] W (Ret W (.agg (zc n Y.none Y.D))) := fun W => by have := from_any Y W; rw [Zn.c, HYN.out] at this; exact this
              have hrt : ∀ W : World, Calls Try.prog 44 #[.agg (zc n Y.none Y.D)] W (Ret W (.bool true)) := fun W => by have := right_ok HY.out W; rw [Zn.c, HYN.out] at this; exact this
              have HFR := Lib.hid hfr
              have HRT := Lib.hid hrt
              clear hfr hrt
              refine head0 8 (by kernel_rfl) (by kernel_rfl) (by kernel_rfl) (by kernel_rfl) ?_
              simp only [List.take_succ_cons, List.take_zero, List.drop_succ_cons, List.drop_zero]
              refine lex_load_z rfl _ rfl rfl hz ?_
              simp only [Act.put, List.setIfInBounds_toArray, List.set_cons_succ, List.set_cons_zero]
              (refine lex_call rfl rfl _ _ (fun W => ?_) _ (fun W hW => HFR.out W) ?_; focus (go_simp; done))
              simp only [Act.put, List.setIfInBounds_toArray, List.set_cons_succ, List.set_cons_zero]
              refine lex_load_r rfl _ rfl rfl hr ?_
              simp only [Act.put, List.setIfInBounds_toArray, List.set_cons_succ, List.set_cons_zero]
              (refine lex_pure rfl rfl ?_ (fun W => ?_) ?_; rotate_left; focus (go_simp; try rfl))
              simp only [Act.put, List.setIfInBounds_toArray, List.set_cons_succ, List.set_cons_zero]
              (refine lex_pure rfl rfl ?_ (fun W => ?_) ?_; rotate_left; focus (go_simp; try rfl))
              simp only [Act.put, List.setIfInBounds_toArray, List.set_cons_succ, List.set_cons_zero]
              refine lex_load_z rfl _ rfl rfl hz ?_
              simp only [Act.put, List.setIfInBounds_toArray, List.set_cons_succ, List.set_cons_zero]
              (refine lex_call rfl rfl _ _ (fun W => ?_) _ (fun W hW => HRT.out W) ?_; focus (go_simp; done))
              simp only [Act.put, List.setIfInBounds_toArray, List.set_cons_succ, List.set_cons_zero]
              (refine lex_pure rfl rfl ?_ (fun W => ?_) ?_; rotate_left; focus (go_simp; try rfl))
              simp only [Act.put, List.setIfInBounds_toArray, List.set_cons_succ, List.set_cons_zero]
              intro w3 hb3
              have hz := Lib.hid (hz.on hb3)
              have hr := Lib.hid (hr.on hb3)
              have hu := Lib.hid (hu.on hb3)
              have hv := Lib.hid (hv.on hb3)
              have hb := Lib.hid (hb.trans (hb3.mono hb.size))
              rw [← HNX2.out] at hz hr
              clear HFR HRT hb3
              go_wp2
              go_roundw
              case rel => exact ⟨k + 1, by omega, by omega, by go_num, hb, hz, hr, hu, hv⟩
              case measure => simp [intOf]; omega
          · have hcc : c = 1 := hc1
            subst hcc
            by_cases hij : i + 1 = j
            · have hne : ((i : Int) != (j : Int) - 1) = false := by simp; omega
              have hne2 : ((j : Int) - 1 != (i : Int)) = false := by simp; omega
              have HNX2 := Lib.hid (show actsZ z A (k + 1) = Z by rw [HNX2.out]; unfold actZ; simp [hij])
              obtain ⟨Y, hY⟩ : ∃ Y, Y = Z := ⟨_, rfl⟩
              rw [← hY] at HNX2 hz hr
              have HY : Hid (OKZ Y) := by rw [← HNX2.out]; exact HOK.out (k + 1)
              have HYN : Hid (Y.n = n) := by rw [← HNX2.out]; exact HN.out (k + 1)
              clear hY
              go_wp2_with fail
              have hfr : ∀ W : World, Calls Try.prog 30 #[.agg (zc n Y.none Y.D)] W (Ret W (.agg (zc n Y.none Y.D))) := fun W => by have := from_any Y W; rw [Zn.c, HYN.out] at this; exact this
              have hrt : ∀ W : World, Calls Try.prog 44 #[.agg (zc n Y.none Y.D)] W (Ret W (.bool true)) := fun W => by have := right_ok HY.out W; rw [Zn.c, HYN.out] at this; exact this
              have HFR := Lib.hid hfr
              have HRT := Lib.hid hrt
              clear hfr hrt
              refine head0 8 (by kernel_rfl) (by kernel_rfl) (by kernel_rfl) (by kernel_rfl) ?_
              simp only [List.take_succ_cons, List.take_zero, List.drop_succ_cons, List.drop_zero]
              refine lex_load_z rfl _ rfl rfl hz ?_
              simp only [Act.put, List.setIfInBounds_toArray, List.set_cons_succ, List.set_cons_zero]
              (refine lex_call rfl rfl _ _ (fun W => ?_) _ (fun W hW => HFR.out W) ?_; focus (go_simp; done))
              simp only [Act.put, List.setIfInBounds_toArray, List.set_cons_succ, List.set_cons_zero]
              refine lex_load_r rfl _ rfl rfl hr ?_
              simp only [Act.put, List.setIfInBounds_toArray, List.set_cons_succ, List.set_cons_zero]
              (refine lex_pure rfl rfl ?_ (fun W => ?_) ?_; rotate_left; focus (go_simp; try rfl))
              simp only [Act.put, List.setIfInBounds_toArray, List.set_cons_succ, List.set_cons_zero]
              (refine lex_pure rfl rfl ?_ (fun W => ?_) ?_; rotate_left; focus (go_simp; try rfl))
              simp only [Act.put, List.setIfInBounds_toArray, List.set_cons_succ, List.set_cons_zero]
              refine lex_load_z rfl _ rfl rfl hz ?_
              simp only [Act.put, List.setIfInBounds_toArray, List.set_cons_succ, List.set_cons_zero]
              (refine lex_call rfl rfl _ _ (fun W => ?_) _ (fun W hW => HRT.out W) ?_; focus (go_simp; done))
              simp only [Act.put, List.setIfInBounds_toArray, List.set_cons_succ, List.set_cons_zero]
              (refine lex_pure rfl rfl ?_ (fun W => ?_) ?_; rotate_left; focus (go_simp; try rfl))
              simp only [Act.put, List.setIfInBounds_toArray, List.set_cons_succ, List.set_cons_zero]
              intro w3 hb3
              have hz := Lib.hid (hz.on hb3)
              have hr := Lib.hid (hr.on hb3)
              have hu := Lib.hid (hu.on hb3)
              have hv := Lib.hid (hv.on hb3)
              have hb := Lib.hid (hb.trans (hb3.mono hb.size))
              rw [← HNX2.out] at hz hr
              clear HFR HRT hb3
              go_wp2
              go_roundw
              case rel => exact ⟨k + 1, by omega, by omega, by go_num, hb, hz, hr, hu, hv⟩
              case measure => simp [intOf]; omega
            · have hne : ((i : Int) != (j : Int) - 1) = true := by simp; omega
              have hne2 : ((j : Int) - 1 != (i : Int)) = true := by simp; omega
              have HNX2 := Lib.hid (show actsZ z A (k + 1) = boundZ Z ((j : Int) - 1) (i : Int) d by rw [HNX2.out]; unfold actZ; simp [hij])
              go_wp2_with fail
              obtain ⟨Y, hY⟩ : ∃ Y, Y = boundZ Z ((j : Int) - 1) (i : Int) d := ⟨_, rfl⟩
              have HB1 := Lib.hid (show ∀ W : World, Calls Try.prog 22 #[.agg (zc n Z.none Z.D), .int .i64 ((j : Int) - 1), .int .i64 ((i : Int)), .int .i64 (d)] W (Ret W (.agg (boundZ Z ((j : Int) - 1) (i : Int) d).c)) from fun W => by have := bound_any Z HOKK.out.n ((j : Int) - 1) ((i : Int)) d W; rw [Zn.c, HNK.out] at this; exact this)
              have HB2 := Lib.hid (show ∀ W : World, Calls Try.prog 29 #[.agg (zc n Z.none Z.D), .int .i64 ((j : Int) - 1), .int .i64 ((i : Int)), .int .i64 (d)] W (Ret W (.agg (boundZ Z ((j : Int) - 1) (i : Int) d).c)) from fun W => by have := rbound_any HOKK.out (i := j) (j := i + 1) (by rw [HNK.out]; omega) (by rw [HNK.out]; omega) (by omega) (d := d) (by omega) W; rw [Zn.c, HNK.out] at this; simpa only [Int.natCast_succ, Int.add_sub_cancel] using this)
              rw [← hY] at HNX2 HB1 HB2
              have HY : Hid (OKZ Y) := by rw [← HNX2.out]; exact HOK.out (k + 1)
              have HYN : Hid (Y.n = n) := by rw [← HNX2.out]; exact HN.out (k + 1)
              rw [Zn.c, HYN.out] at HB1 HB2
              clear hY
              refine head0 10 (by kernel_rfl) (by kernel_rfl) (by kernel_rfl) (by kernel_rfl) ?_
              simp only [List.take_succ_cons, List.take_zero, List.drop_succ_cons, List.drop_zero]
              refine lex_load_z rfl _ rfl rfl hz ?_
              simp only [Act.put, List.setIfInBounds_toArray, List.set_cons_succ, List.set_cons_zero]
              (refine lex_pure rfl rfl ?_ (fun W => ?_) ?_; rotate_left; focus (go_simp; try rfl))
              simp only [Act.put, List.setIfInBounds_toArray, List.set_cons_succ, List.set_cons_zero]
              (refine lex_pure rfl rfl ?_ (fun W => ?_) ?_; rotate_left; focus (go_simp; try rfl))
              simp only [Act.put, List.setIfInBounds_toArray, List.set_cons_succ, List.set_cons_zero]
              (refine lex_pure rfl rfl ?_ (fun W => ?_) ?_; rotate_left; focus (go_simp; try rfl))
              simp only [Act.put, List.setIfInBounds_toArray, List.set_cons_succ, List.set_cons_zero]
              (refine lex_call rfl rfl _ _ (fun W => ?_) _ (fun W hW => HB1.out W) ?_; focus (go_simp; done))
              simp only [Act.put, List.setIfInBounds_toArray, List.set_cons_succ, List.set_cons_zero]
              refine lex_load_r rfl _ rfl rfl hr ?_
              simp only [Act.put, List.setIfInBounds_toArray, List.set_cons_succ, List.set_cons_zero]
              (refine lex_pure rfl rfl ?_ (fun W => ?_) ?_; rotate_left; focus (go_simp; try rfl))
              simp only [Act.put, List.setIfInBounds_toArray, List.set_cons_succ, List.set_cons_zero]
              (refine lex_pure rfl rfl ?_ (fun W => ?_) ?_; rotate_left; focus (go_simp; try rfl))
              simp only [Act.put, List.setIfInBounds_toArray, List.set_cons_succ, List.set_cons_zero]
              (refine lex_pure rfl rfl ?_ (fun W => ?_) ?_; rotate_left; focus (go_simp; try rfl))
              simp only [Act.put, List.setIfInBounds_toArray, List.set_cons_succ, List.set_cons_zero]
              (refine lex_call rfl rfl _ _ (fun W => ?_) _ (fun W hW => HB2.out W) ?_; focus (go_simp; done))
              simp only [Act.put, List.setIfInBounds_toArray, List.set_cons_succ, List.set_cons_zero]
              intro w2 hb2
              have hz := hz.on hb2
              have hr := hr.on hb2
              have hu := hu.on hb2
              have hv := hv.on hb2
              have hb := hb.trans (hb2.mono hb.size)
              clear hb2 HB1 HB2
              go_wp2_with (first
                | (refine store_z rfl _ _ rfl rfl rfl hz ?_; intro W7 hz7 hg7 hs7; have hr := hr.only hg7 (by omega); have hu := hu.only hg7 (by omega); have hv := hv.only hg7 (by omega); have hb := below_only hb hg7 hb.size (by omega); clear hz; have hz := hz7; clear hg7 hz7 hs7)
                | (refine store_r rfl _ _ rfl rfl rfl hr ?_; intro W8 hr8 hg8 hs8; have hz := hz.only hg8 (by omega); have hu := hu.only hg8 (by omega); have hv := hv.only hg8 (by omega); have hb := below_only hb hg8 hb.size (by omega); clear hr; have hr := hr8; clear hg8 hr8 hs8)
                | fail)
              have hfr : ∀ W : World, Calls Try.prog 30 #[.agg (zc n Y.none Y.D)] W (Ret W (.agg (zc n Y.none Y.D))) := fun W => by have := from_any Y W; rw [Zn.c, HYN.out] at this; exact this
              have hrt : ∀ W : World, Calls Try.prog 44 #[.agg (zc n Y.none Y.D)] W (Ret W (.bool true)) := fun W => by have := right_ok HY.out W; rw [Zn.c, HYN.out] at this; exact this
              have HFR := Lib.hid hfr
              have HRT := Lib.hid hrt
              clear hfr hrt
              refine head0 8 (by kernel_rfl) (by kernel_rfl) (by kernel_rfl) (by kernel_rfl) ?_
              simp only [List.take_succ_cons, List.take_zero, List.drop_succ_cons, List.drop_zero]
              refine lex_load_z rfl _ rfl rfl hz ?_
              simp only [Act.put, List.setIfInBounds_toArray, List.set_cons_succ, List.set_cons_zero]
              (refine lex_call rfl rfl _ _ (fun W => ?_) _ (fun W hW => HFR.out W) ?_; focus (go_simp; done))
              simp only [Act.put, List.setIfInBounds_toArray, List.set_cons_succ, List.set_cons_zero]
              refine lex_load_r rfl _ rfl rfl hr ?_
              simp only [Act.put, List.setIfInBounds_toArray, List.set_cons_succ, List.set_cons_zero]
              (refine lex_pure rfl rfl ?_ (fun W => ?_) ?_; rotate_left; focus (go_simp; try rfl))
              simp only [Act.put, List.setIfInBounds_toArray, List.set_cons_succ, List.set_cons_zero]
              (refine lex_pure rfl rfl ?_ (fun W => ?_) ?_; rotate_left; focus (go_simp; try rfl))
              simp only [Act.put, List.setIfInBounds_toArray, List.set_cons_succ, List.set_cons_zero]
              refine lex_load_z rfl _ rfl rfl hz ?_
              simp only [Act.put, List.setIfInBounds_toArray, List.set_cons_succ, List.set_cons_zero]
              (refine lex_call rfl rfl _ _ (fun W => ?_) _ (fun W hW => HRT.out W) ?_; focus (go_simp; done))
              simp only [Act.put, List.setIfInBounds_toArray, List.set_cons_succ, List.set_cons_zero]
              (refine lex_pure rfl rfl ?_ (fun W => ?_) ?_; rotate_left; focus (go_simp; try rfl))
              simp only [Act.put, List.setIfInBounds_toArray, List.set_cons_succ, List.set_cons_zero]
              intro w3 hb3
              have hz := Lib.hid (hz.on hb3)
              have hr := Lib.hid (hr.on hb3)
              have hu := Lib.hid (hu.on hb3)
              have hv := Lib.hid (hv.on hb3)
              have hb := Lib.hid (hb.trans (hb3.mono hb.size))
              rw [← HNX2.out] at hz hr
              clear HFR HRT hb3
              go_wp2
              go_roundw
              case rel => exact ⟨k + 1, by omega, by omega, by go_num, hb, hz, hr, hu, hv⟩
              case measure => simp [intOf]; omega
          · have hcc : c = 2 := hc2
            subst hcc
            have HNX2 := Lib.hid (show actsZ z A (k + 1) = forgetZ Z (i : Int) by rw [HNX2.out]; unfold actZ; simp)
            go_wp2_with fail
            obtain ⟨Y, hY⟩ : ∃ Y, Y = forgetZ Z (i : Int) := ⟨_, rfl⟩
            have HB1 := Lib.hid (show ∀ W : World, Calls Try.prog 33 #[.agg (zc n Z.none Z.D), .int .i64 (i : Int)] W (Ret W (.agg (forgetZ Z (i : Int)).c)) from fun W => by have := forget_any Z HOKK.out.n (i : Int) W; rw [Zn.c, HNK.out] at this; exact this)
            have HB2 := Lib.hid (show ∀ W : World, Calls Try.prog 83 #[.agg (zc n Z.none Z.D), .int .i64 (i : Int)] W (Ret W (.agg (forgetZ Z (i : Int)).c)) from fun W => by have := rforget_any HOKK.out (i := i) (by rw [HNK.out]; omega) W; rw [Zn.c, HNK.out] at this; exact this)
            rw [← hY] at HNX2 HB1 HB2
            have HY : Hid (OKZ Y) := by rw [← HNX2.out]; exact HOK.out (k + 1)
            have HYN : Hid (Y.n = n) := by rw [← HNX2.out]; exact HN.out (k + 1)
            rw [Zn.c, HYN.out] at HB1 HB2
            clear hY
            refine head0 6 (by kernel_rfl) (by kernel_rfl) (by kernel_rfl) (by kernel_rfl) ?_
            simp only [List.take_succ_cons, List.take_zero, List.drop_succ_cons, List.drop_zero]
            refine lex_load_z rfl _ rfl rfl hz ?_
            simp only [Act.put, List.setIfInBounds_toArray, List.set_cons_succ, List.set_cons_zero]
            (refine lex_pure rfl rfl ?_ (fun W => ?_) ?_; rotate_left; focus (go_simp; try rfl))
            simp only [Act.put, List.setIfInBounds_toArray, List.set_cons_succ, List.set_cons_zero]
            (refine lex_call rfl rfl _ _ (fun W => ?_) _ (fun W hW => HB1.out W) ?_; focus (go_simp; done))
            simp only [Act.put, List.setIfInBounds_toArray, List.set_cons_succ, List.set_cons_zero]
            refine lex_load_r rfl _ rfl rfl hr ?_
            simp only [Act.put, List.setIfInBounds_toArray, List.set_cons_succ, List.set_cons_zero]
            (refine lex_pure rfl rfl ?_ (fun W => ?_) ?_; rotate_left; focus (go_simp; try rfl))
            simp only [Act.put, List.setIfInBounds_toArray, List.set_cons_succ, List.set_cons_zero]
            (refine lex_call rfl rfl _ _ (fun W => ?_) _ (fun W hW => HB2.out W) ?_; focus (go_simp; done))
            simp only [Act.put, List.setIfInBounds_toArray, List.set_cons_succ, List.set_cons_zero]
            intro w2 hb2
            have hz := hz.on hb2
            have hr := hr.on hb2
            have hu := hu.on hb2
            have hv := hv.on hb2
            have hb := hb.trans (hb2.mono hb.size)
            clear hb2 HB1 HB2
            go_wp2_with (first
              | (refine store_z rfl _ _ rfl rfl rfl hz ?_; intro W7 hz7 hg7 hs7; have hr := hr.only hg7 (by omega); have hu := hu.only hg7 (by omega); have hv := hv.only hg7 (by omega); have hb := below_only hb hg7 hb.size (by omega); clear hz; have hz := hz7; clear hg7 hz7 hs7)
              | (refine store_r rfl _ _ rfl rfl rfl hr ?_; intro W8 hr8 hg8 hs8; have hz := hz.only hg8 (by omega); have hu := hu.only hg8 (by omega); have hv := hv.only hg8 (by omega); have hb := below_only hb hg8 hb.size (by omega); clear hr; have hr := hr8; clear hg8 hr8 hs8)
              | fail)
            have hfr : ∀ W : World, Calls Try.prog 30 #[.agg (zc n Y.none Y.D)] W (Ret W (.agg (zc n Y.none Y.D))) := fun W => by have := from_any Y W; rw [Zn.c, HYN.out] at this; exact this
            have hrt : ∀ W : World, Calls Try.prog 44 #[.agg (zc n Y.none Y.D)] W (Ret W (.bool true)) := fun W => by have := right_ok HY.out W; rw [Zn.c, HYN.out] at this; exact this
            have HFR := Lib.hid hfr
            have HRT := Lib.hid hrt
            clear hfr hrt
            refine head0 8 (by kernel_rfl) (by kernel_rfl) (by kernel_rfl) (by kernel_rfl) ?_
            simp only [List.take_succ_cons, List.take_zero, List.drop_succ_cons, List.drop_zero]
            refine lex_load_z rfl _ rfl rfl hz ?_
            simp only [Act.put, List.setIfInBounds_toArray, List.set_cons_succ, List.set_cons_zero]
            (refine lex_call rfl rfl _ _ (fun W => ?_) _ (fun W hW => HFR.out W) ?_; focus (go_simp; done))
            simp only [Act.put, List.setIfInBounds_toArray, List.set_cons_succ, List.set_cons_zero]
            refine lex_load_r rfl _ rfl rfl hr ?_
            simp only [Act.put, List.setIfInBounds_toArray, List.set_cons_succ, List.set_cons_zero]
            (refine lex_pure rfl rfl ?_ (fun W => ?_) ?_; rotate_left; focus (go_simp; try rfl))
            simp only [Act.put, List.setIfInBounds_toArray, List.set_cons_succ, List.set_cons_zero]
            (refine lex_pure rfl rfl ?_ (fun W => ?_) ?_; rotate_left; focus (go_simp; try rfl))
            simp only [Act.put, List.setIfInBounds_toArray, List.set_cons_succ, List.set_cons_zero]
            refine lex_load_z rfl _ rfl rfl hz ?_
            simp only [Act.put, List.setIfInBounds_toArray, List.set_cons_succ, List.set_cons_zero]
            (refine lex_call rfl rfl _ _ (fun W => ?_) _ (fun W hW => HRT.out W) ?_; focus (go_simp; done))
            simp only [Act.put, List.setIfInBounds_toArray, List.set_cons_succ, List.set_cons_zero]
            (refine lex_pure rfl rfl ?_ (fun W => ?_) ?_; rotate_left; focus (go_simp; try rfl))
            simp only [Act.put, List.setIfInBounds_toArray, List.set_cons_succ, List.set_cons_zero]
            intro w3 hb3
            have hz := Lib.hid (hz.on hb3)
            have hr := Lib.hid (hr.on hb3)
            have hu := Lib.hid (hu.on hb3)
            have hv := Lib.hid (hv.on hb3)
            have hb := Lib.hid (hb.trans (hb3.mono hb.size))
            rw [← HNX2.out] at hz hr
            clear HFR HRT hb3
            go_wp2
            go_roundw
            case rel => exact ⟨k + 1, by omega, by omega, by go_num, hb, hz, hr, hu, hv⟩
            case measure => simp [intOf]; omega
          · have hcc : c = 3 := hc3
            subst hcc
            have HNX2 := Lib.hid (show actsZ z A (k + 1) = copyZ Z (i : Int) ((j : Int) - 1) d by rw [HNX2.out]; unfold actZ; simp)
            go_wp2_with fail
            obtain ⟨Y, hY⟩ : ∃ Y, Y = copyZ Z (i : Int) ((j : Int) - 1) d := ⟨_, rfl⟩
            have HB1 := Lib.hid (show ∀ W : World, Calls Try.prog 23 #[.agg (zc n Z.none Z.D), .int .i64 (i : Int), .int .i64 ((j : Int) - 1), .int .i64 d] W (Ret W (.agg (copyZ Z (i : Int) ((j : Int) - 1) d).c)) from fun W => by have := copy_any Z HOKK.out.n (i : Int) ((j : Int) - 1) d W; rw [Zn.c, HNK.out] at this; exact this)
            have HB2 := Lib.hid (show ∀ W : World, Calls Try.prog 84 #[.agg (zc n Z.none Z.D), .int .i64 (i : Int), .int .i64 ((j : Int) - 1), .int .i64 d] W (Ret W (.agg (copyZ Z (i : Int) ((j : Int) - 1) d).c)) from fun W => by have := rcopy_any HOKK.out (i := i) (j := j) (by rw [HNK.out]; omega) (by rw [HNK.out]; omega) (d := d) (by omega) W; rw [Zn.c, HNK.out] at this; exact this)
            rw [← hY] at HNX2 HB1 HB2
            have HY : Hid (OKZ Y) := by rw [← HNX2.out]; exact HOK.out (k + 1)
            have HYN : Hid (Y.n = n) := by rw [← HNX2.out]; exact HN.out (k + 1)
            rw [Zn.c, HYN.out] at HB1 HB2
            clear hY
            refine head0 10 (by kernel_rfl) (by kernel_rfl) (by kernel_rfl) (by kernel_rfl) ?_
            simp only [List.take_succ_cons, List.take_zero, List.drop_succ_cons, List.drop_zero]
            refine lex_load_z rfl _ rfl rfl hz ?_
            simp only [Act.put, List.setIfInBounds_toArray, List.set_cons_succ, List.set_cons_zero]
            (refine lex_pure rfl rfl ?_ (fun W => ?_) ?_; rotate_left; focus (go_simp; try rfl))
            simp only [Act.put, List.setIfInBounds_toArray, List.set_cons_succ, List.set_cons_zero]
            (refine lex_pure rfl rfl ?_ (fun W => ?_) ?_; rotate_left; focus (go_simp; try rfl))
            simp only [Act.put, List.setIfInBounds_toArray, List.set_cons_succ, List.set_cons_zero]
            (refine lex_pure rfl rfl ?_ (fun W => ?_) ?_; rotate_left; focus (go_simp; try rfl))
            simp only [Act.put, List.setIfInBounds_toArray, List.set_cons_succ, List.set_cons_zero]
            (refine lex_call rfl rfl _ _ (fun W => ?_) _ (fun W hW => HB1.out W) ?_; focus (go_simp; done))
            simp only [Act.put, List.setIfInBounds_toArray, List.set_cons_succ, List.set_cons_zero]
            refine lex_load_r rfl _ rfl rfl hr ?_
            simp only [Act.put, List.setIfInBounds_toArray, List.set_cons_succ, List.set_cons_zero]
            (refine lex_pure rfl rfl ?_ (fun W => ?_) ?_; rotate_left; focus (go_simp; try rfl))
            simp only [Act.put, List.setIfInBounds_toArray, List.set_cons_succ, List.set_cons_zero]
            (refine lex_pure rfl rfl ?_ (fun W => ?_) ?_; rotate_left; focus (go_simp; try rfl))
            simp only [Act.put, List.setIfInBounds_toArray, List.set_cons_succ, List.set_cons_zero]
            (refine lex_pure rfl rfl ?_ (fun W => ?_) ?_; rotate_left; focus (go_simp; try rfl))
            simp only [Act.put, List.setIfInBounds_toArray, List.set_cons_succ, List.set_cons_zero]
            (refine lex_call rfl rfl _ _ (fun W => ?_) _ (fun W hW => HB2.out W) ?_; focus (go_simp; done))
            simp only [Act.put, List.setIfInBounds_toArray, List.set_cons_succ, List.set_cons_zero]
            intro w2 hb2
            have hz := hz.on hb2
            have hr := hr.on hb2
            have hu := hu.on hb2
            have hv := hv.on hb2
            have hb := hb.trans (hb2.mono hb.size)
            clear hb2 HB1 HB2
            go_wp2_with (first
              | (refine store_z rfl _ _ rfl rfl rfl hz ?_; intro W7 hz7 hg7 hs7; have hr := hr.only hg7 (by omega); have hu := hu.only hg7 (by omega); have hv := hv.only hg7 (by omega); have hb := below_only hb hg7 hb.size (by omega); clear hz; have hz := hz7; clear hg7 hz7 hs7)
              | (refine store_r rfl _ _ rfl rfl rfl hr ?_; intro W8 hr8 hg8 hs8; have hz := hz.only hg8 (by omega); have hu := hu.only hg8 (by omega); have hv := hv.only hg8 (by omega); have hb := below_only hb hg8 hb.size (by omega); clear hr; have hr := hr8; clear hg8 hr8 hs8)
              | fail)
            have hfr : ∀ W : World, Calls Try.prog 30 #[.agg (zc n Y.none Y.D)] W (Ret W (.agg (zc n Y.none Y.D))) := fun W => by have := from_any Y W; rw [Zn.c, HYN.out] at this; exact this
            have hrt : ∀ W : World, Calls Try.prog 44 #[.agg (zc n Y.none Y.D)] W (Ret W (.bool true)) := fun W => by have := right_ok HY.out W; rw [Zn.c, HYN.out] at this; exact this
            have HFR := Lib.hid hfr
            have HRT := Lib.hid hrt
            clear hfr hrt
            refine head0 8 (by kernel_rfl) (by kernel_rfl) (by kernel_rfl) (by kernel_rfl) ?_
            simp only [List.take_succ_cons, List.take_zero, List.drop_succ_cons, List.drop_zero]
            refine lex_load_z rfl _ rfl rfl hz ?_
            simp only [Act.put, List.setIfInBounds_toArray, List.set_cons_succ, List.set_cons_zero]
            (refine lex_call rfl rfl _ _ (fun W => ?_) _ (fun W hW => HFR.out W) ?_; focus (go_simp; done))
            simp only [Act.put, List.setIfInBounds_toArray, List.set_cons_succ, List.set_cons_zero]
            refine lex_load_r rfl _ rfl rfl hr ?_
            simp only [Act.put, List.setIfInBounds_toArray, List.set_cons_succ, List.set_cons_zero]
            (refine lex_pure rfl rfl ?_ (fun W => ?_) ?_; rotate_left; focus (go_simp; try rfl))
            simp only [Act.put, List.setIfInBounds_toArray, List.set_cons_succ, List.set_cons_zero]
            (refine lex_pure rfl rfl ?_ (fun W => ?_) ?_; rotate_left; focus (go_simp; try rfl))
            simp only [Act.put, List.setIfInBounds_toArray, List.set_cons_succ, List.set_cons_zero]
            refine lex_load_z rfl _ rfl rfl hz ?_
            simp only [Act.put, List.setIfInBounds_toArray, List.set_cons_succ, List.set_cons_zero]
            (refine lex_call rfl rfl _ _ (fun W => ?_) _ (fun W hW => HRT.out W) ?_; focus (go_simp; done))
            simp only [Act.put, List.setIfInBounds_toArray, List.set_cons_succ, List.set_cons_zero]
            (refine lex_pure rfl rfl ?_ (fun W => ?_) ?_; rotate_left; focus (go_simp; try rfl))
            simp only [Act.put, List.setIfInBounds_toArray, List.set_cons_succ, List.set_cons_zero]
            intro w3 hb3
            have hz := Lib.hid (hz.on hb3)
            have hr := Lib.hid (hr.on hb3)
            have hu := Lib.hid (hu.on hb3)
            have hv := Lib.hid (hv.on hb3)
            have hb := Lib.hid (hb.trans (hb3.mono hb.size))
            rw [← HNX2.out] at hz hr
            clear HFR HRT hb3
            go_wp2
            go_roundw
            case rel => exact ⟨k + 1, by omega, by omega, by go_num, hb, hz, hr, hu, hv⟩
            case measure => simp [intOf]; omega
          · have hcc : c = 4 := hc4
            subst hcc
            have HNX2 := Lib.hid (show actsZ z A (k + 1) = copyZ Z (i : Int) ((j : Int) - 1) d by rw [HNX2.out]; unfold actZ; simp)
            go_wp2_with fail
            obtain ⟨Y, hY⟩ : ∃ Y, Y = copyZ Z (i : Int) ((j : Int) - 1) d := ⟨_, rfl⟩
            have HB1 := Lib.hid (show ∀ W : World, Calls Try.prog 23 #[.agg (zc n Z.none Z.D), .int .i64 (i : Int), .int .i64 ((j : Int) - 1), .int .i64 d] W (Ret W (.agg (copyZ Z (i : Int) ((j : Int) - 1) d).c)) from fun W => by have := copy_any Z HOKK.out.n (i : Int) ((j : Int) - 1) d W; rw [Zn.c, HNK.out] at this; exact this)
            have HB2 := Lib.hid (show ∀ W : World, Calls Try.prog 84 #[.agg (zc n Z.none Z.D), .int .i64 (i : Int), .int .i64 ((j : Int) - 1), .int .i64 d] W (Ret W (.agg (copyZ Z (i : Int) ((j : Int) - 1) d).c)) from fun W => by have := rcopy_any HOKK.out (i := i) (j := j) (by rw [HNK.out]; omega) (by rw [HNK.out]; omega) (d := d) (by omega) W; rw [Zn.c, HNK.out] at this; exact this)
            rw [← hY] at HNX2 HB1 HB2
            have HY : Hid (OKZ Y) := by rw [← HNX2.out]; exact HOK.out (k + 1)
            have HYN : Hid (Y.n = n) := by rw [← HNX2.out]; exact HN.out (k + 1)
            rw [Zn.c, HYN.out] at HB1 HB2
            clear hY
            refine head0 10 (by kernel_rfl) (by kernel_rfl) (by kernel_rfl) (by kernel_rfl) ?_
            simp only [List.take_succ_cons, List.take_zero, List.drop_succ_cons, List.drop_zero]
            refine lex_load_z rfl _ rfl rfl hz ?_
            simp only [Act.put, List.setIfInBounds_toArray, List.set_cons_succ, List.set_cons_zero]
            (refine lex_pure rfl rfl ?_ (fun W => ?_) ?_; rotate_left; focus (go_simp; try rfl))
            simp only [Act.put, List.setIfInBounds_toArray, List.set_cons_succ, List.set_cons_zero]
            (refine lex_pure rfl rfl ?_ (fun W => ?_) ?_; rotate_left; focus (go_simp; try rfl))
            simp only [Act.put, List.setIfInBounds_toArray, List.set_cons_succ, List.set_cons_zero]
            (refine lex_pure rfl rfl ?_ (fun W => ?_) ?_; rotate_left; focus (go_simp; try rfl))
            simp only [Act.put, List.setIfInBounds_toArray, List.set_cons_succ, List.set_cons_zero]
            (refine lex_call rfl rfl _ _ (fun W => ?_) _ (fun W hW => HB1.out W) ?_; focus (go_simp; done))
            simp only [Act.put, List.setIfInBounds_toArray, List.set_cons_succ, List.set_cons_zero]
            refine lex_load_r rfl _ rfl rfl hr ?_
            simp only [Act.put, List.setIfInBounds_toArray, List.set_cons_succ, List.set_cons_zero]
            (refine lex_pure rfl rfl ?_ (fun W => ?_) ?_; rotate_left; focus (go_simp; try rfl))
            simp only [Act.put, List.setIfInBounds_toArray, List.set_cons_succ, List.set_cons_zero]
            (refine lex_pure rfl rfl ?_ (fun W => ?_) ?_; rotate_left; focus (go_simp; try rfl))
            simp only [Act.put, List.setIfInBounds_toArray, List.set_cons_succ, List.set_cons_zero]
            (refine lex_pure rfl rfl ?_ (fun W => ?_) ?_; rotate_left; focus (go_simp; try rfl))
            simp only [Act.put, List.setIfInBounds_toArray, List.set_cons_succ, List.set_cons_zero]
            (refine lex_call rfl rfl _ _ (fun W => ?_) _ (fun W hW => HB2.out W) ?_; focus (go_simp; done))
            simp only [Act.put, List.setIfInBounds_toArray, List.set_cons_succ, List.set_cons_zero]
            intro w2 hb2
            have hz := hz.on hb2
            have hr := hr.on hb2
            have hu := hu.on hb2
            have hv := hv.on hb2
            have hb := hb.trans (hb2.mono hb.size)
            clear hb2 HB1 HB2
            go_wp2_with (first
              | (refine store_z rfl _ _ rfl rfl rfl hz ?_; intro W7 hz7 hg7 hs7; have hr := hr.only hg7 (by omega); have hu := hu.only hg7 (by omega); have hv := hv.only hg7 (by omega); have hb := below_only hb hg7 hb.size (by omega); clear hz; have hz := hz7; clear hg7 hz7 hs7)
              | (refine store_r rfl _ _ rfl rfl rfl hr ?_; intro W8 hr8 hg8 hs8; have hz := hz.only hg8 (by omega); have hu := hu.only hg8 (by omega); have hv := hv.only hg8 (by omega); have hb := below_only hb hg8 hb.size (by omega); clear hr; have hr := hr8; clear hg8 hr8 hs8)
              | fail)
            have hfr : ∀ W : World, Calls Try.prog 30 #[.agg (zc n Y.none Y.D)] W (Ret W (.agg (zc n Y.none Y.D))) := fun W => by have := from_any Y W; rw [Zn.c, HYN.out] at this; exact this
            have hrt : ∀ W : World, Calls Try.prog 44 #[.agg (zc n Y.none Y.D)] W (Ret W (.bool true)) := fun W => by have := right_ok HY.out W; rw [Zn.c, HYN.out] at this; exact this
            have HFR := Lib.hid hfr
            have HRT := Lib.hid hrt
            clear hfr hrt
            refine head0 8 (by kernel_rfl) (by kernel_rfl) (by kernel_rfl) (by kernel_rfl) ?_
            simp only [List.take_succ_cons, List.take_zero, List.drop_succ_cons, List.drop_zero]
            refine lex_load_z rfl _ rfl rfl hz ?_
            simp only [Act.put, List.setIfInBounds_toArray, List.set_cons_succ, List.set_cons_zero]
            (refine lex_call rfl rfl _ _ (fun W => ?_) _ (fun W hW => HFR.out W) ?_; focus (go_simp; done))
            simp only [Act.put, List.setIfInBounds_toArray, List.set_cons_succ, List.set_cons_zero]
            refine lex_load_r rfl _ rfl rfl hr ?_
            simp only [Act.put, List.setIfInBounds_toArray, List.set_cons_succ, List.set_cons_zero]
            (refine lex_pure rfl rfl ?_ (fun W => ?_) ?_; rotate_left; focus (go_simp; try rfl))
            simp only [Act.put, List.setIfInBounds_toArray, List.set_cons_succ, List.set_cons_zero]
            (refine lex_pure rfl rfl ?_ (fun W => ?_) ?_; rotate_left; focus (go_simp; try rfl))
            simp only [Act.put, List.setIfInBounds_toArray, List.set_cons_succ, List.set_cons_zero]
            refine lex_load_z rfl _ rfl rfl hz ?_
            simp only [Act.put, List.setIfInBounds_toArray, List.set_cons_succ, List.set_cons_zero]
            (refine lex_call rfl rfl _ _ (fun W => ?_) _ (fun W hW => HRT.out W) ?_; focus (go_simp; done))
            simp only [Act.put, List.setIfInBounds_toArray, List.set_cons_succ, List.set_cons_zero]
            (refine lex_pure rfl rfl ?_ (fun W => ?_) ?_; rotate_left; focus (go_simp; try rfl))
            simp only [Act.put, List.setIfInBounds_toArray, List.set_cons_succ, List.set_cons_zero]
            intro w3 hb3
            have hz := Lib.hid (hz.on hb3)
            have hr := Lib.hid (hr.on hb3)
            have hu := Lib.hid (hu.on hb3)
            have hv := Lib.hid (hv.on hb3)
            have hb := Lib.hid (hb.trans (hb3.mono hb.size))
            rw [← HNX2.out] at hz hr
            clear HFR HRT hb3
            go_wp2
            go_roundw
            case rel => exact ⟨k + 1, by omega, by omega, by go_num, hb, hz, hr, hu, hv⟩
            case measure => simp [intOf]; omega
      · have HFIN : Hid (actsZ z A (min len 20) = Z) := by rw [HZZ.out, show min len 20 = k by omega]; exact rfl
        have hnZ : Z.n = n := HNK.out
        have e0 : ¬ (k : Int) < 20 := by omega
        go_wp2_with fail
        refine wp_region_any (by kernel_rfl) ?_
        have hz := hz.drew
        have hr := hr.drew
        have hu := hu.drew
        have hv := hv.drew
        have hb := hb.drew
        refine wpAny_two (i := 0) (j := 1) (by kernel_rfl) ?_ ?_
        · refine op_load_z rfl rfl _ rfl rfl hz ?_
          simp only [List.getElem_toArray, List.getElem_cons_zero, Act.put, List.setIfInBounds_toArray, List.set_cons_succ, List.set_cons_zero]
          refine wpAny_two (i := 1) (j := 2) (by kernel_rfl) ?_ ?_
          · refine op_load_r rfl rfl _ rfl rfl hr ?_
            simp only [List.getElem_toArray, List.getElem_cons_succ, List.getElem_cons_zero, Act.put, List.setIfInBounds_toArray, List.set_cons_succ, List.set_cons_zero]
            refine wpAny_one (i := 2) (by kernel_rfl) ?_
            refine op_store_z rfl rfl _ _ rfl rfl rfl hu ?_
            intro W7 hu7 hg7
            simp only [List.getElem_toArray, List.getElem_cons_succ, List.getElem_cons_zero, Act.put]
            have hv7 := hv.only hg7 (by omega)
            have hr7 := hr.only hg7 (by omega)
            have hb7 := below_only hb hg7 hb.size (by omega)
            refine wpAny_one (i := 3) (by kernel_rfl) ?_
            refine op_store_r rfl rfl _ _ rfl rfl rfl hv7 ?_
            intro W8 hv8 hg8
            simp only [List.getElem_toArray, List.getElem_cons_succ, List.getElem_cons_zero, Act.put]
            have hu8 := hu7.only hg8 (by omega)
            have hb8 := below_only hb7 hg8 hb7.size (by omega)
            refine wpAny_one (i := 4) (by kernel_rfl) ?_
            refine op_assign rfl rfl _ rfl ?_
            simp only [List.getElem_toArray, List.getElem_cons_succ, List.getElem_cons_zero, Act.put, List.setIfInBounds_toArray, List.set_cons_succ, List.set_cons_zero]
            refine wpAny_done (by kernel_rfl) ?_
            go_wp2_with fail
            exact bodyPost_ret (results_zr3 rfl rfl rfl hu8 hv8) rfl ⟨by rw [HFIN.out, Zn.c, hnZ]; rfl, hb8⟩

          · refine op_store_z rfl rfl _ _ rfl rfl rfl hu ?_
            intro W7 hu7 hg7
            simp only [List.getElem_toArray, List.getElem_cons_succ, List.getElem_cons_zero, Act.put]
            have hv7 := hv.only hg7 (by omega)
            have hr7 := hr.only hg7 (by omega)
            have hb7 := below_only hb hg7 hb.size (by omega)

            refine wpAny_one (i := 1) (by kernel_rfl) ?_
            refine op_load_r rfl rfl _ rfl rfl hr7 ?_
            simp only [List.getElem_toArray, List.getElem_cons_succ, List.getElem_cons_zero, Act.put, List.setIfInBounds_toArray, List.set_cons_succ, List.set_cons_zero]
            refine wpAny_one (i := 3) (by kernel_rfl) ?_
            refine op_store_r rfl rfl _ _ rfl rfl rfl hv7 ?_
            intro W8 hv8 hg8
            simp only [List.getElem_toArray, List.getElem_cons_succ, List.getElem_cons_zero, Act.put]
            have hu8 := hu7.only hg8 (by omega)
            have hb8 := below_only hb7 hg8 hb7.size (by omega)
            refine wpAny_one (i := 4) (by kernel_rfl) ?_
            refine op_assign rfl rfl _ rfl ?_
            simp only [List.getElem_toArray, List.getElem_cons_succ, List.getElem_cons_zero, Act.put, List.setIfInBounds_toArray, List.set_cons_succ, List.set_cons_zero]
            refine wpAny_done (by kernel_rfl) ?_
            go_wp2_with fail
            exact bodyPost_ret (results_zr3 rfl rfl rfl hu8 hv8) rfl ⟨by rw [HFIN.out, Zn.c, hnZ]; rfl, hb8⟩

        · refine op_load_r rfl rfl _ rfl rfl hr ?_
          simp only [List.getElem_toArray, List.getElem_cons_succ, List.getElem_cons_zero, Act.put, List.setIfInBounds_toArray, List.set_cons_succ, List.set_cons_zero]
          refine wpAny_one (i := 0) (by kernel_rfl) ?_
          refine op_load_z rfl rfl _ rfl rfl hz ?_
          simp only [List.getElem_toArray, List.getElem_cons_zero, Act.put, List.setIfInBounds_toArray, List.set_cons_succ, List.set_cons_zero]
          refine wpAny_one (i := 2) (by kernel_rfl) ?_
          refine op_store_z rfl rfl _ _ rfl rfl rfl hu ?_
          intro W7 hu7 hg7
          simp only [List.getElem_toArray, List.getElem_cons_succ, List.getElem_cons_zero, Act.put]
          have hv7 := hv.only hg7 (by omega)
          have hr7 := hr.only hg7 (by omega)
          have hb7 := below_only hb hg7 hb.size (by omega)
          refine wpAny_one (i := 3) (by kernel_rfl) ?_
          refine op_store_r rfl rfl _ _ rfl rfl rfl hv7 ?_
          intro W8 hv8 hg8
          simp only [List.getElem_toArray, List.getElem_cons_succ, List.getElem_cons_zero, Act.put]
          have hu8 := hu7.only hg8 (by omega)
          have hb8 := below_only hb7 hg8 hb7.size (by omega)
          refine wpAny_one (i := 4) (by kernel_rfl) ?_
          refine op_assign rfl rfl _ rfl ?_
          simp only [List.getElem_toArray, List.getElem_cons_succ, List.getElem_cons_zero, Act.put, List.setIfInBounds_toArray, List.set_cons_succ, List.set_cons_zero]
          refine wpAny_done (by kernel_rfl) ?_
          go_wp2_with fail
          exact bodyPost_ret (results_zr3 rfl rfl rfl hu8 hv8) rfl ⟨by rw [HFIN.out, Zn.c, hnZ]; rfl, hb8⟩
    · have HFIN : Hid (actsZ z A (min len 20) = Z) := by rw [HZZ.out, show min len 20 = k by omega]; exact rfl
      have hnZ : Z.n = n := HNK.out
      have e0 : ¬ (k : Int) < (len : Int) := by omega
      go_wp2_with fail
      refine wp_region_any (by kernel_rfl) ?_
      have hz := hz.drew
      have hr := hr.drew
      have hu := hu.drew
      have hv := hv.drew
      have hb := hb.drew
      refine wpAny_two (i := 0) (j := 1) (by kernel_rfl) ?_ ?_
      · refine op_load_z rfl rfl _ rfl rfl hz ?_
        simp only [List.getElem_toArray, List.getElem_cons_zero, Act.put, List.setIfInBounds_toArray, List.set_cons_succ, List.set_cons_zero]
        refine wpAny_two (i := 1) (j := 2) (by kernel_rfl) ?_ ?_
        · refine op_load_r rfl rfl _ rfl rfl hr ?_
          simp only [List.getElem_toArray, List.getElem_cons_succ, List.getElem_cons_zero, Act.put, List.setIfInBounds_toArray, List.set_cons_succ, List.set_cons_zero]
          refine wpAny_one (i := 2) (by kernel_rfl) ?_
          refine op_store_z rfl rfl _ _ rfl rfl rfl hu ?_
          intro W7 hu7 hg7
          simp only [List.getElem_toArray, List.getElem_cons_succ, List.getElem_cons_zero, Act.put]
          have hv7 := hv.only hg7 (by omega)
          have hr7 := hr.only hg7 (by omega)
          have hb7 := below_only hb hg7 hb.size (by omega)
          refine wpAny_one (i := 3) (by kernel_rfl) ?_
          refine op_store_r rfl rfl _ _ rfl rfl rfl hv7 ?_
          intro W8 hv8 hg8
          simp only [List.getElem_toArray, List.getElem_cons_succ, List.getElem_cons_zero, Act.put]
          have hu8 := hu7.only hg8 (by omega)
          have hb8 := below_only hb7 hg8 hb7.size (by omega)
          refine wpAny_one (i := 4) (by kernel_rfl) ?_
          refine op_assign rfl rfl _ rfl ?_
          simp only [List.getElem_toArray, List.getElem_cons_succ, List.getElem_cons_zero, Act.put, List.setIfInBounds_toArray, List.set_cons_succ, List.set_cons_zero]
          refine wpAny_done (by kernel_rfl) ?_
          go_wp2_with fail
          exact bodyPost_ret (results_zr3 rfl rfl rfl hu8 hv8) rfl ⟨by rw [HFIN.out, Zn.c, hnZ]; rfl, hb8⟩

        · refine op_store_z rfl rfl _ _ rfl rfl rfl hu ?_
          intro W7 hu7 hg7
          simp only [List.getElem_toArray, List.getElem_cons_succ, List.getElem_cons_zero, Act.put]
          have hv7 := hv.only hg7 (by omega)
          have hr7 := hr.only hg7 (by omega)
          have hb7 := below_only hb hg7 hb.size (by omega)

          refine wpAny_one (i := 1) (by kernel_rfl) ?_
          refine op_load_r rfl rfl _ rfl rfl hr7 ?_
          simp only [List.getElem_toArray, List.getElem_cons_succ, List.getElem_cons_zero, Act.put, List.setIfInBounds_toArray, List.set_cons_succ, List.set_cons_zero]
          refine wpAny_one (i := 3) (by kernel_rfl) ?_
          refine op_store_r rfl rfl _ _ rfl rfl rfl hv7 ?_
          intro W8 hv8 hg8
          simp only [List.getElem_toArray, List.getElem_cons_succ, List.getElem_cons_zero, Act.put]
          have hu8 := hu7.only hg8 (by omega)
          have hb8 := below_only hb7 hg8 hb7.size (by omega)
          refine wpAny_one (i := 4) (by kernel_rfl) ?_
          refine op_assign rfl rfl _ rfl ?_
          simp only [List.getElem_toArray, List.getElem_cons_succ, List.getElem_cons_zero, Act.put, List.setIfInBounds_toArray, List.set_cons_succ, List.set_cons_zero]
          refine wpAny_done (by kernel_rfl) ?_
          go_wp2_with fail
          exact bodyPost_ret (results_zr3 rfl rfl rfl hu8 hv8) rfl ⟨by rw [HFIN.out, Zn.c, hnZ]; rfl, hb8⟩

      · refine op_load_r rfl rfl _ rfl rfl hr ?_
        simp only [List.getElem_toArray, List.getElem_cons_succ, List.getElem_cons_zero, Act.put, List.setIfInBounds_toArray, List.set_cons_succ, List.set_cons_zero]
        refine wpAny_one (i := 0) (by kernel_rfl) ?_
        refine op_load_z rfl rfl _ rfl rfl hz ?_
        simp only [List.getElem_toArray, List.getElem_cons_zero, Act.put, List.setIfInBounds_toArray, List.set_cons_succ, List.set_cons_zero]
        refine wpAny_one (i := 2) (by kernel_rfl) ?_
        refine op_store_z rfl rfl _ _ rfl rfl rfl hu ?_
        intro W7 hu7 hg7
        simp only [List.getElem_toArray, List.getElem_cons_succ, List.getElem_cons_zero, Act.put]
        have hv7 := hv.only hg7 (by omega)
        have hr7 := hr.only hg7 (by omega)
        have hb7 := below_only hb hg7 hb.size (by omega)
        refine wpAny_one (i := 3) (by kernel_rfl) ?_
        refine op_store_r rfl rfl _ _ rfl rfl rfl hv7 ?_
        intro W8 hv8 hg8
        simp only [List.getElem_toArray, List.getElem_cons_succ, List.getElem_cons_zero, Act.put]
        have hu8 := hu7.only hg8 (by omega)
        have hb8 := below_only hb7 hg8 hb7.size (by omega)
        refine wpAny_one (i := 4) (by kernel_rfl) ?_
        refine op_assign rfl rfl _ rfl ?_
        simp only [List.getElem_toArray, List.getElem_cons_succ, List.getElem_cons_zero, Act.put, List.setIfInBounds_toArray, List.set_cons_succ, List.set_cons_zero]
        refine wpAny_done (by kernel_rfl) ?_
        go_wp2_with fail
        exact bodyPost_ret (results_zr3 rfl rfl rfl hu8 hv8) rfl ⟨by rw [HFIN.out, Zn.c, hnZ]; rfl, hb8⟩
end Go.Proofs.Ytgnkhncogfppgaa
