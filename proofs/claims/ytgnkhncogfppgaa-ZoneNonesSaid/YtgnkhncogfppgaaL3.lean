import Derived.Test.YtgnkhncogfppgaaK2
import Derived.Test.YtgnkhncogfppgaaM5
namespace Go.Proofs.Ytgnkhncogfppgaa
open Go.RowKit
/-- A slice of int32s holds these numbers. -/
def SlI32 (w : World) (ad : Option Addr) (len : Nat) (V : Nat → Int) : Prop := ∀ k, k < len → ∃ b off, ad = some ⟨b, off, none⟩ ∧ w.cell? ⟨b, off + k, none⟩ = some (.int .i32 (V k))
theorem SlI32.on {w w' : World} {ad : Option Addr} {len : Nat} {V : Nat → Int} (h : SlI32 w ad len V) (hb : Below w.heap.size w w') : SlI32 w' ad len V := fun k hk => by
  obtain ⟨b, off, h1, h2⟩ := h k hk
  exact ⟨b, off, h1, (hb.cell (p := ⟨b, off + k, none⟩) (block_lt_of_cell h2)).trans h2⟩
def dOf (len : Nat) (B : Nat → Int) (i : Nat) : Int := if i < len then (B i).tmod 1000 else 0
theorem tmod_bd (x : Int) : -1000 ≤ x.tmod 1000 ∧ x.tmod 1000 ≤ 1000 := by
  have h := Int.tmod_lt_of_pos x (b := 1000) (by omega)
  have h2 := Int.lt_tmod_of_pos x (b := 1000) (by omega)
  omega
theorem dOf_bd (len : Nat) (B : Nat → Int) (i : Nat) : -1000 ≤ dOf len B i ∧ dOf len B i ≤ 1000 := by
  unfold dOf; split
  · exact tmod_bd _
  · omega
set_option maxRecDepth 100000 in
set_option maxHeartbeats 2000000 in
theorem chains_walk (ad : Option Addr) (len cap : Nat) (_ : len ≤ 9223372036854775807) (B : Nat → Int) (w : World) (hB : SlI32 w ad len B) (hBr : ∀ k, k < len → -2147483648 ≤ B k ∧ B k ≤ 2147483647)
    (first : Int) (hf1 : -2147483648 ≤ first) (hf2 : first ≤ 2147483647) :
    Calls Try.prog 3 #[.slice ad len cap, .int .i32 first] w (Ret w (.bool true)) := by
  have HB := Lib.hid hB
  have HBr := Lib.hid hBr
  clear hB hBr
  have hti : ∀ W : World, Calls Try.prog 21 #[.int .i64 6] W (Ret W (.agg (topZ 6).c)) := fun W => top_any 6 (by omega) W
  have Ht := Lib.hid hti
  clear hti
  go_enter Try.func3, Try.ntmps3
  go_wp2_with (first
    | (go_at_call 21; ((with_reducible refine (Ht.out _).mono ?_); rintro e W2 ⟨rfl, hb⟩))
    | (refine wpList_alloc_zone rfl 26 rfl zz ?_; intro W1 hz1 hb1 hs1; have hge := hb.size; have hb := hb.trans (hb1.mono hge); clear hb1)
    | (refine store_z rfl _ _ rfl rfl rfl hz1 ?_; intro W4 hz hg4 hs4; have hb := below_only hb hg4 hb.size (by omega); clear hg4 hz1)
    | fail)
  have hgw : w.heap.size ≤ W2.heap.size := hge
  clear hs1 hs4 hge
  have hglt := hz.lt
  generalize W2.heap.size = g at hgw hz hglt ⊢
  generalize hbase : W4.heap.size = base at hglt ⊢
  have HBASE := Lib.hid hbase
  clear hbase
  have HOWN := Lib.hid (OwnI.fresh W4 (fun j => first + ofs (dOf len B) j) first (by simp [ofs]) (Nat.le_refl _))
  rw [HBASE.out] at HOWN
  have HZ := Lib.hid (hz.alloc (.cells #[.int .i64 first] 3))
  have HBL := Lib.hid (hb.alloc (by have := HBASE.out; omega) (.cells #[.int .i64 first] 3))
  have HSZ := Lib.hid (show base ≤ (W4.alloc (.cells #[.int .i64 first] 3)).heap.size by have := HBASE.out; simp; omega)
  clear hz hb
  generalize W4.alloc (.cells #[.int .i64 first] 3) = W5 at *
  go_loopw [6, 7] (fun v i_ wr => ∃ k : Nat, k ≤ 5 ∧ i_ = .int .i64 (k : Int) ∧ Hid (Below w.heap.size w wr) ∧ Hid (base ≤ wr.heap.size) ∧ Hid (ZAt 26 wr g (chZ (dOf len B) k).n (chZ (dOf len B) k).none (chZ (dOf len B) k).D) ∧ Hid (OwnI wr base v (k + 1) (fun j => first + ofs (dOf len B) j))) (fun _ i _ => 6 - (intOf i).toNat)
  case atStart => exact ⟨0, by omega, rfl, HBL, HSZ, HZ, HOWN⟩
  case round =>
    clear HBL HSZ HZ HOWN
    obtain ⟨k, hk, rfl, HBL, HSZ, HZ, HOWN⟩ := hrel
    by_cases hlt : k < 5
    · have hstep : ∀ W : World, ∀ z : Zn, z.n ≤ 6 → ∀ x y d : Int, Calls Try.prog 22 #[.agg z.c, .int .i64 x, .int .i64 y, .int .i64 d] W (Ret W (.agg (boundZ z x y d).c)) := fun W z hn x y d => bound_any z hn x y d W
      have hci := chI (dOf_bd len B) k (by omega)
      obtain ⟨Z, hZ⟩ : ∃ Z, Z = chZ (dOf len B) k := ⟨_, rfl⟩
      rw [← hZ] at HZ hci
      have hZn := hci.n
      obtain ⟨d, hd⟩ : ∃ d, d = dOf len B k := ⟨_, rfl⟩
      have hd1 := dOf_bd len B k
      rw [← hd] at hd1
      obtain ⟨hd1, hd2⟩ := hd1
      obtain ⟨e, he⟩ : ∃ e, e = 0 - d := ⟨_, rfl⟩
      have hb1 : ∀ W : World, Calls Try.prog 22 #[.agg (zc Z.n Z.none Z.D), .int .i64 ((k : Int) + 1), .int .i64 (k : Int), .int .i64 d] W (Ret W (.agg (boundZ Z ((k : Int) + 1) k d).c)) := fun W => hstep W Z (by omega) _ _ _
      have hb2 : ∀ W : World, Calls Try.prog 22 #[.agg (boundZ Z ((k : Int) + 1) k d).c, .int .i64 (k : Int), .int .i64 ((k : Int) + 1), .int .i64 e] W (Ret W (.agg (boundZ (boundZ Z ((k : Int) + 1) k d) k ((k : Int) + 1) e).c)) := fun W => hstep W _ (by rw [boundZ_n]; omega) _ _ _
      have hnext : chZ (dOf len B) (k + 1) = boundZ (boundZ Z ((k : Int) + 1) k d) k ((k : Int) + 1) e := by
        show linkC _ _ _ = _
        rw [← hZ, ← hd, he]
        rfl
      have HB1 := Lib.hid hb1
      have HB2 := Lib.hid hb2
      have HNX := Lib.hid hnext
      have HD := Lib.hid hd
      clear hstep hci hZ hZn hd hb1 hb2 hnext
      have hgb := hglt
      have hsv := HOWN.out.sl
      obtain ⟨av, cv, rfl, hsl, hcv⟩ := hsv
      obtain ⟨bv, ov, rfl, -⟩ := hsl k (by omega)
      clear hsl
      have hz := HZ.out
      have hb := HBL.out
      have e0 : (0 : Int) ≤ (k : Int) := by omega
      have e1 : (0 : Int) ≤ (k : Int) + 1 := by omega
      have hp1 : -5000 ≤ ofs (dOf len B) k ∧ ofs (dOf len B) k ≤ 5000 := by
        have := ofs_bd (dOf_bd len B) k; omega
      obtain ⟨hp1, hp2⟩ := hp1
      have hV : ofs (dOf len B) (k + 1) = ofs (dOf len B) k + d := by rw [HD.out]; rfl
      have HV := Lib.hid hV
      clear hV
      by_cases hkl : k < len
      · have hdd : d = (B k).tmod 1000 := by rw [HD.out]; unfold dOf; rw [if_pos hkl]
        obtain ⟨bb, off, rfl, hbc⟩ := HB.out.on hb k hkl
        have hr := HBr.out k hkl
        obtain rfl : e = -(B k).tmod 1000 := by rw [he, hdd]; omega
        clear he
        subst hdd
        go_wp2_with (first
          | (refine load_z rfl _ rfl rfl hz ?_)
          | (go_at_call 22; ((with_reducible refine (HB1.out _).mono ?_); rintro e W2 ⟨rfl, hb2⟩; have hz := hz.on hb2; have HOWN := Lib.hid (HOWN.out.on hb2); have HSZ := Lib.hid (Nat.le_trans HSZ.out hb2.size); have hb := hb.trans (hb2.mono hb.size); clear hb2))
          | (go_at_call 22; ((with_reducible refine (HB2.out _).mono ?_); rintro e W2 ⟨rfl, hb2⟩; have hz := hz.on hb2; have HOWN := Lib.hid (HOWN.out.on hb2); have HSZ := Lib.hid (Nat.le_trans HSZ.out hb2.size); have hb := hb.trans (hb2.mono hb.size); clear hb2))
          | (refine store_z rfl _ _ rfl rfl rfl hz ?_; intro W4 hz4 hg4 hs4; have HSZ := Lib.hid (Nat.le_trans HSZ.out hg4.size); have HOWN := Lib.hid (HOWN.out.only hg4 hgb); have hb := below_only hb hg4 hb.size (by omega); clear hz; have hz := hz4; clear hz4 hg4 hs4; have hvc := HOWN.out.cell k (by omega))
          | (refine append_i rfl _ _ rfl base _ _ (fun j => first + ofs (dOf len B) j) (fun j => first + ofs (dOf len B) j) rfl (HOWN.out.alloc _) _ _ rfl _ (by have hnew := (RowAt.new W4 3 #[.int .i64 (first + ofs (dOf len B) k + (B k).tmod 1000)]).cell 0; exact hnew) (by omega) (by have := HSZ.out; simp; omega) (fun _ _ => rfl) (by simp only [HV.out]; omega) ?_; intro v' w' hown' hgr hvb; have HOWN := Lib.hid hown'; have HZ := Lib.hid ((hz.alloc _).kept hgr hvb hgb); have HBL := Lib.hid ((hb.alloc hb.size _).grown hgr (by have := hb.size; simp; omega) (fun k hk => Nat.le_trans (by omega) (hvb k hk))); have HSZ := Lib.hid (Nat.le_trans HSZ.out (Nat.le_trans (by simp) hgr.size)); clear hb hz hown' hgr hvb)
          | fail)
        rw [← HNX.out] at HZ
        go_roundw
        case rel => exact ⟨k + 1, by omega, by go_num, HBL, HSZ, HZ, HOWN⟩
        case measure => simp [intOf]; omega
      · have hdd : d = 0 := by rw [HD.out]; unfold dOf; rw [if_neg hkl]
        obtain rfl : e = 0 := by rw [he, hdd]; omega
        clear he
        subst hdd
        go_wp2_with (first
          | (refine load_z rfl _ rfl rfl hz ?_)
          | (go_at_call 22; ((with_reducible refine (HB1.out _).mono ?_); rintro e W2 ⟨rfl, hb2⟩; have hz := hz.on hb2; have HOWN := Lib.hid (HOWN.out.on hb2); have HSZ := Lib.hid (Nat.le_trans HSZ.out hb2.size); have hb := hb.trans (hb2.mono hb.size); clear hb2))
          | (go_at_call 22; ((with_reducible refine (HB2.out _).mono ?_); rintro e W2 ⟨rfl, hb2⟩; have hz := hz.on hb2; have HOWN := Lib.hid (HOWN.out.on hb2); have HSZ := Lib.hid (Nat.le_trans HSZ.out hb2.size); have hb := hb.trans (hb2.mono hb.size); clear hb2))
          | (refine store_z rfl _ _ rfl rfl rfl hz ?_; intro W4 hz4 hg4 hs4; have HSZ := Lib.hid (Nat.le_trans HSZ.out hg4.size); have HOWN := Lib.hid (HOWN.out.only hg4 hgb); have hb := below_only hb hg4 hb.size (by omega); clear hz; have hz := hz4; clear hz4 hg4 hs4; have hvc := HOWN.out.cell k (by omega))
          | (refine append_i rfl _ _ rfl base _ _ (fun j => first + ofs (dOf len B) j) (fun j => first + ofs (dOf len B) j) rfl (HOWN.out.alloc _) _ _ rfl _ (by have hnew := (RowAt.new W4 3 #[.int .i64 (first + ofs (dOf len B) k)]).cell 0; exact hnew) (by omega) (by have := HSZ.out; simp; omega) (fun _ _ => rfl) (by simp only [HV.out]; omega) ?_; intro v' w' hown' hgr hvb; have HOWN := Lib.hid hown'; have HZ := Lib.hid ((hz.alloc _).kept hgr hvb hgb); have HBL := Lib.hid ((hb.alloc hb.size _).grown hgr (by have := hb.size; simp; omega) (fun k hk => Nat.le_trans (by omega) (hvb k hk))); have HSZ := Lib.hid (Nat.le_trans HSZ.out (Nat.le_trans (by simp) hgr.size)); clear hb hz hown' hgr hvb)
          | fail)
        rw [← HNX.out] at HZ
        go_roundw
        case rel => exact ⟨k + 1, by omega, by go_num, HBL, HSZ, HZ, HOWN⟩
        case measure => simp [intOf]; omega
    · obtain rfl : k = 5 := by omega
      have hci := chI (dOf_bd len B) 5 (by omega)
      obtain ⟨Z, hZ⟩ : ∃ Z, Z = chZ (dOf len B) 5 := ⟨_, rfl⟩
      rw [← hZ] at HZ hci
      have hcp : ∀ W : World, Calls Try.prog 23 #[.agg (zc 6 false Z.D), .int .i64 0, .int .i64 0, .int .i64 0] W (Ret W (.agg (zc 6 false Z.D))) := fun W => by
        have h := copy_any Z (by rw [hci.n]; omega) 0 0 0 W
        rw [show copyZ Z 0 0 0 = Z from copy_zero (i := 0) hci.ok (by rw [hci.n]; omega), Zn.c, hci.n, hci.none] at h
        exact h
      have hb1 : ∀ W : World, Calls Try.prog 22 #[.agg (zc 6 false Z.D), .int .i64 0, .int .i64 (-1), .int .i64 5] W (Ret W (.agg (boundZ Z 0 (-1) 5).c)) := fun W => by
        have h := bound_any Z (by rw [hci.n]; omega) 0 (-1) 5 W
        rw [Zn.c, hci.n, hci.none] at h
        exact h
      have hb2 : ∀ W : World, Calls Try.prog 22 #[.agg (boundZ Z 0 (-1) 5).c, .int .i64 (-1), .int .i64 0, .int .i64 (-5)] W (Ret W (.agg (chW Z).c)) := fun W => bound_any _ (by rw [boundZ_n, hci.n]; omega) (-1) 0 (-5) W
      have hcw : Hid ((chW Z).none = false ∧ (chW Z).n = 6 ∧ ∀ i : Nat, i < 6 → itvZ (chW Z) (i : Int) = (5 + ofs (dOf len B) i, 5 + ofs (dOf len B) i)) := by
        obtain ⟨h1, h2, h3, h4, h5⟩ := chW_facts (dOf_bd len B) hci
        refine ⟨h2, h3, fun i hi => ?_⟩
        have := itvZ_one h1 h2 (i := i) (by rw [h3]; exact hi) (v := shV (dOf len B) 5) (by rw [h3]; exact h4) (by simp only [shV]; rw [if_neg (by omega)]; exact (h5 i hi).1) (by simp only [shV]; rw [if_neg (by omega)]; exact (h5 i hi).2)
        rw [this]; simp only [shV]; rw [if_neg (by omega)]; rfl
      rw [hci.n, hci.none, show ((6 : Nat) : Int) = 6 from rfl] at HZ
      have HEQ := Lib.hid (fun i j hi hj => hci.eq (i := i) (j := j) hi hj)
      have HCP := Lib.hid hcp
      have HB1 := Lib.hid hb1
      have HB2 := Lib.hid hb2
      clear hcp hb1 hb2 hZ hci
      have hgb := hglt
      have hsv := HOWN.out.sl
      obtain ⟨av, cv, rfl, hsl, hcv⟩ := hsv
      obtain ⟨bv, ov, rfl, -⟩ := hsl 0 (by omega)
      clear hsl
      have hz := HZ.out
      have hb := HBL.out
      go_wp2_with (first
        | (refine load_z rfl _ rfl rfl hz ?_)
        | (go_at_call 23; ((with_reducible refine (HCP.out _).mono ?_); rintro e W2 ⟨rfl, hb2⟩; have hz := hz.on hb2; have HOWN := Lib.hid (HOWN.out.on hb2); have hb := hb.trans (hb2.mono hb.size); clear hb2))
        | (refine store_z rfl _ _ rfl rfl rfl hz ?_; intro W4 hz4 hg4 hs4; have HOWN := Lib.hid (HOWN.out.only hg4 hgb); have hb := below_only hb hg4 hb.size (by omega); clear hz; have hz := hz4; clear hz4 hg4 hs4)
        | (go_at_call 24; ((with_reducible refine (copies_any _).mono ?_); rintro e W2 ⟨rfl, hb2⟩; have hz := hz.on hb2; have hbc := hz.b_cell; have HOWN := Lib.hid (HOWN.out.on hb2); have hb := hb.trans (hb2.mono hb.size); clear hb2))
        | fail)
      have HZ := Lib.hid hz
      have HBL := Lib.hid hb
      clear hz hb HSZ
      go_loopw [9] (fun i_ wr => ∃ i : Nat, i ≤ 6 ∧ i_ = .int .i64 (i : Int) ∧ Hid (Below w.heap.size w wr) ∧ Hid (ZAt 26 wr g 6 false Z.D) ∧ Hid (OwnI wr base (.slice (some ⟨bv, ov, none⟩) 6 cv) 6 (fun j => first + ofs (dOf len B) j))) (fun i _ => 7 - (intOf i).toNat)
      case atStart => exact ⟨0, by omega, rfl, HBL, HZ, HOWN⟩
      case round =>
        clear HBL HZ HOWN
        obtain ⟨i, hi, rfl, HBL, HZ, HOWN⟩ := hrel
        by_cases hi6 : i < 6
        · go_wp2
          go_loopw [10] (fun j_ wr => ∃ j : Nat, j ≤ 6 ∧ j_ = .int .i64 (j : Int) ∧ Hid (Below w.heap.size w wr) ∧ Hid (ZAt 26 wr g 6 false Z.D) ∧ Hid (OwnI wr base (.slice (some ⟨bv, ov, none⟩) 6 cv) 6 (fun j => first + ofs (dOf len B) j))) (fun i _ => 7 - (intOf i).toNat)
          case atStart => exact ⟨0, by omega, rfl, HBL, HZ, HOWN⟩
          case round =>
            clear HBL HZ HOWN
            obtain ⟨j, hj, rfl, HBL, HZ, HOWN⟩ := hrel
            by_cases hj6 : j < 6
            · have c1 := HZ.out.cell (i + 1) (j + 1) (by omega) (by omega)
              rw [HEQ.out i j hi6 hj6, show ofs (dOf len B) i - ofs (dOf len B) j = (first + ofs (dOf len B) i) - (first + ofs (dOf len B) j) by omega] at c1
              have v1 : wr.cell? ⟨bv, ov + i, none⟩ = some (.int .i64 (first + ofs (dOf len B) i)) := HOWN.out.cell i hi6
              have v2 : wr.cell? ⟨bv, ov + j, none⟩ = some (.int .i64 (first + ofs (dOf len B) j)) := HOWN.out.cell j hj6
              have hp1 : -5000 ≤ ofs (dOf len B) i ∧ ofs (dOf len B) i ≤ 5000 := by
                have := ofs_bd (dOf_bd len B) i; omega
              have hp2 : -5000 ≤ ofs (dOf len B) j ∧ ofs (dOf len B) j ≤ 5000 := by
                have := ofs_bd (dOf_bd len B) j; omega
              have e1 : (0 : Int) ≤ (i : Int) + 1 := by omega
              have e2 : (0 : Int) ≤ (j : Int) + 1 := by omega
              have e3 : (0 : Int) ≤ (i : Int) := by omega
              have e4 : (0 : Int) ≤ (j : Int) := by omega
              have e5 : ((i : Int) + 1).toNat = i + 1 := by omega
              have e6 : ((j : Int) + 1).toNat = j + 1 := by omega
              go_wp2
              go_region
              have HBL := Lib.hid HBL.out.drew
              have HZ := Lib.hid HZ.out.drew
              have HOWN := Lib.hid HOWN.out.drew
              generalize wr.drew = wd at *
              clear c1 v1 v2
              go_wp2
              go_roundw
              case rel => exact ⟨j + 1, by omega, by go_num, HBL, HZ, HOWN⟩
              case measure => simp [intOf]; omega
            · obtain rfl : j = 6 := by omega
              go_wp2
              go_roundw
              case rel => exact ⟨i + 1, by omega, by go_num, HBL, HZ, HOWN⟩
              case measure => simp [intOf]; omega
        · obtain rfl : i = 6 := by omega
          have hz := HZ.out
          have hb := HBL.out
          have hge := hb.size
          go_wp2_with (first
            | (refine load_z rfl _ rfl rfl hz ?_)
            | (go_at_call 22; ((with_reducible refine (HB1.out _).mono ?_); rintro e W2 ⟨rfl, hb2⟩; have hz := hz.on hb2; have HOWN := Lib.hid (HOWN.out.on hb2); have hb := hb.trans (hb2.mono hb.size); clear hb2))
            | (go_at_call 22; ((with_reducible refine (HB2.out _).mono ?_); rintro e W2 ⟨rfl, hb2⟩; have hz := hz.on hb2; have HOWN := Lib.hid (HOWN.out.on hb2); have hb := hb.trans (hb2.mono hb.size); clear hb2))
            | (refine wpList_alloc_zone rfl 26 rfl zz ?_; intro W1 hz1 hq hs1; have hge := hb.size; have hb := hb.trans (hq.mono hge); clear hz)
            | (refine store_z rfl _ _ rfl rfl rfl hz1 ?_; intro W4 hz4 hg4 hs4; have HOWN := Lib.hid (HOWN.out.on (below_only hq hg4 hq.size (Nat.le_refl _))); have hb := below_only hb hg4 hb.size (by omega); clear hz1 hq hg4 hs4 hs1)
            | fail)
          obtain ⟨hw1, hw2, hw3⟩ := hcw.out
          have hi6 : ∀ (i : Nat) (W : World), i < 6 → Calls Try.prog 25 #[.agg (zc 6 false (chW Z).D), .int .i64 (i : Int)] W (Ret W (.agg (ic (5 + ofs (dOf len B) i) (5 + ofs (dOf len B) i)))) := fun i W hi => by
            have h := zitv_any (chW Z) (by rw [hw2]; omega) i W
            rw [hw3 i hi, Zn.c, hw2, hw1] at h
            exact h
          have hc6 : ∀ (i : Nat) (W : World), i < 6 → Calls Try.prog 26 #[.int .i64 (5 + (first + ofs (dOf len B) i) - first)] W (Ret W (.agg (ic (5 + ofs (dOf len B) i) (5 + ofs (dOf len B) i)))) := fun i W hi => by
            have hp := ofs_bd (dOf_bd len B) i
            have h := const_any (5 + (first + ofs (dOf len B) i) - first) W
            rw [show 5 + (first + ofs (dOf len B) i) - first = 5 + ofs (dOf len B) i by omega, ofP_one (by omega) (by omega)] at h
            rw [show 5 + (first + ofs (dOf len B) i) - first = 5 + ofs (dOf len B) i by omega]
            exact h
          have HI := Lib.hid hi6
          have HC := Lib.hid hc6
          have HZ : Hid (ZAt 26 W4 W2.heap.size 6 false (chW Z).D) := by rw [hw1, hw2] at hz4; exact hz4
          have HBL := Lib.hid hb
          have hg2 := hge
          generalize W2.heap.size = g2 at HZ hg2 ⊢
          clear hi6 hc6 hb hge hz4 hz hw1 hw2 hw3 hcw
          go_loopw [12] (fun i_ wr => ∃ i : Nat, i ≤ 6 ∧ i_ = .int .i64 (i : Int) ∧ Hid (Below w.heap.size w wr) ∧ Hid (ZAt 26 wr g2 6 false (chW Z).D) ∧ Hid (OwnI wr base (.slice (some ⟨bv, ov, none⟩) 6 cv) 6 (fun j => first + ofs (dOf len B) j))) (fun i _ => 7 - (intOf i).toNat)
          case atStart => exact ⟨0, by omega, rfl, HBL, HZ, HOWN⟩
          case round =>
            clear HBL HZ HOWN
            obtain ⟨i, hi, rfl, HBL, HZ, HOWN⟩ := hrel
            by_cases hi6 : i < 6
            · have v1 : wr.cell? ⟨bv, ov + i, none⟩ = some (.int .i64 (first + ofs (dOf len B) i)) := HOWN.out.cell i hi6
              have v2 : wr.cell? ⟨bv, ov + 0, none⟩ = some (.int .i64 first) := by have := HOWN.out.cell 0 (by omega); simpa [ofs] using this
              have hp1 : -5000 ≤ ofs (dOf len B) i ∧ ofs (dOf len B) i ≤ 5000 := by
                have := ofs_bd (dOf_bd len B) i; omega
              have e3 : (0 : Int) ≤ (i : Int) := by omega
              have hz := HZ.out
              have HIi := Lib.hid fun W => HI.out i W hi6
              have HCi := Lib.hid fun W => HC.out i W hi6
              go_wp2_with fail
              refine head0 13 (by kernel_rfl) (by kernel_rfl) (by kernel_rfl) (by kernel_rfl) ?_
              simp only [List.take_succ_cons, List.take_zero, List.drop_succ_cons, List.drop_zero]
              refine lex_load_z rfl _ rfl rfl hz ?_
              simp only [Act.put, List.setIfInBounds_toArray, List.set_cons_succ, List.set_cons_zero]
              (refine lex_pure rfl rfl ?_ (fun W => ?_) ?_; rotate_left; focus (go_simp; try rfl))
              simp only [Act.put, List.setIfInBounds_toArray, List.set_cons_succ, List.set_cons_zero]
              (refine lex_call rfl rfl _ _ (fun W => ?_) _ (fun W hW => HIi.out W) ?_; focus (go_simp; done))
              simp only [Act.put, List.setIfInBounds_toArray, List.set_cons_succ, List.set_cons_zero]
              (refine lex_pure rfl rfl ?_ (fun W => ?_) ?_; rotate_left; focus (go_simp; try rfl))
              simp only [Act.put, List.setIfInBounds_toArray, List.set_cons_succ, List.set_cons_zero]
              (refine lex_pure rfl rfl ?_ (fun W => ?_) ?_; rotate_left; focus (go_simp; try rfl))
              simp only [Act.put, List.setIfInBounds_toArray, List.set_cons_succ, List.set_cons_zero]
              (refine lex_pure rfl rfl ?_ (fun W => ?_) ?_; rotate_left; focus (go_simp; try rfl))
              simp only [Act.put, List.setIfInBounds_toArray, List.set_cons_succ, List.set_cons_zero]
              (refine lex_load_cell rfl 3 _ rfl _ _ rfl _ Try.underlying3 rfl v1 ?_)
              simp only [Act.put, List.setIfInBounds_toArray, List.set_cons_succ, List.set_cons_zero]
              (refine lex_pure rfl rfl (.int .i64 (5 + (first + ofs (dOf len B) i))) (fun W => ?_) ?_; focus (go_simp; exact IntWalk.i64_in _ (by omega)))
              simp only [Act.put, List.setIfInBounds_toArray, List.set_cons_succ, List.set_cons_zero]
              (refine lex_pure rfl rfl ?_ (fun W => ?_) ?_; rotate_left; focus (go_simp; try rfl))
              simp only [Act.put, List.setIfInBounds_toArray, List.set_cons_succ, List.set_cons_zero]
              (refine lex_pure rfl rfl ?_ (fun W => ?_) ?_; rotate_left; focus (go_simp; try rfl))
              simp only [Act.put, List.setIfInBounds_toArray, List.set_cons_succ, List.set_cons_zero]
              (refine lex_load_cell rfl 3 _ rfl _ _ rfl _ Try.underlying3 rfl v2 ?_)
              simp only [Act.put, List.setIfInBounds_toArray, List.set_cons_succ, List.set_cons_zero]
              (refine lex_pure rfl rfl (.int .i64 (5 + (first + ofs (dOf len B) i) - first)) (fun W => ?_) ?_; focus (go_simp; exact IntWalk.i64_in _ (by omega)))
              simp only [Act.put, List.setIfInBounds_toArray, List.set_cons_succ, List.set_cons_zero]
              (refine lex_call rfl rfl _ _ (fun W => ?_) _ (fun W hW => HCi.out W) ?_; focus (go_simp; done))
              simp only [Act.put, List.setIfInBounds_toArray, List.set_cons_succ, List.set_cons_zero]
              intro w2 hb2
              have HBL := Lib.hid (HBL.out.trans (hb2.mono HBL.out.size))
              have HZ := Lib.hid (HZ.out.on hb2)
              have HOWN := Lib.hid (HOWN.out.on hb2)
              clear v1 v2 hb2 hz
              go_wp2
              go_roundw
              case rel => exact ⟨i + 1, by omega, by go_num, HBL, HZ, HOWN⟩
              case measure => simp [intOf]; omega
            · obtain rfl : i = 6 := by omega
              go_wp2
              go_ret
              exact ⟨rfl, HBL.out⟩
end Go.Proofs.Ytgnkhncogfppgaa
