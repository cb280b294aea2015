import Derived.Test.YtgnkhncogfppgaaBI
import Derived.Test.YtgnkhncogfppgaaL9
import Derived.Test.YtgnkhncogfppgaaS2
namespace Go.Proofs.Ytgnkhncogfppgaa
open Go.RowKit
/-- A head that makes two variables: the operations told by their numbers, slots and types. -/
theorem head2z {P : Program} {id : Nat} {Q : Exit → Act → World → Prop} {a : Act} {w : World} {l : List Oper} (n : Nat) (hm : P.follows .mixedOrders = true) (hB : Region.lexTailB .any l.toArray n = true) (hN : newsB P l.toArray n = true) (k1 k2 : Nat) (h1 : newsIn l.toArray n = [k1, k2]) (hne : k1 ≠ k2)
    (d1 d2 : Nat) (hdd : d1 ≠ d2) (T : TypeId) (hk1 : ((l[k1]?).bind fun o => match o.op with | .alloc T' => if T' = T then o.dst else none | _ => none) = some d1) (hk2 : ((l[k2]?).bind fun o => match o.op with | .alloc T' => if T' = T then o.dst else none | _ => none) = some d2)
    (v : Value) (hv : (P.info? T).bind (·.zero) = some v)
    (h : lexQ P l.toArray w (fun a' => ∀ w' r1 r2, Below w.heap.size w w' → w.heap.size ≤ r1 → w.heap.size ≤ r2 → r1 ≠ r2 → RowAt T w' r1 v.cells → RowAt T w' r2 v.cells → wpList P l.toArray Q (l.drop n) ((a'.put (some d1) (.pointer (some ⟨r1, 0, none⟩))).put (some d2) (.pointer (some ⟨r2, 0, none⟩))) w') (l.take n) a) :
    (Code.region id l.toArray true).wp P Q a w := by
  have key : ∀ (k d : Nat), ((l[k]?).bind fun (o : Oper) => match o.op with | .alloc T' => if T' = T then o.dst else none | _ => none) = some d → ∃ o, l.toArray[k]? = some o ∧ o.op = .alloc T ∧ o.dst = some d := fun k d hk => by
    cases ho : l[k]? with
    | none => rw [ho] at hk; cases hk
    | some o =>
      rw [ho] at hk
      simp only [Option.bind_some] at hk
      split at hk
      · rename_i T' hop
        split at hk
        · rename_i hT
          subst hT
          exact ⟨o, by simpa using ho, hop, hk⟩
        · cases hk
      · cases hk
  obtain ⟨o1, ho1, hT1, hd1⟩ := key k1 d1 hk1
  obtain ⟨o2, ho2, hT2, hd2⟩ := key k2 d2 hk2
  refine head2 n hm hB hN k1 k2 h1 hne o1 o2 ho1 ho2 (fun d hd => by rw [hd1] at hd; injection hd with hd; subst hd; rw [hd2]; simpa using Ne.symm hdd) T T hT1 hT2 v v hv hv ?_
  rw [hd1, hd2]
  exact h
set_option maxRecDepth 100000 in
set_option maxHeartbeats 8000000 in
theorem joins_walk (nn : Int) (ad1 ad2 : Option Addr) (len1 cap1 len2 cap2 : Nat) (hlen1 : len1 ≤ 9223372036854775807) (hlen2 : len2 ≤ 9223372036854775807) (A1 A2 : Nat → Nat → Int) (w : World) (hA1 : SlA w ad1 len1 A1) (hA2 : SlA w ad2 len2 A2) :
    Calls Try.prog 13 #[.int .i64 nn, .slice ad1 len1 cap1, .slice ad2 len2 cap2] w (Ret w (.bool true)) := by
  obtain ⟨r, hr0⟩ : ∃ r : Nat, (IntKind.u64.wrap nn).toNat = r := ⟨_, rfl⟩
  have hrr : IntKind.u64.wrap nn = (r : Int) := by rw [← hr0]; exact u64_nat _
  obtain ⟨k, hk⟩ : ∃ k : Nat, r % 7 = k := ⟨_, rfl⟩
  have x3 : (r : Int) % 7 = (k : Int) := by omega
  have hk6 : k ≤ 6 := by omega
  obtain ⟨k2, hk2⟩ : ∃ k2 : Nat, (k + 1) % 7 = k2 := ⟨_, rfl⟩
  have x4 : ((k : Int) + 1).tmod 7 = (k2 : Int) := by rw [← hk2, Int.tmod_eq_emod_of_nonneg (by omega)]; omega
  have hk26 : k2 ≤ 6 := by omega
  have hkk : k ≠ k2 := by omega
  clear hr0 hk hk2
  have ht : ∀ W : World, Calls Try.prog 21 #[.int .i64 (k : Int)] W (Ret W (.agg (topZ k).c)) := fun W => top_any k hk6 W
  have hrt : ∀ W : World, Calls Try.prog 27 #[.int .i64 (k : Int)] W (Ret W (.agg (topZ k).c)) := fun W => rtop_any k hk6 W
  have hto : ∀ W : World, Calls Try.prog 21 #[.int .i64 (k2 : Int)] W (Ret W (.agg (topZ k2).c)) := fun W => top_any k2 hk26 W
  obtain ⟨X, hX⟩ : ∃ Y, Y = actsZ (topZ k) A1 (min len1 20) := ⟨_, rfl⟩
  obtain ⟨Y, hY⟩ : ∃ Y, Y = actsZ (topZ k) A2 (min len2 20) := ⟨_, rfl⟩
  have hXK : OKZ X := by rw [hX]; exact acts_ok (top_ok hk6) A1 _
  have hYK : OKZ Y := by rw [hY]; exact acts_ok (top_ok hk6) A2 _
  have hXN : X.n = k := by rw [hX, actsZ_n]; exact topZ_n k
  have hYN : Y.n = k := by rw [hY, actsZ_n]; exact topZ_n k
  have hap1 : ∀ W : World, Below w.heap.size w W → Calls Try.prog 31 #[.agg (topZ k).c, .agg (topZ k).c, .slice ad1 len1 cap1] W (Ret W (.tuple #[.agg X.c, .agg X.c, .bool true])) := fun W hW => by
    rw [hX]; exact apply_any (top_ok hk6) ad1 len1 cap1 hlen1 A1 W (hA1.on hW)
  have hap2 : ∀ W : World, Below w.heap.size w W → Calls Try.prog 31 #[.agg (topZ k).c, .agg (topZ k).c, .slice ad2 len2 cap2] W (Ret W (.tuple #[.agg Y.c, .agg Y.c, .bool true])) := fun W hW => by
    rw [hY]; exact apply_any (top_ok hk6) ad2 len2 cap2 hlen2 A2 W (hA2.on hW)
  clear hA1 hA2 hX hY
  have hn : X.n = Y.n := hXN.trans hYN.symm
  have hJK := join_ok hXK hYK
  have hWK := wid_ok hXK hYK
  have hno : X.n ≠ (topZ k2).n := by rw [topZ_n, hXN]; exact hkk
  have e1 : ∀ W : World, Calls Try.prog 57 #[.agg X.c, .agg Y.c] W (Ret W (.agg (joinZ X Y).c)) := fun W => join_any hXK hYK W
  have e2 : ∀ W : World, Calls Try.prog 58 #[.agg X.c, .agg Y.c] W (Ret W (.agg (widZ X Y).c)) := fun W => widen_any hXK hYK W
  have e3 : ∀ W : World, Calls Try.prog 30 #[.agg (joinZ X Y).c] W (Ret W (.agg (joinZ X Y).c)) := fun W => from_any _ W
  have e4 : ∀ W : World, Calls Try.prog 30 #[.agg (widZ X Y).c] W (Ret W (.agg (widZ X Y).c)) := fun W => from_any _ W
  have e5 : ∀ W : World, Calls Try.prog 59 #[.agg X.c, .agg Y.c] W (Ret W (.agg (joinZ X Y).c)) := fun W => rjoin_any hXK hYK hn W
  have e6 : ∀ W : World, Calls Try.prog 60 #[.agg X.c, .agg Y.c] W (Ret W (.agg (widZ X Y).c)) := fun W => rwiden_any hXK hYK hn W
  have e7 : ∀ W : World, Calls Try.prog 44 #[.agg (joinZ X Y).c] W (Ret W (.bool true)) := fun W => right_ok hJK W
  have e8 : ∀ W : World, Calls Try.prog 44 #[.agg (widZ X Y).c] W (Ret W (.bool true)) := fun W => right_ok hWK W
  have e9 : ∀ W : World, Calls Try.prog 43 #[.agg X.c, .agg (joinZ X Y).c] W (Ret W (.bool true)) := fun W => by
    have := within_any X (joinZ X Y) hXK.n W; rw [join_upl hn] at this; exact this
  have e10 : ∀ W : World, Calls Try.prog 43 #[.agg Y.c, .agg (joinZ X Y).c] W (Ret W (.bool true)) := fun W => by
    have := within_any Y (joinZ X Y) hYK.n W; rw [join_upr hn] at this; exact this
  have e11 : ∀ W : World, Calls Try.prog 43 #[.agg (joinZ X Y).c, .agg (widZ X Y).c] W (Ret W (.bool true)) := fun W => by
    have := within_any (joinZ X Y) (widZ X Y) hJK.n W; rw [wid_up hXK hYK hn] at this; exact this
  have e12 : ∀ W : World, Calls Try.prog 43 #[.agg X.c, .agg Y.c] W (Ret W (.bool (withinB X Y))) := fun W => within_any X Y hXK.n W
  have e13 : ∀ W : World, Calls Try.prog 61 #[.agg X.c, .agg Y.c] W (Ret W (.bool (withinB X Y))) := fun W => rwithin_any hXK hYK hn W
  have e14 : ∀ W : World, Calls Try.prog 57 #[.agg X.c, .agg (topZ k2).c] W (Ret W (.agg X.c)) := fun W => by
    have := join_any hXK (top_ok hk26) W; rw [joinZ_l (.inl hno)] at this; exact this
  have e15 : ∀ W : World, Calls Try.prog 58 #[.agg X.c, .agg (topZ k2).c] W (Ret W (.agg X.c)) := fun W => by
    have := widen_any hXK (top_ok hk26) W; rw [widZ_l (.inl hno)] at this; exact this
  have e16 : ∀ W : World, Calls Try.prog 43 #[.agg X.c, .agg (topZ k2).c] W (Ret W (.bool false)) := fun W => by
    have := within_any X (topZ k2) hXK.n W; rw [within_n hno] at this; exact this
  clear hXK hYK hXN hYN hn hJK hWK hno hkk hk6 hk26 hlen1 hlen2
  generalize joinZ X Y = J at *
  generalize widZ X Y = V at *
  generalize withinB X Y = b at *
  generalize topZ k = T0 at *
  generalize topZ k2 = O at *
  have HT : Hid (∀ W : World, Calls Try.prog 21 #[.int .i64 (k : Int)] W (Ret W (.agg (zc T0.n T0.none T0.D)))) := ht
  have HRT : Hid (∀ W : World, Calls Try.prog 27 #[.int .i64 (k : Int)] W (Ret W (.agg (zc T0.n T0.none T0.D)))) := hrt
  have HTO : Hid (∀ W : World, Calls Try.prog 21 #[.int .i64 (k2 : Int)] W (Ret W (.agg (zc O.n O.none O.D)))) := hto
  have HAP1 : Hid (∀ W : World, Below w.heap.size w W → Calls Try.prog 31 #[.agg (zc T0.n T0.none T0.D), .agg (zc T0.n T0.none T0.D), .slice ad1 len1 cap1] W (Ret W (.tuple #[.agg (zc X.n X.none X.D), .agg (zc X.n X.none X.D), .bool true]))) := hap1
  have HAP2 : Hid (∀ W : World, Below w.heap.size w W → Calls Try.prog 31 #[.agg (zc T0.n T0.none T0.D), .agg (zc T0.n T0.none T0.D), .slice ad2 len2 cap2] W (Ret W (.tuple #[.agg (zc Y.n Y.none Y.D), .agg (zc Y.n Y.none Y.D), .bool true]))) := hap2
  have E1 : Hid (∀ W : World, Calls Try.prog 57 #[.agg (zc X.n X.none X.D), .agg (zc Y.n Y.none Y.D)] W (Ret W (.agg (zc J.n J.none J.D)))) := e1
  have E2 : Hid (∀ W : World, Calls Try.prog 58 #[.agg (zc X.n X.none X.D), .agg (zc Y.n Y.none Y.D)] W (Ret W (.agg (zc V.n V.none V.D)))) := e2
  have E3 : Hid (∀ W : World, Calls Try.prog 30 #[.agg (zc J.n J.none J.D)] W (Ret W (.agg (zc J.n J.none J.D)))) := e3
  have E4 : Hid (∀ W : World, Calls Try.prog 30 #[.agg (zc V.n V.none V.D)] W (Ret W (.agg (zc V.n V.none V.D)))) := e4
  have E5 : Hid (∀ W : World, Calls Try.prog 59 #[.agg (zc X.n X.none X.D), .agg (zc Y.n Y.none Y.D)] W (Ret W (.agg (zc J.n J.none J.D)))) := e5
  have E6 : Hid (∀ W : World, Calls Try.prog 60 #[.agg (zc X.n X.none X.D), .agg (zc Y.n Y.none Y.D)] W (Ret W (.agg (zc V.n V.none V.D)))) := e6
  have E7 : Hid (∀ W : World, Calls Try.prog 44 #[.agg (zc J.n J.none J.D)] W (Ret W (.bool true))) := e7
  have E8 : Hid (∀ W : World, Calls Try.prog 44 #[.agg (zc V.n V.none V.D)] W (Ret W (.bool true))) := e8
  have E9 : Hid (∀ W : World, Calls Try.prog 43 #[.agg (zc X.n X.none X.D), .agg (zc J.n J.none J.D)] W (Ret W (.bool true))) := e9
  have E10 : Hid (∀ W : World, Calls Try.prog 43 #[.agg (zc Y.n Y.none Y.D), .agg (zc J.n J.none J.D)] W (Ret W (.bool true))) := e10
  have E11 : Hid (∀ W : World, Calls Try.prog 43 #[.agg (zc J.n J.none J.D), .agg (zc V.n V.none V.D)] W (Ret W (.bool true))) := e11
  have E12 : Hid (∀ W : World, Calls Try.prog 43 #[.agg (zc X.n X.none X.D), .agg (zc Y.n Y.none Y.D)] W (Ret W (.bool b))) := e12
  have E13 : Hid (∀ W : World, Calls Try.prog 61 #[.agg (zc X.n X.none X.D), .agg (zc Y.n Y.none Y.D)] W (Ret W (.bool b))) := e13
  have E14 : Hid (∀ W : World, Calls Try.prog 57 #[.agg (zc X.n X.none X.D), .agg (zc O.n O.none O.D)] W (Ret W (.agg (zc X.n X.none X.D)))) := e14
  have E15 : Hid (∀ W : World, Calls Try.prog 58 #[.agg (zc X.n X.none X.D), .agg (zc O.n O.none O.D)] W (Ret W (.agg (zc X.n X.none X.D)))) := e15
  have E16 : Hid (∀ W : World, Calls Try.prog 43 #[.agg (zc X.n X.none X.D), .agg (zc O.n O.none O.D)] W (Ret W (.bool false))) := e16
  clear ht hrt hto hap1 hap2 e1 e2 e3 e4 e5 e6 e7 e8 e9 e10 e11 e12 e13 e14 e15 e16
  generalize (T0.n : Int) = t0 at *
  generalize (X.n : Int) = xn at *
  generalize (Y.n : Int) = yn at *
  generalize (J.n : Int) = jn at *
  generalize (V.n : Int) = vn at *
  generalize (O.n : Int) = on' at *
  go_enter Try.func13, Try.ntmps13
  go_wp2_with (first
    | (go_at_call 21; ((with_reducible refine (HT.out _).mono ?_); (first | (have _t := hr; rintro e W4 ⟨rfl, hb4⟩; have hz := hz.on hb4; have hr := hr.on hb4; have hb := hb.trans (hb4.mono hb.size); clear hb4 _t) | (rintro e W4 ⟨rfl, hb⟩))))
    | (go_at_call 27; ((with_reducible refine (HRT.out _).mono ?_); rintro e W5 ⟨rfl, hb4⟩; (first | (have hz := hz.on hb4; have hr := hr.on hb4) | skip); have hb := hb.trans (hb4.mono hb.size); clear hb4))
    | (go_at_call 31; ((with_reducible refine (HAP1.out _ hb).mono ?_); rintro e W8 ⟨rfl, hb3⟩; have hb := hb.trans (hb3.mono hb.size); have hge := hb.size; clear hb3))
    | (go_at_call 31; ((with_reducible refine (HAP2.out _ hb).mono ?_); rintro e W18 ⟨rfl, hb3⟩; have hgy := Nat.lt_of_lt_of_le hr.lt hb3.size; have hz := hz.on hb3; have hr := hr.on hb3; have hb := hb.trans (hb3.mono hb.size); clear hb3))
    | (go_at_call 24; ((with_reducible refine (copies_any _).mono ?_); rintro e W30 ⟨rfl, hb3⟩; have hz := hz.on hb3; have hr := hr.on hb3; have hy := hy.on hb3; have hq := hq.on hb3; have hb := hb.trans (hb3.mono hb.size); clear hb3))
    | (have _t := hgy; refine wpList_alloc_zone rfl 26 rfl zz ?_; intro W19 hy hb6 hs6; have hz := hz.on hb6; have hr := hr.on hb6; have hb := hb.trans (hb6.mono hb.size); clear hb6 _t)
    | (have _t := hgy; refine wpList_alloc_zone rfl 38 rfl rz ?_; intro W20 hq hb6 hs7; rw [hs6.out] at hq hb6 hs7; rw [hs6.out]; have hz := hz.below hb6 (by omega); have hr := hr.below hb6 (by omega); have hy := hy.below hb6 (by omega); have hb := hb.trans (hb6.mono (by omega)); clear hb6 _t)
    | (have _t := hgy; refine store_z rfl _ _ rfl rfl rfl hy ?_; intro W21 hy7 hg7 hs8; have hz := hz.only hg7 (by omega); have hr := hr.only hg7 (by omega); have hq := hq.only hg7 (by omega); have hb := below_only hb hg7 hb.size (by omega); clear hy; have hy := hy7; clear hy7 hg7 hs8 _t)
    | (have _t := hgy; refine store_r rfl _ _ rfl rfl rfl hq ?_; intro W22 hq7 hg7 hs8; have hz := hz.only hg7 (by omega); have hr := hr.only hg7 (by omega); have hy := hy.only hg7 (by omega); have hb := below_only hb hg7 hb.size (by omega); clear hq; have hq := hq7; clear hq7 hg7 hs8 _t)
    | (refine wpList_alloc_zone rfl 26 rfl zz ?_; intro W9 hz hb4 hs4; have hb := hb.trans (hb4.mono hge); clear hb4)
    | (refine wpList_alloc_zone rfl 38 rfl rz ?_; intro W10 hr hb5 hs5; rw [hs4.out] at hr hb5 hs5; rw [hs4.out]; have hz := hz.below hb5 (by omega); have hb := hb.trans (hb5.mono (by omega)); clear hb5)
    | (refine store_z rfl _ _ rfl rfl rfl hz ?_; intro W11 hz6 hg6 hs6; have hr := hr.only hg6 (by omega); have hb := below_only hb hg6 hb.size (by omega); clear hz; have hz := hz6; clear hz6 hg6 hs6)
    | (refine store_r rfl _ _ rfl rfl rfl hr ?_; intro W12 hr7 hg7 hs7; have hz := hz.only hg7 (by omega); have hb := below_only hb hg7 hb.size (by omega); clear hr; have hr := hr7; clear hr7 hg7 hs7)
    | fail)
  clear HT HRT HAP1 HAP2
  generalize W8.heap.size = g1 at *
  generalize W18.heap.size = g2 at *
  generalize hg11 : g1 + 1 = g11 at *
  generalize hg21 : g2 + 1 = g21 at *
  refine head2z 8 (by kernel_rfl) (by kernel_rfl) (by kernel_rfl) 6 7 (by kernel_rfl) (by decide) 14 15 (by decide) 26 (by kernel_rfl) (by kernel_rfl) _ zz ?_
  simp only [List.take_succ_cons, List.take_zero, List.drop_succ_cons, List.drop_zero]
  (refine o_start ?_; (iterate 8 (first | (refine o_skip rfl rfl rfl ?_) | (refine o_have rfl fun hw => ?_; (first | (refine o_move hw.out _ rfl rfl rfl rfl ?_) | (refine o_pickT hw.out _ _ _ rfl rfl rfl rfl rfl ?_) | (refine o_pickF hw.out _ _ _ rfl rfl rfl rfl rfl ?_) | (refine o_new hw.out rfl rfl rfl ?_) | (refine o_load_z hw.out _ rfl rfl hz rfl rfl ?_) | (refine o_load_z hw.out _ rfl rfl hy rfl rfl ?_) | (refine o_bin hw.out _ _ _ _ _ rfl rfl rfl rfl rfl (fun W => by go_simp; first | done | rfl) ?_) | (refine o_un hw.out _ _ _ rfl rfl rfl rfl (fun W => by go_simp; first | done | rfl) ?_) | (refine o_field hw.out _ _ _ rfl rfl rfl rfl (fun W => by go_simp; first | done | rfl) ?_) | (refine o_index hw.out _ _ _ rfl rfl rfl rfl rfl (fun W => by go_simp; first | done | rfl) ?_) | (refine o_conv hw.out _ _ _ rfl rfl rfl rfl (fun W => by go_simp; first | done | rfl) ?_) | (refine o_call hw.out _ _ _ rfl rfl (fun W hW => E1.out W) (by with_reducible rfl) (by with_reducible rfl) rfl rfl (fun ρ W hρ => by go_simp; done) ?_) | (refine o_call hw.out _ _ _ rfl rfl (fun W hW => E2.out W) (by with_reducible rfl) (by with_reducible rfl) rfl rfl (fun ρ W hρ => by go_simp; done) ?_)); clear hw))); refine o_end ?_; simp only [app, List.set_cons_succ, List.set_cons_zero])
  intro w1 u1 u2 hb1 hu1 hu2 hne hj hv
  have hj : ZAt 26 w1 u1 0 false (fun _ _ => 0) := hj
  have hv : ZAt 26 w1 u2 0 false (fun _ _ => 0) := hv
  have hl1 := hz.lt
  have hl2 := hr.lt
  have hl3 := hy.lt
  have hl4 := hq.lt
  have hl5 := hb.size
  have hz := hz.on hb1
  have hr := hr.on hb1
  have hy := hy.on hb1
  have hq := hq.on hb1
  have hb := hb.trans (hb1.mono hb.size)
  simp only [Act.put, List.setIfInBounds_toArray, List.set_cons_succ, List.set_cons_zero]
  go_wp2_with (first
    | (have _t := hd; (go_at_call 21; ((with_reducible refine (HTO.out _).mono ?_); rintro e W40 ⟨rfl, hb3⟩; have hl6 := Nat.lt_of_lt_of_le hj.lt hb3.size; have hl7 := Nat.lt_of_lt_of_le hv.lt hb3.size; have hl8 := hb3.size; have hl9 := hz.lt; have hl10 := hr.lt; have hl11 := hy.lt; have hl12 := hq.lt; have hz := hz.on hb3; have hr := hr.on hb3; have hy := hy.on hb3; have hq := hq.on hb3; have hj := hj.on hb3; have hv := hv.on hb3; have hb := hb.trans (hb3.mono hb.size); clear hb3 _t)))
    | (have _t := hl7; refine wpList_alloc_zone rfl 26 rfl zz ?_; intro W41 ho hb6 hs9; have hz := hz.on hb6; have hr := hr.on hb6; have hy := hy.on hb6; have hq := hq.on hb6; have hj := hj.on hb6; have hv := hv.on hb6; have hb := hb.trans (hb6.mono hb.size); clear hb6 _t)
    | (have _t := hl7; refine store_z rfl _ _ rfl rfl rfl ho ?_; intro W42 ho7 hg7 hs10; have hz := hz.only hg7 (by omega); have hr := hr.only hg7 (by omega); have hy := hy.only hg7 (by omega); have hq := hq.only hg7 (by omega); have hj := hj.only hg7 (by omega); have hv := hv.only hg7 (by omega); have hb := below_only hb hg7 hb.size (by omega); clear ho; have ho := ho7; clear ho7 hg7 hs10 _t)
    | (refine store_z rfl _ _ rfl rfl rfl hj ?_; intro W43 hj7 hg7 hs10; have hz := hz.only hg7 (by omega); have hr := hr.only hg7 (by omega); have hy := hy.only hg7 (by omega); have hq := hq.only hg7 (by omega); have hv := hv.only hg7 (by omega); have hb := below_only hb hg7 hb.size (by omega); clear hj; have hj := hj7; clear hj7 hg7 hs10)
    | (refine store_z rfl _ _ rfl rfl rfl hv ?_; intro W44 hv7 hg7 hs10; have hd := True.intro; have hz := hz.only hg7 (by omega); have hr := hr.only hg7 (by omega); have hy := hy.only hg7 (by omega); have hq := hq.only hg7 (by omega); have hj := hj.only hg7 (by omega); have hb := below_only hb hg7 hb.size (by omega); clear hv; have hv := hv7; clear hv7 hg7 hs10)
    | fail)
  generalize W40.heap.size = g3 at *
  clear HTO E1 E2 hl1 hl2 hl3 hl4 hl5 hl6 hl7 hl8 hl9 hl10 hl11 hl12
  simp only [List.append_eq, List.cons_append, List.nil_append]
  refine head0 65 (by kernel_rfl) (by kernel_rfl) (by kernel_rfl) (by kernel_rfl) ?_
  simp only [List.take_succ_cons, List.take_zero, List.drop_succ_cons, List.drop_zero]
  (refine o_start ?_; (iterate 65 (first | (refine o_skip rfl rfl rfl ?_) | (refine o_have rfl fun hw => ?_; (first | (refine o_move hw.out _ rfl rfl rfl rfl ?_) | (refine o_pickT hw.out _ _ _ rfl rfl rfl rfl rfl ?_) | (refine o_pickF hw.out _ _ _ rfl rfl rfl rfl rfl ?_) | (refine o_load_z hw.out _ rfl rfl hz rfl rfl ?_) | (refine o_load_z hw.out _ rfl rfl hy rfl rfl ?_) | (refine o_load_z hw.out _ rfl rfl hj rfl rfl ?_) | (refine o_load_z hw.out _ rfl rfl hv rfl rfl ?_) | (refine o_load_z hw.out _ rfl rfl ho rfl rfl ?_) | (refine o_load_r hw.out _ rfl rfl hr rfl rfl ?_) | (refine o_load_r hw.out _ rfl rfl hq rfl rfl ?_) | (refine o_bin hw.out _ _ _ _ _ rfl rfl rfl rfl rfl (fun W => by go_simp; first | done | rfl) ?_) | (refine o_un hw.out _ _ _ rfl rfl rfl rfl (fun W => by go_simp; first | done | rfl) ?_) | (refine o_field hw.out _ _ _ rfl rfl rfl rfl (fun W => by go_simp; first | done | rfl) ?_) | (refine o_index hw.out _ _ _ rfl rfl rfl rfl rfl (fun W => by go_simp; first | done | rfl) ?_) | (refine o_conv hw.out _ _ _ rfl rfl rfl rfl (fun W => by go_simp; first | done | rfl) ?_) | (refine o_call hw.out _ _ _ rfl rfl (fun W hW => E3.out W) (by with_reducible rfl) (by with_reducible rfl) rfl rfl (fun ρ W hρ => by go_simp; done) ?_) | (refine o_call hw.out _ _ _ rfl rfl (fun W hW => E4.out W) (by with_reducible rfl) (by with_reducible rfl) rfl rfl (fun ρ W hρ => by go_simp; done) ?_) | (refine o_call hw.out _ _ _ rfl rfl (fun W hW => E5.out W) (by with_reducible rfl) (by with_reducible rfl) rfl rfl (fun ρ W hρ => by go_simp; done) ?_) | (refine o_call hw.out _ _ _ rfl rfl (fun W hW => E6.out W) (by with_reducible rfl) (by with_reducible rfl) rfl rfl (fun ρ W hρ => by go_simp; done) ?_) | (refine o_call hw.out _ _ _ rfl rfl (fun W hW => E7.out W) (by with_reducible rfl) (by with_reducible rfl) rfl rfl (fun ρ W hρ => by go_simp; done) ?_) | (refine o_call hw.out _ _ _ rfl rfl (fun W hW => E8.out W) (by with_reducible rfl) (by with_reducible rfl) rfl rfl (fun ρ W hρ => by go_simp; done) ?_) | (refine o_call hw.out _ _ _ rfl rfl (fun W hW => E9.out W) (by with_reducible rfl) (by with_reducible rfl) rfl rfl (fun ρ W hρ => by go_simp; done) ?_) | (refine o_call hw.out _ _ _ rfl rfl (fun W hW => E10.out W) (by with_reducible rfl) (by with_reducible rfl) rfl rfl (fun ρ W hρ => by go_simp; done) ?_) | (refine o_call hw.out _ _ _ rfl rfl (fun W hW => E11.out W) (by with_reducible rfl) (by with_reducible rfl) rfl rfl (fun ρ W hρ => by go_simp; done) ?_) | (refine o_call hw.out _ _ _ rfl rfl (fun W hW => E12.out W) (by with_reducible rfl) (by with_reducible rfl) rfl rfl (fun ρ W hρ => by go_simp; done) ?_) | (refine o_call hw.out _ _ _ rfl rfl (fun W hW => E13.out W) (by with_reducible rfl) (by with_reducible rfl) rfl rfl (fun ρ W hρ => by go_simp; done) ?_) | (refine o_call hw.out _ _ _ rfl rfl (fun W hW => E14.out W) (by with_reducible rfl) (by with_reducible rfl) rfl rfl (fun ρ W hρ => by go_simp; done) ?_) | (refine o_call hw.out _ _ _ rfl rfl (fun W hW => E15.out W) (by with_reducible rfl) (by with_reducible rfl) rfl rfl (fun ρ W hρ => by go_simp; done) ?_) | (refine o_call hw.out _ _ _ rfl rfl (fun W hW => E16.out W) (by with_reducible rfl) (by with_reducible rfl) rfl rfl (fun ρ W hρ => by go_simp; done) ?_)); clear hw))); refine o_end ?_; simp only [app, List.set_cons_succ, List.set_cons_zero])
  intro w3 hb3
  have hb := hb.trans (hb3.mono hb.size)
  clear hb3 hz hr hy hq hj hv ho
  go_wp2
  go_ret
  exact ⟨rfl, hb⟩
end Go.Proofs.Ytgnkhncogfppgaa
