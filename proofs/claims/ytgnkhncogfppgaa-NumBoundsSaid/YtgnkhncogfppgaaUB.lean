import Derived.Test.YtgnkhncogfppgaaUA
import Derived.Test.YtgnkhncogfppgaaU9
namespace Go.Proofs.Ytgnkhncogfppgaa
open Go.RowKit
set_option maxRecDepth 100000 in
set_option maxHeartbeats 8000000 in
theorem bounds_walk (lo hi b : Int) (q1 : -2147483648 ≤ lo) (q2 : lo ≤ 2147483647) (q3 : 0 ≤ hi) (q4 : hi ≤ 255) (q5 : -2147483648 ≤ b) (q6 : b ≤ 2147483647) (w : World) : Calls Try.prog 10 #[.int .i32 lo, .int .u8 hi, .int .i32 b] w (Ret w (.bool true)) := by
  obtain ⟨l, hl⟩ : ∃ l, lo.tmod 100000 = l := ⟨_, rfl⟩
  obtain ⟨l1, l2⟩ : -100000 ≤ l ∧ l ≤ 100000 := by rw [← hl]; exact tmod_lim _
  obtain ⟨d, hd⟩ : ∃ d, b.tmod 1000 = d := ⟨_, rfl⟩
  obtain ⟨d1, d2⟩ : -1000 ≤ d ∧ d ≤ 1000 := by rw [← hd]; exact tmod_lim1 _
  obtain ⟨h, hh⟩ : ∃ h, l + hi = h := ⟨_, rfl⟩
  have h1 : l ≤ h := by omega
  have h2 : h ≤ 100300 := by omega
  have F := bounds_f l1 l2 h1 h2 d1 d2
  have HT : Hid (∀ W : World, Calls Try.prog 47 #[.int .i64 2] W (NRet W (topZ 2))) := fun W => num_top 2 (by omega) W
  have HB : Hid (∀ sl W, Calls Try.prog 46 #[.agg (nz (topZ 2) sl), .int .i64 0, .int .i64 1, .int .i64 d] W (NRet W (boundZ (topZ 2) 0 1 d))) := fun sl W => num_bound (topZ 2) (by rw [t2_n]; omega) _ sl 0 1 d W
  have HM1 : Hid (∀ sl W, Calls Try.prog 48 #[.agg (nz (boundZ (topZ 2) 0 1 d) sl), .int .i64 1, .agg (ic l h)] W (NRet W (heldZ (boundZ (topZ 2) 0 1 d) 1 (l, h)))) := fun sl W => num_meet _ (by rw [F.an]; omega) _ sl (fun _ _ _ => by omega) W
  have HM0 : Hid (∀ sl W, Calls Try.prog 48 #[.agg (nz (boundZ (topZ 2) 0 1 d) sl), .int .i64 0, .agg (ic l h)] W (NRet W (heldZ (boundZ (topZ 2) 0 1 d) 0 (l, h)))) := fun sl W => num_meet _ (by rw [F.an]; omega) _ sl (fun _ _ _ => by omega) W
  generalize heldZ (boundZ (topZ 2) 0 1 d) 1 (l, h) = B at *
  generalize heldZ (boundZ (topZ 2) 0 1 d) 0 (l, h) = C at *
  generalize boundZ (topZ 2) 0 1 d = A at *
  generalize topZ 2 = T at *
  obtain ⟨DA, rfl⟩ : ∃ D, A = ⟨2, false, D⟩ := ⟨A.D, Zn.ext' F.an F.a0 fun _ _ => rfl⟩
  obtain ⟨DB, rfl⟩ : ∃ D, B = ⟨2, false, D⟩ := ⟨B.D, Zn.ext' F.bn F.b0 fun _ _ => rfl⟩
  obtain ⟨DC, rfl⟩ : ∃ D, C = ⟨2, false, D⟩ := ⟨C.D, Zn.ext' F.cn F.c0 fun _ _ => rfl⟩
  have HO : Hid (∀ W : World, Calls Try.prog 49 #[.int .i64 l, .int .i64 h] W (Ret W (.agg (ic l h)))) := fun W => by
    have := of_any l h W; rw [ofP_in (by omega) (by omega) h1] at this; exact this
  have HO1 : Hid (∀ W : World, Calls Try.prog 49 #[.int .i64 (-2147483648), .int .i64 (h + d)] W (Ret W (.agg (ic (-2147483648) (h + d))))) := fun W => by
    have := of_any (-2147483648) (h + d) W; rw [ofP_in (by omega) (by omega) (by omega)] at this; exact this
  have HO2 : Hid (∀ W : World, Calls Try.prog 49 #[.int .i64 (l - d), .int .i64 2147483647] W (Ret W (.agg (ic (l - d) 2147483647)))) := fun W => by
    have := of_any (l - d) 2147483647 W; rw [ofP_in (by omega) (by omega) (by omega)] at this; exact this
  have HF := Lib.hid F
  clear F
  go_enter Try.func10, Try.ntmps10
  go_wp2_with (first
    | (go_at_call 47; ((with_reducible refine (HT.out _).mono ?_); rintro e W1 ⟨_, rfl, ⟨sl1, rfl, ho1⟩, hb⟩; clear ho1))
    | (go_at_call 46; ((with_reducible refine (HB.out _ _).mono ?_); rintro e W2 ⟨_, rfl, ⟨slA, rfl, ho⟩, hb2⟩; have hb := hb.trans (hb2.mono hb.size); clear hb2))
    | (refine alloc_n rfl rfl ?_; intro W3 hr hb3 hs3; have ho := ho.on hb3; have hgz := hb.size; have hb := hb.trans (hb3.mono hb.size); clear hb3 hs3)
    | (refine store_n rfl _ _ rfl rfl rfl ho.one hr ?_; intro W4 hv hg4 hs4; have ho := ho.only hg4 hr (by decide); have hb := below_only hb hg4 hb.size (by omega); clear hg4 hs4 hr)
    | fail)
  have NA : NumAt _ _ _ ⟨2, false, DA⟩ slA := ⟨hv, ho⟩
  have NAl := NA.lt
  clear hv ho hl hd hh HT HB
  generalize W2.heap.size = gA at *
  generalize W1.heap.size = bA at *
  have hb0 := hb.size
  have HL : StabL [(4, NumV ⟨2, false, DB⟩ W4.heap.size), (5, NewN W4.heap.size)] := .cons (NumV.stab _ _) (.cons (NewN.stab _) .nil)
  apply region_K 6 [(4, NumV ⟨2, false, DB⟩ W4.heap.size), (5, NewN W4.heap.size)] HL (by kernel_rfl) (by kernel_rfl) (by kernel_rfl)
  simp only [List.take_succ_cons, List.take_zero, List.drop_succ_cons, List.drop_zero]
  iterate 4 ((apply g_det; (exact rfl); (exact rfl); (exact rfl); (exact rfl); focus (intro W0 hW0; (first | (refine o_skip rfl rfl rfl ?_) | (refine o_have rfl fun hw => ?_; (first | (refine o_assign hw.out _ rfl rfl rfl rfl ?_) | (refine o_move hw.out _ rfl rfl rfl rfl ?_) | (refine o_pickT hw.out _ _ _ rfl rfl rfl rfl rfl ?_) | (refine o_pickF hw.out _ _ _ rfl rfl rfl rfl rfl ?_) | (refine o_load_n hw.out _ rfl rfl (NA.row.on hW0) rfl rfl ?_) | (refine o_bin hw.out _ _ _ _ _ rfl rfl rfl rfl rfl (fun W => by go_simp; first | done | rfl) ?_) | (refine o_un hw.out _ _ _ rfl rfl rfl rfl (fun W => by go_simp; first | done | rfl) ?_) | (refine o_field hw.out _ _ _ rfl rfl rfl rfl (fun W => by go_simp; first | done | rfl) ?_) | (refine o_index hw.out _ _ _ rfl rfl rfl rfl rfl (fun W => by go_simp; first | done | rfl) ?_) | (refine o_conv hw.out _ _ _ rfl rfl rfl rfl (fun W => by go_simp; first | done | rfl) ?_) | (refine o_call hw.out _ _ _ rfl rfl (fun W hW => HO.out W) (by with_reducible rfl) (by with_reducible rfl) rfl rfl (fun ρ W hρ => by go_simp; done) ?_)))); exact g_lk rfl)))
  (apply g_K HL (Nat.le_refl _) (A := fun v => ∃ sl, v = .agg (nz ⟨2, false, DB⟩ sl)); (case hv => exact ⟨_, snil, rfl⟩); (case h1 => exact (fun hst W hA => step_callK hst rfl _ _ _ rfl rfl (fun ρ W hρ => by go_simp; done) (HM1.out _ W) rfl rfl fun e w1 ⟨v, h1, h2, h3⟩ => ⟨v, h1, h2.imp fun _ h => h.1, h3, by first | exact ⟨h2.mono hA.bw.size, trivial⟩ | exact trivial⟩)); rintro _ ⟨slB, rfl⟩; dsimp only [putO])
  (apply g_K HL (Nat.le_refl _) (A := fun v => ∃ g, v = pt g); (case hv => exact ⟨_, 0, rfl⟩); (case h1 => exact (fun hst W hA => step_new_n hst rfl rfl hA.bw.size fun v W1 h => ⟨h, trivial⟩)); rintro _ ⟨gB, rfl⟩; dsimp only [putO])
  refine g_endK (n := 6) (fun w1 hW hget => ?_)
  have ho := (((hget 4 _ _ _ _ (List.mem_of_getElem? (i := 0) rfl) (by omega) rfl rfl rfl)) : NumV _ _ _ _).own
  obtain ⟨hgB, hr⟩ := ((hget 5 _ _ _ _ (List.mem_of_getElem? (i := 1) rfl) (by omega) rfl rfl rfl) : NewN _ _ _).get
  have hb := hb.trans (hW.mono hb.size)
  have NA := NA.on hW
  have ltNA := Nat.lt_of_lt_of_le NAl hgB
  clear hget HL
  simp only [fr, app, pt, List.set_cons_succ, List.set_cons_zero]
  go_wp2_with (first
    | (refine store_n rfl _ _ rfl rfl rfl ho.one hr ?_; intro W5 hv hg9 hs9; have ho := ho.only hg9 hr (by decide); have NA := NA.only hg9 hr (by decide) (Nat.ne_of_lt ltNA); have hb := below_only hb hg9 hb.size (Nat.le_trans hb0 hgB); clear hg9 hs9 hr)
    | fail)
  have NB : NumAt _ _ _ ⟨2, false, DB⟩ slB := ⟨hv, ho⟩
  have NBl := NB.lt
  have NAl := NA.lt
  clear ltNA
  clear hv ho hb0 hgB
  have hb0 := hb.size
  have HL : StabL [(4, NumV ⟨2, false, DC⟩ W5.heap.size), (5, NewN W5.heap.size)] := .cons (NumV.stab _ _) (.cons (NewN.stab _) .nil)
  apply region_K 6 [(4, NumV ⟨2, false, DC⟩ W5.heap.size), (5, NewN W5.heap.size)] HL (by kernel_rfl) (by kernel_rfl) (by kernel_rfl)
  simp only [List.take_succ_cons, List.take_zero, List.drop_succ_cons, List.drop_zero]
  iterate 4 ((apply g_det; (exact rfl); (exact rfl); (exact rfl); (exact rfl); focus (intro W0 hW0; (first | (refine o_skip rfl rfl rfl ?_) | (refine o_have rfl fun hw => ?_; (first | (refine o_assign hw.out _ rfl rfl rfl rfl ?_) | (refine o_move hw.out _ rfl rfl rfl rfl ?_) | (refine o_pickT hw.out _ _ _ rfl rfl rfl rfl rfl ?_) | (refine o_pickF hw.out _ _ _ rfl rfl rfl rfl rfl ?_) | (refine o_load_n hw.out _ rfl rfl (NA.row.on hW0) rfl rfl ?_) | (refine o_bin hw.out _ _ _ _ _ rfl rfl rfl rfl rfl (fun W => by go_simp; first | done | rfl) ?_) | (refine o_un hw.out _ _ _ rfl rfl rfl rfl (fun W => by go_simp; first | done | rfl) ?_) | (refine o_field hw.out _ _ _ rfl rfl rfl rfl (fun W => by go_simp; first | done | rfl) ?_) | (refine o_index hw.out _ _ _ rfl rfl rfl rfl rfl (fun W => by go_simp; first | done | rfl) ?_) | (refine o_conv hw.out _ _ _ rfl rfl rfl rfl (fun W => by go_simp; first | done | rfl) ?_) | (refine o_call hw.out _ _ _ rfl rfl (fun W hW => HO.out W) (by with_reducible rfl) (by with_reducible rfl) rfl rfl (fun ρ W hρ => by go_simp; done) ?_)))); exact g_lk rfl)))
  (apply g_K HL (Nat.le_refl _) (A := fun v => ∃ sl, v = .agg (nz ⟨2, false, DC⟩ sl)); (case hv => exact ⟨_, snil, rfl⟩); (case h1 => exact (fun hst W hA => step_callK hst rfl _ _ _ rfl rfl (fun ρ W hρ => by go_simp; done) (HM0.out _ W) rfl rfl fun e w1 ⟨v, h1, h2, h3⟩ => ⟨v, h1, h2.imp fun _ h => h.1, h3, by first | exact ⟨h2.mono hA.bw.size, trivial⟩ | exact trivial⟩)); rintro _ ⟨slC, rfl⟩; dsimp only [putO])
  (apply g_K HL (Nat.le_refl _) (A := fun v => ∃ g, v = pt g); (case hv => exact ⟨_, 0, rfl⟩); (case h1 => exact (fun hst W hA => step_new_n hst rfl rfl hA.bw.size fun v W1 h => ⟨h, trivial⟩)); rintro _ ⟨gC, rfl⟩; dsimp only [putO])
  refine g_endK (n := 6) (fun w1 hW hget => ?_)
  have ho := (((hget 4 _ _ _ _ (List.mem_of_getElem? (i := 0) rfl) (by omega) rfl rfl rfl)) : NumV _ _ _ _).own
  obtain ⟨hgC, hr⟩ := ((hget 5 _ _ _ _ (List.mem_of_getElem? (i := 1) rfl) (by omega) rfl rfl rfl) : NewN _ _ _).get
  have hb := hb.trans (hW.mono hb.size)
  have NA := NA.on hW
  have ltNA := Nat.lt_of_lt_of_le NAl hgC
  have NB := NB.on hW
  have ltNB := Nat.lt_of_lt_of_le NBl hgC
  clear hget HL
  simp only [fr, app, pt, List.set_cons_succ, List.set_cons_zero]
  go_wp2_with (first
    | (refine store_n rfl _ _ rfl rfl rfl ho.one hr ?_; intro W6 hv hg9 hs9; have ho := ho.only hg9 hr (by decide); have NA := NA.only hg9 hr (by decide) (Nat.ne_of_lt ltNA); have NB := NB.only hg9 hr (by decide) (Nat.ne_of_lt ltNB); have hb := below_only hb hg9 hb.size (Nat.le_trans hb0 hgC); clear hg9 hs9 hr)
    | fail)
  have NC : NumAt _ _ _ ⟨2, false, DC⟩ slC := ⟨hv, ho⟩
  have NCl := NC.lt
  have NAl := NA.lt
  clear ltNA
  have NBl := NB.lt
  clear ltNB
  clear hv ho hb0 hgC
  obtain ⟨adB, cB, rfl, sB⟩ := NB.own.slt
  obtain ⟨bB, rfl, xB⟩ := sB 0 (by show 0 < 2; omega)
  obtain ⟨adC, cC, rfl, sC⟩ := NC.own.slt
  obtain ⟨bC, rfl, xC⟩ := sC 1 (by show 1 < 2; omega)
  rw [show itvs ⟨2, false, DB⟩ 0 = (-2147483648, h + d) from HF.out.bi] at xB
  rw [show itvs ⟨2, false, DC⟩ 1 = (l - d, 2147483647) from HF.out.ci] at xC
  have CB := Lib.hid xB
  have CC := Lib.hid xC
  clear xB xC sB sC
  have IB : Hid (∀ W, (Instr.indexAt 55 (.slice (some ⟨bB, 0, none⟩) 2 cB) (.int .i64 0)).run Try.prog W = .ok (.pointer (some ⟨bB, 0 * 2, none⟩)) W) := fun W => run_index_t (k := 0) rfl (by omega) W
  have IC : Hid (∀ W, (Instr.indexAt 55 (.slice (some ⟨bC, 0, none⟩) 2 cC) (.int .i64 1)).run Try.prog W = .ok (.pointer (some ⟨bC, 1 * 2, none⟩)) W) := fun W => run_index_t (k := 1) rfl (by omega) W
  have HW1 : Hid (∀ W : World, Calls Try.prog 50 #[.agg (nz ⟨2, false, DB⟩ (.slice (some ⟨bB, 0, none⟩) 2 cB)), .agg (nz ⟨2, false, DA⟩ slA)] W (Ret W (.bool true))) := fun W => by
    have := num_within ⟨2, false, DB⟩ ⟨2, false, DA⟩ (by show 2 ≤ 6; omega) false false (.slice (some ⟨bB, 0, none⟩) 2 cB) slA W
    rw [HF.out.ba] at this; exact this
  have HW2 : Hid (∀ W : World, Calls Try.prog 50 #[.agg (nz ⟨2, false, DC⟩ (.slice (some ⟨bC, 0, none⟩) 2 cC)), .agg (nz ⟨2, false, DA⟩ slA)] W (Ret W (.bool true))) := fun W => by
    have := num_within ⟨2, false, DC⟩ ⟨2, false, DA⟩ (by show 2 ≤ 6; omega) false false (.slice (some ⟨bC, 0, none⟩) 2 cC) slA W
    rw [HF.out.ca] at this; exact this
  refine head0 45 (by kernel_rfl) (by kernel_rfl) (by kernel_rfl) (by kernel_rfl) ?_
  simp only [List.take_succ_cons, List.take_zero, List.drop_succ_cons, List.drop_zero]
  (refine o_start ?_; (iterate 45 (first | (refine o_skip rfl rfl rfl ?_) | (refine o_have rfl fun hw => ?_; (first | (refine o_move hw.out _ rfl rfl rfl rfl ?_) | (refine o_pickT hw.out _ _ _ rfl rfl rfl rfl rfl ?_) | (refine o_pickF hw.out _ _ _ rfl rfl rfl rfl rfl ?_) | (refine o_load_n hw.out _ rfl rfl NA.row rfl rfl ?_) | (refine o_load_n hw.out _ rfl rfl NB.row rfl rfl ?_) | (refine o_load_n hw.out _ rfl rfl NC.row rfl rfl ?_) | (refine o_loadc hw.out _ _ rfl rfl NB.c1 rfl rfl Try.underlying55 rfl ?_) | (refine o_loadc hw.out _ _ rfl rfl NC.c1 rfl rfl Try.underlying55 rfl ?_) | (refine o_len hw.out _ rfl rfl rfl rfl ?_) | (refine o_index hw.out _ _ _ rfl rfl rfl rfl rfl (fun W => IB.out W) ?_) | (refine o_index hw.out _ _ _ rfl rfl rfl rfl rfl (fun W => IC.out W) ?_) | (refine o_load_two hw.out _ rfl rfl CB.out rfl rfl ?_) | (refine o_load_two hw.out _ rfl rfl CC.out rfl rfl ?_) | (refine o_bin hw.out _ _ _ _ _ rfl rfl rfl rfl rfl (v := .int .i64 (h + d)) (fun W => by go_simp; exact IntWalk.i64_in _ (by omega)) ?_) | (refine o_bin hw.out _ _ _ _ _ rfl rfl rfl rfl rfl (v := .int .i64 (l - d)) (fun W => by go_simp; exact IntWalk.i64_in _ (by omega)) ?_) | (refine o_bin hw.out _ _ _ _ _ rfl rfl rfl rfl rfl (fun W => by go_simp; first | done | rfl) ?_) | (refine o_un hw.out _ _ _ rfl rfl rfl rfl (fun W => by go_simp; first | done | rfl) ?_) | (refine o_field hw.out _ _ _ rfl rfl rfl rfl (fun W => by go_simp; first | done | rfl) ?_) | (refine o_index hw.out _ _ _ rfl rfl rfl rfl rfl (fun W => by go_simp; first | done | rfl) ?_) | (refine o_conv hw.out _ _ _ rfl rfl rfl rfl (fun W => by go_simp; first | done | rfl) ?_) | (refine o_call hw.out _ _ _ rfl rfl (fun W hW => meets_any W) (by with_reducible rfl) (by with_reducible rfl) rfl rfl (fun ρ W hρ => by go_simp; done) ?_) | (refine o_call hw.out _ _ _ rfl rfl (fun W hW => HO1.out W) (by with_reducible rfl) (by with_reducible rfl) rfl rfl (fun ρ W hρ => by go_simp; done) ?_) | (refine o_call hw.out _ _ _ rfl rfl (fun W hW => HO2.out W) (by with_reducible rfl) (by with_reducible rfl) rfl rfl (fun ρ W hρ => by go_simp; done) ?_) | (refine o_call hw.out _ _ _ rfl rfl (fun W hW => HW1.out W) (by with_reducible rfl) (by with_reducible rfl) rfl rfl (fun ρ W hρ => by go_simp; done) ?_) | (refine o_call hw.out _ _ _ rfl rfl (fun W hW => HW2.out W) (by with_reducible rfl) (by with_reducible rfl) rfl rfl (fun ρ W hρ => by go_simp; done) ?_)); clear hw))); refine o_end ?_; simp only [app, List.set_cons_succ, List.set_cons_zero])
  intro w3 hb3
  have hb := hb.trans (hb3.mono hb.size)
  clear hb3 NA NB NC
  go_wp2
  go_ret
  exact ⟨rfl, hb⟩
end Go.Proofs.Ytgnkhncogfppgaa
