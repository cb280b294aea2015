import Derived.Test.YtgnkhncogfppgaaU6
import Derived.Test.YtgnkhncogfppgaaU7
namespace Go.Proofs.Ytgnkhncogfppgaa
open Go.RowKit
set_option maxRecDepth 100000 in
set_option maxHeartbeats 4000000 in
theorem meets_any (w : World) : Calls Try.prog 39 #[] w (Ret w (.bool true)) := by
  have hi0 := mt2_itv
  have hh1 := mt2_has
  have hh2 := mt2_hasnt
  have hok := mt2_ok
  have hno := (mt2_sat (u := 4) (by omega) (by omega)).1
  have hnn := mt2_n
  have HZ : Hid (∀ W : World, Calls Try.prog 38 #[.int .i64 1] W (NRet W (zerosZ 1))) := fun W => num_zeros 1 (by omega) W
  have H25 : Hid (∀ W : World, Calls Try.prog 49 #[.int .i64 2, .int .i64 5] W (Ret W (.agg (ic 2 5)))) := fun W => of_any 2 5 W
  have H49 : Hid (∀ W : World, Calls Try.prog 49 #[.int .i64 4, .int .i64 9] W (Ret W (.agg (ic 4 9)))) := fun W => of_any 4 9 W
  have H45 : Hid (∀ W : World, Calls Try.prog 49 #[.int .i64 4, .int .i64 5] W (Ret W (.agg (ic 4 5)))) := fun W => of_any 4 5 W
  have HS : Hid (∀ (sl : Value) (W : World), Calls Try.prog 37 #[.agg (nz (zerosZ 1) sl), .int .i64 0, .agg (ic 2 5)] W (NRet W mt1)) := fun sl W => num_set (zerosZ 1) (by decide) _ sl (fun _ _ _ => by omega) W
  have HM : Hid (∀ (sl : Value) (W : World), Calls Try.prog 48 #[.agg (nz mt1 sl), .int .i64 0, .agg (ic 4 9)] W (NRet W mt2)) := fun sl W => num_meet mt1 (by rw [mt1_n]; decide) _ sl (fun _ _ _ => by omega) W
  have HN : Hid (∀ W : World, Calls Try.prog 53 #[.int .i64 2] W (NRet W (noneZ 2))) := fun W => num_none 2 (by omega) W
  generalize zerosZ 1 = z0 at *
  generalize mt1 = z1 at *
  generalize mt2 = z2 at *
  obtain ⟨D2, rfl⟩ : ∃ D, z2 = ⟨1, false, D⟩ := ⟨z2.D, Zn.ext' hnn hno fun _ _ => rfl⟩
  have HI0 := Lib.hid hi0
  have HH1 := Lib.hid hh1
  have HH2 := Lib.hid hh2
  have HOK := Lib.hid hok
  clear hi0 hh1 hh2 hok hno hnn
  go_enter Try.func39, Try.ntmps39
  go_wp2_with (first
    | (go_at_call 38; ((with_reducible refine (HZ.out _).mono ?_); rintro e W1 ⟨_, rfl, ⟨sl1, rfl, ho1⟩, hb⟩; clear ho1))
    | (go_at_call 49; ((with_reducible refine (H25.out _).mono ?_); rintro e W2 ⟨rfl, hb2⟩; have hb := hb.trans (hb2.mono hb.size); clear hb2))
    | (go_at_call 37; ((with_reducible refine (HS.out _ _).mono ?_); rintro e W3 ⟨_, rfl, ⟨sl3, rfl, ho3⟩, hb3⟩; have hb := hb.trans (hb3.mono hb.size); clear hb3 ho3))
    | (go_at_call 49; ((with_reducible refine (H49.out _).mono ?_); rintro e W4 ⟨rfl, hb4⟩; have hb := hb.trans (hb4.mono hb.size); clear hb4))
    | (go_at_call 48; ((with_reducible refine (HM.out _ _).mono ?_); rintro e W5 ⟨_, rfl, ⟨sl5, rfl, ho⟩, hb5⟩; have hb := hb.trans (hb5.mono hb.size); clear hb5))
    | (refine alloc_n rfl rfl ?_; intro W6 hr hb6 hs6; have ho := ho.on hb6; have hgz := hb.size; have hb := hb.trans (hb6.mono hb.size); clear hb6 hs6)
    | (refine store_n rfl _ _ rfl rfl rfl ho.one hr ?_; intro W7 hv hg7 hs7; have ho := ho.only hg7 hr (by decide); have hb := below_only hb hg7 hb.size (by omega); clear hg7 hs7 hr)
    | fail)
  obtain ⟨ad, cap, rfl, hs⟩ := ho.slt
  obtain ⟨gs, rfl, hc⟩ := hs 0 (by show 0 < 1; omega)
  rw [show itvs ⟨1, false, D2⟩ 0 = (4, 5) from HI0.out] at hc
  have HC := Lib.hid hc
  have HO := Lib.hid ho
  clear hs hc ho
  have hc1 := hv.cell 1
  rw [nc_sl] at hc1
  have HC1 := Lib.hid hc1
  clear hc1
  have HV := Lib.hid hv
  clear hv
  generalize hgv : W5.heap.size = gv at *
  clear hgv
  have HR : Hid (∀ W : World, Below W7.heap.size W7 W → Calls Try.prog 41 #[.agg (nc false (.slice (some ⟨gs, 0, none⟩) 1 cap) ((1 : Nat) : Int) false D2)] W (Ret W (.bool true))) := fun W hW => num_right HOK.out (HO.out.slt.on hW)
  have HH : Hid (∀ (g : Nat) (W : World) (u : Int) (b : Bool), (hasB ⟨1, false, D2⟩ 1 fun _ => u) = b → SlcI 1 (fun _ => u) (slc g 1) W → Calls Try.prog 56 #[.agg (nc false (.slice (some ⟨gs, 0, none⟩) 1 cap) ((1 : Nat) : Int) false D2), slc g 1] W (Ret W (.bool b))) := fun g W u b e h => by rw [← e]; exact num_has_yes ⟨1, false, D2⟩ (by show 1 ≤ 6; omega) _ (by omega) h.sli
  have HIX : Hid (∀ W, (Instr.indexAt 55 (.slice (some ⟨gs, 0, none⟩) 1 cap) (.int .i64 0)).run Try.prog W = .ok (.pointer (some ⟨gs, 0 * 2, none⟩)) W) := fun W => run_index_t (k := 0) rfl (by omega) W
  clear HZ HS HM
  have HL : StabL [(14, SlcI 1 fun _ => 4), (19, SlcI 1 fun _ => 3)] := .cons (SlcI.stab _ _) (.cons (SlcI.stab _ _) .nil)
  apply region_K 32 [(14, SlcI 1 fun _ => 4), (19, SlcI 1 fun _ => 3)] HL (by kernel_rfl) (by kernel_rfl) (by kernel_rfl)
  simp only [List.take_succ_cons, List.take_zero, List.drop_succ_cons, List.drop_zero]
  iterate 14 ((apply g_det; (exact rfl); (exact rfl); (exact rfl); (exact rfl); focus (intro W0 hW0; (first | (refine o_skip rfl rfl rfl ?_) | (refine o_have rfl fun hw => ?_; (first | (refine o_assign hw.out _ rfl rfl rfl rfl ?_) | (refine o_move hw.out _ rfl rfl rfl rfl ?_) | (refine o_pickT hw.out _ _ _ rfl rfl rfl rfl rfl ?_) | (refine o_pickF hw.out _ _ _ rfl rfl rfl rfl rfl ?_) | (refine o_load_n hw.out _ rfl rfl (HV.out.on hW0) rfl rfl ?_) | (refine o_loadc hw.out _ _ rfl rfl ((hW0.cell (p := ⟨_, _, none⟩) (block_lt_of_cell HC1.out)).trans HC1.out) rfl rfl Try.underlying55 rfl ?_) | (refine o_len hw.out _ rfl rfl rfl rfl ?_) | (refine o_index hw.out _ _ _ rfl rfl rfl rfl rfl (fun W => HIX.out W) ?_) | (refine o_load_two hw.out _ rfl rfl ⟨(hW0.cell (p := ⟨_, _, none⟩) (block_lt_of_cell HC.out.1)).trans HC.out.1, (hW0.cell (p := ⟨_, _, none⟩) (block_lt_of_cell HC.out.2)).trans HC.out.2⟩ rfl rfl ?_) | (refine o_bin hw.out _ _ _ _ _ rfl rfl rfl rfl rfl (fun W => by go_simp; first | done | rfl) ?_) | (refine o_un hw.out _ _ _ rfl rfl rfl rfl (fun W => by go_simp; first | done | rfl) ?_) | (refine o_field hw.out _ _ _ rfl rfl rfl rfl (fun W => by go_simp; first | done | rfl) ?_) | (refine o_index hw.out _ _ _ rfl rfl rfl rfl rfl (fun W => by go_simp; first | done | rfl) ?_) | (refine o_conv hw.out _ _ _ rfl rfl rfl rfl (fun W => by go_simp; first | done | rfl) ?_) | (refine o_call hw.out _ _ _ rfl rfl (fun W hW => H45.out W) (by with_reducible rfl) (by with_reducible rfl) rfl rfl (fun ρ W hρ => by go_simp; done) ?_)))); exact g_lk rfl)))
  apply g_K HL (Nat.le_refl _) (A := fun v => ∃ q, v = slc q 1)
  case hv => exact ⟨_, 0, rfl⟩
  case h1 => exact fun hst W hA => step_lit_1 hst rfl _ rfl rfl fun v W' h => ⟨h, trivial⟩
  rintro _ ⟨q14, rfl⟩
  dsimp only [putO]
  apply g_K HL (Nat.le_refl _) (A := fun v => v = .bool true)
  case hv => exact ⟨_, rfl⟩
  case h1 => exact fun hst W hA => step_callK hst rfl _ _ _ rfl rfl (fun ρ W hρ => by go_simp; done) (HH.out q14 W 4 true HH1.out (hA.at (i := 0) rfl rfl rfl rfl rfl rfl)) rfl rfl fun e w' ⟨h1, h2⟩ => ⟨_, h1, rfl, h2, trivial⟩
  rintro _ rfl
  dsimp only [putO]
  iterate 3 ((apply g_det; (exact rfl); (exact rfl); (exact rfl); (exact rfl); focus (intro W0 hW0; (first | (refine o_skip rfl rfl rfl ?_) | (refine o_have rfl fun hw => ?_; (first | (refine o_assign hw.out _ rfl rfl rfl rfl ?_) | (refine o_move hw.out _ rfl rfl rfl rfl ?_) | (refine o_pickT hw.out _ _ _ rfl rfl rfl rfl rfl ?_) | (refine o_pickF hw.out _ _ _ rfl rfl rfl rfl rfl ?_) | (refine o_load_n hw.out _ rfl rfl (HV.out.on hW0) rfl rfl ?_) | (refine o_bin hw.out _ _ _ _ _ rfl rfl rfl rfl rfl (fun W => by go_simp; first | done | rfl) ?_) | (refine o_un hw.out _ _ _ rfl rfl rfl rfl (fun W => by go_simp; first | done | rfl) ?_) | (refine o_field hw.out _ _ _ rfl rfl rfl rfl (fun W => by go_simp; first | done | rfl) ?_) | (refine o_index hw.out _ _ _ rfl rfl rfl rfl rfl (fun W => by go_simp; first | done | rfl) ?_) | (refine o_conv hw.out _ _ _ rfl rfl rfl rfl (fun W => by go_simp; first | done | rfl) ?_)))); exact g_lk rfl)))
  apply g_K HL (Nat.le_refl _) (A := fun v => ∃ q, v = slc q 1)
  case hv => exact ⟨_, 0, rfl⟩
  case h1 => exact fun hst W hA => step_lit_1 hst rfl _ rfl rfl fun v W' h => ⟨h, trivial⟩
  rintro _ ⟨q19, rfl⟩
  dsimp only [putO]
  apply g_K HL (Nat.le_refl _) (A := fun v => v = .bool false)
  case hv => exact ⟨_, rfl⟩
  case h1 => exact fun hst W hA => step_callK hst rfl _ _ _ rfl rfl (fun ρ W hρ => by go_simp; done) (HH.out q19 W 3 false HH2.out (hA.at (i := 1) rfl rfl rfl rfl rfl rfl)) rfl rfl fun e w' ⟨h1, h2⟩ => ⟨_, h1, rfl, h2, trivial⟩
  rintro _ rfl
  dsimp only [putO]
  iterate 7 ((apply g_det; (exact rfl); (exact rfl); (exact rfl); (exact rfl); focus (intro W0 hW0; (first | (refine o_skip rfl rfl rfl ?_) | (refine o_have rfl fun hw => ?_; (first | (refine o_assign hw.out _ rfl rfl rfl rfl ?_) | (refine o_move hw.out _ rfl rfl rfl rfl ?_) | (refine o_pickT hw.out _ _ _ rfl rfl rfl rfl rfl ?_) | (refine o_pickF hw.out _ _ _ rfl rfl rfl rfl rfl ?_) | (refine o_load_n hw.out _ rfl rfl (HV.out.on hW0) rfl rfl ?_) | (refine o_bin hw.out _ _ _ _ _ rfl rfl rfl rfl rfl (fun W => by go_simp; first | done | rfl) ?_) | (refine o_un hw.out _ _ _ rfl rfl rfl rfl (fun W => by go_simp; first | done | rfl) ?_) | (refine o_field hw.out _ _ _ rfl rfl rfl rfl (fun W => by go_simp; first | done | rfl) ?_) | (refine o_index hw.out _ _ _ rfl rfl rfl rfl rfl (fun W => by go_simp; first | done | rfl) ?_) | (refine o_conv hw.out _ _ _ rfl rfl rfl rfl (fun W => by go_simp; first | done | rfl) ?_) | (refine o_call hw.out _ _ _ rfl rfl (fun W hW => HR.out W (hW0.trans (hW.mono hW0.size))) (by with_reducible rfl) (by with_reducible rfl) rfl rfl (fun ρ W hρ => by go_simp; done) ?_)))); exact g_lk rfl)))
  apply g_K HL (Nat.le_refl _) (A := fun v => ∃ sl, v = .agg (nz (noneZ 2) sl))
  case hv => exact ⟨_, snil, rfl⟩
  case h1 => exact fun hst W hA => step_callK hst rfl _ _ _ rfl rfl (fun ρ W hρ => by go_simp; done) (HN.out W) rfl rfl fun e w' ⟨v, h1, ⟨sl, h2, _⟩, h3⟩ => ⟨_, h1, ⟨sl, h2⟩, h3, trivial⟩
  rintro _ ⟨sl28, rfl⟩
  dsimp only [putO]
  iterate 3 ((apply g_det; (exact rfl); (exact rfl); (exact rfl); (exact rfl); focus (intro W0 hW0; (first | (refine o_skip rfl rfl rfl ?_) | (refine o_have rfl fun hw => ?_; (first | (refine o_assign hw.out _ rfl rfl rfl rfl ?_) | (refine o_move hw.out _ rfl rfl rfl rfl ?_) | (refine o_pickT hw.out _ _ _ rfl rfl rfl rfl rfl ?_) | (refine o_pickF hw.out _ _ _ rfl rfl rfl rfl rfl ?_) | (refine o_fld hw.out _ _ _ rfl rfl rfl rfl (fun W => field_nb _ _ _ _ _ W) ?_) | (refine o_bin hw.out _ _ _ _ _ rfl rfl rfl rfl rfl (fun W => by go_simp; first | done | rfl) ?_) | (refine o_un hw.out _ _ _ rfl rfl rfl rfl (fun W => by go_simp; first | done | rfl) ?_) | (refine o_field hw.out _ _ _ rfl rfl rfl rfl (fun W => by go_simp; first | done | rfl) ?_) | (refine o_index hw.out _ _ _ rfl rfl rfl rfl rfl (fun W => by go_simp; first | done | rfl) ?_) | (refine o_conv hw.out _ _ _ rfl rfl rfl rfl (fun W => by go_simp; first | done | rfl) ?_)))); exact g_lk rfl)))
  refine g_endK (n := 32) (fun w1 hW _ => ?_)
  have hb := hb.trans (hW.mono hb.size)
  simp only [fr, app, List.set_cons_succ, List.set_cons_zero]
  trace_state
  go_wp2
  go_ret
  exact ⟨rfl, hb⟩
end Go.Proofs.Ytgnkhncogfppgaa
