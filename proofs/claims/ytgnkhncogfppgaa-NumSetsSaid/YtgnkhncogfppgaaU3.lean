import Derived.Test.YtgnkhncogfppgaaU2
namespace Go.Proofs.Ytgnkhncogfppgaa
open Go.RowKit
section
variable {P : Program}
/-- One cell of a row is stored. -/
theorem run_storeVar_cell (w : World) (g k : Nat) (t ty : TypeId) (cur : Array Value) (v : Value) (hg : w.heap[g]? = some (.cells cur t (0, 0))) (hk : k < cur.size) (hc : v.cells = #[v]) (hi : (P.info? ty).map (·.size) = some 1) (h1 : v.oneCell' = true) :
    (storeVar ty ⟨g, k, none⟩ v).run P w = .ok () (w.setRow g (cur.setIfInBounds k v)) := by
  cases hq : P.info? ty with
  | none => simp [hq] at hi
  | some i =>
    have hz : i.size = 1 := by simpa [hq] using hi
    have h := run_storeCells_at P g k t [v] 0 cur w hg (by simp; omega) (by simpa using h1)
    have e : (cur.toList.take (k + 0) ++ [v] ++ cur.toList.drop (k + 0 + [v].length)).toArray = cur.setIfInBounds k v := by
      apply Array.ext'
      simp only [Array.toList_setIfInBounds, Nat.add_zero, List.length_cons, List.length_nil, Nat.zero_add, List.append_assoc, List.cons_append, List.nil_append]
      rw [List.set_eq_take_append_cons_drop, if_pos (by simpa using hk)]
    rw [e] at h
    simp [storeVar, Sem.run_bind, sizeOf, typeInfo, hq, hz, hc, h]
variable {ops : Array Oper} {rest : List Oper} {o : Oper} {a : Act} {w : World} {Q : Exit → Act → World → Prop} {g : Nat} {T : TypeId}
theorem store_cell (hgd : Region.wanted o (yielded ops a.tmps) = true) (ty : TypeId) (x y : Operand) (ho : o.op = .store ty x y) (k : Nat) (hx : a.eval x = .pointer (some ⟨g, k, none⟩)) {v : Value} (hy : a.eval y = v)
    {cur : Array Value} (hz : RowAt T w g cur) (hk : k < cur.size) (hc : v.cells = #[v]) (hi : (P.info? ty).map (·.size) = some 1) (h1 : v.oneCell' = true)
    (h : ∀ W, RowAt T W g (cur.setIfInBounds k v) → w.grownBy W (some g) → Hid (W.heap.size = w.heap.size) → wpList P ops Q rest (a.put o.dst undef) W) : wpList P ops Q (o :: rest) a w := by
  refine wpList_want hgd fun K hK => ?_
  have h' := hK _ _ (h _ (setRow_heap w g _ _ T _ hz) ⟨rfl, rfl, rfl, by simp, fun j _ hj => Go.setRow_other w g j _ (fun e => hj (by rw [e]))⟩ (by unfold Hid; simp))
  unfold Oper.wp execOp
  simp only [ho, hx, hy, Instr.storeAt, Instr.sureAddr, Sem.run_bind, Sem.run_pure, Result.andThen_ok, run_storeVar_cell w g k T ty cur v hz hk hc hi h1]
  exact h'
end
/-- Literals of one element. -/
theorem lit_t (lo hi : Int) (w : World) : (Instr.buildSlice 55 1 #[(0, .agg (ic lo hi))]).run Try.prog w = .ok (slc w.heap.size 1) (w.alloc (.cells (ic lo hi) 32)) := by kernel_rfl
section
variable {ops : Array Oper} {l : List Value} {ds : List Deferred} {ov : List (Nat × Value)} {o : Oper}
theorem step_lit_t {W : World} {good : Value → World → Prop} (hst : StO l ov) (hw : Region.wanted o (yO ops l ov) = true) (x : Operand) (ho : o.op = .buildSlice 55 1 #[(0, x)]) {lo hi : Int} (hx : evalO l ov x = some (.agg (ic lo hi)))
    (hg : good (slc W.heap.size 1) (W.alloc (.cells (ic lo hi) 32))) : stepG Try.prog ops o (fr l ds ov) W good := by
  have e1 := fr_eval (ds := ds) hst hx
  refine step_run hst hw (u := slc W.heap.size 1) (W' := W.alloc (.cells (ic lo hi) 32)) ?_ hg
  unfold execOp
  simp only [ho, List.map_toArray, List.map_cons, List.map_nil, e1, Sem.run_bind, lit_t, Sem.run_pure, Result.andThen_ok]
end
theorem tsz : (Try.prog.info? 55).map (·.size) = some 1 := by kernel_rfl
def OfP (h i : Nat) (sl : Value) (V : Nat → Int × Int) (Λ : Nat → Bool) (ρ : Nat → Value) (W : World) : Prop :=
  (Λ 6 = false → OwnT W h sl i V) ∧
  (Λ 5 = true → Λ 6 = false → ∃ g, ρ 5 = slc g 1 ∧ sl.ownBlock ≠ some g ∧ W.cell? ⟨g, 0, none⟩ = some (.int .i64 (V i).1) ∧ W.cell? ⟨g, 1, none⟩ = some (.int .i64 (V i).2)) ∧
  (Λ 6 = true → OwnT W h (ρ 6) (i + 1) V) ∧ (Λ 6 = true → Λ 5 = true)
section
variable {h i : Nat} {sl : Value} {V : Nat → Int × Int} {Λ : Nat → Bool} {ρ : Nat → Value} {W W' : World}
theorem OfP.zero (ho : OwnT W h sl i V) : OfP h i sl V (fun _ => false) ρ W := by
  unfold OfP
  refine ⟨fun _ => ho, ?_, ?_, ?_⟩ <;> (intro e; cases e)
theorem OfP.stab (hD : OfP h i sl V Λ ρ W) {j : Nat} {v : Value} (a : 5 ≠ j) (b : 6 ≠ j) (hb : Below W.heap.size W W') : OfP h i sl V (up Λ j true) (up ρ j v) W' := by
  obtain ⟨h1, h2, h3, h4⟩ := hD
  unfold OfP
  rw [up_ne Λ true a, up_ne Λ true b, up_ne ρ v a, up_ne ρ v b]
  refine ⟨fun e => (h1 e).on hb, fun e1 e2 => ?_, fun e => (h3 e).on hb, h4⟩
  obtain ⟨g, a1, a2, a3, a4⟩ := h2 e1 e2
  exact ⟨g, a1, a2, (hb.cell (p := ⟨g, 0, none⟩) (block_lt_of_cell a3)).trans a3, (hb.cell (p := ⟨g, 1, none⟩) (block_lt_of_cell a4)).trans a4⟩
theorem OfP.s5 (hD : OfP h i sl V Λ ρ W) (hk : Λ 5 = false) : OfP h i sl V (up Λ 5 true) (up ρ 5 (slc W.heap.size 1)) (W.alloc (.cells (ic (V i).1 (V i).2) 32)) := by
  obtain ⟨h1, h2, h3, h4⟩ := hD
  have n6 : Λ 6 = false := by cases e : Λ 6 with | false => rfl | true => rw [h4 e] at hk; cases hk
  unfold OfP
  rw [up_same, up_same, up_ne Λ true (by decide : 6 ≠ 5), up_ne ρ _ (by decide : 6 ≠ 5), n6]
  have ho := h1 n6
  refine ⟨fun _ => ho.alloc _, fun _ _ => ⟨_, rfl, fun e => ?_, ?_, ?_⟩, fun e => (by cases e), fun e => (by cases e)⟩
  · have := (World.ownsRow.lt ho _ e).2; omega
  · exact (RowAt.new W 32 (ic (V i).1 (V i).2)).cell 0
  · exact (RowAt.new W 32 (ic (V i).1 (V i).2)).cell 1
theorem OfP.s6 (_ : OfP h i sl V Λ ρ W) (h5 : Λ 5 = true) {v' : Value} (ho : OwnT W' h v' (i + 1) V) : OfP h i sl V (up Λ 6 true) (up ρ 6 v') W' := by
  unfold OfP
  rw [up_same, up_same, up_ne Λ true (by decide : 5 ≠ 6), h5]
  exact ⟨fun e => (by cases e), fun _ e => (by cases e), fun _ => ho, fun _ => rfl⟩
end
theorem mx_nn (n : Nat) : mx (n : Int) 0 = n := by unfold mx; split <;> omega
theorem mn_n6 {n : Nat} (h : n ≤ 6) : mn (n : Int) 6 = n := by unfold mn; split <;> omega
set_option maxRecDepth 100000 in
set_option maxHeartbeats 2000000 in
theorem of_zone (z : Zn) (hn : z.n ≤ 6) (w : World) : Calls Try.prog 87 #[.agg z.c] w (NRet w z) := by
  have e1 : mx (z.n : Int) 0 = z.n := mx_nn _
  have e2 : mn (z.n : Int) 6 = z.n := mn_n6 hn
  obtain ⟨n, hnn⟩ : ∃ n, z.n = n := ⟨_, rfl⟩
  have HI : Hid (∀ (k : Nat) (W : World), Calls Try.prog 25 #[.agg (zc z.n z.none z.D), .int .i64 (k : Int)] W (Ret W (.agg (ic (itvs z k).1 (itvs z k).2)))) := fun k W => zitv_any z hn (k : Int) W
  show Calls Try.prog 87 #[.agg (zc z.n z.none z.D)] w _
  have HN := Lib.hid hnn
  rw [hnn] at e1 e2 HI hn ⊢
  clear hnn
  have q0 : (0 : Int) ≤ n := by omega
  go_enter Try.func87, Try.ntmps87
  go_wp2_with (first
    | (refine wpList_box_zone rfl 26 _ rfl _ _ _ rfl ?_; intro W1 hz hb hs1; have hnc := hz.n_cell; have hbc := hz.b_cell)
    | (have _t := hr; refine alloc_n rfl rfl ?_; intro W3 hv hb3 hs3; rw [hs2.out] at hv hb3 hs3; have hz := hz.below hb3 (by omega); have hr := hr.below hb3 (by omega); have hnc := hz.n_cell; have hb := hb.trans (hb3.mono (by omega)); rw [hs2.out]; clear hb3 _t)
    | (refine alloc_n rfl rfl ?_; intro W2 hr hb2 hs2; rw [hs1.out] at hr hb2 hs2; have hz := hz.below hb2 (by omega); have hnc := hz.n_cell; have hbc := hz.b_cell; have hb := hb.trans (hb2.mono (by omega)); rw [hs1.out]; clear hb2)
    | (refine wpList_build_val rfl 57 _ rfl #[(0, .bool z.none), (2, .agg (zc n z.none z.D))] (by simp [Act.eval, Act.put]) _ (build_nn _ _ _ _ _) ?_)
    | (refine load_z rfl _ rfl rfl hz ?_)
    | (refine store_n rfl _ _ rfl rfl rfl rfl hv ?_; intro W4 hv4 hg4 hs4; have hz := hz.only hg4 (by omega); have hr := hr.only hg4 (by omega); have hnc := hz.n_cell; have hb := below_only hb hg4 hb.size (by omega); clear hv; have hv := hv4; clear hv4 hg4)
    | fail)
  have hB : w.heap.size + 1 + 1 + 1 ≤ W4.heap.size := by have := hs4.out; have := hs3.out; omega
  have HOWN := Lib.hid (OwnT.nil W4 (w.heap.size + 1 + 1 + 1) (itvs z))
  have HB := Lib.hid hb
  have HSZ := Lib.hid hB
  have HZ := Lib.hid hz
  have HR := Lib.hid hr
  have HV := Lib.hid hv
  clear hb hB hz hr hv hnc e1 e2 hs1 hs2 hs3 hs4
  go_loopw [13] (fun i_ wr => ∃ (i : Nat) (sl : Value), i ≤ n ∧ i_ = .int .i64 (i : Int) ∧ Hid (Below w.heap.size w wr) ∧ Hid (w.heap.size + 1 + 1 + 1 ≤ wr.heap.size) ∧ Hid (ZAt 26 wr w.heap.size n z.none z.D) ∧ Hid (RowAt 57 wr (w.heap.size + 1) (nc false snil 0 false fun _ _ => 0)) ∧ Hid (RowAt 57 wr (w.heap.size + 1 + 1) (nc z.none sl n z.none z.D)) ∧ Hid (OwnT wr (w.heap.size + 1 + 1 + 1) sl i (itvs z))) (fun i _ => 7 - (intOf i).toNat)
  case atStart => exact ⟨0, snil, by omega, rfl, HB, HSZ, HZ, HR, HV, HOWN⟩
  case round =>
    clear HB HSZ HZ HR HV HOWN
    obtain ⟨i, sl, hi, rfl, HB, HSZ, HZ, HR, HV, HOWN⟩ := hrel
    by_cases hlt : i < n
    · have c1 := HV.out.cell 1
      rw [nc_sl] at c1
      have C1 : Hid (∀ W0, Below (w.heap.size + 1 + 1 + 1) wr W0 → W0.cell? ⟨w.heap.size + 1 + 1, 1, none⟩ = some sl) := fun W0 hW0 => (hW0.cell (p := ⟨w.heap.size + 1 + 1, 1, none⟩) (by show w.heap.size + 1 + 1 < _; omega)).trans c1
      clear c1
      go_wp2
      apply region_LG (n := 7) (h := w.heap.size + 1 + 1 + 1) (Sx := fun t => Nat.beq t 5 || Nat.beq t 6) (Ψ := OfP (w.heap.size + 1 + 1 + 1) i sl (itvs z))
      case hh => exact HSZ.out
      case hm => kernel_rfl
      case hB => kernel_rfl
      case hT => kernel_rfl
      case stab => exact fun Λ ρ W W' t v ht hb' _ hD => hD.stab (fun e => by subst e; exact absurd ht (by decide)) (fun e => by subst e; exact absurd ht (by decide)) hb'
      case h0 => exact fun W hW => OfP.zero (HOWN.out.on hW)
      simp only [List.take_succ_cons, List.take_zero, List.drop_succ_cons, List.drop_zero]
      iterate 5 ((apply g_det; (exact rfl); (exact rfl); (exact rfl); (exact rfl); focus (intro W0 hW0; (first | (refine o_skip rfl rfl rfl ?_) | (refine o_have rfl fun hw => ?_; (first | (refine o_assign hw.out _ rfl rfl rfl rfl ?_) | (refine o_move hw.out _ rfl rfl rfl rfl ?_) | (refine o_pickT hw.out _ _ _ rfl rfl rfl rfl rfl ?_) | (refine o_pickF hw.out _ _ _ rfl rfl rfl rfl rfl ?_) | (refine o_load_z hw.out _ rfl rfl (HZ.out.below hW0 (by omega)) rfl rfl ?_) | (refine o_loadc hw.out _ _ rfl rfl (C1.out W0 hW0) rfl rfl Try.underlying55 rfl ?_) | (refine o_bin hw.out _ _ _ _ _ rfl rfl rfl rfl rfl (fun W => by go_simp; first | done | rfl) ?_) | (refine o_un hw.out _ _ _ rfl rfl rfl rfl (fun W => by go_simp; first | done | rfl) ?_) | (refine o_field hw.out _ _ _ rfl rfl rfl rfl (fun W => by go_simp; first | done | rfl) ?_) | (refine o_index hw.out _ _ _ rfl rfl rfl rfl rfl (fun W => by go_simp; first | done | rfl) ?_) | (refine o_conv hw.out _ _ _ rfl rfl rfl rfl (fun W => by go_simp; first | done | rfl) ?_) | (refine o_call hw.out _ _ _ rfl rfl (fun W hW => HI.out i W) (by with_reducible rfl) (by with_reducible rfl) rfl rfl (fun ρ W hρ => by go_simp; done) ?_)))); exact g_lk rfl)))
      apply g_spc (A := fun v => ∃ q, v = slc q 1)
      case hv => exact ⟨_, 0, rfl⟩
      case h1 =>
        intro hst Λ ρ W hW hD hk hdep hval
        exact step_lit_t hst rfl _ rfl rfl ⟨⟨_, rfl⟩, hW.alloc (Nat.le_trans HSZ.out hW.size) _, hD.s5 hk⟩
      rintro _ ⟨q5, rfl⟩
      dsimp only [putO]
      apply g_spc (A := fun v => ∃ ad c, v = .slice ad (i + 1) c)
      case hv => exact ⟨_, none, 0, rfl⟩
      case h1 =>
        intro hst Λ ρ W hW hD hk hdep hval
        have h5 : Λ 5 = true := hdep { on := 5, ground := .data } (by simp) rfl
        have he : slc q5 1 = ρ 5 := by have := hval 5 _ 21 (by omega) rfl rfl h5; injection this
        obtain ⟨gg, a1, a2, a3, a4⟩ := hD.2.1 h5 hk
        have hgg := slc_inj (he.trans a1)
        subst hgg
        have own := hD.1 hk
        refine step_append_t hst rfl _ _ rfl (w.heap.size + 1 + 1 + 1) rfl own rfl (U := fun _ => itvs z i) (V' := itvs z) (m := 1) (fun t ht => ?_) (by omega) (Nat.le_trans HSZ.out hW.size) (fun t ht => rfl) (fun t ht => ?_) fun v' W' ho hg hor => ?_
        · obtain rfl : t = 0 := by omega
          exact ⟨a3, a4⟩
        · obtain rfl : t = 0 := by omega
          rfl
        · obtain ⟨ad, c, hv', _⟩ := ho.form
          exact ⟨⟨ad, c, hv'⟩, hW.grown hg (Nat.le_trans HSZ.out hW.size) (fun q hq => (World.ownsRow.lt own q hq).1), hD.s6 h5 ho⟩
      rintro _ ⟨ad6, c6, rfl⟩
      dsimp only [putO]
      apply g_end
      intro w1 Λ ρ hW hD hall hval
      have h6 := hall 6 (by omega)
      have he : Value.slice ad6 (i + 1) c6 = ρ 6 := by have := hval 6 _ 22 (by omega) rfl rfl; injection this
      have HOWN := Lib.hid (hD.2.2.1 h6)
      rw [← he] at HOWN
      have HZ := Lib.hid (HZ.out.below hW (by omega))
      have HR := Lib.hid (HR.out.below hW (by omega))
      have HV := Lib.hid (HV.out.below hW (by omega))
      have HB := Lib.hid (HB.out.trans (hW.mono (by omega)))
      have HSZ := Lib.hid (Nat.le_trans HSZ.out hW.size)
      clear he h6 hval hall hD hW C1
      simp only [fr, app, List.set_cons_succ, List.set_cons_zero]
      go_wp2_with (first
        | (refine store_cell rfl 55 _ _ rfl 1 rfl rfl HV.out (by rw [nc_size]; omega) rfl tsz rfl ?_; intro W6 hv6 hg6 hs6; rw [nc_set] at hv6; have HOWN := Lib.hid (HOWN.out.below hg6 (by omega)); have HZ := Lib.hid (HZ.out.only hg6 (by omega)); have HR := Lib.hid (HR.out.only hg6 (by omega)); have HB := Lib.hid (below_only HB.out hg6 HB.out.size (by omega)); have HSZ := Lib.hid (Nat.le_trans HSZ.out hg6.size); have HV := Lib.hid hv6; clear hv6 hg6 hs6)
        | fail)
      go_roundw
      case rel => exact ⟨i + 1, _, by omega, by go_num, HB, HSZ, HZ, HR, HV, HOWN⟩
      case measure => simp [intOf]; omega
    · obtain rfl : i = n := by omega
      have hv := HV.out
      have hr := HR.out
      go_wp2_with (first
        | (refine load_n rfl _ rfl rfl hv ?_)
        | (refine store_n rfl _ _ rfl rfl rfl HOWN.out.one hr ?_; intro W6 hr6 hg6 hs6)
        | fail)
      exact bodyPost_ret (results_n rfl (by simp [Act.put]) hr6) rfl ⟨_, rfl, ⟨sl, by rw [nz, HN.out], by rw [HN.out]; exact (HOWN.out.mono (by omega)).only hg6 hr (by decide)⟩, below_only HB.out hg6 HB.out.size (by omega)⟩
end Go.Proofs.Ytgnkhncogfppgaa
