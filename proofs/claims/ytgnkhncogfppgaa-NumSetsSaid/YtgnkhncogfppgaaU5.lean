import Derived.Test.YtgnkhncogfppgaaU4
namespace Go.Proofs.Ytgnkhncogfppgaa
open Go.RowKit
/-! num.Right, num.Has; an Itv read out of a slice. -/
section
variable {P : Program}
theorem run_loadVar_two (w : World) (g off : Nat) (ty : TypeId) (a b : Value) (d : TypeDesc) (ha : w.cell? ⟨g, off, none⟩ = some a) (hb : w.cell? ⟨g, off + 1, none⟩ = some b)
    (hu : P.underlying ty = some d) (hd : (match d with | .struct _ | .array _ _ => true | _ => false) = true) (hi : (P.info? ty).map (·.size) = some 2) :
    (loadVar ty ⟨g, off, none⟩).run P w = .ok (.agg #[a, b]) w := by
  have hl : (loadCells ⟨g, off, none⟩ [a, b].length).run P w = .ok [a, b].toArray w :=
    run_loadCells_list (P := P) w ⟨g, off, none⟩ [a, b] (fun j v hv => by
      have hadd : (⟨g, off, none⟩ : Addr).add j = ⟨g, off + j, none⟩ := by unfold Addr.add; split <;> simp_all
      rw [hadd]
      match j with
      | 0 => simp at hv; subst hv; exact ha
      | 1 => simp at hv; subst hv; exact hb
      | j + 2 => simp at hv)
  cases hq : P.info? ty with
  | none => simp [hq] at hi
  | some i =>
    have hs : i.size = 2 := by simpa [hq] using hi
    have hagg : (isAgg ty).run P w = .ok true w := by
      unfold isAgg
      rw [Sem.run_bind, run_underlying hu w]
      cases d <;> simp_all
    simp only [List.length_cons, List.length_nil] at hl
    simp [loadVar, Sem.run_bind, hagg, sizeOf, typeInfo, hq, hs, hl]
end
theorem run_index_t {g n c : Nat} {x : Int} {k : Nat} (hx : x = (k : Int)) (hk : k < n) (W : World) : (Instr.indexAt 55 (.slice (some ⟨g, 0, none⟩) n c) (.int .i64 x)).run Try.prog W = .ok (.pointer (some ⟨g, k * 2, none⟩)) W := by
  subst hx
  obtain ⟨i, hi, h1, h2, h3⟩ := tinfo
  have hs : (sizeOf 32).run Try.prog W = .ok 2 W := by simp [sizeOf, typeInfo, hi, h2]
  have hadd : (⟨g, 0, none⟩ : Addr).add (k * 2) = ⟨g, k * 2, none⟩ := by rw [Go.WideShapes.add_plain, Nat.zero_add]
  have h4 : (0 : Int) ≤ (k : Int) ∧ (k : Int) < (n : Int) := by omega
  have h5 : ((k : Int)).toNat = k := by omega
  simp [Instr.indexAt, asIntOf, run_underlying Try.underlying55, Sem.run_bind, hk, hadd]
section
variable {ops : Array Oper} {rest : List Oper} {o : Oper} {w0 : World} {L : Act → Prop} {l : List Value} {ov : List (Nat × Value)} {ds : List Deferred} {d : Nat} {v : Value} {g : Nat} {T : TypeId}
theorem o_load_two (hw : Region.wanted o (yO ops l ov) = true) (x : Operand) (ho : o.op = .load 32 x) {off : Nat} (hx : evalO l ov x = some (.pointer (some ⟨g, off, none⟩))) {p q : Int}
    (hc : w0.cell? ⟨g, off, none⟩ = some (.int .i64 p) ∧ w0.cell? ⟨g, off + 1, none⟩ = some (.int .i64 q)) (hd : o.dst = some d) (hl : Nat.blt d l.length = true)
    (h : LX Try.prog ops w0 L rest l ((d, .agg (ic p q)) :: ov) ds) : LX Try.prog ops w0 L (o :: rest) l ov ds :=
  fun hst => lex_val (by rw [yO_eq hst]; exact hw) (by simp [isNew, ho]) (.agg (ic p q)) (fun W hW => by
    unfold execOp
    simp only [ho, evalL_eval ((evalO_L hst x).trans hx), Instr.loadAt, Instr.sureAddr, Sem.run_bind, Sem.run_pure, Result.andThen_ok,
      run_loadVar_two W g off 32 _ _ _ ((hW.cell (p := ⟨g, off, none⟩) (block_lt_of_cell hc.1)).trans hc.1) ((hW.cell (p := ⟨g, off + 1, none⟩) (block_lt_of_cell hc.2)).trans hc.2) Try.underlying32 rfl isz32]) (o_put hd hl h hst)
theorem o_len (hw : Region.wanted o (yO ops l ov) = true) (x : Operand) (ho : o.op = .call { callee := .builtin .len, args := #[x], argTypes := #[55] }) {ad : Option Addr} {n c : Nat} (hx : evalO l ov x = some (.slice ad n c)) (hd : o.dst = some d) (hl : Nat.blt d l.length = true)
    (h : LX Try.prog ops w0 L rest l ((d, .int .i64 (n : Int)) :: ov) ds) : LX Try.prog ops w0 L (o :: rest) l ov ds :=
  fun hst => lex_pure (by rw [yO_eq hst]; exact hw) (by simp [isNew, ho]) (.int .i64 (n : Int)) (fun W => by
    unfold execOp
    have e := evalL_eval (ds := ds) ((evalO_L hst x).trans hx)
    have hr : (Builtin.len_ #[55] o.type #[.slice ad n c]).run Try.prog W = .ok (.int .i64 (n : Int)) W := by simp [Builtin.len_, run_underlying Try.underlying55, Sem.run_bind, goInt]
    simp only [ho, resolve, invoke, builtin, Sem.run_bind, Sem.run_pure, Result.andThen_ok, List.map_toArray, List.map_cons, List.map_nil, e, hr]) (o_put hd hl h hst)
end
/-- Itvs read in a slice. -/
def SlT (w : World) (v : Value) (n : Nat) (V : Nat → Int × Int) : Prop := ∃ ad cap, v = .slice ad n cap ∧ ∀ k, k < n → ∃ g, ad = some ⟨g, 0, none⟩ ∧ w.cell? ⟨g, k * 2, none⟩ = some (.int .i64 (V k).1) ∧ w.cell? ⟨g, k * 2 + 1, none⟩ = some (.int .i64 (V k).2)
theorem OwnT.slt {w : World} {base : Nat} {v : Value} {n : Nat} {V : Nat → Int × Int} (h : OwnT w base v n V) : SlT w v n V := by
  obtain ⟨ad, cap, h1, h2⟩ := h.form
  exact ⟨ad, cap, h1, fun k hk => let ⟨g, a, _, _, b, c⟩ := h2 k hk; ⟨g, a, b, c⟩⟩
theorem SlT.on {w w' : World} {v : Value} {n : Nat} {V : Nat → Int × Int} (h : SlT w v n V) (hb : Below w.heap.size w w') : SlT w' v n V := by
  obtain ⟨ad, cap, h1, h2⟩ := h
  refine ⟨ad, cap, h1, fun k hk => ?_⟩
  obtain ⟨g, a, b, c⟩ := h2 k hk
  exact ⟨g, a, (hb.cell (p := ⟨g, k * 2, none⟩) (block_lt_of_cell b)).trans b, (hb.cell (p := ⟨g, k * 2 + 1, none⟩) (block_lt_of_cell c)).trans c⟩
set_option maxRecDepth 100000 in
set_option maxHeartbeats 1000000 in
theorem equal_true {v v' : Value} {n : Nat} {V : Nat → Int × Int} {w : World} (h : SlT w v n V) (h' : SlT w v' n V) (hn : n ≤ 1000000) : Calls Try.prog 89 #[v, v'] w (Ret w (.bool true)) := by
  obtain ⟨ad, c, rfl, h1⟩ := h
  obtain ⟨ad', c', rfl, h2⟩ := h'
  have H1 := Lib.hid h1
  have H2 := Lib.hid h2
  clear h1 h2
  go_enter Try.func89, Try.ntmps89
  have q0 : (0 : Int) ≤ n := by omega
  go_wp2
  go_loopw [13] (fun i_ wr => ∃ i : Nat, i ≤ n ∧ i_ = .int .i64 (i : Int) ∧ Hid (Below w.heap.size w wr)) (fun i _ => n + 1 - (intOf i).toNat)
  case atStart => exact ⟨0, by omega, rfl, Lib.hid (Below.refl _ _)⟩
  case round =>
    obtain ⟨i, hi, rfl, HB⟩ := hrel
    by_cases hlt : i < n
    · obtain ⟨g1, rfl, a1⟩ := H1.out i hlt
      obtain ⟨g2, rfl, a2⟩ := H2.out i hlt
      have b1 := And.intro ((HB.out.cell (p := ⟨g1, i * 2, none⟩) (block_lt_of_cell a1.1)).trans a1.1) ((HB.out.cell (p := ⟨g1, i * 2 + 1, none⟩) (block_lt_of_cell a1.2)).trans a1.2)
      have b2 := And.intro ((HB.out.cell (p := ⟨g2, i * 2, none⟩) (block_lt_of_cell a2.1)).trans a2.1) ((HB.out.cell (p := ⟨g2, i * 2 + 1, none⟩) (block_lt_of_cell a2.2)).trans a2.2)
      have B1 := Lib.hid b1
      have B2 := Lib.hid b2
      have E1 := fun (W : World) c => run_index_t (g := g1) (n := n) (c := c) (x := (i : Int)) (k := i) rfl hlt W
      have E2 := fun (W : World) c => run_index_t (g := g2) (n := n) (c := c) (x := (i : Int)) (k := i) rfl hlt W
      have F1 := Lib.hid E1
      have F2 := Lib.hid E2
      clear a1 a2 b1 b2 E1 E2
      go_wp2
      refine head0 8 (by kernel_rfl) (by kernel_rfl) (by kernel_rfl) (by kernel_rfl) ?_
      simp only [List.take_succ_cons, List.take_zero, List.drop_succ_cons, List.drop_zero]
      (refine o_start ?_; (iterate 8 (first | (refine o_skip rfl rfl rfl ?_) | (refine o_have rfl fun hw => ?_; (first | (refine o_move hw.out _ rfl rfl rfl rfl ?_) | (refine o_pickT hw.out _ _ _ rfl rfl rfl rfl rfl ?_) | (refine o_pickF hw.out _ _ _ rfl rfl rfl rfl rfl ?_) | (refine o_index hw.out _ _ _ rfl rfl rfl rfl rfl (fun W => F1.out W _) ?_) | (refine o_index hw.out _ _ _ rfl rfl rfl rfl rfl (fun W => F2.out W _) ?_) | (refine o_load_two hw.out _ rfl rfl B1.out rfl rfl ?_) | (refine o_load_two hw.out _ rfl rfl B2.out rfl rfl ?_) | (refine o_bin hw.out _ _ _ _ _ rfl rfl rfl rfl rfl (fun W => by go_simp; first | done | rfl) ?_) | (refine o_un hw.out _ _ _ rfl rfl rfl rfl (fun W => by go_simp; first | done | rfl) ?_) | (refine o_field hw.out _ _ _ rfl rfl rfl rfl (fun W => by go_simp; first | done | rfl) ?_) | (refine o_index hw.out _ _ _ rfl rfl rfl rfl rfl (fun W => by go_simp; first | done | rfl) ?_) | (refine o_conv hw.out _ _ _ rfl rfl rfl rfl (fun W => by go_simp; first | done | rfl) ?_)); clear hw))); refine o_end ?_; simp only [app, List.set_cons_succ, List.set_cons_zero])
      intro w3 hb3
      have HB := Lib.hid (HB.out.trans (hb3.mono HB.out.size))
      clear hb3 B1 B2 F1 F2
      go_wp2
      go_roundw
      case rel => exact ⟨i + 1, by omega, by go_num, HB⟩
      case measure => simp [intOf]; omega
    · obtain rfl : i = n := by omega
      go_wp2
      go_ret
      exact ⟨rfl, HB.out⟩
theorem equal_len {ad ad' : Option Addr} {n n' c c' : Nat} (h : n ≠ n') (w : World) : Calls Try.prog 89 #[.slice ad n c, .slice ad' n' c'] w (Ret w (.bool false)) := by
  have e : ((n : Int) != (n' : Int)) = true := by simp; omega
  have e2 : ¬ ((n : Int) = (n' : Int)) := by omega
  go_enter Try.func89, Try.ntmps89
  go_wp2
  go_ret
  exact ⟨rfl, Below.refl _ _⟩
set_option maxRecDepth 100000 in
set_option maxHeartbeats 1000000 in
theorem num_right {z : Zn} (h : OKZ z) {sl : Value} {w : World} (hs : SlT w sl z.n (itvs z)) : Calls Try.prog 41 #[.agg (nz z sl)] w (Ret w (.bool true)) := by
  have HR : Hid (∀ W : World, Calls Try.prog 44 #[.agg (zc z.n z.none z.D)] W (Ret W (.bool true))) := fun W => right_ok h W
  have HO : Hid (∀ W : World, Calls Try.prog 87 #[.agg (zc z.n z.none z.D)] W (NRet W z)) := fun W => of_zone z h.n W
  have HE : Hid (∀ (v v' : Value) (W : World), SlT W v z.n (itvs z) → SlT W v' z.n (itvs z) → Calls Try.prog 89 #[v, v'] W (Ret W (.bool true))) := fun v v' W a b => equal_true a b (by have := h.n; omega)
  have HS := Lib.hid hs
  clear hs h
  go_enter Try.func41, Try.ntmps41
  go_wp2_with (first
    | (refine box_row rfl 57 _ rfl _ rfl ?_; intro W1 hv hb hs1)
    | (refine load_nz rfl _ rfl rfl hv ?_)
    | (go_at_call 87; ((with_reducible refine (HO.out _).mono ?_); rintro e W4 ⟨_, rfl, ⟨sl2, rfl, ho⟩, hb4⟩; have hv := hv.on hb4; have hg := hb.size; have hb := hb.trans (hb4.mono hb.size); clear hb4))
    | (refine alloc_n rfl rfl ?_; intro W5 hr hb5 hs5; have hlt := hv.lt; have hv := hv.on hb5; have ho := ho.on hb5; have hg2 := hb.size; have hb := hb.trans (hb5.mono hb.size); clear hb5)
    | (refine store_n rfl _ _ rfl rfl rfl ho.one hr ?_; intro W6 hr6 hg6 hs6; have ho := ho.only hg6 hr (by decide); have hv := hv.only hg6 (by omega); have hb := below_only hb hg6 hb.size (by omega); clear hr hg6)
    | (go_at_call 44; ((with_reducible refine (HR.out _).mono ?_); rintro e W7 ⟨rfl, hb7⟩; have hv := hv.on hb7; have hr6 := hr6.on hb7; have ho := ho.on hb7; have hb := hb.trans (hb7.mono hb.size); clear hb7; have c0 := hv.cell 0; rw [nc_b] at c0; have c1 := hv.cell 1; rw [nc_sl] at c1; have d0 := hr6.cell 0; rw [nc_b] at d0; have d1 := hr6.cell 1; rw [nc_sl] at d1))
    | (go_at_call 89; ((with_reducible refine (HE.out _ _ _ (HS.out.on hb) ho.slt).mono ?_); rintro e W8 ⟨rfl, hb8⟩; have hb := hb.trans (hb8.mono hb.size); clear hb8 c0 c1 d0 d1))
    | fail)
  go_ret
  exact ⟨rfl, hb⟩
end Go.Proofs.Ytgnkhncogfppgaa
