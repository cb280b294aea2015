import Derived.Test.YtgnkhncogfppgaaU8
import Derived.Test.YtgnkhncogfppgaaBD
namespace Go.Proofs.Ytgnkhncogfppgaa
open Go.RowKit
/-! ### acts in memory -/
def ae (A : Nat → Int) : Array Value := #[.int .i64 (A 0), .int .i64 (A 1), .int .i64 (A 2), .int .i64 (A 3), .int .i64 (A 4), .int .i64 (A 5)]
theorem ae_one (A : Nat → Int) : ∀ v ∈ (ae A).toList, v.oneCell' = true := by intro v hv; simp [ae] at hv; rcases hv with rfl | rfl | rfl | rfl | rfl | rfl <;> rfl
theorem esz : (Try.prog.info? 80).map (·.size) = some 6 := by kernel_rfl
theorem ez : (Try.prog.info? 80).bind (·.zero) = some (.agg (ae fun _ => 0)) := by kernel_rfl
/-- Four cells from here on. -/
def Ae6 (w : World) (b off : Nat) (A : Nat → Int) : Prop := w.cell? ⟨b, off, none⟩ = some (.int .i64 (A 0)) ∧ w.cell? ⟨b, off + 1, none⟩ = some (.int .i64 (A 1)) ∧ w.cell? ⟨b, off + 2, none⟩ = some (.int .i64 (A 2)) ∧ w.cell? ⟨b, off + 3, none⟩ = some (.int .i64 (A 3)) ∧ w.cell? ⟨b, off + 4, none⟩ = some (.int .i64 (A 4)) ∧ w.cell? ⟨b, off + 5, none⟩ = some (.int .i64 (A 5))
theorem Ae6.on {w w' : World} {b off : Nat} {A : Nat → Int} (h : Ae6 w b off A) (hb : Below w.heap.size w w') : Ae6 w' b off A :=
  ⟨(hb.cell (p := ⟨b, off, none⟩) (block_lt_of_cell h.1)).trans h.1, (hb.cell (p := ⟨b, off + 1, none⟩) (block_lt_of_cell h.2.1)).trans h.2.1, (hb.cell (p := ⟨b, off + 2, none⟩) (block_lt_of_cell h.2.2.1)).trans h.2.2.1, (hb.cell (p := ⟨b, off + 3, none⟩) (block_lt_of_cell h.2.2.2.1)).trans h.2.2.2.1, (hb.cell (p := ⟨b, off + 4, none⟩) (block_lt_of_cell h.2.2.2.2.1)).trans h.2.2.2.2.1, (hb.cell (p := ⟨b, off + 5, none⟩) (block_lt_of_cell h.2.2.2.2.2)).trans h.2.2.2.2.2⟩
/-- A slice of acts. -/
def SlE (w : World) (ad : Option Addr) (len : Nat) (A : Nat → Nat → Int) : Prop := ∀ k, k < len → ∃ b off, ad = some ⟨b, off, none⟩ ∧ Ae6 w b (off + k * 6) (A k)
theorem SlE.on {w w' : World} {ad : Option Addr} {len : Nat} {A : Nat → Nat → Int} (h : SlE w ad len A) (hb : Below w.heap.size w w') : SlE w' ad len A := fun k hk => by
  obtain ⟨b, off, h1, h2⟩ := h k hk
  exact ⟨b, off, h1, h2.on hb⟩
section
variable {ops : Array Oper} {rest : List Oper} {o : Oper} {a : Act} {w : World} {Q : Exit → Act → World → Prop} {g : Nat} {T : TypeId}
theorem load_ae (hgd : Region.wanted o (yielded ops a.tmps) = true) (x : Operand) (ho : o.op = .load 80 x) (b off : Nat) (hx : a.eval x = .pointer (some ⟨b, off, none⟩)) {A : Nat → Int} (hz : Ae6 w b off A)
    (h : wpList Try.prog ops Q rest (a.put o.dst (.agg (ae A))) w) : wpList Try.prog ops Q (o :: rest) a w := by
  refine wpList_want hgd fun K hK => ?_
  have hl : (loadCells ⟨b, off, none⟩ 6).run Try.prog w = .ok (ae A) w := by
    have := run_loadCells_list (P := Try.prog) w ⟨b, off, none⟩ (ae A).toList (fun j v hv => by
      have hadd : (⟨b, off, none⟩ : Addr).add j = ⟨b, off + j, none⟩ := by unfold Addr.add; split <;> simp_all
      rw [hadd]
      match j with
      | 0 => simp [ae] at hv; subst hv; exact hz.1
      | 1 => simp [ae] at hv; subst hv; exact hz.2.1
      | 2 => simp [ae] at hv; subst hv; exact hz.2.2.1
      | 3 => simp [ae] at hv; subst hv; exact hz.2.2.2.1
      | 4 => simp [ae] at hv; subst hv; exact hz.2.2.2.2.1
      | 5 => simp [ae] at hv; subst hv; exact hz.2.2.2.2.2
      | j + 6 => simp [ae] at hv)
    exact this
  have hq := esz
  cases hi : Try.prog.info? 80 with
  | none => simp [hi] at hq
  | some i =>
    have hs : i.size = 6 := by simpa [hi] using hq
    have hagg : (isAgg 80).run Try.prog w = .ok true w := by
      unfold isAgg
      rw [Sem.run_bind, run_underlying Try.underlying80 w]
      rfl
    have hv : (loadVar 80 ⟨b, off, none⟩).run Try.prog w = .ok (.agg (ae A)) w := by
      simp [loadVar, Sem.run_bind, hagg, sizeOf, typeInfo, hi, hs, hl]
    unfold Oper.wp execOp
    simp only [ho, hx, Instr.loadAt, Instr.sureAddr, Sem.run_bind, Sem.run_pure, Result.andThen_ok, hv]
    exact hK _ _ h
theorem alloc_ae (hgd : Region.wanted o (yielded ops a.tmps) = true) (ho : o.op = .alloc 80)
    (h : ∀ W, RowAt 80 W w.heap.size (ae fun _ => 0) → Below w.heap.size w W → Hid (W.heap.size = w.heap.size + 1) → wpList Try.prog ops Q rest (a.put o.dst (.pointer (some ⟨w.heap.size, 0, none⟩))) W) : wpList Try.prog ops Q (o :: rest) a w :=
  alloc_row hgd 80 ho _ ez h
theorem store_ae (hgd : Region.wanted o (yielded ops a.tmps) = true) (x y : Operand) (ho : o.op = .store 80 x y) (hx : a.eval x = .pointer (some ⟨g, 0, none⟩)) {A A' : Nat → Int}
    (hy : a.eval y = .agg (ae A)) (hz : RowAt T w g (ae A'))
    (h : ∀ W, RowAt T W g (ae A) → w.grownBy W (some g) → Hid (W.heap.size = w.heap.size) → wpList Try.prog ops Q rest (a.put o.dst undef) W) : wpList Try.prog ops Q (o :: rest) a w :=
  store_row hgd 80 x y ho g hx _ hy hz rfl esz (ae_one _) h
end
/-! ### The document's Itv -/
theorem build_81 (lo : Int) (w : World) : (Instr.build 53 #[(0, .int .i64 lo)]).run Try.prog w = .ok (.agg (ic lo 0)) w := by kernel_rfl
set_option maxRecDepth 100000 in
set_option maxHeartbeats 1000000 in
theorem ritv_none {n : Nat} (D : Mat) (x : Int) (w : World) : Calls Try.prog 92 #[.agg (zc n true D), .int .i64 x] w (Ret w (.agg (ic 1 0))) := by
  go_enter Try.func92, Try.ntmps92
  go_wp2_with (first
    | (refine wpList_box_zone rfl 38 _ rfl _ _ _ rfl ?_; intro W1 hz hb hs1)
    | (refine alloc_row rfl 53 rfl _ iz8 ?_; intro W2 hz1 hb1 hs2; rw [hs1.out] at hz1 hb1 hs2; have hz := hz.below hb1 (by omega); have hbc := hz.b_cell; have hb := hb.trans (hb1.mono (by omega)); rw [hs1.out]; clear hb1)
    | (refine wpList_build_val rfl 53 _ rfl #[(0, .int .i64 1)] (by simp [Act.eval, Act.put]) _ (build_81 _ _) ?_)
    | (refine store_8 rfl _ _ rfl rfl rfl hz1 ?_; intro W4 hz4 hg4 hs4)
    | fail)
  exact bodyPost_ret (results_8 rfl (by simp [Act.put]) hz4) rfl ⟨rfl, below_only hb hg4 hb.size (by omega)⟩
theorem ritv_all {z : Zn} (h : OKZ z) {m : Nat} (hm : m < z.n) (w : World) : Calls Try.prog 92 #[.agg z.c, .int .i64 (m : Int)] w (Ret w (.agg (ic (itvs z m).1 (itvs z m).2))) := by
  cases hn : z.none with
  | true =>
    rw [show itvs z m = (1, 0) from itvZ_none _ fun e => by rw [varB_iff, hn] at e; cases e.1]
    show Calls Try.prog 92 #[.agg (zc z.n z.none z.D), .int .i64 (m : Int)] w _
    rw [hn]; exact ritv_none _ _ _
  | false =>
    rw [show itvs z m = (-(z.D 0 (m + 1)), z.D (m + 1) 0) from itvZ_ok h hn hm]
    exact ritv_any h hn hm w
end Go.Proofs.Ytgnkhncogfppgaa
