import Derived.Test.YtgnkhncogfppgaaY2
import Derived.Test.YtgnkhncogfppgaaW4
namespace Go.Proofs.Ytgnkhncogfppgaa
open Go.RowKit
/-! ### acts in memory -/
def ac (A : Nat → Int) : Array Value := #[.int .i64 (A 0), .int .i64 (A 1), .int .i64 (A 2), .int .i64 (A 3)]
theorem ac_one (A : Nat → Int) : ∀ v ∈ (ac A).toList, v.oneCell' = true := by intro v hv; simp [ac] at hv; rcases hv with rfl | rfl | rfl | rfl <;> rfl
theorem asz : (Try.prog.info? 48).map (·.size) = some 4 := by kernel_rfl
theorem az : (Try.prog.info? 48).bind (·.zero) = some (.agg (ac fun _ => 0)) := by kernel_rfl
/-- Four cells from here on. -/
def Ac4 (w : World) (b off : Nat) (A : Nat → Int) : Prop := w.cell? ⟨b, off, none⟩ = some (.int .i64 (A 0)) ∧ w.cell? ⟨b, off + 1, none⟩ = some (.int .i64 (A 1)) ∧ w.cell? ⟨b, off + 2, none⟩ = some (.int .i64 (A 2)) ∧ w.cell? ⟨b, off + 3, none⟩ = some (.int .i64 (A 3))
theorem Ac4.on {w w' : World} {b off : Nat} {A : Nat → Int} (h : Ac4 w b off A) (hb : Below w.heap.size w w') : Ac4 w' b off A :=
  ⟨(hb.cell (p := ⟨b, off, none⟩) (block_lt_of_cell h.1)).trans h.1, (hb.cell (p := ⟨b, off + 1, none⟩) (block_lt_of_cell h.2.1)).trans h.2.1, (hb.cell (p := ⟨b, off + 2, none⟩) (block_lt_of_cell h.2.2.1)).trans h.2.2.1, (hb.cell (p := ⟨b, off + 3, none⟩) (block_lt_of_cell h.2.2.2)).trans h.2.2.2⟩
/-- A slice of acts. -/
def SlA (w : World) (ad : Option Addr) (len : Nat) (A : Nat → Nat → Int) : Prop := ∀ k, k < len → ∃ b off, ad = some ⟨b, off, none⟩ ∧ Ac4 w b (off + k * 4) (A k)
theorem SlA.on {w w' : World} {ad : Option Addr} {len : Nat} {A : Nat → Nat → Int} (h : SlA w ad len A) (hb : Below w.heap.size w w') : SlA w' ad len A := fun k hk => by
  obtain ⟨b, off, h1, h2⟩ := h k hk
  exact ⟨b, off, h1, h2.on hb⟩
section
variable {ops : Array Oper} {rest : List Oper} {o : Oper} {a : Act} {w : World} {Q : Exit → Act → World → Prop} {g : Nat} {T : TypeId}
theorem load_ac (hgd : Region.wanted o (yielded ops a.tmps) = true) (x : Operand) (ho : o.op = .load 48 x) (b off : Nat) (hx : a.eval x = .pointer (some ⟨b, off, none⟩)) {A : Nat → Int} (hz : Ac4 w b off A)
    (h : wpList Try.prog ops Q rest (a.put o.dst (.agg (ac A))) w) : wpList Try.prog ops Q (o :: rest) a w := by
  refine wpList_want hgd fun K hK => ?_
  have hl : (loadCells ⟨b, off, none⟩ 4).run Try.prog w = .ok (ac A) w := by
    have := run_loadCells_list (P := Try.prog) w ⟨b, off, none⟩ (ac A).toList (fun j v hv => by
      have hadd : (⟨b, off, none⟩ : Addr).add j = ⟨b, off + j, none⟩ := by unfold Addr.add; split <;> simp_all
      rw [hadd]
      match j with
      | 0 => simp [ac] at hv; subst hv; exact hz.1
      | 1 => simp [ac] at hv; subst hv; exact hz.2.1
      | 2 => simp [ac] at hv; subst hv; exact hz.2.2.1
      | 3 => simp [ac] at hv; subst hv; exact hz.2.2.2
      | j + 4 => simp [ac] at hv)
    exact this
  have hq := asz
  cases hi : Try.prog.info? 48 with
  | none => simp [hi] at hq
  | some i =>
    have hs : i.size = 4 := by simpa [hi] using hq
    have hagg : (isAgg 48).run Try.prog w = .ok true w := by
      unfold isAgg
      rw [Sem.run_bind, run_underlying Try.underlying48 w]
      rfl
    have hv : (loadVar 48 ⟨b, off, none⟩).run Try.prog w = .ok (.agg (ac A)) w := by
      simp [loadVar, Sem.run_bind, hagg, sizeOf, typeInfo, hi, hs, hl]
    unfold Oper.wp execOp
    simp only [ho, hx, Instr.loadAt, Instr.sureAddr, Sem.run_bind, Sem.run_pure, Result.andThen_ok, hv]
    exact hK _ _ h
theorem alloc_ac (hgd : Region.wanted o (yielded ops a.tmps) = true) (ho : o.op = .alloc 48)
    (h : ∀ W, RowAt 48 W w.heap.size (ac fun _ => 0) → Below w.heap.size w W → Hid (W.heap.size = w.heap.size + 1) → wpList Try.prog ops Q rest (a.put o.dst (.pointer (some ⟨w.heap.size, 0, none⟩))) W) : wpList Try.prog ops Q (o :: rest) a w :=
  alloc_row hgd 48 ho _ az h
theorem store_ac (hgd : Region.wanted o (yielded ops a.tmps) = true) (x y : Operand) (ho : o.op = .store 48 x y) (hx : a.eval x = .pointer (some ⟨g, 0, none⟩)) {A A' : Nat → Int}
    (hy : a.eval y = .agg (ac A)) (hz : RowAt T w g (ac A'))
    (h : ∀ W, RowAt T W g (ac A) → w.grownBy W (some g) → Hid (W.heap.size = w.heap.size) → wpList Try.prog ops Q rest (a.put o.dst undef) W) : wpList Try.prog ops Q (o :: rest) a w :=
  store_row hgd 48 x y ho g hx _ hy hz rfl asz (ac_one _) h
end
/-! ### From -/
theorem build_r (n : Int) (b : Bool) (D : Mat) (w : World) : (Instr.build 38 #[(0, .int .i64 n), (1, .bool b), (2, .agg (mc D))]).run Try.prog w = .ok (.agg (zc n b D)) w := by kernel_rfl
theorem from_any (z : Zn) (w : World) : Calls Try.prog 30 #[.agg z.c] w (Ret w (.agg z.c)) := by
  go_enter Try.func30, Try.ntmps30
  go_wp2_with (first
    | (refine wpList_box_zone rfl 26 _ rfl _ _ _ rfl ?_; intro W hz hb hs; have hnc := hz.n_cell; have hbc := hz.b_cell)
    | (refine wpList_alloc_zone rfl 38 rfl rz ?_; intro W1 hz1 hb1 hs1; rw [hs.out] at hz1 hb1 hs1; have hz := hz.below hb1 (by omega); have hnc := hz.n_cell; have hbc := hz.b_cell; have hb := hb.trans (hb1.mono (by omega)); rw [hs.out]; clear hs hb1)
    | (refine load_m rfl _ rfl rfl hz ?_)
    | (refine wpList_build_val rfl 38 _ rfl #[(0, .int .i64 z.n), (1, .bool z.none), (2, .agg (mc z.D))] (by simp [Act.eval, Act.put]) _ (build_r z.n z.none z.D _) ?_)
    | (refine store_r rfl _ _ rfl rfl rfl hz1 ?_; intro W4 hz4 hg4 hs4)
    | fail)
  exact bodyPost_ret (results_r rfl (by simp [Act.put]) hz4) rfl ⟨rfl, below_only hb hg4 hb.size (by omega)⟩
end Go.Proofs.Ytgnkhncogfppgaa
