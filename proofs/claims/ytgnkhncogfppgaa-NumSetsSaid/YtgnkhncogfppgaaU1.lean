import Derived.Test.YtgnkhncogfppgaaQC
import Derived.Test.YtgnkhncogfppgaaN6
namespace Go.Proofs.Ytgnkhncogfppgaa
open Go.RowKit
/-! A slice of Itvs of the call's own. -/
def tl (n : Nat) (V : Nat → Int × Int) : List Value := (List.range n).flatMap fun k => [Value.int .i64 (V k).1, Value.int .i64 (V k).2]
theorem tl_zero (V : Nat → Int × Int) : tl 0 V = [] := rfl
theorem tl_succ (n : Nat) (V : Nat → Int × Int) : tl (n + 1) V = tl n V ++ [.int .i64 (V n).1, .int .i64 (V n).2] := by
  unfold tl; rw [List.range_succ, List.flatMap_append]; rfl
theorem tl_len (n : Nat) (V : Nat → Int × Int) : (tl n V).length = n * 2 := by
  induction n with
  | zero => rfl
  | succ n ih => rw [tl_succ, List.length_append, ih]; simp; omega
theorem tl_congr {n : Nat} {V V' : Nat → Int × Int} (h : ∀ k, k < n → V' k = V k) : tl n V' = tl n V := by
  induction n with
  | zero => rfl
  | succ n ih => rw [tl_succ, tl_succ, ih fun k hk => h k (by omega), h n (by omega)]
theorem tl_at {n : Nat} (V : Nat → Int × Int) {k : Nat} (hk : k < n) : (tl n V)[k * 2]? = some (.int .i64 (V k).1) ∧ (tl n V)[k * 2 + 1]? = some (.int .i64 (V k).2) := by
  induction n with
  | zero => omega
  | succ n ih =>
    rw [tl_succ]
    by_cases h : k < n
    · obtain ⟨a, b⟩ := ih h
      have hl := tl_len n V
      rw [List.getElem?_append_left (by omega), List.getElem?_append_left (by omega)]
      exact ⟨a, b⟩
    · obtain rfl : k = n := by omega
      have hl := tl_len k V
      rw [List.getElem?_append_right (by omega), List.getElem?_append_right (by omega), hl]
      rw [show k * 2 - k * 2 = 0 by omega, show k * 2 + 1 - k * 2 = 1 by omega]
      exact ⟨rfl, rfl⟩
theorem tl_add (n m : Nat) (V U W : Nat → Int × Int) (h1 : ∀ k, k < n → W k = V k) (h2 : ∀ k, k < m → W (n + k) = U k) : tl n V ++ tl m U = tl (n + m) W := by
  induction m with
  | zero => rw [tl_zero, List.append_nil]; exact (tl_congr h1).symm
  | succ m ih =>
    rw [tl_succ, ← List.append_assoc, ih fun k hk => h2 k (by omega), ← Nat.add_assoc, tl_succ, h2 m (by omega)]
theorem tl_one (n : Nat) (V : Nat → Int × Int) : ∀ v ∈ tl n V, v.oneCell' = true := by
  intro v hv
  unfold tl at hv
  obtain ⟨k, _, hk⟩ := List.mem_flatMap.1 hv
  simp at hk
  rcases hk with rfl | rfl <;> rfl
/-- A slice of the call's own holds these Itvs. -/
def OwnT (w : World) (base : Nat) (v : Value) (n : Nat) (V : Nat → Int × Int) : Prop := w.ownsRow base 32 2 v n (tl n V)
section
variable {w W : World} {base : Nat} {v : Value} {n : Nat} {V V' : Nat → Int × Int}
theorem OwnT.congr (h : OwnT w base v n V) (he : ∀ k, k < n → V' k = V k) : OwnT w base v n V' := by
  unfold OwnT; rw [tl_congr he]; exact h
theorem OwnT.nil (w : World) (base : Nat) (V : Nat → Int × Int) : OwnT w base (.slice none 0 0) 0 V := World.ownsRow_nil w base _ 2
theorem OwnT.form (h : OwnT w base v n V) : ∃ ad cap, v = .slice ad n cap ∧ ∀ k, k < n → ∃ g, ad = some ⟨g, 0, none⟩ ∧ base ≤ g ∧ g < w.heap.size ∧ w.cell? ⟨g, k * 2, none⟩ = some (.int .i64 (V k).1) ∧ w.cell? ⟨g, k * 2 + 1, none⟩ = some (.int .i64 (V k).2) := by
  rcases h.2 with ⟨rfl, rfl⟩ | ⟨g, cap, cur, rfl, hb, hg, hnc, hcap, hs, ht⟩
  · exact ⟨none, 0, rfl, fun k hk => by omega⟩
  · refine ⟨some ⟨g, 0, none⟩, cap, rfl, fun k hk => ⟨g, rfl, hb, (Array.getElem?_eq_some_iff.1 hg).1, ?_, ?_⟩⟩
    all_goals
      rw [cell_of_row w g _ cur _ _ hg]
      have h2 := tl_at V hk
      rw [← ht, List.getElem?_take, List.getElem?_take, if_pos (by omega), if_pos (by omega)] at h2
      rw [← Array.getElem?_toList]
      first | exact h2.1 | exact h2.2
theorem OwnT.on {w' : World} (h : OwnT w base v n V) (hb : Below w.heap.size w w') : OwnT w' base v n V :=
  World.ownsRow.kept h (row := none) ⟨hb.os, hb.tape, hb.output, hb.size, fun k hk _ => hb.block k hk⟩ (by cases v.ownBlock <;> simp)
theorem OwnT.drew (h : OwnT w base v n V) : OwnT w.drew base v n V := h.on (Below.refl _ _).drew
theorem OwnT.alloc (h : OwnT w base v n V) (o : Obj) : OwnT (w.alloc o) base v n V := World.ownsRow.alloc h o
theorem OwnT.mono (h : OwnT w base v n V) {b : Nat} (hb : b ≤ base) : OwnT w b v n V := ⟨h.1, h.2.imp id fun ⟨g, cap, cur, h1, h2, h3⟩ => ⟨g, cap, cur, h1, Nat.le_trans hb h2, h3⟩⟩
/-- Another variable, of another type, was written. -/
theorem OwnT.only {g : Nat} {T : TypeId} {cs : Array Value} (h : OwnT w base v n V) (hg : w.grownBy W (some g)) (hr : RowAt T w g cs) (hT : T ≠ 32) : OwnT W base v n V :=
  World.ownsRow.kept h hg (by
    rcases h.2 with ⟨rfl, rfl⟩ | ⟨g', cap, cur, rfl, hb, hg', _⟩
    · exact .inl rfl
    · right
      intro e
      simp only [Value.ownBlock, Option.some.injEq] at e
      subst e
      unfold RowAt at hr
      rw [hg'] at hr
      simp only [Option.some.injEq, Obj.cells.injEq] at hr
      exact hT hr.2.1.symm)
theorem OwnT.below (h : OwnT w base v n V) {g : Nat} (hg : w.grownBy W (some g)) (hlt : g < base) : OwnT W base v n V :=
  World.ownsRow.kept h hg (by
    cases hv : v.ownBlock with
    | none => exact Or.inl rfl
    | some k => right; have := (World.ownsRow.lt h k hv).1; intro e; injection e with e; omega)
end
theorem tinfo : ∃ i : TypeInfo, Try.prog.info? 32 = some i ∧ i.zero = some (.agg (ic 0 0)) ∧ i.size = 2 ∧ i.bytes = 16 := by
  have h : (Try.prog.info? 32).map (fun i => (i.zero, i.size, i.bytes)) = some (some (.agg (ic 0 0)), 2, 16) := by kernel_rfl
  cases hi : Try.prog.info? 32 with
  | none => simp [hi] at h
  | some i => simp [hi] at h; exact ⟨i, rfl, h.1, h.2.1, h.2.2⟩
section
variable {ops : Array Oper} {rest : List Oper} {o : Oper} {a : Act} {w : World} {Q : Exit → Act → World → Prop}
theorem run_append_t (W : World) (ty : TypeId) (base : Nat) {v : Value} {n : Nat} {V V' : Nat → Int × Int} (hown : OwnT W base v n V) {r off m c : Nat} {U : Nat → Int × Int}
    (hc : ∀ j, j < m → W.cell? ⟨r, off + j * 2, none⟩ = some (.int .i64 (U j).1) ∧ W.cell? ⟨r, off + (j * 2 + 1), none⟩ = some (.int .i64 (U j).2)) (hn : n + m ≤ 1000000) (hbase : base ≤ W.heap.size) (hV : ∀ j, j < n → V' j = V j) (hU : ∀ j, j < m → V' (n + j) = U j) :
    ∃ v' W', (Builtin.append_ #[55, 55] ty #[v, .slice (some ⟨r, off, none⟩) m c]).run Try.prog W = .ok v' W' ∧ OwnT W' base v' (n + m) V' ∧ W.grownBy W' v.ownBlock ∧ (v'.ownBlock = v.ownBlock ∨ v'.ownBlock = some W.heap.size) := by
  obtain ⟨i, hi, h1, h2, h3⟩ := tinfo
  obtain ⟨v', W', hr, q2, q3, _, q5⟩ := run_append_own_at (P := Try.prog) W base 55 ty 32 i (.agg (ic 0 0)) 2 16 Try.underlying55 hi h1 h2 h3 rfl (by decide) v n _ hown ⟨r, off, none⟩ m c (tl m U) (tl_len m U)
    (fun j y hj => by
      have hjm : j < m * 2 := by have := (List.getElem?_eq_some_iff.1 hj).1; rw [tl_len] at this; exact this
      rw [Go.WideShapes.add_plain]
      have hk : j / 2 < m := by omega
      have ha := tl_at U hk
      have hb := hc (j / 2) hk
      by_cases he : j % 2 = 0
      · rw [show j = j / 2 * 2 by omega] at hj ⊢
        rw [ha.1] at hj
        rw [hb.1, hj]
      · rw [show j = j / 2 * 2 + 1 by omega] at hj ⊢
        rw [ha.2] at hj
        rw [hb.2, hj])
    (tl_one m U) (by unfold maxLen; omega) (by omega) hbase
  refine ⟨v', W', hr, ?_, q3, q5⟩
  unfold OwnT
  rw [← tl_add n m V U V' hV hU]
  exact q2
/-- One Itv more. -/
theorem append_t (hgd : Region.wanted o (yielded ops a.tmps) = true) (s x : Operand) (ho : o.op = .call { callee := .builtin .append, args := #[s, x], argTypes := #[55, 55] }) (base : Nat)
    {v : Value} {n : Nat} {V V' : Nat → Int × Int} (hs : a.eval s = v) (hown : OwnT w base v n V) {r off m c : Nat} (hx : a.eval x = .slice (some ⟨r, off, none⟩) m c) {U : Nat → Int × Int}
    (hc : ∀ j, j < m → w.cell? ⟨r, off + j * 2, none⟩ = some (.int .i64 (U j).1) ∧ w.cell? ⟨r, off + (j * 2 + 1), none⟩ = some (.int .i64 (U j).2)) (hn : n + m ≤ 1000000) (hbase : base ≤ w.heap.size) (hV : ∀ j, j < n → V' j = V j) (hU : ∀ j, j < m → V' (n + j) = U j)
    (h : ∀ v' W', OwnT W' base v' (n + m) V' → w.grownBy W' v.ownBlock → (v'.ownBlock = v.ownBlock ∨ v'.ownBlock = some w.heap.size) → wpList Try.prog ops Q rest (a.put o.dst v') W') : wpList Try.prog ops Q (o :: rest) a w := by
  obtain ⟨v', W', hr, q2, q3, q5⟩ := run_append_t w o.type base (c := c) hown hc hn hbase hV hU
  refine wpList_want hgd fun K hK => ?_
  have h' := hK _ _ (h v' W' q2 q3 q5)
  unfold Oper.wp execOp
  simp only [ho, resolve, invoke, builtin, Sem.run_bind, Sem.run_pure, Result.andThen_ok, List.map_toArray, List.map_cons, List.map_nil, hs, hx, hr]
  exact h'
end
section
variable {ops : Array Oper} {l : List Value} {ds : List Deferred} {ov : List (Nat × Value)} {o : Oper}
theorem step_append_t {W : World} {good : Value → World → Prop} (hst : StO l ov) (hw : Region.wanted o (yO ops l ov) = true) (s x : Operand) (ho : o.op = .call { callee := .builtin .append, args := #[s, x], argTypes := #[55, 55] }) (base : Nat)
    {v : Value} {n : Nat} {V V' : Nat → Int × Int} (hs : evalO l ov s = some v) (hown : OwnT W base v n V) {r off m c : Nat} (hx : evalO l ov x = some (.slice (some ⟨r, off, none⟩) m c)) {U : Nat → Int × Int}
    (hc : ∀ j, j < m → W.cell? ⟨r, off + j * 2, none⟩ = some (.int .i64 (U j).1) ∧ W.cell? ⟨r, off + (j * 2 + 1), none⟩ = some (.int .i64 (U j).2)) (hn : n + m ≤ 1000000) (hbase : base ≤ W.heap.size) (hV : ∀ j, j < n → V' j = V j) (hU : ∀ j, j < m → V' (n + j) = U j)
    (hg : ∀ v' W', OwnT W' base v' (n + m) V' → W.grownBy W' v.ownBlock → (v'.ownBlock = v.ownBlock ∨ v'.ownBlock = some W.heap.size) → good v' W') : stepG Try.prog ops o (fr l ds ov) W good := by
  obtain ⟨v', W', hr, q2, q3, q5⟩ := run_append_t W o.type base (c := c) hown hc hn hbase hV hU
  have e1 := fr_eval (ds := ds) hst hs
  have e2 := fr_eval (ds := ds) hst hx
  refine step_run hst hw (u := v') (W' := W') ?_ (hg v' W' q2 q3 q5)
  unfold execOp
  simp only [ho, resolve, invoke, builtin, Sem.run_bind, Sem.run_pure, Result.andThen_ok, List.map_toArray, List.map_cons, List.map_nil, e1, e2, hr]
end
end Go.Proofs.Ytgnkhncogfppgaa
