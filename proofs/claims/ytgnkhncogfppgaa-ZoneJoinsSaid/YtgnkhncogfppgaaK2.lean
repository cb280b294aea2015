import Derived.Test.YtgnkhncogfppgaaK1
namespace Go.Proofs.Ytgnkhncogfppgaa
open Go.RowKit
/-- A slice of the call's own holds these ints. -/
def OwnI (w : World) (base : Nat) (v : Value) (n : Nat) (V : Nat → Int) : Prop := w.ownsRow base 3 1 v n ((List.range n).map fun k => Value.int .i64 (V k))
theorem OwnI.congr {w : World} {base : Nat} {v : Value} {n : Nat} {V V' : Nat → Int} (h : OwnI w base v n V) (he : ∀ k, k < n → V' k = V k) : OwnI w base v n V' := by
  unfold OwnI
  rw [show ((List.range n).map fun k => Value.int .i64 (V' k)) = (List.range n).map fun k => Value.int .i64 (V k) from List.map_congr_left fun k hk => by rw [he k (List.mem_range.1 hk)]]
  exact h
theorem OwnI.nil (w : World) (base : Nat) (V : Nat → Int) : OwnI w base (.slice none 0 0) 0 V := World.ownsRow_nil w base _ 1
theorem OwnI.sl {w : World} {base : Nat} {v : Value} {n : Nat} {V : Nat → Int} (h : OwnI w base v n V) : ∃ ad cap, v = .slice ad n cap ∧ SlI w ad n V ∧ n ≤ cap := by
  rcases h.2 with ⟨rfl, rfl⟩ | ⟨g, cap, cur, rfl, hb, hg, hnc, hcap, hs, ht⟩
  · exact ⟨none, 0, rfl, fun k hk => by omega, Nat.le_refl _⟩
  · refine ⟨some ⟨g, 0, none⟩, cap, rfl, fun k hk => ⟨g, 0, rfl, ?_⟩, hnc⟩
    rw [cell_of_row w g (0 + k) cur _ _ hg]
    have h1 := congrArg (fun l => l[k]?) ht
    simp only [List.getElem?_take, Nat.mul_one, if_pos hk, List.getElem?_map, List.getElem?_range hk, Option.map_some] at h1
    rw [Nat.zero_add, ← Array.getElem?_toList]
    exact h1
theorem OwnI.cell {w : World} {base b off n cap : Nat} {V : Nat → Int} (h : OwnI w base (.slice (some ⟨b, off, none⟩) n cap) n V) (k : Nat) (hk : k < n) : w.cell? ⟨b, off + k, none⟩ = some (.int .i64 (V k)) := by
  obtain ⟨ad, c, he, hs, _⟩ := h.sl
  obtain ⟨b', off', h1, h2⟩ := hs k hk
  injection he with e1 e2 e3
  rw [← e1] at h1
  injection h1 with h1
  injection h1 with h1 h3
  subst h1; subst h3
  exact h2
theorem OwnI.on {w w' : World} {base : Nat} {v : Value} {n : Nat} {V : Nat → Int} (h : OwnI w base v n V) (hb : Below w.heap.size w w') : OwnI w' base v n V :=
  World.ownsRow.kept h (row := none) ⟨hb.os, hb.tape, hb.output, hb.size, fun k hk _ => hb.block k hk⟩ (by cases v.ownBlock <;> simp)
theorem OwnI.drew {w : World} {base : Nat} {v : Value} {n : Nat} {V : Nat → Int} (h : OwnI w base v n V) : OwnI w.drew base v n V := h.on (Below.refl _ _).drew
theorem OwnI.alloc {w : World} {base : Nat} {v : Value} {n : Nat} {V : Nat → Int} (h : OwnI w base v n V) (o : Obj) : OwnI (w.alloc o) base v n V := World.ownsRow.alloc h o
theorem OwnI.only {w W : World} {base g : Nat} {v : Value} {n : Nat} {V : Nat → Int} (h : OwnI w base v n V) (hg : w.grownBy W (some g)) (hlt : g < base) : OwnI W base v n V :=
  World.ownsRow.kept h hg (by
    cases hv : v.ownBlock with
    | none => exact Or.inl rfl
    | some k => right; have := (World.ownsRow.lt h k hv).1; intro e; injection e with e; omega)
theorem OwnI.fresh (w : World) (V : Nat → Int) (u : Int) (hu : V 0 = u) {base : Nat} (hb : base ≤ w.heap.size) : OwnI (w.alloc (.cells #[.int .i64 u] 3)) base (.slice (some ⟨w.heap.size, 0, none⟩) 1 1) 1 V := by
  refine ⟨by simp, .inr ⟨w.heap.size, 1, _, rfl, hb, Go.heap_alloc_new w _, Nat.le_refl _, by unfold maxLen; omega, rfl, ?_⟩⟩
  simp [hu]
theorem iinfo : ∃ i : TypeInfo, Try.prog.info? 3 = some i ∧ i.zero = some (.int .i64 0) ∧ i.size = 1 ∧ i.bytes = 8 := by
  have h : (Try.prog.info? 3).map (fun i => (i.zero, i.size, i.bytes)) = some (some (.int .i64 0), 1, 8) := by kernel_rfl
  cases hi : Try.prog.info? 3 with
  | none => simp [hi] at h
  | some i => simp [hi] at h; exact ⟨i, rfl, h.1, h.2.1, h.2.2⟩
section
variable {ops : Array Oper} {rest : List Oper} {o : Oper} {a : Act} {w : World} {Q : Exit → Act → World → Prop}
/-- One int more. -/
theorem append_i (hgd : o.guard = none) (s x : Operand) (ho : o.op = .call { callee := .builtin .append, args := #[s, x], argTypes := #[28, 28] }) (base : Nat)
    (v : Value) (n : Nat) (V V' : Nat → Int) (hs : a.eval s = v) (hown : OwnI w base v n V) (r : Nat) (c : Nat) (hx : a.eval x = .slice (some ⟨r, 0, none⟩) 1 c) (u : Int) (hc : w.cell? ⟨r, 0, none⟩ = some (.int .i64 u))
    (hn : n ≤ 1000000) (hbase : base ≤ w.heap.size) (hV : ∀ k, k < n → V' k = V k) (hu : V' n = u)
    (h : ∀ v' w', OwnI w' base v' (n + 1) V' → w.grownBy w' v.ownBlock → (∀ k, v.ownBlock = some k → base ≤ k) → wpList Try.prog ops Q rest (a.put o.dst v') w') : wpList Try.prog ops Q (o :: rest) a w := by
  obtain ⟨i, hi, h1, h2, h3⟩ := iinfo
  refine wpList_append_own w hgd s x 28 ho base 3 i (.int .i64 0) 1 8 Try.underlying28 hi h1 h2 h3 rfl (by decide) v n _ hs hown ⟨r, 0, none⟩ 1 c [.int .i64 u] hx rfl ?_ ?_ ?_ ?_ hbase ?_
  · intro j y hj
    match j with
    | 0 => simp at hj; subst hj; simpa [Addr.add] using hc
    | j + 1 => simp at hj
  · intro y hy; simp at hy; subst hy; rfl
  · unfold maxLen; omega
  · omega
  · intro v' w' ho' hg _
    refine h v' w' ?_ hg (fun k hk => (World.ownsRow.lt hown k hk).1)
    unfold OwnI
    rw [List.range_succ, List.map_append, List.map_cons, List.map_nil, hu]
    rw [show ((List.range n).map fun k => Value.int .i64 (V' k)) = (List.range n).map fun k => Value.int .i64 (V k) from List.map_congr_left fun k hk => by rw [hV k (List.mem_range.1 hk)]]
    exact ho'
end
theorem ZAt.kept {T : TypeId} {w W : World} {k : Nat} {n : Int} {b : Bool} {D : Mat} {row : Option Nat} {base : Nat} (h : ZAt T w k n b D) (hg : w.grownBy W row) (hr : ∀ j, row = some j → base ≤ j) (hk : k < base) : ZAt T W k n b D :=
  (hg.block k h.lt (fun e => by have := hr k e.symm; omega)).trans h
theorem RowAt.kept {T : TypeId} {w W : World} {k : Nat} {cs : Array Value} {row : Option Nat} {base : Nat} (h : RowAt T w k cs) (hg : w.grownBy W row) (hr : ∀ j, row = some j → base ≤ j) (hk : k < base) : RowAt T W k cs :=
  (hg.block k h.lt (fun e => by have := hr k e.symm; omega)).trans h
@[go_sem high] theorem neq_i (a b c d : Int) (w : World) : (binOp .neq 32 (.agg (ic a b)) (.agg (ic c d))).run Try.prog w = .ok (.bool (!decide (a = c ∧ b = d))) w := by
  by_cases h1 : a = c <;> by_cases h2 : b = d <;> simp [go_sem, h1, h2, Try.underlying32, Try.stoodInHeld32]
end Go.Proofs.Ytgnkhncogfppgaa
