import Derived.Test.YtgnkhncogfppgaaBE
import Derived.Test.YtgnkhncogfppgaaBD
import Derived.Maps.AppendAt
namespace Go.Proofs.Ytgnkhncogfppgaa
open Go.RowKit
theorem OwnI.form {w : World} {base : Nat} {v : Value} {n : Nat} {V : Nat → Int} (h : OwnI w base v n V) (hn : 0 < n) : ∃ g cap, v = .slice (some ⟨g, 0, none⟩) n cap ∧ base ≤ g ∧ g < w.heap.size := by
  rcases h.2 with ⟨_, h0⟩ | ⟨g, cap, cur, hv, hb, hg, _⟩
  · omega
  · exact ⟨g, cap, hv, hb, (Array.getElem?_eq_some_iff.1 hg).1⟩
theorem OwnI.set {w : World} {base g off n cap : Nat} {V : Nat → Int} (h : OwnI w base (.slice (some ⟨g, off, none⟩) n cap) n V) {k : Nat} (hk : k < n) (u : Int) :
    OwnI (w.setCell ⟨g, off + k, none⟩ (.int .i64 u)) base (.slice (some ⟨g, off, none⟩) n cap) n (fun j => if j = k then u else V j) ∧ base ≤ g ∧ w.frozen? ⟨g, off + k, none⟩ = false := by
  rcases h.2 with ⟨h1, _⟩ | ⟨g', cap', cur, hv, hb, hg, hnc, hcap, hs, ht⟩
  · cases h1
  · injection hv with e1 e2 e3
    injection e1 with e1
    injection e1 with e1 e4
    subst e1; subst e4; subst e3
    rw [Nat.zero_add]
    refine ⟨⟨by simp, .inr ⟨g, cap, cur.setIfInBounds k (.int .i64 u), rfl, hb, heap_setCell_same w g k _ _ _ hg, hnc, hcap, by simpa using hs, ?_⟩⟩, hb, frozen_of_row w g k _ _ hg⟩
    rw [Array.toList_setIfInBounds, List.take_set, ht]
    refine List.ext_getElem? fun j => ?_
    rw [List.getElem?_set]
    by_cases hj : j < n
    · by_cases e : k = j
      · subst e; simp [hj]
      · rw [if_neg e]
        simp [hj, Ne.symm e]
    · by_cases e : k = j
      · omega
      · rw [if_neg e]
        simp [hj]
def slc (g n : Nat) : Value := .slice (some ⟨g, 0, none⟩) n n
section
variable {ops : Array Oper} {l : List Value} {ds : List Deferred} {ov : List (Nat × Value)} {o : Oper}
theorem step_append_i {W : World} {good : Value → World → Prop} (hst : StO l ov) (hw : Region.wanted o (yO ops l ov) = true) (s x : Operand) (ho : o.op = .call { callee := .builtin .append, args := #[s, x], argTypes := #[28, 28] }) (base : Nat)
    {v : Value} {n : Nat} {V V' : Nat → Int} (hs : evalO l ov s = some v) (hown : OwnI W base v n V) {r off m c : Nat} (hx : evalO l ov x = some (.slice (some ⟨r, off, none⟩) m c)) {U : Nat → Int} (hc : ∀ j, j < m → W.cell? ⟨r, off + j, none⟩ = some (.int .i64 (U j)))
    (hn : n + m ≤ 1000000) (hbase : base ≤ W.heap.size) (hV : ∀ j, j < n → V' j = V j) (hU : ∀ j, j < m → V' (n + j) = U j)
    (hg : ∀ v' W', OwnI W' base v' (n + m) V' → W.grownBy W' v.ownBlock → (v'.ownBlock = v.ownBlock ∨ v'.ownBlock = some W.heap.size) → good v' W') : stepG Try.prog ops o (fr l ds ov) W good := by
  obtain ⟨i, hi, h1, h2, h3⟩ := iinfo
  have e1 := fr_eval (ds := ds) hst hs
  have e2 := fr_eval (ds := ds) hst hx
  obtain ⟨v', W', hr, q2, q3, _, q5⟩ := run_append_own_at (P := Try.prog) W base 28 o.type 3 i (.int .i64 0) 1 8 Try.underlying28 hi h1 h2 h3 rfl (by decide) v n _ hown ⟨r, off, none⟩ m c ((List.range m).map fun j => Value.int .i64 (U j)) (by simp)
    (fun j y hj => by
      by_cases hjm : j < m
      · simp only [List.getElem?_map, List.getElem?_range hjm, Option.map_some, Option.some.injEq] at hj
        subst hj
        rw [Go.WideShapes.add_plain]
        exact hc j hjm
      · rw [List.getElem?_eq_none (by simp; omega)] at hj; cases hj)
    (fun y hy => by
      obtain ⟨j, _, rfl⟩ := List.mem_map.1 hy
      rfl) (by unfold maxLen; omega) (by omega) hbase
  refine step_run hst hw (u := v') (W' := W') ?_ (hg v' W' ?_ q3 q5)
  · unfold execOp
    simp only [ho, resolve, invoke, builtin, Sem.run_bind, Sem.run_pure, Result.andThen_ok, List.map_toArray, List.map_cons, List.map_nil, e1, e2, hr]
  · unfold OwnI
    have : ((List.range n).map fun k => Value.int .i64 (V k)) ++ ((List.range m).map fun j => Value.int .i64 (U j)) = (List.range (n + m)).map fun k => Value.int .i64 (V' k) := by
      have a1 : ((List.range n).map fun k => Value.int .i64 (V k)) = (List.range n).map fun k => Value.int .i64 (V' k) := List.map_congr_left fun k hk => congrArg (Value.int .i64) (hV k (List.mem_range.1 hk)).symm
      have a2 : ((List.range m).map fun j => Value.int .i64 (U j)) = (List.range m).map ((fun k => Value.int .i64 (V' k)) ∘ (n + ·)) := List.map_congr_left fun k hk => congrArg (Value.int .i64) (hU k (List.mem_range.1 hk)).symm
      rw [List.range_add, List.map_append, List.map_map, a1, a2]
    rw [← this]
    exact q2
theorem step_append_none {W : World} {good : Value → World → Prop} (hst : StO l ov) (hw : Region.wanted o (yO ops l ov) = true) (s x : Operand) (ho : o.op = .call { callee := .builtin .append, args := #[s, x], argTypes := #[28, 28] })
    {g : Nat} (hs : evalO l ov s = some (slc g 0)) (hx : evalO l ov x = some (.slice none 0 0)) (hg : good (slc g 0) W) : stepG Try.prog ops o (fr l ds ov) W good := by
  obtain ⟨i, hi, h1, h2, h3⟩ := iinfo
  have e1 := fr_eval (ds := ds) hst hs
  have e2 := fr_eval (ds := ds) hst hx
  have hr : (Builtin.append_ #[28, 28] o.type #[slc g 0, .slice none 0 0]).run Try.prog W = .ok (slc g 0) W := by
    simp [slc, storeCells, Builtin.append_, run_underlying Try.underlying28, sizeOf, typeInfo, hi, Builtin.lenOf, Builtin.firstCells, loadCells, loadCellsFrom]
  refine step_run hst hw (u := slc g 0) (W' := W) ?_ hg
  unfold execOp
  simp only [ho, resolve, invoke, builtin, Sem.run_bind, Sem.run_pure, Result.andThen_ok, List.map_toArray, List.map_cons, List.map_nil, e1, e2, hr]
end
theorem OwnI.empty {w : World} {base g : Nat} (V : Nat → Int) (hg : w.heap[g]? = some (.cells #[] 3)) (hb : base ≤ g) : OwnI w base (slc g 0) 0 V :=
  ⟨by simp, .inr ⟨g, 0, #[], rfl, hb, hg, Nat.le_refl _, by unfold maxLen; omega, rfl, rfl⟩⟩
end Go.Proofs.Ytgnkhncogfppgaa
