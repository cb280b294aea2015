import Derived.Test.YtgnkhncogfppgaaW2
import Derived.Test.YtgnkhncogfppgaaW3
namespace Go.Proofs.Ytgnkhncogfppgaa
open Go.RowKit
/-- Cells of numbers. -/
def vc (m : Nat) (R : Nat → Int) : Array Value := ((List.range m).map fun k => Value.int .i64 (R k)).toArray
theorem vc_size (m : Nat) (R : Nat → Int) : (vc m R).size = m := by simp [vc]
theorem vc_get (m : Nat) (R : Nat → Int) (k : Nat) (hk : k < m) : (vc m R)[k]? = some (.int .i64 (R k)) := by simp [vc, hk]
theorem vc_one (m : Nat) (R : Nat → Int) : ∀ v ∈ (vc m R).toList, v.oneCell' = true := by
  intro v hv
  simp only [vc, List.mem_map] at hv
  obtain ⟨k, _, rfl⟩ := hv
  rfl
theorem vc_ext {m : Nat} {R : Nat → Int} {c : Array Value} (hs : c.size = m) (h : ∀ k, k < m → c[k]? = some (.int .i64 (R k))) : c = vc m R := by
  apply Array.ext_getElem?
  intro k
  by_cases hk : k < m
  · rw [h k hk, vc_get _ _ _ hk]
  · rw [Array.getElem?_eq_none (by omega), Array.getElem?_eq_none (by rw [vc_size]; omega)]
/-- The bounds as an array's value. -/
def mc (D : Mat) : Array Value := vc 49 fun k => D (k / 7) (k % 7)
theorem zc_mc (n : Int) (b : Bool) (D : Mat) : (zc n b D).extract 2 (2 + 49) = mc D := by
  unfold mc
  apply vc_ext
  · simp [zc_size]
  · intro k hk
    simp only [Array.getElem?_extract, zc_size]
    rw [if_pos (by omega), zc_get _ _ _ _ (by omega), if_neg (by omega), if_neg (by omega)]
    rw [show 2 + k - 2 = k by omega]
theorem mc_row (D : Mat) (i : Nat) (hi : i < 7) : (mc D).extract (i * 7) (i * 7 + 7) = vc 7 (D i) := by
  apply vc_ext
  · simp [mc, vc_size]; omega
  · intro k hk
    simp only [Array.getElem?_extract, mc, vc_size]
    rw [if_pos (by omega), vc_get _ _ _ (by omega)]
    rw [show (i * 7 + k) / 7 = i by omega, show (i * 7 + k) % 7 = k by omega]
section
variable {P : Program}
theorem run_loadVar_part (w : World) (g off m : Nat) (t ty : TypeId) (cs : Array Value) (fr : Nat × Nat) (d : TypeDesc) (hg : w.heap[g]? = some (.cells cs t fr))
    (hu : P.underlying ty = some d) (hd : (match d with | .struct _ | .array _ _ => true | _ => false) = true) (hi : (P.info? ty).map (·.size) = some m) (hm : off + m ≤ cs.size) :
    (loadVar ty ⟨g, off, none⟩).run P w = .ok (.agg (cs.extract off (off + m))) w := by
  have hlen : (cs.extract off (off + m)).toList.length = m := by simp; omega
  have hl : (loadCells ⟨g, off, none⟩ (cs.extract off (off + m)).toList.length).run P w = .ok (cs.extract off (off + m)).toList.toArray w :=
    run_loadCells_list (P := P) w ⟨g, off, none⟩ (cs.extract off (off + m)).toList (fun j v hv => by
      have hadd : (⟨g, off, none⟩ : Addr).add j = ⟨g, off + j, none⟩ := by unfold Addr.add; split <;> simp_all
      rw [hadd, cell_of_row w g (off + j) cs t fr hg]
      have hj : j < m := by
        have := (List.getElem?_eq_some_iff.1 hv).1
        omega
      rw [Array.getElem?_toList, Array.getElem?_extract, if_pos (by omega)] at hv
      exact hv)
  cases hq : P.info? ty with
  | none => simp [hq] at hi
  | some i =>
    have hs : i.size = m := by simpa [hq] using hi
    have hagg : (isAgg ty).run P w = .ok true w := by
      unfold isAgg
      rw [Sem.run_bind, run_underlying hu w]
      cases d <;> simp_all
    rw [hlen] at hl
    simp only [Array.toArray_toList] at hl
    simp [loadVar, Sem.run_bind, hagg, sizeOf, typeInfo, hq, hs, hl]
variable {ops : Array Oper} {rest : List Oper} {o : Oper} {a : Act} {w : World} {Q : Exit → Act → World → Prop}
theorem load_part (hgd : Region.wanted o (yielded ops a.tmps) = true) (ty : TypeId) (x : Operand) (ho : o.op = .load ty x) (g off m : Nat) (hx : a.eval x = .pointer (some ⟨g, off, none⟩)) (d : TypeDesc) (hu : P.underlying ty = some d)
    (hd : (match d with | .struct _ | .array _ _ => true | _ => false) = true) {T : TypeId} {cs : Array Value} (hz : RowAt T w g cs) (hi : (P.info? ty).map (·.size) = some m) (hm : off + m ≤ cs.size)
    (h : wpList P ops Q rest (a.put o.dst (.agg (cs.extract off (off + m)))) w) : wpList P ops Q (o :: rest) a w := by
  refine wpList_want hgd fun K hK => ?_
  unfold Oper.wp execOp
  simp only [ho, hx, Instr.loadAt, Instr.sureAddr, Sem.run_bind, Sem.run_pure, Result.andThen_ok, run_loadVar_part w g off m T ty cs _ d hz hu hd hi hm]
  exact hK _ _ h
end
theorem vsz : (Try.prog.info? 23).map (·.size) = some 7 := by kernel_rfl
theorem vz : (Try.prog.info? 23).bind (·.zero) = some (.agg (vc 7 fun _ => 0)) := by kernel_rfl
section
variable {ops : Array Oper} {rest : List Oper} {o : Oper} {a : Act} {w : World} {Q : Exit → Act → World → Prop} {g : Nat} {T : TypeId}
theorem load_m (hgd : Region.wanted o (yielded ops a.tmps) = true) (x : Operand) (ho : o.op = .load 24 x) (hx : a.eval x = .pointer (some ⟨g, 2, none⟩)) {n : Int} {b : Bool} {D : Mat} (hz : ZAt T w g n b D)
    (h : wpList Try.prog ops Q rest (a.put o.dst (.agg (mc D))) w) : wpList Try.prog ops Q (o :: rest) a w :=
  load_part hgd 24 x ho g 2 49 hx _ Try.underlying24 rfl (cs := zc n b D) hz i77s (by rw [zc_size]; omega) (by rw [zc_mc]; exact h)
theorem load_v (hgd : Region.wanted o (yielded ops a.tmps) = true) (x : Operand) (ho : o.op = .load 23 x) (hx : a.eval x = .pointer (some ⟨g, 0, none⟩)) {R : Nat → Int} (hz : RowAt T w g (vc 7 R))
    (h : wpList Try.prog ops Q rest (a.put o.dst (.agg (vc 7 R))) w) : wpList Try.prog ops Q (o :: rest) a w :=
  load_row hgd 23 x ho g hx _ Try.underlying23 rfl hz (by rw [vc_size]; exact vsz) h
theorem store_v (hgd : Region.wanted o (yielded ops a.tmps) = true) (x y : Operand) (ho : o.op = .store 23 x y) (hx : a.eval x = .pointer (some ⟨g, 0, none⟩)) {R R' : Nat → Int}
    (hy : a.eval y = .agg (vc 7 R)) (hz : RowAt T w g (vc 7 R'))
    (h : ∀ W, RowAt T W g (vc 7 R) → w.grownBy W (some g) → Hid (W.heap.size = w.heap.size) → wpList Try.prog ops Q rest (a.put o.dst undef) W) : wpList Try.prog ops Q (o :: rest) a w :=
  store_row hgd 23 x y ho g hx _ hy hz (by simp [vc_size]) (by rw [vc_size]; exact vsz) (vc_one _ _) h
theorem alloc_v (hgd : Region.wanted o (yielded ops a.tmps) = true) (ho : o.op = .alloc 23)
    (h : ∀ W, RowAt 23 W w.heap.size (vc 7 fun _ => 0) → Below w.heap.size w W → Hid (W.heap.size = w.heap.size + 1) → wpList Try.prog ops Q rest (a.put o.dst (.pointer (some ⟨w.heap.size, 0, none⟩))) W) : wpList Try.prog ops Q (o :: rest) a w :=
  alloc_row hgd 23 ho _ vz h
end
@[go_sem high] theorem run_index_m (D : Mat) (i : Nat) (hi : i < 7) (w : World) : (Instr.index 24 (.agg (mc D)) (.int .i64 i)).run Try.prog w = .ok (.agg (vc 7 (D i))) w := by
  have hu := Try.underlying24
  have hs : (sizeOf 23).run Try.prog w = .ok 7 w := by
    have h := vsz
    cases hq : Try.prog.info? 23 with
    | none => simp [hq] at h
    | some i => have : i.size = 7 := by simpa [hq] using h
                simp [sizeOf, typeInfo, hq, this]
  have hp := part_row w (mc D) (i * 7)
  rw [mc_row D i hi] at hp
  have h1 : (0 : Int) ≤ (i : Int) ∧ (i : Int) < ((7 : Nat) : Int) := by omega
  simp [Instr.index, asIntOf, run_underlying hu, hs, h1, hp]
  intro h; omega
@[go_sem high] theorem run_index_v (R : Nat → Int) (i : Nat) (hi : i < 7) (w : World) : (Instr.index 23 (.agg (vc 7 R)) (.int .i64 i)).run Try.prog w = .ok (.int .i64 (R i)) w := by
  have hu := Try.underlying23
  have hs : (sizeOf 3).run Try.prog w = .ok 1 w := by
    obtain ⟨j, hj⟩ := info_some i3s
    have h := run_sizeOf w hj
    rwa [isize3] at h
  have hp := part_int w (vc 7 R) i (R i) (vc_get _ _ _ hi)
  have h1 : (0 : Int) ≤ (i : Int) ∧ (i : Int) < ((7 : Nat) : Int) := by omega
  simp [Instr.index, asIntOf, run_underlying hu, hs, h1, hp]
  intro h; omega
end Go.Proofs.Ytgnkhncogfppgaa
