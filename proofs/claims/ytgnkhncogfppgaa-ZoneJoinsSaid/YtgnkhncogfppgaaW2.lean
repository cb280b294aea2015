import Derived.Laws.StructEq
import Derived.ChangeKeysEq
import Derived.Test.YtgnkhncogfppgaaA1
namespace Go.Proofs.Ytgnkhncogfppgaa
open Go.RowKit
/-- Two zones are one. -/
def zeq (n : Int) (b : Bool) (D : Mat) (m : Int) (c : Bool) (E : Mat) : Bool :=
  (n == m) && ((b == c) && (List.range 7).all fun i => (List.range 7).all fun j => D i j == E i j)
theorem zeq_iff {n m : Int} {b c : Bool} {D E : Mat} : zeq n b D m c E = true ↔ zc n b D = zc m c E := by
  constructor
  · intro h
    simp only [zeq, Bool.and_eq_true, beq_iff_eq, List.all_eq_true, List.mem_range] at h
    obtain ⟨rfl, rfl, h⟩ := h
    exact zc_congr fun i j hi hj => h i hi j hj
  · intro h
    obtain ⟨hn, hb, hD⟩ := zc_inj h
    subst hn hb
    simp only [zeq, beq_self_eq_true, Bool.true_and, List.all_eq_true, List.mem_range, beq_iff_eq]
    exact fun i hi j hj => hD i j hi hj
section
variable (w : World)
theorem isize3 : Try.prog.cellsOf 3 = 1 := by kernel_rfl
theorem isize7 : Try.prog.cellsOf 23 = 7 := by kernel_rfl
theorem part_int (cs : Array Value) (k : Nat) (v : Int) (h : cs[k]? = some (.int .i64 v)) : (part 3 cs k).run Try.prog w = .ok (.int .i64 v) w := by
  have hu := Try.underlying3
  simp [part, isAgg, run_underlying hu, h]
theorem part_bool (cs : Array Value) (k : Nat) (v : Bool) (h : cs[k]? = some (.bool v)) : (part 4 cs k).run Try.prog w = .ok (.bool v) w := by
  have hu := Try.underlying4
  simp [part, isAgg, run_underlying hu, h]
theorem eq_items_int (d : Nat) (xs ys : Array Value) (X Y : Nat → Int) : ∀ is : List Nat, (∀ j ∈ is, xs[j]? = some (.int .i64 (X j)) ∧ ys[j]? = some (.int .i64 (Y j))) →
    (Op.eqItems (d + 1) 3 1 xs ys is).run Try.prog w = .ok (is.all fun j => X j == Y j) w
  | [], _ => by simp [Op.eqItems]
  | i :: is, h => by
    have hi := h i (by simp)
    have ih := eq_items_int d xs ys X Y is (fun j hj => h j (by simp [hj]))
    have h1 := part_int w xs (i * 1) (X i) (by simpa using hi.1)
    have h2 := part_int w ys (i * 1) (Y i) (by simpa using hi.2)
    have h3 := run_equalIn_int (P := Try.prog) w d 3 .i64 .i64 (X i) (Y i) Try.underlying3
    simp only [Op.eqItems, Sem.run_bind, h1, h2, h3, Result.andThen_ok]
    cases hb : (X i == Y i)
    · simp [hb]
    · simp [hb, ih]
theorem info_some {t : TypeId} (h : (Try.prog.info? t).isSome = true) : ∃ i, Try.prog.info? t = some i := Option.isSome_iff_exists.1 h
theorem i3s : (Try.prog.info? 3).isSome = true := by kernel_rfl
theorem i7s : (Try.prog.info? 23).isSome = true := by kernel_rfl
theorem eq_row (d : Nat) (xs ys : Array Value) (X Y : Nat → Int) (h : ∀ j, j < 7 → xs[j]? = some (.int .i64 (X j)) ∧ ys[j]? = some (.int .i64 (Y j))) :
    (Op.equalIn (d + 2) 23 (.agg xs) (.agg ys)).run Try.prog w = .ok ((List.range 7).all fun j => X j == Y j) w := by
  obtain ⟨i, hi⟩ := info_some i3s
  rw [run_equalIn_array w (d + 1) xs ys Try.underlying23 hi, isize3]
  exact eq_items_int w d xs ys X Y _ (fun j hj => h j (by simpa using hj))
theorem part_row (cs : Array Value) (k : Nat) : (part 23 cs k).run Try.prog w = .ok (.agg (cs.extract k (k + 7))) w := by
  obtain ⟨i, hi⟩ := info_some i7s
  have hu := Try.underlying23
  have hs := run_sizeOf w hi
  rw [isize7] at hs
  simp [part, isAgg, run_underlying hu]
theorem eq_items_row (d : Nat) (xs ys : Array Value) (X Y : Mat) : ∀ is : List Nat, (∀ i ∈ is, ∀ j, j < 7 → xs[i * 7 + j]? = some (.int .i64 (X i j)) ∧ ys[i * 7 + j]? = some (.int .i64 (Y i j))) →
    (Op.eqItems (d + 2) 23 7 xs ys is).run Try.prog w = .ok (is.all fun i => (List.range 7).all fun j => X i j == Y i j) w
  | [], _ => by simp [Op.eqItems]
  | i :: is, h => by
    have hi := h i (by simp)
    have ih := eq_items_row d xs ys X Y is (fun j hj => h j (by simp [hj]))
    have h1 := part_row w xs (i * 7)
    have h2 := part_row w ys (i * 7)
    have h3 := eq_row w d (xs.extract (i * 7) (i * 7 + 7)) (ys.extract (i * 7) (i * 7 + 7)) (X i) (Y i) (fun j hj => by
      obtain ⟨a, b⟩ := hi j hj
      have ha := (Array.getElem?_eq_some_iff.1 a).1
      have hb := (Array.getElem?_eq_some_iff.1 b).1
      have h6 := (hi 6 (by omega))
      have ha6 := (Array.getElem?_eq_some_iff.1 h6.1).1
      have hb6 := (Array.getElem?_eq_some_iff.1 h6.2).1
      simp only [Array.getElem?_extract]
      rw [if_pos (by omega), if_pos (by omega)]
      exact ⟨a, b⟩)
    simp only [Op.eqItems, Sem.run_bind, h1, h2, h3, Result.andThen_ok]
    cases hb : ((List.range 7).all fun j => X i j == Y i j)
    · simp only [List.all_cons, hb, Bool.false_and, Bool.not_false, if_true, Sem.run_pure]
    · simp only [List.all_cons, hb, Bool.true_and, Bool.not_true, Bool.false_eq_true, if_false, ih]
theorem i77s : (Try.prog.info? 24).map (·.size) = some 49 := by kernel_rfl
theorem part_mat (cs : Array Value) (k : Nat) : (part 24 cs k).run Try.prog w = .ok (.agg (cs.extract k (k + 49))) w := by
  have h := i77s
  cases hi : Try.prog.info? 24 with
  | none => simp [hi] at h
  | some i =>
    have hu := Try.underlying24
    have hz : i.size = 49 := by simpa [hi] using h
    simp [part, isAgg, run_underlying hu, sizeOf, typeInfo, hi, hz]
theorem eq_mat (d : Nat) (xs ys : Array Value) (X Y : Mat) (h : ∀ i j, i < 7 → j < 7 → xs[i * 7 + j]? = some (.int .i64 (X i j)) ∧ ys[i * 7 + j]? = some (.int .i64 (Y i j))) :
    (Op.equalIn (d + 3) 24 (.agg xs) (.agg ys)).run Try.prog w = .ok ((List.range 7).all fun i => (List.range 7).all fun j => X i j == Y i j) w := by
  obtain ⟨i, hi⟩ := info_some i7s
  rw [run_equalIn_array w (d + 2) xs ys Try.underlying24 hi, isize7]
  exact eq_items_row w d xs ys X Y _ (fun i hi j hj => h i j (by simpa using hi) hj)
theorem eq_fields (d : Nat) (n m : Int) (b c : Bool) (D E : Mat) (f1 f2 f3 : Field) (h1 : f1.name ≠ "_") (h2 : f2.name ≠ "_") (h3 : f3.name ≠ "_") (t1 : f1.type = 3) (t2 : f2.type = 4) (t3 : f3.type = 24)
    (o1 : f1.offset = 0) (o2 : f2.offset = 1) (o3 : f3.offset = 2) : (Op.eqFields (d + 3) (zc n b D) (zc m c E) [f1, f2, f3]).run Try.prog w = .ok (zeq n b D m c E) w := by
  have p1 := part_int w (zc n b D) 0 n (zc_n _ _ _)
  have p2 := part_int w (zc m c E) 0 m (zc_n _ _ _)
  have p3 := part_bool w (zc n b D) 1 b (zc_b _ _ _)
  have p4 := part_bool w (zc m c E) 1 c (zc_b _ _ _)
  have p5 := part_mat w (zc n b D) 2
  have p6 := part_mat w (zc m c E) 2
  have e1 : (Op.equalIn (d + 3) 3 (.int .i64 n) (.int .i64 m)).run Try.prog w = .ok (n == m) w := run_equalIn_int (P := Try.prog) w (d + 2) 3 .i64 .i64 n m Try.underlying3
  have e2 : (Op.equalIn (d + 3) 4 (.bool b) (.bool c)).run Try.prog w = .ok (b == c) w := run_equalIn_bool' (P := Try.prog) w (d + 2) 4 b c Try.underlying4
  have e3 := eq_mat w d ((zc n b D).extract 2 (2 + 49)) ((zc m c E).extract 2 (2 + 49)) D E (fun i j hi hj => by
    simp only [Array.getElem?_extract, zc_size]
    rw [if_pos (by omega), show 2 + (i * 7 + j) = 2 + i * 7 + j by omega, zc_at _ _ _ _ _ hi hj, if_pos (by omega), zc_at _ _ _ _ _ hi hj]
    exact ⟨rfl, rfl⟩)
  simp only [Op.eqFields, if_pos h1, if_pos h2, if_pos h3, t1, t2, t3, o1, o2, o3, Sem.run_bind, p1, p2, e1, Result.andThen_ok, zeq]
  cases hb1 : (n == m)
  · simp
  · cases hb2 : (b == c)
    · simp [p3, p4, e2, hb2]
    · cases hb3 : ((List.range 7).all fun i => (List.range 7).all fun j => D i j == E i j)
      · rw [hb3] at e3; simp [p3, p4, p5, p6, e2, e3, hb2]
      · rw [hb3] at e3; simp [p3, p4, p5, p6, e2, e3, hb2]
theorem zeq_run (n m : Int) (b c : Bool) (D E : Mat) : (Op.equalIn 10000 26 (.agg (zc n b D)) (.agg (zc m c E))).run Try.prog w = .ok (zeq n b D m c E) w := by
  have h := run_equalIn_agg (P := Try.prog) w 9999 26 (zc n b D) (zc m c E) (by kernel_rfl) Try.stoodInHeld26
  rw [show 9999 + 1 = 10000 from rfl] at h
  rw [h]
  simp only [Program.fieldsOf, Try.underlying26]
  have h2 := eq_fields w 9996 n m b c D E ⟨"N", 3, 0, false, "", "", 0⟩ ⟨"None", 4, 1, false, "", "", 8⟩ ⟨"D", 24, 2, false, "", "", 16⟩ (by decide) (by decide) (by decide) rfl rfl rfl rfl rfl rfl
  rw [show 9996 + 3 = 9999 from rfl] at h2
  exact h2
theorem zeq_runR (n m : Int) (b c : Bool) (D E : Mat) : (Op.equalIn 10000 38 (.agg (zc n b D)) (.agg (zc m c E))).run Try.prog w = .ok (zeq n b D m c E) w := by
  have h := run_equalIn_agg (P := Try.prog) w 9999 38 (zc n b D) (zc m c E) (by kernel_rfl) Try.stoodInHeld38
  rw [show 9999 + 1 = 10000 from rfl] at h
  rw [h]
  simp only [Program.fieldsOf, Try.underlying38]
  have h2 := eq_fields w 9996 n m b c D E ⟨"N", 3, 0, false, "", "", 0⟩ ⟨"None", 4, 1, false, "", "", 8⟩ ⟨"D", 24, 2, false, "", "", 16⟩ (by decide) (by decide) (by decide) rfl rfl rfl rfl rfl rfl
  rw [show 9996 + 3 = 9999 from rfl] at h2
  exact h2
@[go_sem high] theorem eql_z (n m : Int) (b c : Bool) (D E : Mat) : (binOp .eql 26 (.agg (zc n b D)) (.agg (zc m c E))).run Try.prog w = .ok (.bool (zeq n b D m c E)) w := by
  rw [run_eql_struct, zeq_run]; rfl
@[go_sem high] theorem neq_z (n m : Int) (b c : Bool) (D E : Mat) : (binOp .neq 26 (.agg (zc n b D)) (.agg (zc m c E))).run Try.prog w = .ok (.bool (!zeq n b D m c E)) w := by
  rw [run_neq_struct, zeq_run]; rfl
@[go_sem high] theorem eql_r (n m : Int) (b c : Bool) (D E : Mat) : (binOp .eql 38 (.agg (zc n b D)) (.agg (zc m c E))).run Try.prog w = .ok (.bool (zeq n b D m c E)) w := by
  rw [run_eql_struct, zeq_runR]; rfl
@[go_sem high] theorem neq_r (n m : Int) (b c : Bool) (D E : Mat) : (binOp .neq 38 (.agg (zc n b D)) (.agg (zc m c E))).run Try.prog w = .ok (.bool (!zeq n b D m c E)) w := by
  rw [run_neq_struct, zeq_runR]; rfl
end
end Go.Proofs.Ytgnkhncogfppgaa
