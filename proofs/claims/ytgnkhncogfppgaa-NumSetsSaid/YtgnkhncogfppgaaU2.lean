import Derived.Test.YtgnkhncogfppgaaU1
namespace Go.Proofs.Ytgnkhncogfppgaa
open Go.RowKit
/-! A Num's cells: none, the Itvs, the zone. -/
def nc (b : Bool) (sl : Value) (n : Int) (z : Bool) (D : Mat) : Array Value := #[.bool b, sl] ++ zc n z D
abbrev snil : Value := .slice none 0 0
theorem nc_size (b : Bool) (sl : Value) (n : Int) (z : Bool) (D : Mat) : (nc b sl n z D).size = 53 := by simp [nc, zc_size]
theorem nc_b (b : Bool) (sl : Value) (n : Int) (z : Bool) (D : Mat) : (nc b sl n z D)[0]? = some (.bool b) := by unfold nc; rw [Array.getElem?_append_left (by simp)]; rfl
theorem nc_sl (b : Bool) (sl : Value) (n : Int) (z : Bool) (D : Mat) : (nc b sl n z D)[1]? = some sl := by unfold nc; rw [Array.getElem?_append_left (by simp)]; rfl
theorem nc_at (b : Bool) (sl : Value) (n : Int) (z : Bool) (D : Mat) (k : Nat) : (nc b sl n z D)[2 + k]? = (zc n z D)[k]? := by
  unfold nc
  rw [Array.getElem?_append_right (by simp)]
  simp
theorem nc_z (b : Bool) (sl : Value) (n : Int) (z : Bool) (D : Mat) : (nc b sl n z D).extract 2 (2 + 51) = zc n z D := by
  apply Array.ext_getElem?
  intro k
  simp only [Array.getElem?_extract, nc_size]
  by_cases hk : k < 51
  · rw [if_pos (by omega), nc_at]
  · rw [if_neg (by omega), Array.getElem?_eq_none (by rw [zc_size]; omega)]
theorem nc_set (b : Bool) (sl : Value) (n : Int) (z : Bool) (D : Mat) (sl' : Value) : (nc b sl n z D).setIfInBounds 1 sl' = nc b sl' n z D := by
  simp [nc]
theorem nc_one {b : Bool} {sl : Value} (hs : sl.oneCell' = true) (n : Int) (z : Bool) (D : Mat) : ∀ v ∈ (nc b sl n z D).toList, v.oneCell' = true := by
  intro v hv
  simp only [nc, Array.toList_append, List.mem_append, List.mem_cons, List.not_mem_nil, or_false] at hv
  rcases hv with (rfl | rfl) | hv
  · rfl
  · exact hs
  · exact zc_one _ _ _ v hv
theorem nsz : (Try.prog.info? 57).map (·.size) = some 53 := by kernel_rfl
theorem nzero : (Try.prog.info? 57).bind (·.zero) = some (.agg (nc false snil 0 false fun _ _ => 0)) := by kernel_rfl
theorem build_nn (b : Bool) (n : Int) (z : Bool) (D : Mat) (w : World) : (Instr.build 57 #[(0, .bool b), (2, .agg (zc n z D))]).run Try.prog w = .ok (.agg (nc b snil n z D)) w := by kernel_rfl
theorem build_nz (w : World) (n : Int) (b : Bool) : (Instr.build 26 #[(0, .int .i64 n), (1, .bool b)]).run Try.prog w = .ok (.agg (zc n b fun _ _ => 0)) w := by kernel_rfl
@[go_sem high] theorem field_nz (b : Bool) (sl : Value) (n : Int) (z : Bool) (D : Mat) (w : World) : (Instr.field 57 (.agg (nc b sl n z D)) 2).run Try.prog w = .ok (.agg (zc n z D)) w := by
  have hu := Try.underlying57
  have h : (part 26 (nc b sl n z D) 2).run Try.prog w = .ok (.agg ((nc b sl n z D).extract 2 (2 + 51))) w := by
    have hu2 := Try.underlying26
    have hs : (sizeOf 26).run Try.prog w = .ok 51 w := by
      have h2 : (Try.prog.info? 26).map (·.size) = some 51 := by kernel_rfl
      cases hq : Try.prog.info? 26 with
      | none => simp [hq] at h2
      | some i => have : i.size = 51 := by simpa [hq] using h2
                  simp [sizeOf, typeInfo, hq, this]
    simp [part, isAgg, run_underlying hu2, Sem.run_bind]
  rw [nc_z] at h
  simp [Instr.field, run_underlying hu, Sem.run_bind, asAgg, h]
@[go_sem high] theorem field_nb (b : Bool) (sl : Value) (n : Int) (z : Bool) (D : Mat) (w : World) : (Instr.field 57 (.agg (nc b sl n z D)) 0).run Try.prog w = .ok (.bool b) w := by
  have hu := Try.underlying57
  have h : (part 4 (nc b sl n z D) 0).run Try.prog w = .ok (.bool b) w := by
    have hu2 := Try.underlying4
    simp [part, isAgg, run_underlying hu2, Sem.run_bind, nc_b]
  simp [Instr.field, run_underlying hu, Sem.run_bind, asAgg, h]
section
variable {ops : Array Oper} {rest : List Oper} {o : Oper} {a : Act} {w : World} {Q : Exit → Act → World → Prop} {g : Nat} {T : TypeId} {b : Bool} {sl : Value} {n : Int} {z : Bool} {D : Mat}
theorem load_n (hgd : Region.wanted o (yielded ops a.tmps) = true) (x : Operand) (ho : o.op = .load 57 x) (hx : a.eval x = .pointer (some ⟨g, 0, none⟩)) (hz : RowAt T w g (nc b sl n z D))
    (h : wpList Try.prog ops Q rest (a.put o.dst (.agg (nc b sl n z D))) w) : wpList Try.prog ops Q (o :: rest) a w :=
  load_row hgd 57 x ho g hx _ Try.underlying57 rfl hz (by rw [nc_size]; exact nsz) h
theorem load_nz (hgd : Region.wanted o (yielded ops a.tmps) = true) (x : Operand) (ho : o.op = .load 26 x) (hx : a.eval x = .pointer (some ⟨g, 2, none⟩)) (hz : RowAt T w g (nc b sl n z D))
    (h : wpList Try.prog ops Q rest (a.put o.dst (.agg (zc n z D))) w) : wpList Try.prog ops Q (o :: rest) a w :=
  load_part hgd 26 x ho g 2 51 hx _ Try.underlying26 rfl hz (by kernel_rfl) (by rw [nc_size]; omega) (by rw [nc_z]; exact h)
theorem store_n (hgd : Region.wanted o (yielded ops a.tmps) = true) (x y : Operand) (ho : o.op = .store 57 x y) (hx : a.eval x = .pointer (some ⟨g, 0, none⟩)) {b' : Bool} {sl' : Value} {n' : Int} {z' : Bool} {D' : Mat}
    (hy : a.eval y = .agg (nc b sl n z D)) (hs : sl.oneCell' = true) (hz : RowAt T w g (nc b' sl' n' z' D'))
    (h : ∀ W, RowAt T W g (nc b sl n z D) → w.grownBy W (some g) → Hid (W.heap.size = w.heap.size) → wpList Try.prog ops Q rest (a.put o.dst undef) W) : wpList Try.prog ops Q (o :: rest) a w :=
  store_row hgd 57 x y ho g hx _ hy hz (by rw [nc_size, nc_size]) (by rw [nc_size]; exact nsz) (nc_one hs _ _ _) h
theorem alloc_n (hgd : Region.wanted o (yielded ops a.tmps) = true) (ho : o.op = .alloc 57)
    (h : ∀ W, RowAt 57 W w.heap.size (nc false snil 0 false fun _ _ => 0) → Below w.heap.size w W → Hid (W.heap.size = w.heap.size + 1) → wpList Try.prog ops Q rest (a.put o.dst (.pointer (some ⟨w.heap.size, 0, none⟩))) W) : wpList Try.prog ops Q (o :: rest) a w :=
  alloc_row hgd 57 ho _ nzero h
theorem results_n {fn : Func} {p : Tmp} {tmps : Array Value} (h : fn.results = #[.cell p 57]) (hp : tmps.getD p undef = .pointer (some ⟨g, 0, none⟩)) (hz : RowAt T w g (nc b sl n z D)) : (results fn tmps).run Try.prog w = .ok (.agg (nc b sl n z D)) w :=
  results_row h tmps w g _ hp hz Try.underlying57 rfl (by rw [nc_size]; exact nsz)
end
section
variable {P : Program} {ops : Array Oper} {rest : List Oper} {o : Oper} {w0 : World} {L : Act → Prop} {l : List Value} {ov : List (Nat × Value)} {ds : List Deferred} {d : Nat} {v : Value} {g : Nat} {T : TypeId}
/-- A part of a row is loaded. -/
theorem o_load_part (hw : Region.wanted o (yO ops l ov) = true) (ty : TypeId) (x : Operand) (ho : o.op = .load ty x) {off m : Nat} (hx : evalO l ov x = some (.pointer (some ⟨g, off, none⟩))) {cs : Array Value} (hz : RowAt T w0 g cs) {de : TypeDesc} (hu : P.underlying ty = some de)
    (hde : (match de with | .struct _ | .array _ _ => true | _ => false) = true) (hi : (P.info? ty).map (·.size) = some m) (hm : off + m ≤ cs.size) (hd : o.dst = some d) (hl : Nat.blt d l.length = true)
    (h : LX P ops w0 L rest l ((d, .agg (cs.extract off (off + m))) :: ov) ds) : LX P ops w0 L (o :: rest) l ov ds :=
  fun hst => lex_val (by rw [yO_eq hst]; exact hw) (by simp [isNew, ho]) (.agg (cs.extract off (off + m))) (fun W hW => by
    unfold execOp
    simp only [ho, evalL_eval ((evalO_L hst x).trans hx), Instr.loadAt, Instr.sureAddr, Sem.run_bind, Sem.run_pure, Result.andThen_ok, run_loadVar_part W g off m T ty cs _ de (hz.on hW) hu hde hi hm]) (o_put hd hl h hst)
end
section
variable {ops : Array Oper} {rest : List Oper} {o : Oper} {w0 : World} {L : Act → Prop} {l : List Value} {ov : List (Nat × Value)} {ds : List Deferred} {d : Nat} {v : Value} {g : Nat} {T : TypeId} {b : Bool} {sl : Value} {n : Int} {z : Bool} {D : Mat}
theorem o_load_n (hw : Region.wanted o (yO ops l ov) = true) (x : Operand) (ho : o.op = .load 57 x) (hx : evalO l ov x = some (.pointer (some ⟨g, 0, none⟩))) (hz : RowAt T w0 g (nc b sl n z D)) (hd : o.dst = some d) (hl : Nat.blt d l.length = true)
    (h : LX Try.prog ops w0 L rest l ((d, .agg (nc b sl n z D)) :: ov) ds) : LX Try.prog ops w0 L (o :: rest) l ov ds :=
  o_load_row hw 57 x ho hx hz Try.underlying57 rfl (by rw [nc_size]; exact nsz) hd hl h
theorem o_load_nz (hw : Region.wanted o (yO ops l ov) = true) (x : Operand) (ho : o.op = .load 26 x) (hx : evalO l ov x = some (.pointer (some ⟨g, 2, none⟩))) (hz : RowAt T w0 g (nc b sl n z D)) (hd : o.dst = some d) (hl : Nat.blt d l.length = true)
    (h : LX Try.prog ops w0 L rest l ((d, .agg (zc n z D)) :: ov) ds) : LX Try.prog ops w0 L (o :: rest) l ov ds :=
  o_load_part hw 26 x ho hx hz Try.underlying26 rfl (m := 51) (by kernel_rfl) (by rw [nc_size]; omega) hd hl (by rw [nc_z]; exact h)
end
/-- A Num that tells a zone, its Itvs read in this world. -/
abbrev nz (z : Zn) (sl : Value) : Array Value := nc z.none sl z.n z.none z.D
abbrev itvs (z : Zn) : Nat → Int × Int := fun k => itvZ z (k : Int)
def NumV (z : Zn) (base : Nat) (v : Value) (W : World) : Prop := ∃ sl, v = .agg (nz z sl) ∧ OwnT W base sl z.n (itvs z)
theorem NumV.on {z : Zn} {base : Nat} {v : Value} {W W' : World} (h : NumV z base v W) (hb : Below W.heap.size W W') : NumV z base v W' := let ⟨sl, h1, h2⟩ := h; ⟨sl, h1, h2.on hb⟩
theorem NumV.mono {z : Zn} {base b : Nat} {v : Value} {W : World} (h : NumV z base v W) (hb : b ≤ base) : NumV z b v W := let ⟨sl, h1, h2⟩ := h; ⟨sl, h1, h2.mono hb⟩
theorem OwnT.one {w : World} {base : Nat} {v : Value} {n : Nat} {V : Nat → Int × Int} (h : OwnT w base v n V) : v.oneCell' = true := by
  obtain ⟨ad, cap, rfl, _⟩ := h.form; rfl
/-- A call that answers a Num. -/
def NRet (w : World) (z : Zn) : Ending → World → Prop := fun e w' => ∃ v, e = .returned v ∧ NumV z w.heap.size v w' ∧ Below w.heap.size w w'
end Go.Proofs.Ytgnkhncogfppgaa
