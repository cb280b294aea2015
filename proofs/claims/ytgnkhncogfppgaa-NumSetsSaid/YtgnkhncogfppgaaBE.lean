import Derived.Test.YtgnkhncogfppgaaBC
/-!
A region that draws its order, taken order by order: one goal for each operation that may come next.
-/
namespace Go.Proofs.Ytgnkhncogfppgaa
open Go.RowKit
section
variable {P : Program} {md : Region.Mode} {ops : Array Oper} {Q : Exit → Act → World → Prop} {fuel : Nat} {listed : Array Bool} {a : Act} {w : World}
theorem wpAny_one {i : Nat} (h : Region.ready md ops listed = [i]) (k : wpOp P ops Q i (wpAny P md ops Q fuel (listed.setIfInBounds i true)) a w) : wpAny P md ops Q (fuel + 1) listed a w :=
  ⟨fun e => (by rw [h] at e; cases e), fun j hj => (by rw [h] at hj; simp at hj; subst hj; exact k)⟩
theorem wpAny_two {i j : Nat} (h : Region.ready md ops listed = [i, j]) (k : wpOp P ops Q i (wpAny P md ops Q fuel (listed.setIfInBounds i true)) a w) (k2 : wpOp P ops Q j (wpAny P md ops Q fuel (listed.setIfInBounds j true)) a w) :
    wpAny P md ops Q (fuel + 1) listed a w :=
  ⟨fun e => (by rw [h] at e; cases e), fun x hx => (by
    rw [h] at hx; simp at hx
    rcases hx with rfl | rfl
    · exact k
    · exact k2)⟩
theorem wpAny_done (h : Region.ready md ops listed = []) (k : Q .normal a w) : wpAny P md ops Q 0 listed a w := ⟨h, k⟩
theorem wpOp_of {i : Nat} {o : Oper} {K : Act → World → Prop} (ho : ops[i]? = some o) (hw : Region.wanted o (yielded ops a.tmps) = true) (h : o.wp P a w K Q) : wpOp P ops Q i K a w := by
  unfold wpOp
  simp only [ho, hw, if_true]
  exact Or.inl h
end
section
variable {md : Region.Mode} {ops : Array Oper} {Q : Exit → Act → World → Prop} {a : Act} {w : World} {K : Act → World → Prop} {o : Oper} {g i : Nat} {T : TypeId} {n : Int} {b : Bool} {D : Mat}
theorem op_load_z (hi : ops[i]? = some o) (hw : Region.wanted o (yielded ops a.tmps) = true) (x : Operand) (ho : o.op = .load 26 x) (hx : a.eval x = .pointer (some ⟨g, 0, none⟩)) (hz : ZAt T w g n b D)
    (h : K (a.put o.dst (.agg (zc n b D))) w) : wpOp Try.prog ops Q i K a w :=
  wpOp_of hi hw (wp_load_row _ x ho g hx T _ _ _ hz Try.underlying26 rfl (by rw [zc_size]; exact zsz) h)
theorem op_load_r (hi : ops[i]? = some o) (hw : Region.wanted o (yielded ops a.tmps) = true) (x : Operand) (ho : o.op = .load 38 x) (hx : a.eval x = .pointer (some ⟨g, 0, none⟩)) (hz : ZAt T w g n b D)
    (h : K (a.put o.dst (.agg (zc n b D))) w) : wpOp Try.prog ops Q i K a w :=
  wpOp_of hi hw (wp_load_row _ x ho g hx T _ _ _ hz Try.underlying38 rfl (by rw [zc_size]; exact rsz) h)
theorem op_store_z (hi : ops[i]? = some o) (hw : Region.wanted o (yielded ops a.tmps) = true) (x y : Operand) (ho : o.op = .store 26 x y) (hx : a.eval x = .pointer (some ⟨g, 0, none⟩)) {m : Int} {c : Bool} {E : Mat}
    (hy : a.eval y = .agg (zc m c E)) (hz : ZAt T w g n b D) (h : ∀ W, ZAt T W g m c E → w.grownBy W (some g) → K (a.put o.dst undef) W) : wpOp Try.prog ops Q i K a w :=
  wpOp_of hi hw (wp_store_row _ x y ho g hx _ hy T _ hz (by simp [zc_size]) (by rw [zc_size]; exact zsz) (zc_one _ _ _) (h _ (setRow_heap w g _ _ T _ hz) ⟨rfl, rfl, rfl, by simp, fun k _ hk => Go.setRow_other w g k _ (fun e => hk (by rw [e]))⟩))
theorem op_store_r (hi : ops[i]? = some o) (hw : Region.wanted o (yielded ops a.tmps) = true) (x y : Operand) (ho : o.op = .store 38 x y) (hx : a.eval x = .pointer (some ⟨g, 0, none⟩)) {m : Int} {c : Bool} {E : Mat}
    (hy : a.eval y = .agg (zc m c E)) (hz : ZAt T w g n b D) (h : ∀ W, ZAt T W g m c E → w.grownBy W (some g) → K (a.put o.dst undef) W) : wpOp Try.prog ops Q i K a w :=
  wpOp_of hi hw (wp_store_row _ x y ho g hx _ hy T _ hz (by simp [zc_size]) (by rw [zc_size]; exact rsz) (zc_one _ _ _) (h _ (setRow_heap w g _ _ T _ hz) ⟨rfl, rfl, rfl, by simp, fun k _ hk => Go.setRow_other w g k _ (fun e => hk (by rw [e]))⟩))
theorem op_assign (hi : ops[i]? = some o) (hw : Region.wanted o (yielded ops a.tmps) = true) (x : Operand) (ho : o.op = .assign x) (h : K (a.put o.dst (a.eval x)) w) : wpOp Try.prog ops Q i K a w :=
  wpOp_of hi hw (by unfold Oper.wp execOp; simp only [ho]; exact h)
end
section
variable {ops : Array Oper} {rest : List Oper} {o : Oper} {a : Act} {w0 : World} {L : Act → Prop} {g : Nat} {T : TypeId}
theorem lex_load_i (hw : Region.wanted o (yielded ops a.tmps) = true) (x : Operand) (ho : o.op = .load 32 x) (hx : a.eval x = .pointer (some ⟨g, 0, none⟩)) {lo hi : Int} (hz : RowAt T w0 g (ic lo hi))
    (h : lexQ Try.prog ops w0 L rest (a.put o.dst (.agg (ic lo hi)))) : lexQ Try.prog ops w0 L (o :: rest) a :=
  lex_load_row hw 32 x ho g hx _ Try.underlying32 rfl hz isz32 h
theorem lex_load_int (hw : Region.wanted o (yielded ops a.tmps) = true) (x : Operand) (ho : o.op = .load 3 x) {k : Nat} (hx : a.eval x = .pointer (some ⟨g, k, none⟩)) {v : Value} (hz : w0.cell? ⟨g, k, none⟩ = some v)
    (h : lexQ Try.prog ops w0 L rest (a.put o.dst v)) : lexQ Try.prog ops w0 L (o :: rest) a :=
  lex_load_cell hw 3 x ho g k hx _ Try.underlying3 rfl hz h
theorem lex_load_bool (hw : Region.wanted o (yielded ops a.tmps) = true) (x : Operand) (ho : o.op = .load 4 x) {k : Nat} (hx : a.eval x = .pointer (some ⟨g, k, none⟩)) {v : Value} (hz : w0.cell? ⟨g, k, none⟩ = some v)
    (h : lexQ Try.prog ops w0 L rest (a.put o.dst v)) : lexQ Try.prog ops w0 L (o :: rest) a :=
  lex_load_cell hw 4 x ho g k hx _ Try.underlying4 rfl hz h
theorem lex_build_i (hw : Region.wanted o (yielded ops a.tmps) = true) (x y : Operand) (ho : o.op = .build 32 #[(0, x), (1, y)]) {lo hi : Int} (hx : a.eval x = .int .i64 lo) (hy : a.eval y = .int .i64 hi)
    (h : lexQ Try.prog ops w0 L rest (a.put o.dst (.agg (ic lo hi)))) : lexQ Try.prog ops w0 L (o :: rest) a :=
  lex_pure hw (by simp [isNew, ho]) (.agg (ic lo hi)) (fun W => by
    unfold execOp
    simp [ho, hx, hy, build_i]) h
end
end Go.Proofs.Ytgnkhncogfppgaa

/-!
The steps of a head once more, for a frame that is written out: each step looks at its own operands alone.
-/
namespace Go.Proofs.Ytgnkhncogfppgaa
open Go.RowKit
def evalL (l : List Value) : Operand → Option Value
  | .tmp t => l[t]?
  | .const v => some v
  | .global g => some (.pointer (some ⟨g, 0, none⟩))
  | .func f => some (.func (.func f) #[] #[])
def evalsL (l : List Value) : List Operand → Option (List Value)
  | [] => some []
  | x :: xs => match evalL l x, evalsL l xs with
    | some v, some vs => some (v :: vs)
    | _, _ => none
theorem evalL_eval {l : List Value} {ds} {x : Operand} {v : Value} (h : evalL l x = some v) : (Act.mk l.toArray ds).eval x = v := by
  cases x with
  | tmp t => simp only [evalL] at h; simp [Act.eval, h]
  | const u => simp only [evalL, Option.some.injEq] at h; exact h
  | global g => simp only [evalL, Option.some.injEq] at h; exact h
  | func f => simp only [evalL, Option.some.injEq] at h; exact h
theorem evalsL_map {l : List Value} {ds} : ∀ {xs : List Operand} {vs : List Value}, evalsL l xs = some vs → xs.map (Act.mk l.toArray ds).eval = vs
  | [], vs, h => by simp only [evalsL, Option.some.injEq] at h; exact h
  | x :: xs, vs, h => by
    simp only [evalsL] at h
    split at h
    · rename_i v ws h1 h2
      simp only [Option.some.injEq] at h
      rw [List.map_cons, evalL_eval h1, evalsL_map h2, h]
    · cases h
section
variable {P : Program} {ops : Array Oper} {rest : List Oper} {o : Oper} {w0 : World} {L : Act → Prop} {l l' : List Value} {ds : List Deferred} {d : Nat} {v : Value}
theorem put_l (hd : o.dst = some d) (hs : l.set d v = l') (h : lexQ P ops w0 L rest ⟨l'.toArray, ds⟩) : lexQ P ops w0 L rest ((Act.mk l.toArray ds).put o.dst v) := by
  rw [hd]
  have e : (Act.mk l.toArray ds).put (some d) v = ⟨l'.toArray, ds⟩ := by rw [← hs]; simp [Act.put]
  rw [e]; exact h
theorem l_skip (hw : Region.wanted o (yielded ops l.toArray) = false) (hd : o.dst = some d) (hs : l.set d undef = l') (h : lexQ P ops w0 L rest ⟨l'.toArray, ds⟩) : lexQ P ops w0 L (o :: rest) ⟨l.toArray, ds⟩ :=
  lex_skip hw (put_l hd hs h)
theorem l_have (hw : Region.wanted o (yielded ops l.toArray) = true) (h : Hid (Region.wanted o (yielded ops l.toArray) = true) → lexQ P ops w0 L (o :: rest) ⟨l.toArray, ds⟩) : lexQ P ops w0 L (o :: rest) ⟨l.toArray, ds⟩ := h hw
theorem l_move (hw : Region.wanted o (yielded ops l.toArray) = true) (x : Operand) (ho : o.op = .move x) (hx : evalL l x = some v) (hd : o.dst = some d) (hs : l.set d v = l') (h : lexQ P ops w0 L rest ⟨l'.toArray, ds⟩) :
    lexQ P ops w0 L (o :: rest) ⟨l.toArray, ds⟩ :=
  lex_move hw x ho (by rw [evalL_eval hx]; exact put_l hd hs h)
theorem l_assign (hw : Region.wanted o (yielded ops l.toArray) = true) (x : Operand) (ho : o.op = .assign x) (hx : evalL l x = some v) (hd : o.dst = some d) (hs : l.set d v = l') (h : lexQ P ops w0 L rest ⟨l'.toArray, ds⟩) :
    lexQ P ops w0 L (o :: rest) ⟨l.toArray, ds⟩ :=
  lex_assign hw x ho (by rw [evalL_eval hx]; exact put_l hd hs h)
theorem l_pickT (hw : Region.wanted o (yielded ops l.toArray) = true) (c x y : Operand) (ho : o.op = .pick c x y) (hc : evalL l c = some (.bool true)) (hx : evalL l x = some v) (hd : o.dst = some d) (hs : l.set d v = l')
    (h : lexQ P ops w0 L rest ⟨l'.toArray, ds⟩) : lexQ P ops w0 L (o :: rest) ⟨l.toArray, ds⟩ :=
  lex_pure hw (by simp [isNew, ho]) v (fun W => by unfold execOp; simp only [ho, evalL_eval hc, evalL_eval hx]; rfl) (put_l hd hs h)
theorem l_pickF (hw : Region.wanted o (yielded ops l.toArray) = true) (c x y : Operand) (ho : o.op = .pick c x y) (hc : evalL l c = some (.bool false)) (hy : evalL l y = some v) (hd : o.dst = some d) (hs : l.set d v = l')
    (h : lexQ P ops w0 L rest ⟨l'.toArray, ds⟩) : lexQ P ops w0 L (o :: rest) ⟨l.toArray, ds⟩ :=
  lex_pure hw (by simp [isNew, ho]) v (fun W => by unfold execOp; simp only [ho, evalL_eval hc, evalL_eval hy]; rfl) (put_l hd hs h)
theorem l_bin (hw : Region.wanted o (yielded ops l.toArray) = true) (op : BinOp) (t t' : TypeId) (x y : Operand) (ho : o.op = .binOp op t x y t') {vx vy : Value} (hx : evalL l x = some vx) (hy : evalL l y = some vy) (hd : o.dst = some d)
    (hr : ∀ W, (do eqGuard op t x y vx vy; binOp op t vx vy : Sem Value).run P W = .ok v W) (hs : l.set d v = l') (h : lexQ P ops w0 L rest ⟨l'.toArray, ds⟩) : lexQ P ops w0 L (o :: rest) ⟨l.toArray, ds⟩ :=
  lex_pure hw (by simp [isNew, ho]) v (fun W => by
    unfold execOp
    simp only [ho, evalL_eval hx, evalL_eval hy]
    have := hr W
    rw [Sem.run_bind, this]; rfl) (put_l hd hs h)
theorem l_un (hw : Region.wanted o (yielded ops l.toArray) = true) (op : UnOp) (t : TypeId) (x : Operand) (ho : o.op = .unOp op t x) {vx : Value} (hx : evalL l x = some vx) (hd : o.dst = some d)
    (hr : ∀ W, (Op.unary op vx).run P W = .ok v W) (hs : l.set d v = l') (h : lexQ P ops w0 L rest ⟨l'.toArray, ds⟩) : lexQ P ops w0 L (o :: rest) ⟨l.toArray, ds⟩ :=
  lex_pure hw (by simp [isNew, ho]) v (fun W => by
    unfold execOp
    simp only [ho, evalL_eval hx]
    rw [Sem.run_bind, hr W]; rfl) (put_l hd hs h)
theorem l_conv (hw : Region.wanted o (yielded ops l.toArray) = true) (s t : TypeId) (x : Operand) (ho : o.op = .convert s t x) {vx : Value} (hx : evalL l x = some vx) (hd : o.dst = some d)
    (hr : ∀ W, (convert s t vx).run P W = .ok v W) (hs : l.set d v = l') (h : lexQ P ops w0 L rest ⟨l'.toArray, ds⟩) : lexQ P ops w0 L (o :: rest) ⟨l.toArray, ds⟩ :=
  lex_pure hw (by simp [isNew, ho]) v (fun W => by
    unfold execOp
    simp only [ho, evalL_eval hx]
    rw [Sem.run_bind, hr W]; rfl) (put_l hd hs h)
theorem l_field (hw : Region.wanted o (yielded ops l.toArray) = true) (s : TypeId) (x : Operand) (f : Nat) (ho : o.op = .fieldAddr s x f) {vx : Value} (hx : evalL l x = some vx) (hd : o.dst = some d)
    (hr : ∀ W, (Instr.fieldAt s vx f).run P W = .ok v W) (hs : l.set d v = l') (h : lexQ P ops w0 L rest ⟨l'.toArray, ds⟩) : lexQ P ops w0 L (o :: rest) ⟨l.toArray, ds⟩ :=
  lex_pure hw (by simp [isNew, ho]) v (fun W => by
    unfold execOp
    simp only [ho, evalL_eval hx]
    rw [Sem.run_bind, hr W]; rfl) (put_l hd hs h)
theorem l_index (hw : Region.wanted o (yielded ops l.toArray) = true) (t : TypeId) (x y : Operand) (ho : o.op = .indexAddr t x y) {vx vy : Value} (hx : evalL l x = some vx) (hy : evalL l y = some vy) (hd : o.dst = some d)
    (hr : ∀ W, (Instr.indexAt t vx vy).run P W = .ok v W) (hs : l.set d v = l') (h : lexQ P ops w0 L rest ⟨l'.toArray, ds⟩) : lexQ P ops w0 L (o :: rest) ⟨l.toArray, ds⟩ :=
  lex_pure hw (by simp [isNew, ho]) v (fun W => by
    unfold execOp
    simp only [ho, evalL_eval hx, evalL_eval hy]
    rw [Sem.run_bind, hr W]; rfl) (put_l hd hs h)
/-- A call of a function that changes nothing that is there. -/
theorem l_call (hw : Region.wanted o (yielded ops l.toArray) = true) (f : FuncId) (xs : Array Operand) (ts : Array TypeId) (ho : o.op = .call { callee := .value (.func f), args := xs, argTypes := ts }) {vs : List Value} (hx : evalsL l xs.toList = some vs)
    {f' : FuncId} {as' : Array Value} (hc : ∀ W, Below w0.heap.size w0 W → Calls P f' as' W (Ret W v)) (hf : f' = f) (ha : as' = vs.toArray) (hd : o.dst = some d)
    (hr : ∀ (ρ : Operand → Value) W, ρ (.func f) = .func (.func f) #[] #[] → (execOp ρ o).run P W = .ok (.enter f (xs.map ρ)) W) (hs : l.set d v = l') (h : lexQ P ops w0 L rest ⟨l'.toArray, ds⟩) : lexQ P ops w0 L (o :: rest) ⟨l.toArray, ds⟩ :=
  lex_call hw (by simp [isNew, ho]) f vs.toArray (fun W => by
    subst hf; subst ha
    rw [hr _ W rfl]
    have hm := evalsL_map (ds := ds) hx
    have he : xs.map (Act.mk l.toArray ds).eval = vs.toArray := by
      rw [← hm]
      cases xs
      simp
    rw [he]) v (by subst hf; subst ha; exact hc) (put_l hd hs h)
theorem l_loadc (hw : Region.wanted o (yielded ops l.toArray) = true) (ty : TypeId) (x : Operand) (ho : o.op = .load ty x) {g k : Nat} (hx : evalL l x = some (.pointer (some ⟨g, k, none⟩))) (hz : w0.cell? ⟨g, k, none⟩ = some v) (hd : o.dst = some d)
    {de : TypeDesc} (hu : P.underlying ty = some de) (hde : (match de with | .struct _ | .array _ _ => true | _ => false) = false) (hs : l.set d v = l') (h : lexQ P ops w0 L rest ⟨l'.toArray, ds⟩) : lexQ P ops w0 L (o :: rest) ⟨l.toArray, ds⟩ :=
  lex_load_cell hw ty x ho g k (evalL_eval hx) de hu (by cases de <;> simp_all) hz (put_l hd hs h)
end
section
variable {ops : Array Oper} {rest : List Oper} {o : Oper} {w0 : World} {L : Act → Prop} {l l' : List Value} {ds : List Deferred} {d : Nat} {v : Value} {g : Nat} {T : TypeId} {n : Int} {b : Bool} {D : Mat}
theorem l_load_z (hw : Region.wanted o (yielded ops l.toArray) = true) (x : Operand) (ho : o.op = .load 26 x) (hx : evalL l x = some (.pointer (some ⟨g, 0, none⟩))) (hz : ZAt T w0 g n b D) (hd : o.dst = some d)
    (hs : l.set d (.agg (zc n b D)) = l') (h : lexQ Try.prog ops w0 L rest ⟨l'.toArray, ds⟩) : lexQ Try.prog ops w0 L (o :: rest) ⟨l.toArray, ds⟩ :=
  lex_load_z hw x ho (evalL_eval hx) hz (put_l hd hs h)
theorem l_load_r (hw : Region.wanted o (yielded ops l.toArray) = true) (x : Operand) (ho : o.op = .load 38 x) (hx : evalL l x = some (.pointer (some ⟨g, 0, none⟩))) (hz : ZAt T w0 g n b D) (hd : o.dst = some d)
    (hs : l.set d (.agg (zc n b D)) = l') (h : lexQ Try.prog ops w0 L rest ⟨l'.toArray, ds⟩) : lexQ Try.prog ops w0 L (o :: rest) ⟨l.toArray, ds⟩ :=
  lex_load_r hw x ho (evalL_eval hx) hz (put_l hd hs h)
theorem l_load_i (hw : Region.wanted o (yielded ops l.toArray) = true) (x : Operand) (ho : o.op = .load 32 x) (hx : evalL l x = some (.pointer (some ⟨g, 0, none⟩))) {lo hi : Int} (hz : RowAt T w0 g (ic lo hi)) (hd : o.dst = some d)
    (hs : l.set d (.agg (ic lo hi)) = l') (h : lexQ Try.prog ops w0 L rest ⟨l'.toArray, ds⟩) : lexQ Try.prog ops w0 L (o :: rest) ⟨l.toArray, ds⟩ :=
  lex_load_i hw x ho (evalL_eval hx) hz (put_l hd hs h)
theorem l_load_row (hw : Region.wanted o (yielded ops l.toArray) = true) (ty : TypeId) (x : Operand) (ho : o.op = .load ty x) (hx : evalL l x = some (.pointer (some ⟨g, 0, none⟩))) {cs : Array Value} (hz : RowAt T w0 g cs) {de : TypeDesc} (hu : Try.prog.underlying ty = some de)
    (hde : (match de with | .struct _ | .array _ _ => true | _ => false) = true) (hi : (Try.prog.info? ty).map (·.size) = some cs.size) (hd : o.dst = some d)
    (hs : l.set d (.agg cs) = l') (h : lexQ Try.prog ops w0 L rest ⟨l'.toArray, ds⟩) : lexQ Try.prog ops w0 L (o :: rest) ⟨l.toArray, ds⟩ :=
  lex_load_row hw ty x ho g (evalL_eval hx) de hu (by cases de <;> simp_all) hz hi (put_l hd hs h)
end
end Go.Proofs.Ytgnkhncogfppgaa

/-!
The steps of a head, the frame kept as a list and what was put into it since: a step costs what it looks at.
-/
namespace Go.Proofs.Ytgnkhncogfppgaa
open Go.RowKit
def app (l : List Value) : List (Nat × Value) → List Value
  | [] => l
  | (d, v) :: ov => (app l ov).set d v
def lk (l : List Value) : List (Nat × Value) → Nat → Option Value
  | [], t => l[t]?
  | (d, v) :: ov, t => match Nat.beq t d with
    | true => some v
    | false => lk l ov t
def StO (l : List Value) (ov : List (Nat × Value)) : Prop := ∀ p ∈ ov, p.1 < l.length
theorem app_length (l : List Value) : ∀ ov, (app l ov).length = l.length
  | [] => rfl
  | (d, v) :: ov => by simp [app, app_length l ov]
theorem lk_app {l : List Value} : ∀ {ov : List (Nat × Value)}, StO l ov → ∀ t, (app l ov)[t]? = lk l ov t
  | [], _, t => rfl
  | (d, v) :: ov, h, t => by
    have h1 : StO l ov := fun p hp => h p (by simp [hp])
    have h2 : d < l.length := h (d, v) (by simp)
    simp only [app, lk]
    cases hb : Nat.beq t d with
    | true =>
      obtain rfl : t = d := Nat.eq_of_beq_eq_true hb
      rw [List.getElem?_set_self (by rw [app_length]; exact h2)]
    | false =>
      have hne : t ≠ d := Nat.ne_of_beq_eq_false hb
      rw [List.getElem?_set_ne (Ne.symm hne)]
      exact lk_app h1 t
def evalO (l : List Value) (ov : List (Nat × Value)) : Operand → Option Value
  | .tmp t => lk l ov t
  | .const v => some v
  | .global g => some (.pointer (some ⟨g, 0, none⟩))
  | .func f => some (.func (.func f) #[] #[])
def evalsO (l : List Value) (ov : List (Nat × Value)) : List Operand → Option (List Value)
  | [] => some []
  | x :: xs => match evalO l ov x, evalsO l ov xs with
    | some v, some vs => some (v :: vs)
    | _, _ => none
theorem evalO_L {l : List Value} {ov : List (Nat × Value)} (h : StO l ov) (x : Operand) : evalL (app l ov) x = evalO l ov x := by
  cases x with
  | tmp t => exact lk_app h t
  | _ => rfl
theorem evalsO_L {l : List Value} {ov : List (Nat × Value)} (h : StO l ov) : ∀ xs, evalsL (app l ov) xs = evalsO l ov xs
  | [] => rfl
  | x :: xs => by
    simp only [evalsL, evalsO, evalO_L h x, evalsO_L h xs]
    all_goals (cases evalO l ov x <;> cases evalsO l ov xs <;> rfl)
def yO (ops : Array Oper) (l : List Value) (ov : List (Nat × Value)) (j : Nat) : Option Bool :=
  match ((ops[j]?).bind (·.dst)).bind (lk l ov) with
  | some (.bool b) => some b
  | _ => none
theorem yO_eq {ops : Array Oper} {l : List Value} {ov : List (Nat × Value)} (h : StO l ov) : yielded ops (app l ov).toArray = yO ops l ov := by
  funext j
  unfold yielded yO
  have : (fun t => (app l ov).toArray[t]?) = lk l ov := by funext t; rw [← lk_app h t]; simp
  rw [this]
  rcases ((ops[j]?.bind fun x => x.dst).bind (lk l ov)) with _ | v
  · rfl
  · cases v <;> rfl
/-- The head from here on. -/
def LX (P : Program) (ops : Array Oper) (w0 : World) (L : Act → Prop) (rest : List Oper) (l : List Value) (ov : List (Nat × Value)) (ds : List Deferred) : Prop :=
  StO l ov → lexQ P ops w0 L rest ⟨(app l ov).toArray, ds⟩
section
variable {P : Program} {ops : Array Oper} {rest : List Oper} {o : Oper} {w0 : World} {L : Act → Prop} {l : List Value} {ov : List (Nat × Value)} {ds : List Deferred} {d : Nat} {v : Value}
theorem o_start (h : LX P ops w0 L rest l [] ds) : lexQ P ops w0 L rest ⟨l.toArray, ds⟩ := h (fun p hp => by cases hp)
theorem o_end (h : L ⟨(app l ov).toArray, ds⟩) : LX P ops w0 L [] l ov ds := fun _ => h
theorem o_put (hd : o.dst = some d) (hl : Nat.blt d l.length = true) (h : LX P ops w0 L rest l ((d, v) :: ov) ds) (hst : StO l ov) : lexQ P ops w0 L rest ((Act.mk (app l ov).toArray ds).put o.dst v) := by
  have hlt : d < l.length := by simpa [Nat.blt_eq] using hl
  exact put_l hd rfl (h fun p hp => by
    rcases List.mem_cons.1 hp with rfl | hp
    · exact hlt
    · exact hst p hp)
theorem o_skip (hw : Region.wanted o (yO ops l ov) = false) (hd : o.dst = some d) (hl : Nat.blt d l.length = true) (h : LX P ops w0 L rest l ((d, undef) :: ov) ds) : LX P ops w0 L (o :: rest) l ov ds :=
  fun hst => lex_skip (by rw [yO_eq hst]; exact hw) (o_put hd hl h hst)
theorem o_have (hw : Region.wanted o (yO ops l ov) = true) (h : Hid (Region.wanted o (yO ops l ov) = true) → LX P ops w0 L (o :: rest) l ov ds) : LX P ops w0 L (o :: rest) l ov ds := h hw
theorem o_new (hw : Region.wanted o (yO ops l ov) = true) (hn : isNew o = true) (hd : o.dst = some d) (hl : Nat.blt d l.length = true) (h : LX P ops w0 L rest l ((d, undef) :: ov) ds) : LX P ops w0 L (o :: rest) l ov ds :=
  fun hst => lex_new (by rw [yO_eq hst]; exact hw) hn (o_put hd hl h hst)
theorem o_move (hw : Region.wanted o (yO ops l ov) = true) (x : Operand) (ho : o.op = .move x) (hx : evalO l ov x = some v) (hd : o.dst = some d) (hl : Nat.blt d l.length = true) (h : LX P ops w0 L rest l ((d, v) :: ov) ds) : LX P ops w0 L (o :: rest) l ov ds :=
  fun hst => lex_move (by rw [yO_eq hst]; exact hw) x ho (by rw [evalL_eval ((evalO_L hst x).trans hx)]; exact o_put hd hl h hst)
theorem o_assign (hw : Region.wanted o (yO ops l ov) = true) (x : Operand) (ho : o.op = .assign x) (hx : evalO l ov x = some v) (hd : o.dst = some d) (hl : Nat.blt d l.length = true) (h : LX P ops w0 L rest l ((d, v) :: ov) ds) : LX P ops w0 L (o :: rest) l ov ds :=
  fun hst => lex_assign (by rw [yO_eq hst]; exact hw) x ho (by rw [evalL_eval ((evalO_L hst x).trans hx)]; exact o_put hd hl h hst)
theorem o_pickT (hw : Region.wanted o (yO ops l ov) = true) (c x y : Operand) (ho : o.op = .pick c x y) (hc : evalO l ov c = some (.bool true)) (hx : evalO l ov x = some v) (hd : o.dst = some d) (hl : Nat.blt d l.length = true)
    (h : LX P ops w0 L rest l ((d, v) :: ov) ds) : LX P ops w0 L (o :: rest) l ov ds :=
  fun hst => l_pickT (by rw [yO_eq hst]; exact hw) c x y ho ((evalO_L hst c).trans hc) ((evalO_L hst x).trans hx) hd rfl (h fun p hp => by
    rcases List.mem_cons.1 hp with rfl | hp
    · simpa [Nat.blt_eq] using hl
    · exact hst p hp)
theorem o_pickF (hw : Region.wanted o (yO ops l ov) = true) (c x y : Operand) (ho : o.op = .pick c x y) (hc : evalO l ov c = some (.bool false)) (hy : evalO l ov y = some v) (hd : o.dst = some d) (hl : Nat.blt d l.length = true)
    (h : LX P ops w0 L rest l ((d, v) :: ov) ds) : LX P ops w0 L (o :: rest) l ov ds :=
  fun hst => l_pickF (by rw [yO_eq hst]; exact hw) c x y ho ((evalO_L hst c).trans hc) ((evalO_L hst y).trans hy) hd rfl (h fun p hp => by
    rcases List.mem_cons.1 hp with rfl | hp
    · simpa [Nat.blt_eq] using hl
    · exact hst p hp)
theorem o_st (hl : Nat.blt d l.length = true) (hst : StO l ov) : StO l ((d, v) :: ov) := fun p hp => by
  rcases List.mem_cons.1 hp with rfl | hp
  · simpa [Nat.blt_eq] using hl
  · exact hst p hp
theorem o_bin (hw : Region.wanted o (yO ops l ov) = true) (op : BinOp) (t t' : TypeId) (x y : Operand) (ho : o.op = .binOp op t x y t') {vx vy : Value} (hx : evalO l ov x = some vx) (hy : evalO l ov y = some vy) (hd : o.dst = some d) (hl : Nat.blt d l.length = true)
    (hr : ∀ W, (do eqGuard op t x y vx vy; binOp op t vx vy : Sem Value).run P W = .ok v W) (h : LX P ops w0 L rest l ((d, v) :: ov) ds) : LX P ops w0 L (o :: rest) l ov ds :=
  fun hst => l_bin (by rw [yO_eq hst]; exact hw) op t t' x y ho ((evalO_L hst x).trans hx) ((evalO_L hst y).trans hy) hd hr rfl (h (o_st hl hst))
theorem o_un (hw : Region.wanted o (yO ops l ov) = true) (op : UnOp) (t : TypeId) (x : Operand) (ho : o.op = .unOp op t x) {vx : Value} (hx : evalO l ov x = some vx) (hd : o.dst = some d) (hl : Nat.blt d l.length = true)
    (hr : ∀ W, (Op.unary op vx).run P W = .ok v W) (h : LX P ops w0 L rest l ((d, v) :: ov) ds) : LX P ops w0 L (o :: rest) l ov ds :=
  fun hst => l_un (by rw [yO_eq hst]; exact hw) op t x ho ((evalO_L hst x).trans hx) hd hr rfl (h (o_st hl hst))
theorem o_conv (hw : Region.wanted o (yO ops l ov) = true) (s t : TypeId) (x : Operand) (ho : o.op = .convert s t x) {vx : Value} (hx : evalO l ov x = some vx) (hd : o.dst = some d) (hl : Nat.blt d l.length = true)
    (hr : ∀ W, (convert s t vx).run P W = .ok v W) (h : LX P ops w0 L rest l ((d, v) :: ov) ds) : LX P ops w0 L (o :: rest) l ov ds :=
  fun hst => l_conv (by rw [yO_eq hst]; exact hw) s t x ho ((evalO_L hst x).trans hx) hd hr rfl (h (o_st hl hst))
theorem o_field (hw : Region.wanted o (yO ops l ov) = true) (s : TypeId) (x : Operand) (f : Nat) (ho : o.op = .fieldAddr s x f) {vx : Value} (hx : evalO l ov x = some vx) (hd : o.dst = some d) (hl : Nat.blt d l.length = true)
    (hr : ∀ W, (Instr.fieldAt s vx f).run P W = .ok v W) (h : LX P ops w0 L rest l ((d, v) :: ov) ds) : LX P ops w0 L (o :: rest) l ov ds :=
  fun hst => l_field (by rw [yO_eq hst]; exact hw) s x f ho ((evalO_L hst x).trans hx) hd hr rfl (h (o_st hl hst))
theorem o_index (hw : Region.wanted o (yO ops l ov) = true) (t : TypeId) (x y : Operand) (ho : o.op = .indexAddr t x y) {vx vy : Value} (hx : evalO l ov x = some vx) (hy : evalO l ov y = some vy) (hd : o.dst = some d) (hl : Nat.blt d l.length = true)
    (hr : ∀ W, (Instr.indexAt t vx vy).run P W = .ok v W) (h : LX P ops w0 L rest l ((d, v) :: ov) ds) : LX P ops w0 L (o :: rest) l ov ds :=
  fun hst => l_index (by rw [yO_eq hst]; exact hw) t x y ho ((evalO_L hst x).trans hx) ((evalO_L hst y).trans hy) hd hr rfl (h (o_st hl hst))
theorem o_call (hw : Region.wanted o (yO ops l ov) = true) (f : FuncId) (xs : Array Operand) (ts : Array TypeId) (ho : o.op = .call { callee := .value (.func f), args := xs, argTypes := ts }) {vs : List Value} (hx : evalsO l ov xs.toList = some vs)
    {f' : FuncId} {as' : Array Value} (hc : ∀ W, Below w0.heap.size w0 W → Calls P f' as' W (Ret W v)) (hf : f' = f) (ha : as' = vs.toArray) (hd : o.dst = some d) (hl : Nat.blt d l.length = true)
    (hr : ∀ (ρ : Operand → Value) W, ρ (.func f) = .func (.func f) #[] #[] → (execOp ρ o).run P W = .ok (.enter f (xs.map ρ)) W) (h : LX P ops w0 L rest l ((d, v) :: ov) ds) : LX P ops w0 L (o :: rest) l ov ds :=
  fun hst => l_call (by rw [yO_eq hst]; exact hw) f xs ts ho ((evalsO_L hst _).trans hx) hc hf ha hd hr rfl (h (o_st hl hst))
theorem o_loadc (hw : Region.wanted o (yO ops l ov) = true) (ty : TypeId) (x : Operand) (ho : o.op = .load ty x) {g k : Nat} (hx : evalO l ov x = some (.pointer (some ⟨g, k, none⟩))) (hz : w0.cell? ⟨g, k, none⟩ = some v) (hd : o.dst = some d) (hl : Nat.blt d l.length = true)
    {de : TypeDesc} (hu : P.underlying ty = some de) (hde : (match de with | .struct _ | .array _ _ => true | _ => false) = false) (h : LX P ops w0 L rest l ((d, v) :: ov) ds) : LX P ops w0 L (o :: rest) l ov ds :=
  fun hst => l_loadc (by rw [yO_eq hst]; exact hw) ty x ho ((evalO_L hst x).trans hx) hz hd hu (by cases de <;> simp_all) rfl (h (o_st hl hst))
end
section
variable {ops : Array Oper} {rest : List Oper} {o : Oper} {w0 : World} {L : Act → Prop} {l : List Value} {ov : List (Nat × Value)} {ds : List Deferred} {d : Nat} {v : Value} {g : Nat} {T : TypeId} {n : Int} {b : Bool} {D : Mat}
theorem o_load_z (hw : Region.wanted o (yO ops l ov) = true) (x : Operand) (ho : o.op = .load 26 x) (hx : evalO l ov x = some (.pointer (some ⟨g, 0, none⟩))) (hz : ZAt T w0 g n b D) (hd : o.dst = some d) (hl : Nat.blt d l.length = true)
    (h : LX Try.prog ops w0 L rest l ((d, .agg (zc n b D)) :: ov) ds) : LX Try.prog ops w0 L (o :: rest) l ov ds :=
  fun hst => l_load_z (by rw [yO_eq hst]; exact hw) x ho ((evalO_L hst x).trans hx) hz hd rfl (h (o_st hl hst))
theorem o_load_r (hw : Region.wanted o (yO ops l ov) = true) (x : Operand) (ho : o.op = .load 38 x) (hx : evalO l ov x = some (.pointer (some ⟨g, 0, none⟩))) (hz : ZAt T w0 g n b D) (hd : o.dst = some d) (hl : Nat.blt d l.length = true)
    (h : LX Try.prog ops w0 L rest l ((d, .agg (zc n b D)) :: ov) ds) : LX Try.prog ops w0 L (o :: rest) l ov ds :=
  fun hst => l_load_r (by rw [yO_eq hst]; exact hw) x ho ((evalO_L hst x).trans hx) hz hd rfl (h (o_st hl hst))
theorem o_load_i (hw : Region.wanted o (yO ops l ov) = true) (x : Operand) (ho : o.op = .load 32 x) (hx : evalO l ov x = some (.pointer (some ⟨g, 0, none⟩))) {lo hi : Int} (hz : RowAt T w0 g (ic lo hi)) (hd : o.dst = some d) (hl : Nat.blt d l.length = true)
    (h : LX Try.prog ops w0 L rest l ((d, .agg (ic lo hi)) :: ov) ds) : LX Try.prog ops w0 L (o :: rest) l ov ds :=
  fun hst => l_load_i (by rw [yO_eq hst]; exact hw) x ho ((evalO_L hst x).trans hx) hz hd rfl (h (o_st hl hst))
theorem o_load_row (hw : Region.wanted o (yO ops l ov) = true) (ty : TypeId) (x : Operand) (ho : o.op = .load ty x) (hx : evalO l ov x = some (.pointer (some ⟨g, 0, none⟩))) {cs : Array Value} (hz : RowAt T w0 g cs) {de : TypeDesc} (hu : Try.prog.underlying ty = some de)
    (hde : (match de with | .struct _ | .array _ _ => true | _ => false) = true) (hi : (Try.prog.info? ty).map (·.size) = some cs.size) (hd : o.dst = some d) (hl : Nat.blt d l.length = true)
    (h : LX Try.prog ops w0 L rest l ((d, .agg cs) :: ov) ds) : LX Try.prog ops w0 L (o :: rest) l ov ds :=
  fun hst => l_load_row (by rw [yO_eq hst]; exact hw) ty x ho ((evalO_L hst x).trans hx) hz hu (by cases de <;> simp_all) hi hd rfl (h (o_st hl hst))
end
/-- A head that makes one variable: the operation told by its number, its slot and its type. -/
theorem head1z {P : Program} {id : Nat} {Q : Exit → Act → World → Prop} {a : Act} {w : World} {l : List Oper} (n : Nat) (hm : P.follows .mixedOrders = true) (hB : Region.lexTailB .any l.toArray n = true) (hN : newsB P l.toArray n = true) (k : Nat) (h1 : newsIn l.toArray n = [k])
    (d : Nat) (T : TypeId) (hk : ((l[k]?).bind fun o => match o.op with | .alloc T' => if T' = T then o.dst else none | _ => none) = some d) (v : Value) (hv : (P.info? T).bind (·.zero) = some v)
    (h : lexQ P l.toArray w (fun a' => ∀ w' r, Below w.heap.size w w' → w.heap.size ≤ r → RowAt T w' r v.cells → wpList P l.toArray Q (l.drop n) (a'.put (some d) (.pointer (some ⟨r, 0, none⟩))) w') (l.take n) a) :
    (Code.region id l.toArray true).wp P Q a w := by
  cases ho : l[k]? with
  | none => rw [ho] at hk; cases hk
  | some o =>
    rw [ho] at hk
    simp only [Option.bind_some] at hk
    split at hk
    · rename_i T' hop
      split at hk
      · rename_i hT
        subst hT
        refine head1 n hm hB hN k h1 o (by simpa using ho) T' hop v hv ?_
        rw [hk]
        exact h
      · cases hk
    · cases hk
end Go.Proofs.Ytgnkhncogfppgaa

namespace Go.Proofs.Ytgnkhncogfppgaa
open Go.RowKit
section
variable {P : Program} {ops : Array Oper} {rest : List Oper} {o : Oper} {w0 : World} {L : Act → Prop} {l l' : List Value} {ov : List (Nat × Value)} {ds : List Deferred} {d : Nat} {v : Value}
/-- A call of a function that stands in a slot. -/
theorem o_calld (hw : Region.wanted o (yO ops l ov) = true) (c : Operand) (f : FuncId) (xs : Array Operand) (ts : Array TypeId) (ho : o.op = .call { callee := .value c, args := xs, argTypes := ts }) (hcv : evalO l ov c = some (.func (.func f) #[] #[])) {vs : List Value} (hx : evalsO l ov xs.toList = some vs)
    {f' : FuncId} {as' : Array Value} (hc : ∀ W, Below w0.heap.size w0 W → Calls P f' as' W (Ret W v)) (hf : f' = f) (ha : as' = vs.toArray) (hd : o.dst = some d) (hl : Nat.blt d l.length = true)
    (hr : ∀ (ρ : Operand → Value) W, ρ c = .func (.func f) #[] #[] → (execOp ρ o).run P W = .ok (.enter f (xs.map ρ)) W) (h : LX P ops w0 L rest l ((d, v) :: ov) ds) : LX P ops w0 L (o :: rest) l ov ds := by
  intro hst
  have hx' := (evalsO_L hst xs.toList).trans hx
  have hcv' := (evalO_L hst c).trans hcv
  refine lex_call (by rw [yO_eq hst]; exact hw) (by simp [isNew, ho]) f vs.toArray (fun W => ?_) v (by subst hf; subst ha; exact hc) (o_put hd hl h hst)
  rw [hr _ W (evalL_eval hcv')]
  have hm := evalsL_map (ds := ds) hx'
  have he : xs.map (Act.mk (app l ov).toArray ds).eval = vs.toArray := by
    rw [← hm]
    cases xs
    simp
  rw [he]
end
end Go.Proofs.Ytgnkhncogfppgaa

/-!
A region that draws its order, whatever its operations do: each operation is told once, at any time when all that it waits for is done: what is known of its value ahead (a value, or what the value is like),
and what it does to a property of the world that is carried on.
-/
namespace Go.Proofs.Ytgnkhncogfppgaa
open Go.RowKit
inductive Sp where
  | det (v : Value)
  | spc (A : Value → Prop)
def Sp.ok : Sp → Value → Prop
  | .det v, u => u = v
  | .spc A, u => A u
abbrev fr (l : List Value) (ds : List Deferred) (ov : List (Nat × Value)) : Act := ⟨(app l ov).toArray, ds⟩
def gUpon (P : Program) (good : Value → World → Prop) : Result Next → Prop
  | .ok (.value u) w' => good u w'
  | .ok .skip w' => good undef w'
  | .ok (.enter f args) w' => Calls P f args w' (fun e w'' => ∃ v, e = .returned v ∧ good v w'')
  | _ => False
def stepG (P : Program) (ops : Array Oper) (o : Oper) (a : Act) (W : World) (good : Value → World → Prop) : Prop :=
  (Region.wanted o (yielded ops a.tmps) = true ∧ gUpon P good ((execOp a.eval o).run P W)) ∨ (Region.wanted o (yielded ops a.tmps) = false ∧ good undef W)
def up {α : Type} (f : Nat → α) (k : Nat) (v : α) : Nat → α := fun j => if j = k then v else f j
theorem up_same {α : Type} (f : Nat → α) (k : Nat) (v : α) : up f k v k = v := if_pos rfl
theorem up_ne {α : Type} (f : Nat → α) {k j : Nat} (v : α) (h : j ≠ k) : up f k v j = f j := if_neg h
def putO (d : Option Nat) (v : Value) (ov : List (Nat × Value)) : List (Nat × Value) := match d with
  | some d => (d, v) :: ov
  | none => ov
/-- What an operation owes. -/
def Obl (P : Program) (ops : Array Oper) (w0 : World) (h : Nat) (l : List Value) (ds : List Deferred) (Sx : Nat → Bool) (Ψ : (Nat → Bool) → (Nat → Value) → World → Prop) (k : Nat) (o : Oper) : Sp → List (Nat × Value) → Prop
  | .det v, ov => Sx k = false ∧ ∀ W, Below h w0 W → stepG P ops o (fr l ds ov) W (fun u W' => u = v ∧ Below W.heap.size W W')
  | .spc A, ov => ∀ Λ ρ W, Below h w0 W → Ψ Λ ρ W → Λ k = false → (∀ e ∈ o.after, Region.binds .any e = true → Λ e.on = true) →
      (∀ j oj d, j < k → ops[j]? = some oj → oj.dst = some d → Λ j = true → lk l ov d = some (ρ j)) →
      stepG P ops o (fr l ds ov) W (fun u W' => A u ∧ Below h w0 W' ∧ Ψ (up Λ k true) (up ρ k u) W')
def LG (P : Program) (ops : Array Oper) (w0 : World) (h : Nat) (l : List Value) (ds : List Deferred) (Sx : Nat → Bool) (Ψ : (Nat → Bool) → (Nat → Value) → World → Prop) (End : List (Nat × Value) → Prop) : Nat → List Oper → List Sp → List (Nat × Value) → Prop
  | _, [], [], ov => End ov
  | k, o :: rest, S :: Ss, ov => (∃ v, S.ok v) ∧ (StO l ov → Obl P ops w0 h l ds Sx Ψ k o S ov) ∧ ∀ v, S.ok v → LG P ops w0 h l ds Sx Ψ End (k + 1) rest Ss (putO o.dst v ov)
  | _, _, _, _ => False
def ovs (vs : Nat → Value) : Nat → List Oper → List (Nat × Value) → List (Nat × Value)
  | _, [], ov => ov
  | k, o :: r, ov => ovs vs (k + 1) r (putO o.dst (vs k) ov)
theorem lk_ovs_none {l : List Value} {vs : Nat → Value} {t : Nat} : ∀ {os : List Oper} {k : Nat} {ov : List (Nat × Value)}, (∀ (j : Nat) (o : Oper), os[j]? = some o → o.dst ≠ some t) → lk l (ovs vs k os ov) t = lk l ov t
  | [], _, _, _ => rfl
  | o :: r, k, ov, h => by
    show lk l (ovs vs (k + 1) r (putO o.dst (vs k) ov)) t = _
    rw [lk_ovs_none fun j o hj => h (j + 1) o hj]
    have h0 := h 0 o rfl
    cases hd : o.dst with
    | none => rfl
    | some d =>
      have hne : t ≠ d := fun e => h0 (by rw [hd, e])
      simp only [putO, lk]
      cases hb : Nat.beq t d with
      | true => exact absurd (Nat.eq_of_beq_eq_true hb) hne
      | false => rfl
theorem lk_ovs_some {l : List Value} {vs : Nat → Value} {t : Nat} : ∀ {os : List Oper} {k : Nat} {ov : List (Nat × Value)} {j : Nat} {o : Oper}, os[j]? = some o → o.dst = some t → (∀ (j' : Nat) (o' : Oper), j' ≠ j → os[j']? = some o' → o'.dst ≠ some t) →
    lk l (ovs vs k os ov) t = some (vs (k + j))
  | [], _, _, _, _, h, _, _ => by simp at h
  | o :: r, k, ov, 0, o', h, hd, hne => by
    simp only [List.getElem?_cons_zero, Option.some.injEq] at h
    subst h
    show lk l (ovs vs (k + 1) r (putO o.dst (vs k) ov)) t = _
    rw [lk_ovs_none fun j o hj => hne (j + 1) o (by omega) hj, hd]
    simp only [putO, lk]
    rw [show Nat.beq t t = true from Nat.beq_refl t]
    rfl
  | o :: r, k, ov, j + 1, o', h, hd, hne => by
    show lk l (ovs vs (k + 1) r (putO o.dst (vs k) ov)) t = _
    rw [lk_ovs_some (j := j) (o := o') (by simpa using h) hd fun j' o2 hj' ho => hne (j' + 1) o2 (by omega) ho]
    congr 2; omega
theorem sto_ovs {l : List Value} {vs : Nat → Value} : ∀ {os : List Oper} {k : Nat} {ov : List (Nat × Value)}, StO l ov → (∀ (j : Nat) (o : Oper) (d : Nat), os[j]? = some o → o.dst = some d → d < l.length) → StO l (ovs vs k os ov)
  | [], _, _, h, _ => h
  | o :: r, k, ov, h, hd => sto_ovs (os := r) (by
      cases ho : o.dst with
      | none => exact h
      | some d =>
        intro p hp
        rcases List.mem_cons.1 hp with rfl | hp
        · exact hd 0 o d rfl ho
        · exact h p hp) fun j o' d hj => hd (j + 1) o' d hj
section
variable {P : Program} {ops : Array Oper} {w0 : World} {h : Nat} {l : List Value} {ds : List Deferred} {Sx : Nat → Bool} {Ψ : (Nat → Bool) → (Nat → Value) → World → Prop} {End : List (Nat × Value) → Prop}
theorem LG_wit : ∀ {os : List Oper} {Ss : List Sp} {k : Nat} {ov : List (Nat × Value)}, LG P ops w0 h l ds Sx Ψ End k os Ss ov → ∀ (i : Nat) (S : Sp), Ss[i]? = some S → ∃ v, S.ok v
  | [], [], _, _, _, _, _, hi => by simp at hi
  | [], _ :: _, _, _, hh, _, _, _ => hh.elim
  | _ :: _, [], _, _, hh, _, _, _ => hh.elim
  | _ :: _, S :: Ss, _, _, ⟨hv, _, _⟩, 0, S', hi => by
    simp only [List.getElem?_cons_zero, Option.some.injEq] at hi
    subst hi; exact hv
  | _ :: _, S :: Ss, _, _, ⟨⟨v, hv⟩, _, h2⟩, i + 1, S', hi => LG_wit (h2 v hv) i S' (by simpa using hi)
theorem LG_len : ∀ {os : List Oper} {Ss : List Sp} {k : Nat} {ov : List (Nat × Value)}, LG P ops w0 h l ds Sx Ψ End k os Ss ov → os.length = Ss.length
  | [], [], _, _, _ => rfl
  | [], _ :: _, _, _, hh => hh.elim
  | _ :: _, [], _, _, hh => hh.elim
  | o :: r, S :: Ss, k, ov, ⟨⟨v, hv⟩, _, h2⟩ => by simp [LG_len (h2 v hv)]
theorem LG_at : ∀ {os : List Oper} {Ss : List Sp} {k : Nat} {ov : List (Nat × Value)}, LG P ops w0 h l ds Sx Ψ End k os Ss ov → ∀ (vs : Nat → Value), (∀ (i : Nat) (S : Sp), Ss[i]? = some S → S.ok (vs (k + i))) →
    ∀ (i : Nat) (o : Oper) (S : Sp), os[i]? = some o → Ss[i]? = some S → StO l (ovs vs k (os.take i) ov) → Obl P ops w0 h l ds Sx Ψ (k + i) o S (ovs vs k (os.take i) ov)
  | [], _, _, _, _, _, _, _, _, _, hi, _ => by simp at hi
  | _ :: _, [], _, _, hh, _, _, _, _, _, _, _ => hh.elim
  | o :: r, S :: Ss, k, ov, ⟨_, h1, _⟩, vs, hvs, 0, o', S', hi, hS => by
    simp only [List.getElem?_cons_zero, Option.some.injEq] at hi hS
    subst hi; subst hS
    exact h1
  | o :: r, S :: Ss, k, ov, ⟨_, _, h2⟩, vs, hvs, i + 1, o', S', hi, hS => by
    have := LG_at (h2 (vs k) (hvs 0 S rfl)) vs (fun i S' hi => by rw [show k + 1 + i = k + (i + 1) by omega]; exact hvs (i + 1) S' hi) i o' S' (by simpa using hi) (by simpa using hS)
    rw [show k + 1 + i = k + (i + 1) by omega] at this
    exact this
theorem LG_end : ∀ {os : List Oper} {Ss : List Sp} {k : Nat} {ov : List (Nat × Value)}, LG P ops w0 h l ds Sx Ψ End k os Ss ov → ∀ (vs : Nat → Value), (∀ (i : Nat) (S : Sp), Ss[i]? = some S → S.ok (vs (k + i))) → End (ovs vs k os ov)
  | [], [], _, _, hh, _, _ => hh
  | [], _ :: _, _, _, hh, _, _ => hh.elim
  | _ :: _, [], _, _, hh, _, _ => hh.elim
  | o :: r, S :: Ss, k, ov, ⟨_, _, h2⟩, vs, hvs => LG_end (h2 (vs k) (hvs 0 S rfl)) vs fun i S' hi => by rw [show k + 1 + i = k + (i + 1) by omega]; exact hvs (i + 1) S' hi
end
/-- What is asked of a head's operations, at a glance. -/
def headB (ops : Array Oper) (n len : Nat) : Bool :=
  (List.range n).all fun k => match ops[k]? with
    | none => false
    | some o => (match o.op with | .select _ _ => false | _ => true) && (o.after.toList.all fun e => !Region.binds .any e || Nat.blt e.on k) &&
       (match o.dst with | some d => Nat.blt d len | none => true) &&
       (List.range n).all fun j => match ops[j]? with
         | none => true
         | some oj => match oj.dst with
           | none => true
           | some d => (Nat.beq j k || o.dst != some d) && (!(o.looksAt ops).contains d || (Nat.blt j k && o.after.toList.any fun e => Region.binds .any e && Nat.beq e.on j))
structure HeadOK (ops : Array Oper) (n len : Nat) : Prop where
  op : ∀ k, k < n → ∃ o, ops[k]? = some o
  sel : ∀ k o, k < n → ops[k]? = some o → ∀ cs b, o.op ≠ .select cs b
  back : ∀ k o, k < n → ops[k]? = some o → ∀ e ∈ o.after, Region.binds .any e = true → e.on < k
  room : ∀ k o d, k < n → ops[k]? = some o → o.dst = some d → d < len
  dist : ∀ k o j oj d, k < n → j < n → ops[k]? = some o → ops[j]? = some oj → oj.dst = some d → j ≠ k → o.dst ≠ some d
  deps : ∀ k o j oj d, k < n → j < n → ops[k]? = some o → ops[j]? = some oj → oj.dst = some d → d ∈ o.looksAt ops → j < k ∧ ∃ e ∈ o.after, Region.binds .any e = true ∧ e.on = j
theorem headB_ok {ops : Array Oper} {n len : Nat} (hB : headB ops n len = true) : HeadOK ops n len := by
  have key : ∀ k, k < n → ∃ o, ops[k]? = some o ∧ (match o.op with | .select _ _ => false | _ => true) = true ∧ (∀ e ∈ o.after, Region.binds .any e = true → e.on < k) ∧
      (∀ d, o.dst = some d → d < len) ∧ ∀ j oj d, j < n → ops[j]? = some oj → oj.dst = some d → (j = k ∨ o.dst ≠ some d) ∧ (d ∈ o.looksAt ops → j < k ∧ ∃ e ∈ o.after, Region.binds .any e = true ∧ e.on = j) := fun k hk => by
    have h1 := List.all_eq_true.1 hB k (List.mem_range.2 hk)
    cases ho : ops[k]? with
    | none => simp [ho] at h1
    | some o =>
      simp only [ho, Bool.and_eq_true] at h1
      obtain ⟨⟨⟨h2, h3⟩, h4⟩, h5⟩ := h1
      refine ⟨o, rfl, h2, fun e he hb => ?_, fun d hd => ?_, fun j oj d hj hoj hd => ?_⟩
      · have := List.all_eq_true.1 h3 e (by simpa using he)
        simp only [hb, Bool.not_true, Bool.false_or, Nat.blt_eq] at this
        exact this
      · simp only [hd, Nat.blt_eq] at h4; exact h4
      · have h6 := List.all_eq_true.1 h5 j (List.mem_range.2 hj)
        simp only [hoj, hd, Bool.and_eq_true, Bool.or_eq_true, Bool.not_eq_true', bne_iff_ne, Nat.blt_eq, List.any_eq_true] at h6
        obtain ⟨h7, h8⟩ := h6
        refine ⟨h7.imp Nat.eq_of_beq_eq_true id, fun hm => ?_⟩
        rcases h8 with h8 | ⟨h8, e, he, hb, hj'⟩
        · rw [show (o.looksAt ops).contains d = true from by simpa using hm] at h8; cases h8
        · exact ⟨h8, e, by simpa using he, hb, Nat.eq_of_beq_eq_true hj'⟩
  refine ⟨fun k hk => (key k hk).imp fun o h => h.1, fun k o hk ho cs b hop => ?_, fun k o hk ho e he hb => ?_, fun k o d hk ho hd => ?_, fun k o j oj d hk hj ho hoj hd hne => ?_, fun k o j oj d hk hj ho hoj hd hm => ?_⟩ <;>
    obtain ⟨o', ho', h2, h3, h4, h5⟩ := key k hk <;> (rw [ho] at ho'; injection ho' with ho'; subst ho')
  · rw [hop] at h2; cases h2
  · exact h3 e he hb
  · exact h4 d hd
  · exact (h5 j oj d hj hoj hd).1.resolve_left hne
  · exact (h5 j oj d hj hoj hd).2 hm
/-! ### How many aren't done -/
def cntU (listed : Array Bool) : Nat → Nat
  | 0 => 0
  | m + 1 => cntU listed m + (if listed.getD m false = true then 0 else 1)
theorem cntU_beyond {listed : Array Bool} {k : Nat} : ∀ {m : Nat}, m ≤ k → cntU (listed.setIfInBounds k true) m = cntU listed m
  | 0, _ => rfl
  | m + 1, h => by
    simp only [cntU]
    rw [cntU_beyond (m := m) (by omega), getD_set_ne false (show k ≠ m by omega)]
theorem cntU_set {listed : Array Bool} {k : Nat} (hk : k < listed.size) (hu : listed.getD k false = false) : ∀ {m : Nat}, k < m → cntU (listed.setIfInBounds k true) m + 1 = cntU listed m
  | 0, h => by omega
  | m + 1, h => by
    simp only [cntU]
    by_cases e : k = m
    · subst e
      rw [cntU_beyond (Nat.le_refl _), hu, show (listed.setIfInBounds k true).getD k false = true by simp [hk]]
      simp
    · rw [getD_set_ne false e]
      have := cntU_set hk hu (m := m) (by omega)
      omega
theorem cntU_zero {listed : Array Bool} : ∀ {m : Nat}, cntU listed m = 0 → ∀ k, k < m → listed.getD k false = true
  | 0, _, k, hk => by omega
  | m + 1, h, k, hk => by
    simp only [cntU] at h
    by_cases e : k = m
    · subst e
      by_cases hl : listed.getD k false = true
      · exact hl
      · rw [if_neg hl] at h; omega
    · exact cntU_zero (m := m) (by omega) k (by omega)
theorem cntU_first {listed : Array Bool} : ∀ {m : Nat}, cntU listed m ≠ 0 → ∃ k, k < m ∧ listed.getD k false = false ∧ ∀ j, j < k → listed.getD j false = true
  | 0, h => absurd rfl h
  | m + 1, h => by
    by_cases h0 : cntU listed m = 0
    · refine ⟨m, by omega, ?_, fun j hj => cntU_zero h0 j hj⟩
      cases hl : listed.getD m false with
      | false => rfl
      | true => simp only [cntU] at h; rw [if_pos hl] at h; omega
    · obtain ⟨k, h1, h2, h3⟩ := cntU_first h0
      exact ⟨k, by omega, h2, h3⟩
theorem cntU_rep (s : Nat) : ∀ m, cntU (Array.replicate s false) m = m
  | 0 => rfl
  | m + 1 => by simp only [cntU]; rw [cntU_rep s m, getD_replicate_false]; simp
end Go.Proofs.Ytgnkhncogfppgaa

namespace Go.Proofs.Ytgnkhncogfppgaa
open Go.RowKit
section
variable {P : Program} {ops : Array Oper} {w0 : World} {h : Nat} {l : List Value} {ds : List Deferred} {Sx : Nat → Bool} {Ψ : (Nat → Bool) → (Nat → Value) → World → Prop} {End : List (Nat × Value) → Prop} {Q : Exit → Act → World → Prop}
theorem stepG_congr {o : Oper} {a a' : Act} {W : World} {good : Value → World → Prop} (hs : ∀ cs b, o.op ≠ .select cs b) (he : ∀ t ∈ o.looksAt ops, a.tmps[t]? = a'.tmps[t]?) (hg : stepG P ops o a W good) : stepG P ops o a' W good := by
  have h1 : execOp a'.eval o = execOp a.eval o := (execOp_congr o hs fun x hx => by
    cases x with
    | tmp t =>
      have := he t (List.mem_append_left _ (List.mem_filterMap.2 ⟨.tmp t, by simpa using hx, rfl⟩))
      show a.tmps.getD t undef = a'.tmps.getD t undef
      rw [Array.getD_eq_getD_getElem?, Array.getD_eq_getD_getElem?, this]
    | _ => rfl).symm
  have h2 : Region.wanted o (yielded ops a'.tmps) = Region.wanted o (yielded ops a.tmps) := by
    unfold Region.wanted
    cases hgd : o.guard with
    | none => rfl
    | some gw =>
      obtain ⟨g, want⟩ := gw
      have hy : yielded ops a'.tmps g = yielded ops a.tmps g := by
        unfold yielded
        cases ht : (ops[g]?).bind (·.dst) with
        | none => rfl
        | some t =>
          have := he t (by simp [Oper.looksAt, hgd, ht])
          simp only [Option.bind_some, this]
      simp only [hy]
  unfold stepG at *
  rw [h1, h2]
  exact hg
theorem stepG_op {o : Oper} {a : Act} {W : World} {k : Nat} {good : Value → World → Prop} {K : Act → World → Prop} (ho : ops[k]? = some o) (hg : stepG P ops o a W good) (hK : ∀ u W', good u W' → K (a.put o.dst u) W') : wpOp P ops Q k K a W := by
  unfold wpOp
  simp only [ho]
  rcases hg with ⟨hw, hg⟩ | ⟨hw, hg⟩
  · rw [if_pos hw]
    refine .inl ?_
    unfold Oper.wp
    generalize (execOp a.eval o).run P W = r at *
    cases r with
    | ok nx w' =>
      cases nx <;> simp only [gUpon] at hg <;> simp only [Oper.upon]
      case value u => exact hK u w' hg
      case skip => exact hK undef w' hg
      case enter f args =>
        refine hg.mono fun e w'' ⟨v, he, hv⟩ => ?_
        subst he
        exact hK v w'' hv
    | halt x w' => simp only [gUpon] at hg
  · rw [if_neg (by rw [hw]; exact Bool.false_ne_true)]
    exact hK undef W hg
structure GInv (ops : Array Oper) (w0 : World) (h : Nat) (l : List Value) (ds : List Deferred) (Ψ : (Nat → Bool) → (Nat → Value) → World → Prop) (n : Nat) (Ss : List Sp) (listed : Array Bool) (a : Act) (W : World) (ρ : Nat → Value) : Prop where
  hi : HeadInv .any ops n listed
  bw : Below h w0 W
  df : a.defers = ds
  sz : a.tmps.size = l.length
  psi : Ψ (fun k => listed.getD k false) ρ W
  val : ∀ k o S, k < n → ops[k]? = some o → Ss[k]? = some S → listed.getD k false = true → S.ok (ρ k) ∧ ∀ d, o.dst = some d → a.tmps[d]? = some (ρ k)
  els : ∀ t, (∀ k o, k < n → ops[k]? = some o → listed.getD k false = true → o.dst ≠ some t) → a.tmps[t]? = l[t]?
/-- Values for all: those that are there, and any that fit. -/
theorem fill {Ss : List Sp} (hw : ∀ (i : Nat) (S : Sp), Ss[i]? = some S → ∃ v, S.ok v) (done : Nat → Bool) (ρ : Nat → Value) (hd : ∀ (i : Nat) (S : Sp), Ss[i]? = some S → done i = true → S.ok (ρ i)) : ∃ vs : Nat → Value, (∀ (i : Nat) (S : Sp), Ss[i]? = some S → S.ok (vs i)) ∧ ∀ i, i < Ss.length → done i = true → vs i = ρ i := by
  have : ∀ i : Nat, ∃ v, (∀ S : Sp, Ss[i]? = some S → S.ok v) ∧ (i < Ss.length → done i = true → v = ρ i) := fun i => by
    cases hS : Ss[i]? with
    | none => exact ⟨ρ i, fun S h => by simp at h, fun hi => by rw [List.getElem?_eq_none_iff] at hS; omega⟩
    | some S =>
      by_cases hdi : done i = true
      · exact ⟨ρ i, fun S' h => by injection h with h; subst h; exact hd i S hS hdi, fun _ _ => rfl⟩
      · obtain ⟨v, hv⟩ := hw i S hS
        exact ⟨v, fun S' h => by injection h with h; subst h; exact hv, fun _ h => absurd h hdi⟩
  obtain ⟨vs, hvs⟩ := Classical.axiomOfChoice this
  exact ⟨vs, fun i => (hvs i).1, fun i => (hvs i).2⟩
theorem fr_look {n : Nat} {vs : Nat → Value} {k t : Nat} (hok : HeadOK ops n l.length) (hk : k ≤ n) {hd : List Oper} (hhd : ∀ j, j < n → hd[j]? = ops[j]?) (hlen : hd.length = n) :
    ((∀ (j : Nat) (o : Oper), j < k → ops[j]? = some o → o.dst ≠ some t) → (app l (ovs vs 0 (hd.take k) [])).toArray[t]? = l[t]?) ∧
    (∀ (j : Nat) (o : Oper), j < k → ops[j]? = some o → o.dst = some t → (app l (ovs vs 0 (hd.take k) [])).toArray[t]? = some (vs j)) := by
  have htk : ∀ j, j < k → (hd.take k)[j]? = ops[j]? := fun j hj => by rw [List.getElem?_take, if_pos hj, hhd j (by omega)]
  have hin : ∀ (j : Nat) (o : Oper), (hd.take k)[j]? = some o → j < k ∧ ops[j]? = some o := fun j o hj => by
    have hjk : j < k := by
      have := (List.getElem?_eq_some_iff.1 hj).1
      simp at this; omega
    exact ⟨hjk, by rw [← htk j hjk]; exact hj⟩
  have hst : StO l (ovs vs 0 (hd.take k) []) := sto_ovs (fun p hp => by cases hp) fun j o d hj hd' => by
    obtain ⟨h1, h2⟩ := hin j o hj
    exact hok.room j o d (by omega) h2 hd'
  have e : ∀ t, (app l (ovs vs 0 (hd.take k) [])).toArray[t]? = lk l (ovs vs 0 (hd.take k) []) t := fun t => by rw [← lk_app hst t]; simp
  rw [e]
  constructor
  · intro hne
    rw [lk_ovs_none fun j o hj => by obtain ⟨h1, h2⟩ := hin j o hj; exact hne j o h1 h2]
    rfl
  · intro j o hj ho hd'
    rw [lk_ovs_some (j := j) (o := o) (by rw [htk j hj]; exact ho) hd' fun j' o' hne ho' hd2 => by
      obtain ⟨h1, h2⟩ := hin j' o' ho'
      exact hok.dist j' o' j o t (by omega) (by omega) h2 ho hd' (fun e => hne e.symm) hd2, Nat.zero_add]
/-- ONE STEP. -/
theorem LG_step {n : Nat} {Ss : List Sp} {hd : List Oper} (hok : HeadOK ops n l.length) (hhd : ∀ j, j < n → hd[j]? = ops[j]?) (hlen : hd.length = n) (hns : n ≤ ops.size) (hh : h ≤ w0.heap.size)
    (stab : ∀ Λ ρ W W' k v, Sx k = false → Below W.heap.size W W' → h ≤ W.heap.size → Ψ Λ ρ W → Ψ (up Λ k true) (up ρ k v) W')
    (hLG : LG P ops w0 h l ds Sx Ψ End 0 hd Ss []) {listed : Array Bool} {a : Act} {W : World} {ρ : Nat → Value} (inv : GInv ops w0 h l ds Ψ n Ss listed a W ρ)
    {k : Nat} (hk : k < n) (hr : k ∈ Region.ready .any ops listed) {K : Act → World → Prop} (hK : ∀ a' W' ρ', GInv ops w0 h l ds Ψ n Ss (listed.setIfInBounds k true) a' W' ρ' → K a' W') : wpOp P ops Q k K a W := by
  obtain ⟨hun0, o, ho, hall⟩ := mem_ready.1 hr
  have hun := getD_both hun0
  have hwt := LG_wit hLG
  have hlS := LG_len hLG
  obtain ⟨S, hS⟩ : ∃ S, Ss[k]? = some S := ⟨_, List.getElem?_eq_getElem (by omega)⟩
  obtain ⟨vs, hvs, hvd⟩ := fill hwt (fun j => listed.getD j false) ρ (fun i S' hi hdn => by
    have hin : i < n := by have := (List.getElem?_eq_some_iff.1 hi).1; omega
    obtain ⟨oi, hoi⟩ := hok.op i hin
    exact (inv.val i oi S' hin hoi hi hdn).1)
  have hkl : k < listed.size := by rw [inv.hi.size]; omega
  have hst : StO l (ovs vs 0 (hd.take k) []) := sto_ovs (fun p hp => by cases hp) fun j o' d hj hd' => by
    have hjk : j < k := by have := (List.getElem?_eq_some_iff.1 hj).1; simp at this; omega
    rw [List.getElem?_take, if_pos hjk, hhd j (by omega)] at hj
    exact hok.room j o' d (by omega) hj hd'
  have hobl := LG_at hLG vs (fun i S' hi => by rw [Nat.zero_add]; exact hvs i S' hi) k o S (by rw [hhd k hk]; exact ho) hS hst
  rw [Nat.zero_add] at hobl
  -- the frame, where the operation looks
  have hag : ∀ t ∈ o.looksAt ops, (fr l ds (ovs vs 0 (hd.take k) [])).tmps[t]? = a.tmps[t]? := fun t ht => by
    obtain ⟨f1, f2⟩ := fr_look (vs := vs) (t := t) hok (Nat.le_of_lt hk) hhd hlen
    by_cases hex : ∃ j oj, j < n ∧ ops[j]? = some oj ∧ oj.dst = some t
    · obtain ⟨j, oj, hj, hoj, hdj⟩ := hex
      obtain ⟨hjk, e, he, hb, heq⟩ := hok.deps k o j oj t hk hj ho hoj hdj ht
      have hlj : listed.getD j false = true := by rw [← heq]; exact hall e he hb
      show (app l (ovs vs 0 (hd.take k) [])).toArray[t]? = _
      rw [f2 j oj hjk hoj hdj, hvd j (by omega) hlj]
      obtain ⟨S', hS'⟩ : ∃ S', Ss[j]? = some S' := ⟨_, List.getElem?_eq_getElem (by omega)⟩
      exact ((inv.val j oj S' hj hoj hS' hlj).2 t hdj).symm
    · show (app l (ovs vs 0 (hd.take k) [])).toArray[t]? = _
      rw [f1 fun j oj hj hoj hdj => hex ⟨j, oj, by omega, hoj, hdj⟩]
      exact (inv.els t fun j oj hj hoj _ hdj => hex ⟨j, oj, hj, hoj, hdj⟩).symm
  have hsel := hok.sel k o hk ho
  have hset : (fun j => (listed.setIfInBounds k true).getD j false) = up (fun j => listed.getD j false) k true := by
    funext j
    by_cases hj : j = k
    · subst hj; rw [up_same]; simp [hkl]
    · rw [up_ne _ _ hj, getD_set_ne false (Ne.symm hj)]
  have hnew : ∀ u W', S.ok u → Below h w0 W' → Ψ (up (fun j => listed.getD j false) k true) (up ρ k u) W' → K (a.put o.dst u) W' := fun u W' hu hb hp => by
    refine hK _ _ (up ρ k u) ⟨inv.hi.set hr hk, hb, ?_, ?_, by rw [hset]; exact hp, fun j oj S' hj hoj hS' hl => ?_, fun t hne => ?_⟩
    · cases o.dst <;> exact inv.df
    · cases o.dst with
      | none => exact inv.sz
      | some d => simp [Act.put, inv.sz]
    · by_cases hjk : j = k
      · subst hjk
        rw [ho] at hoj; injection hoj with hoj; subst hoj
        rw [hS] at hS'; injection hS' with hS'; subst hS'
        refine ⟨by rw [up_same]; exact hu, fun d hd' => ?_⟩
        have hdl := hok.room j o d hj ho hd'
        rw [up_same, hd']
        simp [Act.put, inv.sz, hdl]
      · have hl' : listed.getD j false = true := by rwa [getD_set_ne false (Ne.symm hjk)] at hl
        obtain ⟨h1, h2⟩ := inv.val j oj S' hj hoj hS' hl'
        rw [up_ne _ _ hjk]
        refine ⟨h1, fun d hd' => ?_⟩
        have hne := hok.dist k o j oj d hk hj ho hoj hd' hjk
        rw [← h2 d hd']
        cases hod : o.dst with
        | none => rfl
        | some d' =>
          have : d' ≠ d := fun e => hne (by rw [hod, e])
          simp [Act.put, Array.getElem?_setIfInBounds_ne this]
    · have hk2 := hne k o hk ho (by simp [hkl])
      have hold := inv.els t fun j oj hj hoj hl => hne j oj hj hoj (by
        by_cases hjk : j = k
        · subst hjk; rw [hun] at hl; cases hl
        · rw [getD_set_ne false (Ne.symm hjk)]; exact hl)
      rw [← hold]
      cases hod : o.dst with
      | none => rfl
      | some d' =>
        have : d' ≠ t := fun e => hk2 (by rw [hod, e])
        simp [Act.put, Array.getElem?_setIfInBounds_ne this]
  cases S with
  | det v =>
    obtain ⟨hsx, hd1⟩ := hobl
    refine stepG_op ho (stepG_congr hsel hag (hd1 W inv.bw)) fun u W' ⟨hu, hb⟩ => ?_
    have hhW : h ≤ W.heap.size := Nat.le_trans hh inv.bw.size
    exact hnew u W' hu (inv.bw.trans (hb.mono hhW)) (stab _ _ W W' k u hsx hb hhW inv.psi)
  | spc A =>
    refine stepG_op ho (stepG_congr hsel hag (hobl (fun j => listed.getD j false) ρ W inv.bw inv.psi hun hall (fun j oj d hj hoj hdj hl => ?_))) fun u W' ⟨hu, hb, hp⟩ => hnew u W' hu hb hp
    have hst2 := hst
    obtain ⟨_, f2⟩ := fr_look (vs := vs) (t := d) hok (Nat.le_of_lt hk) hhd hlen
    have := f2 j oj hj hoj hdj
    rw [hvd j (by omega) hl] at this
    rw [← lk_app hst2 d]
    simpa using this
end
end Go.Proofs.Ytgnkhncogfppgaa

namespace Go.Proofs.Ytgnkhncogfppgaa
open Go.RowKit
def canon (s n : Nat) : Array Bool := (List.replicate n true ++ List.replicate (s - n) false).toArray
def tailB (ops : Array Oper) (n : Nat) : Bool :=
  (Nat.beq n ops.size || (Nat.blt n ops.size && Region.sinkB .any ops n && Region.chainB .any ops n)) && Region.seqB .any ops (ops.size - n) n (canon ops.size n)
/-- What stands behind the head. -/
def EndG (P : Program) (ops : Array Oper) (Q : Exit → Act → World → Prop) (n h : Nat) (w0 : World) (l : List Value) (ds : List Deferred) (Ψ : (Nat → Bool) → (Nat → Value) → World → Prop) (tl : List Oper) (ov : List (Nat × Value)) : Prop :=
  ∀ W Λ ρ, Below h w0 W → Ψ Λ ρ W → (∀ k, k < n → Λ k = true) → (∀ k o d, k < n → ops[k]? = some o → o.dst = some d → lk l ov d = some (ρ k)) → wpList P ops Q tl (fr l ds ov) W
section
variable {P : Program} {w0 : World} {h : Nat} {l : List Value} {ds : List Deferred} {Sx : Nat → Bool} {Ψ : (Nat → Bool) → (Nat → Value) → World → Prop} {Q : Exit → Act → World → Prop}
theorem LG_any {os : List Oper} {n : Nat} {Ss : List Sp} (hok : HeadOK os.toArray n l.length) (hT : tailB os.toArray n = true) (hh : h ≤ w0.heap.size)
    (stab : ∀ Λ ρ W W' k v, Sx k = false → Below W.heap.size W W' → h ≤ W.heap.size → Ψ Λ ρ W → Ψ (up Λ k true) (up ρ k v) W')
    (hLG : LG P os.toArray w0 h l ds Sx Ψ (EndG P os.toArray Q n h w0 l ds Ψ (os.drop n)) 0 (os.take n) Ss []) : ∀ (f : Nat) (listed : Array Bool) (a : Act) (W : World) (ρ : Nat → Value), GInv os.toArray w0 h l ds Ψ n Ss listed a W ρ → cntU listed n = f →
      wpAny P .any os.toArray Q (f + (os.length - n)) listed a W := by
  simp only [tailB, Bool.and_eq_true, Bool.or_eq_true, List.size_toArray, Nat.blt_eq] at hT
  obtain ⟨hT1, hseq⟩ := hT
  have hns : n ≤ os.length := by
    rcases hT1 with h1 | ⟨⟨h1, _⟩, _⟩
    · exact Nat.le_of_eq (Nat.eq_of_beq_eq_true h1)
    · exact Nat.le_of_lt h1
  have hhd : ∀ j, j < n → (os.take n)[j]? = os.toArray[j]? := fun j hj => by rw [List.getElem?_take, if_pos hj]; simp
  have hlen : (os.take n).length = n := by simp; omega
  have hlS := LG_len hLG
  intro f
  induction f with
  | zero =>
    intro listed a W ρ inv hc
    have hall := cntU_zero hc
    have hcan : listed = canon os.length n := by
      refine Array.ext (by rw [inv.hi.size]; simp [canon]; omega) fun i h1 h2 => ?_
      have hsz : listed.size = os.length := by rw [inv.hi.size]; simp
      by_cases hi : i < n
      · have := hall i hi
        simp [h1] at this
        rw [this]
        simp [canon, hi]
      · have := inv.hi.tail i (by omega) (by simp; omega)
        simp [h1] at this
        rw [this]
        simp [canon, List.getElem_append, hi]
    rw [Nat.zero_add]
    have hval : ∀ (i : Nat) (S : Sp), Ss[i]? = some S → S.ok (ρ (0 + i)) := fun i S hS => by
      have hin : i < n := by have := (List.getElem?_eq_some_iff.1 hS).1; omega
      obtain ⟨oi, hoi⟩ := hok.op i hin
      rw [Nat.zero_add]
      exact (inv.val i oi S hin hoi hS (hall i hin)).1
    have hend := LG_end hLG ρ hval
    have hlook := fun t => fr_look (vs := ρ) (t := t) hok (Nat.le_refl n) hhd hlen
    rw [List.take_of_length_le (by rw [hlen]; exact Nat.le_refl _)] at hlook
    have hst : StO l (ovs ρ 0 (os.take n) []) := sto_ovs (fun p hp => by cases hp) fun j o' d hj hd' => by
      have hjk : j < n := by have := (List.getElem?_eq_some_iff.1 hj).1; simp at this; omega
      rw [hhd j hjk] at hj
      exact hok.room j o' d hjk hj hd'
    have ha : a = fr l ds (ovs ρ 0 (os.take n) []) := by
      obtain ⟨tm, df⟩ := a
      have e1 : df = ds := inv.df
      have e2 : tm = (app l (ovs ρ 0 (os.take n) [])).toArray := by
        refine Array.ext' (List.ext_getElem? fun t => ?_)
        have hl := hlook t
        rw [← Array.getElem?_toList] at hl
        by_cases hex : ∃ j oj, j < n ∧ os.toArray[j]? = some oj ∧ oj.dst = some t
        · obtain ⟨j, oj, hj, hoj, hdj⟩ := hex
          obtain ⟨S, hS⟩ : ∃ S, Ss[j]? = some S := ⟨_, List.getElem?_eq_getElem (by omega)⟩
          rw [hl.2 j oj hj hoj hdj]
          have := (inv.val j oj S hj hoj hS (hall j hj)).2 t hdj
          rw [← Array.getElem?_toList] at this
          exact this
        · rw [hl.1 fun j oj hj hoj hdj => hex ⟨j, oj, hj, hoj, hdj⟩]
          have := inv.els t fun j oj hj hoj _ hdj => hex ⟨j, oj, hj, hoj, hdj⟩
          rw [← Array.getElem?_toList] at this
          exact this
      rw [e1, e2]
    rw [ha]
    have := hend W (fun k => listed.getD k false) ρ inv.bw inv.psi hall fun k o d hk ho hd' => by
      rw [← lk_app hst d]
      have := (hlook d).2 k o hk ho hd'
      simpa using this
    rw [hcan]
    have hwp := wpAny_of_seq (md := .any) (Q' := Q) (os.drop n) n (canon os.length n) _ W (fun j => by simp [List.getElem?_drop]) (by simpa using hseq) this
    simpa using hwp
  | succ f ih =>
    intro listed a W ρ inv hc
    rw [show f + 1 + (os.length - n) = (f + (os.length - n)) + 1 by omega]
    obtain ⟨k0, hk0, hu0, hpre⟩ := cntU_first (listed := listed) (m := n) (by omega)
    have hsz : listed.size = os.length := by rw [inv.hi.size]; simp
    have hk0r : k0 ∈ Region.ready .any os.toArray listed := by
      obtain ⟨o, ho⟩ := hok.op k0 hk0
      exact mem_ready.2 ⟨getD_in (by omega) hu0, o, ho, fun e he hb => hpre _ (hok.back k0 o hk0 ho e he hb)⟩
    refine ⟨fun h0 => absurd hk0r (by rw [h0]; simp), fun i hi => ?_⟩
    have hin : i < n := by
      refine Nat.lt_of_not_le fun hle => ?_
      rcases hT1 with h1 | ⟨⟨h1, h2⟩, h3⟩
      · have e := Nat.eq_of_beq_eq_true h1
        obtain ⟨_, o, ho, _⟩ := mem_ready.1 hi
        have := (Array.getElem?_eq_some_iff.1 ho).1
        simp at this; omega
      · exact tail_waits h2 h3 (by simpa using h1) inv.hi _ k0 rfl hk0 (getD_in (by omega) hu0) i hle hi
    refine LG_step hok hhd hlen (by simpa using hns) hh stab hLG inv hin hi fun a' W' ρ' inv' => ih _ _ _ _ inv' ?_
    have := cntU_set (listed := listed) (k := i) (by omega) (getD_both (mem_ready.1 hi).1) hin
    omega
/-- A REGION THAT DRAWS ITS ORDER, each of its first n operations told once. -/
theorem region_LG {id : Nat} {w : World} {os : List Oper} (n : Nat) (h : Nat) (Sx : Nat → Bool) (Ψ : (Nat → Bool) → (Nat → Value) → World → Prop) (hh : h ≤ w.heap.size) (hm : P.follows .mixedOrders = true) (hB : headB os.toArray n l.length = true) (hT : tailB os.toArray n = true)
    (stab : ∀ Λ ρ W W' k v, Sx k = false → Below W.heap.size W W' → h ≤ W.heap.size → Ψ Λ ρ W → Ψ (up Λ k true) (up ρ k v) W') (h0 : ∀ W, Below w.heap.size w W → Ψ (fun _ => false) (fun _ => undef) W) (Ss : List Sp)
    (hLG : LG P os.toArray w h l ds Sx Ψ (EndG P os.toArray Q n h w l ds Ψ (os.drop n)) 0 (os.take n) Ss []) : (Code.region id os.toArray true).wp P Q ⟨l.toArray, ds⟩ w := by
  have hok := headB_ok hB
  have hns : n ≤ os.length := by
    have hT' := hT
    simp only [tailB, Bool.and_eq_true, Bool.or_eq_true, List.size_toArray, Nat.blt_eq] at hT'
    rcases hT'.1 with h1 | ⟨⟨h1, _⟩, _⟩
    · exact Nat.le_of_eq (Nat.eq_of_beq_eq_true h1)
    · exact Nat.le_of_lt h1
  refine wp_region_any hm ?_
  have hb : Below w.heap.size w { w with drawn := w.drawn + 1 } := ⟨rfl, rfl, rfl, Nat.le_refl _, fun _ _ => rfl⟩
  have inv : GInv os.toArray w h l ds Ψ n Ss (Array.replicate os.toArray.size false) ⟨l.toArray, ds⟩ { w with drawn := w.drawn + 1 } (fun _ => undef) :=
    ⟨⟨by simp, fun j oj _ hl => (by rw [getD_replicate_false] at hl; cases hl), fun t _ ht => getD_in (by simpa using ht) (getD_replicate_false _ _)⟩, hb.mono hh, rfl, by simp,
     by rw [show (fun k => (Array.replicate os.toArray.size false).getD k false) = fun _ => false from funext fun k => getD_replicate_false _ _]; exact h0 _ hb,
     fun k o S _ _ _ hl => (by rw [getD_replicate_false] at hl; cases hl), fun t _ => by simp⟩
  have := LG_any hok hT hh stab hLG n _ _ _ _ inv (cntU_rep _ n)
  rw [show n + (os.length - n) = os.toArray.size by simp; omega] at this
  exact this
end
section
variable {P : Program} {ops : Array Oper} {w0 : World} {h : Nat} {l : List Value} {ds : List Deferred} {Sx : Nat → Bool} {Ψ : (Nat → Bool) → (Nat → Value) → World → Prop} {End : List (Nat × Value) → Prop}
  {k : Nat} {o : Oper} {rest : List Oper} {Ss : List Sp} {ov : List (Nat × Value)} {d : Nat} {v : Value}
theorem g_end (hE : End ov) : LG P ops w0 h l ds Sx Ψ End k [] [] ov := hE
/-- An operation whose value is known ahead. -/
theorem g_det (hs : Sx k = false) (hn : isNew o = false) (hd : o.dst = some d) (hl : Nat.blt d l.length = true) (h1 : ∀ W, Below h w0 W → LX P ops W (fun a' => a'.tmps[d]? = some v) [o] l ov ds) (h2 : LG P ops w0 h l ds Sx Ψ End (k + 1) rest Ss ((d, v) :: ov)) :
    LG P ops w0 h l ds Sx Ψ End k (o :: rest) (.det v :: Ss) ov := by
  refine ⟨⟨v, rfl⟩, fun hst => ⟨hs, fun W hW => ?_⟩, fun u hu => ?_⟩
  · obtain ⟨v', hy, hv'⟩ := h1 W hW hst
    have hlt : d < l.length := by simpa [Nat.blt_eq] using hl
    have hvv : v' = v := by
      have hv' : ((fr l ds ov).put o.dst v').tmps[d]? = some v := hv'
      rw [hd] at hv'
      simpa [Act.put, app_length, hlt] using hv'
    subst hvv
    rcases hy with ⟨hw, hy⟩ | ⟨hw, hy⟩
    · refine .inl ⟨hw, ?_⟩
      rcases hy with ⟨hnw, _⟩ | ⟨_, hq⟩
      · rw [hn] at hnw; cases hnw
      · have := hq W (Below.refl _ _)
        generalize (execOp (fr l ds ov).eval o).run P W = r at *
        cases r with
        | ok nx w' =>
          cases nx <;> simp only [qUpon] at this <;> simp only [gUpon]
          case value u => obtain ⟨rfl, rfl⟩ := this; exact ⟨rfl, Below.refl _ _⟩
          case skip => obtain ⟨rfl, rfl⟩ := this; exact ⟨rfl, Below.refl _ _⟩
          case enter f args =>
            obtain ⟨rfl, hc⟩ := this
            exact hc.mono fun e w'' ⟨he, hb⟩ => ⟨v', he, rfl, hb⟩
        | halt x w' => simp only [qUpon] at this
    · exact .inr ⟨hw, hy.symm, Below.refl _ _⟩
  · have hu : u = v := hu
    subst hu
    rw [hd]; exact h2
theorem g_lk (hl : Nat.blt d l.length = true) : LX P ops w0 (fun a' => a'.tmps[d]? = some v) [] l ((d, v) :: ov) ds := o_end (by
  have hlt : d < l.length := by simpa [Nat.blt_eq] using hl
  simp [app, app_length, hlt])
/-- An operation whose value is known by what it is like. -/
theorem g_spc {A : Value → Prop} (hv : ∃ v, A v) (h1 : StO l ov → ∀ Λ ρ W, Below h w0 W → Ψ Λ ρ W → Λ k = false → (∀ e ∈ o.after, Region.binds .any e = true → Λ e.on = true) →
      (∀ j oj d, j < k → ops[j]? = some oj → oj.dst = some d → Λ j = true → lk l ov d = some (ρ j)) → stepG P ops o (fr l ds ov) W (fun u W' => A u ∧ Below h w0 W' ∧ Ψ (up Λ k true) (up ρ k u) W'))
    (h2 : ∀ v, A v → LG P ops w0 h l ds Sx Ψ End (k + 1) rest Ss (putO o.dst v ov)) : LG P ops w0 h l ds Sx Ψ End k (o :: rest) (.spc A :: Ss) ov := ⟨hv, h1, h2⟩
theorem step_call {W : World} {good : Value → World → Prop} (hst : StO l ov) (hw : Region.wanted o (yO ops l ov) = true) (f : FuncId) (xs : Array Operand) (ts : Array TypeId) (ho : o.op = .call { callee := .value (.func f), args := xs, argTypes := ts }) {vs : List Value} (hx : evalsO l ov xs.toList = some vs)
    (hr : ∀ (ρ : Operand → Value) W, ρ (.func f) = .func (.func f) #[] #[] → (execOp ρ o).run P W = .ok (.enter f (xs.map ρ)) W) (hc : Calls P f vs.toArray W (fun e w'' => ∃ v, e = .returned v ∧ good v w'')) : stepG P ops o (fr l ds ov) W good := by
  refine .inl ⟨by show Region.wanted o (yielded ops (app l ov).toArray) = true; rw [yO_eq hst]; exact hw, ?_⟩
  rw [hr _ W rfl]
  have hm := evalsL_map (ds := ds) ((evalsO_L hst xs.toList).trans hx)
  have he : xs.map (fr l ds ov).eval = vs.toArray := by
    rw [← hm]
    cases xs
    simp
  rw [he]
  exact hc
theorem step_skip {W : World} {good : Value → World → Prop} (hst : StO l ov) (hw : Region.wanted o (yO ops l ov) = false) (hg : good undef W) : stepG P ops o (fr l ds ov) W good :=
  .inr ⟨by show Region.wanted o (yielded ops (app l ov).toArray) = false; rw [yO_eq hst]; exact hw, hg⟩
theorem step_run {W W' : World} {u : Value} {good : Value → World → Prop} (hst : StO l ov) (hw : Region.wanted o (yO ops l ov) = true) (hr : (execOp (fr l ds ov).eval o).run P W = .ok (.value u) W') (hg : good u W') : stepG P ops o (fr l ds ov) W good := by
  refine .inl ⟨by show Region.wanted o (yielded ops (app l ov).toArray) = true; rw [yO_eq hst]; exact hw, ?_⟩
  rw [hr]; exact hg
theorem step_runs {W W' : World} {good : Value → World → Prop} (hst : StO l ov) (hw : Region.wanted o (yO ops l ov) = true) (hr : (execOp (fr l ds ov).eval o).run P W = .ok .skip W') (hg : good undef W') : stepG P ops o (fr l ds ov) W good := by
  refine .inl ⟨by show Region.wanted o (yielded ops (app l ov).toArray) = true; rw [yO_eq hst]; exact hw, ?_⟩
  rw [hr]; exact hg
theorem fr_eval (hst : StO l ov) {x : Operand} {u : Value} (hx : evalO l ov x = some u) : (fr l ds ov).eval x = u := evalL_eval ((evalO_L hst x).trans hx)
end
end Go.Proofs.Ytgnkhncogfppgaa

namespace Go.Proofs.Ytgnkhncogfppgaa
open Go.RowKit
/-! Variables that a region makes, and what it stores into them. -/
def pt (g : Nat) : Value := .pointer (some ⟨g, 0, none⟩)
theorem pt_inj {g g' : Nat} (h : pt g = pt g') : g = g' := by unfold pt at h; injection h with h; injection h with h; injection h with h
def One (T : TypeId) (k s h : Nat) (c z : Array Value) (Λ : Nat → Bool) (ρ : Nat → Value) (W : World) : Prop :=
  (Λ s = true → Λ k = true) ∧ (Λ k = true → ∃ g, ρ k = pt g ∧ h ≤ g ∧ RowAt T W g (if Λ s then c else z))
section
variable {T : TypeId} {k s h : Nat} {c z : Array Value} {Λ : Nat → Bool} {ρ : Nat → Value} {W W' : World}
theorem One.none (h1 : Λ k = false) (h2 : Λ s = false) : One T k s h c z Λ ρ W := ⟨fun hs => (by rw [h2] at hs; cases hs), fun hk => by rw [h1] at hk; cases hk⟩
theorem One.stab (hO : One T k s h c z Λ ρ W) {j : Nat} {v : Value} (h1 : k ≠ j) (h2 : s ≠ j) (hb : Below W.heap.size W W') : One T k s h c z (up Λ j true) (up ρ j v) W' := by
  unfold One
  rw [up_ne _ _ h1, up_ne _ _ h2, up_ne _ _ h1]
  exact ⟨hO.1, fun hk => let ⟨g, e1, e2, e3⟩ := hO.2 hk; ⟨g, e1, e2, e3.on hb⟩⟩
theorem One.keep (hO : One T k s h c z Λ ρ W) {j g' : Nat} {v : Value} (h1 : k ≠ j) (h2 : s ≠ j) (hg : W.grownBy W' (some g')) (hne : Λ k = true → ρ k ≠ pt g') : One T k s h c z (up Λ j true) (up ρ j v) W' := by
  unfold One
  rw [up_ne _ _ h1, up_ne _ _ h2, up_ne _ _ h1]
  refine ⟨hO.1, fun hk => ?_⟩
  obtain ⟨g, e1, e2, e3⟩ := hO.2 hk
  refine ⟨g, e1, e2, (hg.block g e3.lt fun e => ?_).trans e3⟩
  injection e with e
  exact hne hk (by rw [e1, e])
theorem One.make (hO : One T k s h c z Λ ρ W) (hk : Λ k = false) (hks : k ≠ s) {g : Nat} (hr : RowAt T W' g z) (hh : h ≤ g) : One T k s h c z (up Λ k true) (up ρ k (pt g)) W' := by
  unfold One
  rw [up_same, up_ne _ _ (Ne.symm hks), up_same]
  refine ⟨fun _ => rfl, fun _ => ⟨g, rfl, hh, ?_⟩⟩
  cases hs : Λ s with
  | false => exact hr
  | true => rw [hO.1 hs] at hk; cases hk
theorem One.put (hk : Λ k = true) (hks : k ≠ s) {g : Nat} (he : ρ k = pt g) (hr : RowAt T W' g c) (hh : h ≤ g) {v : Value} : One T k s h c z (up Λ s true) (up ρ s v) W' := by
  unfold One
  rw [up_same, up_ne _ _ hks, up_ne _ _ hks]
  exact ⟨fun _ => hk, fun _ => ⟨g, he, hh, hr⟩⟩
theorem One.get (hO : One T k s h c z Λ ρ W) (hk : Λ k = true) {g : Nat} (he : ρ k = pt g) : RowAt T W g (if Λ s then c else z) ∧ h ≤ g := by
  obtain ⟨g', e1, e2, e3⟩ := hO.2 hk
  have := pt_inj (e1.symm.trans he)
  subst this
  exact ⟨e3, e2⟩
end
/-- Two such variables. -/
def Duo (T1 T2 : TypeId) (k1 k2 s1 s2 h : Nat) (c1 z1 c2 z2 : Array Value) (Λ : Nat → Bool) (ρ : Nat → Value) (W : World) : Prop :=
  One T1 k1 s1 h c1 z1 Λ ρ W ∧ One T2 k2 s2 h c2 z2 Λ ρ W ∧ (Λ k1 = true → Λ k2 = true → ρ k1 ≠ ρ k2)
section
variable {T1 T2 : TypeId} {k1 k2 s1 s2 h : Nat} {c1 z1 c2 z2 : Array Value} {Λ : Nat → Bool} {ρ : Nat → Value} {W W' : World}
theorem Duo.none (a : Λ k1 = false) (b : Λ k2 = false) (c : Λ s1 = false) (d : Λ s2 = false) : Duo T1 T2 k1 k2 s1 s2 h c1 z1 c2 z2 Λ ρ W := ⟨One.none a c, One.none b d, fun e => by rw [a] at e; cases e⟩
theorem Duo.stab (hD : Duo T1 T2 k1 k2 s1 s2 h c1 z1 c2 z2 Λ ρ W) {j : Nat} {v : Value} (a : k1 ≠ j) (b : k2 ≠ j) (c : s1 ≠ j) (d : s2 ≠ j) (hb : Below W.heap.size W W') : Duo T1 T2 k1 k2 s1 s2 h c1 z1 c2 z2 (up Λ j true) (up ρ j v) W' := by
  refine ⟨hD.1.stab a c hb, hD.2.1.stab b d hb, ?_⟩
  rw [up_ne _ _ a, up_ne _ _ b, up_ne _ _ a, up_ne _ _ b]
  exact hD.2.2
theorem Duo.make1 (hD : Duo T1 T2 k1 k2 s1 s2 h c1 z1 c2 z2 Λ ρ W) (hk : Λ k1 = false) (hd : k1 ≠ k2 ∧ k1 ≠ s1 ∧ k1 ≠ s2) (hr : RowAt T1 W' W.heap.size z1) (hb : Below W.heap.size W W') (hh : h ≤ W.heap.size) :
    Duo T1 T2 k1 k2 s1 s2 h c1 z1 c2 z2 (up Λ k1 true) (up ρ k1 (pt W.heap.size)) W' := by
  refine ⟨hD.1.make hk hd.2.1 hr hh, hD.2.1.stab (Ne.symm hd.1) (Ne.symm hd.2.2) hb, ?_⟩
  intro _ h2 e
  rw [up_ne _ _ (Ne.symm hd.1)] at h2
  rw [up_same, up_ne _ _ (Ne.symm hd.1)] at e
  obtain ⟨g, e1, _, e3⟩ := hD.2.1.2 h2
  have := pt_inj (e.trans e1)
  have := e3.lt
  omega
theorem Duo.make2 (hD : Duo T1 T2 k1 k2 s1 s2 h c1 z1 c2 z2 Λ ρ W) (hk : Λ k2 = false) (hd : k1 ≠ k2 ∧ k2 ≠ s1 ∧ k2 ≠ s2) (hr : RowAt T2 W' W.heap.size z2) (hb : Below W.heap.size W W') (hh : h ≤ W.heap.size) :
    Duo T1 T2 k1 k2 s1 s2 h c1 z1 c2 z2 (up Λ k2 true) (up ρ k2 (pt W.heap.size)) W' := by
  refine ⟨hD.1.stab hd.1 (Ne.symm hd.2.1) hb, hD.2.1.make hk hd.2.2 hr hh, ?_⟩
  intro h1 _ e
  rw [up_ne _ _ hd.1] at h1
  rw [up_same, up_ne _ _ hd.1] at e
  obtain ⟨g, e1, _, e3⟩ := hD.1.2 h1
  have := pt_inj (e1.symm.trans e)
  have := e3.lt
  omega
theorem Duo.put1 (hD : Duo T1 T2 k1 k2 s1 s2 h c1 z1 c2 z2 Λ ρ W) (hk : Λ k1 = true) (hd : k1 ≠ s1 ∧ k2 ≠ s1 ∧ s2 ≠ s1) {g : Nat} (he : ρ k1 = pt g) (hr : RowAt T1 W' g c1) (hg : W.grownBy W' (some g)) {v : Value} :
    Duo T1 T2 k1 k2 s1 s2 h c1 z1 c2 z2 (up Λ s1 true) (up ρ s1 v) W' := by
  refine ⟨One.put hk hd.1 he hr (hD.1.get hk he).2, hD.2.1.keep hd.2.1 hd.2.2 hg fun h2 e => hD.2.2 hk h2 (he.trans e.symm), ?_⟩
  rw [up_ne _ _ hd.1, up_ne _ _ hd.2.1, up_ne _ _ hd.1, up_ne _ _ hd.2.1]
  exact hD.2.2
theorem Duo.put2 (hD : Duo T1 T2 k1 k2 s1 s2 h c1 z1 c2 z2 Λ ρ W) (hk : Λ k2 = true) (hd : k2 ≠ s2 ∧ k1 ≠ s2 ∧ s1 ≠ s2) {g : Nat} (he : ρ k2 = pt g) (hr : RowAt T2 W' g c2) (hg : W.grownBy W' (some g)) {v : Value} :
    Duo T1 T2 k1 k2 s1 s2 h c1 z1 c2 z2 (up Λ s2 true) (up ρ s2 v) W' := by
  refine ⟨hD.1.keep hd.2.1 hd.2.2 hg fun h1 e => hD.2.2 h1 hk (e.trans he.symm), One.put hk hd.1 he hr (hD.2.1.get hk he).2, ?_⟩
  rw [up_ne _ _ hd.2.1, up_ne _ _ hd.1, up_ne _ _ hd.2.1, up_ne _ _ hd.1]
  exact hD.2.2
end
section
variable {P : Program} {ops : Array Oper} {l : List Value} {ds : List Deferred} {ov : List (Nat × Value)} {o : Oper}
theorem step_store_row {W : World} {good : Value → World → Prop} (hst : StO l ov) (hw : Region.wanted o (yO ops l ov) = true) (ty : TypeId) (x y : Operand) (ho : o.op = .store ty x y) {g : Nat} (hx : evalO l ov x = some (pt g)) {cs cur : Array Value} (hy : evalO l ov y = some (.agg cs))
    {T : TypeId} (hz : RowAt T W g cur) (hs : cs.size = cur.size) (hi : (P.info? ty).map (·.size) = some cs.size) (h1 : ∀ v ∈ cs.toList, v.oneCell' = true) (hg : ∀ W', RowAt T W' g cs → W.grownBy W' (some g) → good undef W') : stepG P ops o (fr l ds ov) W good := by
  have e1 := fr_eval (ds := ds) hst hx
  have e2 := fr_eval (ds := ds) hst hy
  refine step_runs hst hw (W' := W.setRow g cs) ?_ (hg _ (setRow_heap W g _ _ T _ hz) ⟨rfl, rfl, rfl, by simp, fun k _ hk => Go.setRow_other W g k _ (fun e => hk (by rw [e]))⟩)
  unfold execOp
  simp only [ho, e1, e2, pt, Instr.storeAt, Instr.sureAddr, Sem.run_bind, Sem.run_pure, Result.andThen_ok, run_storeVar_row W g T ty cur cs hz hs hi h1]
theorem step_alloc {W : World} {good : Value → World → Prop} (hst : StO l ov) (hw : Region.wanted o (yO ops l ov) = true) (T : TypeId) (ho : o.op = .alloc T) {v : Value} (hz : (P.info? T).bind (·.zero) = some v)
    (hg : ∀ W', RowAt T W' W.heap.size v.cells → Below W.heap.size W W' → W'.heap.size = W.heap.size + 1 → good (pt W.heap.size) W') : stepG P ops o (fr l ds ov) W good := by
  have hr : (Instr.alloc T true (.tuple #[])).run P W = .ok (.pointer (some ⟨W.heap.size, 0, none⟩)) (W.alloc (.cells v.cells T)) := by
    cases hq : P.info? T with
    | none => simp [hq] at hz
    | some ii =>
      have hz' : ii.zero = some v := by simpa [hq] using hz
      simp [Instr.alloc, zeroValue, typeInfo, hq, hz', newVar, newRow, newObj]; rfl
  refine step_run hst hw (u := pt W.heap.size) (W' := W.alloc (.cells v.cells T)) ?_ (hg _ (Go.heap_alloc_new W _) ((Below.refl _ _).alloc (Nat.le_refl _) _) (by simp))
  unfold execOp
  simp only [ho, Sem.run_bind, hr, Sem.run_pure]
  rfl
end
end Go.Proofs.Ytgnkhncogfppgaa
