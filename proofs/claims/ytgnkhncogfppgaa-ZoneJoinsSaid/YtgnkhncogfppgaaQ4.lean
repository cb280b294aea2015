import Derived.Test.YtgnkhncogfppgaaQ3
/-!
The steps of a head once more, for a frame that is written out: each step looks at its own operands alone.
-/
namespace Go.Proofs.Ytgnkhncogfppgaa
open Go.RowKit
def evalL (l : List Value) : Operand → Option Value
  | .tmp t => l[t]?
  | .const v => some v
  | .global g => some (.pointer (some ⟨g, 0, none⟩))
  | .func f => some (.func (.func f) #[] #[])
def evalsL (l : List Value) : List Operand → Option (List Value)
  | [] => some []
  | x :: xs => match evalL l x, evalsL l xs with
    | some v, some vs => some (v :: vs)
    | _, _ => none
theorem evalL_eval {l : List Value} {ds} {x : Operand} {v : Value} (h : evalL l x = some v) : (Act.mk l.toArray ds).eval x = v := by
  cases x with
  | tmp t => simp only [evalL] at h; simp [Act.eval, h]
  | const u => simp only [evalL, Option.some.injEq] at h; exact h
  | global g => simp only [evalL, Option.some.injEq] at h; exact h
  | func f => simp only [evalL, Option.some.injEq] at h; exact h
theorem evalsL_map {l : List Value} {ds} : ∀ {xs : List Operand} {vs : List Value}, evalsL l xs = some vs → xs.map (Act.mk l.toArray ds).eval = vs
  | [], vs, h => by simp only [evalsL, Option.some.injEq] at h; exact h
  | x :: xs, vs, h => by
    simp only [evalsL] at h
    split at h
    · rename_i v ws h1 h2
      simp only [Option.some.injEq] at h
      rw [List.map_cons, evalL_eval h1, evalsL_map h2, h]
    · cases h
section
variable {P : Program} {ops : Array Oper} {rest : List Oper} {o : Oper} {w0 : World} {L : Act → Prop} {l l' : List Value} {ds : List Deferred} {d : Nat} {v : Value}
theorem put_l (hd : o.dst = some d) (hs : l.set d v = l') (h : lexQ P ops w0 L rest ⟨l'.toArray, ds⟩) : lexQ P ops w0 L rest ((Act.mk l.toArray ds).put o.dst v) := by
  rw [hd]
  have e : (Act.mk l.toArray ds).put (some d) v = ⟨l'.toArray, ds⟩ := by rw [← hs]; simp [Act.put]
  rw [e]; exact h
theorem l_skip (hw : Region.wanted o (yielded ops l.toArray) = false) (hd : o.dst = some d) (hs : l.set d undef = l') (h : lexQ P ops w0 L rest ⟨l'.toArray, ds⟩) : lexQ P ops w0 L (o :: rest) ⟨l.toArray, ds⟩ :=
  lex_skip hw (put_l hd hs h)
theorem l_have (hw : Region.wanted o (yielded ops l.toArray) = true) (h : Hid (Region.wanted o (yielded ops l.toArray) = true) → lexQ P ops w0 L (o :: rest) ⟨l.toArray, ds⟩) : lexQ P ops w0 L (o :: rest) ⟨l.toArray, ds⟩ := h hw
theorem l_move (hw : Region.wanted o (yielded ops l.toArray) = true) (x : Operand) (ho : o.op = .move x) (hx : evalL l x = some v) (hd : o.dst = some d) (hs : l.set d v = l') (h : lexQ P ops w0 L rest ⟨l'.toArray, ds⟩) :
    lexQ P ops w0 L (o :: rest) ⟨l.toArray, ds⟩ :=
  lex_move hw x ho (by rw [evalL_eval hx]; exact put_l hd hs h)
theorem l_assign (hw : Region.wanted o (yielded ops l.toArray) = true) (x : Operand) (ho : o.op = .assign x) (hx : evalL l x = some v) (hd : o.dst = some d) (hs : l.set d v = l') (h : lexQ P ops w0 L rest ⟨l'.toArray, ds⟩) :
    lexQ P ops w0 L (o :: rest) ⟨l.toArray, ds⟩ :=
  lex_assign hw x ho (by rw [evalL_eval hx]; exact put_l hd hs h)
theorem l_pickT (hw : Region.wanted o (yielded ops l.toArray) = true) (c x y : Operand) (ho : o.op = .pick c x y) (hc : evalL l c = some (.bool true)) (hx : evalL l x = some v) (hd : o.dst = some d) (hs : l.set d v = l')
    (h : lexQ P ops w0 L rest ⟨l'.toArray, ds⟩) : lexQ P ops w0 L (o :: rest) ⟨l.toArray, ds⟩ :=
  lex_pure hw (by simp [isNew, ho]) v (fun W => by unfold execOp; simp only [ho, evalL_eval hc, evalL_eval hx]; rfl) (put_l hd hs h)
theorem l_pickF (hw : Region.wanted o (yielded ops l.toArray) = true) (c x y : Operand) (ho : o.op = .pick c x y) (hc : evalL l c = some (.bool false)) (hy : evalL l y = some v) (hd : o.dst = some d) (hs : l.set d v = l')
    (h : lexQ P ops w0 L rest ⟨l'.toArray, ds⟩) : lexQ P ops w0 L (o :: rest) ⟨l.toArray, ds⟩ :=
  lex_pure hw (by simp [isNew, ho]) v (fun W => by unfold execOp; simp only [ho, evalL_eval hc, evalL_eval hy]; rfl) (put_l hd hs h)
theorem l_bin (hw : Region.wanted o (yielded ops l.toArray) = true) (op : BinOp) (t t' : TypeId) (x y : Operand) (ho : o.op = .binOp op t x y t') {vx vy : Value} (hx : evalL l x = some vx) (hy : evalL l y = some vy) (hd : o.dst = some d)
    (hr : ∀ W, (do eqGuard op t x y vx vy; binOp op t vx vy : Sem Value).run P W = .ok v W) (hs : l.set d v = l') (h : lexQ P ops w0 L rest ⟨l'.toArray, ds⟩) : lexQ P ops w0 L (o :: rest) ⟨l.toArray, ds⟩ :=
  lex_pure hw (by simp [isNew, ho]) v (fun W => by
    unfold execOp
    simp only [ho, evalL_eval hx, evalL_eval hy]
    have := hr W
    rw [Sem.run_bind, this]; rfl) (put_l hd hs h)
theorem l_un (hw : Region.wanted o (yielded ops l.toArray) = true) (op : UnOp) (t : TypeId) (x : Operand) (ho : o.op = .unOp op t x) {vx : Value} (hx : evalL l x = some vx) (hd : o.dst = some d)
    (hr : ∀ W, (Op.unary op vx).run P W = .ok v W) (hs : l.set d v = l') (h : lexQ P ops w0 L rest ⟨l'.toArray, ds⟩) : lexQ P ops w0 L (o :: rest) ⟨l.toArray, ds⟩ :=
  lex_pure hw (by simp [isNew, ho]) v (fun W => by
    unfold execOp
    simp only [ho, evalL_eval hx]
    rw [Sem.run_bind, hr W]; rfl) (put_l hd hs h)
theorem l_conv (hw : Region.wanted o (yielded ops l.toArray) = true) (s t : TypeId) (x : Operand) (ho : o.op = .convert s t x) {vx : Value} (hx : evalL l x = some vx) (hd : o.dst = some d)
    (hr : ∀ W, (convert s t vx).run P W = .ok v W) (hs : l.set d v = l') (h : lexQ P ops w0 L rest ⟨l'.toArray, ds⟩) : lexQ P ops w0 L (o :: rest) ⟨l.toArray, ds⟩ :=
  lex_pure hw (by simp [isNew, ho]) v (fun W => by
    unfold execOp
    simp only [ho, evalL_eval hx]
    rw [Sem.run_bind, hr W]; rfl) (put_l hd hs h)
theorem l_field (hw : Region.wanted o (yielded ops l.toArray) = true) (s : TypeId) (x : Operand) (f : Nat) (ho : o.op = .fieldAddr s x f) {vx : Value} (hx : evalL l x = some vx) (hd : o.dst = some d)
    (hr : ∀ W, (Instr.fieldAt s vx f).run P W = .ok v W) (hs : l.set d v = l') (h : lexQ P ops w0 L rest ⟨l'.toArray, ds⟩) : lexQ P ops w0 L (o :: rest) ⟨l.toArray, ds⟩ :=
  lex_pure hw (by simp [isNew, ho]) v (fun W => by
    unfold execOp
    simp only [ho, evalL_eval hx]
    rw [Sem.run_bind, hr W]; rfl) (put_l hd hs h)
theorem l_index (hw : Region.wanted o (yielded ops l.toArray) = true) (t : TypeId) (x y : Operand) (ho : o.op = .indexAddr t x y) {vx vy : Value} (hx : evalL l x = some vx) (hy : evalL l y = some vy) (hd : o.dst = some d)
    (hr : ∀ W, (Instr.indexAt t vx vy).run P W = .ok v W) (hs : l.set d v = l') (h : lexQ P ops w0 L rest ⟨l'.toArray, ds⟩) : lexQ P ops w0 L (o :: rest) ⟨l.toArray, ds⟩ :=
  lex_pure hw (by simp [isNew, ho]) v (fun W => by
    unfold execOp
    simp only [ho, evalL_eval hx, evalL_eval hy]
    rw [Sem.run_bind, hr W]; rfl) (put_l hd hs h)
/-- A call of a function that changes nothing that is there. -/
theorem l_call (hw : Region.wanted o (yielded ops l.toArray) = true) (f : FuncId) (xs : Array Operand) (ts : Array TypeId) (ho : o.op = .call { callee := .value (.func f), args := xs, argTypes := ts }) {vs : List Value} (hx : evalsL l xs.toList = some vs)
    {f' : FuncId} {as' : Array Value} (hc : ∀ W, Below w0.heap.size w0 W → Calls P f' as' W (Ret W v)) (hf : f' = f) (ha : as' = vs.toArray) (hd : o.dst = some d)
    (hr : ∀ (ρ : Operand → Value) W, ρ (.func f) = .func (.func f) #[] #[] → (execOp ρ o).run P W = .ok (.enter f (xs.map ρ)) W) (hs : l.set d v = l') (h : lexQ P ops w0 L rest ⟨l'.toArray, ds⟩) : lexQ P ops w0 L (o :: rest) ⟨l.toArray, ds⟩ :=
  lex_call hw (by simp [isNew, ho]) f vs.toArray (fun W => by
    subst hf; subst ha
    rw [hr _ W rfl]
    have hm := evalsL_map (ds := ds) hx
    have he : xs.map (Act.mk l.toArray ds).eval = vs.toArray := by
      rw [← hm]
      cases xs
      simp
    rw [he]) v (by subst hf; subst ha; exact hc) (put_l hd hs h)
theorem l_loadc (hw : Region.wanted o (yielded ops l.toArray) = true) (ty : TypeId) (x : Operand) (ho : o.op = .load ty x) {g k : Nat} (hx : evalL l x = some (.pointer (some ⟨g, k, none⟩))) (hz : w0.cell? ⟨g, k, none⟩ = some v) (hd : o.dst = some d)
    {de : TypeDesc} (hu : P.underlying ty = some de) (hde : (match de with | .struct _ | .array _ _ => true | _ => false) = false) (hs : l.set d v = l') (h : lexQ P ops w0 L rest ⟨l'.toArray, ds⟩) : lexQ P ops w0 L (o :: rest) ⟨l.toArray, ds⟩ :=
  lex_load_cell hw ty x ho g k (evalL_eval hx) de hu (by cases de <;> simp_all) hz (put_l hd hs h)
end
section
variable {ops : Array Oper} {rest : List Oper} {o : Oper} {w0 : World} {L : Act → Prop} {l l' : List Value} {ds : List Deferred} {d : Nat} {v : Value} {g : Nat} {T : TypeId} {n : Int} {b : Bool} {D : Mat}
theorem l_load_z (hw : Region.wanted o (yielded ops l.toArray) = true) (x : Operand) (ho : o.op = .load 26 x) (hx : evalL l x = some (.pointer (some ⟨g, 0, none⟩))) (hz : ZAt T w0 g n b D) (hd : o.dst = some d)
    (hs : l.set d (.agg (zc n b D)) = l') (h : lexQ Try.prog ops w0 L rest ⟨l'.toArray, ds⟩) : lexQ Try.prog ops w0 L (o :: rest) ⟨l.toArray, ds⟩ :=
  lex_load_z hw x ho (evalL_eval hx) hz (put_l hd hs h)
theorem l_load_r (hw : Region.wanted o (yielded ops l.toArray) = true) (x : Operand) (ho : o.op = .load 38 x) (hx : evalL l x = some (.pointer (some ⟨g, 0, none⟩))) (hz : ZAt T w0 g n b D) (hd : o.dst = some d)
    (hs : l.set d (.agg (zc n b D)) = l') (h : lexQ Try.prog ops w0 L rest ⟨l'.toArray, ds⟩) : lexQ Try.prog ops w0 L (o :: rest) ⟨l.toArray, ds⟩ :=
  lex_load_r hw x ho (evalL_eval hx) hz (put_l hd hs h)
theorem l_load_i (hw : Region.wanted o (yielded ops l.toArray) = true) (x : Operand) (ho : o.op = .load 32 x) (hx : evalL l x = some (.pointer (some ⟨g, 0, none⟩))) {lo hi : Int} (hz : RowAt T w0 g (ic lo hi)) (hd : o.dst = some d)
    (hs : l.set d (.agg (ic lo hi)) = l') (h : lexQ Try.prog ops w0 L rest ⟨l'.toArray, ds⟩) : lexQ Try.prog ops w0 L (o :: rest) ⟨l.toArray, ds⟩ :=
  lex_load_i hw x ho (evalL_eval hx) hz (put_l hd hs h)
theorem l_load_row (hw : Region.wanted o (yielded ops l.toArray) = true) (ty : TypeId) (x : Operand) (ho : o.op = .load ty x) (hx : evalL l x = some (.pointer (some ⟨g, 0, none⟩))) {cs : Array Value} (hz : RowAt T w0 g cs) {de : TypeDesc} (hu : Try.prog.underlying ty = some de)
    (hde : (match de with | .struct _ | .array _ _ => true | _ => false) = true) (hi : (Try.prog.info? ty).map (·.size) = some cs.size) (hd : o.dst = some d)
    (hs : l.set d (.agg cs) = l') (h : lexQ Try.prog ops w0 L rest ⟨l'.toArray, ds⟩) : lexQ Try.prog ops w0 L (o :: rest) ⟨l.toArray, ds⟩ :=
  lex_load_row hw ty x ho g (evalL_eval hx) de hu (by cases de <;> simp_all) hz hi (put_l hd hs h)
end
end Go.Proofs.Ytgnkhncogfppgaa
