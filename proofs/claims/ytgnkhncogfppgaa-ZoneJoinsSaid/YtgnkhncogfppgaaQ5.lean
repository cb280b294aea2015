import Derived.Test.YtgnkhncogfppgaaQ4
/-!
The steps of a head, the frame kept as a list and what was put into it since: a step costs what it looks at.
-/
namespace Go.Proofs.Ytgnkhncogfppgaa
open Go.RowKit
def app (l : List Value) : List (Nat × Value) → List Value
  | [] => l
  | (d, v) :: ov => (app l ov).set d v
def lk (l : List Value) : List (Nat × Value) → Nat → Option Value
  | [], t => l[t]?
  | (d, v) :: ov, t => match Nat.beq t d with
    | true => some v
    | false => lk l ov t
def StO (l : List Value) (ov : List (Nat × Value)) : Prop := ∀ p ∈ ov, p.1 < l.length
theorem app_length (l : List Value) : ∀ ov, (app l ov).length = l.length
  | [] => rfl
  | (d, v) :: ov => by simp [app, app_length l ov]
theorem lk_app {l : List Value} : ∀ {ov : List (Nat × Value)}, StO l ov → ∀ t, (app l ov)[t]? = lk l ov t
  | [], _, t => rfl
  | (d, v) :: ov, h, t => by
    have h1 : StO l ov := fun p hp => h p (by simp [hp])
    have h2 : d < l.length := h (d, v) (by simp)
    simp only [app, lk]
    cases hb : Nat.beq t d with
    | true =>
      obtain rfl : t = d := Nat.eq_of_beq_eq_true hb
      rw [List.getElem?_set_self (by rw [app_length]; exact h2)]
    | false =>
      have hne : t ≠ d := Nat.ne_of_beq_eq_false hb
      rw [List.getElem?_set_ne (Ne.symm hne)]
      exact lk_app h1 t
def evalO (l : List Value) (ov : List (Nat × Value)) : Operand → Option Value
  | .tmp t => lk l ov t
  | .const v => some v
  | .global g => some (.pointer (some ⟨g, 0, none⟩))
  | .func f => some (.func (.func f) #[] #[])
def evalsO (l : List Value) (ov : List (Nat × Value)) : List Operand → Option (List Value)
  | [] => some []
  | x :: xs => match evalO l ov x, evalsO l ov xs with
    | some v, some vs => some (v :: vs)
    | _, _ => none
theorem evalO_L {l : List Value} {ov : List (Nat × Value)} (h : StO l ov) (x : Operand) : evalL (app l ov) x = evalO l ov x := by
  cases x with
  | tmp t => exact lk_app h t
  | _ => rfl
theorem evalsO_L {l : List Value} {ov : List (Nat × Value)} (h : StO l ov) : ∀ xs, evalsL (app l ov) xs = evalsO l ov xs
  | [] => rfl
  | x :: xs => by
    simp only [evalsL, evalsO, evalO_L h x, evalsO_L h xs]
    cases evalO l ov x <;> cases evalsO l ov xs <;> rfl
def yO (ops : Array Oper) (l : List Value) (ov : List (Nat × Value)) (j : Nat) : Option Bool :=
  match ((ops[j]?).bind (·.dst)).bind (lk l ov) with
  | some (.bool b) => some b
  | _ => none
theorem yO_eq {ops : Array Oper} {l : List Value} {ov : List (Nat × Value)} (h : StO l ov) : yielded ops (app l ov).toArray = yO ops l ov := by
  funext j
  unfold yielded yO
  have : (fun t => (app l ov).toArray[t]?) = lk l ov := by funext t; rw [← lk_app h t]; simp
  rw [this]
  rcases ((ops[j]?.bind fun x => x.dst).bind (lk l ov)) with _ | v
  · rfl
  · cases v <;> rfl
/-- The head from here on. -/
def LX (P : Program) (ops : Array Oper) (w0 : World) (L : Act → Prop) (rest : List Oper) (l : List Value) (ov : List (Nat × Value)) (ds : List Deferred) : Prop :=
  StO l ov → lexQ P ops w0 L rest ⟨(app l ov).toArray, ds⟩
section
variable {P : Program} {ops : Array Oper} {rest : List Oper} {o : Oper} {w0 : World} {L : Act → Prop} {l : List Value} {ov : List (Nat × Value)} {ds : List Deferred} {d : Nat} {v : Value}
theorem o_start (h : LX P ops w0 L rest l [] ds) : lexQ P ops w0 L rest ⟨l.toArray, ds⟩ := h (fun p hp => by cases hp)
theorem o_end (h : L ⟨(app l ov).toArray, ds⟩) : LX P ops w0 L [] l ov ds := fun _ => h
theorem o_put (hd : o.dst = some d) (hl : Nat.blt d l.length = true) (h : LX P ops w0 L rest l ((d, v) :: ov) ds) (hst : StO l ov) : lexQ P ops w0 L rest ((Act.mk (app l ov).toArray ds).put o.dst v) := by
  have hlt : d < l.length := by simpa [Nat.blt_eq] using hl
  exact put_l hd rfl (h fun p hp => by
    rcases List.mem_cons.1 hp with rfl | hp
    · exact hlt
    · exact hst p hp)
theorem o_skip (hw : Region.wanted o (yO ops l ov) = false) (hd : o.dst = some d) (hl : Nat.blt d l.length = true) (h : LX P ops w0 L rest l ((d, undef) :: ov) ds) : LX P ops w0 L (o :: rest) l ov ds :=
  fun hst => lex_skip (by rw [yO_eq hst]; exact hw) (o_put hd hl h hst)
theorem o_have (hw : Region.wanted o (yO ops l ov) = true) (h : Hid (Region.wanted o (yO ops l ov) = true) → LX P ops w0 L (o :: rest) l ov ds) : LX P ops w0 L (o :: rest) l ov ds := h hw
theorem o_new (hw : Region.wanted o (yO ops l ov) = true) (hn : isNew o = true) (hd : o.dst = some d) (hl : Nat.blt d l.length = true) (h : LX P ops w0 L rest l ((d, undef) :: ov) ds) : LX P ops w0 L (o :: rest) l ov ds :=
  fun hst => lex_new (by rw [yO_eq hst]; exact hw) hn (o_put hd hl h hst)
theorem o_move (hw : Region.wanted o (yO ops l ov) = true) (x : Operand) (ho : o.op = .move x) (hx : evalO l ov x = some v) (hd : o.dst = some d) (hl : Nat.blt d l.length = true) (h : LX P ops w0 L rest l ((d, v) :: ov) ds) : LX P ops w0 L (o :: rest) l ov ds :=
  fun hst => lex_move (by rw [yO_eq hst]; exact hw) x ho (by rw [evalL_eval ((evalO_L hst x).trans hx)]; exact o_put hd hl h hst)
theorem o_assign (hw : Region.wanted o (yO ops l ov) = true) (x : Operand) (ho : o.op = .assign x) (hx : evalO l ov x = some v) (hd : o.dst = some d) (hl : Nat.blt d l.length = true) (h : LX P ops w0 L rest l ((d, v) :: ov) ds) : LX P ops w0 L (o :: rest) l ov ds :=
  fun hst => lex_assign (by rw [yO_eq hst]; exact hw) x ho (by rw [evalL_eval ((evalO_L hst x).trans hx)]; exact o_put hd hl h hst)
theorem o_pickT (hw : Region.wanted o (yO ops l ov) = true) (c x y : Operand) (ho : o.op = .pick c x y) (hc : evalO l ov c = some (.bool true)) (hx : evalO l ov x = some v) (hd : o.dst = some d) (hl : Nat.blt d l.length = true)
    (h : LX P ops w0 L rest l ((d, v) :: ov) ds) : LX P ops w0 L (o :: rest) l ov ds :=
  fun hst => l_pickT (by rw [yO_eq hst]; exact hw) c x y ho ((evalO_L hst c).trans hc) ((evalO_L hst x).trans hx) hd rfl (h fun p hp => by
    rcases List.mem_cons.1 hp with rfl | hp
    · simpa [Nat.blt_eq] using hl
    · exact hst p hp)
theorem o_pickF (hw : Region.wanted o (yO ops l ov) = true) (c x y : Operand) (ho : o.op = .pick c x y) (hc : evalO l ov c = some (.bool false)) (hy : evalO l ov y = some v) (hd : o.dst = some d) (hl : Nat.blt d l.length = true)
    (h : LX P ops w0 L rest l ((d, v) :: ov) ds) : LX P ops w0 L (o :: rest) l ov ds :=
  fun hst => l_pickF (by rw [yO_eq hst]; exact hw) c x y ho ((evalO_L hst c).trans hc) ((evalO_L hst y).trans hy) hd rfl (h fun p hp => by
    rcases List.mem_cons.1 hp with rfl | hp
    · simpa [Nat.blt_eq] using hl
    · exact hst p hp)
theorem o_st (hl : Nat.blt d l.length = true) (hst : StO l ov) : StO l ((d, v) :: ov) := fun p hp => by
  rcases List.mem_cons.1 hp with rfl | hp
  · simpa [Nat.blt_eq] using hl
  · exact hst p hp
theorem o_bin (hw : Region.wanted o (yO ops l ov) = true) (op : BinOp) (t t' : TypeId) (x y : Operand) (ho : o.op = .binOp op t x y t') {vx vy : Value} (hx : evalO l ov x = some vx) (hy : evalO l ov y = some vy) (hd : o.dst = some d) (hl : Nat.blt d l.length = true)
    (hr : ∀ W, (do eqGuard op t x y vx vy; binOp op t vx vy : Sem Value).run P W = .ok v W) (h : LX P ops w0 L rest l ((d, v) :: ov) ds) : LX P ops w0 L (o :: rest) l ov ds :=
  fun hst => l_bin (by rw [yO_eq hst]; exact hw) op t t' x y ho ((evalO_L hst x).trans hx) ((evalO_L hst y).trans hy) hd hr rfl (h (o_st hl hst))
theorem o_un (hw : Region.wanted o (yO ops l ov) = true) (op : UnOp) (t : TypeId) (x : Operand) (ho : o.op = .unOp op t x) {vx : Value} (hx : evalO l ov x = some vx) (hd : o.dst = some d) (hl : Nat.blt d l.length = true)
    (hr : ∀ W, (Op.unary op vx).run P W = .ok v W) (h : LX P ops w0 L rest l ((d, v) :: ov) ds) : LX P ops w0 L (o :: rest) l ov ds :=
  fun hst => l_un (by rw [yO_eq hst]; exact hw) op t x ho ((evalO_L hst x).trans hx) hd hr rfl (h (o_st hl hst))
theorem o_conv (hw : Region.wanted o (yO ops l ov) = true) (s t : TypeId) (x : Operand) (ho : o.op = .convert s t x) {vx : Value} (hx : evalO l ov x = some vx) (hd : o.dst = some d) (hl : Nat.blt d l.length = true)
    (hr : ∀ W, (convert s t vx).run P W = .ok v W) (h : LX P ops w0 L rest l ((d, v) :: ov) ds) : LX P ops w0 L (o :: rest) l ov ds :=
  fun hst => l_conv (by rw [yO_eq hst]; exact hw) s t x ho ((evalO_L hst x).trans hx) hd hr rfl (h (o_st hl hst))
theorem o_field (hw : Region.wanted o (yO ops l ov) = true) (s : TypeId) (x : Operand) (f : Nat) (ho : o.op = .fieldAddr s x f) {vx : Value} (hx : evalO l ov x = some vx) (hd : o.dst = some d) (hl : Nat.blt d l.length = true)
    (hr : ∀ W, (Instr.fieldAt s vx f).run P W = .ok v W) (h : LX P ops w0 L rest l ((d, v) :: ov) ds) : LX P ops w0 L (o :: rest) l ov ds :=
  fun hst => l_field (by rw [yO_eq hst]; exact hw) s x f ho ((evalO_L hst x).trans hx) hd hr rfl (h (o_st hl hst))
theorem o_index (hw : Region.wanted o (yO ops l ov) = true) (t : TypeId) (x y : Operand) (ho : o.op = .indexAddr t x y) {vx vy : Value} (hx : evalO l ov x = some vx) (hy : evalO l ov y = some vy) (hd : o.dst = some d) (hl : Nat.blt d l.length = true)
    (hr : ∀ W, (Instr.indexAt t vx vy).run P W = .ok v W) (h : LX P ops w0 L rest l ((d, v) :: ov) ds) : LX P ops w0 L (o :: rest) l ov ds :=
  fun hst => l_index (by rw [yO_eq hst]; exact hw) t x y ho ((evalO_L hst x).trans hx) ((evalO_L hst y).trans hy) hd hr rfl (h (o_st hl hst))
theorem o_call (hw : Region.wanted o (yO ops l ov) = true) (f : FuncId) (xs : Array Operand) (ts : Array TypeId) (ho : o.op = .call { callee := .value (.func f), args := xs, argTypes := ts }) {vs : List Value} (hx : evalsO l ov xs.toList = some vs)
    {f' : FuncId} {as' : Array Value} (hc : ∀ W, Below w0.heap.size w0 W → Calls P f' as' W (Ret W v)) (hf : f' = f) (ha : as' = vs.toArray) (hd : o.dst = some d) (hl : Nat.blt d l.length = true)
    (hr : ∀ (ρ : Operand → Value) W, ρ (.func f) = .func (.func f) #[] #[] → (execOp ρ o).run P W = .ok (.enter f (xs.map ρ)) W) (h : LX P ops w0 L rest l ((d, v) :: ov) ds) : LX P ops w0 L (o :: rest) l ov ds :=
  fun hst => l_call (by rw [yO_eq hst]; exact hw) f xs ts ho ((evalsO_L hst _).trans hx) hc hf ha hd hr rfl (h (o_st hl hst))
theorem o_loadc (hw : Region.wanted o (yO ops l ov) = true) (ty : TypeId) (x : Operand) (ho : o.op = .load ty x) {g k : Nat} (hx : evalO l ov x = some (.pointer (some ⟨g, k, none⟩))) (hz : w0.cell? ⟨g, k, none⟩ = some v) (hd : o.dst = some d) (hl : Nat.blt d l.length = true)
    {de : TypeDesc} (hu : P.underlying ty = some de) (hde : (match de with | .struct _ | .array _ _ => true | _ => false) = false) (h : LX P ops w0 L rest l ((d, v) :: ov) ds) : LX P ops w0 L (o :: rest) l ov ds :=
  fun hst => l_loadc (by rw [yO_eq hst]; exact hw) ty x ho ((evalO_L hst x).trans hx) hz hd hu (by cases de <;> simp_all) rfl (h (o_st hl hst))
end
section
variable {ops : Array Oper} {rest : List Oper} {o : Oper} {w0 : World} {L : Act → Prop} {l : List Value} {ov : List (Nat × Value)} {ds : List Deferred} {d : Nat} {v : Value} {g : Nat} {T : TypeId} {n : Int} {b : Bool} {D : Mat}
theorem o_load_z (hw : Region.wanted o (yO ops l ov) = true) (x : Operand) (ho : o.op = .load 26 x) (hx : evalO l ov x = some (.pointer (some ⟨g, 0, none⟩))) (hz : ZAt T w0 g n b D) (hd : o.dst = some d) (hl : Nat.blt d l.length = true)
    (h : LX Try.prog ops w0 L rest l ((d, .agg (zc n b D)) :: ov) ds) : LX Try.prog ops w0 L (o :: rest) l ov ds :=
  fun hst => l_load_z (by rw [yO_eq hst]; exact hw) x ho ((evalO_L hst x).trans hx) hz hd rfl (h (o_st hl hst))
theorem o_load_r (hw : Region.wanted o (yO ops l ov) = true) (x : Operand) (ho : o.op = .load 38 x) (hx : evalO l ov x = some (.pointer (some ⟨g, 0, none⟩))) (hz : ZAt T w0 g n b D) (hd : o.dst = some d) (hl : Nat.blt d l.length = true)
    (h : LX Try.prog ops w0 L rest l ((d, .agg (zc n b D)) :: ov) ds) : LX Try.prog ops w0 L (o :: rest) l ov ds :=
  fun hst => l_load_r (by rw [yO_eq hst]; exact hw) x ho ((evalO_L hst x).trans hx) hz hd rfl (h (o_st hl hst))
theorem o_load_i (hw : Region.wanted o (yO ops l ov) = true) (x : Operand) (ho : o.op = .load 32 x) (hx : evalO l ov x = some (.pointer (some ⟨g, 0, none⟩))) {lo hi : Int} (hz : RowAt T w0 g (ic lo hi)) (hd : o.dst = some d) (hl : Nat.blt d l.length = true)
    (h : LX Try.prog ops w0 L rest l ((d, .agg (ic lo hi)) :: ov) ds) : LX Try.prog ops w0 L (o :: rest) l ov ds :=
  fun hst => l_load_i (by rw [yO_eq hst]; exact hw) x ho ((evalO_L hst x).trans hx) hz hd rfl (h (o_st hl hst))
theorem o_load_row (hw : Region.wanted o (yO ops l ov) = true) (ty : TypeId) (x : Operand) (ho : o.op = .load ty x) (hx : evalO l ov x = some (.pointer (some ⟨g, 0, none⟩))) {cs : Array Value} (hz : RowAt T w0 g cs) {de : TypeDesc} (hu : Try.prog.underlying ty = some de)
    (hde : (match de with | .struct _ | .array _ _ => true | _ => false) = true) (hi : (Try.prog.info? ty).map (·.size) = some cs.size) (hd : o.dst = some d) (hl : Nat.blt d l.length = true)
    (h : LX Try.prog ops w0 L rest l ((d, .agg cs) :: ov) ds) : LX Try.prog ops w0 L (o :: rest) l ov ds :=
  fun hst => l_load_row (by rw [yO_eq hst]; exact hw) ty x ho ((evalO_L hst x).trans hx) hz hu (by cases de <;> simp_all) hi hd rfl (h (o_st hl hst))
end
/-- A head that makes one variable: the operation told by its number, its slot and its type. -/
theorem head1z {P : Program} {id : Nat} {Q : Exit → Act → World → Prop} {a : Act} {w : World} {l : List Oper} (n : Nat) (hm : P.follows .mixedOrders = true) (hB : Region.lexTailB .any l.toArray n = true) (hN : newsB P l.toArray n = true) (k : Nat) (h1 : newsIn l.toArray n = [k])
    (d : Nat) (T : TypeId) (hk : ((l[k]?).bind fun o => match o.op with | .alloc T' => if T' = T then o.dst else none | _ => none) = some d) (v : Value) (hv : (P.info? T).bind (·.zero) = some v)
    (h : lexQ P l.toArray w (fun a' => ∀ w' r, Below w.heap.size w w' → w.heap.size ≤ r → RowAt T w' r v.cells → wpList P l.toArray Q (l.drop n) (a'.put (some d) (.pointer (some ⟨r, 0, none⟩))) w') (l.take n) a) :
    (Code.region id l.toArray true).wp P Q a w := by
  cases ho : l[k]? with
  | none => rw [ho] at hk; cases hk
  | some o =>
    rw [ho] at hk
    simp only [Option.bind_some] at hk
    split at hk
    · rename_i T' hop
      split at hk
      · rename_i hT
        subst hT
        refine head1 n hm hB hN k h1 o (by simpa using ho) T' hop v hv ?_
        rw [hk]
        exact h
      · cases hk
    · cases hk
end Go.Proofs.Ytgnkhncogfppgaa
