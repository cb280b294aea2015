import Derived.Test.YtgnkhncogfppgaaQ5
namespace Go.Proofs.Ytgnkhncogfppgaa
open Go.RowKit
section
variable {P : Program} {ops : Array Oper} {rest : List Oper} {o : Oper} {w0 : World} {L : Act → Prop} {l l' : List Value} {ov : List (Nat × Value)} {ds : List Deferred} {d : Nat} {v : Value}
/-- A call of a function that stands in a slot. -/
theorem o_calld (hw : Region.wanted o (yO ops l ov) = true) (c : Operand) (f : FuncId) (xs : Array Operand) (ts : Array TypeId) (ho : o.op = .call { callee := .value c, args := xs, argTypes := ts }) (hcv : evalO l ov c = some (.func (.func f) #[] #[])) {vs : List Value} (hx : evalsO l ov xs.toList = some vs)
    {f' : FuncId} {as' : Array Value} (hc : ∀ W, Below w0.heap.size w0 W → Calls P f' as' W (Ret W v)) (hf : f' = f) (ha : as' = vs.toArray) (hd : o.dst = some d) (hl : Nat.blt d l.length = true)
    (hr : ∀ (ρ : Operand → Value) W, ρ c = .func (.func f) #[] #[] → (execOp ρ o).run P W = .ok (.enter f (xs.map ρ)) W) (h : LX P ops w0 L rest l ((d, v) :: ov) ds) : LX P ops w0 L (o :: rest) l ov ds := by
  intro hst
  have hx' := (evalsO_L hst xs.toList).trans hx
  have hcv' := (evalO_L hst c).trans hcv
  refine lex_call (by rw [yO_eq hst]; exact hw) (by simp [isNew, ho]) f vs.toArray (fun W => ?_) v (by subst hf; subst ha; exact hc) (o_put hd hl h hst)
  rw [hr _ W (evalL_eval hcv')]
  have hm := evalsL_map (ds := ds) hx'
  have he : xs.map (Act.mk (app l ov).toArray ds).eval = vs.toArray := by
    rw [← hm]
    cases xs
    simp
  rw [he]
end
end Go.Proofs.Ytgnkhncogfppgaa
