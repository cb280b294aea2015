import Derived.Test.YtgnkhncogfppgaaQ8
namespace Go.Proofs.Ytgnkhncogfppgaa
open Go.RowKit
def canon (s n : Nat) : Array Bool := (List.replicate n true ++ List.replicate (s - n) false).toArray
def tailB (ops : Array Oper) (n : Nat) : Bool :=
  (Nat.beq n ops.size || (Nat.blt n ops.size && Region.sinkB .any ops n && Region.chainB .any ops n)) && Region.seqB .any ops (ops.size - n) n (canon ops.size n)
/-- What stands behind the head. -/
def EndG (P : Program) (ops : Array Oper) (Q : Exit → Act → World → Prop) (n h : Nat) (w0 : World) (l : List Value) (ds : List Deferred) (Ψ : (Nat → Bool) → (Nat → Value) → World → Prop) (tl : List Oper) (ov : List (Nat × Value)) : Prop :=
  ∀ W Λ ρ, Below h w0 W → Ψ Λ ρ W → (∀ k, k < n → Λ k = true) → (∀ k o d, k < n → ops[k]? = some o → o.dst = some d → lk l ov d = some (ρ k)) → wpList P ops Q tl (fr l ds ov) W
section
variable {P : Program} {w0 : World} {h : Nat} {l : List Value} {ds : List Deferred} {Sx : Nat → Bool} {Ψ : (Nat → Bool) → (Nat → Value) → World → Prop} {Q : Exit → Act → World → Prop}
theorem LG_any {os : List Oper} {n : Nat} {Ss : List Sp} (hok : HeadOK os.toArray n l.length) (hT : tailB os.toArray n = true) (hh : h ≤ w0.heap.size)
    (stab : ∀ Λ ρ W W' k v, Sx k = false → Below W.heap.size W W' → h ≤ W.heap.size → Ψ Λ ρ W → Ψ (up Λ k true) (up ρ k v) W')
    (hLG : LG P os.toArray w0 h l ds Sx Ψ (EndG P os.toArray Q n h w0 l ds Ψ (os.drop n)) 0 (os.take n) Ss []) : ∀ (f : Nat) (listed : Array Bool) (a : Act) (W : World) (ρ : Nat → Value), GInv os.toArray w0 h l ds Ψ n Ss listed a W ρ → cntU listed n = f →
      wpAny P .any os.toArray Q (f + (os.length - n)) listed a W := by
  simp only [tailB, Bool.and_eq_true, Bool.or_eq_true, List.size_toArray, Nat.blt_eq] at hT
  obtain ⟨hT1, hseq⟩ := hT
  have hns : n ≤ os.length := by
    rcases hT1 with h1 | ⟨⟨h1, _⟩, _⟩
    · exact Nat.le_of_eq (Nat.eq_of_beq_eq_true h1)
    · exact Nat.le_of_lt h1
  have hhd : ∀ j, j < n → (os.take n)[j]? = os.toArray[j]? := fun j hj => by rw [List.getElem?_take, if_pos hj]; simp
  have hlen : (os.take n).length = n := by simp; omega
  have hlS := LG_len hLG
  intro f
  induction f with
  | zero =>
    intro listed a W ρ inv hc
    have hall := cntU_zero hc
    have hcan : listed = canon os.length n := by
      refine Array.ext (by rw [inv.hi.size]; simp [canon]; omega) fun i h1 h2 => ?_
      have hsz : listed.size = os.length := by rw [inv.hi.size]; simp
      by_cases hi : i < n
      · have := hall i hi
        simp [h1] at this
        rw [this]
        simp [canon, hi]
      · have := inv.hi.tail i (by omega) (by simp; omega)
        simp [h1] at this
        rw [this]
        simp [canon, List.getElem_append, hi]
    rw [Nat.zero_add]
    have hval : ∀ (i : Nat) (S : Sp), Ss[i]? = some S → S.ok (ρ (0 + i)) := fun i S hS => by
      have hin : i < n := by have := (List.getElem?_eq_some_iff.1 hS).1; omega
      obtain ⟨oi, hoi⟩ := hok.op i hin
      rw [Nat.zero_add]
      exact (inv.val i oi S hin hoi hS (hall i hin)).1
    have hend := LG_end hLG ρ hval
    have hlook := fun t => fr_look (vs := ρ) (t := t) hok (Nat.le_refl n) hhd hlen
    rw [List.take_of_length_le (by rw [hlen]; exact Nat.le_refl _)] at hlook
    have hst : StO l (ovs ρ 0 (os.take n) []) := sto_ovs (fun p hp => by cases hp) fun j o' d hj hd' => by
      have hjk : j < n := by have := (List.getElem?_eq_some_iff.1 hj).1; simp at this; omega
      rw [hhd j hjk] at hj
      exact hok.room j o' d hjk hj hd'
    have ha : a = fr l ds (ovs ρ 0 (os.take n) []) := by
      obtain ⟨tm, df⟩ := a
      have e1 : df = ds := inv.df
      have e2 : tm = (app l (ovs ρ 0 (os.take n) [])).toArray := by
        refine Array.ext' (List.ext_getElem? fun t => ?_)
        have hl := hlook t
        rw [← Array.getElem?_toList] at hl
        by_cases hex : ∃ j oj, j < n ∧ os.toArray[j]? = some oj ∧ oj.dst = some t
        · obtain ⟨j, oj, hj, hoj, hdj⟩ := hex
          obtain ⟨S, hS⟩ : ∃ S, Ss[j]? = some S := ⟨_, List.getElem?_eq_getElem (by omega)⟩
          rw [hl.2 j oj hj hoj hdj]
          have := (inv.val j oj S hj hoj hS (hall j hj)).2 t hdj
          rw [← Array.getElem?_toList] at this
          exact this
        · rw [hl.1 fun j oj hj hoj hdj => hex ⟨j, oj, hj, hoj, hdj⟩]
          have := inv.els t fun j oj hj hoj _ hdj => hex ⟨j, oj, hj, hoj, hdj⟩
          rw [← Array.getElem?_toList] at this
          exact this
      rw [e1, e2]
    rw [ha]
    have := hend W (fun k => listed.getD k false) ρ inv.bw inv.psi hall fun k o d hk ho hd' => by
      rw [← lk_app hst d]
      have := (hlook d).2 k o hk ho hd'
      simpa using this
    rw [hcan]
    have hwp := wpAny_of_seq (md := .any) (Q' := Q) (os.drop n) n (canon os.length n) _ W (fun j => by simp [List.getElem?_drop]) (by simpa using hseq) this
    simpa using hwp
  | succ f ih =>
    intro listed a W ρ inv hc
    rw [show f + 1 + (os.length - n) = (f + (os.length - n)) + 1 by omega]
    obtain ⟨k0, hk0, hu0, hpre⟩ := cntU_first (listed := listed) (m := n) (by omega)
    have hsz : listed.size = os.length := by rw [inv.hi.size]; simp
    have hk0r : k0 ∈ Region.ready .any os.toArray listed := by
      obtain ⟨o, ho⟩ := hok.op k0 hk0
      exact mem_ready.2 ⟨getD_in (by omega) hu0, o, ho, fun e he hb => hpre _ (hok.back k0 o hk0 ho e he hb)⟩
    refine ⟨fun h0 => absurd hk0r (by rw [h0]; simp), fun i hi => ?_⟩
    have hin : i < n := by
      refine Nat.lt_of_not_le fun hle => ?_
      rcases hT1 with h1 | ⟨⟨h1, h2⟩, h3⟩
      · have e := Nat.eq_of_beq_eq_true h1
        obtain ⟨_, o, ho, _⟩ := mem_ready.1 hi
        have := (Array.getElem?_eq_some_iff.1 ho).1
        simp at this; omega
      · exact tail_waits h2 h3 (by simpa using h1) inv.hi _ k0 rfl hk0 (getD_in (by omega) hu0) i hle hi
    refine LG_step hok hhd hlen (by simpa using hns) hh stab hLG inv hin hi fun a' W' ρ' inv' => ih _ _ _ _ inv' ?_
    have := cntU_set (listed := listed) (k := i) (by omega) (getD_both (mem_ready.1 hi).1) hin
    omega
/-- A REGION THAT DRAWS ITS ORDER, each of its first n operations told once. -/
theorem region_LG {id : Nat} {w : World} {os : List Oper} (n : Nat) (h : Nat) (Sx : Nat → Bool) (Ψ : (Nat → Bool) → (Nat → Value) → World → Prop) (hh : h ≤ w.heap.size) (hm : P.follows .mixedOrders = true) (hB : headB os.toArray n l.length = true) (hT : tailB os.toArray n = true)
    (stab : ∀ Λ ρ W W' k v, Sx k = false → Below W.heap.size W W' → h ≤ W.heap.size → Ψ Λ ρ W → Ψ (up Λ k true) (up ρ k v) W') (h0 : ∀ W, Below w.heap.size w W → Ψ (fun _ => false) (fun _ => undef) W) (Ss : List Sp)
    (hLG : LG P os.toArray w h l ds Sx Ψ (EndG P os.toArray Q n h w l ds Ψ (os.drop n)) 0 (os.take n) Ss []) : (Code.region id os.toArray true).wp P Q ⟨l.toArray, ds⟩ w := by
  have hok := headB_ok hB
  have hns : n ≤ os.length := by
    have hT' := hT
    simp only [tailB, Bool.and_eq_true, Bool.or_eq_true, List.size_toArray, Nat.blt_eq] at hT'
    rcases hT'.1 with h1 | ⟨⟨h1, _⟩, _⟩
    · exact Nat.le_of_eq (Nat.eq_of_beq_eq_true h1)
    · exact Nat.le_of_lt h1
  refine wp_region_any hm ?_
  have hb : Below w.heap.size w { w with drawn := w.drawn + 1 } := ⟨rfl, rfl, rfl, Nat.le_refl _, fun _ _ => rfl⟩
  have inv : GInv os.toArray w h l ds Ψ n Ss (Array.replicate os.toArray.size false) ⟨l.toArray, ds⟩ { w with drawn := w.drawn + 1 } (fun _ => undef) :=
    ⟨⟨by simp, fun j oj _ hl => (by rw [getD_replicate_false] at hl; cases hl), fun t _ ht => getD_in (by simpa using ht) (getD_replicate_false _ _)⟩, hb.mono hh, rfl, by simp,
     by rw [show (fun k => (Array.replicate os.toArray.size false).getD k false) = fun _ => false from funext fun k => getD_replicate_false _ _]; exact h0 _ hb,
     fun k o S _ _ _ hl => (by rw [getD_replicate_false] at hl; cases hl), fun t _ => by simp⟩
  have := LG_any hok hT hh stab hLG n _ _ _ _ inv (cntU_rep _ n)
  rw [show n + (os.length - n) = os.toArray.size by simp; omega] at this
  exact this
end
section
variable {P : Program} {ops : Array Oper} {w0 : World} {h : Nat} {l : List Value} {ds : List Deferred} {Sx : Nat → Bool} {Ψ : (Nat → Bool) → (Nat → Value) → World → Prop} {End : List (Nat × Value) → Prop}
  {k : Nat} {o : Oper} {rest : List Oper} {Ss : List Sp} {ov : List (Nat × Value)} {d : Nat} {v : Value}
theorem g_end (hE : End ov) : LG P ops w0 h l ds Sx Ψ End k [] [] ov := hE
/-- An operation whose value is known ahead. -/
theorem g_det (hs : Sx k = false) (hn : isNew o = false) (hd : o.dst = some d) (hl : Nat.blt d l.length = true) (h1 : ∀ W, Below h w0 W → LX P ops W (fun a' => a'.tmps[d]? = some v) [o] l ov ds) (h2 : LG P ops w0 h l ds Sx Ψ End (k + 1) rest Ss ((d, v) :: ov)) :
    LG P ops w0 h l ds Sx Ψ End k (o :: rest) (.det v :: Ss) ov := by
  refine ⟨⟨v, rfl⟩, fun hst => ⟨hs, fun W hW => ?_⟩, fun u hu => ?_⟩
  · obtain ⟨v', hy, hv'⟩ := h1 W hW hst
    have hlt : d < l.length := by simpa [Nat.blt_eq] using hl
    have hvv : v' = v := by
      have hv' : ((fr l ds ov).put o.dst v').tmps[d]? = some v := hv'
      rw [hd] at hv'
      simpa [Act.put, app_length, hlt] using hv'
    subst hvv
    rcases hy with ⟨hw, hy⟩ | ⟨hw, hy⟩
    · refine .inl ⟨hw, ?_⟩
      rcases hy with ⟨hnw, _⟩ | ⟨_, hq⟩
      · rw [hn] at hnw; cases hnw
      · have := hq W (Below.refl _ _)
        generalize (execOp (fr l ds ov).eval o).run P W = r at *
        cases r with
        | ok nx w' =>
          cases nx <;> simp only [qUpon] at this <;> simp only [gUpon]
          case value u => obtain ⟨rfl, rfl⟩ := this; exact ⟨rfl, Below.refl _ _⟩
          case skip => obtain ⟨rfl, rfl⟩ := this; exact ⟨rfl, Below.refl _ _⟩
          case enter f args =>
            obtain ⟨rfl, hc⟩ := this
            exact hc.mono fun e w'' ⟨he, hb⟩ => ⟨v', he, rfl, hb⟩
        | halt x w' => simp only [qUpon] at this
    · exact .inr ⟨hw, hy.symm, Below.refl _ _⟩
  · have hu : u = v := hu
    subst hu
    rw [hd]; exact h2
theorem g_lk (hl : Nat.blt d l.length = true) : LX P ops w0 (fun a' => a'.tmps[d]? = some v) [] l ((d, v) :: ov) ds := o_end (by
  have hlt : d < l.length := by simpa [Nat.blt_eq] using hl
  simp [app, app_length, hlt])
/-- An operation whose value is known by what it is like. -/
theorem g_spc {A : Value → Prop} (hv : ∃ v, A v) (h1 : StO l ov → ∀ Λ ρ W, Below h w0 W → Ψ Λ ρ W → Λ k = false → (∀ e ∈ o.after, Region.binds .any e = true → Λ e.on = true) →
      (∀ j oj d, j < k → ops[j]? = some oj → oj.dst = some d → Λ j = true → lk l ov d = some (ρ j)) → stepG P ops o (fr l ds ov) W (fun u W' => A u ∧ Below h w0 W' ∧ Ψ (up Λ k true) (up ρ k u) W'))
    (h2 : ∀ v, A v → LG P ops w0 h l ds Sx Ψ End (k + 1) rest Ss (putO o.dst v ov)) : LG P ops w0 h l ds Sx Ψ End k (o :: rest) (.spc A :: Ss) ov := ⟨hv, h1, h2⟩
theorem step_call {W : World} {good : Value → World → Prop} (hst : StO l ov) (hw : Region.wanted o (yO ops l ov) = true) (f : FuncId) (xs : Array Operand) (ts : Array TypeId) (ho : o.op = .call { callee := .value (.func f), args := xs, argTypes := ts }) {vs : List Value} (hx : evalsO l ov xs.toList = some vs)
    (hr : ∀ (ρ : Operand → Value) W, ρ (.func f) = .func (.func f) #[] #[] → (execOp ρ o).run P W = .ok (.enter f (xs.map ρ)) W) (hc : Calls P f vs.toArray W (fun e w'' => ∃ v, e = .returned v ∧ good v w'')) : stepG P ops o (fr l ds ov) W good := by
  refine .inl ⟨by show Region.wanted o (yielded ops (app l ov).toArray) = true; rw [yO_eq hst]; exact hw, ?_⟩
  rw [hr _ W rfl]
  have hm := evalsL_map (ds := ds) ((evalsO_L hst xs.toList).trans hx)
  have he : xs.map (fr l ds ov).eval = vs.toArray := by
    rw [← hm]
    cases xs
    simp
  rw [he]
  exact hc
theorem step_skip {W : World} {good : Value → World → Prop} (hst : StO l ov) (hw : Region.wanted o (yO ops l ov) = false) (hg : good undef W) : stepG P ops o (fr l ds ov) W good :=
  .inr ⟨by show Region.wanted o (yielded ops (app l ov).toArray) = false; rw [yO_eq hst]; exact hw, hg⟩
theorem step_run {W W' : World} {u : Value} {good : Value → World → Prop} (hst : StO l ov) (hw : Region.wanted o (yO ops l ov) = true) (hr : (execOp (fr l ds ov).eval o).run P W = .ok (.value u) W') (hg : good u W') : stepG P ops o (fr l ds ov) W good := by
  refine .inl ⟨by show Region.wanted o (yielded ops (app l ov).toArray) = true; rw [yO_eq hst]; exact hw, ?_⟩
  rw [hr]; exact hg
theorem step_runs {W W' : World} {good : Value → World → Prop} (hst : StO l ov) (hw : Region.wanted o (yO ops l ov) = true) (hr : (execOp (fr l ds ov).eval o).run P W = .ok .skip W') (hg : good undef W') : stepG P ops o (fr l ds ov) W good := by
  refine .inl ⟨by show Region.wanted o (yielded ops (app l ov).toArray) = true; rw [yO_eq hst]; exact hw, ?_⟩
  rw [hr]; exact hg
theorem fr_eval (hst : StO l ov) {x : Operand} {u : Value} (hx : evalO l ov x = some u) : (fr l ds ov).eval x = u := evalL_eval ((evalO_L hst x).trans hx)
end
end Go.Proofs.Ytgnkhncogfppgaa
