import Derived.Test.YtgnkhncogfppgaaU5
namespace Go.Proofs.Ytgnkhncogfppgaa
open Go.RowKit
/-! A region of which some operations' values hold a property that lasts while nothing that is there is written. -/
def Stab (q : Value → World → Prop) : Prop := ∀ v W W', q v W → Below W.heap.size W W' → q v W'
abbrev Kept := List (Nat × (Value → World → Prop))
def StabL (L : Kept) : Prop := ∀ p ∈ L, Stab p.2
theorem StabL.nil : StabL [] := fun p hp => by cases hp
theorem StabL.cons {k : Nat} {q : Value → World → Prop} {L : Kept} (h : Stab q) (hL : StabL L) : StabL ((k, q) :: L) := fun p hp => by
  rcases List.mem_cons.1 hp with rfl | hp
  · exact h
  · exact hL p hp
def Keep (L : Kept) (Λ : Nat → Bool) (ρ : Nat → Value) (W : World) : Prop := ∀ p ∈ L, Λ p.1 = true → p.2 (ρ p.1) W
def inK (L : Kept) (t : Nat) : Bool := L.any fun p => Nat.beq p.1 t
theorem Keep.next {L : Kept} {Λ : Nat → Bool} {ρ : Nat → Value} {W W' : World} {j : Nat} {v : Value} (hs : StabL L) (hD : Keep L Λ ρ W) (hb : Below W.heap.size W W') (hq : ∀ p ∈ L, p.1 = j → p.2 v W') : Keep L (up Λ j true) (up ρ j v) W' := by
  intro p hp hl
  by_cases e : p.1 = j
  · rw [e, up_same]; exact hq p hp e
  · rw [up_ne _ _ e] at hl ⊢
    exact hs p hp _ _ _ (hD p hp hl) hb
/-- What is owed at an operation. -/
def onK : Kept → Nat → Value → World → Prop
  | [], _, _, _ => True
  | (j, q) :: L, k, v, W => match Nat.beq j k with
    | true => q v W ∧ onK L k v W
    | false => onK L k v W
theorem onK_all : ∀ {L : Kept} {k : Nat} {v : Value} {W : World}, onK L k v W → ∀ p ∈ L, p.1 = k → p.2 v W
  | [], _, _, _, _, p, hp, _ => by cases hp
  | (j, q) :: L, k, v, W, h, p, hp, e => by
    unfold onK at h
    rcases List.mem_cons.1 hp with rfl | hp
    · have e : j = k := e
      subst e
      rw [Nat.beq_refl] at h
      exact h.1
    · cases hb : Nat.beq j k with
      | true => rw [hb] at h; exact onK_all h.2 p hp e
      | false => rw [hb] at h; exact onK_all h p hp e
section
variable {P : Program} {ops : Array Oper} {w0 : World} {h : Nat} {l : List Value} {ds : List Deferred} {Q : Exit → Act → World → Prop}
theorem region_K {id : Nat} {w : World} {os : List Oper} (n : Nat) (L : Kept) (hL : StabL L) (hm : P.follows .mixedOrders = true) (hB : headB os.toArray n l.length = true) (hT : tailB os.toArray n = true) (Ss : List Sp)
    (hLG : LG P os.toArray w w.heap.size l ds (inK L) (Keep L) (EndG P os.toArray Q n w.heap.size w l ds (Keep L) (os.drop n)) 0 (os.take n) Ss []) : (Code.region id os.toArray true).wp P Q ⟨l.toArray, ds⟩ w := by
  refine region_LG n w.heap.size (inK L) (Keep L) (Nat.le_refl _) hm hB hT (fun Λ ρ W W' k v hk hb _ hD => Keep.next hL hD hb fun p hp e => ?_) (fun W _ p _ e => by cases e) Ss hLG
  have : inK L k = true := List.any_eq_true.2 ⟨p, hp, by rw [e]; exact Nat.beq_refl k⟩
  rw [hk] at this; cases this
variable {L : Kept} {End : List (Nat × Value) → Prop} {k : Nat} {o : Oper} {rest : List Oper} {Ss : List Sp} {ov : List (Nat × Value)} {d : Nat} {v : Value}
/-- What is known at the time of an operation. -/
structure AtK (ops : Array Oper) (w0 : World) (h : Nat) (l : List Value) (L : Kept) (k : Nat) (o : Oper) (ov : List (Nat × Value)) (W : World) : Prop where
  bw : Below h w0 W
  get : ∀ j oj d q u, (j, q) ∈ L → j < k → ops[j]? = some oj → oj.dst = some d → (o.after.toList.any fun e => Nat.beq e.on j && Region.binds .any e) = true → lk l ov d = some u → q u W
theorem AtK.at {W : World} (hA : AtK ops w0 h l L k o ov W) {i j : Nat} {oj : Oper} {d : Nat} {q : Value → World → Prop} {u : Value} (hi : L[i]? = some (j, q)) (hj : Nat.blt j k = true) (ho : ops[j]? = some oj) (hd : oj.dst = some d) (haf : (o.after.toList.any fun e => Nat.beq e.on j && Region.binds .any e) = true) (hlk : lk l ov d = some u) : q u W :=
  hA.get j oj d q u (List.mem_of_getElem? hi) (by simpa [Nat.blt_eq] using hj) ho hd haf hlk
theorem g_K {A : Value → Prop} (hL : StabL L) (hhb : h ≤ w0.heap.size) (hv : ∃ v, A v) (h1 : StO l ov → ∀ W, AtK ops w0 h l L k o ov W → stepG P ops o (fr l ds ov) W (fun u W' => A u ∧ Below W.heap.size W W' ∧ onK L k u W'))
    (h2 : ∀ v, A v → LG P ops w0 h l ds (inK L) (Keep L) End (k + 1) rest Ss (putO o.dst v ov)) : LG P ops w0 h l ds (inK L) (Keep L) End k (o :: rest) (.spc A :: Ss) ov := by
  refine g_spc hv (fun hst Λ ρ W hW hD hk hdep hval => ?_) h2
  have hA : AtK ops w0 h l L k o ov W := ⟨hW, fun j oj d q u hm hj ho hd haf hlk => by
    obtain ⟨e, he, h3⟩ := List.any_eq_true.1 haf
    have he := Array.mem_toList_iff.1 he
    simp only [Bool.and_eq_true] at h3
    have hΛ : Λ j = true := by have := hdep e he h3.2; rw [Nat.eq_of_beq_eq_true h3.1] at this; exact this
    have h4 := hval j oj d hj ho hd hΛ
    rw [hlk] at h4
    injection h4 with h4
    rw [h4]; exact hD (j, q) hm hΛ⟩
  have hs := h1 hst W hA
  have hmono : ∀ u W', (A u ∧ Below W.heap.size W W' ∧ onK L k u W') → (A u ∧ Below h w0 W' ∧ Keep L (up Λ k true) (up ρ k u) W') := fun u W' ⟨a, b, c⟩ =>
    ⟨a, hW.trans (b.mono (Nat.le_trans hhb hW.size)), Keep.next hL hD b (onK_all c)⟩
  rcases hs with ⟨hw, hu⟩ | ⟨hw, hu⟩
  · refine .inl ⟨hw, ?_⟩
    generalize (execOp (fr l ds ov).eval o).run P W = r at *
    cases r with
    | ok nx w' =>
      cases nx <;> simp only [gUpon] at hu ⊢
      case value u => exact hmono _ _ hu
      case skip => exact hmono _ _ hu
      case enter f args => exact hu.mono fun e w'' ⟨v, he, hg⟩ => ⟨v, he, hmono _ _ hg⟩
    | halt x w' => simp only [gUpon] at hu
  · exact .inr ⟨hw, hmono _ _ hu⟩
/-- The end of such a region: what lasts. -/
theorem g_endK {n : Nat} (hE : ∀ W, Below h w0 W → (∀ j oj d q u, (j, q) ∈ L → j < n → ops[j]? = some oj → oj.dst = some d → lk l ov d = some u → q u W) → wpList P ops Q rest (fr l ds ov) W) : LG P ops w0 h l ds (inK L) (Keep L) (EndG P ops Q n h w0 l ds (Keep L) rest) k [] [] ov :=
  g_end fun W Λ ρ hW hD hall hval => hE W hW fun j oj d q u hm hj ho hd hlk => by
    have h4 := hval j oj d hj ho hd
    rw [hlk] at h4
    injection h4 with h4
    rw [h4]; exact hD (j, q) hm (hall j hj)
/-- An operation that makes memory and answers a value. -/
theorem step_runK {W W' : World} {u : Value} {A : Value → Prop} (hst : StO l ov) (hw : Region.wanted o (yO ops l ov) = true) (hr : (execOp (fr l ds ov).eval o).run P W = .ok (.value u) W') (hA : A u) (hb : Below W.heap.size W W') (hk : onK L k u W') :
    stepG P ops o (fr l ds ov) W (fun u W' => A u ∧ Below W.heap.size W W' ∧ onK L k u W') := step_run hst hw hr ⟨hA, hb, hk⟩
/-- A call whose value is told by a property. -/
theorem step_callK {W : World} {A : Value → Prop} (hst : StO l ov) (hw : Region.wanted o (yO ops l ov) = true) (f : FuncId) (xs : Array Operand) (ts : Array TypeId) (ho : o.op = .call { callee := .value (.func f), args := xs, argTypes := ts }) {vs : List Value} (hx : evalsO l ov xs.toList = some vs)
    (hr : ∀ (ρ : Operand → Value) W, ρ (.func f) = .func (.func f) #[] #[] → (execOp ρ o).run P W = .ok (.enter f (xs.map ρ)) W) {R : Ending → World → Prop} {f' : FuncId} {as' : Array Value} (hc : Calls P f' as' W R) (hf : f' = f) (ha : as' = vs.toArray)
    (hR : ∀ e w', R e w' → ∃ v, e = .returned v ∧ A v ∧ Below W.heap.size W w' ∧ onK L k v w') : stepG P ops o (fr l ds ov) W (fun u W' => A u ∧ Below W.heap.size W W' ∧ onK L k u W') := by
  subst hf; subst ha
  exact step_call hst hw f' xs ts ho hx hr (hc.mono fun e w' h => hR e w' h)
end
theorem NumV.stab (z : Zn) (base : Nat) : Stab (NumV z base) := fun _ _ _ h hb => h.on hb
theorem nc_inj_sl {b b' : Bool} {sl sl' : Value} {n n' : Int} {z z' : Bool} {D D' : Mat} (h : nc b sl n z D = nc b' sl' n' z' D') : sl = sl' := by
  have h1 := nc_sl b sl n z D
  rw [h, nc_sl] at h1
  exact (Option.some.inj h1).symm
theorem NumV.own {z : Zn} {base : Nat} {sl : Value} {W : World} (h : NumV z base (.agg (nz z sl)) W) : OwnT W base sl z.n (itvs z) := by
  obtain ⟨sl', h1, h2⟩ := h
  injection h1 with h1
  rw [nc_inj_sl h1]; exact h2
/-- A literal of ints. -/
def SlcI (m : Nat) (V : Nat → Int) (v : Value) (W : World) : Prop := ∃ g, v = slc g m ∧ ∀ k, k < m → W.cell? ⟨g, k, none⟩ = some (.int .i64 (V k))
theorem SlcI.stab (m : Nat) (V : Nat → Int) : Stab (SlcI m V) := fun _ _ _ ⟨g, h1, h2⟩ hb => ⟨g, h1, fun k hk => (hb.cell (p := ⟨g, k, none⟩) (block_lt_of_cell (h2 k hk))).trans (h2 k hk)⟩
theorem SlcI.sli {m : Nat} {V : Nat → Int} {g : Nat} {W : World} (h : SlcI m V (slc g m) W) : SlI W (some ⟨g, 0, none⟩) m V := by
  obtain ⟨g', h1, h2⟩ := h
  have := slc_inj h1
  subst this
  exact fun k hk => ⟨g, 0, rfl, by rw [Nat.zero_add]; exact h2 k hk⟩
section
set_option maxRecDepth 100000
set_option maxHeartbeats 1000000
theorem num_has_no (z : Zn) (sl : Value) (v : Value) (w : World) : Calls Try.prog 56 #[.agg (nc true sl z.n z.none z.D), v] w (Ret w (.bool false)) := by
  go_enter Try.func56, Try.ntmps56
  go_wp2_with (first
    | (refine box_row rfl 57 _ rfl _ rfl ?_; intro W1 hv hb hs1; have c0 := hv.cell 0; rw [nc_b] at c0)
    | fail)
  go_ret
  exact ⟨rfl, hb⟩
theorem num_has_yes (z : Zn) (hn : z.n ≤ 6) (sl : Value) {ad : Option Addr} {len cap : Nat} (hlen : len ≤ 1000000) {V : Nat → Int} {w : World} (hV : SlI w ad len V) : Calls Try.prog 56 #[.agg (nc false sl z.n z.none z.D), .slice ad len cap] w (Ret w (.bool (hasB z len V))) := by
  have HH : Hid (∀ W : World, Below w.heap.size w W → Calls Try.prog 34 #[.agg (zc z.n z.none z.D), .slice ad len cap] W (Ret W (.bool (hasB z len V)))) := fun W hW => has_any z hn ad len cap hlen V W (hV.on hW)
  clear hV hn
  generalize hasB z len V = r at *
  go_enter Try.func56, Try.ntmps56
  go_wp2_with (first
    | (refine box_row rfl 57 _ rfl _ rfl ?_; intro W1 hv hb hs1; have c0 := hv.cell 0; rw [nc_b] at c0)
    | (refine load_nz rfl _ rfl rfl hv ?_)
    | (go_at_call 34; ((with_reducible refine (HH.out _ hb).mono ?_); rintro e W4 ⟨rfl, hb4⟩; have hb := hb.trans (hb4.mono hb.size); clear hb4))
    | fail)
  go_ret
  exact ⟨rfl, hb⟩
end
theorem lit_1 (u : Int) (w : World) : (Instr.buildSlice 28 1 #[(0, .int .i64 u)]).run Try.prog w = .ok (slc w.heap.size 1) (w.alloc (.cells #[.int .i64 u] 3)) := by kernel_rfl
section
variable {ops : Array Oper} {w0 : World} {l : List Value} {ds : List Deferred} {L : Kept} {k : Nat} {o : Oper} {ov : List (Nat × Value)}
/-- A literal of one int. -/
theorem step_lit_1 {W : World} (hst : StO l ov) (hw : Region.wanted o (yO ops l ov) = true) (x : Operand) (ho : o.op = .buildSlice 28 1 #[(0, x)]) {u : Int} (hx : evalO l ov x = some (.int .i64 u)) (hk : ∀ v W', SlcI 1 (fun _ => u) v W' → onK L k v W') :
    stepG Try.prog ops o (fr l ds ov) W (fun v W' => (∃ q, v = slc q 1) ∧ Below W.heap.size W W' ∧ onK L k v W') := by
  have e1 := fr_eval (ds := ds) hst hx
  refine step_run hst hw (u := slc W.heap.size 1) (W' := W.alloc (.cells #[.int .i64 u] 3)) ?_ ⟨⟨_, rfl⟩, (Below.refl _ _).alloc (Nat.le_refl _) _, hk _ _ ⟨_, rfl, fun j hj => ?_⟩⟩
  · unfold execOp
    simp only [ho, List.map_toArray, List.map_cons, List.map_nil, e1, Sem.run_bind, lit_1, Sem.run_pure, Result.andThen_ok]
  · obtain rfl : j = 0 := by omega
    exact (RowAt.new W 3 #[.int .i64 u]).cell 0
end
section
variable {P : Program} {ops : Array Oper} {rest : List Oper} {o : Oper} {w0 : World} {L : Act → Prop} {l : List Value} {ov : List (Nat × Value)} {ds : List Deferred} {d : Nat} {v : Value}
/-- A field of a value. -/
theorem o_fld (hw : Region.wanted o (yO ops l ov) = true) (t : TypeId) (x : Operand) (f : Nat) (ho : o.op = .field t x f) {vx : Value} (hx : evalO l ov x = some vx) (hd : o.dst = some d) (hl : Nat.blt d l.length = true)
    (hr : ∀ W, (Instr.field t vx f).run P W = .ok v W) (h : LX P ops w0 L rest l ((d, v) :: ov) ds) : LX P ops w0 L (o :: rest) l ov ds :=
  fun hst => lex_pure (by rw [yO_eq hst]; exact hw) (by simp [isNew, ho]) v (fun W => by
    unfold execOp
    simp only [ho, evalL_eval ((evalO_L hst x).trans hx), Sem.run_bind, hr, Sem.run_pure, Result.andThen_ok]) (o_put hd hl h hst)
end
end Go.Proofs.Ytgnkhncogfppgaa
