import Derived.Test.YtgnkhncogfppgaaQ6
/-!
A region that draws its order, whatever its operations do: each operation is told once, at any time when all that it waits for is done: what is known of its value ahead (a value, or what the value is like),
and what it does to a property of the world that is carried on.
-/
namespace Go.Proofs.Ytgnkhncogfppgaa
open Go.RowKit
inductive Sp where
  | det (v : Value)
  | spc (A : Value → Prop)
def Sp.ok : Sp → Value → Prop
  | .det v, u => u = v
  | .spc A, u => A u
abbrev fr (l : List Value) (ds : List Deferred) (ov : List (Nat × Value)) : Act := ⟨(app l ov).toArray, ds⟩
def gUpon (P : Program) (good : Value → World → Prop) : Result Next → Prop
  | .ok (.value u) w' => good u w'
  | .ok .skip w' => good undef w'
  | .ok (.enter f args) w' => Calls P f args w' (fun e w'' => ∃ v, e = .returned v ∧ good v w'')
  | _ => False
def stepG (P : Program) (ops : Array Oper) (o : Oper) (a : Act) (W : World) (good : Value → World → Prop) : Prop :=
  (Region.wanted o (yielded ops a.tmps) = true ∧ gUpon P good ((execOp a.eval o).run P W)) ∨ (Region.wanted o (yielded ops a.tmps) = false ∧ good undef W)
def up {α : Type} (f : Nat → α) (k : Nat) (v : α) : Nat → α := fun j => if j = k then v else f j
theorem up_same {α : Type} (f : Nat → α) (k : Nat) (v : α) : up f k v k = v := if_pos rfl
theorem up_ne {α : Type} (f : Nat → α) {k j : Nat} (v : α) (h : j ≠ k) : up f k v j = f j := if_neg h
def putO (d : Option Nat) (v : Value) (ov : List (Nat × Value)) : List (Nat × Value) := match d with
  | some d => (d, v) :: ov
  | none => ov
/-- What an operation owes. -/
def Obl (P : Program) (ops : Array Oper) (w0 : World) (h : Nat) (l : List Value) (ds : List Deferred) (Sx : Nat → Bool) (Ψ : (Nat → Bool) → (Nat → Value) → World → Prop) (k : Nat) (o : Oper) : Sp → List (Nat × Value) → Prop
  | .det v, ov => Sx k = false ∧ ∀ W, Below h w0 W → stepG P ops o (fr l ds ov) W (fun u W' => u = v ∧ Below W.heap.size W W')
  | .spc A, ov => ∀ Λ ρ W, Below h w0 W → Ψ Λ ρ W → Λ k = false → (∀ e ∈ o.after, Region.binds .any e = true → Λ e.on = true) →
      (∀ j oj d, j < k → ops[j]? = some oj → oj.dst = some d → Λ j = true → lk l ov d = some (ρ j)) →
      stepG P ops o (fr l ds ov) W (fun u W' => A u ∧ Below h w0 W' ∧ Ψ (up Λ k true) (up ρ k u) W')
def LG (P : Program) (ops : Array Oper) (w0 : World) (h : Nat) (l : List Value) (ds : List Deferred) (Sx : Nat → Bool) (Ψ : (Nat → Bool) → (Nat → Value) → World → Prop) (End : List (Nat × Value) → Prop) : Nat → List Oper → List Sp → List (Nat × Value) → Prop
  | _, [], [], ov => End ov
  | k, o :: rest, S :: Ss, ov => (∃ v, S.ok v) ∧ (StO l ov → Obl P ops w0 h l ds Sx Ψ k o S ov) ∧ ∀ v, S.ok v → LG P ops w0 h l ds Sx Ψ End (k + 1) rest Ss (putO o.dst v ov)
  | _, _, _, _ => False
def ovs (vs : Nat → Value) : Nat → List Oper → List (Nat × Value) → List (Nat × Value)
  | _, [], ov => ov
  | k, o :: r, ov => ovs vs (k + 1) r (putO o.dst (vs k) ov)
theorem lk_ovs_none {l : List Value} {vs : Nat → Value} {t : Nat} : ∀ {os : List Oper} {k : Nat} {ov : List (Nat × Value)}, (∀ (j : Nat) (o : Oper), os[j]? = some o → o.dst ≠ some t) → lk l (ovs vs k os ov) t = lk l ov t
  | [], _, _, _ => rfl
  | o :: r, k, ov, h => by
    show lk l (ovs vs (k + 1) r (putO o.dst (vs k) ov)) t = _
    rw [lk_ovs_none fun j o hj => h (j + 1) o hj]
    have h0 := h 0 o rfl
    cases hd : o.dst with
    | none => rfl
    | some d =>
      have hne : t ≠ d := fun e => h0 (by rw [hd, e])
      simp only [putO, lk]
      cases hb : Nat.beq t d with
      | true => exact absurd (Nat.eq_of_beq_eq_true hb) hne
      | false => rfl
theorem lk_ovs_some {l : List Value} {vs : Nat → Value} {t : Nat} : ∀ {os : List Oper} {k : Nat} {ov : List (Nat × Value)} {j : Nat} {o : Oper}, os[j]? = some o → o.dst = some t → (∀ (j' : Nat) (o' : Oper), j' ≠ j → os[j']? = some o' → o'.dst ≠ some t) →
    lk l (ovs vs k os ov) t = some (vs (k + j))
  | [], _, _, _, _, h, _, _ => by simp at h
  | o :: r, k, ov, 0, o', h, hd, hne => by
    simp only [List.getElem?_cons_zero, Option.some.injEq] at h
    subst h
    show lk l (ovs vs (k + 1) r (putO o.dst (vs k) ov)) t = _
    rw [lk_ovs_none fun j o hj => hne (j + 1) o (by omega) hj, hd]
    simp only [putO, lk]
    rw [show Nat.beq t t = true from Nat.beq_refl t]
    rfl
  | o :: r, k, ov, j + 1, o', h, hd, hne => by
    show lk l (ovs vs (k + 1) r (putO o.dst (vs k) ov)) t = _
    rw [lk_ovs_some (j := j) (o := o') (by simpa using h) hd fun j' o2 hj' ho => hne (j' + 1) o2 (by omega) ho]
    congr 2; omega
theorem sto_ovs {l : List Value} {vs : Nat → Value} : ∀ {os : List Oper} {k : Nat} {ov : List (Nat × Value)}, StO l ov → (∀ (j : Nat) (o : Oper) (d : Nat), os[j]? = some o → o.dst = some d → d < l.length) → StO l (ovs vs k os ov)
  | [], _, _, h, _ => h
  | o :: r, k, ov, h, hd => sto_ovs (os := r) (by
      cases ho : o.dst with
      | none => exact h
      | some d =>
        intro p hp
        rcases List.mem_cons.1 hp with rfl | hp
        · exact hd 0 o d rfl ho
        · exact h p hp) fun j o' d hj => hd (j + 1) o' d hj
section
variable {P : Program} {ops : Array Oper} {w0 : World} {h : Nat} {l : List Value} {ds : List Deferred} {Sx : Nat → Bool} {Ψ : (Nat → Bool) → (Nat → Value) → World → Prop} {End : List (Nat × Value) → Prop}
theorem LG_wit : ∀ {os : List Oper} {Ss : List Sp} {k : Nat} {ov : List (Nat × Value)}, LG P ops w0 h l ds Sx Ψ End k os Ss ov → ∀ (i : Nat) (S : Sp), Ss[i]? = some S → ∃ v, S.ok v
  | [], [], _, _, _, _, _, hi => by simp at hi
  | [], _ :: _, _, _, hh, _, _, _ => hh.elim
  | _ :: _, [], _, _, hh, _, _, _ => hh.elim
  | _ :: _, S :: Ss, _, _, ⟨hv, _, _⟩, 0, S', hi => by
    simp only [List.getElem?_cons_zero, Option.some.injEq] at hi
    subst hi; exact hv
  | _ :: _, S :: Ss, _, _, ⟨⟨v, hv⟩, _, h2⟩, i + 1, S', hi => LG_wit (h2 v hv) i S' (by simpa using hi)
theorem LG_len : ∀ {os : List Oper} {Ss : List Sp} {k : Nat} {ov : List (Nat × Value)}, LG P ops w0 h l ds Sx Ψ End k os Ss ov → os.length = Ss.length
  | [], [], _, _, _ => rfl
  | [], _ :: _, _, _, hh => hh.elim
  | _ :: _, [], _, _, hh => hh.elim
  | o :: r, S :: Ss, k, ov, ⟨⟨v, hv⟩, _, h2⟩ => by simp [LG_len (h2 v hv)]
theorem LG_at : ∀ {os : List Oper} {Ss : List Sp} {k : Nat} {ov : List (Nat × Value)}, LG P ops w0 h l ds Sx Ψ End k os Ss ov → ∀ (vs : Nat → Value), (∀ (i : Nat) (S : Sp), Ss[i]? = some S → S.ok (vs (k + i))) →
    ∀ (i : Nat) (o : Oper) (S : Sp), os[i]? = some o → Ss[i]? = some S → StO l (ovs vs k (os.take i) ov) → Obl P ops w0 h l ds Sx Ψ (k + i) o S (ovs vs k (os.take i) ov)
  | [], _, _, _, _, _, _, _, _, _, hi, _ => by simp at hi
  | _ :: _, [], _, _, hh, _, _, _, _, _, _, _ => hh.elim
  | o :: r, S :: Ss, k, ov, ⟨_, h1, _⟩, vs, hvs, 0, o', S', hi, hS => by
    simp only [List.getElem?_cons_zero, Option.some.injEq] at hi hS
    subst hi; subst hS
    exact h1
  | o :: r, S :: Ss, k, ov, ⟨_, _, h2⟩, vs, hvs, i + 1, o', S', hi, hS => by
    have := LG_at (h2 (vs k) (hvs 0 S rfl)) vs (fun i S' hi => by rw [show k + 1 + i = k + (i + 1) by omega]; exact hvs (i + 1) S' hi) i o' S' (by simpa using hi) (by simpa using hS)
    rw [show k + 1 + i = k + (i + 1) by omega] at this
    exact this
theorem LG_end : ∀ {os : List Oper} {Ss : List Sp} {k : Nat} {ov : List (Nat × Value)}, LG P ops w0 h l ds Sx Ψ End k os Ss ov → ∀ (vs : Nat → Value), (∀ (i : Nat) (S : Sp), Ss[i]? = some S → S.ok (vs (k + i))) → End (ovs vs k os ov)
  | [], [], _, _, hh, _, _ => hh
  | [], _ :: _, _, _, hh, _, _ => hh.elim
  | _ :: _, [], _, _, hh, _, _ => hh.elim
  | o :: r, S :: Ss, k, ov, ⟨_, _, h2⟩, vs, hvs => LG_end (h2 (vs k) (hvs 0 S rfl)) vs fun i S' hi => by rw [show k + 1 + i = k + (i + 1) by omega]; exact hvs (i + 1) S' hi
end
/-- What is asked of a head's operations, at a glance. -/
def headB (ops : Array Oper) (n len : Nat) : Bool :=
  (List.range n).all fun k => match ops[k]? with
    | none => false
    | some o => (match o.op with | .select _ _ => false | _ => true) && (o.after.toList.all fun e => !Region.binds .any e || Nat.blt e.on k) &&
       (match o.dst with | some d => Nat.blt d len | none => true) &&
       (List.range n).all fun j => match ops[j]? with
         | none => true
         | some oj => match oj.dst with
           | none => true
           | some d => (Nat.beq j k || o.dst != some d) && (!(o.looksAt ops).contains d || (Nat.blt j k && o.after.toList.any fun e => Region.binds .any e && Nat.beq e.on j))
structure HeadOK (ops : Array Oper) (n len : Nat) : Prop where
  op : ∀ k, k < n → ∃ o, ops[k]? = some o
  sel : ∀ k o, k < n → ops[k]? = some o → ∀ cs b, o.op ≠ .select cs b
  back : ∀ k o, k < n → ops[k]? = some o → ∀ e ∈ o.after, Region.binds .any e = true → e.on < k
  room : ∀ k o d, k < n → ops[k]? = some o → o.dst = some d → d < len
  dist : ∀ k o j oj d, k < n → j < n → ops[k]? = some o → ops[j]? = some oj → oj.dst = some d → j ≠ k → o.dst ≠ some d
  deps : ∀ k o j oj d, k < n → j < n → ops[k]? = some o → ops[j]? = some oj → oj.dst = some d → d ∈ o.looksAt ops → j < k ∧ ∃ e ∈ o.after, Region.binds .any e = true ∧ e.on = j
theorem headB_ok {ops : Array Oper} {n len : Nat} (hB : headB ops n len = true) : HeadOK ops n len := by
  have key : ∀ k, k < n → ∃ o, ops[k]? = some o ∧ (match o.op with | .select _ _ => false | _ => true) = true ∧ (∀ e ∈ o.after, Region.binds .any e = true → e.on < k) ∧
      (∀ d, o.dst = some d → d < len) ∧ ∀ j oj d, j < n → ops[j]? = some oj → oj.dst = some d → (j = k ∨ o.dst ≠ some d) ∧ (d ∈ o.looksAt ops → j < k ∧ ∃ e ∈ o.after, Region.binds .any e = true ∧ e.on = j) := fun k hk => by
    have h1 := List.all_eq_true.1 hB k (List.mem_range.2 hk)
    cases ho : ops[k]? with
    | none => simp [ho] at h1
    | some o =>
      simp only [ho, Bool.and_eq_true] at h1
      obtain ⟨⟨⟨h2, h3⟩, h4⟩, h5⟩ := h1
      refine ⟨o, rfl, h2, fun e he hb => ?_, fun d hd => ?_, fun j oj d hj hoj hd => ?_⟩
      · have := List.all_eq_true.1 h3 e (by simpa using he)
        simp only [hb, Bool.not_true, Bool.false_or, Nat.blt_eq] at this
        exact this
      · simp only [hd, Nat.blt_eq] at h4; exact h4
      · have h6 := List.all_eq_true.1 h5 j (List.mem_range.2 hj)
        simp only [hoj, hd, Bool.and_eq_true, Bool.or_eq_true, Bool.not_eq_true', bne_iff_ne, Nat.blt_eq, List.any_eq_true] at h6
        obtain ⟨h7, h8⟩ := h6
        refine ⟨h7.imp Nat.eq_of_beq_eq_true id, fun hm => ?_⟩
        rcases h8 with h8 | ⟨h8, e, he, hb, hj'⟩
        · rw [show (o.looksAt ops).contains d = true from by simpa using hm] at h8; cases h8
        · exact ⟨h8, e, by simpa using he, hb, Nat.eq_of_beq_eq_true hj'⟩
  refine ⟨fun k hk => (key k hk).imp fun o h => h.1, fun k o hk ho cs b hop => ?_, fun k o hk ho e he hb => ?_, fun k o d hk ho hd => ?_, fun k o j oj d hk hj ho hoj hd hne => ?_, fun k o j oj d hk hj ho hoj hd hm => ?_⟩ <;>
    obtain ⟨o', ho', h2, h3, h4, h5⟩ := key k hk <;> (rw [ho] at ho'; injection ho' with ho'; subst ho')
  · rw [hop] at h2; cases h2
  · exact h3 e he hb
  · exact h4 d hd
  · exact (h5 j oj d hj hoj hd).1.resolve_left hne
  · exact (h5 j oj d hj hoj hd).2 hm
/-! ### How many aren't done -/
def cntU (listed : Array Bool) : Nat → Nat
  | 0 => 0
  | m + 1 => cntU listed m + (if listed.getD m false = true then 0 else 1)
theorem cntU_beyond {listed : Array Bool} {k : Nat} : ∀ {m : Nat}, m ≤ k → cntU (listed.setIfInBounds k true) m = cntU listed m
  | 0, _ => rfl
  | m + 1, h => by
    simp only [cntU]
    rw [cntU_beyond (m := m) (by omega), getD_set_ne false (show k ≠ m by omega)]
theorem cntU_set {listed : Array Bool} {k : Nat} (hk : k < listed.size) (hu : listed.getD k false = false) : ∀ {m : Nat}, k < m → cntU (listed.setIfInBounds k true) m + 1 = cntU listed m
  | 0, h => by omega
  | m + 1, h => by
    simp only [cntU]
    by_cases e : k = m
    · subst e
      rw [cntU_beyond (Nat.le_refl _), hu, show (listed.setIfInBounds k true).getD k false = true by simp [hk]]
      simp
    · rw [getD_set_ne false e]
      have := cntU_set hk hu (m := m) (by omega)
      omega
theorem cntU_zero {listed : Array Bool} : ∀ {m : Nat}, cntU listed m = 0 → ∀ k, k < m → listed.getD k false = true
  | 0, _, k, hk => by omega
  | m + 1, h, k, hk => by
    simp only [cntU] at h
    by_cases e : k = m
    · subst e
      by_cases hl : listed.getD k false = true
      · exact hl
      · rw [if_neg hl] at h; omega
    · exact cntU_zero (m := m) (by omega) k (by omega)
theorem cntU_first {listed : Array Bool} : ∀ {m : Nat}, cntU listed m ≠ 0 → ∃ k, k < m ∧ listed.getD k false = false ∧ ∀ j, j < k → listed.getD j false = true
  | 0, h => absurd rfl h
  | m + 1, h => by
    by_cases h0 : cntU listed m = 0
    · refine ⟨m, by omega, ?_, fun j hj => cntU_zero h0 j hj⟩
      cases hl : listed.getD m false with
      | false => rfl
      | true => simp only [cntU] at h; rw [if_pos hl] at h; omega
    · obtain ⟨k, h1, h2, h3⟩ := cntU_first h0
      exact ⟨k, by omega, h2, h3⟩
theorem cntU_rep (s : Nat) : ∀ m, cntU (Array.replicate s false) m = m
  | 0 => rfl
  | m + 1 => by simp only [cntU]; rw [cntU_rep s m, getD_replicate_false]; simp
end Go.Proofs.Ytgnkhncogfppgaa
