import Derived.Test.YtgnkhncogfppgaaQ7
namespace Go.Proofs.Ytgnkhncogfppgaa
open Go.RowKit
section
variable {P : Program} {ops : Array Oper} {w0 : World} {h : Nat} {l : List Value} {ds : List Deferred} {Sx : Nat → Bool} {Ψ : (Nat → Bool) → (Nat → Value) → World → Prop} {End : List (Nat × Value) → Prop} {Q : Exit → Act → World → Prop}
theorem stepG_congr {o : Oper} {a a' : Act} {W : World} {good : Value → World → Prop} (hs : ∀ cs b, o.op ≠ .select cs b) (he : ∀ t ∈ o.looksAt ops, a.tmps[t]? = a'.tmps[t]?) (hg : stepG P ops o a W good) : stepG P ops o a' W good := by
  have h1 : execOp a'.eval o = execOp a.eval o := (execOp_congr o hs fun x hx => by
    cases x with
    | tmp t =>
      have := he t (List.mem_append_left _ (List.mem_filterMap.2 ⟨.tmp t, by simpa using hx, rfl⟩))
      show a.tmps.getD t undef = a'.tmps.getD t undef
      rw [Array.getD_eq_getD_getElem?, Array.getD_eq_getD_getElem?, this]
    | _ => rfl).symm
  have h2 : Region.wanted o (yielded ops a'.tmps) = Region.wanted o (yielded ops a.tmps) := by
    unfold Region.wanted
    cases hgd : o.guard with
    | none => rfl
    | some gw =>
      obtain ⟨g, want⟩ := gw
      have hy : yielded ops a'.tmps g = yielded ops a.tmps g := by
        unfold yielded
        cases ht : (ops[g]?).bind (·.dst) with
        | none => rfl
        | some t =>
          have := he t (by simp [Oper.looksAt, hgd, ht])
          simp only [Option.bind_some, this]
      simp only [hy]
  unfold stepG at *
  rw [h1, h2]
  exact hg
theorem stepG_op {o : Oper} {a : Act} {W : World} {k : Nat} {good : Value → World → Prop} {K : Act → World → Prop} (ho : ops[k]? = some o) (hg : stepG P ops o a W good) (hK : ∀ u W', good u W' → K (a.put o.dst u) W') : wpOp P ops Q k K a W := by
  unfold wpOp
  simp only [ho]
  rcases hg with ⟨hw, hg⟩ | ⟨hw, hg⟩
  · rw [if_pos hw]
    refine .inl ?_
    unfold Oper.wp
    generalize (execOp a.eval o).run P W = r at *
    cases r with
    | ok nx w' =>
      cases nx <;> simp only [gUpon] at hg <;> simp only [Oper.upon]
      case value u => exact hK u w' hg
      case skip => exact hK undef w' hg
      case enter f args =>
        refine hg.mono fun e w'' ⟨v, he, hv⟩ => ?_
        subst he
        exact hK v w'' hv
    | halt x w' => simp only [gUpon] at hg
  · rw [if_neg (by rw [hw]; exact Bool.false_ne_true)]
    exact hK undef W hg
structure GInv (ops : Array Oper) (w0 : World) (h : Nat) (l : List Value) (ds : List Deferred) (Ψ : (Nat → Bool) → (Nat → Value) → World → Prop) (n : Nat) (Ss : List Sp) (listed : Array Bool) (a : Act) (W : World) (ρ : Nat → Value) : Prop where
  hi : HeadInv .any ops n listed
  bw : Below h w0 W
  df : a.defers = ds
  sz : a.tmps.size = l.length
  psi : Ψ (fun k => listed.getD k false) ρ W
  val : ∀ k o S, k < n → ops[k]? = some o → Ss[k]? = some S → listed.getD k false = true → S.ok (ρ k) ∧ ∀ d, o.dst = some d → a.tmps[d]? = some (ρ k)
  els : ∀ t, (∀ k o, k < n → ops[k]? = some o → listed.getD k false = true → o.dst ≠ some t) → a.tmps[t]? = l[t]?
/-- Values for all: those that are there, and any that fit. -/
theorem fill {Ss : List Sp} (hw : ∀ (i : Nat) (S : Sp), Ss[i]? = some S → ∃ v, S.ok v) (done : Nat → Bool) (ρ : Nat → Value) (hd : ∀ (i : Nat) (S : Sp), Ss[i]? = some S → done i = true → S.ok (ρ i)) : ∃ vs : Nat → Value, (∀ (i : Nat) (S : Sp), Ss[i]? = some S → S.ok (vs i)) ∧ ∀ i, i < Ss.length → done i = true → vs i = ρ i := by
  have : ∀ i : Nat, ∃ v, (∀ S : Sp, Ss[i]? = some S → S.ok v) ∧ (i < Ss.length → done i = true → v = ρ i) := fun i => by
    cases hS : Ss[i]? with
    | none => exact ⟨ρ i, fun S h => by simp at h, fun hi => by rw [List.getElem?_eq_none_iff] at hS; omega⟩
    | some S =>
      by_cases hdi : done i = true
      · exact ⟨ρ i, fun S' h => by injection h with h; subst h; exact hd i S hS hdi, fun _ _ => rfl⟩
      · obtain ⟨v, hv⟩ := hw i S hS
        exact ⟨v, fun S' h => by injection h with h; subst h; exact hv, fun _ h => absurd h hdi⟩
  obtain ⟨vs, hvs⟩ := Classical.axiomOfChoice this
  exact ⟨vs, fun i => (hvs i).1, fun i => (hvs i).2⟩
theorem fr_look {n : Nat} {vs : Nat → Value} {k t : Nat} (hok : HeadOK ops n l.length) (hk : k ≤ n) {hd : List Oper} (hhd : ∀ j, j < n → hd[j]? = ops[j]?) (hlen : hd.length = n) :
    ((∀ (j : Nat) (o : Oper), j < k → ops[j]? = some o → o.dst ≠ some t) → (app l (ovs vs 0 (hd.take k) [])).toArray[t]? = l[t]?) ∧
    (∀ (j : Nat) (o : Oper), j < k → ops[j]? = some o → o.dst = some t → (app l (ovs vs 0 (hd.take k) [])).toArray[t]? = some (vs j)) := by
  have htk : ∀ j, j < k → (hd.take k)[j]? = ops[j]? := fun j hj => by rw [List.getElem?_take, if_pos hj, hhd j (by omega)]
  have hin : ∀ (j : Nat) (o : Oper), (hd.take k)[j]? = some o → j < k ∧ ops[j]? = some o := fun j o hj => by
    have hjk : j < k := by
      have := (List.getElem?_eq_some_iff.1 hj).1
      simp at this; omega
    exact ⟨hjk, by rw [← htk j hjk]; exact hj⟩
  have hst : StO l (ovs vs 0 (hd.take k) []) := sto_ovs (fun p hp => by cases hp) fun j o d hj hd' => by
    obtain ⟨h1, h2⟩ := hin j o hj
    exact hok.room j o d (by omega) h2 hd'
  have e : ∀ t, (app l (ovs vs 0 (hd.take k) [])).toArray[t]? = lk l (ovs vs 0 (hd.take k) []) t := fun t => by rw [← lk_app hst t]; simp
  rw [e]
  constructor
  · intro hne
    rw [lk_ovs_none fun j o hj => by obtain ⟨h1, h2⟩ := hin j o hj; exact hne j o h1 h2]
    rfl
  · intro j o hj ho hd'
    rw [lk_ovs_some (j := j) (o := o) (by rw [htk j hj]; exact ho) hd' fun j' o' hne ho' hd2 => by
      obtain ⟨h1, h2⟩ := hin j' o' ho'
      exact hok.dist j' o' j o t (by omega) (by omega) h2 ho hd' (fun e => hne e.symm) hd2, Nat.zero_add]
/-- ONE STEP. -/
theorem LG_step {n : Nat} {Ss : List Sp} {hd : List Oper} (hok : HeadOK ops n l.length) (hhd : ∀ j, j < n → hd[j]? = ops[j]?) (hlen : hd.length = n) (hns : n ≤ ops.size) (hh : h ≤ w0.heap.size)
    (stab : ∀ Λ ρ W W' k v, Sx k = false → Below W.heap.size W W' → h ≤ W.heap.size → Ψ Λ ρ W → Ψ (up Λ k true) (up ρ k v) W')
    (hLG : LG P ops w0 h l ds Sx Ψ End 0 hd Ss []) {listed : Array Bool} {a : Act} {W : World} {ρ : Nat → Value} (inv : GInv ops w0 h l ds Ψ n Ss listed a W ρ)
    {k : Nat} (hk : k < n) (hr : k ∈ Region.ready .any ops listed) {K : Act → World → Prop} (hK : ∀ a' W' ρ', GInv ops w0 h l ds Ψ n Ss (listed.setIfInBounds k true) a' W' ρ' → K a' W') : wpOp P ops Q k K a W := by
  obtain ⟨hun0, o, ho, hall⟩ := mem_ready.1 hr
  have hun := getD_both hun0
  have hwt := LG_wit hLG
  have hlS := LG_len hLG
  obtain ⟨S, hS⟩ : ∃ S, Ss[k]? = some S := ⟨_, List.getElem?_eq_getElem (by omega)⟩
  obtain ⟨vs, hvs, hvd⟩ := fill hwt (fun j => listed.getD j false) ρ (fun i S' hi hdn => by
    have hin : i < n := by have := (List.getElem?_eq_some_iff.1 hi).1; omega
    obtain ⟨oi, hoi⟩ := hok.op i hin
    exact (inv.val i oi S' hin hoi hi hdn).1)
  have hkl : k < listed.size := by rw [inv.hi.size]; omega
  have hst : StO l (ovs vs 0 (hd.take k) []) := sto_ovs (fun p hp => by cases hp) fun j o' d hj hd' => by
    have hjk : j < k := by have := (List.getElem?_eq_some_iff.1 hj).1; simp at this; omega
    rw [List.getElem?_take, if_pos hjk, hhd j (by omega)] at hj
    exact hok.room j o' d (by omega) hj hd'
  have hobl := LG_at hLG vs (fun i S' hi => by rw [Nat.zero_add]; exact hvs i S' hi) k o S (by rw [hhd k hk]; exact ho) hS hst
  rw [Nat.zero_add] at hobl
  -- the frame, where the operation looks
  have hag : ∀ t ∈ o.looksAt ops, (fr l ds (ovs vs 0 (hd.take k) [])).tmps[t]? = a.tmps[t]? := fun t ht => by
    obtain ⟨f1, f2⟩ := fr_look (vs := vs) (t := t) hok (Nat.le_of_lt hk) hhd hlen
    by_cases hex : ∃ j oj, j < n ∧ ops[j]? = some oj ∧ oj.dst = some t
    · obtain ⟨j, oj, hj, hoj, hdj⟩ := hex
      obtain ⟨hjk, e, he, hb, heq⟩ := hok.deps k o j oj t hk hj ho hoj hdj ht
      have hlj : listed.getD j false = true := by rw [← heq]; exact hall e he hb
      show (app l (ovs vs 0 (hd.take k) [])).toArray[t]? = _
      rw [f2 j oj hjk hoj hdj, hvd j (by omega) hlj]
      obtain ⟨S', hS'⟩ : ∃ S', Ss[j]? = some S' := ⟨_, List.getElem?_eq_getElem (by omega)⟩
      exact ((inv.val j oj S' hj hoj hS' hlj).2 t hdj).symm
    · show (app l (ovs vs 0 (hd.take k) [])).toArray[t]? = _
      rw [f1 fun j oj hj hoj hdj => hex ⟨j, oj, by omega, hoj, hdj⟩]
      exact (inv.els t fun j oj hj hoj _ hdj => hex ⟨j, oj, hj, hoj, hdj⟩).symm
  have hsel := hok.sel k o hk ho
  have hset : (fun j => (listed.setIfInBounds k true).getD j false) = up (fun j => listed.getD j false) k true := by
    funext j
    by_cases hj : j = k
    · subst hj; rw [up_same]; simp [hkl]
    · rw [up_ne _ _ hj, getD_set_ne false (Ne.symm hj)]
  have hnew : ∀ u W', S.ok u → Below h w0 W' → Ψ (up (fun j => listed.getD j false) k true) (up ρ k u) W' → K (a.put o.dst u) W' := fun u W' hu hb hp => by
    refine hK _ _ (up ρ k u) ⟨inv.hi.set hr hk, hb, ?_, ?_, by rw [hset]; exact hp, fun j oj S' hj hoj hS' hl => ?_, fun t hne => ?_⟩
    · cases o.dst <;> exact inv.df
    · cases o.dst with
      | none => exact inv.sz
      | some d => simp [Act.put, inv.sz]
    · by_cases hjk : j = k
      · subst hjk
        rw [ho] at hoj; injection hoj with hoj; subst hoj
        rw [hS] at hS'; injection hS' with hS'; subst hS'
        refine ⟨by rw [up_same]; exact hu, fun d hd' => ?_⟩
        have hdl := hok.room j o d hj ho hd'
        rw [up_same, hd']
        simp [Act.put, inv.sz, hdl]
      · have hl' : listed.getD j false = true := by rwa [getD_set_ne false (Ne.symm hjk)] at hl
        obtain ⟨h1, h2⟩ := inv.val j oj S' hj hoj hS' hl'
        rw [up_ne _ _ hjk]
        refine ⟨h1, fun d hd' => ?_⟩
        have hne := hok.dist k o j oj d hk hj ho hoj hd' hjk
        rw [← h2 d hd']
        cases hod : o.dst with
        | none => rfl
        | some d' =>
          have : d' ≠ d := fun e => hne (by rw [hod, e])
          simp [Act.put, Array.getElem?_setIfInBounds_ne this]
    · have hk2 := hne k o hk ho (by simp [hkl])
      have hold := inv.els t fun j oj hj hoj hl => hne j oj hj hoj (by
        by_cases hjk : j = k
        · subst hjk; rw [hun] at hl; cases hl
        · rw [getD_set_ne false (Ne.symm hjk)]; exact hl)
      rw [← hold]
      cases hod : o.dst with
      | none => rfl
      | some d' =>
        have : d' ≠ t := fun e => hk2 (by rw [hod, e])
        simp [Act.put, Array.getElem?_setIfInBounds_ne this]
  cases S with
  | det v =>
    obtain ⟨hsx, hd1⟩ := hobl
    refine stepG_op ho (stepG_congr hsel hag (hd1 W inv.bw)) fun u W' ⟨hu, hb⟩ => ?_
    have hhW : h ≤ W.heap.size := Nat.le_trans hh inv.bw.size
    exact hnew u W' hu (inv.bw.trans (hb.mono hhW)) (stab _ _ W W' k u hsx hb hhW inv.psi)
  | spc A =>
    refine stepG_op ho (stepG_congr hsel hag (hobl (fun j => listed.getD j false) ρ W inv.bw inv.psi hun hall (fun j oj d hj hoj hdj hl => ?_))) fun u W' ⟨hu, hb, hp⟩ => hnew u W' hu hb hp
    have hst2 := hst
    obtain ⟨_, f2⟩ := fr_look (vs := vs) (t := d) hok (Nat.le_of_lt hk) hhd hlen
    have := f2 j oj hj hoj hdj
    rw [hvd j (by omega) hl] at this
    rw [← lk_app hst2 d]
    simpa using this
end
end Go.Proofs.Ytgnkhncogfppgaa
