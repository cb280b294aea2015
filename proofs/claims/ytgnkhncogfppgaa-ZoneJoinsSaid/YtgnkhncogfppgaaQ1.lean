import Derived.StillTail
import Derived.Test.YtgnkhncogfppgaaW3
/-!
A region that draws its order, whose head only reads, reckons, makes new variables and calls functions that change nothing that is there, and whose tail comes in one order:
one walk of the head in the text's order serves every order. The new variables' addresses are not read in the head; the tail gets them as they are.
-/
namespace Go.Proofs.Ytgnkhncogfppgaa
open Go.RowKit
section
variable {P : Program} {md : Region.Mode} {ops : Array Oper} {w0 : World}
def isNew (o : Oper) : Bool := match o.op with | .alloc _ => true | _ => false
def qUpon (P : Program) (w : World) (v : Value) : Result Next → Prop
  | .ok (.value u) w' => w' = w ∧ u = v
  | .ok .skip w' => w' = w ∧ v = undef
  | .ok (.enter f args) w' => w' = w ∧ Calls P f args w (fun e w'' => e = .returned v ∧ Below w.heap.size w w'')
  | _ => False
def qVal (P : Program) (w0 : World) (o : Oper) (a : Act) (v : Value) : Prop := ∀ w, Below w0.heap.size w0 w → qUpon P w v ((execOp a.eval o).run P w)
def Yld (P : Program) (ops : Array Oper) (w0 : World) (o : Oper) (v : Value) (a : Act) : Prop :=
  (Region.wanted o (yielded ops a.tmps) = true ∧ ((isNew o = true ∧ v = undef) ∨ (isNew o = false ∧ qVal P w0 o a v))) ∨ (Region.wanted o (yielded ops a.tmps) = false ∧ v = undef)
theorem Yld.same {o : Oper} {v : Value} {a a' : Act} (h : Yld P ops w0 o v a) (he : execOp a'.eval o = execOp a.eval o) (hw : Region.wanted o (yielded ops a'.tmps) = Region.wanted o (yielded ops a.tmps)) :
    Yld P ops w0 o v a' := by
  unfold Yld qVal at *
  rw [hw, he]
  exact h
theorem Yld.put {o : Oper} {v u : Value} {a : Act} {d : Option Tmp} (hs : ∀ cs b, o.op ≠ .select cs b) (hd : ∀ t, d = some t → t ∉ o.looksAt ops) (h : Yld P ops w0 o v a) : Yld P ops w0 o v (a.put d u) :=
  h.same (execOp_put o hs a d u hd) (wanted_put o a d u hd)
theorem Yld.unput {o : Oper} {v u : Value} {a : Act} {d : Option Tmp} (hs : ∀ cs b, o.op ≠ .select cs b) (hd : ∀ t, d = some t → t ∉ o.looksAt ops) (h : Yld P ops w0 o v (a.put d u)) : Yld P ops w0 o v a :=
  h.same (execOp_put o hs a d u hd).symm (wanted_put o a d u hd).symm
/-- Whatever order is picked, till the head is done. -/
def anyQ (P : Program) (md : Region.Mode) (ops : Array Oper) (w0 : World) (n : Nat) (L : Array Bool → Act → Prop) : Nat → Array Bool → Act → Prop
  | 0, listed, a => L listed a
  | f + 1, listed, a => Region.ready md ops listed ≠ [] ∧ ∀ i ∈ Region.ready md ops listed, i < n ∧ ∃ o v, ops[i]? = some o ∧ Yld P ops w0 o v a ∧ anyQ P md ops w0 n L f (listed.setIfInBounds i true) (a.put o.dst v)
theorem anyQ_first {n i : Nat} {oi : Oper} {v : Value} {L : Array Bool → Act → Prop} (hi : ops[i]? = some oi) (hsel : ∀ (j : Nat) (o : Oper) cs b, ops[j]? = some o → o.op ≠ .select cs b)
    (hs : Region.sinkB md ops n = true) (hc : Region.chainB md ops n = true) (hn : n < ops.size) (hin : i < n) (hdone : ∀ listed a, L listed a → ∀ j ∈ Region.ready md ops listed, n ≤ j) :
    ∀ (f : Nat) (listed : Array Bool) (a : Act), HeadInv md ops n listed →
      (∀ j oj, ops[j]? = some oj → j ≠ i → listed.getD j true = false → (∀ e ∈ oj.after, Region.binds md e = true → e.on ≠ i) → oi.apart ops oj = true) →
      i ∈ Region.ready md ops listed → Yld P ops w0 oi v a →
      anyQ P md ops w0 n L f (listed.setIfInBounds i true) (a.put oi.dst v) → anyQ P md ops w0 n L (f + 1) listed a
  | 0, listed, a, inv, _, hr, hy, H => by
    have hun := (mem_ready.1 hr).1
    refine ⟨List.ne_nil_of_mem hr, fun j hj => ?_⟩
    have hjn : j < n := Nat.lt_of_not_le fun h => tail_waits hs hc hn inv _ i rfl hin hun j h hj
    by_cases hji : j = i
    · subst hji; exact ⟨hjn, oi, v, hi, hy, H⟩
    · have := hdone _ _ H j (ready_mono hj hji); omega
  | f + 1, listed, a, inv, hfree, hr, hy, H => by
    have hun := (mem_ready.1 hr).1
    refine ⟨List.ne_nil_of_mem hr, fun j hj => ?_⟩
    have hjn : j < n := Nat.lt_of_not_le fun h => tail_waits hs hc hn inv _ i rfl hin hun j h hj
    refine ⟨hjn, ?_⟩
    by_cases hji : j = i
    · subst hji; exact ⟨oi, v, hi, hy, H⟩
    · obtain ⟨_, oj, u, hoj, hyj, H2⟩ := H.2 j (ready_mono hj hji)
      obtain ⟨hjun, oj', hoj', hall⟩ := mem_ready.1 hj
      obtain rfl : oj = oj' := Option.some.inj (hoj.symm.trans hoj')
      have hnot : ∀ e ∈ oj.after, Region.binds md e = true → e.on ≠ i := fun e he hb heq => by
        have h1 := hall e he hb
        rw [heq, getD_both hun] at h1
        cases h1
      obtain ⟨p1, p2, p3⟩ := Oper.apart_spec (hfree j oj hoj hji hjun hnot)
      refine ⟨oj, u, hoj, hyj.unput (fun cs b => hsel j oj cs b hoj) p1, ?_⟩
      refine anyQ_first hi hsel hs hc hn hin hdone f (listed.setIfInBounds j true) (a.put oj.dst u) (inv.set hj hjn) (fun k ok hk hki hku hno => hfree k ok hk hki ?_ hno) (ready_mono hr (Ne.symm hji))
        (hy.put (fun cs b => hsel i oi cs b hi) p3) ?_
      · by_cases hjk : j = k
        · subst hjk; exact hjun
        · rw [getD_set_ne true hjk] at hku; exact hku
      · rw [Array.setIfInBounds_comm _ _ hji, ← Act.put_comm a v u p2]
        exact H2
/-- The head in the text's order. -/
def lexQ (P : Program) (ops : Array Oper) (w0 : World) (L : Act → Prop) : List Oper → Act → Prop
  | [], a => L a
  | o :: rest, a => ∃ v, Yld P ops w0 o v a ∧ lexQ P ops w0 L rest (a.put o.dst v)
theorem anyQ_lex {n g : Nat} {Lq : Act → Prop} (hsel : Region.noSelect ops = true) (hs : Region.sinkB md ops n = true) (hc : Region.chainB md ops n = true) (hn : n < ops.size) :
    ∀ (l : List Oper) (k : Nat) (listed : Array Bool) (a : Act), (∀ j, j < l.length → l[j]? = ops[k + j]?) → k + l.length = n → HeadInv md ops n listed →
    Region.lexHead md ops g l.length k listed = true → lexQ P ops w0 Lq l a →
    anyQ P md ops w0 n (fun listed' a' => Region.seqB md ops g n listed' = true ∧ Lq a') l.length listed a
  | [], k, listed, a, _, hk, _, hB, h => by
    obtain rfl : k = n := by simpa using hk
    exact ⟨by simpa [Region.lexHead] using hB, h⟩
  | o :: l, k, listed, a, hl, hk, inv, hB, h => by
    have h0 : ops[k]? = some o := by simpa using (hl 0 (by simp)).symm
    simp only [List.length_cons, Region.lexHead, Bool.and_eq_true] at hB
    obtain ⟨⟨hr, hf⟩, hB'⟩ := hB
    have hkn : k < n := by simp only [List.length_cons] at hk; omega
    have hr' : k ∈ Region.ready md ops listed := by simpa using hr
    obtain ⟨v, hy, hK⟩ := h
    refine anyQ_first h0 (Region.noSelect_spec hsel) hs hc hn hkn (fun listed' a' hL => seqB_ready hL.1) l.length listed a inv (Region.free_spec h0 hf) hr' hy
      (anyQ_lex hsel hs hc hn l (k + 1) _ _ (fun j hj => ?_) (by simp only [List.length_cons] at hk; omega) (inv.set hr' hkn) hB' hK)
    have := hl (j + 1) (by simp only [List.length_cons]; omega)
    simpa [Nat.add_assoc, Nat.add_comm 1 j] using this
/-! What was made new, in the order in which it was made: the operation's number, the block's. -/
def putsN (ops : Array Oper) : List (Nat × Nat) → Act → Act
  | [], a => a
  | (k, r) :: L, a => (putsN ops L a).put ((ops[k]?).bind (·.dst)) (.pointer (some ⟨r, 0, none⟩))
structure NewOK (P : Program) (ops : Array Oper) (w0 : World) (listed : Array Bool) (L : List (Nat × Nat)) (w : World) : Prop where
  each : ∀ k r, (k, r) ∈ L → ∃ o T v, ops[k]? = some o ∧ o.op = .alloc T ∧ (P.info? T).bind (·.zero) = some v ∧ w0.heap.size ≤ r ∧ RowAt T w r v.cells
  idx : ∀ k, k ∈ L.map Prod.fst ↔ listed.getD k false = true ∧ ∃ o, ops[k]? = some o ∧ isNew o = true
  nodup : (L.map Prod.fst).Nodup
  dist : (L.map Prod.snd).Nodup
theorem NewOK.on {listed : Array Bool} {L : List (Nat × Nat)} {w w' : World} (h : NewOK P ops w0 listed L w) (hb : Below w.heap.size w w') : NewOK P ops w0 listed L w' :=
  ⟨fun k r hk => let ⟨o, T, v, h1, h2, h3, h4, h5⟩ := h.each k r hk; ⟨o, T, v, h1, h2, h3, h4, h5.on hb⟩, h.idx, h.nodup, h.dist⟩
/-- The new variables of a head: unguarded, their addresses not read there, their zero values known. -/
def newsB (P : Program) (ops : Array Oper) (n : Nat) : Bool :=
  (List.range ops.size).all fun k => match ops[k]? with
    | some o => !isNew o || (o.guard.isNone && (match o.op with | .alloc T => ((P.info? T).bind (·.zero)).isSome | _ => false) && (List.range n).all fun j => j == k || match ops[j]? with
        | some oj => o.apart ops oj
        | none => true)
    | none => true
theorem newsB_spec {n k : Nat} {o : Oper} (h : newsB P ops n = true) (ho : ops[k]? = some o) (hnew : isNew o = true) :
    o.guard = none ∧ (∃ T v, o.op = .alloc T ∧ (P.info? T).bind (·.zero) = some v) ∧ ∀ j oj, j < n → j ≠ k → ops[j]? = some oj → o.apart ops oj = true := by
  have hk : k < ops.size := (Array.getElem?_eq_some_iff.1 ho).1
  have h1 := List.all_eq_true.1 h k (List.mem_range.2 hk)
  simp only [ho, hnew, Bool.not_true, Bool.false_or, Bool.and_eq_true, List.all_eq_true, List.mem_range, Option.isNone_iff_eq_none] at h1
  obtain ⟨⟨h2, h3⟩, h4⟩ := h1
  refine ⟨h2, ?_, fun j oj hj hjk hoj => ?_⟩
  · unfold isNew at hnew
    cases hop : o.op with
    | alloc T =>
      simp only [hop] at h3
      obtain ⟨v, hv⟩ := Option.isSome_iff_exists.1 h3
      exact ⟨T, v, rfl, hv⟩
    | _ => simp [hop] at hnew
  · have := h4 j hj
    simpa [hoj, hjk] using this
theorem Act.put_put (a : Act) (d : Option Tmp) (u v : Value) : (a.put d u).put d v = a.put d v := by
  cases d with
  | none => rfl
  | some d => simp [Act.put]
theorem puts_put {n : Nat} (hN : newsB P ops n = true) {i : Nat} {o : Oper} (hi : ops[i]? = some o) (hin : i < n) (u : Value) (a : Act) : ∀ (L : List (Nat × Nat)),
    (∀ k ∈ L.map Prod.fst, k ≠ i ∧ ∃ ok, ops[k]? = some ok ∧ isNew ok = true) → (putsN ops L a).put o.dst u = putsN ops L (a.put o.dst u)
  | [], _ => rfl
  | (k, r) :: L, h => by
    obtain ⟨hki, ok, hok, hnew⟩ := h k (by simp)
    have hap := (newsB_spec hN hok hnew).2.2 i o hin (Ne.symm hki) hi
    obtain ⟨_, p2, _⟩ := Oper.apart_spec hap
    have ih := puts_put hN hi hin u a L (fun j hj => h j (by simp only [List.map_cons, List.mem_cons]; exact Or.inr hj))
    simp only [putsN, hok, Option.bind_some]
    rw [Act.put_comm _ _ _ p2, ih]
theorem puts_exec {n : Nat} (hN : newsB P ops n = true) {i : Nat} {o : Oper} (hi : ops[i]? = some o) (hin : i < n) (hs : ∀ cs b, o.op ≠ .select cs b) (a : Act) : ∀ (L : List (Nat × Nat)),
    (∀ k ∈ L.map Prod.fst, k ≠ i ∧ ∃ ok, ops[k]? = some ok ∧ isNew ok = true) →
    execOp (putsN ops L a).eval o = execOp a.eval o ∧ Region.wanted o (yielded ops (putsN ops L a).tmps) = Region.wanted o (yielded ops a.tmps)
  | [], _ => ⟨rfl, rfl⟩
  | (k, r) :: L, h => by
    obtain ⟨hki, ok, hok, hnew⟩ := h k (by simp)
    have hap := (newsB_spec hN hok hnew).2.2 i o hin (Ne.symm hki) hi
    obtain ⟨p1, _, _⟩ := Oper.apart_spec hap
    obtain ⟨e1, e2⟩ := puts_exec hN hi hin hs a L (fun j hj => h j (by simp only [List.map_cons, List.mem_cons]; exact Or.inr hj))
    simp only [putsN, hok, Option.bind_some]
    exact ⟨(execOp_put o hs _ _ _ p1).trans e1, (wanted_put o _ _ _ p1).trans e2⟩
theorem anyQ_sim {n g : Nat} {L : Array Bool → Act → Prop} {Q' : Exit → Act → World → Prop} (hsel : ∀ (j : Nat) (o : Oper) cs b, ops[j]? = some o → o.op ≠ .select cs b) (hN : newsB P ops n = true)
    (hL : ∀ listed a, L listed a → HeadInv md ops n listed → ∀ w N, Below w0.heap.size w0 w → NewOK P ops w0 listed N w → wpAny P md ops Q' g listed (putsN ops N a) w) :
    ∀ (f : Nat) (listed : Array Bool) (a : Act), anyQ P md ops w0 n L f listed a → HeadInv md ops n listed → ∀ w N, Below w0.heap.size w0 w → NewOK P ops w0 listed N w → wpAny P md ops Q' (f + g) listed (putsN ops N a) w
  | 0, listed, a, h, inv, w, N, hw, hn => by rw [Nat.zero_add]; exact hL _ _ h inv w N hw hn
  | f + 1, listed, a, h, inv, w, N, hw, hn => by
    have hls := inv.size
    rw [show f + 1 + g = (f + g) + 1 by omega]
    refine ⟨fun h0 => absurd h0 h.1, fun i hi => ?_⟩
    obtain ⟨hin, o, v, ho, hy, H⟩ := h.2 i hi
    have hun := (mem_ready.1 hi).1
    have hilt : i < ops.size := (Array.getElem?_eq_some_iff.1 ho).1
    have hunf : listed.getD i false = false := getD_both hun
    have hks : ∀ k ∈ N.map Prod.fst, k ≠ i ∧ ∃ ok, ops[k]? = some ok ∧ isNew ok = true := fun k hk => by
      obtain ⟨h1, h2⟩ := (hn.idx k).1 hk
      exact ⟨fun e => (by rw [e, hunf] at h1; cases h1), h2⟩
    obtain ⟨e1, e2⟩ := puts_exec hN ho hin (fun cs b => hsel i o cs b ho) a N hks
    have hcomm := fun u => puts_put hN ho hin u a N hks
    have hls' := inv.set hi hin
    have hset : ∀ k, (listed.setIfInBounds i true).getD k false = true ↔ k = i ∨ listed.getD k false = true := fun k => by
      by_cases hki : k = i
      · subst hki; simp [hls, hilt]
      · rw [getD_set_ne false (Ne.symm hki)]; simp [hki]
    -- what was made stays known where nothing new is made
    have hkeep : isNew o = false → ∀ w', Below w.heap.size w w' → NewOK P ops w0 (listed.setIfInBounds i true) N w' := fun hno w' hb => by
      have hn' := hn.on hb
      refine ⟨hn'.each, fun k => ?_, hn'.nodup, hn'.dist⟩
      rw [hset, hn'.idx]
      constructor
      · rintro ⟨h1, h2⟩; exact ⟨Or.inr h1, h2⟩
      · rintro ⟨h1 | h1, ok, h2, h3⟩
        · subst h1
          rw [ho] at h2; injection h2 with h2; subst h2
          rw [hno] at h3; cases h3
        · exact ⟨h1, ok, h2, h3⟩
    unfold wpOp
    simp only [ho]
    rcases hy with ⟨hwt, hy⟩ | ⟨hwt, rfl⟩
    · rw [if_pos (e2.trans hwt)]
      refine .inl ?_
      rcases hy with ⟨hnew, rfl⟩ | ⟨hnew, hq⟩
      · obtain ⟨hg, ⟨T, z, hop, hz⟩, _⟩ := newsB_spec hN ho hnew
        have hr : (Instr.alloc T true (.tuple #[])).run P w = .ok (.pointer (some ⟨w.heap.size, 0, none⟩)) (w.alloc (.cells z.cells T)) := by
          cases hq : P.info? T with
          | none => simp [hq] at hz
          | some ii =>
            have hz' : ii.zero = some z := by simpa [hq] using hz
            simp [Instr.alloc, zeroValue, typeInfo, hq, hz', newVar, newRow, newObj]; rfl
        have hb : Below w.heap.size w (w.alloc (.cells z.cells T)) := (Below.refl _ _).alloc (Nat.le_refl _) _
        have hfin := anyQ_sim hsel hN hL f _ _ H hls' (w.alloc (.cells z.cells T)) ((i, w.heap.size) :: N) (hw.trans (hb.mono hw.size)) (by
          have hn' := hn.on hb
          refine ⟨fun k r hk => ?_, fun k => ?_, ?_, ?_⟩
          · rcases List.mem_cons.1 hk with hk | hk
            · injection hk with h1 h2
              subst h1 h2
              exact ⟨o, T, z, ho, hop, hz, hw.size, Go.heap_alloc_new w _⟩
            · exact hn'.each k r hk
          · rw [hset, List.map_cons, List.mem_cons, hn'.idx]
            constructor
            · rintro (h1 | ⟨h1, h2⟩)
              · subst h1; exact ⟨Or.inl rfl, o, ho, hnew⟩
              · exact ⟨Or.inr h1, h2⟩
            · rintro ⟨h1 | h1, h2⟩
              · exact Or.inl h1
              · exact Or.inr ⟨h1, h2⟩
          · rw [List.map_cons, List.nodup_cons]
            exact ⟨fun hm => (hks i hm).1 rfl, hn'.nodup⟩
          · rw [List.map_cons, List.nodup_cons]
            refine ⟨fun hm => ?_, hn'.dist⟩
            obtain ⟨⟨k, r⟩, hkr, hr⟩ := List.mem_map.1 hm
            obtain ⟨_, _, _, _, _, _, _, hrow⟩ := hn.each k r hkr
            have := hrow.lt
            simp only at hr
            omega)
        simp only [putsN, ho, Option.bind_some] at hfin
        rw [← hcomm, Act.put_put] at hfin
        unfold Oper.wp execOp
        simp only [hop, Sem.run_bind, hr, Sem.run_pure]
        exact hfin
      · have h3 := hq w hw
        rw [← e1] at h3
        unfold Oper.wp
        generalize (execOp (putsN ops N a).eval o).run P w = r at *
        cases r with
        | ok nx w' =>
          cases nx <;> simp only [qUpon] at h3 <;> simp only [Oper.upon]
          case value u =>
            obtain ⟨q1, q2⟩ := h3
            rw [q1, q2, hcomm]
            exact anyQ_sim hsel hN hL f _ _ H hls' w N hw (hkeep hnew w (Below.refl _ _))
          case skip =>
            obtain ⟨q1, q2⟩ := h3
            rw [q1, ← q2, hcomm]
            exact anyQ_sim hsel hN hL f _ _ H hls' w N hw (hkeep hnew w (Below.refl _ _))
          case enter ff args =>
            obtain ⟨q1, hcall⟩ := h3
            rw [q1]
            refine hcall.mono fun e w'' ⟨he, hb⟩ => ?_
            subst he
            show wpAny P md ops Q' (f + g) _ ((putsN ops N a).put o.dst v) w''
            rw [hcomm]
            exact anyQ_sim hsel hN hL f _ _ H hls' w'' N (hw.trans (hb.mono hw.size)) (hkeep hnew w'' hb)
        | halt x w' => simp only [qUpon] at h3
    · rw [if_neg (by rw [e2, hwt]; exact Bool.false_ne_true), hcomm]
      refine anyQ_sim hsel hN hL f _ _ H hls' w N hw (hkeep ?_ w (Below.refl _ _))
      cases hnew : isNew o with
      | false => rfl
      | true =>
        have hg := (newsB_spec hN ho hnew).1
        simp [Region.wanted, hg] at hwt
/-- What a head makes new: numbers of operations. -/
def newsIn (ops : Array Oper) (n : Nat) : List Nat := (List.range n).filter fun k => match ops[k]? with | some o => isNew o | none => false
theorem mem_newsIn {n k : Nat} : k ∈ newsIn ops n ↔ k < n ∧ ∃ o, ops[k]? = some o ∧ isNew o = true := by
  unfold newsIn
  rw [List.mem_filter, List.mem_range]
  cases h : ops[k]? <;> simp
/-- ONE WALK OF THE HEAD SERVES EVERY ORDER. -/
theorem region_head {id : Nat} {Q : Exit → Act → World → Prop} {a : Act} {w : World} {l : List Oper} (n : Nat) (hm : P.follows .mixedOrders = true) (hB : Region.lexTailB .any l.toArray n = true) (hN : newsB P l.toArray n = true)
    (h : lexQ P l.toArray w (fun a' => ∀ w' N, Below w.heap.size w w' → (∀ k r, (k, r) ∈ N → ∃ o T v, l.toArray[k]? = some o ∧ o.op = .alloc T ∧ (P.info? T).bind (·.zero) = some v ∧ w.heap.size ≤ r ∧ RowAt T w' r v.cells) →
      (∀ k, k ∈ N.map Prod.fst ↔ k ∈ newsIn l.toArray n) → (N.map Prod.fst).Nodup → (N.map Prod.snd).Nodup →
      wpList P l.toArray Q (l.drop n) (putsN l.toArray N a') w') (l.take n) a) : (Code.region id l.toArray true).wp P Q a w := by
  simp only [Region.lexTailB, Bool.and_eq_true, decide_eq_true_eq] at hB
  obtain ⟨⟨⟨⟨hsel, hn⟩, hs⟩, hc⟩, hlex⟩ := hB
  have hn' : n < l.length := by simpa using hn
  have htl : (l.take n).length = n := by simp; omega
  have hdl : (l.drop n).length = l.toArray.size - n := by simp
  have inv0 : HeadInv .any l.toArray n (Array.replicate l.toArray.size false) :=
    ⟨by simp, fun j oj _ hl => (by rw [getD_replicate_false] at hl; cases hl), fun t _ ht => getD_in (by simpa using ht) (getD_replicate_false _ _)⟩
  have H := anyQ_lex (md := .any) (g := l.toArray.size - n) hsel hs hc hn (l.take n) 0 _ a (fun j hj => by
    have hj' : j < n := by rw [htl] at hj; exact hj
    simp [hj']) (by simpa using htl) inv0 (by rw [htl]; exact hlex) h
  refine wp_region_any hm ?_
  have := anyQ_sim (Q' := Q) (g := l.toArray.size - n) (Region.noSelect_spec hsel) hN (fun listed a' hL inv w' N hw' hnw => by
    have hall : ∀ k, k < n → listed.getD k false = true := fun k hk => by
      cases hlk : listed.getD k false with
      | true => rfl
      | false =>
        have hg := hL.1
        rw [show l.toArray.size - n = (l.toArray.size - n - 1) + 1 by omega] at hg
        simp only [Region.seqB, Bool.and_eq_true, decide_eq_true_eq] at hg
        exact absurd (by rw [hg.1]; simp) (tail_waits hs hc hn inv _ k rfl hk (getD_in (by rw [inv.size]; simp; omega) hlk) n (Nat.le_refl _))
    have hidx : ∀ k, k ∈ N.map Prod.fst ↔ k ∈ newsIn l.toArray n := fun k => by
      rw [hnw.idx, mem_newsIn]
      constructor
      · rintro ⟨h1, h2⟩
        refine ⟨Nat.lt_of_not_le fun hk => ?_, h2⟩
        obtain ⟨o, ho, _⟩ := h2
        have h3 := inv.tail k hk (Array.getElem?_eq_some_iff.1 ho).1
        rw [getD_both h3] at h1; cases h1
      · rintro ⟨h1, h2⟩; exact ⟨hall k h1, h2⟩
    have := wpAny_of_seq (md := .any) (Q' := Q) (l.drop n) n listed (putsN l.toArray N a') w' (fun j => by simp [List.getElem?_drop]) (by rw [hdl]; exact hL.1) (hL.2 w' N hw' hnw.each hidx hnw.nodup hnw.dist)
    rwa [hdl] at this) _ _ _ H inv0 { w with drawn := w.drawn + 1 } [] ⟨rfl, rfl, rfl, Nat.le_refl _, fun _ _ => rfl⟩ ⟨fun k r hk => by simp at hk, fun k => ⟨fun h => by simp at h, fun ⟨h, _⟩ => by rw [getD_replicate_false] at h; cases h⟩, by simp, by simp⟩
  rw [htl, show n + (l.toArray.size - n) = l.toArray.size by omega] at this
  exact this
section
variable {id : Nat} {Q : Exit → Act → World → Prop} {a : Act} {w : World} {l : List Oper}
theorem lexQ_mono {L L' : Act → Prop} (h : ∀ a, L a → L' a) : ∀ (l : List Oper) (a : Act), lexQ P ops w0 L l a → lexQ P ops w0 L' l a
  | [], a, hh => h a hh
  | _ :: l, _, ⟨v, h1, h2⟩ => ⟨v, h1, lexQ_mono h l _ h2⟩
/-- A head that makes nothing new. -/
theorem head0 (n : Nat) (hm : P.follows .mixedOrders = true) (hB : Region.lexTailB .any l.toArray n = true) (hN : newsB P l.toArray n = true) (h0 : newsIn l.toArray n = [])
    (h : lexQ P l.toArray w (fun a' => ∀ w', Below w.heap.size w w' → wpList P l.toArray Q (l.drop n) a' w') (l.take n) a) : (Code.region id l.toArray true).wp P Q a w :=
  region_head n hm hB hN (lexQ_mono (fun a' ha w' N hb _ hidx _ _ => by
    cases N with
    | nil => exact ha w' hb
    | cons x N => have := (hidx x.1).1 (by simp); rw [h0] at this; cases this) _ _ h)
/-- A head that makes one variable. -/
theorem head1 (n : Nat) (hm : P.follows .mixedOrders = true) (hB : Region.lexTailB .any l.toArray n = true) (hN : newsB P l.toArray n = true) (k : Nat) (h1 : newsIn l.toArray n = [k])
    (o : Oper) (ho : l.toArray[k]? = some o) (T : TypeId) (hT : o.op = .alloc T) (v : Value) (hv : (P.info? T).bind (·.zero) = some v)
    (h : lexQ P l.toArray w (fun a' => ∀ w' r, Below w.heap.size w w' → w.heap.size ≤ r → RowAt T w' r v.cells → wpList P l.toArray Q (l.drop n) (a'.put o.dst (.pointer (some ⟨r, 0, none⟩))) w') (l.take n) a) :
    (Code.region id l.toArray true).wp P Q a w :=
  region_head n hm hB hN (lexQ_mono (fun a' ha w' N hb heach hidx hnd _ => by
    have hk : k ∈ N.map Prod.fst := (hidx k).2 (by rw [h1]; simp)
    have hN1 : ∃ r, N = [(k, r)] := by
      match N, hnd, hidx, hk with
      | [(k', r)], _, hidx, _ =>
        have := (hidx k').1 (by simp)
        rw [h1] at this
        exact ⟨r, by simp at this; rw [this]⟩
      | (k1, r1) :: (k2, r2) :: N', hnd, hidx, _ =>
        have e1 := (hidx k1).1 (by simp)
        have e2 := (hidx k2).1 (by simp)
        rw [h1] at e1 e2
        simp at e1 e2
        subst e1; subst e2
        simp at hnd
    obtain ⟨r, rfl⟩ := hN1
    obtain ⟨o', T', v', g1, g2, g3, g4, g5⟩ := heach k r (by simp)
    rw [ho] at g1; injection g1 with g1; subst g1
    rw [hT] at g2; injection g2 with g2; subst g2
    rw [hv] at g3; injection g3 with g3; subst g3
    have := ha w' r hb g4 g5
    simpa only [putsN, ho, Option.bind_some] using this) _ _ h)
/-- A head that makes two variables. -/
theorem head2 (n : Nat) (hm : P.follows .mixedOrders = true) (hB : Region.lexTailB .any l.toArray n = true) (hN : newsB P l.toArray n = true) (k1 k2 : Nat) (h1 : newsIn l.toArray n = [k1, k2]) (hne : k1 ≠ k2)
    (o1 o2 : Oper) (ho1 : l.toArray[k1]? = some o1) (ho2 : l.toArray[k2]? = some o2) (hd : ∀ d, o1.dst = some d → o2.dst ≠ some d) (T1 T2 : TypeId) (hT1 : o1.op = .alloc T1) (hT2 : o2.op = .alloc T2)
    (v1 v2 : Value) (hv1 : (P.info? T1).bind (·.zero) = some v1) (hv2 : (P.info? T2).bind (·.zero) = some v2)
    (h : lexQ P l.toArray w (fun a' => ∀ w' r1 r2, Below w.heap.size w w' → w.heap.size ≤ r1 → w.heap.size ≤ r2 → r1 ≠ r2 → RowAt T1 w' r1 v1.cells → RowAt T2 w' r2 v2.cells →
      wpList P l.toArray Q (l.drop n) ((a'.put o1.dst (.pointer (some ⟨r1, 0, none⟩))).put o2.dst (.pointer (some ⟨r2, 0, none⟩))) w') (l.take n) a) :
    (Code.region id l.toArray true).wp P Q a w :=
  region_head n hm hB hN (lexQ_mono (fun a' ha w' N hb heach hidx hnd hds => by
    have hk1 : k1 ∈ N.map Prod.fst := (hidx k1).2 (by rw [h1]; simp)
    have hk2 : k2 ∈ N.map Prod.fst := (hidx k2).2 (by rw [h1]; simp)
    have hN1 : ∃ r1 r2, N = [(k1, r1), (k2, r2)] ∨ N = [(k2, r2), (k1, r1)] := by
      match N, hnd, hidx, hk1, hk2 with
      | [(k, r)], _, _, hk1, hk2 => simp at hk1 hk2; omega
      | [(a1, r1), (a2, r2)], hnd, hidx, hk1, hk2 =>
        simp at hk1 hk2 hnd
        rcases hk1 with rfl | rfl
        · rcases hk2 with rfl | rfl
          · exact absurd rfl hne
          · exact ⟨r1, r2, Or.inl rfl⟩
        · rcases hk2 with rfl | rfl
          · exact ⟨r2, r1, Or.inr rfl⟩
          · exact absurd rfl hne
      | (a1, r1) :: (a2, r2) :: (a3, r3) :: N', hnd, hidx, _, _ =>
        have e1 := (hidx a1).1 (by simp)
        have e2 := (hidx a2).1 (by simp)
        have e3 := (hidx a3).1 (by simp)
        rw [h1] at e1 e2 e3
        simp at e1 e2 e3 hnd
        omega
    obtain ⟨r1, r2, hN12⟩ := hN1
    have m1 : (k1, r1) ∈ N := by rcases hN12 with rfl | rfl <;> simp
    have m2 : (k2, r2) ∈ N := by rcases hN12 with rfl | rfl <;> simp
    have hr : r1 ≠ r2 := by rcases hN12 with rfl | rfl <;> simp at hds <;> omega
    obtain ⟨o', T', v', g1, g2, g3, g4, g5⟩ := heach k1 r1 m1
    obtain ⟨o'', T'', v'', q1, q2, q3, q4, q5⟩ := heach k2 r2 m2
    rw [ho1] at g1; injection g1 with g1; subst g1
    rw [hT1] at g2; injection g2 with g2; subst g2
    rw [hv1] at g3; injection g3 with g3; subst g3
    rw [ho2] at q1; injection q1 with q1; subst q1
    rw [hT2] at q2; injection q2 with q2; subst q2
    rw [hv2] at q3; injection q3 with q3; subst q3
    have := ha w' r1 r2 hb g4 q4 hr g5 q5
    rcases hN12 with rfl | rfl
    · simp only [putsN, ho1, ho2, Option.bind_some]
      rw [← Act.put_comm _ _ _ hd]
      exact this
    · simpa only [putsN, ho1, ho2, Option.bind_some] using this) _ _ h)
variable {o : Oper} {rest : List Oper} {L : Act → Prop}
theorem lex_skip (hw : Region.wanted o (yielded ops a.tmps) = false) (h : lexQ P ops w0 L rest (a.put o.dst undef)) : lexQ P ops w0 L (o :: rest) a := ⟨undef, .inr ⟨hw, rfl⟩, h⟩
theorem lex_new (hw : Region.wanted o (yielded ops a.tmps) = true) (hn : isNew o = true) (h : lexQ P ops w0 L rest (a.put o.dst undef)) : lexQ P ops w0 L (o :: rest) a := ⟨undef, .inl ⟨hw, .inl ⟨hn, rfl⟩⟩, h⟩
theorem lex_val (hw : Region.wanted o (yielded ops a.tmps) = true) (hn : isNew o = false) (v : Value) (hr : ∀ W, Below w0.heap.size w0 W → (execOp a.eval o).run P W = .ok (.value v) W)
    (h : lexQ P ops w0 L rest (a.put o.dst v)) : lexQ P ops w0 L (o :: rest) a := ⟨v, .inl ⟨hw, .inr ⟨hn, fun W hW => by rw [hr W hW]; exact ⟨rfl, rfl⟩⟩⟩, h⟩
/-- What does not look at the world. -/
theorem lex_pure (hw : Region.wanted o (yielded ops a.tmps) = true) (hn : isNew o = false) (v : Value) (hr : ∀ W, (execOp a.eval o).run P W = .ok (.value v) W)
    (h : lexQ P ops w0 L rest (a.put o.dst v)) : lexQ P ops w0 L (o :: rest) a := lex_val hw hn v (fun W _ => hr W) h
theorem lex_move (hw : Region.wanted o (yielded ops a.tmps) = true) (x : Operand) (ho : o.op = .move x) (h : lexQ P ops w0 L rest (a.put o.dst (a.eval x))) : lexQ P ops w0 L (o :: rest) a :=
  lex_pure hw (by simp [isNew, ho]) _ (fun W => by unfold execOp; simp only [ho]; rfl) h
theorem lex_assign (hw : Region.wanted o (yielded ops a.tmps) = true) (x : Operand) (ho : o.op = .assign x) (h : lexQ P ops w0 L rest (a.put o.dst (a.eval x))) : lexQ P ops w0 L (o :: rest) a :=
  lex_pure hw (by simp [isNew, ho]) _ (fun W => by unfold execOp; simp only [ho]; rfl) h
theorem lex_call (hw : Region.wanted o (yielded ops a.tmps) = true) (hn : isNew o = false) (f : FuncId) (args : Array Value) (hr : ∀ W, (execOp a.eval o).run P W = .ok (.enter f args) W) (v : Value)
    (hc : ∀ W, Below w0.heap.size w0 W → Calls P f args W (Ret W v)) (h : lexQ P ops w0 L rest (a.put o.dst v)) : lexQ P ops w0 L (o :: rest) a :=
  ⟨v, .inl ⟨hw, .inr ⟨hn, fun W hW => by rw [hr W]; exact ⟨rfl, hc W hW⟩⟩⟩, h⟩
theorem lex_load_row (hw : Region.wanted o (yielded ops a.tmps) = true) (ty : TypeId) (x : Operand) (ho : o.op = .load ty x) (g : Nat) (hx : a.eval x = .pointer (some ⟨g, 0, none⟩)) (d : TypeDesc) (hu : P.underlying ty = some d)
    (hd : (match d with | .struct _ | .array _ _ => true | _ => false) = true) {T : TypeId} {cs : Array Value} (hz : RowAt T w0 g cs) (hi : (P.info? ty).map (·.size) = some cs.size)
    (h : lexQ P ops w0 L rest (a.put o.dst (.agg cs))) : lexQ P ops w0 L (o :: rest) a :=
  lex_val hw (by simp [isNew, ho]) _ (fun W hW => by
    unfold execOp
    simp only [ho, hx, Instr.loadAt, Instr.sureAddr, Sem.run_bind, Sem.run_pure, Result.andThen_ok, run_loadVar_row W g T ty cs _ d (hz.on hW) hu hd hi]) h
/-- A single cell. -/
theorem lex_load_cell (hw : Region.wanted o (yielded ops a.tmps) = true) (ty : TypeId) (x : Operand) (ho : o.op = .load ty x) (g k : Nat) (hx : a.eval x = .pointer (some ⟨g, k, none⟩)) (d : TypeDesc) (hu : P.underlying ty = some d)
    (hd : (match d with | .struct _ | .array _ _ => true | _ => false) = false) {v : Value} (hz : w0.cell? ⟨g, k, none⟩ = some v)
    (h : lexQ P ops w0 L rest (a.put o.dst v)) : lexQ P ops w0 L (o :: rest) a :=
  lex_val hw (by simp [isNew, ho]) _ (fun W hW => by
    have hc : W.cell? ⟨g, k, none⟩ = some v := (hW.cell (p := ⟨g, k, none⟩) (block_lt_of_cell hz)).trans hz
    have hagg : (isAgg ty).run P W = .ok false W := by
      unfold isAgg
      rw [Sem.run_bind, run_underlying hu W]
      cases d <;> simp_all
    have hl : (load ⟨g, k, none⟩).run P W = .ok v W := by
      unfold load
      rw [Sem.run, hc]; rfl
    unfold execOp
    simp only [ho, hx, Instr.loadAt, Instr.sureAddr, Sem.run_bind, Sem.run_pure, Result.andThen_ok, loadVar, hagg, Bool.false_eq_true, if_false, hl]) h
end
end
end Go.Proofs.Ytgnkhncogfppgaa
