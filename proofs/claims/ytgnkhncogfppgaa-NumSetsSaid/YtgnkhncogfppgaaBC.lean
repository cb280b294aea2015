import Derived.StillTail
import Derived.Test.YtgnkhncogfppgaaBB
import Derived.Laws.StructEq
import Derived.ChangeKeysEq
/-!
A region that draws its order, whose head only reads, reckons, makes new variables and calls functions that change nothing that is there, and whose tail comes in one order:
one walk of the head in the text's order serves every order. The new variables' addresses are not read in the head; the tail gets them as they are.
-/
namespace Go.Proofs.Ytgnkhncogfppgaa
open Go.RowKit
section
variable {P : Program} {md : Region.Mode} {ops : Array Oper} {w0 : World}
def isNew (o : Oper) : Bool := match o.op with | .alloc _ => true | _ => false
def qUpon (P : Program) (w : World) (v : Value) : Result Next → Prop
  | .ok (.value u) w' => w' = w ∧ u = v
  | .ok .skip w' => w' = w ∧ v = undef
  | .ok (.enter f args) w' => w' = w ∧ Calls P f args w (fun e w'' => e = .returned v ∧ Below w.heap.size w w'')
  | _ => False
def qVal (P : Program) (w0 : World) (o : Oper) (a : Act) (v : Value) : Prop := ∀ w, Below w0.heap.size w0 w → qUpon P w v ((execOp a.eval o).run P w)
def Yld (P : Program) (ops : Array Oper) (w0 : World) (o : Oper) (v : Value) (a : Act) : Prop :=
  (Region.wanted o (yielded ops a.tmps) = true ∧ ((isNew o = true ∧ v = undef) ∨ (isNew o = false ∧ qVal P w0 o a v))) ∨ (Region.wanted o (yielded ops a.tmps) = false ∧ v = undef)
theorem Yld.same {o : Oper} {v : Value} {a a' : Act} (h : Yld P ops w0 o v a) (he : execOp a'.eval o = execOp a.eval o) (hw : Region.wanted o (yielded ops a'.tmps) = Region.wanted o (yielded ops a.tmps)) :
    Yld P ops w0 o v a' := by
  unfold Yld qVal at *
  rw [hw, he]
  exact h
theorem Yld.put {o : Oper} {v u : Value} {a : Act} {d : Option Tmp} (hs : ∀ cs b, o.op ≠ .select cs b) (hd : ∀ t, d = some t → t ∉ o.looksAt ops) (h : Yld P ops w0 o v a) : Yld P ops w0 o v (a.put d u) :=
  h.same (execOp_put o hs a d u hd) (wanted_put o a d u hd)
theorem Yld.unput {o : Oper} {v u : Value} {a : Act} {d : Option Tmp} (hs : ∀ cs b, o.op ≠ .select cs b) (hd : ∀ t, d = some t → t ∉ o.looksAt ops) (h : Yld P ops w0 o v (a.put d u)) : Yld P ops w0 o v a :=
  h.same (execOp_put o hs a d u hd).symm (wanted_put o a d u hd).symm
/-- Whatever order is picked, till the head is done. -/
def anyQ (P : Program) (md : Region.Mode) (ops : Array Oper) (w0 : World) (n : Nat) (L : Array Bool → Act → Prop) : Nat → Array Bool → Act → Prop
  | 0, listed, a => L listed a
  | f + 1, listed, a => Region.ready md ops listed ≠ [] ∧ ∀ i ∈ Region.ready md ops listed, i < n ∧ ∃ o v, ops[i]? = some o ∧ Yld P ops w0 o v a ∧ anyQ P md ops w0 n L f (listed.setIfInBounds i true) (a.put o.dst v)
theorem anyQ_first {n i : Nat} {oi : Oper} {v : Value} {L : Array Bool → Act → Prop} (hi : ops[i]? = some oi) (hsel : ∀ (j : Nat) (o : Oper) cs b, ops[j]? = some o → o.op ≠ .select cs b)
    (hs : Region.sinkB md ops n = true) (hc : Region.chainB md ops n = true) (hn : n < ops.size) (hin : i < n) (hdone : ∀ listed a, L listed a → ∀ j ∈ Region.ready md ops listed, n ≤ j) :
    ∀ (f : Nat) (listed : Array Bool) (a : Act), HeadInv md ops n listed →
      (∀ j oj, ops[j]? = some oj → j ≠ i → listed.getD j true = false → (∀ e ∈ oj.after, Region.binds md e = true → e.on ≠ i) → oi.apart ops oj = true) →
      i ∈ Region.ready md ops listed → Yld P ops w0 oi v a →
      anyQ P md ops w0 n L f (listed.setIfInBounds i true) (a.put oi.dst v) → anyQ P md ops w0 n L (f + 1) listed a
  | 0, listed, a, inv, _, hr, hy, H => by
    have hun := (mem_ready.1 hr).1
    refine ⟨List.ne_nil_of_mem hr, fun j hj => ?_⟩
    have hjn : j < n := Nat.lt_of_not_le fun h => tail_waits hs hc hn inv _ i rfl hin hun j h hj
    by_cases hji : j = i
    · subst hji; exact ⟨hjn, oi, v, hi, hy, H⟩
    · have := hdone _ _ H j (ready_mono hj hji); omega
  | f + 1, listed, a, inv, hfree, hr, hy, H => by
    have hun := (mem_ready.1 hr).1
    refine ⟨List.ne_nil_of_mem hr, fun j hj => ?_⟩
    have hjn : j < n := Nat.lt_of_not_le fun h => tail_waits hs hc hn inv _ i rfl hin hun j h hj
    refine ⟨hjn, ?_⟩
    by_cases hji : j = i
    · subst hji; exact ⟨oi, v, hi, hy, H⟩
    · obtain ⟨_, oj, u, hoj, hyj, H2⟩ := H.2 j (ready_mono hj hji)
      obtain ⟨hjun, oj', hoj', hall⟩ := mem_ready.1 hj
      obtain rfl : oj = oj' := Option.some.inj (hoj.symm.trans hoj')
      have hnot : ∀ e ∈ oj.after, Region.binds md e = true → e.on ≠ i := fun e he hb heq => by
        have h1 := hall e he hb
        rw [heq, getD_both hun] at h1
        cases h1
      obtain ⟨p1, p2, p3⟩ := Oper.apart_spec (hfree j oj hoj hji hjun hnot)
      refine ⟨oj, u, hoj, hyj.unput (fun cs b => hsel j oj cs b hoj) p1, ?_⟩
      refine anyQ_first hi hsel hs hc hn hin hdone f (listed.setIfInBounds j true) (a.put oj.dst u) (inv.set hj hjn) (fun k ok hk hki hku hno => hfree k ok hk hki ?_ hno) (ready_mono hr (Ne.symm hji))
        (hy.put (fun cs b => hsel i oi cs b hi) p3) ?_
      · by_cases hjk : j = k
        · subst hjk; exact hjun
        · rw [getD_set_ne true hjk] at hku; exact hku
      · rw [Array.setIfInBounds_comm _ _ hji, ← Act.put_comm a v u p2]
        exact H2
/-- The head in the text's order. -/
def lexQ (P : Program) (ops : Array Oper) (w0 : World) (L : Act → Prop) : List Oper → Act → Prop
  | [], a => L a
  | o :: rest, a => ∃ v, Yld P ops w0 o v a ∧ lexQ P ops w0 L rest (a.put o.dst v)
theorem anyQ_lex {n g : Nat} {Lq : Act → Prop} (hsel : Region.noSelect ops = true) (hs : Region.sinkB md ops n = true) (hc : Region.chainB md ops n = true) (hn : n < ops.size) :
    ∀ (l : List Oper) (k : Nat) (listed : Array Bool) (a : Act), (∀ j, j < l.length → l[j]? = ops[k + j]?) → k + l.length = n → HeadInv md ops n listed →
    Region.lexHead md ops g l.length k listed = true → lexQ P ops w0 Lq l a →
    anyQ P md ops w0 n (fun listed' a' => Region.seqB md ops g n listed' = true ∧ Lq a') l.length listed a
  | [], k, listed, a, _, hk, _, hB, h => by
    obtain rfl : k = n := by simpa using hk
    exact ⟨by simpa [Region.lexHead] using hB, h⟩
  | o :: l, k, listed, a, hl, hk, inv, hB, h => by
    have h0 : ops[k]? = some o := by simpa using (hl 0 (by simp)).symm
    simp only [List.length_cons, Region.lexHead, Bool.and_eq_true] at hB
    obtain ⟨⟨hr, hf⟩, hB'⟩ := hB
    have hkn : k < n := by simp only [List.length_cons] at hk; omega
    have hr' : k ∈ Region.ready md ops listed := by simpa using hr
    obtain ⟨v, hy, hK⟩ := h
    refine anyQ_first h0 (Region.noSelect_spec hsel) hs hc hn hkn (fun listed' a' hL => seqB_ready hL.1) l.length listed a inv (Region.free_spec h0 hf) hr' hy
      (anyQ_lex hsel hs hc hn l (k + 1) _ _ (fun j hj => ?_) (by simp only [List.length_cons] at hk; omega) (inv.set hr' hkn) hB' hK)
    have := hl (j + 1) (by simp only [List.length_cons]; omega)
    simpa [Nat.add_assoc, Nat.add_comm 1 j] using this
/-! What was made new, in the order in which it was made: the operation's number, the block's. -/
def putsN (ops : Array Oper) : List (Nat × Nat) → Act → Act
  | [], a => a
  | (k, r) :: L, a => (putsN ops L a).put ((ops[k]?).bind (·.dst)) (.pointer (some ⟨r, 0, none⟩))
structure NewOK (P : Program) (ops : Array Oper) (w0 : World) (listed : Array Bool) (L : List (Nat × Nat)) (w : World) : Prop where
  each : ∀ k r, (k, r) ∈ L → ∃ o T v, ops[k]? = some o ∧ o.op = .alloc T ∧ (P.info? T).bind (·.zero) = some v ∧ w0.heap.size ≤ r ∧ RowAt T w r v.cells
  idx : ∀ k, k ∈ L.map Prod.fst ↔ listed.getD k false = true ∧ ∃ o, ops[k]? = some o ∧ isNew o = true
  nodup : (L.map Prod.fst).Nodup
  dist : (L.map Prod.snd).Nodup
theorem NewOK.on {listed : Array Bool} {L : List (Nat × Nat)} {w w' : World} (h : NewOK P ops w0 listed L w) (hb : Below w.heap.size w w') : NewOK P ops w0 listed L w' :=
  ⟨fun k r hk => let ⟨o, T, v, h1, h2, h3, h4, h5⟩ := h.each k r hk; ⟨o, T, v, h1, h2, h3, h4, h5.on hb⟩, h.idx, h.nodup, h.dist⟩
/-- The new variables of a head: unguarded, their addresses not read there, their zero values known. -/
def newsB (P : Program) (ops : Array Oper) (n : Nat) : Bool :=
  (List.range ops.size).all fun k => match ops[k]? with
    | some o => !isNew o || (o.guard.isNone && (match o.op with | .alloc T => ((P.info? T).bind (·.zero)).isSome | _ => false) && (List.range n).all fun j => j == k || match ops[j]? with
        | some oj => o.apart ops oj
        | none => true)
    | none => true
theorem newsB_spec {n k : Nat} {o : Oper} (h : newsB P ops n = true) (ho : ops[k]? = some o) (hnew : isNew o = true) :
    o.guard = none ∧ (∃ T v, o.op = .alloc T ∧ (P.info? T).bind (·.zero) = some v) ∧ ∀ j oj, j < n → j ≠ k → ops[j]? = some oj → o.apart ops oj = true := by
  have hk : k < ops.size := (Array.getElem?_eq_some_iff.1 ho).1
  have h1 := List.all_eq_true.1 h k (List.mem_range.2 hk)
  simp only [ho, hnew, Bool.not_true, Bool.false_or, Bool.and_eq_true, List.all_eq_true, List.mem_range, Option.isNone_iff_eq_none] at h1
  obtain ⟨⟨h2, h3⟩, h4⟩ := h1
  refine ⟨h2, ?_, fun j oj hj hjk hoj => ?_⟩
  · unfold isNew at hnew
    cases hop : o.op with
    | alloc T =>
      simp only [hop] at h3
      obtain ⟨v, hv⟩ := Option.isSome_iff_exists.1 h3
      exact ⟨T, v, rfl, hv⟩
    | _ => simp [hop] at hnew
  · have := h4 j hj
    simpa [hoj, hjk] using this
theorem Act.put_put (a : Act) (d : Option Tmp) (u v : Value) : (a.put d u).put d v = a.put d v := by
  cases d with
  | none => rfl
  | some d => simp [Act.put]
theorem puts_put {n : Nat} (hN : newsB P ops n = true) {i : Nat} {o : Oper} (hi : ops[i]? = some o) (hin : i < n) (u : Value) (a : Act) : ∀ (L : List (Nat × Nat)),
    (∀ k ∈ L.map Prod.fst, k ≠ i ∧ ∃ ok, ops[k]? = some ok ∧ isNew ok = true) → (putsN ops L a).put o.dst u = putsN ops L (a.put o.dst u)
  | [], _ => rfl
  | (k, r) :: L, h => by
    obtain ⟨hki, ok, hok, hnew⟩ := h k (by simp)
    have hap := (newsB_spec hN hok hnew).2.2 i o hin (Ne.symm hki) hi
    obtain ⟨_, p2, _⟩ := Oper.apart_spec hap
    have ih := puts_put hN hi hin u a L (fun j hj => h j (by simp only [List.map_cons, List.mem_cons]; exact Or.inr hj))
    simp only [putsN, hok, Option.bind_some]
    rw [Act.put_comm _ _ _ p2, ih]
theorem puts_exec {n : Nat} (hN : newsB P ops n = true) {i : Nat} {o : Oper} (hi : ops[i]? = some o) (hin : i < n) (hs : ∀ cs b, o.op ≠ .select cs b) (a : Act) : ∀ (L : List (Nat × Nat)),
    (∀ k ∈ L.map Prod.fst, k ≠ i ∧ ∃ ok, ops[k]? = some ok ∧ isNew ok = true) →
    execOp (putsN ops L a).eval o = execOp a.eval o ∧ Region.wanted o (yielded ops (putsN ops L a).tmps) = Region.wanted o (yielded ops a.tmps)
  | [], _ => ⟨rfl, rfl⟩
  | (k, r) :: L, h => by
    obtain ⟨hki, ok, hok, hnew⟩ := h k (by simp)
    have hap := (newsB_spec hN hok hnew).2.2 i o hin (Ne.symm hki) hi
    obtain ⟨p1, _, _⟩ := Oper.apart_spec hap
    obtain ⟨e1, e2⟩ := puts_exec hN hi hin hs a L (fun j hj => h j (by simp only [List.map_cons, List.mem_cons]; exact Or.inr hj))
    simp only [putsN, hok, Option.bind_some]
    exact ⟨(execOp_put o hs _ _ _ p1).trans e1, (wanted_put o _ _ _ p1).trans e2⟩
theorem anyQ_sim {n g : Nat} {L : Array Bool → Act → Prop} {Q' : Exit → Act → World → Prop} (hsel : ∀ (j : Nat) (o : Oper) cs b, ops[j]? = some o → o.op ≠ .select cs b) (hN : newsB P ops n = true)
    (hL : ∀ listed a, L listed a → HeadInv md ops n listed → ∀ w N, Below w0.heap.size w0 w → NewOK P ops w0 listed N w → wpAny P md ops Q' g listed (putsN ops N a) w) :
    ∀ (f : Nat) (listed : Array Bool) (a : Act), anyQ P md ops w0 n L f listed a → HeadInv md ops n listed → ∀ w N, Below w0.heap.size w0 w → NewOK P ops w0 listed N w → wpAny P md ops Q' (f + g) listed (putsN ops N a) w
  | 0, listed, a, h, inv, w, N, hw, hn => by rw [Nat.zero_add]; exact hL _ _ h inv w N hw hn
  | f + 1, listed, a, h, inv, w, N, hw, hn => by
    have hls := inv.size
    rw [show f + 1 + g = (f + g) + 1 by omega]
    refine ⟨fun h0 => absurd h0 h.1, fun i hi => ?_⟩
    obtain ⟨hin, o, v, ho, hy, H⟩ := h.2 i hi
    have hun := (mem_ready.1 hi).1
    have hilt : i < ops.size := (Array.getElem?_eq_some_iff.1 ho).1
    have hunf : listed.getD i false = false := getD_both hun
    have hks : ∀ k ∈ N.map Prod.fst, k ≠ i ∧ ∃ ok, ops[k]? = some ok ∧ isNew ok = true := fun k hk => by
      obtain ⟨h1, h2⟩ := (hn.idx k).1 hk
      exact ⟨fun e => (by rw [e, hunf] at h1; cases h1), h2⟩
    obtain ⟨e1, e2⟩ := puts_exec hN ho hin (fun cs b => hsel i o cs b ho) a N hks
    have hcomm := fun u => puts_put hN ho hin u a N hks
    have hls' := inv.set hi hin
    have hset : ∀ k, (listed.setIfInBounds i true).getD k false = true ↔ k = i ∨ listed.getD k false = true := fun k => by
      by_cases hki : k = i
      · subst hki; simp [hls, hilt]
      · rw [getD_set_ne false (Ne.symm hki)]; simp [hki]
    -- what was made stays known where nothing new is made
    have hkeep : isNew o = false → ∀ w', Below w.heap.size w w' → NewOK P ops w0 (listed.setIfInBounds i true) N w' := fun hno w' hb => by
      have hn' := hn.on hb
      refine ⟨hn'.each, fun k => ?_, hn'.nodup, hn'.dist⟩
      rw [hset, hn'.idx]
      constructor
      · rintro ⟨h1, h2⟩; exact ⟨Or.inr h1, h2⟩
      · rintro ⟨h1 | h1, ok, h2, h3⟩
        · subst h1
          rw [ho] at h2; injection h2 with h2; subst h2
          rw [hno] at h3; cases h3
        · exact ⟨h1, ok, h2, h3⟩
    unfold wpOp
    simp only [ho]
    rcases hy with ⟨hwt, hy⟩ | ⟨hwt, rfl⟩
    · rw [if_pos (e2.trans hwt)]
      refine .inl ?_
      rcases hy with ⟨hnew, rfl⟩ | ⟨hnew, hq⟩
      · obtain ⟨hg, ⟨T, z, hop, hz⟩, _⟩ := newsB_spec hN ho hnew
        have hr : (Instr.alloc T true (.tuple #[])).run P w = .ok (.pointer (some ⟨w.heap.size, 0, none⟩)) (w.alloc (.cells z.cells T)) := by
          cases hq : P.info? T with
          | none => simp [hq] at hz
          | some ii =>
            have hz' : ii.zero = some z := by simpa [hq] using hz
            simp [Instr.alloc, zeroValue, typeInfo, hq, hz', newVar, newRow, newObj]; rfl
        have hb : Below w.heap.size w (w.alloc (.cells z.cells T)) := (Below.refl _ _).alloc (Nat.le_refl _) _
        have hfin := anyQ_sim hsel hN hL f _ _ H hls' (w.alloc (.cells z.cells T)) ((i, w.heap.size) :: N) (hw.trans (hb.mono hw.size)) (by
          have hn' := hn.on hb
          refine ⟨fun k r hk => ?_, fun k => ?_, ?_, ?_⟩
          · rcases List.mem_cons.1 hk with hk | hk
            · injection hk with h1 h2
              subst h1 h2
              exact ⟨o, T, z, ho, hop, hz, hw.size, Go.heap_alloc_new w _⟩
            · exact hn'.each k r hk
          · rw [hset, List.map_cons, List.mem_cons, hn'.idx]
            constructor
            · rintro (h1 | ⟨h1, h2⟩)
              · subst h1; exact ⟨Or.inl rfl, o, ho, hnew⟩
              · exact ⟨Or.inr h1, h2⟩
            · rintro ⟨h1 | h1, h2⟩
              · exact Or.inl h1
              · exact Or.inr ⟨h1, h2⟩
          · rw [List.map_cons, List.nodup_cons]
            exact ⟨fun hm => (hks i hm).1 rfl, hn'.nodup⟩
          · rw [List.map_cons, List.nodup_cons]
            refine ⟨fun hm => ?_, hn'.dist⟩
            obtain ⟨⟨k, r⟩, hkr, hr⟩ := List.mem_map.1 hm
            obtain ⟨_, _, _, _, _, _, _, hrow⟩ := hn.each k r hkr
            have := hrow.lt
            simp only at hr
            omega)
        simp only [putsN, ho, Option.bind_some] at hfin
        rw [← hcomm, Act.put_put] at hfin
        unfold Oper.wp execOp
        simp only [hop, Sem.run_bind, hr, Sem.run_pure]
        exact hfin
      · have h3 := hq w hw
        rw [← e1] at h3
        unfold Oper.wp
        generalize (execOp (putsN ops N a).eval o).run P w = r at *
        cases r with
        | ok nx w' =>
          cases nx <;> simp only [qUpon] at h3 <;> simp only [Oper.upon]
          case value u =>
            obtain ⟨q1, q2⟩ := h3
            rw [q1, q2, hcomm]
            exact anyQ_sim hsel hN hL f _ _ H hls' w N hw (hkeep hnew w (Below.refl _ _))
          case skip =>
            obtain ⟨q1, q2⟩ := h3
            rw [q1, ← q2, hcomm]
            exact anyQ_sim hsel hN hL f _ _ H hls' w N hw (hkeep hnew w (Below.refl _ _))
          case enter ff args =>
            obtain ⟨q1, hcall⟩ := h3
            rw [q1]
            refine hcall.mono fun e w'' ⟨he, hb⟩ => ?_
            subst he
            show wpAny P md ops Q' (f + g) _ ((putsN ops N a).put o.dst v) w''
            rw [hcomm]
            exact anyQ_sim hsel hN hL f _ _ H hls' w'' N (hw.trans (hb.mono hw.size)) (hkeep hnew w'' hb)
        | halt x w' => simp only [qUpon] at h3
    · rw [if_neg (by rw [e2, hwt]; exact Bool.false_ne_true), hcomm]
      refine anyQ_sim hsel hN hL f _ _ H hls' w N hw (hkeep ?_ w (Below.refl _ _))
      cases hnew : isNew o with
      | false => rfl
      | true =>
        have hg := (newsB_spec hN ho hnew).1
        simp [Region.wanted, hg] at hwt
/-- What a head makes new: numbers of operations. -/
def newsIn (ops : Array Oper) (n : Nat) : List Nat := (List.range n).filter fun k => match ops[k]? with | some o => isNew o | none => false
theorem mem_newsIn {n k : Nat} : k ∈ newsIn ops n ↔ k < n ∧ ∃ o, ops[k]? = some o ∧ isNew o = true := by
  unfold newsIn
  rw [List.mem_filter, List.mem_range]
  cases h : ops[k]? <;> simp
/-- ONE WALK OF THE HEAD SERVES EVERY ORDER. -/
theorem region_head {id : Nat} {Q : Exit → Act → World → Prop} {a : Act} {w : World} {l : List Oper} (n : Nat) (hm : P.follows .mixedOrders = true) (hB : Region.lexTailB .any l.toArray n = true) (hN : newsB P l.toArray n = true)
    (h : lexQ P l.toArray w (fun a' => ∀ w' N, Below w.heap.size w w' → (∀ k r, (k, r) ∈ N → ∃ o T v, l.toArray[k]? = some o ∧ o.op = .alloc T ∧ (P.info? T).bind (·.zero) = some v ∧ w.heap.size ≤ r ∧ RowAt T w' r v.cells) →
      (∀ k, k ∈ N.map Prod.fst ↔ k ∈ newsIn l.toArray n) → (N.map Prod.fst).Nodup → (N.map Prod.snd).Nodup →
      wpList P l.toArray Q (l.drop n) (putsN l.toArray N a') w') (l.take n) a) : (Code.region id l.toArray true).wp P Q a w := by
  simp only [Region.lexTailB, Bool.and_eq_true, decide_eq_true_eq] at hB
  obtain ⟨⟨⟨⟨hsel, hn⟩, hs⟩, hc⟩, hlex⟩ := hB
  have hn' : n < l.length := by simpa using hn
  have htl : (l.take n).length = n := by simp; omega
  have hdl : (l.drop n).length = l.toArray.size - n := by simp
  have inv0 : HeadInv .any l.toArray n (Array.replicate l.toArray.size false) :=
    ⟨by simp, fun j oj _ hl => (by rw [getD_replicate_false] at hl; cases hl), fun t _ ht => getD_in (by simpa using ht) (getD_replicate_false _ _)⟩
  have H := anyQ_lex (md := .any) (g := l.toArray.size - n) hsel hs hc hn (l.take n) 0 _ a (fun j hj => by
    have hj' : j < n := by rw [htl] at hj; exact hj
    simp [hj']) (by simpa using htl) inv0 (by rw [htl]; exact hlex) h
  refine wp_region_any hm ?_
  have := anyQ_sim (Q' := Q) (g := l.toArray.size - n) (Region.noSelect_spec hsel) hN (fun listed a' hL inv w' N hw' hnw => by
    have hall : ∀ k, k < n → listed.getD k false = true := fun k hk => by
      cases hlk : listed.getD k false with
      | true => rfl
      | false =>
        have hg := hL.1
        rw [show l.toArray.size - n = (l.toArray.size - n - 1) + 1 by omega] at hg
        simp only [Region.seqB, Bool.and_eq_true, decide_eq_true_eq] at hg
        exact absurd (by rw [hg.1]; simp) (tail_waits hs hc hn inv _ k rfl hk (getD_in (by rw [inv.size]; simp; omega) hlk) n (Nat.le_refl _))
    have hidx : ∀ k, k ∈ N.map Prod.fst ↔ k ∈ newsIn l.toArray n := fun k => by
      rw [hnw.idx, mem_newsIn]
      constructor
      · rintro ⟨h1, h2⟩
        refine ⟨Nat.lt_of_not_le fun hk => ?_, h2⟩
        obtain ⟨o, ho, _⟩ := h2
        have h3 := inv.tail k hk (Array.getElem?_eq_some_iff.1 ho).1
        rw [getD_both h3] at h1; cases h1
      · rintro ⟨h1, h2⟩; exact ⟨hall k h1, h2⟩
    have := wpAny_of_seq (md := .any) (Q' := Q) (l.drop n) n listed (putsN l.toArray N a') w' (fun j => by simp [List.getElem?_drop]) (by rw [hdl]; exact hL.1) (hL.2 w' N hw' hnw.each hidx hnw.nodup hnw.dist)
    rwa [hdl] at this) _ _ _ H inv0 { w with drawn := w.drawn + 1 } [] ⟨rfl, rfl, rfl, Nat.le_refl _, fun _ _ => rfl⟩ ⟨fun k r hk => by simp at hk, fun k => ⟨fun h => by simp at h, fun ⟨h, _⟩ => by rw [getD_replicate_false] at h; cases h⟩, by simp, by simp⟩
  rw [htl, show n + (l.toArray.size - n) = l.toArray.size by omega] at this
  exact this
section
variable {id : Nat} {Q : Exit → Act → World → Prop} {a : Act} {w : World} {l : List Oper}
theorem lexQ_mono {L L' : Act → Prop} (h : ∀ a, L a → L' a) : ∀ (l : List Oper) (a : Act), lexQ P ops w0 L l a → lexQ P ops w0 L' l a
  | [], a, hh => h a hh
  | _ :: l, _, ⟨v, h1, h2⟩ => ⟨v, h1, lexQ_mono h l _ h2⟩
/-- A head that makes nothing new. -/
theorem head0 (n : Nat) (hm : P.follows .mixedOrders = true) (hB : Region.lexTailB .any l.toArray n = true) (hN : newsB P l.toArray n = true) (h0 : newsIn l.toArray n = [])
    (h : lexQ P l.toArray w (fun a' => ∀ w', Below w.heap.size w w' → wpList P l.toArray Q (l.drop n) a' w') (l.take n) a) : (Code.region id l.toArray true).wp P Q a w :=
  region_head n hm hB hN (lexQ_mono (fun a' ha w' N hb _ hidx _ _ => by
    cases N with
    | nil => exact ha w' hb
    | cons x N => have := (hidx x.1).1 (by simp); rw [h0] at this; cases this) _ _ h)
/-- A head that makes one variable. -/
theorem head1 (n : Nat) (hm : P.follows .mixedOrders = true) (hB : Region.lexTailB .any l.toArray n = true) (hN : newsB P l.toArray n = true) (k : Nat) (h1 : newsIn l.toArray n = [k])
    (o : Oper) (ho : l.toArray[k]? = some o) (T : TypeId) (hT : o.op = .alloc T) (v : Value) (hv : (P.info? T).bind (·.zero) = some v)
    (h : lexQ P l.toArray w (fun a' => ∀ w' r, Below w.heap.size w w' → w.heap.size ≤ r → RowAt T w' r v.cells → wpList P l.toArray Q (l.drop n) (a'.put o.dst (.pointer (some ⟨r, 0, none⟩))) w') (l.take n) a) :
    (Code.region id l.toArray true).wp P Q a w :=
  region_head n hm hB hN (lexQ_mono (fun a' ha w' N hb heach hidx hnd _ => by
    have hk : k ∈ N.map Prod.fst := (hidx k).2 (by rw [h1]; simp)
    have hN1 : ∃ r, N = [(k, r)] := by
      match N, hnd, hidx, hk with
      | [(k', r)], _, hidx, _ =>
        have := (hidx k').1 (by simp)
        rw [h1] at this
        exact ⟨r, by simp at this; rw [this]⟩
      | (k1, r1) :: (k2, r2) :: N', hnd, hidx, _ =>
        have e1 := (hidx k1).1 (by simp)
        have e2 := (hidx k2).1 (by simp)
        rw [h1] at e1 e2
        simp at e1 e2
        subst e1; subst e2
        simp at hnd
    obtain ⟨r, rfl⟩ := hN1
    obtain ⟨o', T', v', g1, g2, g3, g4, g5⟩ := heach k r (by simp)
    rw [ho] at g1; injection g1 with g1; subst g1
    rw [hT] at g2; injection g2 with g2; subst g2
    rw [hv] at g3; injection g3 with g3; subst g3
    have := ha w' r hb g4 g5
    simpa only [putsN, ho, Option.bind_some] using this) _ _ h)
/-- A head that makes two variables. -/
theorem head2 (n : Nat) (hm : P.follows .mixedOrders = true) (hB : Region.lexTailB .any l.toArray n = true) (hN : newsB P l.toArray n = true) (k1 k2 : Nat) (h1 : newsIn l.toArray n = [k1, k2]) (hne : k1 ≠ k2)
    (o1 o2 : Oper) (ho1 : l.toArray[k1]? = some o1) (ho2 : l.toArray[k2]? = some o2) (hd : ∀ d, o1.dst = some d → o2.dst ≠ some d) (T1 T2 : TypeId) (hT1 : o1.op = .alloc T1) (hT2 : o2.op = .alloc T2)
    (v1 v2 : Value) (hv1 : (P.info? T1).bind (·.zero) = some v1) (hv2 : (P.info? T2).bind (·.zero) = some v2)
    (h : lexQ P l.toArray w (fun a' => ∀ w' r1 r2, Below w.heap.size w w' → w.heap.size ≤ r1 → w.heap.size ≤ r2 → r1 ≠ r2 → RowAt T1 w' r1 v1.cells → RowAt T2 w' r2 v2.cells →
      wpList P l.toArray Q (l.drop n) ((a'.put o1.dst (.pointer (some ⟨r1, 0, none⟩))).put o2.dst (.pointer (some ⟨r2, 0, none⟩))) w') (l.take n) a) :
    (Code.region id l.toArray true).wp P Q a w :=
  region_head n hm hB hN (lexQ_mono (fun a' ha w' N hb heach hidx hnd hds => by
    have hk1 : k1 ∈ N.map Prod.fst := (hidx k1).2 (by rw [h1]; simp)
    have hk2 : k2 ∈ N.map Prod.fst := (hidx k2).2 (by rw [h1]; simp)
    have hN1 : ∃ r1 r2, N = [(k1, r1), (k2, r2)] ∨ N = [(k2, r2), (k1, r1)] := by
      match N, hnd, hidx, hk1, hk2 with
      | [(k, r)], _, _, hk1, hk2 => simp at hk1 hk2; omega
      | [(a1, r1), (a2, r2)], hnd, hidx, hk1, hk2 =>
        simp at hk1 hk2 hnd
        rcases hk1 with rfl | rfl
        · rcases hk2 with rfl | rfl
          · exact absurd rfl hne
          · exact ⟨r1, r2, Or.inl rfl⟩
        · rcases hk2 with rfl | rfl
          · exact ⟨r2, r1, Or.inr rfl⟩
          · exact absurd rfl hne
      | (a1, r1) :: (a2, r2) :: (a3, r3) :: N', hnd, hidx, _, _ =>
        have e1 := (hidx a1).1 (by simp)
        have e2 := (hidx a2).1 (by simp)
        have e3 := (hidx a3).1 (by simp)
        rw [h1] at e1 e2 e3
        simp at e1 e2 e3 hnd
        omega
    obtain ⟨r1, r2, hN12⟩ := hN1
    have m1 : (k1, r1) ∈ N := by rcases hN12 with rfl | rfl <;> simp
    have m2 : (k2, r2) ∈ N := by rcases hN12 with rfl | rfl <;> simp
    have hr : r1 ≠ r2 := by rcases hN12 with rfl | rfl <;> simp at hds <;> omega
    obtain ⟨o', T', v', g1, g2, g3, g4, g5⟩ := heach k1 r1 m1
    obtain ⟨o'', T'', v'', q1, q2, q3, q4, q5⟩ := heach k2 r2 m2
    rw [ho1] at g1; injection g1 with g1; subst g1
    rw [hT1] at g2; injection g2 with g2; subst g2
    rw [hv1] at g3; injection g3 with g3; subst g3
    rw [ho2] at q1; injection q1 with q1; subst q1
    rw [hT2] at q2; injection q2 with q2; subst q2
    rw [hv2] at q3; injection q3 with q3; subst q3
    have := ha w' r1 r2 hb g4 q4 hr g5 q5
    rcases hN12 with rfl | rfl
    · simp only [putsN, ho1, ho2, Option.bind_some]
      rw [← Act.put_comm _ _ _ hd]
      exact this
    · simpa only [putsN, ho1, ho2, Option.bind_some] using this) _ _ h)
variable {o : Oper} {rest : List Oper} {L : Act → Prop}
theorem lex_skip (hw : Region.wanted o (yielded ops a.tmps) = false) (h : lexQ P ops w0 L rest (a.put o.dst undef)) : lexQ P ops w0 L (o :: rest) a := ⟨undef, .inr ⟨hw, rfl⟩, h⟩
theorem lex_new (hw : Region.wanted o (yielded ops a.tmps) = true) (hn : isNew o = true) (h : lexQ P ops w0 L rest (a.put o.dst undef)) : lexQ P ops w0 L (o :: rest) a := ⟨undef, .inl ⟨hw, .inl ⟨hn, rfl⟩⟩, h⟩
theorem lex_val (hw : Region.wanted o (yielded ops a.tmps) = true) (hn : isNew o = false) (v : Value) (hr : ∀ W, Below w0.heap.size w0 W → (execOp a.eval o).run P W = .ok (.value v) W)
    (h : lexQ P ops w0 L rest (a.put o.dst v)) : lexQ P ops w0 L (o :: rest) a := ⟨v, .inl ⟨hw, .inr ⟨hn, fun W hW => by rw [hr W hW]; exact ⟨rfl, rfl⟩⟩⟩, h⟩
/-- What does not look at the world. -/
theorem lex_pure (hw : Region.wanted o (yielded ops a.tmps) = true) (hn : isNew o = false) (v : Value) (hr : ∀ W, (execOp a.eval o).run P W = .ok (.value v) W)
    (h : lexQ P ops w0 L rest (a.put o.dst v)) : lexQ P ops w0 L (o :: rest) a := lex_val hw hn v (fun W _ => hr W) h
theorem lex_move (hw : Region.wanted o (yielded ops a.tmps) = true) (x : Operand) (ho : o.op = .move x) (h : lexQ P ops w0 L rest (a.put o.dst (a.eval x))) : lexQ P ops w0 L (o :: rest) a :=
  lex_pure hw (by simp [isNew, ho]) _ (fun W => by unfold execOp; simp only [ho]; rfl) h
theorem lex_assign (hw : Region.wanted o (yielded ops a.tmps) = true) (x : Operand) (ho : o.op = .assign x) (h : lexQ P ops w0 L rest (a.put o.dst (a.eval x))) : lexQ P ops w0 L (o :: rest) a :=
  lex_pure hw (by simp [isNew, ho]) _ (fun W => by unfold execOp; simp only [ho]; rfl) h
theorem lex_call (hw : Region.wanted o (yielded ops a.tmps) = true) (hn : isNew o = false) (f : FuncId) (args : Array Value) (hr : ∀ W, (execOp a.eval o).run P W = .ok (.enter f args) W) (v : Value)
    (hc : ∀ W, Below w0.heap.size w0 W → Calls P f args W (Ret W v)) (h : lexQ P ops w0 L rest (a.put o.dst v)) : lexQ P ops w0 L (o :: rest) a :=
  ⟨v, .inl ⟨hw, .inr ⟨hn, fun W hW => by rw [hr W]; exact ⟨rfl, hc W hW⟩⟩⟩, h⟩
theorem lex_load_row (hw : Region.wanted o (yielded ops a.tmps) = true) (ty : TypeId) (x : Operand) (ho : o.op = .load ty x) (g : Nat) (hx : a.eval x = .pointer (some ⟨g, 0, none⟩)) (d : TypeDesc) (hu : P.underlying ty = some d)
    (hd : (match d with | .struct _ | .array _ _ => true | _ => false) = true) {T : TypeId} {cs : Array Value} (hz : RowAt T w0 g cs) (hi : (P.info? ty).map (·.size) = some cs.size)
    (h : lexQ P ops w0 L rest (a.put o.dst (.agg cs))) : lexQ P ops w0 L (o :: rest) a :=
  lex_val hw (by simp [isNew, ho]) _ (fun W hW => by
    unfold execOp
    simp only [ho, hx, Instr.loadAt, Instr.sureAddr, Sem.run_bind, Sem.run_pure, Result.andThen_ok, run_loadVar_row W g T ty cs _ d (hz.on hW) hu hd hi]) h
/-- A single cell. -/
theorem lex_load_cell (hw : Region.wanted o (yielded ops a.tmps) = true) (ty : TypeId) (x : Operand) (ho : o.op = .load ty x) (g k : Nat) (hx : a.eval x = .pointer (some ⟨g, k, none⟩)) (d : TypeDesc) (hu : P.underlying ty = some d)
    (hd : (match d with | .struct _ | .array _ _ => true | _ => false) = false) {v : Value} (hz : w0.cell? ⟨g, k, none⟩ = some v)
    (h : lexQ P ops w0 L rest (a.put o.dst v)) : lexQ P ops w0 L (o :: rest) a :=
  lex_val hw (by simp [isNew, ho]) _ (fun W hW => by
    have hc : W.cell? ⟨g, k, none⟩ = some v := (hW.cell (p := ⟨g, k, none⟩) (block_lt_of_cell hz)).trans hz
    have hagg : (isAgg ty).run P W = .ok false W := by
      unfold isAgg
      rw [Sem.run_bind, run_underlying hu W]
      cases d <;> simp_all
    have hl : (load ⟨g, k, none⟩).run P W = .ok v W := by
      unfold load
      rw [Sem.run, hc]; rfl
    unfold execOp
    simp only [ho, hx, Instr.loadAt, Instr.sureAddr, Sem.run_bind, Sem.run_pure, Result.andThen_ok, loadVar, hagg, Bool.false_eq_true, if_false, hl]) h
end
end
end Go.Proofs.Ytgnkhncogfppgaa

namespace Go.Proofs.Ytgnkhncogfppgaa
open Go.RowKit
/-- Two zones are one. -/
def zeq (n : Int) (b : Bool) (D : Mat) (m : Int) (c : Bool) (E : Mat) : Bool :=
  (n == m) && ((b == c) && (List.range 7).all fun i => (List.range 7).all fun j => D i j == E i j)
theorem zeq_iff {n m : Int} {b c : Bool} {D E : Mat} : zeq n b D m c E = true ↔ zc n b D = zc m c E := by
  constructor
  · intro h
    simp only [zeq, Bool.and_eq_true, beq_iff_eq, List.all_eq_true, List.mem_range] at h
    obtain ⟨rfl, rfl, h⟩ := h
    exact zc_congr fun i j hi hj => h i hi j hj
  · intro h
    obtain ⟨hn, hb, hD⟩ := zc_inj h
    subst hn hb
    simp only [zeq, beq_self_eq_true, Bool.true_and, List.all_eq_true, List.mem_range, beq_iff_eq]
    exact fun i hi j hj => hD i j hi hj
section
variable (w : World)
theorem isize3 : Try.prog.cellsOf 3 = 1 := by kernel_rfl
theorem isize7 : Try.prog.cellsOf 23 = 7 := by kernel_rfl
theorem part_int (cs : Array Value) (k : Nat) (v : Int) (h : cs[k]? = some (.int .i64 v)) : (part 3 cs k).run Try.prog w = .ok (.int .i64 v) w := by
  have hu := Try.underlying3
  simp [part, isAgg, run_underlying hu, h]
theorem part_bool (cs : Array Value) (k : Nat) (v : Bool) (h : cs[k]? = some (.bool v)) : (part 4 cs k).run Try.prog w = .ok (.bool v) w := by
  have hu := Try.underlying4
  simp [part, isAgg, run_underlying hu, h]
theorem eq_items_int (d : Nat) (xs ys : Array Value) (X Y : Nat → Int) : ∀ is : List Nat, (∀ j ∈ is, xs[j]? = some (.int .i64 (X j)) ∧ ys[j]? = some (.int .i64 (Y j))) →
    (Op.eqItems (d + 1) 3 1 xs ys is).run Try.prog w = .ok (is.all fun j => X j == Y j) w
  | [], _ => by simp [Op.eqItems]
  | i :: is, h => by
    have hi := h i (by simp)
    have ih := eq_items_int d xs ys X Y is (fun j hj => h j (by simp [hj]))
    have h1 := part_int w xs (i * 1) (X i) (by simpa using hi.1)
    have h2 := part_int w ys (i * 1) (Y i) (by simpa using hi.2)
    have h3 := run_equalIn_int (P := Try.prog) w d 3 .i64 .i64 (X i) (Y i) Try.underlying3
    simp only [Op.eqItems, Sem.run_bind, h1, h2, h3, Result.andThen_ok]
    cases hb : (X i == Y i)
    · simp [hb]
    · simp [hb, ih]
theorem info_some {t : TypeId} (h : (Try.prog.info? t).isSome = true) : ∃ i, Try.prog.info? t = some i := Option.isSome_iff_exists.1 h
theorem i3s : (Try.prog.info? 3).isSome = true := by kernel_rfl
theorem i7s : (Try.prog.info? 23).isSome = true := by kernel_rfl
theorem eq_row (d : Nat) (xs ys : Array Value) (X Y : Nat → Int) (h : ∀ j, j < 7 → xs[j]? = some (.int .i64 (X j)) ∧ ys[j]? = some (.int .i64 (Y j))) :
    (Op.equalIn (d + 2) 23 (.agg xs) (.agg ys)).run Try.prog w = .ok ((List.range 7).all fun j => X j == Y j) w := by
  obtain ⟨i, hi⟩ := info_some i3s
  rw [run_equalIn_array w (d + 1) xs ys Try.underlying23 hi, isize3]
  exact eq_items_int w d xs ys X Y _ (fun j hj => h j (by simpa using hj))
theorem part_row (cs : Array Value) (k : Nat) : (part 23 cs k).run Try.prog w = .ok (.agg (cs.extract k (k + 7))) w := by
  obtain ⟨i, hi⟩ := info_some i7s
  have hu := Try.underlying23
  have hs := run_sizeOf w hi
  rw [isize7] at hs
  simp [part, isAgg, run_underlying hu]
theorem eq_items_row (d : Nat) (xs ys : Array Value) (X Y : Mat) : ∀ is : List Nat, (∀ i ∈ is, ∀ j, j < 7 → xs[i * 7 + j]? = some (.int .i64 (X i j)) ∧ ys[i * 7 + j]? = some (.int .i64 (Y i j))) →
    (Op.eqItems (d + 2) 23 7 xs ys is).run Try.prog w = .ok (is.all fun i => (List.range 7).all fun j => X i j == Y i j) w
  | [], _ => by simp [Op.eqItems]
  | i :: is, h => by
    have hi := h i (by simp)
    have ih := eq_items_row d xs ys X Y is (fun j hj => h j (by simp [hj]))
    have h1 := part_row w xs (i * 7)
    have h2 := part_row w ys (i * 7)
    have h3 := eq_row w d (xs.extract (i * 7) (i * 7 + 7)) (ys.extract (i * 7) (i * 7 + 7)) (X i) (Y i) (fun j hj => by
      obtain ⟨a, b⟩ := hi j hj
      have ha := (Array.getElem?_eq_some_iff.1 a).1
      have hb := (Array.getElem?_eq_some_iff.1 b).1
      have h6 := (hi 6 (by omega))
      have ha6 := (Array.getElem?_eq_some_iff.1 h6.1).1
      have hb6 := (Array.getElem?_eq_some_iff.1 h6.2).1
      simp only [Array.getElem?_extract]
      rw [if_pos (by omega), if_pos (by omega)]
      exact ⟨a, b⟩)
    simp only [Op.eqItems, Sem.run_bind, h1, h2, h3, Result.andThen_ok]
    cases hb : ((List.range 7).all fun j => X i j == Y i j)
    · simp only [List.all_cons, hb, Bool.false_and, Bool.not_false, if_true, Sem.run_pure]
    · simp only [List.all_cons, hb, Bool.true_and, Bool.not_true, Bool.false_eq_true, if_false, ih]
theorem i77s : (Try.prog.info? 24).map (·.size) = some 49 := by kernel_rfl
theorem part_mat (cs : Array Value) (k : Nat) : (part 24 cs k).run Try.prog w = .ok (.agg (cs.extract k (k + 49))) w := by
  have h := i77s
  cases hi : Try.prog.info? 24 with
  | none => simp [hi] at h
  | some i =>
    have hu := Try.underlying24
    have hz : i.size = 49 := by simpa [hi] using h
    simp [part, isAgg, run_underlying hu, sizeOf, typeInfo, hi, hz]
theorem eq_mat (d : Nat) (xs ys : Array Value) (X Y : Mat) (h : ∀ i j, i < 7 → j < 7 → xs[i * 7 + j]? = some (.int .i64 (X i j)) ∧ ys[i * 7 + j]? = some (.int .i64 (Y i j))) :
    (Op.equalIn (d + 3) 24 (.agg xs) (.agg ys)).run Try.prog w = .ok ((List.range 7).all fun i => (List.range 7).all fun j => X i j == Y i j) w := by
  obtain ⟨i, hi⟩ := info_some i7s
  rw [run_equalIn_array w (d + 2) xs ys Try.underlying24 hi, isize7]
  exact eq_items_row w d xs ys X Y _ (fun i hi j hj => h i j (by simpa using hi) hj)
theorem eq_fields (d : Nat) (n m : Int) (b c : Bool) (D E : Mat) (f1 f2 f3 : Field) (h1 : f1.name ≠ "_") (h2 : f2.name ≠ "_") (h3 : f3.name ≠ "_") (t1 : f1.type = 3) (t2 : f2.type = 4) (t3 : f3.type = 24)
    (o1 : f1.offset = 0) (o2 : f2.offset = 1) (o3 : f3.offset = 2) : (Op.eqFields (d + 3) (zc n b D) (zc m c E) [f1, f2, f3]).run Try.prog w = .ok (zeq n b D m c E) w := by
  have p1 := part_int w (zc n b D) 0 n (zc_n _ _ _)
  have p2 := part_int w (zc m c E) 0 m (zc_n _ _ _)
  have p3 := part_bool w (zc n b D) 1 b (zc_b _ _ _)
  have p4 := part_bool w (zc m c E) 1 c (zc_b _ _ _)
  have p5 := part_mat w (zc n b D) 2
  have p6 := part_mat w (zc m c E) 2
  have e1 : (Op.equalIn (d + 3) 3 (.int .i64 n) (.int .i64 m)).run Try.prog w = .ok (n == m) w := run_equalIn_int (P := Try.prog) w (d + 2) 3 .i64 .i64 n m Try.underlying3
  have e2 : (Op.equalIn (d + 3) 4 (.bool b) (.bool c)).run Try.prog w = .ok (b == c) w := run_equalIn_bool' (P := Try.prog) w (d + 2) 4 b c Try.underlying4
  have e3 := eq_mat w d ((zc n b D).extract 2 (2 + 49)) ((zc m c E).extract 2 (2 + 49)) D E (fun i j hi hj => by
    simp only [Array.getElem?_extract, zc_size]
    rw [if_pos (by omega), show 2 + (i * 7 + j) = 2 + i * 7 + j by omega, zc_at _ _ _ _ _ hi hj, if_pos (by omega), zc_at _ _ _ _ _ hi hj]
    exact ⟨rfl, rfl⟩)
  simp only [Op.eqFields, if_pos h1, if_pos h2, if_pos h3, t1, t2, t3, o1, o2, o3, Sem.run_bind, p1, p2, e1, Result.andThen_ok, zeq]
  cases hb1 : (n == m)
  · simp
  · cases hb2 : (b == c)
    · simp [p3, p4, e2, hb2]
    · cases hb3 : ((List.range 7).all fun i => (List.range 7).all fun j => D i j == E i j)
      · rw [hb3] at e3; simp [p3, p4, p5, p6, e2, e3, hb2]
      · rw [hb3] at e3; simp [p3, p4, p5, p6, e2, e3, hb2]
theorem zeq_run (n m : Int) (b c : Bool) (D E : Mat) : (Op.equalIn 10000 26 (.agg (zc n b D)) (.agg (zc m c E))).run Try.prog w = .ok (zeq n b D m c E) w := by
  have h := run_equalIn_agg (P := Try.prog) w 9999 26 (zc n b D) (zc m c E) (by kernel_rfl) Try.stoodInHeld26
  rw [show 9999 + 1 = 10000 from rfl] at h
  rw [h]
  simp only [Program.fieldsOf, Try.underlying26]
  have h2 := eq_fields w 9996 n m b c D E ⟨"N", 3, 0, false, "", "", 0⟩ ⟨"None", 4, 1, false, "", "", 8⟩ ⟨"D", 24, 2, false, "", "", 16⟩ (by decide) (by decide) (by decide) rfl rfl rfl rfl rfl rfl
  rw [show 9996 + 3 = 9999 from rfl] at h2
  exact h2
theorem zeq_runR (n m : Int) (b c : Bool) (D E : Mat) : (Op.equalIn 10000 38 (.agg (zc n b D)) (.agg (zc m c E))).run Try.prog w = .ok (zeq n b D m c E) w := by
  have h := run_equalIn_agg (P := Try.prog) w 9999 38 (zc n b D) (zc m c E) (by kernel_rfl) Try.stoodInHeld38
  rw [show 9999 + 1 = 10000 from rfl] at h
  rw [h]
  simp only [Program.fieldsOf, Try.underlying38]
  have h2 := eq_fields w 9996 n m b c D E ⟨"N", 3, 0, false, "", "", 0⟩ ⟨"None", 4, 1, false, "", "", 8⟩ ⟨"D", 24, 2, false, "", "", 16⟩ (by decide) (by decide) (by decide) rfl rfl rfl rfl rfl rfl
  rw [show 9996 + 3 = 9999 from rfl] at h2
  exact h2
@[go_sem high] theorem eql_z (n m : Int) (b c : Bool) (D E : Mat) : (binOp .eql 26 (.agg (zc n b D)) (.agg (zc m c E))).run Try.prog w = .ok (.bool (zeq n b D m c E)) w := by
  rw [run_eql_struct, zeq_run]; rfl
@[go_sem high] theorem neq_z (n m : Int) (b c : Bool) (D E : Mat) : (binOp .neq 26 (.agg (zc n b D)) (.agg (zc m c E))).run Try.prog w = .ok (.bool (!zeq n b D m c E)) w := by
  rw [run_neq_struct, zeq_run]; rfl
@[go_sem high] theorem eql_r (n m : Int) (b c : Bool) (D E : Mat) : (binOp .eql 38 (.agg (zc n b D)) (.agg (zc m c E))).run Try.prog w = .ok (.bool (zeq n b D m c E)) w := by
  rw [run_eql_struct, zeq_runR]; rfl
@[go_sem high] theorem neq_r (n m : Int) (b c : Bool) (D E : Mat) : (binOp .neq 38 (.agg (zc n b D)) (.agg (zc m c E))).run Try.prog w = .ok (.bool (!zeq n b D m c E)) w := by
  rw [run_neq_struct, zeq_runR]; rfl
end
end Go.Proofs.Ytgnkhncogfppgaa

namespace Go.Proofs.Ytgnkhncogfppgaa
open Go.RowKit
/-- Cells of numbers. -/
def vc (m : Nat) (R : Nat → Int) : Array Value := ((List.range m).map fun k => Value.int .i64 (R k)).toArray
theorem vc_size (m : Nat) (R : Nat → Int) : (vc m R).size = m := by simp [vc]
theorem vc_get (m : Nat) (R : Nat → Int) (k : Nat) (hk : k < m) : (vc m R)[k]? = some (.int .i64 (R k)) := by simp [vc, hk]
theorem vc_one (m : Nat) (R : Nat → Int) : ∀ v ∈ (vc m R).toList, v.oneCell' = true := by
  intro v hv
  simp only [vc, List.mem_map] at hv
  obtain ⟨k, _, rfl⟩ := hv
  rfl
theorem vc_ext {m : Nat} {R : Nat → Int} {c : Array Value} (hs : c.size = m) (h : ∀ k, k < m → c[k]? = some (.int .i64 (R k))) : c = vc m R := by
  apply Array.ext_getElem?
  intro k
  by_cases hk : k < m
  · rw [h k hk, vc_get _ _ _ hk]
  · rw [Array.getElem?_eq_none (by omega), Array.getElem?_eq_none (by rw [vc_size]; omega)]
/-- The bounds as an array's value. -/
def mc (D : Mat) : Array Value := vc 49 fun k => D (k / 7) (k % 7)
theorem zc_mc (n : Int) (b : Bool) (D : Mat) : (zc n b D).extract 2 (2 + 49) = mc D := by
  unfold mc
  apply vc_ext
  · simp [zc_size]
  · intro k hk
    simp only [Array.getElem?_extract, zc_size]
    rw [if_pos (by omega), zc_get _ _ _ _ (by omega), if_neg (by omega), if_neg (by omega)]
    rw [show 2 + k - 2 = k by omega]
theorem mc_row (D : Mat) (i : Nat) (hi : i < 7) : (mc D).extract (i * 7) (i * 7 + 7) = vc 7 (D i) := by
  apply vc_ext
  · simp [mc, vc_size]; omega
  · intro k hk
    simp only [Array.getElem?_extract, mc, vc_size]
    rw [if_pos (by omega), vc_get _ _ _ (by omega)]
    rw [show (i * 7 + k) / 7 = i by omega, show (i * 7 + k) % 7 = k by omega]
section
variable {P : Program}
theorem run_loadVar_part (w : World) (g off m : Nat) (t ty : TypeId) (cs : Array Value) (fr : Nat × Nat) (d : TypeDesc) (hg : w.heap[g]? = some (.cells cs t fr))
    (hu : P.underlying ty = some d) (hd : (match d with | .struct _ | .array _ _ => true | _ => false) = true) (hi : (P.info? ty).map (·.size) = some m) (hm : off + m ≤ cs.size) :
    (loadVar ty ⟨g, off, none⟩).run P w = .ok (.agg (cs.extract off (off + m))) w := by
  have hlen : (cs.extract off (off + m)).toList.length = m := by simp; omega
  have hl : (loadCells ⟨g, off, none⟩ (cs.extract off (off + m)).toList.length).run P w = .ok (cs.extract off (off + m)).toList.toArray w :=
    run_loadCells_list (P := P) w ⟨g, off, none⟩ (cs.extract off (off + m)).toList (fun j v hv => by
      have hadd : (⟨g, off, none⟩ : Addr).add j = ⟨g, off + j, none⟩ := by unfold Addr.add; split <;> simp_all
      rw [hadd, cell_of_row w g (off + j) cs t fr hg]
      have hj : j < m := by
        have := (List.getElem?_eq_some_iff.1 hv).1
        omega
      rw [Array.getElem?_toList, Array.getElem?_extract, if_pos (by omega)] at hv
      exact hv)
  cases hq : P.info? ty with
  | none => simp [hq] at hi
  | some i =>
    have hs : i.size = m := by simpa [hq] using hi
    have hagg : (isAgg ty).run P w = .ok true w := by
      unfold isAgg
      rw [Sem.run_bind, run_underlying hu w]
      cases d <;> simp_all
    rw [hlen] at hl
    simp only [Array.toArray_toList] at hl
    simp [loadVar, Sem.run_bind, hagg, sizeOf, typeInfo, hq, hs, hl]
variable {ops : Array Oper} {rest : List Oper} {o : Oper} {a : Act} {w : World} {Q : Exit → Act → World → Prop}
theorem load_part (hgd : Region.wanted o (yielded ops a.tmps) = true) (ty : TypeId) (x : Operand) (ho : o.op = .load ty x) (g off m : Nat) (hx : a.eval x = .pointer (some ⟨g, off, none⟩)) (d : TypeDesc) (hu : P.underlying ty = some d)
    (hd : (match d with | .struct _ | .array _ _ => true | _ => false) = true) {T : TypeId} {cs : Array Value} (hz : RowAt T w g cs) (hi : (P.info? ty).map (·.size) = some m) (hm : off + m ≤ cs.size)
    (h : wpList P ops Q rest (a.put o.dst (.agg (cs.extract off (off + m)))) w) : wpList P ops Q (o :: rest) a w := by
  refine wpList_want hgd fun K hK => ?_
  unfold Oper.wp execOp
  simp only [ho, hx, Instr.loadAt, Instr.sureAddr, Sem.run_bind, Sem.run_pure, Result.andThen_ok, run_loadVar_part w g off m T ty cs _ d hz hu hd hi hm]
  exact hK _ _ h
end
theorem vsz : (Try.prog.info? 23).map (·.size) = some 7 := by kernel_rfl
theorem vz : (Try.prog.info? 23).bind (·.zero) = some (.agg (vc 7 fun _ => 0)) := by kernel_rfl
section
variable {ops : Array Oper} {rest : List Oper} {o : Oper} {a : Act} {w : World} {Q : Exit → Act → World → Prop} {g : Nat} {T : TypeId}
theorem load_m (hgd : Region.wanted o (yielded ops a.tmps) = true) (x : Operand) (ho : o.op = .load 24 x) (hx : a.eval x = .pointer (some ⟨g, 2, none⟩)) {n : Int} {b : Bool} {D : Mat} (hz : ZAt T w g n b D)
    (h : wpList Try.prog ops Q rest (a.put o.dst (.agg (mc D))) w) : wpList Try.prog ops Q (o :: rest) a w :=
  load_part hgd 24 x ho g 2 49 hx _ Try.underlying24 rfl (cs := zc n b D) hz i77s (by rw [zc_size]; omega) (by rw [zc_mc]; exact h)
theorem load_v (hgd : Region.wanted o (yielded ops a.tmps) = true) (x : Operand) (ho : o.op = .load 23 x) (hx : a.eval x = .pointer (some ⟨g, 0, none⟩)) {R : Nat → Int} (hz : RowAt T w g (vc 7 R))
    (h : wpList Try.prog ops Q rest (a.put o.dst (.agg (vc 7 R))) w) : wpList Try.prog ops Q (o :: rest) a w :=
  load_row hgd 23 x ho g hx _ Try.underlying23 rfl hz (by rw [vc_size]; exact vsz) h
theorem store_v (hgd : Region.wanted o (yielded ops a.tmps) = true) (x y : Operand) (ho : o.op = .store 23 x y) (hx : a.eval x = .pointer (some ⟨g, 0, none⟩)) {R R' : Nat → Int}
    (hy : a.eval y = .agg (vc 7 R)) (hz : RowAt T w g (vc 7 R'))
    (h : ∀ W, RowAt T W g (vc 7 R) → w.grownBy W (some g) → Hid (W.heap.size = w.heap.size) → wpList Try.prog ops Q rest (a.put o.dst undef) W) : wpList Try.prog ops Q (o :: rest) a w :=
  store_row hgd 23 x y ho g hx _ hy hz (by simp [vc_size]) (by rw [vc_size]; exact vsz) (vc_one _ _) h
theorem alloc_v (hgd : Region.wanted o (yielded ops a.tmps) = true) (ho : o.op = .alloc 23)
    (h : ∀ W, RowAt 23 W w.heap.size (vc 7 fun _ => 0) → Below w.heap.size w W → Hid (W.heap.size = w.heap.size + 1) → wpList Try.prog ops Q rest (a.put o.dst (.pointer (some ⟨w.heap.size, 0, none⟩))) W) : wpList Try.prog ops Q (o :: rest) a w :=
  alloc_row hgd 23 ho _ vz h
end
@[go_sem high] theorem run_index_m (D : Mat) (i : Nat) (hi : i < 7) (w : World) : (Instr.index 24 (.agg (mc D)) (.int .i64 i)).run Try.prog w = .ok (.agg (vc 7 (D i))) w := by
  have hu := Try.underlying24
  have hs : (sizeOf 23).run Try.prog w = .ok 7 w := by
    have h := vsz
    cases hq : Try.prog.info? 23 with
    | none => simp [hq] at h
    | some i => have : i.size = 7 := by simpa [hq] using h
                simp [sizeOf, typeInfo, hq, this]
  have hp := part_row w (mc D) (i * 7)
  rw [mc_row D i hi] at hp
  have h1 : (0 : Int) ≤ (i : Int) ∧ (i : Int) < ((7 : Nat) : Int) := by omega
  simp [Instr.index, asIntOf, run_underlying hu, hs, h1, hp]
  intro h; omega
@[go_sem high] theorem run_index_v (R : Nat → Int) (i : Nat) (hi : i < 7) (w : World) : (Instr.index 23 (.agg (vc 7 R)) (.int .i64 i)).run Try.prog w = .ok (.int .i64 (R i)) w := by
  have hu := Try.underlying23
  have hs : (sizeOf 3).run Try.prog w = .ok 1 w := by
    obtain ⟨j, hj⟩ := info_some i3s
    have h := run_sizeOf w hj
    rwa [isize3] at h
  have hp := part_int w (vc 7 R) i (R i) (vc_get _ _ _ hi)
  have h1 : (0 : Int) ≤ (i : Int) ∧ (i : Int) < ((7 : Nat) : Int) := by omega
  simp [Instr.index, asIntOf, run_underlying hu, hs, h1, hp]
  intro h; omega
end Go.Proofs.Ytgnkhncogfppgaa

namespace Go.Proofs.Ytgnkhncogfppgaa
open Go.RowKit
theorem rz : (Try.prog.info? 38).bind (·.zero) = some (.agg (zc 0 false fun _ _ => 0)) := by kernel_rfl
theorem rsz : (Try.prog.info? 38).map (·.size) = some 51 := by kernel_rfl
section
variable {ops : Array Oper} {rest : List Oper} {o : Oper} {a : Act} {w0 w : World} {L : Act → Prop} {Q : Exit → Act → World → Prop} {g : Nat} {T : TypeId} {n : Int} {b : Bool} {D : Mat}
theorem lex_load_z (hw : Region.wanted o (yielded ops a.tmps) = true) (x : Operand) (ho : o.op = .load 26 x) (hx : a.eval x = .pointer (some ⟨g, 0, none⟩)) (hz : ZAt T w0 g n b D)
    (h : lexQ Try.prog ops w0 L rest (a.put o.dst (.agg (zc n b D)))) : lexQ Try.prog ops w0 L (o :: rest) a :=
  lex_load_row hw 26 x ho g hx _ Try.underlying26 rfl (cs := zc n b D) hz (by rw [zc_size]; exact zsz) h
theorem lex_load_r (hw : Region.wanted o (yielded ops a.tmps) = true) (x : Operand) (ho : o.op = .load 38 x) (hx : a.eval x = .pointer (some ⟨g, 0, none⟩)) (hz : ZAt T w0 g n b D)
    (h : lexQ Try.prog ops w0 L rest (a.put o.dst (.agg (zc n b D)))) : lexQ Try.prog ops w0 L (o :: rest) a :=
  lex_load_row hw 38 x ho g hx _ Try.underlying38 rfl (cs := zc n b D) hz (by rw [zc_size]; exact rsz) h
/-! The document's zones in variables. -/
theorem load_r (hgd : Region.wanted o (yielded ops a.tmps) = true) (x : Operand) (ho : o.op = .load 38 x) (hx : a.eval x = .pointer (some ⟨g, 0, none⟩)) (hz : ZAt T w g n b D)
    (h : wpList Try.prog ops Q rest (a.put o.dst (.agg (zc n b D))) w) : wpList Try.prog ops Q (o :: rest) a w :=
  wpList_load_zone hgd 38 x ho g hx _ Try.underlying38 rfl rsz hz h
theorem store_r (hgd : Region.wanted o (yielded ops a.tmps) = true) (x y : Operand) (ho : o.op = .store 38 x y) (hx : a.eval x = .pointer (some ⟨g, 0, none⟩)) {m : Int} {c : Bool} {E : Mat}
    (hy : a.eval y = .agg (zc m c E)) (hz : ZAt T w g n b D)
    (h : ∀ W, ZAt T W g m c E → w.grownBy W (some g) → Hid (W.heap.size = w.heap.size) → wpList Try.prog ops Q rest (a.put o.dst undef) W) : wpList Try.prog ops Q (o :: rest) a w :=
  wpList_store_zone hgd 38 x y ho g hx _ _ _ hy rsz hz h
theorem results_r {fn : Func} {p : Tmp} {tmps : Array Value} (h : fn.results = #[.cell p 38]) (hp : tmps.getD p undef = .pointer (some ⟨g, 0, none⟩)) (hz : ZAt T w g n b D) : (results fn tmps).run Try.prog w = .ok (.agg (zc n b D)) w :=
  results_zone h tmps w g _ hp hz Try.underlying38 rfl rsz
end
end Go.Proofs.Ytgnkhncogfppgaa

namespace Go.Proofs.Ytgnkhncogfppgaa
open Go.RowKit
/-- What Right asks of a zone's cells, and that its bounds are the least ones. -/
structure RightP (z : Zn) : Prop where
  n : z.n ≤ 6
  nought : ∀ i j, i < 7 → j < 7 → (z.none = true ∨ z.n < i ∨ z.n < j ∨ i = j) → z.D i j = 0
  hi : ∀ i j, i < 7 → j < 7 → z.D i j ≤ far
  lo : ∀ i j, i < 7 → j < 7 → -far ≤ z.D i j
  clo : (closeZ z).c = z.c
set_option maxHeartbeats 1000000 in
theorem right_yes (z : Zn) (hR : RightP z) (w : World) : Calls Try.prog 44 #[.agg z.c] w (Ret w (.bool true)) := by
  have hR' := Lib.hid hR
  have hn := hR.n
  have hcl : ∀ (W : World), Calls Try.prog 77 #[.agg (zc z.n z.none z.D)] W (Ret W (.agg (zc z.n z.none z.D))) := fun W => by
    have h := close_any z hn W
    rw [hR.clo] at h
    exact h
  have HC := Lib.hid hcl
  clear hR hcl
  obtain ⟨n, b, D⟩ := z
  have hn : n ≤ 6 := hn
  go_enter Try.func44, Try.ntmps44
  go_wp2_with (first
    | (refine wpList_box_zone rfl 26 _ rfl _ _ _ rfl ?_; intro W hz hb hs; have hnc := hz.n_cell; have hbc := hz.b_cell)
    | (go_at_call 85; ((with_reducible refine (count_yes n hn _).mono ?_); rintro e W2 ⟨rfl, rfl⟩))
    | (refine load_m rfl _ rfl rfl hz ?_)
    | fail)
  have HZ := Lib.hid hz
  have HB := Lib.hid hb
  clear hz hb hnc hbc hs
  go_loopw [13] (fun i_ wr => ∃ i : Nat, i ≤ 7 ∧ i_ = .int .i64 (i : Int) ∧ Hid (Below w.heap.size w wr) ∧ Hid (ZAt 26 wr w.heap.size n b D)) (fun i _ => 8 - (intOf i).toNat)
  case atStart => exact ⟨0, Nat.zero_le _, rfl, HB, HZ⟩
  case round =>
    clear HB HZ
    obtain ⟨i, hi, rfl, HB, HZ⟩ := hrel
    by_cases hlt : i < 7
    · go_wp2_with (first
        | (refine alloc_v rfl rfl ?_; intro W1 hv hb1 hs1)
        | (refine store_v rfl _ _ rfl rfl rfl hv ?_; intro W2 hv2 hg2 hs2)
        | (refine load_v rfl _ rfl rfl hv2 ?_)
        | fail)
      have HZ2 := HZ.out.on hb1
      have HB2 := HB.out.trans (hb1.mono HB.out.size)
      have hR2 := HZ2.only hg2 (by have := HZ.out.lt; omega)
      have HB3 := Lib.hid (below_only HB2 hg2 HB2.size (by have := HB.out.size; omega))
      have HZ3 := Lib.hid hR2
      clear HB HZ hv hb1 hs1 hv2 hg2 hs2 HZ2 HB2 hR2
      go_loop [18] (fun j_ => ∃ j : Nat, j ≤ 7 ∧ j_ = .int .i64 (j : Int)) (fun i => 8 - (intOf i).toNat)
      case atStart => exact ⟨0, Nat.zero_le _, rfl⟩
      case round =>
        obtain ⟨j, hj, rfl⟩ := hrel
        by_cases hlj : j < 7
        · have hnc := HZ3.out.n_cell
          have hbc := HZ3.out.b_cell
          have v1 : D i j ≤ 1099511627776 := hR'.out.hi i j hlt hlj
          have v2 : -1099511627776 ≤ D i j := hR'.out.lo i j hlt hlj
          have v0 := hR'.out.nought i j hlt hlj
          simp only at v0
          have V0 := Lib.hid v0
          clear v0
          cases b
          · by_cases h1 : n < i
            · have hz : (D i j != 0) = false := by simp [V0.out (Or.inr (Or.inl h1))]
              go_wp2
              exact ⟨⟨j + 1, by omega, by go_num⟩, by simp [intOf]; omega⟩
            · by_cases h2 : n < j
              · have hz : (D i j != 0) = false := by simp [V0.out (Or.inr (Or.inr (Or.inl h2)))]
                go_wp2
                exact ⟨⟨j + 1, by omega, by go_num⟩, by simp [intOf]; omega⟩
              · by_cases h3 : i = j
                · have hz : (D i j != 0) = false := by simp [V0.out (Or.inr (Or.inr (Or.inr h3)))]
                  have he : ((i : Int) == (j : Int)) = true := by simp; omega
                  have H3 := Lib.hid h3
                  clear h3
                  go_wp2
                  exact ⟨⟨j + 1, by omega, by go_num⟩, by simp [intOf]; omega⟩
                · have he : ((i : Int) == (j : Int)) = false := by simp; omega
                  clear h3
                  go_wp2
                  exact ⟨⟨j + 1, by omega, by go_num⟩, by simp [intOf]; omega⟩
          · have hz : (D i j != 0) = false := by simp [V0.out (Or.inl rfl)]
            go_wp2
            exact ⟨⟨j + 1, by omega, by go_num⟩, by simp [intOf]; omega⟩
        · obtain rfl : j = 7 := by omega
          go_wp2
          go_roundw
          case rel => exact ⟨i + 1, by omega, by go_num, HB3, HZ3⟩
          case measure => simp [intOf]; omega
    · obtain rfl : i = 7 := by omega
      have hz := HZ.out
      have hb := HB.out
      have hnc := hz.n_cell
      have hbc := hz.b_cell
      go_wp2_with fail
      refine head0 4 (by kernel_rfl) (by kernel_rfl) (by kernel_rfl) (by kernel_rfl) ?_
      simp only [List.take_succ_cons, List.take_zero, List.drop_succ_cons, List.drop_zero]
      refine lex_load_z rfl _ rfl rfl hz ?_
      simp only [Act.put, List.setIfInBounds_toArray, List.set_cons_succ, List.set_cons_zero]
      (refine lex_call rfl rfl _ _ (fun W => ?_) _ (fun W hW => HC.out W) ?_; focus (go_simp; done))
      simp only [Act.put, List.setIfInBounds_toArray, List.set_cons_succ, List.set_cons_zero]
      refine lex_load_z rfl _ rfl rfl hz ?_
      simp only [Act.put, List.setIfInBounds_toArray, List.set_cons_succ, List.set_cons_zero]
      (refine lex_pure rfl rfl ?_ (fun W => ?_) ?_; rotate_left; focus (go_simp; try rfl))
      simp only [Act.put, List.setIfInBounds_toArray, List.set_cons_succ, List.set_cons_zero]
      intro w2 hb2
      rw [show zeq n b D n b D = true from zeq_iff.2 rfl]
      go_wp2
      go_ret
      exact ⟨rfl, hb.trans (hb2.mono hb.size)⟩
end Go.Proofs.Ytgnkhncogfppgaa

namespace Go.Proofs.Ytgnkhncogfppgaa
open Go.RowKit
/-- A slice of ints holds these numbers. -/
def SlI (w : World) (ad : Option Addr) (len : Nat) (V : Nat → Int) : Prop := ∀ k, k < len → ∃ b off, ad = some ⟨b, off, none⟩ ∧ w.cell? ⟨b, off + k, none⟩ = some (.int .i64 (V k))
theorem SlI.on {w w' : World} {ad : Option Addr} {len : Nat} {V : Nat → Int} (h : SlI w ad len V) (hb : Below w.heap.size w w') : SlI w' ad len V := fun k hk => by
  obtain ⟨b, off, h1, h2⟩ := h k hk
  exact ⟨b, off, h1, (hb.cell (p := ⟨b, off + k, none⟩) (block_lt_of_cell h2)).trans h2⟩
def atV (V : Nat → Int) (i : Nat) : Int := if i = 0 then 0 else V (i - 1)
theorem at_any (ad : Option Addr) (len cap : Nat) (hlen : len ≤ 1000000) (V : Nat → Int) (i : Nat) (hi : i ≤ len) (w : World) (h : SlI w ad len V) :
    Calls Try.prog 86 #[.slice ad len cap, .int .i64 i] w fun e w' => e = .returned (.int .i64 (atV V i)) ∧ w = w' := by
  by_cases h0 : i = 0
  · subst h0
    go_enter Try.func86, Try.ntmps86
    go_wp2
    go_ret
    exact ⟨rfl, rfl⟩
  · obtain ⟨j, rfl⟩ : ∃ j, i = j + 1 := ⟨i - 1, by omega⟩
    obtain ⟨b, off, rfl, hc⟩ := h j (by omega)
    have hne : (((j + 1 : Nat) : Int) == 0) = false := by simp; omega
    rw [show ((j + 1 : Nat) : Int) = (j : Int) + 1 by omega] at *
    have hjl : (j : Int) < len := by omega
    clear h h0
    go_enter Try.func86, Try.ntmps86
    go_wp2
    go_ret
    exact ⟨by simp [atV], rfl⟩
def inr (n : Int) : Bool := decide (-2147483648 ≤ n ∧ n ≤ 2147483647)
/-- Has a zone these numbers? -/
def hasB (z : Zn) (len : Nat) (V : Nat → Int) : Bool :=
  !z.none && (len == z.n) && (List.range (z.n + 1)).all fun i => inr (atV V i) && (List.range (z.n + 1)).all fun j => inr (atV V j) && decide (atV V i - atV V j ≤ z.D i j)
theorem hasB_iff {z : Zn} {len : Nat} {V : Nat → Int} : hasB z len V = true ↔ z.none = false ∧ len = z.n ∧ ∀ i, i ≤ z.n → inr (atV V i) = true ∧ ∀ j, j ≤ z.n → inr (atV V j) = true ∧ atV V i - atV V j ≤ z.D i j := by
  simp only [hasB, Bool.and_eq_true, Bool.not_eq_true', beq_iff_eq, List.all_eq_true, List.mem_range, decide_eq_true_eq]
  constructor
  · rintro ⟨⟨h1, h2⟩, h3⟩; exact ⟨h1, h2, fun i hi => ⟨(h3 i (by omega)).1, fun j hj => (h3 i (by omega)).2 j (by omega)⟩⟩
  · rintro ⟨h1, h2, h3⟩; exact ⟨⟨h1, h2⟩, fun i hi => ⟨(h3 i (by omega)).1, fun j hj => (h3 i (by omega)).2 j (by omega)⟩⟩
theorem hasF {z : Zn} {len : Nat} {V : Nat → Int} (h : ¬ hasB z len V = true) : Ending.returned (.bool false) = .returned (.bool (hasB z len V)) := by
  rw [show hasB z len V = false by simpa using h]
theorem hasT {z : Zn} {len : Nat} {V : Nat → Int} (h : hasB z len V = true) : Ending.returned (.bool true) = .returned (.bool (hasB z len V)) := by rw [h]
set_option maxHeartbeats 1000000 in
theorem has_any (z : Zn) (hn : z.n ≤ 6) (ad : Option Addr) (len cap : Nat) (hlen : len ≤ 1000000) (V : Nat → Int) (w : World) (hV : SlI w ad len V) :
    Calls Try.prog 34 #[.agg z.c, .slice ad len cap] w (Ret w (.bool (hasB z len V))) := by
  obtain ⟨n, b, D⟩ := z
  have hn : n ≤ 6 := hn
  have HV := Lib.hid hV
  clear hV
  cases b with
  | true =>
    go_enter Try.func34, Try.ntmps34
    go_wp2_with (first
      | (refine wpList_box_zone rfl 26 _ rfl _ _ _ rfl ?_; intro W hz hb hs; have hnc := hz.n_cell; have hbc := hz.b_cell)
      | fail)
    go_ret
    exact ⟨rfl, hb⟩
  | false =>
    by_cases hln : len = n
    · have hlb : ((len : Int) != (n : Int)) = false := by simp; omega
      have hcall : ∀ (i : Nat) (W : World), i ≤ n → Below w.heap.size w W → Calls Try.prog 86 #[.slice ad len cap, .int .i64 i] W fun e w' => e = .returned (.int .i64 (atV V i)) ∧ W = w' := fun i W hi hb => at_any ad len cap hlen V i (by omega) W (HV.out.on hb)
      have HC := Lib.hid hcall
      have HL := Lib.hid hln
      clear hcall hln HV
      go_enter Try.func34, Try.ntmps34
      go_wp2_with (first
        | (refine wpList_box_zone rfl 26 _ rfl _ _ _ rfl ?_; intro W hz hb hs; have hnc := hz.n_cell; have hbc := hz.b_cell)
        | (go_at_call 85; ((with_reducible refine (count_yes n hn _).mono ?_); rintro e W2 ⟨rfl, rfl⟩))
        | fail)
      go_loop [5] (fun i_ => ∃ i : Nat, i ≤ n + 1 ∧ i_ = .int .i64 (i : Int) ∧ Hid (∀ i', i' < i → inr (atV V i') = true ∧ ∀ j, j ≤ n → inr (atV V j) = true ∧ atV V i' - atV V j ≤ D i' j)) (fun i => n + 2 - (intOf i).toNat)
      case atStart => exact ⟨0, Nat.zero_le _, rfl, fun i' hi' => absurd hi' (Nat.not_lt_zero _)⟩
      case round =>
        obtain ⟨i, hi, rfl, hall⟩ := hrel
        by_cases hli : i ≤ n
        · have hci := HC.out i W hli hb
          have HCI := Lib.hid hci
          clear hci
          by_cases hin : -2147483648 ≤ atV V i ∧ atV V i ≤ 2147483647
          · have hi1 := hin.1
            have hi2 := hin.2
            have HIN := Lib.hid hin
            clear hin
            go_wp2_with (first
              | (go_at_call 86; ((with_reducible refine (HCI.out).mono ?_); rintro e W2 ⟨rfl, rfl⟩))
              | fail)
            clear HCI
            have HINR := Lib.hid (show inr (atV V i) = true by simp [inr, HIN.out])
            go_loop [7] (fun j_ => ∃ j : Nat, j ≤ n + 1 ∧ j_ = .int .i64 (j : Int) ∧ Hid (∀ j', j' < j → inr (atV V j') = true ∧ atV V i - atV V j' ≤ D i j')) (fun j => n + 2 - (intOf j).toNat)
            case atStart => exact ⟨0, Nat.zero_le _, rfl, fun i' hi' => absurd hi' (Nat.not_lt_zero _)⟩
            case round =>
              obtain ⟨j, hj, rfl, hin2⟩ := hrel
              by_cases hlj : j ≤ n
              · have hcj := HC.out j W hlj hb
                have HCJ := Lib.hid hcj
                clear hcj
                have c1 := hz.cell i j (by omega) (by omega)
                by_cases hjn : -2147483648 ≤ atV V j ∧ atV V j ≤ 2147483647
                · have hj1 := hjn.1
                  have hj2 := hjn.2
                  have HJN := Lib.hid hjn
                  clear hjn
                  by_cases hle : atV V i - atV V j ≤ D i j
                  · go_wp2_with (first
                      | (go_at_call 86; ((with_reducible refine (HCJ.out).mono ?_); rintro e W2 ⟨rfl, rfl⟩))
                      | fail)
                    exact ⟨⟨j + 1, by omega, by go_num, fun j' hj' => by
                      by_cases hjj : j' = j
                      · subst hjj; exact ⟨by simp [inr, HJN.out], hle⟩
                      · exact hin2.out j' (by omega)⟩, by simp [intOf]; omega⟩
                  · go_wp2_with (first
                      | (go_at_call 86; ((with_reducible refine (HCJ.out).mono ?_); rintro e W2 ⟨rfl, rfl⟩))
                      | fail)
                    go_ret
                    refine ⟨hasF fun h => ?_, hb⟩
                    have := ((hasB_iff.1 h).2.2 i hli).2 j hlj
                    have h3 := this.2
                    simp only at h3
                    omega
                · have hout : atV V j < -2147483648 ∨ 2147483647 < atV V j := by omega
                  have HJN := Lib.hid hjn
                  clear hjn
                  rcases hout with hout | hout
                  all_goals
                    go_wp2_with (first
                      | (go_at_call 86; ((with_reducible refine (HCJ.out).mono ?_); rintro e W2 ⟨rfl, rfl⟩))
                      | fail)
                    go_ret
                    refine ⟨hasF fun h => ?_, hb⟩
                    have := (((hasB_iff.1 h).2.2 i hli).2 j hlj).1
                    simp [inr] at this
                    exact HJN.out this
              · obtain rfl : j = n + 1 := by omega
                go_wp2
                exact ⟨⟨i + 1, by omega, by go_num, fun i' hi' => by
                  by_cases hii : i' = i
                  · subst hii; exact ⟨HINR.out, fun j hj => hin2.out j (by omega)⟩
                  · exact hall.out i' (by omega)⟩, by simp [intOf]; omega⟩
          · have hout : atV V i < -2147483648 ∨ 2147483647 < atV V i := by omega
            have HIN := Lib.hid hin
            clear hin
            rcases hout with hout | hout
            all_goals
              go_wp2_with (first
                | (go_at_call 86; ((with_reducible refine (HCI.out).mono ?_); rintro e W2 ⟨rfl, rfl⟩))
                | fail)
              go_ret
              refine ⟨hasF fun h => ?_, hb⟩
              have := ((hasB_iff.1 h).2.2 i hli).1
              simp [inr] at this
              exact HIN.out this
        · obtain rfl : i = n + 1 := by omega
          go_wp2
          go_ret
          exact ⟨hasT (hasB_iff.2 ⟨rfl, HL.out, fun i (hi : i ≤ n) => hall.out i (by omega)⟩), hb⟩
    · have hlb : ((len : Int) != (n : Int)) = true := by simp; omega
      go_enter Try.func34, Try.ntmps34
      go_wp2_with (first
        | (refine wpList_box_zone rfl 26 _ rfl _ _ _ rfl ?_; intro W hz hb hs; have hnc := hz.n_cell; have hbc := hz.b_cell)
        | (go_at_call 85; ((with_reducible refine (count_yes n hn _).mono ?_); rintro e W2 ⟨rfl, rfl⟩))
        | fail)
      go_ret
      exact ⟨by simp [hasB, hln], hb⟩
end Go.Proofs.Ytgnkhncogfppgaa
