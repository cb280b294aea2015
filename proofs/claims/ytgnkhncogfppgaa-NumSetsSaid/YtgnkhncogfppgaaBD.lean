import Derived.Test.YtgnkhncogfppgaaBC
import Derived.Test.YtgnkhncogfppgaaBA
import Derived.Test.YtgnkhncogfppgaaBB
namespace Go.Proofs.Ytgnkhncogfppgaa
open Go.RowKit
theorem RowAt.new (w : World) (T : TypeId) (cs : Array Value) : RowAt T (w.alloc (.cells cs T)) w.heap.size cs := Go.heap_alloc_new w _
theorem right_of_ok {z : Zn} (h : OKZ z) : RightP z := by
  have hf : far = 1099511627776 := rfl
  refine ⟨h.n, fun i j _ _ hc => ?_, fun i j _ _ => ?_, fun i j _ _ => ?_, by rw [h.close]⟩
  · cases hn : z.none with
    | true => exact h.nones hn i j
    | false =>
      rcases hc with hc | hc | hc | hc
      · rw [hn] at hc; cases hc
      · exact h.out i j (by omega)
      · exact h.out i j (by omega)
      · subst hc
        by_cases hi : i ≤ z.n
        · exact (h.sub hn).diag i hi
        · exact h.out i i (by omega)
  · have := h.small i j; omega
  · have := h.small i j; omega
theorem right_ok {z : Zn} (h : OKZ z) (w : World) : Calls Try.prog 44 #[.agg z.c] w (Ret w (.bool true)) := right_yes z (right_of_ok h) w
/-- What a variable may be, of a zone that is right. -/
theorem itvZ_ok {z : Zn} (h : OKZ z) (hn : z.none = false) {i : Nat} (hi : i < z.n) : itvZ z (i : Int) = (-(z.D 0 (i + 1)), z.D (i + 1) 0) := by
  unfold itvZ
  rw [if_pos (varB_iff.2 ⟨hn, by omega, by omega⟩), show ((i : Int) + 1).toNat = i + 1 by omega]
  have b1 := h.bounds hn 0 (i + 1) (by omega) (by omega)
  have b2 := h.bounds hn (i + 1) 0 (by omega) (by omega)
  have u1 := h.up hn (i + 1) (by omega) (by omega)
  have u2 := h.down hn (i + 1) (by omega) (by omega)
  have t := (h.sub hn).tri 0 0 (i + 1) (by omega) (by omega) (by omega)
  rw [(h.sub hn).diag 0 (by omega)] at t
  rw [w64_in (by omega) (by omega)]
  unfold ofP nrm
  rw [show mx (-z.D 0 (i + 1)) (-2147483648) = -z.D 0 (i + 1) by unfold mx; split <;> omega, show mn (z.D (i + 1) 0) 2147483647 = z.D (i + 1) 0 by unfold mn; split <;> omega, if_neg (by omega)]
/-- A variable whose number is known. -/
theorem itvZ_one {z : Zn} (h : OKZ z) (hn : z.none = false) {i : Nat} (hi : i < z.n) {v : Nat → Int} (hv : Sat z.n z.D v) (h1 : z.D (i + 1) 0 ≤ v (i + 1)) (h2 : z.D 0 (i + 1) ≤ -v (i + 1)) : itvZ z (i : Int) = (v (i + 1), v (i + 1)) := by
  rw [itvZ_ok h hn hi]
  have a1 := hv.le (i + 1) 0 (by omega) (by omega)
  have a2 := hv.le 0 (i + 1) (by omega) (by omega)
  simp only [vm, hv.zero] at a1 a2
  rw [show z.D (i + 1) 0 = v (i + 1) by omega, show z.D 0 (i + 1) = -v (i + 1) by omega, Int.neg_neg]
theorem itvZ_none {z : Zn} (x : Int) (h : ¬ varB z x = true) : itvZ z x = (1, 0) := by unfold itvZ; rw [if_neg h]
theorem ofP_one {n : Int} (h1 : -2147483648 ≤ n) (h2 : n ≤ 2147483647) : ofP n n = (n, n) := by
  unfold ofP nrm
  rw [show mx n (-2147483648) = n by unfold mx; split <;> omega, show mn n 2147483647 = n by unfold mn; split <;> omega, if_neg (by omega)]
/-- Numbers that hold all bounds are had. -/
theorem hasB_sat {z : Zn} (hn : z.none = false) {V : Nat → Int} (h : Sat z.n z.D (atV V)) : hasB z z.n V = true := by
  refine hasB_iff.2 ⟨hn, rfl, fun i hi => ⟨?_, fun j hj => ⟨?_, ?_⟩⟩⟩
  · simp only [inr, decide_eq_true_eq]; exact ⟨h.lo i hi, h.hi i hi⟩
  · simp only [inr, decide_eq_true_eq]; exact ⟨h.lo j hj, h.hi j hj⟩
  · have := h.le i j hi hj; simpa only [vm] using this
theorem sat_hasB {z : Zn} {len : Nat} {V : Nat → Int} (h : hasB z len V = true) : z.none = false ∧ len = z.n ∧ Sat z.n z.D (atV V) := by
  obtain ⟨h1, h2, h3⟩ := hasB_iff.1 h
  refine ⟨h1, h2, rfl, fun i hi => ?_, fun i hi => ?_, fun i j hi hj => ?_⟩
  · have := (h3 i hi).1; simp only [inr, decide_eq_true_eq] at this; exact this.1
  · have := (h3 i hi).1; simp only [inr, decide_eq_true_eq] at this; exact this.2
  · exact ((h3 i hi).2 j hj).2
/-! ### copies -/
def cpZ : Zn := copyZ (zerosZ 2) ((0 : Nat) : Int) (((2 : Nat) : Int) - 1) 3
def cpV : Nat → Int := fun k => if k = 0 then 3 else 0
theorem cp_ok : OKZ cpZ := copy_ok (zeros_ok (by omega)) (by decide) (by decide) (by omega)
theorem cp_n : cpZ.n = 2 := copyZ_n _ _ _ _
theorem zeros_sat {n : Nat} : Sat n (zerosZ n).D (fun _ => 0) := ⟨rfl, fun _ _ => by omega, fun _ _ => by omega, fun _ _ _ _ => by simp [vm, zerosZ, zeroM]⟩
theorem cp_sat : cpZ.none = false ∧ Sat 2 cpZ.D (putV (fun _ => 0) 1 3) := by
  have := copy_sat (z := zerosZ 2) (i := 0) (j := 2) (zeros_ok (by omega)) rfl (by decide) (by decide) (d := 3) (by omega) (v := fun _ => 0) zeros_sat (by omega) (by omega)
  exact this
theorem cp_le : cpZ.D 1 0 ≤ 3 ∧ cpZ.D 0 1 ≤ -3 ∧ cpZ.D 2 0 ≤ 0 ∧ cpZ.D 0 2 ≤ 0 := by
  obtain ⟨h1, h2, h3⟩ := copy_le (z := zerosZ 2) (i := 0) (j := 2) (zeros_ok (by omega)) rfl (by decide) (by decide) (by decide) (d := 3) (by omega) cp_sat.1
  have hs := (cp_ok.sub cp_sat.1)
  have a1 : cpZ.D 2 0 ≤ 0 := h3 2 0 (by decide) (by decide) (by decide) (by decide)
  have a2 : cpZ.D 0 2 ≤ 0 := h3 0 2 (by decide) (by decide) (by decide) (by decide)
  have t1 := hs.tri 1 0 2 (by rw [cp_n]; omega) (by omega) (by rw [cp_n]; omega)
  have t2 := hs.tri 0 1 2 (by omega) (by rw [cp_n]; omega) (by rw [cp_n]; omega)
  have b1 : cpZ.D 1 2 ≤ 3 := h1
  have b2 : cpZ.D 2 1 ≤ -3 := h2
  omega
theorem cp_itv0 : itvZ cpZ 0 = (3, 3) := itvZ_one (i := 0) cp_ok cp_sat.1 (by rw [cp_n]; omega) (v := putV (fun _ => 0) 1 3) (by rw [cp_n]; exact cp_sat.2) cp_le.1 cp_le.2.1
theorem cp_itv1 : itvZ cpZ 1 = (0, 0) := itvZ_one (i := 1) cp_ok cp_sat.1 (by rw [cp_n]; omega) (v := putV (fun _ => 0) 1 3) (by rw [cp_n]; exact cp_sat.2) cp_le.2.2.1 cp_le.2.2.2
theorem cp_has : hasB cpZ 2 cpV = true := by
  have h : Sat cpZ.n cpZ.D (atV cpV) := by
    rw [cp_n, show atV cpV = putV (fun _ => 0) 1 3 from by
      funext k; simp only [atV, cpV, putV]
      by_cases h0 : k = 0
      · subst h0; simp
      · rw [if_neg h0]; by_cases h1 : k = 1
        · subst h1; simp
        · rw [if_neg (by omega), if_neg h1]]
    exact cp_sat.2
  have := hasB_sat cp_sat.1 h
  rwa [cp_n] at this
set_option maxHeartbeats 1000000 in
theorem copies_any (w : World) : Calls Try.prog 24 #[] w (Ret w (.bool true)) := by
  have hz : ∀ W : World, Calls Try.prog 28 #[.int .i64 2] W (Ret W (.agg (zerosZ 2).c)) := fun W => zeros_any 2 (by omega) W
  have hcp : ∀ W : World, Calls Try.prog 23 #[.agg (zerosZ 2).c, .int .i64 0, .int .i64 1, .int .i64 3] W (Ret W (.agg cpZ.c)) := fun W => copy_any (zerosZ 2) (by decide) 0 1 3 W
  have hi0 : ∀ W : World, Calls Try.prog 25 #[.agg (zc cpZ.n cpZ.none cpZ.D), .int .i64 0] W (Ret W (.agg (ic 3 3))) := fun W => by have := zitv_any cpZ cp_ok.n 0 W; rwa [cp_itv0] at this
  have hi1 : ∀ W : World, Calls Try.prog 25 #[.agg (zc cpZ.n cpZ.none cpZ.D), .int .i64 1] W (Ret W (.agg (ic 0 0))) := fun W => by have := zitv_any cpZ cp_ok.n 1 W; rwa [cp_itv1] at this
  have hc3 : ∀ W : World, Calls Try.prog 26 #[.int .i64 3] W (Ret W (.agg (ic 3 3))) := fun W => by have := const_any 3 W; rwa [ofP_one (by omega) (by omega)] at this
  have hc0 : ∀ W : World, Calls Try.prog 26 #[.int .i64 0] W (Ret W (.agg (ic 0 0))) := fun W => by have := const_any 0 W; rwa [ofP_one (by omega) (by omega)] at this
  have hr : ∀ W : World, Calls Try.prog 44 #[.agg (zc cpZ.n cpZ.none cpZ.D)] W (Ret W (.bool true)) := fun W => right_ok cp_ok W
  have ht : ∀ W : World, Calls Try.prog 21 #[.int .i64 3] W (Ret W (.agg (topZ 3).c)) := fun W => top_any 3 (by omega) W
  have hrt : ∀ W : World, Calls Try.prog 44 #[.agg (topZ 3).c] W (Ret W (.bool true)) := fun W => right_ok (top_ok (by omega)) W
  have hh : ∀ (W : World) (g : Nat), RowAt 3 W g #[.int .i64 3, .int .i64 0] → Calls Try.prog 34 #[.agg (zc cpZ.n cpZ.none cpZ.D), .slice (some ⟨g, 0, none⟩) 2 2] W (Ret W (.bool true)) := fun W g hg => by
    have := has_any cpZ cp_ok.n (some ⟨g, 0, none⟩) 2 2 (by omega) cpV W (fun k hk => ⟨g, 0, rfl, by
      rw [hg.cell]
      have : k = 0 ∨ k = 1 := by omega
      rcases this with rfl | rfl <;> rfl⟩)
    rwa [cp_has] at this
  have Hz := Lib.hid hz; have Hcp := Lib.hid hcp; have Hi0 := Lib.hid hi0; have Hi1 := Lib.hid hi1; have Hc3 := Lib.hid hc3; have Hc0 := Lib.hid hc0; have Hr := Lib.hid hr; have Ht := Lib.hid ht; have Hrt := Lib.hid hrt; have Hh := Lib.hid hh
  clear hz hcp hi0 hi1 hc3 hc0 hr ht hrt hh
  go_enter Try.func24, Try.ntmps24
  go_wp2_with (first
    | (go_at_call 28; ((with_reducible refine (Hz.out _).mono ?_); rintro e W2 ⟨rfl, hb⟩))
    | (go_at_call 23; ((with_reducible refine (Hcp.out _).mono ?_); rintro e W3 ⟨rfl, hb2⟩; have hb := hb.trans (hb2.mono hb.size); clear hb2))
    | (refine wpList_alloc_zone rfl 26 rfl zz ?_; intro W1 hz1 hb1 hs1; have hge := hb.size; have hb := hb.trans (hb1.mono hge); clear hb1 hs1)
    | (refine store_z rfl _ _ rfl rfl rfl hz1 ?_; intro W4 hz hg4 hs4; have hb := below_only hb hg4 hb.size (by omega))
    | (refine load_z rfl _ rfl rfl hz ?_)
    | (go_at_call 25; ((with_reducible refine (Hi0.out _).mono ?_); rintro e W2 ⟨rfl, hb2⟩; have hz := hz.below hb2 hz.lt; have hnc := hz.n_cell; have hbc := hz.b_cell; have hb := hb.trans (hb2.mono hb.size); clear hb2))
    | (go_at_call 25; ((with_reducible refine (Hi1.out _).mono ?_); rintro e W2 ⟨rfl, hb2⟩; have hz := hz.below hb2 hz.lt; have hnc := hz.n_cell; have hbc := hz.b_cell; have hb := hb.trans (hb2.mono hb.size); clear hb2))
    | (go_at_call 26; ((with_reducible refine (Hc3.out _).mono ?_); rintro e W2 ⟨rfl, hb2⟩; have hz := hz.below hb2 hz.lt; have hnc := hz.n_cell; have hbc := hz.b_cell; have hb := hb.trans (hb2.mono hb.size); clear hb2))
    | (go_at_call 26; ((with_reducible refine (Hc0.out _).mono ?_); rintro e W2 ⟨rfl, hb2⟩; have hz := hz.below hb2 hz.lt; have hnc := hz.n_cell; have hbc := hz.b_cell; have hb := hb.trans (hb2.mono hb.size); clear hb2))
    | (go_at_call 44; ((with_reducible refine (Hr.out _).mono ?_); rintro e W2 ⟨rfl, hb2⟩; have hz := hz.below hb2 hz.lt; have hnc := hz.n_cell; have hbc := hz.b_cell; have hb := hb.trans (hb2.mono hb.size); clear hb2))
    | (go_at_call 44; ((with_reducible refine (Hrt.out _).mono ?_); rintro e W2 ⟨rfl, hb2⟩; have hz := hz.below hb2 hz.lt; have hnc := hz.n_cell; have hbc := hz.b_cell; have hb := hb.trans (hb2.mono hb.size); clear hb2))
    | (go_at_call 21; ((with_reducible refine (Ht.out _).mono ?_); rintro e W2 ⟨rfl, hb2⟩; have hz := hz.below hb2 hz.lt; have hnc := hz.n_cell; have hbc := hz.b_cell; have hb := hb.trans (hb2.mono hb.size); clear hb2))
    | (go_at_call 34; ((with_reducible refine (Hh.out _ _ (RowAt.new _ _ _)).mono ?_); rintro e W5 ⟨rfl, hb2⟩; have hz := (hz.alloc _).on hb2; have hbs := hb.size; have hb := (hb.alloc hbs _).trans (hb2.mono (by simp; omega)); clear hb2 hbs))
    | fail)
  go_ret
  exact ⟨rfl, hb⟩
end Go.Proofs.Ytgnkhncogfppgaa

namespace Go.Proofs.Ytgnkhncogfppgaa
open Go.RowKit
/-- A slice of the call's own holds these ints. -/
def OwnI (w : World) (base : Nat) (v : Value) (n : Nat) (V : Nat → Int) : Prop := w.ownsRow base 3 1 v n ((List.range n).map fun k => Value.int .i64 (V k))
theorem OwnI.congr {w : World} {base : Nat} {v : Value} {n : Nat} {V V' : Nat → Int} (h : OwnI w base v n V) (he : ∀ k, k < n → V' k = V k) : OwnI w base v n V' := by
  unfold OwnI
  rw [show ((List.range n).map fun k => Value.int .i64 (V' k)) = (List.range n).map fun k => Value.int .i64 (V k) from List.map_congr_left fun k hk => by rw [he k (List.mem_range.1 hk)]]
  exact h
theorem OwnI.nil (w : World) (base : Nat) (V : Nat → Int) : OwnI w base (.slice none 0 0) 0 V := World.ownsRow_nil w base _ 1
theorem OwnI.sl {w : World} {base : Nat} {v : Value} {n : Nat} {V : Nat → Int} (h : OwnI w base v n V) : ∃ ad cap, v = .slice ad n cap ∧ SlI w ad n V ∧ n ≤ cap := by
  rcases h.2 with ⟨rfl, rfl⟩ | ⟨g, cap, cur, rfl, hb, hg, hnc, hcap, hs, ht⟩
  · exact ⟨none, 0, rfl, fun k hk => by omega, Nat.le_refl _⟩
  · refine ⟨some ⟨g, 0, none⟩, cap, rfl, fun k hk => ⟨g, 0, rfl, ?_⟩, hnc⟩
    rw [cell_of_row w g (0 + k) cur _ _ hg]
    have h1 := congrArg (fun l => l[k]?) ht
    simp only [List.getElem?_take, Nat.mul_one, if_pos hk, List.getElem?_map, List.getElem?_range hk, Option.map_some] at h1
    rw [Nat.zero_add, ← Array.getElem?_toList]
    exact h1
theorem OwnI.cell {w : World} {base b off n cap : Nat} {V : Nat → Int} (h : OwnI w base (.slice (some ⟨b, off, none⟩) n cap) n V) (k : Nat) (hk : k < n) : w.cell? ⟨b, off + k, none⟩ = some (.int .i64 (V k)) := by
  obtain ⟨ad, c, he, hs, _⟩ := h.sl
  obtain ⟨b', off', h1, h2⟩ := hs k hk
  injection he with e1 e2 e3
  rw [← e1] at h1
  injection h1 with h1
  injection h1 with h1 h3
  subst h1; subst h3
  exact h2
theorem OwnI.on {w w' : World} {base : Nat} {v : Value} {n : Nat} {V : Nat → Int} (h : OwnI w base v n V) (hb : Below w.heap.size w w') : OwnI w' base v n V :=
  World.ownsRow.kept h (row := none) ⟨hb.os, hb.tape, hb.output, hb.size, fun k hk _ => hb.block k hk⟩ (by cases v.ownBlock <;> simp)
theorem OwnI.drew {w : World} {base : Nat} {v : Value} {n : Nat} {V : Nat → Int} (h : OwnI w base v n V) : OwnI w.drew base v n V := h.on (Below.refl _ _).drew
theorem OwnI.alloc {w : World} {base : Nat} {v : Value} {n : Nat} {V : Nat → Int} (h : OwnI w base v n V) (o : Obj) : OwnI (w.alloc o) base v n V := World.ownsRow.alloc h o
theorem OwnI.only {w W : World} {base g : Nat} {v : Value} {n : Nat} {V : Nat → Int} (h : OwnI w base v n V) (hg : w.grownBy W (some g)) (hlt : g < base) : OwnI W base v n V :=
  World.ownsRow.kept h hg (by
    cases hv : v.ownBlock with
    | none => exact Or.inl rfl
    | some k => right; have := (World.ownsRow.lt h k hv).1; intro e; injection e with e; omega)
theorem OwnI.fresh (w : World) (V : Nat → Int) (u : Int) (hu : V 0 = u) {base : Nat} (hb : base ≤ w.heap.size) : OwnI (w.alloc (.cells #[.int .i64 u] 3)) base (.slice (some ⟨w.heap.size, 0, none⟩) 1 1) 1 V := by
  refine ⟨by simp, .inr ⟨w.heap.size, 1, _, rfl, hb, Go.heap_alloc_new w _, Nat.le_refl _, by unfold maxLen; omega, rfl, ?_⟩⟩
  simp [hu]
theorem iinfo : ∃ i : TypeInfo, Try.prog.info? 3 = some i ∧ i.zero = some (.int .i64 0) ∧ i.size = 1 ∧ i.bytes = 8 := by
  have h : (Try.prog.info? 3).map (fun i => (i.zero, i.size, i.bytes)) = some (some (.int .i64 0), 1, 8) := by kernel_rfl
  cases hi : Try.prog.info? 3 with
  | none => simp [hi] at h
  | some i => simp [hi] at h; exact ⟨i, rfl, h.1, h.2.1, h.2.2⟩
section
variable {ops : Array Oper} {rest : List Oper} {o : Oper} {a : Act} {w : World} {Q : Exit → Act → World → Prop}
/-- One int more. -/
theorem append_i (hgd : o.guard = none) (s x : Operand) (ho : o.op = .call { callee := .builtin .append, args := #[s, x], argTypes := #[28, 28] }) (base : Nat)
    (v : Value) (n : Nat) (V V' : Nat → Int) (hs : a.eval s = v) (hown : OwnI w base v n V) (r : Nat) (c : Nat) (hx : a.eval x = .slice (some ⟨r, 0, none⟩) 1 c) (u : Int) (hc : w.cell? ⟨r, 0, none⟩ = some (.int .i64 u))
    (hn : n ≤ 1000000) (hbase : base ≤ w.heap.size) (hV : ∀ k, k < n → V' k = V k) (hu : V' n = u)
    (h : ∀ v' w', OwnI w' base v' (n + 1) V' → w.grownBy w' v.ownBlock → (∀ k, v.ownBlock = some k → base ≤ k) → wpList Try.prog ops Q rest (a.put o.dst v') w') : wpList Try.prog ops Q (o :: rest) a w := by
  obtain ⟨i, hi, h1, h2, h3⟩ := iinfo
  refine wpList_append_own w hgd s x 28 ho base 3 i (.int .i64 0) 1 8 Try.underlying28 hi h1 h2 h3 rfl (by decide) v n _ hs hown ⟨r, 0, none⟩ 1 c [.int .i64 u] hx rfl ?_ ?_ ?_ ?_ hbase ?_
  · intro j y hj
    match j with
    | 0 => simp at hj; subst hj; simpa [Addr.add] using hc
    | j + 1 => simp at hj
  · intro y hy; simp at hy; subst hy; rfl
  · unfold maxLen; omega
  · omega
  · intro v' w' ho' hg _
    refine h v' w' ?_ hg (fun k hk => (World.ownsRow.lt hown k hk).1)
    unfold OwnI
    rw [List.range_succ, List.map_append, List.map_cons, List.map_nil, hu]
    rw [show ((List.range n).map fun k => Value.int .i64 (V' k)) = (List.range n).map fun k => Value.int .i64 (V k) from List.map_congr_left fun k hk => by rw [hV k (List.mem_range.1 hk)]]
    exact ho'
end
theorem ZAt.kept {T : TypeId} {w W : World} {k : Nat} {n : Int} {b : Bool} {D : Mat} {row : Option Nat} {base : Nat} (h : ZAt T w k n b D) (hg : w.grownBy W row) (hr : ∀ j, row = some j → base ≤ j) (hk : k < base) : ZAt T W k n b D :=
  (hg.block k h.lt (fun e => by have := hr k e.symm; omega)).trans h
theorem RowAt.kept {T : TypeId} {w W : World} {k : Nat} {cs : Array Value} {row : Option Nat} {base : Nat} (h : RowAt T w k cs) (hg : w.grownBy W row) (hr : ∀ j, row = some j → base ≤ j) (hk : k < base) : RowAt T W k cs :=
  (hg.block k h.lt (fun e => by have := hr k e.symm; omega)).trans h
@[go_sem high] theorem neq_i (a b c d : Int) (w : World) : (binOp .neq 32 (.agg (ic a b)) (.agg (ic c d))).run Try.prog w = .ok (.bool (!decide (a = c ∧ b = d))) w := by
  by_cases h1 : a = c <;> by_cases h2 : b = d <;> simp [go_sem, h1, h2, Try.underlying32, Try.stoodInHeld32]
end Go.Proofs.Ytgnkhncogfppgaa

namespace Go.Proofs.Ytgnkhncogfppgaa
/-! The document's close, as the program's. -/
def rcloseZ (z : Zn) : Zn := if negB z.n (rR z.n (z.n + 2) (ownF z.n z.D)) then ⟨z.n, true, zeroM⟩ else ⟨z.n, false, rR z.n (z.n + 2) (ownF z.n z.D)⟩
theorem rclose_eq {z : Zn} (h : Pre z) : rcloseZ z = closeZ z := by
  have hs := ref_spec (n := z.n) (L := 274877906944) (U := 1000000000000000) h.n (by omega) (by omega) (by omega) h.good
  unfold rcloseZ
  rw [ownF_eq]
  rcases hs with hs | ⟨hinf, i, hi, hneg⟩
  · have hn : ¬ negB z.n (rR z.n (z.n + 2) (ownA z.n z.D)) = true := fun hb => by
      obtain ⟨i, hi, hlt⟩ := negB_iff.1 hb
      rw [hs.sub.diag i hi] at hlt; omega
    rw [if_neg hn]
    exact (close_eq h hs fun i j ho => by rw [rR_out ho, ownA_out _ ho]; exact h.out i j ho).symm
  · rw [if_pos (negB_iff.2 ⟨i, hi, hneg⟩)]
    rcases close_spec h with ⟨_, h2, _⟩ | ⟨h1, _⟩
    · exact absurd hinf h2.feas
    · exact h1.symm
end Go.Proofs.Ytgnkhncogfppgaa

namespace Go.Proofs.Ytgnkhncogfppgaa
open Go.RowKit
theorem build_rnb (n : Int) (b : Bool) (w : World) : (Instr.build 38 #[(0, .int .i64 n), (1, .bool b)]).run Try.prog w = .ok (.agg (zc n b fun _ _ => 0)) w := by kernel_rfl
theorem build_rn (n : Int) (w : World) : (Instr.build 38 #[(0, .int .i64 n)]).run Try.prog w = .ok (.agg (zc n false fun _ _ => 0)) w := by kernel_rfl
set_option maxHeartbeats 2000000 in
theorem rclose_yes (n : Nat) (hn : n ≤ 6) (D : Mat) (w : World) : Calls Try.prog 82 #[.agg (zc n false D)] w (Ret w (.agg (rcloseZ ⟨n, false, D⟩).c)) := by
  go_enter Try.func82, Try.ntmps82
  go_wp2_with (first
    | (refine wpList_box_zone rfl 38 _ rfl _ _ _ rfl ?_; intro W hz hb hs; have hnc := hz.n_cell; have hbc := hz.b_cell) | (refine wpList_alloc_zone rfl 38 rfl rz ?_; intro W1 hz1 hb1 hs1; rw [hs.out] at hz1 hb1 hs1; have hz := hz.below hb1 (by omega); have hnc := hz.n_cell; have hbc := hz.b_cell; have hb := hb.trans (hb1.mono (by omega)); rw [hs.out]; clear hs hb1)
    | fail)
  have HZ : Hid (ZAt 38 W1 w.heap.size n false (ownF 0 D)) := hz
  have HZ1 := Lib.hid hz1
  have HB := Lib.hid hb
  clear hz hz1 hb hnc hbc hs1
  go_loopw [3] (fun i wr => ∃ k : Nat, k ≤ n ∧ i = .int .i64 ((k : Int) + 1) ∧ Hid (Below w.heap.size w wr) ∧ Hid (ZAt 38 wr w.heap.size n false (ownF k D)) ∧ Hid (ZAt 38 wr (w.heap.size + 1) 0 false zeroM)) (fun i _ => n + 1 - (intOf i).toNat)
  case atStart => exact ⟨0, Nat.zero_le _, rfl, HB, HZ, HZ1⟩
  case round =>
    clear HB HZ HZ1
    obtain ⟨k, hk, rfl, HB, HZ, HZ1⟩ := hrel
    have hc := HZ.out.n_cell
    by_cases hlt : k < n
    · have c1 := HZ.out.cell (k + 1) 0 (by omega) (by omega)
      have f1 := HZ.out.frozen (2 + (k + 1) * 7)
      have s1 := Lib.hid (HZ.out.set (k + 1) 0 (mn (ownF k D (k + 1) 0) 2147483647) (by omega) (by omega)).drew
      have g1 := Lib.hid ((HB.out.setCell (p := ⟨w.heap.size, 2 + (k + 1) * 7, none⟩) (Nat.le_refl _) (.int .i64 (mn (ownF k D (k + 1) 0) 2147483647))).drew)
      have r1 := Lib.hid (HZ1.out.set_other (a := ⟨w.heap.size, 2 + (k + 1) * 7, none⟩) (by simp) (.int .i64 (mn (ownF k D (k + 1) 0) 2147483647))).drew
      clear HB HZ HZ1
      simp only [Nat.add_zero] at c1 s1
      go_wp2
      go_region
      generalize (wr.setCell { block := w.heap.size, off := 2 + (k + 1) * 7 } (Value.int IntKind.i64 (mn (ownF k D (k + 1) 0) 2147483647))).drew = w2 at *
      have c2 := s1.out.cell 0 (k + 1) (by omega) (by omega)
      have f2 := s1.out.frozen (2 + (k + 1))
      simp only [Nat.zero_mul, Nat.add_zero] at c2
      obtain ⟨v, hv⟩ : ∃ v, v = upd (ownF k D) (k + 1) 0 (mn (ownF k D (k + 1) 0) 2147483647) 0 (k + 1) := ⟨_, rfl⟩
      have s2 := Lib.hid (s1.out.set 0 (k + 1) (mn v 2147483648) (by omega) (by omega))
      have g2 := Lib.hid (g1.out.setCell (p := ⟨w.heap.size, 2 + (k + 1), none⟩) (Nat.le_refl _) (.int .i64 (mn v 2147483648)))
      have r2 := Lib.hid (r1.out.set_other (a := ⟨w.heap.size, 2 + (k + 1), none⟩) (by simp) (.int .i64 (mn v 2147483648)))
      rw [← hv] at c2
      have hV := Lib.hid hv
      clear hv
      simp only [Nat.zero_mul, Nat.add_zero] at s2
      have hE : ownF (k + 1) D = upd (upd (ownF k D) (k + 1) 0 (mn (ownF k D (k + 1) 0) 2147483647)) 0 (k + 1) (mn v 2147483648) := by rw [hV.out]; rfl
      rw [← hE] at s2
      clear hE
      go_wp2
      go_roundw
      case rel => exact ⟨k + 1, by omega, by go_num, g2, s2, r2⟩
      case measure => simp [intOf]; omega
    · obtain rfl : k = n := by omega
      go_wp2
      obtain ⟨A, hA⟩ : ∃ A, A = ownF k D := ⟨_, rfl⟩
      rw [← hA] at HZ
      have HA := Lib.hid hA
      clear hA
      have HZ : Hid (ZAt 38 wr w.heap.size k false (rR k 0 A)) := HZ
      go_loopw [4] (fun i wr => ∃ m : Nat, m ≤ k + 2 ∧ i = .int .i64 (m : Int) ∧ Hid (Below w.heap.size w wr) ∧ Hid (ZAt 38 wr w.heap.size k false (rR k m A)) ∧ Hid (ZAt 38 wr (w.heap.size + 1) 0 false zeroM)) (fun i _ => k + 3 - (intOf i).toNat)
      case atStart => exact ⟨0, Nat.zero_le _, rfl, HB, HZ, HZ1⟩
      case round =>
        clear HB HZ HZ1 hc
        obtain ⟨m, hm, rfl, HB, HZ, HZ1⟩ := hrel
        have hc := HZ.out.n_cell
        by_cases hlm : m ≤ k + 1
        · go_wp2
          go_loopw [5] (fun i_ wr => ∃ i : Nat, i ≤ k + 1 ∧ i_ = .int .i64 (i : Int) ∧ Hid (Below w.heap.size w wr) ∧ Hid (ZAt 38 wr w.heap.size k false (rI k i (rR k m A))) ∧ Hid (ZAt 38 wr (w.heap.size + 1) 0 false zeroM)) (fun i _ => k + 2 - (intOf i).toNat)
          case atStart => exact ⟨0, Nat.zero_le _, rfl, HB, HZ, HZ1⟩
          case round =>
            clear HB HZ HZ1 hc
            obtain ⟨i, hi, rfl, HB, HZ, HZ1⟩ := hrel
            have hc := HZ.out.n_cell
            by_cases hli : i ≤ k
            · go_wp2
              go_loopw [6] (fun i_ wr => ∃ j : Nat, j ≤ k + 1 ∧ i_ = .int .i64 (j : Int) ∧ Hid (Below w.heap.size w wr) ∧ Hid (ZAt 38 wr w.heap.size k false (rJ k i j (rI k i (rR k m A)))) ∧ Hid (ZAt 38 wr (w.heap.size + 1) 0 false zeroM)) (fun i _ => k + 2 - (intOf i).toNat)
              case atStart => exact ⟨0, Nat.zero_le _, rfl, HB, HZ, HZ1⟩
              case round =>
                clear HB HZ HZ1 hc
                obtain ⟨j, hj, rfl, HB, HZ, HZ1⟩ := hrel
                have hc := HZ.out.n_cell
                by_cases hlj : j ≤ k
                · go_wp2
                  go_loopw [7] (fun i_ wr => ∃ x : Nat, x ≤ k + 1 ∧ i_ = .int .i64 (x : Int) ∧ Hid (Below w.heap.size w wr) ∧ Hid (ZAt 38 wr w.heap.size k false (rK i j x (rJ k i j (rI k i (rR k m A))))) ∧ Hid (ZAt 38 wr (w.heap.size + 1) 0 false zeroM)) (fun i _ => k + 2 - (intOf i).toNat)
                  case atStart => exact ⟨0, Nat.zero_le _, rfl, HB, HZ, HZ1⟩
                  case round =>
                    clear HB HZ HZ1 hc
                    obtain ⟨x, hx, rfl, HB, HZ, HZ1⟩ := hrel
                    have hc := HZ.out.n_cell
                    by_cases hlx : x ≤ k
                    · obtain ⟨S, hS⟩ : ∃ S, S = rK i j x (rJ k i j (rI k i (rR k m A))) := ⟨_, rfl⟩
                      rw [← hS] at HZ
                      have HS := Lib.hid hS
                      clear hS
                      have c1 := HZ.out.cell i j (by omega) (by omega)
                      have c2 := HZ.out.cell i x (by omega) (by omega)
                      have c3 := HZ.out.cell x j (by omega) (by omega)
                      have f1 := HZ.out.frozen (2 + i * 7 + j)
                      have s1 := Lib.hid (HZ.out.set i j (mx (mn (S i j) (wrap64 (S i x + S x j))) (-35184372088832)) (by omega) (by omega)).drew
                      have s2 := Lib.hid (HZ1.out.set_other (a := ⟨w.heap.size, 2 + i * 7 + j, none⟩) (by simp) (.int .i64 (mx (mn (S i j) (wrap64 (S i x + S x j))) (-35184372088832)))).drew
                      have s3 := Lib.hid ((HB.out.setCell (p := ⟨w.heap.size, 2 + i * 7 + j, none⟩) (Nat.le_refl _) (.int .i64 (mx (mn (S i j) (wrap64 (S i x + S x j))) (-35184372088832)))).drew)
                      clear HB HZ HZ1
                      go_wp2
                      go_region
                      generalize (wr.setCell { block := w.heap.size, off := 2 + i * 7 + j } (Value.int IntKind.i64 (mx (mn (S i j) (wrap64 (S i x + S x j))) (-35184372088832)))).drew = w3 at *
                      go_wp2
                      go_roundw
                      case rel => exact ⟨x + 1, by omega, by go_num, s3, by rw [wrap64_w64, HS.out] at s1; exact s1, s2⟩
                      case measure => simp [intOf]; omega
                    · obtain rfl : x = k + 1 := by omega
                      go_wp2
                      go_roundw
                      case rel => exact ⟨j + 1, by omega, by go_num, HB, HZ, HZ1⟩
                      case measure => simp [intOf]; omega
                · obtain rfl : j = k + 1 := by omega
                  go_wp2
                  go_roundw
                  case rel => exact ⟨i + 1, by omega, by go_num, HB, HZ, HZ1⟩
                  case measure => simp [intOf]; omega
            · obtain rfl : i = k + 1 := by omega
              go_wp2
              go_roundw
              case rel => exact ⟨m + 1, by omega, by go_num, HB, HZ, HZ1⟩
              case measure => simp [intOf]; omega
        · obtain rfl : m = k + 2 := by omega
          go_wp2
          obtain ⟨F, hF⟩ : ∃ F, F = rR k (k + 2) A := ⟨_, rfl⟩
          rw [← hF] at HZ
          have HF := Lib.hid hF
          clear hF
          go_loopw [8] (fun i_ wr => ∃ i' : Nat, i' ≤ k + 1 ∧ i_ = .int .i64 (i' : Int) ∧ Hid (∀ m, m < i' → ¬ F m m < 0) ∧ Hid (Below w.heap.size w wr) ∧ Hid (ZAt 38 wr w.heap.size k false F) ∧ Hid (ZAt 38 wr (w.heap.size + 1) 0 false zeroM)) (fun i _ => k + 2 - (intOf i).toNat)
          case atStart => exact ⟨0, Nat.zero_le _, rfl, (fun m hm => absurd hm (Nat.not_lt_zero _)), HB, HZ, HZ1⟩
          case round =>
            clear HB HZ HZ1 hc
            obtain ⟨i, hi, rfl, hall, HB, HZ, HZ1⟩ := hrel
            have hc := HZ.out.n_cell
            by_cases hli : i ≤ k
            · have c1 := HZ.out.cell i i (by omega) (by omega)
              by_cases hneg : F i i < 0
              · have hz1 := HZ1.out
                have hb := HB.out
                go_wp2_with (first
                  | (refine wpList_build_val rfl 38 _ rfl #[(0, .int .i64 k), (1, .bool true)] (by simp [Act.eval]) _ (build_rnb k true _) ?_)
                  | (refine store_r rfl _ _ rfl rfl rfl hz1 ?_; intro W4 hz4 hg4 hs4)
                  | fail)
                have hne : negB k (rR k (k + 2) (ownF k D)) = true := by
                  rw [← HA.out, ← HF.out]; simp only [negB, List.any_eq_true, List.mem_range, decide_eq_true_eq]; exact ⟨i, by omega, hneg⟩
                have hfin : (rcloseZ ⟨k, false, D⟩).c = zc k true zeroM := by unfold rcloseZ; rw [if_pos hne]; rfl
                exact bodyPost_ret (results_r rfl (by simp []) hz4) rfl ⟨by rw [hfin]; rfl, below_only hb hg4 hb.size (by omega)⟩
              · go_wp2
                go_roundw
                case rel => exact ⟨i + 1, by omega, by go_num, (fun m hm => by by_cases h : m = i; · rw [h]; exact hneg
                                                                               · exact hall.out m (by omega)), HB, HZ, HZ1⟩
                case measure => simp [intOf]; omega
            · obtain rfl : i = k + 1 := by omega
              have hz := HZ.out
              have hz1 := HZ1.out
              have hb := HB.out
              go_wp2_with (first
                | (refine load_r rfl _ rfl rfl hz ?_)
                | (refine store_r rfl _ _ rfl rfl rfl hz1 ?_; intro W4 hz4 hg4 hs4)
                | fail)
              have hne : ¬ negB k (rR k (k + 2) (ownF k D)) = true := by
                rw [← HA.out, ← HF.out]; simp only [negB, List.any_eq_true, List.mem_range, decide_eq_true_eq]; rintro ⟨i, h1, h2⟩; have := hall.out i h1; omega
              have hfin : (rcloseZ ⟨k, false, D⟩).c = zc k false F := by unfold rcloseZ; rw [if_neg hne, ← HA.out, ← HF.out]; rfl
              exact bodyPost_ret (results_r rfl (by simp []) hz4) rfl ⟨by rw [hfin], below_only hb hg4 hb.size (by omega)⟩
/-- The document's close of none. -/
theorem rclose_none (n : Nat) (D : Mat) (w : World) : Calls Try.prog 82 #[.agg (zc n true D)] w (Ret w (.agg (noneZ n).c)) := by
  go_enter Try.func82, Try.ntmps82
  go_wp2_with (first
    | (refine wpList_box_zone rfl 38 _ rfl _ _ _ rfl ?_; intro W hz hb hs; have hnc := hz.n_cell; have hbc := hz.b_cell) | (refine wpList_alloc_zone rfl 38 rfl rz ?_; intro W1 hz1 hb1 hs1; rw [hs.out] at hz1 hb1 hs1; have hz := hz.below hb1 (by omega); have hnc := hz.n_cell; have hbc := hz.b_cell; have hb := hb.trans (hb1.mono (by omega)); rw [hs.out]; clear hs hb1)
    | (refine wpList_build_val rfl 38 _ rfl #[(0, .int .i64 n), (1, .bool true)] (by simp [Act.eval]) _ (build_rnb n true _) ?_)
    | (refine store_r rfl _ _ rfl rfl rfl hz1 ?_; intro W4 hz4 hg4 hs4)
    | fail)
  exact bodyPost_ret (results_r rfl (by simp [Act.put]) hz4) rfl ⟨rfl, below_only hb hg4 hb.size (by omega)⟩
/-- The document's close is the program's. -/
theorem rclose_any {z : Zn} (h : Pre z) (w : World) : Calls Try.prog 82 #[.agg z.c] w (Ret w (.agg (closeZ z).c)) := by
  have := rclose_yes z.n h.n z.D w
  rw [show (⟨z.n, false, z.D⟩ : Zn) = z by rw [← h.none], rclose_eq h] at this
  rw [Zn.c, h.none]
  exact this
end Go.Proofs.Ytgnkhncogfppgaa

namespace Go.Proofs.Ytgnkhncogfppgaa
open Go.RowKit
set_option maxHeartbeats 1000000 in
theorem rtop_any (n : Nat) (hn : n ≤ 6) (w : World) : Calls Try.prog 27 #[.int .i64 n] w (Ret w (.agg (topZ n).c)) := by
  have e : mn (mx (n : Int) 0) 6 = n := by unfold mn mx; split <;> split <;> omega
  have hc : ∀ (W : World), Calls Try.prog 82 #[.agg (zc n false (topM n))] W (Ret W (.agg (topZ n).c)) := fun W => rclose_any (topM_pre hn) W
  have HC := Lib.hid hc
  clear hc
  go_enter Try.func27, Try.ntmps27
  go_wp2_with (first
    | (have _t := hzR; refine wpList_alloc_zone rfl 38 rfl rz ?_; intro W1 hz hb1 hs1; rw [hs.out] at hz hb1 hs1; have hz1 := hzR.below hb1 (by omega); have hb := hb.trans (hb1.mono (by omega)); rw [hs.out]; clear hzR hs hb1 _t)
    | (refine wpList_alloc_zone rfl 38 rfl rz ?_; intro W hzR hb hs)
    | (refine wpList_build_val rfl 38 _ rfl #[(0, .int .i64 n)] (by simp [Act.eval]) _ (build_rn n _) ?_)
    | (refine store_r rfl _ _ rfl rfl rfl hz ?_; intro W4 hz4 hg4 hs4; have hz := hz4; have hz1 := hz1.only hg4 (by omega); have hb := below_only hb hg4 hb.size (by omega); have hnc := hz.n_cell; clear hz4 hg4)
    | fail)
  have HZ : Hid (ZAt 38 W4 (w.heap.size + 1) n false (topP n 0 0)) := by rw [topP_start]; exact hz
  have HZ1 := Lib.hid hz1
  have HB := Lib.hid hb
  clear hz hz1 hb hnc
  go_loopw [4] (fun i_ wr => ∃ i : Nat, i ≤ n + 1 ∧ i_ = .int .i64 (i : Int) ∧ Hid (Below w.heap.size w wr) ∧ Hid (ZAt 38 wr (w.heap.size + 1) n false (topP n i 0)) ∧ Hid (ZAt 38 wr w.heap.size 0 false zeroM)) (fun i _ => n + 2 - (intOf i).toNat)
  case atStart => exact ⟨0, Nat.zero_le _, rfl, HB, HZ, HZ1⟩
  case round =>
    clear HB HZ HZ1
    obtain ⟨i, hi, rfl, HB, HZ, HZ1⟩ := hrel
    have hnc := HZ.out.n_cell
    by_cases hlt : i ≤ n
    · go_wp2
      go_loopw [5] (fun j_ wr => ∃ j : Nat, j ≤ n + 1 ∧ j_ = .int .i64 (j : Int) ∧ Hid (Below w.heap.size w wr) ∧ Hid (ZAt 38 wr (w.heap.size + 1) n false (topP n i j)) ∧ Hid (ZAt 38 wr w.heap.size 0 false zeroM)) (fun i _ => n + 2 - (intOf i).toNat)
      case atStart => exact ⟨0, Nat.zero_le _, rfl, HB, HZ, HZ1⟩
      case round =>
        clear HB HZ HZ1 hnc
        obtain ⟨j, hj, rfl, HB, HZ, HZ1⟩ := hrel
        have hnc := HZ.out.n_cell
        by_cases hlj : j ≤ n
        · by_cases hij : i = j
          · subst hij
            go_wp2
            go_roundw
            case rel => exact ⟨i + 1, by omega, by go_num, HB, by rw [← topP_same]; exact HZ, HZ1⟩
            case measure => simp [intOf]; omega
          · have hne : ((i : Int) != (j : Int)) = true := by simp; omega
            have c1 := HZ.out.cell i j (by omega) (by omega)
            have f1 := HZ.out.frozen (2 + i * 7 + j)
            have s1 := Lib.hid (HZ.out.set i j far (by omega) (by omega))
            rw [topP_next n i j hlt hlj hij] at s1
            have s2 := Lib.hid (HZ1.out.set_other (a := ⟨w.heap.size + 1, 2 + i * 7 + j, none⟩) (by simp) (.int .i64 far))
            have s3 := Lib.hid (HB.out.setCell (p := ⟨w.heap.size + 1, 2 + i * 7 + j, none⟩) (by simp) (.int .i64 far))
            go_wp2
            go_roundw
            case rel => exact ⟨j + 1, by omega, by go_num, s3, s1, s2⟩
            case measure => simp [intOf]; omega
        · obtain rfl : j = n + 1 := by omega
          rw [topP_row] at HZ
          go_wp2
          go_roundw
          case rel => exact ⟨i + 1, by omega, by go_num, HB, HZ, HZ1⟩
          case measure => simp [intOf]; omega
    · obtain rfl : i = n + 1 := by omega
      rw [topP_end] at HZ
      have hz := HZ.out
      have hz1 := HZ1.out
      have hb := HB.out
      have hbc := hz.b_cell
      go_wp2_with (first
        | (refine load_r rfl _ rfl rfl hz ?_)
        | (go_at_call 82; ((with_reducible refine (HC.out _).mono ?_); rintro e W2 ⟨rfl, hb2⟩; have hz := hz.below hb2 hz.lt; have hz1 := hz1.below hb2 hz1.lt; have hnc := hz.n_cell; have hbc := hz.b_cell; have hb := hb.trans (hb2.mono hb.size); clear hb2))
        | (refine store_r rfl _ _ rfl rfl rfl hz1 ?_; intro W4 hz4 hg4 hs4)
        | fail)
      exact bodyPost_ret (results_r rfl (by simp [Act.put]) hz4) rfl ⟨rfl, below_only hb hg4 hb.size (by omega)⟩
set_option maxHeartbeats 400000 in
/-- The document's Bound is the program's. -/
theorem rbound_any {z : Zn} (h : OKZ z) {i j : Nat} (hi : i ≤ z.n) (hj : j ≤ z.n) (hij : i ≠ j) {d : Int} (hd : -274877906944 ≤ d) (w : World) :
    Calls Try.prog 29 #[.agg z.c, .int .i64 ((i : Int) - 1), .int .i64 ((j : Int) - 1), .int .i64 d] w (Ret w (.agg (boundZ z ((i : Int) - 1) ((j : Int) - 1) d).c)) := by
  have hn6 := h.n
  cases hno : z.none with
  | true =>
    rw [boundZ_none hno, Zn.c, hno]
    clear hno h
    go_enter Try.func29, Try.ntmps29
    go_wp2_with (first
      | (refine wpList_box_zone rfl 38 _ rfl _ _ _ rfl ?_; intro W hz hb hs; have hnc := hz.n_cell; have hbc := hz.b_cell) | (refine wpList_alloc_zone rfl 38 rfl rz ?_; intro W1 hz1 hb1 hs1; rw [hs.out] at hz1 hb1 hs1; have hz := hz.below hb1 (by omega); have hnc := hz.n_cell; have hbc := hz.b_cell; have hb := hb.trans (hb1.mono (by omega)); rw [hs.out]; clear hs hb1)
      | (refine load_r rfl _ rfl rfl hz ?_)
      | (refine store_r rfl _ _ rfl rfl rfl hz1 ?_; intro W4 hz4 hg4 hs4)
      | fail)
    exact bodyPost_ret (results_r rfl (by simp [Act.put]) hz4) rfl ⟨rfl, below_only hb hg4 hb.size (by omega)⟩
  | false =>
    obtain ⟨v, hv⟩ : ∃ v, v = mn (z.D i j) d := ⟨_, rfl⟩
    have hfin : boundZ z ((i : Int) - 1) ((j : Int) - 1) d = closeZ ⟨z.n, false, upd z.D i j v⟩ := by
      rw [boundZ_yes hno hi hj, hv, ← hno]
      show closeZ { z with D := upd z.D i j (mn (z.D i j) (mx d (-far))) } = _
      rw [show mx d (-far) = d by unfold mx far; split <;> omega]
    have hpre : Pre ⟨z.n, false, upd z.D i j v⟩ := by
      have := setB_pre h hno hi hj hij hd
      unfold setB at this
      rw [show mx d (-far) = d by unfold mx far; split <;> omega, hno, ← hv] at this
      exact this
    have hc : ∀ (W : World), Calls Try.prog 82 #[.agg (zc z.n false (upd z.D i j v))] W (Ret W (.agg (closeZ ⟨z.n, false, upd z.D i j v⟩).c)) := fun W => rclose_any hpre W
    rw [hfin, Zn.c, hno]
    have HC := Lib.hid hc
    have HV := Lib.hid hv
    clear hno h hc hpre hfin hv
    go_enter Try.func29, Try.ntmps29
    go_wp2_with (first
      | (refine wpList_box_zone rfl 38 _ rfl _ _ _ rfl ?_; intro W hz hb hs; have hnc := hz.n_cell; have hbc := hz.b_cell) | (refine wpList_alloc_zone rfl 38 rfl rz ?_; intro W1 hz1 hb1 hs1; rw [hs.out] at hz1 hb1 hs1; have hz := hz.below hb1 (by omega); have hnc := hz.n_cell; have hbc := hz.b_cell; have hb := hb.trans (hb1.mono (by omega)); rw [hs.out]; clear hs hb1)
      | fail)
    have c1 := hz.cell i j (by omega) (by omega)
    have f1 := hz.frozen (2 + i * 7 + j)
    have s1 := Lib.hid (hz.set i j v (by omega) (by omega)).drew
    have s2 := Lib.hid (hz1.set_other (a := ⟨w.heap.size, 2 + i * 7 + j, none⟩) (by simp) (.int .i64 v)).drew
    have s3 := Lib.hid ((hb.setCell (p := ⟨w.heap.size, 2 + i * 7 + j, none⟩) (Nat.le_refl _) (.int .i64 v)).drew)
    clear hz1 hb
    go_region
    rw [← HV.out]
    generalize (W1.setCell { block := w.heap.size, off := 2 + i * 7 + j } (Value.int IntKind.i64 v)).drew = w3 at *
    have hz := s1.out
    have hz1 := s2.out
    have hb := s3.out
    clear c1 f1 s1 s2 s3
    go_wp2_with (first
      | (refine load_r rfl _ rfl rfl hz ?_)
      | (go_at_call 82; ((with_reducible refine (HC.out _).mono ?_); rintro e W2 ⟨rfl, hb2⟩; have hz := hz.below hb2 hz.lt; have hz1 := hz1.below hb2 hz1.lt; have hnc := hz.n_cell; have hbc := hz.b_cell; have hb := hb.trans (hb2.mono hb.size); clear hb2))
      | (refine store_r rfl _ _ rfl rfl rfl hz1 ?_; intro W4 hz4 hg4 hs4)
      | fail)
    exact bodyPost_ret (results_r rfl (by simp [Act.put]) hz4) rfl ⟨rfl, below_only hb hg4 hb.size (by omega)⟩
set_option maxHeartbeats 400000 in
/-- The document's Forget is the program's. -/
theorem rforget_any {z : Zn} (h : OKZ z) {i : Nat} (hi : i < z.n) (w : World) : Calls Try.prog 83 #[.agg z.c, .int .i64 (i : Int)] w (Ret w (.agg (forgetZ z (i : Int)).c)) := by
  have hn6 := h.n
  cases hno : z.none with
  | true =>
    rw [forgetZ_no _ (by rw [varB_iff, hno]; simp), Zn.c, hno]
    clear hno h
    go_enter Try.func83, Try.ntmps83
    go_wp2_with (first
      | (refine wpList_box_zone rfl 38 _ rfl _ _ _ rfl ?_; intro W hz hb hs; have hnc := hz.n_cell; have hbc := hz.b_cell) | (refine wpList_alloc_zone rfl 38 rfl rz ?_; intro W1 hz1 hb1 hs1; rw [hs.out] at hz1 hb1 hs1; have hz := hz.below hb1 (by omega); have hnc := hz.n_cell; have hbc := hz.b_cell; have hb := hb.trans (hb1.mono (by omega)); rw [hs.out]; clear hs hb1)
      | (refine load_r rfl _ rfl rfl hz ?_)
      | (refine store_r rfl _ _ rfl rfl rfl hz1 ?_; intro W4 hz4 hg4 hs4)
      | fail)
    exact bodyPost_ret (results_r rfl (by simp [Act.put]) hz4) rfl ⟨rfl, below_only hb hg4 hb.size (by omega)⟩
  | false =>
    have hfin : forgetZ z (i : Int) = closeZ ⟨z.n, false, forgetM (i + 1) (z.n + 1) z.D⟩ := by
      rw [forgetZ_yes hno hi, ← hno]; rfl
    have hpre : Pre ⟨z.n, false, forgetM (i + 1) (z.n + 1) z.D⟩ := by
      have := clear_pre h hno (row := i + 1) (by omega)
      unfold clearZ at this
      rw [hno] at this
      exact this
    have hc : ∀ (W : World), Calls Try.prog 82 #[.agg (zc z.n false (forgetM (i + 1) (z.n + 1) z.D))] W (Ret W (.agg (closeZ ⟨z.n, false, forgetM (i + 1) (z.n + 1) z.D⟩).c)) := fun W => rclose_any hpre W
    rw [hfin, Zn.c, hno]
    have HC := Lib.hid hc
    clear hno h hc hpre hfin
    obtain ⟨n, b, D⟩ := z
    have hn6 : n ≤ 6 := hn6
    have hi : i < n := hi
    have HC : Hid (∀ (W : World), Calls Try.prog 82 #[.agg (zc n false (forgetM (i + 1) (n + 1) D))] W (Ret W (.agg (closeZ ⟨n, false, forgetM (i + 1) (n + 1) D⟩).c))) := HC
    show Calls Try.prog 83 #[.agg (zc n false D), .int .i64 (i : Int)] w (Ret w (.agg (closeZ ⟨n, false, forgetM (i + 1) (n + 1) D⟩).c))
    go_enter Try.func83, Try.ntmps83
    go_wp2_with (first
      | (refine wpList_box_zone rfl 38 _ rfl _ _ _ rfl ?_; intro W hz hb hs; have hnc := hz.n_cell; have hbc := hz.b_cell) | (refine wpList_alloc_zone rfl 38 rfl rz ?_; intro W1 hz1 hb1 hs1; rw [hs.out] at hz1 hb1 hs1; have hz := hz.below hb1 (by omega); have hnc := hz.n_cell; have hbc := hz.b_cell; have hb := hb.trans (hb1.mono (by omega)); rw [hs.out]; clear hs hb1)
      | fail)
    have HZ := Lib.hid hz
    have HZ1 := Lib.hid hz1
    have HB := Lib.hid hb
    clear hz hz1 hb hnc hbc hs1
    go_loopw [5] (fun i_ wr => ∃ k : Nat, k ≤ n + 1 ∧ i_ = .int .i64 (k : Int) ∧ Hid (Below w.heap.size w wr) ∧ Hid (ZAt 38 wr w.heap.size n false (forgetM (i + 1) k D)) ∧ Hid (ZAt 38 wr (w.heap.size + 1) 0 false zeroM)) (fun i _ => n + 2 - (intOf i).toNat)
    case atStart => exact ⟨0, Nat.zero_le _, rfl, HB, HZ, HZ1⟩
    case round =>
      clear HB HZ HZ1
      obtain ⟨k, hk, rfl, HB, HZ, HZ1⟩ := hrel
      have hnc := HZ.out.n_cell
      by_cases hlt : k ≤ n
      · by_cases hkr : k = i + 1
        · subst hkr
          have hne : (((i + 1 : Nat) : Int) != (i : Int) + 1) = false := by simp
          go_wp2
          go_roundw
          case rel => exact ⟨i + 1 + 1, by omega, by go_num, HB, by show ZAt _ _ _ _ _ (forgetS (i + 1) (i + 1) (forgetM (i + 1) (i + 1) D)); unfold forgetS; rw [if_neg (by simp)]; exact HZ, HZ1⟩
          case measure => simp [intOf]; omega
        · have hne : ((k : Int) != (i : Int) + 1) = true := by simp; omega
          obtain ⟨S, hS⟩ : ∃ S, S = forgetM (i + 1) k D := ⟨_, rfl⟩
          rw [← hS] at HZ
          have HS := Lib.hid hS
          clear hS
          have c1 := HZ.out.cell k (i + 1) (by omega) (by omega)
          have f1 := HZ.out.frozen (2 + k * 7 + (i + 1))
          have f2 := HZ.out.frozen (2 + (i + 1) * 7 + k)
          have g1 := HZ.out.set k (i + 1) far (by omega) (by omega)
          have c2 := g1.cell (i + 1) k (by omega) (by omega)
          have c3 := HZ.out.cell (i + 1) k (by omega) (by omega)
          rw [upd_ne _ _ _ _ (by omega)] at c2
          have s1 := Lib.hid (g1.set (i + 1) k far (by omega) (by omega)).drew
          have s2 := Lib.hid ((HZ1.out.set_other (a := ⟨w.heap.size, 2 + k * 7 + (i + 1), none⟩) (by simp) (.int .i64 far)).set_other (a := ⟨w.heap.size, 2 + (i + 1) * 7 + k, none⟩) (by simp) (.int .i64 far)).drew
          have s3 := Lib.hid (((HB.out.setCell (p := ⟨w.heap.size, 2 + k * 7 + (i + 1), none⟩) (Nat.le_refl _) (.int .i64 far)).setCell (p := ⟨w.heap.size, 2 + (i + 1) * 7 + k, none⟩) (Nat.le_refl _) (.int .i64 far)).drew)
          have e1 : (0 : Int) ≤ (i : Int) + 1 := by omega
          have e2 : ((i : Int) + 1).toNat = i + 1 := by omega
          clear g1 HB HZ HZ1
          go_wp2
          go_region
          generalize ((wr.setCell { block := w.heap.size, off := 2 + k * 7 + (i + 1) } (Value.int IntKind.i64 far)).setCell { block := w.heap.size, off := 2 + (i + 1) * 7 + k } (Value.int IntKind.i64 far)).drew = w3 at *
          have hE : forgetM (i + 1) (k + 1) D = upd (upd S k (i + 1) far) (i + 1) k far := by
            show forgetS (i + 1) k (forgetM (i + 1) k D) = _
            unfold forgetS
            rw [if_pos hkr, ← HS.out]
          rw [← hE] at s1
          clear hE c1 c2 c3 f1 f2 e1 e2
          go_wp2
          go_roundw
          case rel => exact ⟨k + 1, by omega, by go_num, s3, s1, s2⟩
          case measure => simp [intOf]; omega
      · obtain rfl : k = n + 1 := by omega
        have hz := HZ.out
        have hz1 := HZ1.out
        have hb := HB.out
        have hbc := hz.b_cell
        go_wp2_with (first
          | (refine load_r rfl _ rfl rfl hz ?_)
          | (go_at_call 82; ((with_reducible refine (HC.out _).mono ?_); rintro e W2 ⟨rfl, hb2⟩; have hz := hz.below hb2 hz.lt; have hz1 := hz1.below hb2 hz1.lt; have hnc := hz.n_cell; have hbc := hz.b_cell; have hb := hb.trans (hb2.mono hb.size); clear hb2))
          | (refine store_r rfl _ _ rfl rfl rfl hz1 ?_; intro W4 hz4 hg4 hs4)
          | fail)
        exact bodyPost_ret (results_r rfl (by simp [Act.put]) hz4) rfl ⟨rfl, below_only hb hg4 hb.size (by omega)⟩
set_option maxHeartbeats 1000000 in
/-- A row and its column moved, as the document moves them. -/
theorem rcopy_same {z : Zn} (h : OKZ z) (hno : z.none = false) {i : Nat} (hi : i < z.n) {d : Int} (hd : -137438953472 ≤ d ∧ d ≤ 137438953472) (w : World) :
    Calls Try.prog 84 #[.agg z.c, .int .i64 (i : Int), .int .i64 (i : Int), .int .i64 d] w (Ret w (.agg (copyZ z (i : Int) (i : Int) d).c)) := by
  have hn6 := h.n
  have hfin : copyZ z (i : Int) (i : Int) d = closeZ ⟨z.n, false, movedM (i + 1) d (z.n + 1) z.D⟩ := by
    rw [copyZ_same hno hi hd, ← hno]; rfl
  have hpre : Pre ⟨z.n, false, movedM (i + 1) d (z.n + 1) z.D⟩ := by
    have := mid_pre h hno (row := i + 1) (by omega) hd
    unfold midZ at this
    rw [hno] at this
    exact this
  have hc : ∀ (W : World), Calls Try.prog 82 #[.agg (zc z.n false (movedM (i + 1) d (z.n + 1) z.D))] W (Ret W (.agg (closeZ ⟨z.n, false, movedM (i + 1) d (z.n + 1) z.D⟩).c)) := fun W => rclose_any hpre W
  rw [hfin, Zn.c, hno]
  have HC := Lib.hid hc
  clear hno h hc hpre hfin
  obtain ⟨n, b, D⟩ := z
  have hn6 : n ≤ 6 := hn6
  have hi : i < n := hi
  have HC : Hid (∀ (W : World), Calls Try.prog 82 #[.agg (zc n false (movedM (i + 1) d (n + 1) D))] W (Ret W (.agg (closeZ ⟨n, false, movedM (i + 1) d (n + 1) D⟩).c))) := HC
  show Calls Try.prog 84 #[.agg (zc n false D), .int .i64 (i : Int), .int .i64 (i : Int), .int .i64 d] w (Ret w (.agg (closeZ ⟨n, false, movedM (i + 1) d (n + 1) D⟩).c))
  go_enter Try.func84, Try.ntmps84
  go_wp2_with (first
    | (refine wpList_box_zone rfl 38 _ rfl _ _ _ rfl ?_; intro W hz hb hs; have hnc := hz.n_cell; have hbc := hz.b_cell) | (refine wpList_alloc_zone rfl 38 rfl rz ?_; intro W1 hz1 hb1 hs1; rw [hs.out] at hz1 hb1 hs1; have hz := hz.below hb1 (by omega); have hnc := hz.n_cell; have hbc := hz.b_cell; have hb := hb.trans (hb1.mono (by omega)); rw [hs.out]; clear hs hb1)
    | fail)
  have HZ := Lib.hid hz
  have HZ1 := Lib.hid hz1
  have HB := Lib.hid hb
  clear hz hz1 hb hnc hbc hs1
  go_loopw [9] (fun i_ wr => ∃ k : Nat, k ≤ n + 1 ∧ i_ = .int .i64 (k : Int) ∧ Hid (Below w.heap.size w wr) ∧ Hid (ZAt 38 wr w.heap.size n false (movedM (i + 1) d k D)) ∧ Hid (ZAt 38 wr (w.heap.size + 1) 0 false zeroM)) (fun i _ => n + 2 - (intOf i).toNat)
  case atStart => exact ⟨0, Nat.zero_le _, rfl, HB, HZ, HZ1⟩
  case round =>
    clear HB HZ HZ1
    obtain ⟨k, hk, rfl, HB, HZ, HZ1⟩ := hrel
    have hnc := HZ.out.n_cell
    by_cases hlt : k ≤ n
    · by_cases hkr : k = i + 1
      · subst hkr
        have hne : (((i + 1 : Nat) : Int) != (i : Int) + 1) = false := by simp
        go_wp2
        go_roundw
        case rel => exact ⟨i + 1 + 1, by omega, by go_num, HB, by show ZAt _ _ _ _ _ (movedS (i + 1) d (i + 1) (movedM (i + 1) d (i + 1) D)); unfold movedS; rw [if_neg (by simp)]; exact HZ, HZ1⟩
        case measure => simp [intOf]; omega
      · have hne : ((k : Int) != (i : Int) + 1) = true := by simp; omega
        obtain ⟨S, hS⟩ : ∃ S, S = movedM (i + 1) d k D := ⟨_, rfl⟩
        rw [← hS] at HZ
        have e1 : (0 : Int) ≤ (i : Int) + 1 := by omega
        have e2 : ((i : Int) + 1).toNat = i + 1 := by omega
        have c1 := HZ.out.cell (i + 1) k (by omega) (by omega)
        have f1 := HZ.out.frozen (2 + (i + 1) * 7 + k)
        obtain ⟨v, hv⟩ : ∃ v, v = wrap64 (S (i + 1) k + d) := ⟨_, rfl⟩
        have s1 := Lib.hid (HZ.out.set (i + 1) k v (by omega) (by omega)).drew
        have s2 := Lib.hid (HZ1.out.set_other (a := ⟨w.heap.size, 2 + (i + 1) * 7 + k, none⟩) (by simp) (.int .i64 v)).drew
        have s3 := Lib.hid ((HB.out.setCell (p := ⟨w.heap.size, 2 + (i + 1) * 7 + k, none⟩) (Nat.le_refl _) (.int .i64 v)).drew)
        have HV := Lib.hid hv
        have HS := Lib.hid hS
        clear hv hS HZ HB HZ1
        go_wp2
        go_region
        rw [← HV.out]
        generalize (wr.setCell { block := w.heap.size, off := 2 + (i + 1) * 7 + k } (Value.int IntKind.i64 v)).drew = w3 at *
        have c2 := s1.out.cell k (i + 1) (by omega) (by omega)
        have f2 := s1.out.frozen (2 + k * 7 + (i + 1))
        rw [upd_ne _ _ _ _ (by omega)] at c2
        obtain ⟨u, hu⟩ : ∃ u, u = wrap64 (S k (i + 1) - d) := ⟨_, rfl⟩
        have t1 := Lib.hid (s1.out.set k (i + 1) u (by omega) (by omega)).drew
        have t2 := Lib.hid (s2.out.set_other (a := ⟨w.heap.size, 2 + k * 7 + (i + 1), none⟩) (by simp) (.int .i64 u)).drew
        have t3 := Lib.hid ((s3.out.setCell (p := ⟨w.heap.size, 2 + k * 7 + (i + 1), none⟩) (Nat.le_refl _) (.int .i64 u)).drew)
        have HU := Lib.hid hu
        clear hu s1 s2 s3 c1 f1
        go_wp2
        go_region
        rw [← HU.out]
        generalize (w3.setCell { block := w.heap.size, off := 2 + k * 7 + (i + 1) } (Value.int IntKind.i64 u)).drew = w4 at *
        have hE : movedM (i + 1) d (k + 1) D = upd (upd S (i + 1) k v) k (i + 1) u := by
          show movedS (i + 1) d k (movedM (i + 1) d k D) = _
          unfold movedS
          rw [if_pos hkr, ← HS.out, HV.out, HU.out, wrap64_w64, wrap64_w64, upd_ne _ _ _ _ (by omega)]
        rw [← hE] at t1
        clear hE c2 f2 e1 e2
        go_wp2
        go_roundw
        case rel => exact ⟨k + 1, by omega, by go_num, t3, t1, t2⟩
        case measure => simp [intOf]; omega
    · obtain rfl : k = n + 1 := by omega
      have hz := HZ.out
      have hz1 := HZ1.out
      have hb := HB.out
      have hbc := hz.b_cell
      go_wp2_with (first
        | (refine load_r rfl _ rfl rfl hz ?_)
        | (go_at_call 82; ((with_reducible refine (HC.out _).mono ?_); rintro e W2 ⟨rfl, hb2⟩; have hz := hz.below hb2 hz.lt; have hz1 := hz1.below hb2 hz1.lt; have hnc := hz.n_cell; have hbc := hz.b_cell; have hb := hb.trans (hb2.mono hb.size); clear hb2))
        | (refine store_r rfl _ _ rfl rfl rfl hz1 ?_; intro W4 hz4 hg4 hs4)
        | fail)
      exact bodyPost_ret (results_r rfl (by simp [Act.put]) hz4) rfl ⟨rfl, below_only hb hg4 hb.size (by omega)⟩
set_option maxHeartbeats 1000000 in
theorem rcopy_link {z : Zn} (h : OKZ z) (hno : z.none = false) {i j : Nat} (hi : i < z.n) (hj : j ≤ z.n) (hij : i + 1 ≠ j) {d : Int} (hd : -137438953472 ≤ d ∧ d ≤ 137438953472) (w : World) :
    Calls Try.prog 84 #[.agg z.c, .int .i64 (i : Int), .int .i64 ((j : Int) - 1), .int .i64 d] w (Ret w (.agg (copyZ z (i : Int) ((j : Int) - 1) d).c)) := by
  have hn6 := h.n
  have hp := clear_pre h hno (row := i + 1) (by omega)
  have hk := close_ok hp
  obtain ⟨v, hv⟩ := h.some hno
  have hcn := (close_sat (z := clearZ z (i + 1)) hp (clear_sat h hno (by omega) (by omega) hv (u := 0) (by omega) (by omega))).1
  have e : (closeZ (clearZ z (i + 1))).n = z.n := closeZ_n _
  obtain ⟨Y, hY⟩ : ∃ Y, Y = (closeZ (clearZ z (i + 1))).D := ⟨_, rfl⟩
  have hjp := join2_pre (i := i + 1) (j := j) hk hcn (by omega) (by omega) hij hd
  have hcl : closeZ (clearZ z (i + 1)) = ⟨z.n, false, Y⟩ := by rw [← e, ← hcn, hY]
  have hcopy := copyZ_link hno hi hj hij hd
  rw [hcl] at hcopy hjp
  have hf : ∀ (W : World), Calls Try.prog 83 #[.agg (zc z.n false z.D), .int .i64 (i : Int)] W (Ret W (.agg (zc z.n false Y))) := fun W => by
    have := rforget_any h hi W
    rw [forgetZ_yes hno hi, hcl, Zn.c, hno] at this
    exact this
  have hc : ∀ (W : World), Calls Try.prog 82 #[.agg (zc z.n false (upd (upd Y (i + 1) j d) j (i + 1) (-d)))] W (Ret W (.agg (copyZ z (i : Int) ((j : Int) - 1) d).c)) := fun W => by
    have := rclose_any hjp W
    rw [← hcopy, Zn.c] at this
    simp only [joinZ2] at this
    rw [w64_in (by omega) (by omega)] at this
    exact this
  obtain ⟨C, hC⟩ : ∃ C, C = copyZ z (i : Int) ((j : Int) - 1) d := ⟨_, rfl⟩
  rw [← hC] at hc
  rw [← hC, Zn.c, hno]
  have hne : ((i : Int) == (j : Int) - 1) = false := by simp; omega
  have HF := Lib.hid hf
  have HC := Lib.hid hc
  clear hf hc hjp hC hY hcl hcopy hcn e hk hp hv h hno
  go_enter Try.func84, Try.ntmps84
  go_wp2_with (first
    | (refine wpList_box_zone rfl 38 _ rfl _ _ _ rfl ?_; intro W hz hb hs; have hnc := hz.n_cell; have hbc := hz.b_cell) | (refine wpList_alloc_zone rfl 38 rfl rz ?_; intro W1 hz1 hb1 hs1; rw [hs.out] at hz1 hb1 hs1; have hz := hz.below hb1 (by omega); have hnc := hz.n_cell; have hbc := hz.b_cell; have hb := hb.trans (hb1.mono (by omega)); rw [hs.out]; clear hs hb1)
    | (refine load_r rfl _ rfl rfl hz ?_)
    | (go_at_call 83; ((with_reducible refine (HF.out _).mono ?_); rintro e W2 ⟨rfl, hb2⟩; have hz := hz.below hb2 hz.lt; have hz1 := hz1.below hb2 hz1.lt; have hnc := hz.n_cell; have hbc := hz.b_cell; have hb := hb.trans (hb2.mono hb.size); clear hb2))
    | (refine store_r rfl _ _ rfl rfl rfl hz ?_; intro W4 hz4 hg4 hs4; have hz := hz4; have hz1 := hz1.only hg4 (by omega); have hb := below_only hb hg4 hb.size (Nat.le_refl _))
    | fail)
  have c1 := hz.cell (i + 1) j (by omega) (by omega)
  have f1 := hz.frozen (2 + (i + 1) * 7 + j)
  have f2 := hz.frozen (2 + j * 7 + (i + 1))
  have c0 := hz.cell j (i + 1) (by omega) (by omega)
  have g1 := hz.set (i + 1) j d (by omega) (by omega)
  have c2 := g1.cell j (i + 1) (by omega) (by omega)
  rw [upd_ne _ _ _ _ (by omega)] at c2
  have s1 := Lib.hid (g1.set j (i + 1) (-d) (by omega) (by omega)).drew
  have s2 := Lib.hid ((hz1.set_other (a := ⟨w.heap.size, 2 + (i + 1) * 7 + j, none⟩) (by simp) (.int .i64 d)).set_other (a := ⟨w.heap.size, 2 + j * 7 + (i + 1), none⟩) (by simp) (.int .i64 (-d))).drew
  have s3 := Lib.hid (((hb.setCell (p := ⟨w.heap.size, 2 + (i + 1) * 7 + j, none⟩) (Nat.le_refl _) (.int .i64 d)).setCell (p := ⟨w.heap.size, 2 + j * 7 + (i + 1), none⟩) (Nat.le_refl _) (.int .i64 (-d))).drew)
  have e1 : (0 : Int) ≤ (i : Int) + 1 := by omega
  have e2 : ((i : Int) + 1).toNat = i + 1 := by omega
  clear g1 hz1 hb hz4
  simp only [Act.put]
  go_region
  generalize ((W4.setCell { block := w.heap.size, off := 2 + (i + 1) * 7 + j } (Value.int IntKind.i64 d)).setCell { block := w.heap.size, off := 2 + j * 7 + (i + 1) } (Value.int IntKind.i64 (-d))).drew = w3 at *
  have hz := s1.out
  have hz1 := s2.out
  have hb := s3.out
  have hnc := hz.n_cell
  have hbc := hz.b_cell
  clear f1 f2 c1 c0 c2 s1 s2 s3
  go_wp2_with (first
    | (refine load_r rfl _ rfl rfl hz ?_)
    | (go_at_call 82; ((with_reducible refine (HC.out _).mono ?_); rintro e W2 ⟨rfl, hb2⟩; have hz := hz.below hb2 hz.lt; have hz1 := hz1.below hb2 hz1.lt; have hnc := hz.n_cell; have hbc := hz.b_cell; have hb := hb.trans (hb2.mono hb.size); clear hb2))
    | (refine store_r rfl _ _ rfl rfl rfl hz1 ?_; intro W4 hz4 hg4 hs4)
    | fail)
  exact bodyPost_ret (results_r rfl (by simp [Act.put]) hz4) rfl ⟨rfl, below_only hb hg4 hb.size (by omega)⟩
/-- The document's Copy is the program's. -/
theorem rcopy_any {z : Zn} (h : OKZ z) {i j : Nat} (hi : i < z.n) (hj : j ≤ z.n) {d : Int} (hd : -137438953472 ≤ d ∧ d ≤ 137438953472) (w : World) :
    Calls Try.prog 84 #[.agg z.c, .int .i64 (i : Int), .int .i64 ((j : Int) - 1), .int .i64 d] w (Ret w (.agg (copyZ z (i : Int) ((j : Int) - 1) d).c)) := by
  cases hno : z.none with
  | true =>
    rw [copyZ_none hno, Zn.c, hno]
    clear hno h
    go_enter Try.func84, Try.ntmps84
    go_wp2_with (first
      | (refine wpList_box_zone rfl 38 _ rfl _ _ _ rfl ?_; intro W hz hb hs; have hnc := hz.n_cell; have hbc := hz.b_cell) | (refine wpList_alloc_zone rfl 38 rfl rz ?_; intro W1 hz1 hb1 hs1; rw [hs.out] at hz1 hb1 hs1; have hz := hz.below hb1 (by omega); have hnc := hz.n_cell; have hbc := hz.b_cell; have hb := hb.trans (hb1.mono (by omega)); rw [hs.out]; clear hs hb1)
      | (refine load_r rfl _ rfl rfl hz ?_)
      | (refine store_r rfl _ _ rfl rfl rfl hz1 ?_; intro W4 hz4 hg4 hs4)
      | fail)
    exact bodyPost_ret (results_r rfl (by simp [Act.put]) hz4) rfl ⟨rfl, below_only hb hg4 hb.size (by omega)⟩
  | false =>
    by_cases hij : i + 1 = j
    · rw [show (j : Int) - 1 = (i : Int) by omega]
      exact rcopy_same h hno hi hd w
    · exact rcopy_link h hno hi hj hij hd w
end Go.Proofs.Ytgnkhncogfppgaa

namespace Go.Proofs.Ytgnkhncogfppgaa
open Go.RowKit
/-! ### acts in memory -/
def ac (A : Nat → Int) : Array Value := #[.int .i64 (A 0), .int .i64 (A 1), .int .i64 (A 2), .int .i64 (A 3)]
theorem ac_one (A : Nat → Int) : ∀ v ∈ (ac A).toList, v.oneCell' = true := by intro v hv; simp [ac] at hv; rcases hv with rfl | rfl | rfl | rfl <;> rfl
theorem asz : (Try.prog.info? 48).map (·.size) = some 4 := by kernel_rfl
theorem az : (Try.prog.info? 48).bind (·.zero) = some (.agg (ac fun _ => 0)) := by kernel_rfl
/-- Four cells from here on. -/
def Ac4 (w : World) (b off : Nat) (A : Nat → Int) : Prop := w.cell? ⟨b, off, none⟩ = some (.int .i64 (A 0)) ∧ w.cell? ⟨b, off + 1, none⟩ = some (.int .i64 (A 1)) ∧ w.cell? ⟨b, off + 2, none⟩ = some (.int .i64 (A 2)) ∧ w.cell? ⟨b, off + 3, none⟩ = some (.int .i64 (A 3))
theorem Ac4.on {w w' : World} {b off : Nat} {A : Nat → Int} (h : Ac4 w b off A) (hb : Below w.heap.size w w') : Ac4 w' b off A :=
  ⟨(hb.cell (p := ⟨b, off, none⟩) (block_lt_of_cell h.1)).trans h.1, (hb.cell (p := ⟨b, off + 1, none⟩) (block_lt_of_cell h.2.1)).trans h.2.1, (hb.cell (p := ⟨b, off + 2, none⟩) (block_lt_of_cell h.2.2.1)).trans h.2.2.1, (hb.cell (p := ⟨b, off + 3, none⟩) (block_lt_of_cell h.2.2.2)).trans h.2.2.2⟩
/-- A slice of acts. -/
def SlA (w : World) (ad : Option Addr) (len : Nat) (A : Nat → Nat → Int) : Prop := ∀ k, k < len → ∃ b off, ad = some ⟨b, off, none⟩ ∧ Ac4 w b (off + k * 4) (A k)
theorem SlA.on {w w' : World} {ad : Option Addr} {len : Nat} {A : Nat → Nat → Int} (h : SlA w ad len A) (hb : Below w.heap.size w w') : SlA w' ad len A := fun k hk => by
  obtain ⟨b, off, h1, h2⟩ := h k hk
  exact ⟨b, off, h1, h2.on hb⟩
section
variable {ops : Array Oper} {rest : List Oper} {o : Oper} {a : Act} {w : World} {Q : Exit → Act → World → Prop} {g : Nat} {T : TypeId}
theorem load_ac (hgd : Region.wanted o (yielded ops a.tmps) = true) (x : Operand) (ho : o.op = .load 48 x) (b off : Nat) (hx : a.eval x = .pointer (some ⟨b, off, none⟩)) {A : Nat → Int} (hz : Ac4 w b off A)
    (h : wpList Try.prog ops Q rest (a.put o.dst (.agg (ac A))) w) : wpList Try.prog ops Q (o :: rest) a w := by
  refine wpList_want hgd fun K hK => ?_
  have hl : (loadCells ⟨b, off, none⟩ 4).run Try.prog w = .ok (ac A) w := by
    have := run_loadCells_list (P := Try.prog) w ⟨b, off, none⟩ (ac A).toList (fun j v hv => by
      have hadd : (⟨b, off, none⟩ : Addr).add j = ⟨b, off + j, none⟩ := by unfold Addr.add; split <;> simp_all
      rw [hadd]
      match j with
      | 0 => simp [ac] at hv; subst hv; exact hz.1
      | 1 => simp [ac] at hv; subst hv; exact hz.2.1
      | 2 => simp [ac] at hv; subst hv; exact hz.2.2.1
      | 3 => simp [ac] at hv; subst hv; exact hz.2.2.2
      | j + 4 => simp [ac] at hv)
    exact this
  have hq := asz
  cases hi : Try.prog.info? 48 with
  | none => simp [hi] at hq
  | some i =>
    have hs : i.size = 4 := by simpa [hi] using hq
    have hagg : (isAgg 48).run Try.prog w = .ok true w := by
      unfold isAgg
      rw [Sem.run_bind, run_underlying Try.underlying48 w]
      rfl
    have hv : (loadVar 48 ⟨b, off, none⟩).run Try.prog w = .ok (.agg (ac A)) w := by
      simp [loadVar, Sem.run_bind, hagg, sizeOf, typeInfo, hi, hs, hl]
    unfold Oper.wp execOp
    simp only [ho, hx, Instr.loadAt, Instr.sureAddr, Sem.run_bind, Sem.run_pure, Result.andThen_ok, hv]
    exact hK _ _ h
theorem alloc_ac (hgd : Region.wanted o (yielded ops a.tmps) = true) (ho : o.op = .alloc 48)
    (h : ∀ W, RowAt 48 W w.heap.size (ac fun _ => 0) → Below w.heap.size w W → Hid (W.heap.size = w.heap.size + 1) → wpList Try.prog ops Q rest (a.put o.dst (.pointer (some ⟨w.heap.size, 0, none⟩))) W) : wpList Try.prog ops Q (o :: rest) a w :=
  alloc_row hgd 48 ho _ az h
theorem store_ac (hgd : Region.wanted o (yielded ops a.tmps) = true) (x y : Operand) (ho : o.op = .store 48 x y) (hx : a.eval x = .pointer (some ⟨g, 0, none⟩)) {A A' : Nat → Int}
    (hy : a.eval y = .agg (ac A)) (hz : RowAt T w g (ac A'))
    (h : ∀ W, RowAt T W g (ac A) → w.grownBy W (some g) → Hid (W.heap.size = w.heap.size) → wpList Try.prog ops Q rest (a.put o.dst undef) W) : wpList Try.prog ops Q (o :: rest) a w :=
  store_row hgd 48 x y ho g hx _ hy hz rfl asz (ac_one _) h
end
/-! ### From -/
theorem build_r (n : Int) (b : Bool) (D : Mat) (w : World) : (Instr.build 38 #[(0, .int .i64 n), (1, .bool b), (2, .agg (mc D))]).run Try.prog w = .ok (.agg (zc n b D)) w := by kernel_rfl
theorem from_any (z : Zn) (w : World) : Calls Try.prog 30 #[.agg z.c] w (Ret w (.agg z.c)) := by
  go_enter Try.func30, Try.ntmps30
  go_wp2_with (first
    | (refine wpList_box_zone rfl 26 _ rfl _ _ _ rfl ?_; intro W hz hb hs; have hnc := hz.n_cell; have hbc := hz.b_cell)
    | (refine wpList_alloc_zone rfl 38 rfl rz ?_; intro W1 hz1 hb1 hs1; rw [hs.out] at hz1 hb1 hs1; have hz := hz.below hb1 (by omega); have hnc := hz.n_cell; have hbc := hz.b_cell; have hb := hb.trans (hb1.mono (by omega)); rw [hs.out]; clear hs hb1)
    | (refine load_m rfl _ rfl rfl hz ?_)
    | (refine wpList_build_val rfl 38 _ rfl #[(0, .int .i64 z.n), (1, .bool z.none), (2, .agg (mc z.D))] (by simp [Act.eval, Act.put]) _ (build_r z.n z.none z.D _) ?_)
    | (refine store_r rfl _ _ rfl rfl rfl hz1 ?_; intro W4 hz4 hg4 hs4)
    | fail)
  exact bodyPost_ret (results_r rfl (by simp [Act.put]) hz4) rfl ⟨rfl, below_only hb hg4 hb.size (by omega)⟩
end Go.Proofs.Ytgnkhncogfppgaa
