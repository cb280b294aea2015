import Derived.Test.YtgnkhncogfppgaaQB
import Derived.Test.YtgnkhncogfppgaaMC
import Derived.Test.YtgnkhncogfppgaaQC
import Derived.Test.YtgnkhncogfppgaaBF
import Derived.Test.YtgnkhncogfppgaaBA
namespace Go.Proofs.Ytgnkhncogfppgaa
open Go.RowKit
/-- Six numbers. -/
def av (V : Nat → Int) : Array Value := #[.int .i32 (V 0), .int .i32 (V 1), .int .i32 (V 2), .int .i32 (V 3), .int .i32 (V 4), .int .i32 (V 5)]
theorem av_get (V : Nat → Int) : ∀ i, i < 6 → (av V)[i]? = some (.int .i32 (V i))
  | 0, _ => rfl
  | 1, _ => rfl
  | 2, _ => rfl
  | 3, _ => rfl
  | 4, _ => rfl
  | 5, _ => rfl
  | n + 6, h => by omega
theorem RowAt.alloc' {T : TypeId} {w : World} {g : Nat} {cs : Array Value} (h : RowAt T w g cs) (o : Obj) : RowAt T (w.alloc o) g cs := h.on ((Below.refl _ _).alloc (Nat.le_refl _) o)
theorem OwnI.other {w W : World} {base gv n cv g : Nat} {V : Nat → Int} (h : OwnI w base (.slice (some ⟨gv, 0, none⟩) n cv) n V) (hg : w.grownBy W (some g)) (hne : gv ≠ g) : OwnI W base (.slice (some ⟨gv, 0, none⟩) n cv) n V :=
  World.ownsRow.kept h hg (by
    right
    intro e
    simp [Value.ownBlock] at e
    omega)
/-- A number is put into the slice. -/
theorem store_own {ops : Array Oper} {rest : List Oper} {o : Oper} {a : Act} {w : World} {Q : Exit → Act → World → Prop} (hgd : Region.wanted o (yielded ops a.tmps) = true) (x y : Operand) (ho : o.op = .store 3 x y) {g i : Nat} (hx : a.eval x = .pointer (some ⟨g, i, none⟩)) {u : Int} (hy : a.eval y = .int .i64 u)
    {base n cv : Nat} {V : Nat → Int} (hown : OwnI w base (.slice (some ⟨g, 0, none⟩) n cv) n V) (hi : i < n) (h : ∀ W, OwnI W base (.slice (some ⟨g, 0, none⟩) n cv) n (setV V i u) → w.grownBy W (some g) → wpList Try.prog ops Q rest (a.put o.dst undef) W) : wpList Try.prog ops Q (o :: rest) a w := by
  refine wpList_want hgd fun K hK => ?_
  obtain ⟨s1, s2, s3⟩ := hown.set hi u
  have hc := hown.cell i hi
  rw [Nat.zero_add] at s1 s3 hc
  have h' := hK _ _ (h _ s1 ⟨rfl, rfl, rfl, by simp, fun k _ hk => heap_setCell_other w _ k _ (fun e => hk (by rw [e]))⟩)
  unfold Oper.wp execOp
  simp only [ho, hx, hy]
  go_simp
  exact h'
theorem u_one (k : Nat) (h : k ≤ 6) : IntKind.u64.wrap (k : Int) = k := IntWalk.u64_in _ (by omega)
theorem u_two (k : Nat) (h : k ≤ 6) : IntKind.u64.wrap (wrap64 ((k : Int) + 1)) = ((k + 1 : Nat) : Int) := by
  rw [wrap64_w64, w64_in (by omega) (by omega)]
  exact IntWalk.u64_in _ (by omega)
theorem k_zero (k : Nat) (h : ¬ k = 0) : ((k : Int) == 0) = false := by simp; omega
theorem k_zero1 (k : Nat) : (((k : Int) + 1) == 0) = false := by simp; omega
theorem k_zero2 (k : Nat) : ¬ ((k : Int) + 1 = 0) := by omega
theorem run_rem (p k i : Nat) (hk : ¬ k = 0) (h : p % k = i) (x y : Operand) (W : World) : (do eqGuard .rem 37 x y (.int .u64 (p : Int)) (.int .u64 (k : Int)); binOp .rem 37 (.int .u64 (p : Int)) (.int .u64 (k : Int)) : Sem Value).run Try.prog W = .ok (.int .u64 (i : Int)) W := by
  have h0 : ¬ ((k : Int) = 0) := by omega
  have h1 : (p : Int).tmod (k : Int) = (i : Int) := by rw [Int.tmod_eq_emod_of_nonneg (by omega), ← h]; exact (Int.natCast_emod p k).symm
  go_simp
theorem run_cx (x : Int) (p : Nat) (h : IntKind.u64.wrap x = (p : Int)) (W : World) : (convert 3 37 (.int .i64 x)).run Try.prog W = .ok (.int .u64 (p : Int)) W := by
  go_simp
theorem run_cu (k : Nat) (h : k ≤ 100) (W : World) : (convert 3 37 (.int .i64 (k : Int))).run Try.prog W = .ok (.int .u64 (k : Int)) W := run_cx _ k (IntWalk.u64_in _ (by omega)) W
theorem run_cv (i : Nat) (h : i ≤ 100) (W : World) : (convert 37 3 (.int .u64 (i : Int))).run Try.prog W = .ok (.int .i64 (i : Int)) W := by
  have h1 : IntKind.i64.wrap (i : Int) = (i : Int) := IntWalk.i64_in _ (by omega)
  go_simp
theorem run_add1 (k : Nat) (h : k ≤ 100) (x y : Operand) (W : World) : (do eqGuard .add 3 x y (.int .i64 (k : Int)) (.int .i64 1); binOp .add 3 (.int .i64 (k : Int)) (.int .i64 1) : Sem Value).run Try.prog W = .ok (.int .i64 ((k + 1 : Nat) : Int)) W := by
  have h1 : IntKind.i64.wrap ((k : Int) + 1) = (k : Int) + 1 := IntWalk.i64_in _ (by omega)
  have h2 : ((k + 1 : Nat) : Int) = (k : Int) + 1 := by omega
  rw [h2]
  go_simp
  try exact h1
theorem run_sub1 (j : Nat) (y : Int) (h : j ≤ 100) (e : (j : Int) - 1 = y) (a b : Operand) (W : World) : (do eqGuard .sub 3 a b (.int .i64 (j : Int)) (.int .i64 1); binOp .sub 3 (.int .i64 (j : Int)) (.int .i64 1) : Sem Value).run Try.prog W = .ok (.int .i64 y) W := by
  have h1 : IntKind.i64.wrap ((j : Int) - 1) = (j : Int) - 1 := IntWalk.i64_in _ (by omega)
  subst e
  go_simp
  try exact h1
theorem tmod_bd1 (x : Int) : -1000 ≤ x.tmod 1000 ∧ x.tmod 1000 ≤ 1000 := by
  have h := Int.tmod_lt_of_pos x (b := 1000) (by omega)
  have h2 := Int.lt_tmod_of_pos x (b := 1000) (by omega)
  omega
section
variable {P : Program} {ops : Array Oper} {rest : List Oper} {o : Oper} {w0 : World} {L : Act → Prop} {l : List Value} {ov : List (Nat × Value)} {ds : List Deferred} {d : Nat} {v : Value}
/-- A builtin of two numbers. -/
theorem o_two (hw : Region.wanted o (yO ops l ov) = true) (b : Builtin) (x y : Operand) (ts : Array TypeId) (ho : o.op = .call { callee := .builtin b, args := #[x, y], argTypes := ts }) {vx vy : Value} (hx : evalO l ov x = some vx) (hy : evalO l ov y = some vy) (hd : o.dst = some d) (hl : Nat.blt d l.length = true)
    (hr : ∀ (ρ : Operand → Value) W, ρ x = vx → ρ y = vy → (execOp ρ o).run P W = .ok (.value v) W) (h : LX P ops w0 L rest l ((d, v) :: ov) ds) : LX P ops w0 L (o :: rest) l ov ds :=
  fun hst => lex_pure (by rw [yO_eq hst]; exact hw) (by simp [isNew, ho]) v (fun W => hr _ W (evalL_eval ((evalO_L hst x).trans hx)) (evalL_eval ((evalO_L hst y).trans hy))) (o_put hd hl h hst)
end
set_option maxRecDepth 100000 in
set_option maxHeartbeats 16000000 in
theorem has_walk (nn : Int) (VA : Nat → Int) (hVA : ∀ i, i < 6 → -2147483648 ≤ VA i ∧ VA i ≤ 2147483647) (ad : Option Addr) (len cap : Nat) (hlen : len ≤ 9223372036854775807) (A : Nat → Nat → Int) (w : World) (hA : SlA w ad len A) :
    Calls Try.prog 5 #[.int .i64 nn, .agg (av VA), .slice ad len cap] w (Ret w (.bool true)) := by
  obtain ⟨r, hr0⟩ : ∃ r : Nat, (IntKind.u64.wrap nn).toNat = r := ⟨_, rfl⟩
  have hrr : IntKind.u64.wrap nn = (r : Int) := by rw [← hr0]; exact u64_nat _
  obtain ⟨k, hk⟩ : ∃ k : Nat, r % 7 = k := ⟨_, rfl⟩
  have x3 : (r : Int) % 7 = (k : Int) := by omega
  have hk6 : k ≤ 6 := by omega
  clear hr0 hk
  have HA := Lib.hid hA
  have HVA := Lib.hid hVA
  clear hA hVA
  have hI0 : HasI k (topZ k) VA := HasI.top hk6 fun i hi => HVA.out i (by omega)
  obtain ⟨T0, hT0⟩ : ∃ z, topZ k = z := ⟨_, rfl⟩
  rw [hT0] at hI0
  have HT : Hid (∀ W : World, Calls Try.prog 21 #[.int .i64 (k : Int)] W (Ret W (.agg (zc k false T0.D)))) := fun W => by
    have := top_any k hk6 W
    rw [hT0, Zn.c, hI0.n, hI0.none] at this
    exact this
  have HI0 := Lib.hid hI0
  clear hI0 hT0
  have hle : (len : Int) ≤ 9223372036854775807 := by omega
  go_enter Try.func5, Try.ntmps5
  go_wp2_with (first
    | (refine box_row rfl 46 _ rfl _ rfl ?_; intro W1 hrow hb hs1)
    | (go_at_call 21; ((with_reducible refine (HT.out _).mono ?_); rintro e W2 ⟨rfl, hb2⟩; have hge := hb2.size; have hrl := hrow.lt; have hrow := hrow.on hb2; have hb := hb.trans (hb2.mono hb.size); clear hb2))
    | (refine wpList_alloc_zone rfl 26 rfl zz ?_; intro W3 hz hb3 hs3; have hrow := hrow.on hb3; have hb := hb.trans (hb3.mono hb.size); clear hb3)
    | (refine store_z rfl _ _ rfl rfl rfl hz ?_; intro W4 hz4 hg4 hs4; have hrow := hrow.only hg4 (by omega); have hb := below_only hb hg4 hb.size (by omega); clear hz; have hz := hz4; clear hz4 hg4)
    | fail)
  have hgw : w.heap.size < W2.heap.size := by have := hs1.out; omega
  have hglt := hz.lt
  generalize W2.heap.size = g at hgw hz hglt ⊢
  generalize hbase : W4.heap.size = base at hglt ⊢
  have HOWN := Lib.hid (OwnI.nil W4 base VA)
  have HZ := Lib.hid hz
  have HROW := Lib.hid hrow
  have HB := Lib.hid hb
  have HSZ := Lib.hid (Nat.le_of_eq hbase.symm)
  have hwb : w.heap.size ≤ base := by omega
  have hrb : w.heap.size < base := by omega
  clear hz hrow hb hs1 hs3 hs4 hbase hge hrl HT hrr x3
  go_loopw [9, 10] (fun v i_ wr => ∃ i : Nat, i ≤ k ∧ i_ = .int .i64 (i : Int) ∧ Hid (Below w.heap.size w wr) ∧ Hid (base ≤ wr.heap.size) ∧ Hid (RowAt 46 wr w.heap.size (av VA)) ∧ Hid (ZAt 26 wr g k false T0.D) ∧ Hid (OwnI wr base v i VA)) (fun _ i _ => 7 - (intOf i).toNat)
  case atStart => exact ⟨0, by omega, rfl, HB, HSZ, HROW, HZ, HOWN⟩
  case round =>
    clear HB HSZ HROW HZ HOWN
    obtain ⟨i, hi, rfl, HB, HSZ, HROW, HZ, HOWN⟩ := hrel
    by_cases hlt : i < k
    · have hc := HROW.out.cell i
      rw [av_get VA i (by omega)] at hc
      obtain ⟨b1, b2⟩ := HVA.out i (by omega)
      have q0 : (0 : Int) ≤ (i : Int) := by omega
      have q1 : (i : Int) < 6 := by omega
      go_wp2_with (first
        | (refine append_i rfl _ _ rfl base _ _ VA VA rfl (HOWN.out.alloc _) _ _ rfl _ (by have hnew := (RowAt.new wr 3 #[.int .i64 (VA i)]).cell 0; exact hnew) (by omega) (by have := HSZ.out; simp; omega) (fun _ _ => rfl) rfl ?_; intro v' w' hown' hgr hvb; have HOWN := Lib.hid hown'; have HZ := Lib.hid ((HZ.out.alloc _).kept hgr hvb hglt); have HROW := Lib.hid ((HROW.out.alloc' _).kept hgr hvb hrb); have HB := Lib.hid ((HB.out.alloc HB.out.size _).grown hgr (by have := HB.out.size; simp; omega) (fun k hk => Nat.le_trans hwb (hvb k hk))); have HSZ := Lib.hid (Nat.le_trans HSZ.out (Nat.le_trans (by simp) hgr.size)); clear hown' hgr hvb)
        | fail)
      clear hc
      go_roundw
      case rel => exact ⟨i + 1, by omega, by go_num, HB, HSZ, HROW, HZ, HOWN⟩
      case measure => simp [intOf]; omega
    · obtain rfl : i = k := by omega
      clear HROW
      by_cases hk0 : i = 0
      · have HI := HI0
        rcases HOWN.out.2 with ⟨rfl, h0⟩ | ⟨gv, cv, cur, rfl, _⟩
        · subst hk0
          have e0 : ¬ (((0 : Nat) : Int) > 0) := by omega
          go_wp2
          go_loop [11] (fun i_ => i_ = .int .i64 0) (fun _ => 0)
          case atStart => exact rfl
          case round =>
            subst hrel
            by_cases hl0 : (0 : Int) < (len : Int)
            · have hz := HZ.out
              have hown := HOWN.out
              have hb := HB.out
              clear HZ HOWN HB
              go_wp2
              apply region_LG (n := 17) (h := wr.heap.size) (Sx := fun t => Nat.beq t 8 || Nat.beq t 10 || Nat.beq t 11 || Nat.beq t 12 || Nat.beq t 13) (Ψ := HasP wr.heap.size 0 VA (setV VA 0 1))
              case hh => exact Nat.le_refl _
              case hm => kernel_rfl
              case hB => kernel_rfl
              case hT => kernel_rfl
              case stab => exact fun Λ ρ W W' t v ht hb' _ hD => hD.stab (fun e => by subst e; exact absurd ht (by decide)) (fun e => by subst e; exact absurd ht (by decide)) (fun e => by subst e; exact absurd ht (by decide)) (fun e => by subst e; exact absurd ht (by decide)) hb'
              case h0 => exact fun W hW => HasP.zero
              simp only [List.take_succ_cons, List.take_zero, List.drop_succ_cons, List.drop_zero]
              iterate 8 ((apply g_det; (exact rfl); (exact rfl); (exact rfl); (exact rfl); focus (intro W0 hW0; (first | (refine o_skip rfl rfl rfl ?_) | (refine o_have rfl fun hw => ?_; (first | (refine o_assign hw.out _ rfl rfl rfl rfl ?_) | (refine o_move hw.out _ rfl rfl rfl rfl ?_) | (refine o_pickT hw.out _ _ _ rfl rfl rfl rfl rfl ?_) | (refine o_pickF hw.out _ _ _ rfl rfl rfl rfl rfl ?_) | (refine o_load_z hw.out _ rfl rfl (hz.on hW0) rfl rfl ?_) | (refine o_bin hw.out _ _ _ _ _ rfl rfl rfl rfl rfl (fun W => by go_simp; first | done | rfl) ?_) | (refine o_un hw.out _ _ _ rfl rfl rfl rfl (fun W => by go_simp; first | done | rfl) ?_) | (refine o_field hw.out _ _ _ rfl rfl rfl rfl (fun W => by go_simp; first | done | rfl) ?_) | (refine o_index hw.out _ _ _ rfl rfl rfl rfl rfl (fun W => by go_simp; first | done | rfl) ?_) | (refine o_conv hw.out _ _ _ rfl rfl rfl rfl (fun W => by go_simp; first | done | rfl) ?_) | (refine o_call hw.out _ _ _ rfl rfl (fun W hW => copies_any W) (by with_reducible rfl) (by with_reducible rfl) rfl rfl (fun ρ W hρ => by go_simp; done) ?_) | (refine o_call hw.out _ _ _ rfl rfl (fun W hW => has_own HI.out ((hown.on hW0).on hW)) (by with_reducible rfl) (by with_reducible rfl) rfl rfl (fun ρ W hρ => by go_simp; done) ?_)))); exact g_lk rfl)))
              apply g_spc (A := fun v => ∃ q, v = slc q 0)
              case hv => exact ⟨_, 0, rfl⟩
              case h1 =>
                intro hst Λ ρ W hW hD hk hdep hval
                refine step_run hst rfl (u := slc W.heap.size 0) (W' := W.alloc (.cells #[] 3)) ?_ ⟨⟨_, rfl⟩, hW.alloc hW.size _, hD.s8 hk hW.size⟩
                unfold execOp
                go_simp
                first | done | rfl
              rintro _ ⟨q8, rfl⟩
              dsimp only [putO]
              (apply g_det; (exact rfl); (exact rfl); (exact rfl); (exact rfl); focus (intro W0 hW0; (first | (refine o_skip rfl rfl rfl ?_) | (refine o_have rfl fun hw => ?_; (first | (refine o_assign hw.out _ rfl rfl rfl rfl ?_) | (refine o_move hw.out _ rfl rfl rfl rfl ?_) | (refine o_pickT hw.out _ _ _ rfl rfl rfl rfl rfl ?_) | (refine o_pickF hw.out _ _ _ rfl rfl rfl rfl rfl ?_) | (refine o_bin hw.out _ _ _ _ _ rfl rfl rfl rfl rfl (fun W => by go_simp; first | done | rfl) ?_) | (refine o_un hw.out _ _ _ rfl rfl rfl rfl (fun W => by go_simp; first | done | rfl) ?_) | (refine o_field hw.out _ _ _ rfl rfl rfl rfl (fun W => by go_simp; first | done | rfl) ?_) | (refine o_index hw.out _ _ _ rfl rfl rfl rfl rfl (fun W => by go_simp; first | done | rfl) ?_) | (refine o_conv hw.out _ _ _ rfl rfl rfl rfl (fun W => by go_simp; first | done | rfl) ?_)))); exact g_lk rfl))
              apply g_spc (A := fun v => ∃ ad c, v = .slice ad 0 c)
              case hv => exact ⟨_, none, 0, rfl⟩
              case h1 =>
                intro hst Λ ρ W hW hD hk hdep hval
                have h8 : Λ 8 = true := hdep { on := 8, ground := .data } (by simp) rfl
                have he : slc q8 0 = ρ 8 := by have := hval 8 _ 153 (by omega) rfl rfl h8; injection this
                obtain ⟨gg, a1, a2, _⟩ := hD.1 h8 hk
                have hgg := slc_inj (he.trans a1)
                subst hgg
                exact step_append_none hst rfl _ _ rfl rfl rfl ⟨⟨_, _, rfl⟩, hW, hD.s10 hk h8 a2 ⟨rfl, rfl, rfl, Nat.le_refl _, fun _ _ _ => rfl⟩⟩
              rintro _ ⟨ad10, c10, rfl⟩
              dsimp only [putO]
              apply g_spc (A := fun v => ∃ q, v = slc q 1)
              case hv => exact ⟨_, 0, rfl⟩
              case h1 =>
                intro hst Λ ρ W hW hD hk hdep hval
                refine step_run hst rfl (u := slc W.heap.size 1) (W' := W.alloc (.cells #[.int .i64 1] 3)) ?_ ⟨⟨_, rfl⟩, hW.alloc hW.size _, hD.s11 hk⟩
                unfold execOp
                go_simp
                first | done | rfl
              rintro _ ⟨q11, rfl⟩
              dsimp only [putO]
              apply g_spc (A := fun v => ∃ ad c, v = .slice ad (0 + 1) c)
              case hv => exact ⟨_, none, 0, rfl⟩
              case h1 =>
                intro hst Λ ρ W hW hD hk hdep hval
                have h10 : Λ 10 = true := hdep { on := 10, ground := .data } (by simp) rfl
                have h11 : Λ 11 = true := hdep { on := 11, ground := .data } (by simp) rfl
                have he10 : Value.slice ad10 0 c10 = ρ 10 := by have := hval 10 _ 155 (by omega) rfl rfl h10; injection this
                have he11 : slc q11 1 = ρ 11 := by have := hval 11 _ 156 (by omega) rfl rfl h11; injection this
                have own10 := hD.2.1 h10 hk
                rw [← he10] at own10
                obtain ⟨gg, b1, b2⟩ := hD.2.2.1 h11 hk
                have hgg := slc_inj (he11.trans b1)
                subst hgg
                refine step_append_i hst rfl _ _ rfl wr.heap.size rfl own10 rfl (U := fun _ => 1) (V' := setV VA 0 1) (m := 1) (fun t ht => ?_) (by omega) hW.size (fun t ht => ?_) (fun t ht => ?_) fun v' W' ho hg hor => ?_
                · obtain rfl : t = 0 := by omega
                  exact b2
                · unfold setV; rw [if_neg (by omega)]
                · obtain rfl : t = 0 := by omega
                  unfold setV; rw [if_pos (by omega)]
                · obtain ⟨ad, c, hv', _, _⟩ := ho.sl
                  exact ⟨⟨ad, c, hv'⟩, hW.grown hg hW.size (fun q hq => (World.ownsRow.lt own10 q hq).1), hD.s12 h10 h11 ho⟩
              rintro _ ⟨ad12, c12, rfl⟩
              dsimp only [putO]
              apply g_spc (A := fun v => v = .bool false)
              case hv => exact ⟨_, rfl⟩
              case h1 =>
                intro hst Λ ρ W hW hD hk hdep hval
                have h12 : Λ 12 = true := hdep { on := 12, ground := .data } (by simp) rfl
                have he12 : Value.slice ad12 (0 + 1) c12 = ρ 12 := by have := hval 12 _ 157 (by omega) rfl rfl h12; injection this
                have own12 := hD.2.2.2.1 h12
                rw [← he12] at own12
                refine step_call hst rfl _ _ _ rfl rfl (fun ρ W hρ => by go_simp; done) ?_
                exact (has_long HI.out own12).mono fun e W' ⟨g1, g2⟩ => ⟨_, g1, rfl, hW.trans (g2.mono hW.size), hD.stab (by decide) (by decide) (by decide) (by decide) g2⟩
              rintro _ rfl
              dsimp only [putO]
              iterate 3 ((apply g_det; (exact rfl); (exact rfl); (exact rfl); (exact rfl); focus (intro W0 hW0; (first | (refine o_skip rfl rfl rfl ?_) | (refine o_have rfl fun hw => ?_; (first | (refine o_assign hw.out _ rfl rfl rfl rfl ?_) | (refine o_move hw.out _ rfl rfl rfl rfl ?_) | (refine o_pickT hw.out _ _ _ rfl rfl rfl rfl rfl ?_) | (refine o_pickF hw.out _ _ _ rfl rfl rfl rfl rfl ?_) | (refine o_bin hw.out _ _ _ _ _ rfl rfl rfl rfl rfl (fun W => by go_simp; first | done | rfl) ?_) | (refine o_un hw.out _ _ _ rfl rfl rfl rfl (fun W => by go_simp; first | done | rfl) ?_) | (refine o_field hw.out _ _ _ rfl rfl rfl rfl (fun W => by go_simp; first | done | rfl) ?_) | (refine o_index hw.out _ _ _ rfl rfl rfl rfl rfl (fun W => by go_simp; first | done | rfl) ?_) | (refine o_conv hw.out _ _ _ rfl rfl rfl rfl (fun W => by go_simp; first | done | rfl) ?_)))); exact g_lk rfl)))
              apply g_end
              intro w1 Λ ρ hW _ _ _
              simp only [fr, app, slc, List.set_cons_succ, List.set_cons_zero]
              go_wp2
              go_ret
              exact ⟨rfl, hb.trans (hW.mono hb.size)⟩
            · have hz := HZ.out
              have hown := HOWN.out
              have hb := HB.out
              clear HZ HOWN HB
              go_wp2
              apply region_LG (n := 17) (h := wr.heap.size) (Sx := fun t => Nat.beq t 8 || Nat.beq t 10 || Nat.beq t 11 || Nat.beq t 12 || Nat.beq t 13) (Ψ := HasP wr.heap.size 0 VA (setV VA 0 1))
              case hh => exact Nat.le_refl _
              case hm => kernel_rfl
              case hB => kernel_rfl
              case hT => kernel_rfl
              case stab => exact fun Λ ρ W W' t v ht hb' _ hD => hD.stab (fun e => by subst e; exact absurd ht (by decide)) (fun e => by subst e; exact absurd ht (by decide)) (fun e => by subst e; exact absurd ht (by decide)) (fun e => by subst e; exact absurd ht (by decide)) hb'
              case h0 => exact fun W hW => HasP.zero
              simp only [List.take_succ_cons, List.take_zero, List.drop_succ_cons, List.drop_zero]
              iterate 8 ((apply g_det; (exact rfl); (exact rfl); (exact rfl); (exact rfl); focus (intro W0 hW0; (first | (refine o_skip rfl rfl rfl ?_) | (refine o_have rfl fun hw => ?_; (first | (refine o_assign hw.out _ rfl rfl rfl rfl ?_) | (refine o_move hw.out _ rfl rfl rfl rfl ?_) | (refine o_pickT hw.out _ _ _ rfl rfl rfl rfl rfl ?_) | (refine o_pickF hw.out _ _ _ rfl rfl rfl rfl rfl ?_) | (refine o_load_z hw.out _ rfl rfl (hz.on hW0) rfl rfl ?_) | (refine o_bin hw.out _ _ _ _ _ rfl rfl rfl rfl rfl (fun W => by go_simp; first | done | rfl) ?_) | (refine o_un hw.out _ _ _ rfl rfl rfl rfl (fun W => by go_simp; first | done | rfl) ?_) | (refine o_field hw.out _ _ _ rfl rfl rfl rfl (fun W => by go_simp; first | done | rfl) ?_) | (refine o_index hw.out _ _ _ rfl rfl rfl rfl rfl (fun W => by go_simp; first | done | rfl) ?_) | (refine o_conv hw.out _ _ _ rfl rfl rfl rfl (fun W => by go_simp; first | done | rfl) ?_) | (refine o_call hw.out _ _ _ rfl rfl (fun W hW => copies_any W) (by with_reducible rfl) (by with_reducible rfl) rfl rfl (fun ρ W hρ => by go_simp; done) ?_) | (refine o_call hw.out _ _ _ rfl rfl (fun W hW => has_own HI.out ((hown.on hW0).on hW)) (by with_reducible rfl) (by with_reducible rfl) rfl rfl (fun ρ W hρ => by go_simp; done) ?_)))); exact g_lk rfl)))
              apply g_spc (A := fun v => ∃ q, v = slc q 0)
              case hv => exact ⟨_, 0, rfl⟩
              case h1 =>
                intro hst Λ ρ W hW hD hk hdep hval
                refine step_run hst rfl (u := slc W.heap.size 0) (W' := W.alloc (.cells #[] 3)) ?_ ⟨⟨_, rfl⟩, hW.alloc hW.size _, hD.s8 hk hW.size⟩
                unfold execOp
                go_simp
                first | done | rfl
              rintro _ ⟨q8, rfl⟩
              dsimp only [putO]
              (apply g_det; (exact rfl); (exact rfl); (exact rfl); (exact rfl); focus (intro W0 hW0; (first | (refine o_skip rfl rfl rfl ?_) | (refine o_have rfl fun hw => ?_; (first | (refine o_assign hw.out _ rfl rfl rfl rfl ?_) | (refine o_move hw.out _ rfl rfl rfl rfl ?_) | (refine o_pickT hw.out _ _ _ rfl rfl rfl rfl rfl ?_) | (refine o_pickF hw.out _ _ _ rfl rfl rfl rfl rfl ?_) | (refine o_bin hw.out _ _ _ _ _ rfl rfl rfl rfl rfl (fun W => by go_simp; first | done | rfl) ?_) | (refine o_un hw.out _ _ _ rfl rfl rfl rfl (fun W => by go_simp; first | done | rfl) ?_) | (refine o_field hw.out _ _ _ rfl rfl rfl rfl (fun W => by go_simp; first | done | rfl) ?_) | (refine o_index hw.out _ _ _ rfl rfl rfl rfl rfl (fun W => by go_simp; first | done | rfl) ?_) | (refine o_conv hw.out _ _ _ rfl rfl rfl rfl (fun W => by go_simp; first | done | rfl) ?_)))); exact g_lk rfl))
              apply g_spc (A := fun v => ∃ ad c, v = .slice ad 0 c)
              case hv => exact ⟨_, none, 0, rfl⟩
              case h1 =>
                intro hst Λ ρ W hW hD hk hdep hval
                have h8 : Λ 8 = true := hdep { on := 8, ground := .data } (by simp) rfl
                have he : slc q8 0 = ρ 8 := by have := hval 8 _ 153 (by omega) rfl rfl h8; injection this
                obtain ⟨gg, a1, a2, _⟩ := hD.1 h8 hk
                have hgg := slc_inj (he.trans a1)
                subst hgg
                exact step_append_none hst rfl _ _ rfl rfl rfl ⟨⟨_, _, rfl⟩, hW, hD.s10 hk h8 a2 ⟨rfl, rfl, rfl, Nat.le_refl _, fun _ _ _ => rfl⟩⟩
              rintro _ ⟨ad10, c10, rfl⟩
              dsimp only [putO]
              apply g_spc (A := fun v => ∃ q, v = slc q 1)
              case hv => exact ⟨_, 0, rfl⟩
              case h1 =>
                intro hst Λ ρ W hW hD hk hdep hval
                refine step_run hst rfl (u := slc W.heap.size 1) (W' := W.alloc (.cells #[.int .i64 1] 3)) ?_ ⟨⟨_, rfl⟩, hW.alloc hW.size _, hD.s11 hk⟩
                unfold execOp
                go_simp
                first | done | rfl
              rintro _ ⟨q11, rfl⟩
              dsimp only [putO]
              apply g_spc (A := fun v => ∃ ad c, v = .slice ad (0 + 1) c)
              case hv => exact ⟨_, none, 0, rfl⟩
              case h1 =>
                intro hst Λ ρ W hW hD hk hdep hval
                have h10 : Λ 10 = true := hdep { on := 10, ground := .data } (by simp) rfl
                have h11 : Λ 11 = true := hdep { on := 11, ground := .data } (by simp) rfl
                have he10 : Value.slice ad10 0 c10 = ρ 10 := by have := hval 10 _ 155 (by omega) rfl rfl h10; injection this
                have he11 : slc q11 1 = ρ 11 := by have := hval 11 _ 156 (by omega) rfl rfl h11; injection this
                have own10 := hD.2.1 h10 hk
                rw [← he10] at own10
                obtain ⟨gg, b1, b2⟩ := hD.2.2.1 h11 hk
                have hgg := slc_inj (he11.trans b1)
                subst hgg
                refine step_append_i hst rfl _ _ rfl wr.heap.size rfl own10 rfl (U := fun _ => 1) (V' := setV VA 0 1) (m := 1) (fun t ht => ?_) (by omega) hW.size (fun t ht => ?_) (fun t ht => ?_) fun v' W' ho hg hor => ?_
                · obtain rfl : t = 0 := by omega
                  exact b2
                · unfold setV; rw [if_neg (by omega)]
                · obtain rfl : t = 0 := by omega
                  unfold setV; rw [if_pos (by omega)]
                · obtain ⟨ad, c, hv', _, _⟩ := ho.sl
                  exact ⟨⟨ad, c, hv'⟩, hW.grown hg hW.size (fun q hq => (World.ownsRow.lt own10 q hq).1), hD.s12 h10 h11 ho⟩
              rintro _ ⟨ad12, c12, rfl⟩
              dsimp only [putO]
              apply g_spc (A := fun v => v = .bool false)
              case hv => exact ⟨_, rfl⟩
              case h1 =>
                intro hst Λ ρ W hW hD hk hdep hval
                have h12 : Λ 12 = true := hdep { on := 12, ground := .data } (by simp) rfl
                have he12 : Value.slice ad12 (0 + 1) c12 = ρ 12 := by have := hval 12 _ 157 (by omega) rfl rfl h12; injection this
                have own12 := hD.2.2.2.1 h12
                rw [← he12] at own12
                refine step_call hst rfl _ _ _ rfl rfl (fun ρ W hρ => by go_simp; done) ?_
                exact (has_long HI.out own12).mono fun e W' ⟨g1, g2⟩ => ⟨_, g1, rfl, hW.trans (g2.mono hW.size), hD.stab (by decide) (by decide) (by decide) (by decide) g2⟩
              rintro _ rfl
              dsimp only [putO]
              iterate 3 ((apply g_det; (exact rfl); (exact rfl); (exact rfl); (exact rfl); focus (intro W0 hW0; (first | (refine o_skip rfl rfl rfl ?_) | (refine o_have rfl fun hw => ?_; (first | (refine o_assign hw.out _ rfl rfl rfl rfl ?_) | (refine o_move hw.out _ rfl rfl rfl rfl ?_) | (refine o_pickT hw.out _ _ _ rfl rfl rfl rfl rfl ?_) | (refine o_pickF hw.out _ _ _ rfl rfl rfl rfl rfl ?_) | (refine o_bin hw.out _ _ _ _ _ rfl rfl rfl rfl rfl (fun W => by go_simp; first | done | rfl) ?_) | (refine o_un hw.out _ _ _ rfl rfl rfl rfl (fun W => by go_simp; first | done | rfl) ?_) | (refine o_field hw.out _ _ _ rfl rfl rfl rfl (fun W => by go_simp; first | done | rfl) ?_) | (refine o_index hw.out _ _ _ rfl rfl rfl rfl rfl (fun W => by go_simp; first | done | rfl) ?_) | (refine o_conv hw.out _ _ _ rfl rfl rfl rfl (fun W => by go_simp; first | done | rfl) ?_)))); exact g_lk rfl)))
              apply g_end
              intro w1 Λ ρ hW _ _ _
              simp only [fr, app, slc, List.set_cons_succ, List.set_cons_zero]
              go_wp2
              go_ret
              exact ⟨rfl, hb.trans (hW.mono hb.size)⟩
        · subst hk0
          have e0 : ¬ (((0 : Nat) : Int) > 0) := by omega
          go_wp2
          go_loop [11] (fun i_ => i_ = .int .i64 0) (fun _ => 0)
          case atStart => exact rfl
          case round =>
            subst hrel
            by_cases hl0 : (0 : Int) < (len : Int)
            · have hz := HZ.out
              have hown := HOWN.out
              have hb := HB.out
              clear HZ HOWN HB
              go_wp2
              apply region_LG (n := 17) (h := wr.heap.size) (Sx := fun t => Nat.beq t 8 || Nat.beq t 10 || Nat.beq t 11 || Nat.beq t 12 || Nat.beq t 13) (Ψ := HasP wr.heap.size 0 VA (setV VA 0 1))
              case hh => exact Nat.le_refl _
              case hm => kernel_rfl
              case hB => kernel_rfl
              case hT => kernel_rfl
              case stab => exact fun Λ ρ W W' t v ht hb' _ hD => hD.stab (fun e => by subst e; exact absurd ht (by decide)) (fun e => by subst e; exact absurd ht (by decide)) (fun e => by subst e; exact absurd ht (by decide)) (fun e => by subst e; exact absurd ht (by decide)) hb'
              case h0 => exact fun W hW => HasP.zero
              simp only [List.take_succ_cons, List.take_zero, List.drop_succ_cons, List.drop_zero]
              iterate 8 ((apply g_det; (exact rfl); (exact rfl); (exact rfl); (exact rfl); focus (intro W0 hW0; (first | (refine o_skip rfl rfl rfl ?_) | (refine o_have rfl fun hw => ?_; (first | (refine o_assign hw.out _ rfl rfl rfl rfl ?_) | (refine o_move hw.out _ rfl rfl rfl rfl ?_) | (refine o_pickT hw.out _ _ _ rfl rfl rfl rfl rfl ?_) | (refine o_pickF hw.out _ _ _ rfl rfl rfl rfl rfl ?_) | (refine o_load_z hw.out _ rfl rfl (hz.on hW0) rfl rfl ?_) | (refine o_bin hw.out _ _ _ _ _ rfl rfl rfl rfl rfl (fun W => by go_simp; first | done | rfl) ?_) | (refine o_un hw.out _ _ _ rfl rfl rfl rfl (fun W => by go_simp; first | done | rfl) ?_) | (refine o_field hw.out _ _ _ rfl rfl rfl rfl (fun W => by go_simp; first | done | rfl) ?_) | (refine o_index hw.out _ _ _ rfl rfl rfl rfl rfl (fun W => by go_simp; first | done | rfl) ?_) | (refine o_conv hw.out _ _ _ rfl rfl rfl rfl (fun W => by go_simp; first | done | rfl) ?_) | (refine o_call hw.out _ _ _ rfl rfl (fun W hW => copies_any W) (by with_reducible rfl) (by with_reducible rfl) rfl rfl (fun ρ W hρ => by go_simp; done) ?_) | (refine o_call hw.out _ _ _ rfl rfl (fun W hW => has_own HI.out ((hown.on hW0).on hW)) (by with_reducible rfl) (by with_reducible rfl) rfl rfl (fun ρ W hρ => by go_simp; done) ?_)))); exact g_lk rfl)))
              apply g_spc (A := fun v => ∃ q, v = slc q 0)
              case hv => exact ⟨_, 0, rfl⟩
              case h1 =>
                intro hst Λ ρ W hW hD hk hdep hval
                refine step_run hst rfl (u := slc W.heap.size 0) (W' := W.alloc (.cells #[] 3)) ?_ ⟨⟨_, rfl⟩, hW.alloc hW.size _, hD.s8 hk hW.size⟩
                unfold execOp
                go_simp
                first | done | rfl
              rintro _ ⟨q8, rfl⟩
              dsimp only [putO]
              (apply g_det; (exact rfl); (exact rfl); (exact rfl); (exact rfl); focus (intro W0 hW0; (first | (refine o_skip rfl rfl rfl ?_) | (refine o_have rfl fun hw => ?_; (first | (refine o_assign hw.out _ rfl rfl rfl rfl ?_) | (refine o_move hw.out _ rfl rfl rfl rfl ?_) | (refine o_pickT hw.out _ _ _ rfl rfl rfl rfl rfl ?_) | (refine o_pickF hw.out _ _ _ rfl rfl rfl rfl rfl ?_) | (refine o_bin hw.out _ _ _ _ _ rfl rfl rfl rfl rfl (fun W => by go_simp; first | done | rfl) ?_) | (refine o_un hw.out _ _ _ rfl rfl rfl rfl (fun W => by go_simp; first | done | rfl) ?_) | (refine o_field hw.out _ _ _ rfl rfl rfl rfl (fun W => by go_simp; first | done | rfl) ?_) | (refine o_index hw.out _ _ _ rfl rfl rfl rfl rfl (fun W => by go_simp; first | done | rfl) ?_) | (refine o_conv hw.out _ _ _ rfl rfl rfl rfl (fun W => by go_simp; first | done | rfl) ?_)))); exact g_lk rfl))
              apply g_spc (A := fun v => ∃ ad c, v = .slice ad 0 c)
              case hv => exact ⟨_, none, 0, rfl⟩
              case h1 =>
                intro hst Λ ρ W hW hD hk hdep hval
                have h8 : Λ 8 = true := hdep { on := 8, ground := .data } (by simp) rfl
                have he : slc q8 0 = ρ 8 := by have := hval 8 _ 153 (by omega) rfl rfl h8; injection this
                obtain ⟨gg, a1, a2, _⟩ := hD.1 h8 hk
                have hgg := slc_inj (he.trans a1)
                subst hgg
                refine step_append_i hst rfl _ _ rfl wr.heap.size rfl a2 rfl (U := VA) (V' := VA) (m := 0) (fun t ht => (hown.on hW).cell t ht) (by omega) hW.size (fun t ht => by omega) (fun t _ => by rw [Nat.zero_add]) fun v' W' ho hg hor => ?_
                rw [Nat.zero_add] at ho
                obtain ⟨ad, c, hv', _, _⟩ := ho.sl
                exact ⟨⟨ad, c, hv'⟩, below_only hW (show W.grownBy W' (some q8) from hg) hW.size a2.slc_lt.2, hD.s10 hk h8 ho (by rw [a1]; exact hg)⟩
              rintro _ ⟨ad10, c10, rfl⟩
              dsimp only [putO]
              apply g_spc (A := fun v => ∃ q, v = slc q 1)
              case hv => exact ⟨_, 0, rfl⟩
              case h1 =>
                intro hst Λ ρ W hW hD hk hdep hval
                refine step_run hst rfl (u := slc W.heap.size 1) (W' := W.alloc (.cells #[.int .i64 1] 3)) ?_ ⟨⟨_, rfl⟩, hW.alloc hW.size _, hD.s11 hk⟩
                unfold execOp
                go_simp
                first | done | rfl
              rintro _ ⟨q11, rfl⟩
              dsimp only [putO]
              apply g_spc (A := fun v => ∃ ad c, v = .slice ad (0 + 1) c)
              case hv => exact ⟨_, none, 0, rfl⟩
              case h1 =>
                intro hst Λ ρ W hW hD hk hdep hval
                have h10 : Λ 10 = true := hdep { on := 10, ground := .data } (by simp) rfl
                have h11 : Λ 11 = true := hdep { on := 11, ground := .data } (by simp) rfl
                have he10 : Value.slice ad10 0 c10 = ρ 10 := by have := hval 10 _ 155 (by omega) rfl rfl h10; injection this
                have he11 : slc q11 1 = ρ 11 := by have := hval 11 _ 156 (by omega) rfl rfl h11; injection this
                have own10 := hD.2.1 h10 hk
                rw [← he10] at own10
                obtain ⟨gg, b1, b2⟩ := hD.2.2.1 h11 hk
                have hgg := slc_inj (he11.trans b1)
                subst hgg
                refine step_append_i hst rfl _ _ rfl wr.heap.size rfl own10 rfl (U := fun _ => 1) (V' := setV VA 0 1) (m := 1) (fun t ht => ?_) (by omega) hW.size (fun t ht => ?_) (fun t ht => ?_) fun v' W' ho hg hor => ?_
                · obtain rfl : t = 0 := by omega
                  exact b2
                · unfold setV; rw [if_neg (by omega)]
                · obtain rfl : t = 0 := by omega
                  unfold setV; rw [if_pos (by omega)]
                · obtain ⟨ad, c, hv', _, _⟩ := ho.sl
                  exact ⟨⟨ad, c, hv'⟩, hW.grown hg hW.size (fun q hq => (World.ownsRow.lt own10 q hq).1), hD.s12 h10 h11 ho⟩
              rintro _ ⟨ad12, c12, rfl⟩
              dsimp only [putO]
              apply g_spc (A := fun v => v = .bool false)
              case hv => exact ⟨_, rfl⟩
              case h1 =>
                intro hst Λ ρ W hW hD hk hdep hval
                have h12 : Λ 12 = true := hdep { on := 12, ground := .data } (by simp) rfl
                have he12 : Value.slice ad12 (0 + 1) c12 = ρ 12 := by have := hval 12 _ 157 (by omega) rfl rfl h12; injection this
                have own12 := hD.2.2.2.1 h12
                rw [← he12] at own12
                refine step_call hst rfl _ _ _ rfl rfl (fun ρ W hρ => by go_simp; done) ?_
                exact (has_long HI.out own12).mono fun e W' ⟨g1, g2⟩ => ⟨_, g1, rfl, hW.trans (g2.mono hW.size), hD.stab (by decide) (by decide) (by decide) (by decide) g2⟩
              rintro _ rfl
              dsimp only [putO]
              iterate 3 ((apply g_det; (exact rfl); (exact rfl); (exact rfl); (exact rfl); focus (intro W0 hW0; (first | (refine o_skip rfl rfl rfl ?_) | (refine o_have rfl fun hw => ?_; (first | (refine o_assign hw.out _ rfl rfl rfl rfl ?_) | (refine o_move hw.out _ rfl rfl rfl rfl ?_) | (refine o_pickT hw.out _ _ _ rfl rfl rfl rfl rfl ?_) | (refine o_pickF hw.out _ _ _ rfl rfl rfl rfl rfl ?_) | (refine o_bin hw.out _ _ _ _ _ rfl rfl rfl rfl rfl (fun W => by go_simp; first | done | rfl) ?_) | (refine o_un hw.out _ _ _ rfl rfl rfl rfl (fun W => by go_simp; first | done | rfl) ?_) | (refine o_field hw.out _ _ _ rfl rfl rfl rfl (fun W => by go_simp; first | done | rfl) ?_) | (refine o_index hw.out _ _ _ rfl rfl rfl rfl rfl (fun W => by go_simp; first | done | rfl) ?_) | (refine o_conv hw.out _ _ _ rfl rfl rfl rfl (fun W => by go_simp; first | done | rfl) ?_)))); exact g_lk rfl)))
              apply g_end
              intro w1 Λ ρ hW _ _ _
              simp only [fr, app, slc, List.set_cons_succ, List.set_cons_zero]
              go_wp2
              go_ret
              exact ⟨rfl, hb.trans (hW.mono hb.size)⟩
            · have hz := HZ.out
              have hown := HOWN.out
              have hb := HB.out
              clear HZ HOWN HB
              go_wp2
              apply region_LG (n := 17) (h := wr.heap.size) (Sx := fun t => Nat.beq t 8 || Nat.beq t 10 || Nat.beq t 11 || Nat.beq t 12 || Nat.beq t 13) (Ψ := HasP wr.heap.size 0 VA (setV VA 0 1))
              case hh => exact Nat.le_refl _
              case hm => kernel_rfl
              case hB => kernel_rfl
              case hT => kernel_rfl
              case stab => exact fun Λ ρ W W' t v ht hb' _ hD => hD.stab (fun e => by subst e; exact absurd ht (by decide)) (fun e => by subst e; exact absurd ht (by decide)) (fun e => by subst e; exact absurd ht (by decide)) (fun e => by subst e; exact absurd ht (by decide)) hb'
              case h0 => exact fun W hW => HasP.zero
              simp only [List.take_succ_cons, List.take_zero, List.drop_succ_cons, List.drop_zero]
              iterate 8 ((apply g_det; (exact rfl); (exact rfl); (exact rfl); (exact rfl); focus (intro W0 hW0; (first | (refine o_skip rfl rfl rfl ?_) | (refine o_have rfl fun hw => ?_; (first | (refine o_assign hw.out _ rfl rfl rfl rfl ?_) | (refine o_move hw.out _ rfl rfl rfl rfl ?_) | (refine o_pickT hw.out _ _ _ rfl rfl rfl rfl rfl ?_) | (refine o_pickF hw.out _ _ _ rfl rfl rfl rfl rfl ?_) | (refine o_load_z hw.out _ rfl rfl (hz.on hW0) rfl rfl ?_) | (refine o_bin hw.out _ _ _ _ _ rfl rfl rfl rfl rfl (fun W => by go_simp; first | done | rfl) ?_) | (refine o_un hw.out _ _ _ rfl rfl rfl rfl (fun W => by go_simp; first | done | rfl) ?_) | (refine o_field hw.out _ _ _ rfl rfl rfl rfl (fun W => by go_simp; first | done | rfl) ?_) | (refine o_index hw.out _ _ _ rfl rfl rfl rfl rfl (fun W => by go_simp; first | done | rfl) ?_) | (refine o_conv hw.out _ _ _ rfl rfl rfl rfl (fun W => by go_simp; first | done | rfl) ?_) | (refine o_call hw.out _ _ _ rfl rfl (fun W hW => copies_any W) (by with_reducible rfl) (by with_reducible rfl) rfl rfl (fun ρ W hρ => by go_simp; done) ?_) | (refine o_call hw.out _ _ _ rfl rfl (fun W hW => has_own HI.out ((hown.on hW0).on hW)) (by with_reducible rfl) (by with_reducible rfl) rfl rfl (fun ρ W hρ => by go_simp; done) ?_)))); exact g_lk rfl)))
              apply g_spc (A := fun v => ∃ q, v = slc q 0)
              case hv => exact ⟨_, 0, rfl⟩
              case h1 =>
                intro hst Λ ρ W hW hD hk hdep hval
                refine step_run hst rfl (u := slc W.heap.size 0) (W' := W.alloc (.cells #[] 3)) ?_ ⟨⟨_, rfl⟩, hW.alloc hW.size _, hD.s8 hk hW.size⟩
                unfold execOp
                go_simp
                first | done | rfl
              rintro _ ⟨q8, rfl⟩
              dsimp only [putO]
              (apply g_det; (exact rfl); (exact rfl); (exact rfl); (exact rfl); focus (intro W0 hW0; (first | (refine o_skip rfl rfl rfl ?_) | (refine o_have rfl fun hw => ?_; (first | (refine o_assign hw.out _ rfl rfl rfl rfl ?_) | (refine o_move hw.out _ rfl rfl rfl rfl ?_) | (refine o_pickT hw.out _ _ _ rfl rfl rfl rfl rfl ?_) | (refine o_pickF hw.out _ _ _ rfl rfl rfl rfl rfl ?_) | (refine o_bin hw.out _ _ _ _ _ rfl rfl rfl rfl rfl (fun W => by go_simp; first | done | rfl) ?_) | (refine o_un hw.out _ _ _ rfl rfl rfl rfl (fun W => by go_simp; first | done | rfl) ?_) | (refine o_field hw.out _ _ _ rfl rfl rfl rfl (fun W => by go_simp; first | done | rfl) ?_) | (refine o_index hw.out _ _ _ rfl rfl rfl rfl rfl (fun W => by go_simp; first | done | rfl) ?_) | (refine o_conv hw.out _ _ _ rfl rfl rfl rfl (fun W => by go_simp; first | done | rfl) ?_)))); exact g_lk rfl))
              apply g_spc (A := fun v => ∃ ad c, v = .slice ad 0 c)
              case hv => exact ⟨_, none, 0, rfl⟩
              case h1 =>
                intro hst Λ ρ W hW hD hk hdep hval
                have h8 : Λ 8 = true := hdep { on := 8, ground := .data } (by simp) rfl
                have he : slc q8 0 = ρ 8 := by have := hval 8 _ 153 (by omega) rfl rfl h8; injection this
                obtain ⟨gg, a1, a2, _⟩ := hD.1 h8 hk
                have hgg := slc_inj (he.trans a1)
                subst hgg
                refine step_append_i hst rfl _ _ rfl wr.heap.size rfl a2 rfl (U := VA) (V' := VA) (m := 0) (fun t ht => (hown.on hW).cell t ht) (by omega) hW.size (fun t ht => by omega) (fun t _ => by rw [Nat.zero_add]) fun v' W' ho hg hor => ?_
                rw [Nat.zero_add] at ho
                obtain ⟨ad, c, hv', _, _⟩ := ho.sl
                exact ⟨⟨ad, c, hv'⟩, below_only hW (show W.grownBy W' (some q8) from hg) hW.size a2.slc_lt.2, hD.s10 hk h8 ho (by rw [a1]; exact hg)⟩
              rintro _ ⟨ad10, c10, rfl⟩
              dsimp only [putO]
              apply g_spc (A := fun v => ∃ q, v = slc q 1)
              case hv => exact ⟨_, 0, rfl⟩
              case h1 =>
                intro hst Λ ρ W hW hD hk hdep hval
                refine step_run hst rfl (u := slc W.heap.size 1) (W' := W.alloc (.cells #[.int .i64 1] 3)) ?_ ⟨⟨_, rfl⟩, hW.alloc hW.size _, hD.s11 hk⟩
                unfold execOp
                go_simp
                first | done | rfl
              rintro _ ⟨q11, rfl⟩
              dsimp only [putO]
              apply g_spc (A := fun v => ∃ ad c, v = .slice ad (0 + 1) c)
              case hv => exact ⟨_, none, 0, rfl⟩
              case h1 =>
                intro hst Λ ρ W hW hD hk hdep hval
                have h10 : Λ 10 = true := hdep { on := 10, ground := .data } (by simp) rfl
                have h11 : Λ 11 = true := hdep { on := 11, ground := .data } (by simp) rfl
                have he10 : Value.slice ad10 0 c10 = ρ 10 := by have := hval 10 _ 155 (by omega) rfl rfl h10; injection this
                have he11 : slc q11 1 = ρ 11 := by have := hval 11 _ 156 (by omega) rfl rfl h11; injection this
                have own10 := hD.2.1 h10 hk
                rw [← he10] at own10
                obtain ⟨gg, b1, b2⟩ := hD.2.2.1 h11 hk
                have hgg := slc_inj (he11.trans b1)
                subst hgg
                refine step_append_i hst rfl _ _ rfl wr.heap.size rfl own10 rfl (U := fun _ => 1) (V' := setV VA 0 1) (m := 1) (fun t ht => ?_) (by omega) hW.size (fun t ht => ?_) (fun t ht => ?_) fun v' W' ho hg hor => ?_
                · obtain rfl : t = 0 := by omega
                  exact b2
                · unfold setV; rw [if_neg (by omega)]
                · obtain rfl : t = 0 := by omega
                  unfold setV; rw [if_pos (by omega)]
                · obtain ⟨ad, c, hv', _, _⟩ := ho.sl
                  exact ⟨⟨ad, c, hv'⟩, hW.grown hg hW.size (fun q hq => (World.ownsRow.lt own10 q hq).1), hD.s12 h10 h11 ho⟩
              rintro _ ⟨ad12, c12, rfl⟩
              dsimp only [putO]
              apply g_spc (A := fun v => v = .bool false)
              case hv => exact ⟨_, rfl⟩
              case h1 =>
                intro hst Λ ρ W hW hD hk hdep hval
                have h12 : Λ 12 = true := hdep { on := 12, ground := .data } (by simp) rfl
                have he12 : Value.slice ad12 (0 + 1) c12 = ρ 12 := by have := hval 12 _ 157 (by omega) rfl rfl h12; injection this
                have own12 := hD.2.2.2.1 h12
                rw [← he12] at own12
                refine step_call hst rfl _ _ _ rfl rfl (fun ρ W hρ => by go_simp; done) ?_
                exact (has_long HI.out own12).mono fun e W' ⟨g1, g2⟩ => ⟨_, g1, rfl, hW.trans (g2.mono hW.size), hD.stab (by decide) (by decide) (by decide) (by decide) g2⟩
              rintro _ rfl
              dsimp only [putO]
              iterate 3 ((apply g_det; (exact rfl); (exact rfl); (exact rfl); (exact rfl); focus (intro W0 hW0; (first | (refine o_skip rfl rfl rfl ?_) | (refine o_have rfl fun hw => ?_; (first | (refine o_assign hw.out _ rfl rfl rfl rfl ?_) | (refine o_move hw.out _ rfl rfl rfl rfl ?_) | (refine o_pickT hw.out _ _ _ rfl rfl rfl rfl rfl ?_) | (refine o_pickF hw.out _ _ _ rfl rfl rfl rfl rfl ?_) | (refine o_bin hw.out _ _ _ _ _ rfl rfl rfl rfl rfl (fun W => by go_simp; first | done | rfl) ?_) | (refine o_un hw.out _ _ _ rfl rfl rfl rfl (fun W => by go_simp; first | done | rfl) ?_) | (refine o_field hw.out _ _ _ rfl rfl rfl rfl (fun W => by go_simp; first | done | rfl) ?_) | (refine o_index hw.out _ _ _ rfl rfl rfl rfl rfl (fun W => by go_simp; first | done | rfl) ?_) | (refine o_conv hw.out _ _ _ rfl rfl rfl rfl (fun W => by go_simp; first | done | rfl) ?_)))); exact g_lk rfl)))
              apply g_end
              intro w1 Λ ρ hW _ _ _
              simp only [fr, app, slc, List.set_cons_succ, List.set_cons_zero]
              go_wp2
              go_ret
              exact ⟨rfl, hb.trans (hW.mono hb.size)⟩
      · have hk1 : ((i : Int) > 0) := by omega
        obtain ⟨gv, cv, rfl, hgv, _⟩ := HOWN.out.form (by omega)
        obtain ⟨k, rfl⟩ : ∃ k, k = i := ⟨_, rfl⟩
        go_wp2
        go_loopw [11] (fun i_ wr => ∃ (j : Nat) (z : Zn) (V : Nat → Int), j ≤ 20 ∧ j ≤ len ∧ i_ = .int .i64 (j : Int) ∧ Hid (HasI k z V) ∧ Hid (Below w.heap.size w wr) ∧ Hid (base ≤ wr.heap.size) ∧ Hid (ZAt 26 wr g k false z.D) ∧ Hid (OwnI wr base (.slice (some ⟨gv, 0, none⟩) k cv) k V)) (fun j _ => 21 - (intOf j).toNat)
        case atStart => exact ⟨0, T0, VA, by omega, by omega, rfl, HI0, HB, HSZ, HZ, HOWN⟩
        case round =>
          clear HB HSZ HZ HOWN HI0
          obtain ⟨m, z, V, hm, hml, rfl, HI, HB, HSZ, HZ, HOWN⟩ := hrel
          by_cases hlt : m < 20
          · by_cases hll : m < len
            · obtain ⟨bb, off, rfl, hac⟩ := HA.out.on HB.out m hll
              have hz := HZ.out
              have hb := HB.out
              have hown := HOWN.out
              have hsz := HSZ.out
              clear HB HSZ HZ HOWN
              have e0 : (0 : Int) ≤ (m : Int) := by omega
              have e1 : (m : Int) < (len : Int) := by omega
              have e2 : (m : Int) < 20 := by omega
              have hgv2 : gv < wr.heap.size := by
                obtain ⟨gx, cx, hvx, _, hlx⟩ := hown.form (by omega)
                injection hvx with e1 e2 e3
                injection e1 with e1
                injection e1 with e1 e4
                omega
              go_wp2_with (first
                | (refine load_ac rfl _ rfl _ _ rfl hac ?_)
                | (refine alloc_ac rfl rfl ?_; intro W5 ha hb5 hs5; have hga := hsz; have hz := hz.on hb5; have hown := hown.on hb5; have hsz := Nat.le_trans hsz hb5.size; have hb := hb.trans (hb5.mono hb.size); clear hb5)
                | (refine store_ac rfl _ _ rfl rfl rfl ha ?_; intro W6 ha2 hg6 hs6; have hz := hz.only hg6 (by omega); have hown := hown.other hg6 (by omega); have hsz := Nat.le_trans hsz hg6.size; have hb := below_only hb hg6 hb.size (by omega); clear ha; have ha := ha2; clear ha2 hg6 hs6)
                | fail)
              clear hac
              have c0 := ha.cell 0
              have c1 := ha.cell 1
              have c2 := ha.cell 2
              have c3 := ha.cell 3
              simp only [ac, List.getElem?_toArray, List.getElem?_cons_zero, List.getElem?_cons_succ] at c0 c1 c2 c3
              have hn0 := k_zero k hk0
              obtain ⟨p, hp⟩ : ∃ p : Nat, (IntKind.u64.wrap (A m 1)).toNat = p := ⟨_, rfl⟩
              obtain ⟨q, hq⟩ : ∃ q : Nat, (IntKind.u64.wrap (A m 2)).toNat = q := ⟨_, rfl⟩
              obtain ⟨r2, hr2⟩ : ∃ r : Nat, (IntKind.u64.wrap (A m 0)).toNat = r := ⟨_, rfl⟩
              have hpp : Hid (IntKind.u64.wrap (A m 1) = (p : Int)) := by rw [← hp]; exact u64_nat _
              have hqq : Hid (IntKind.u64.wrap (A m 2) = (q : Int)) := by rw [← hq]; exact u64_nat _
              have hrr2 : Hid (IntKind.u64.wrap (A m 0) = (r2 : Int)) := by rw [← hr2]; exact u64_nat _
              obtain ⟨i, hi⟩ : ∃ i : Nat, p % k = i := ⟨_, rfl⟩
              obtain ⟨j, hj⟩ : ∃ j : Nat, q % (k + 1) = j := ⟨_, rfl⟩
              obtain ⟨c, hc⟩ : ∃ c : Nat, r2 % 5 = c := ⟨_, rfl⟩
              obtain ⟨y, hy⟩ : ∃ y : Int, (j : Int) - 1 = y := ⟨_, rfl⟩
              obtain ⟨d0, hd0⟩ : ∃ d : Int, wrap32 (A m 3) = d := ⟨_, rfl⟩
              obtain ⟨d, hd⟩ : ∃ d1 : Int, d0.tmod 1000 = d1 := ⟨_, rfl⟩
              have hin : i < k := by rw [← hi]; exact Nat.mod_lt _ (by omega)
              have hjn : j ≤ k := by rw [← hj]; exact Nat.le_of_lt_succ (Nat.mod_lt _ (by omega))
              have hcn : c < 5 := by rw [← hc]; exact Nat.mod_lt _ (by omega)
              obtain ⟨hd1, hd2⟩ : -2147483648 ≤ d0 ∧ d0 ≤ 2147483647 := by rw [← hd0]; exact wrap32_bd _
              obtain ⟨hd3, hd4⟩ : -1000 ≤ d ∧ d ≤ 1000 := by rw [← hd]; exact tmod_bd1 _
              have x1 : (p : Int) % (k : Int) = (i : Int) := by rw [← hi]; exact (Int.natCast_emod p k).symm
              have x2 : (q : Int) % ((k : Int) + 1) = (j : Int) := by rw [← hj]; exact (Int.natCast_emod q (k + 1)).symm
              have x5 : (r2 : Int) % 5 = (c : Int) := by omega
              clear hp hq hr2 hc
              simp only [Act.put, List.setIfInBounds_toArray, List.set_cons_succ, List.set_cons_zero]
              apply region_LG (n := 18) (h := W6.heap.size) (Sx := fun _ => false) (Ψ := fun _ _ _ => True)
              case hh => exact Nat.le_refl _
              case hm => kernel_rfl
              case hB => kernel_rfl
              case hT => kernel_rfl
              case stab => exact fun _ _ _ _ _ _ _ _ _ _ => trivial
              case h0 => exact fun _ _ => trivial
              simp only [List.take_succ_cons, List.take_zero, List.drop_succ_cons, List.drop_zero]
              apply g_det; (exact rfl); (exact rfl); (exact rfl); (exact rfl); focus (intro W0 hW0; refine o_have rfl fun hw => ?_; (refine o_field hw.out _ _ _ rfl rfl rfl rfl (fun W => by go_simp; first | done | rfl) ?_); exact g_lk rfl)
              apply g_det; (exact rfl); (exact rfl); (exact rfl); (exact rfl); focus (intro W0 hW0; refine o_have rfl fun hw => ?_; (refine o_loadc hw.out _ _ rfl rfl ((hW0.cell (p := ⟨_, _, none⟩) (block_lt_of_cell c1)).trans c1) rfl rfl Try.underlying3 rfl ?_); exact g_lk rfl)
              apply g_det; (exact rfl); (exact rfl); (exact rfl); (exact rfl); focus (intro W0 hW0; refine o_have rfl fun hw => ?_; (refine o_conv hw.out _ _ _ rfl rfl rfl rfl (fun W => run_cx _ p hpp.out W) ?_); exact g_lk rfl)
              apply g_det; (exact rfl); (exact rfl); (exact rfl); (exact rfl); focus (intro W0 hW0; refine o_have rfl fun hw => ?_; (refine o_move hw.out _ rfl rfl rfl rfl ?_); exact g_lk rfl)
              apply g_det; (exact rfl); (exact rfl); (exact rfl); (exact rfl); focus (intro W0 hW0; refine o_have rfl fun hw => ?_; (refine o_conv hw.out _ _ _ rfl rfl rfl rfl (fun W => run_cu k (by omega) W) ?_); exact g_lk rfl)
              apply g_det; (exact rfl); (exact rfl); (exact rfl); (exact rfl); focus (intro W0 hW0; refine o_have rfl fun hw => ?_; (refine o_bin hw.out _ _ _ _ _ rfl rfl rfl rfl rfl (fun W => run_rem p k i hk0 hi _ _ W) ?_); exact g_lk rfl)
              apply g_det; (exact rfl); (exact rfl); (exact rfl); (exact rfl); focus (intro W0 hW0; refine o_have rfl fun hw => ?_; (refine o_conv hw.out _ _ _ rfl rfl rfl rfl (fun W => run_cv i (by omega) W) ?_); exact g_lk rfl)
              apply g_det; (exact rfl); (exact rfl); (exact rfl); (exact rfl); focus (intro W0 hW0; refine o_have rfl fun hw => ?_; (refine o_field hw.out _ _ _ rfl rfl rfl rfl (fun W => by go_simp; first | done | rfl) ?_); exact g_lk rfl)
              apply g_det; (exact rfl); (exact rfl); (exact rfl); (exact rfl); focus (intro W0 hW0; refine o_have rfl fun hw => ?_; (refine o_loadc hw.out _ _ rfl rfl ((hW0.cell (p := ⟨_, _, none⟩) (block_lt_of_cell c2)).trans c2) rfl rfl Try.underlying3 rfl ?_); exact g_lk rfl)
              apply g_det; (exact rfl); (exact rfl); (exact rfl); (exact rfl); focus (intro W0 hW0; refine o_have rfl fun hw => ?_; (refine o_conv hw.out _ _ _ rfl rfl rfl rfl (fun W => run_cx _ q hqq.out W) ?_); exact g_lk rfl)
              apply g_det; (exact rfl); (exact rfl); (exact rfl); (exact rfl); focus (intro W0 hW0; refine o_have rfl fun hw => ?_; (refine o_move hw.out _ rfl rfl rfl rfl ?_); exact g_lk rfl)
              apply g_det; (exact rfl); (exact rfl); (exact rfl); (exact rfl); focus (intro W0 hW0; refine o_have rfl fun hw => ?_; (refine o_bin hw.out _ _ _ _ _ rfl rfl rfl rfl rfl (fun W => run_add1 k (by omega) _ _ W) ?_); exact g_lk rfl)
              apply g_det; (exact rfl); (exact rfl); (exact rfl); (exact rfl); focus (intro W0 hW0; refine o_have rfl fun hw => ?_; (refine o_conv hw.out _ _ _ rfl rfl rfl rfl (fun W => run_cu (k + 1) (by omega) W) ?_); exact g_lk rfl)
              apply g_det; (exact rfl); (exact rfl); (exact rfl); (exact rfl); focus (intro W0 hW0; refine o_have rfl fun hw => ?_; (refine o_bin hw.out _ _ _ _ _ rfl rfl rfl rfl rfl (fun W => run_rem q (k + 1) j (Nat.succ_ne_zero k) hj _ _ W) ?_); exact g_lk rfl)
              apply g_det; (exact rfl); (exact rfl); (exact rfl); (exact rfl); focus (intro W0 hW0; refine o_have rfl fun hw => ?_; (refine o_conv hw.out _ _ _ rfl rfl rfl rfl (fun W => run_cv j (by omega) W) ?_); exact g_lk rfl)
              apply g_det; (exact rfl); (exact rfl); (exact rfl); (exact rfl); focus (intro W0 hW0; refine o_have rfl fun hw => ?_; (refine o_bin hw.out _ _ _ _ _ rfl rfl rfl rfl rfl (fun W => run_sub1 j y (by omega) hy _ _ W) ?_); exact g_lk rfl)
              apply g_det; (exact rfl); (exact rfl); (exact rfl); (exact rfl); focus (intro W0 hW0; refine o_have rfl fun hw => ?_; (refine o_assign hw.out _ rfl rfl rfl rfl ?_); exact g_lk rfl)
              apply g_det; (exact rfl); (exact rfl); (exact rfl); (exact rfl); focus (intro W0 hW0; refine o_have rfl fun hw => ?_; (refine o_assign hw.out _ rfl rfl rfl rfl ?_); exact g_lk rfl)
              apply g_end
              intro w7 _ _ hW _ _ _
              have hz := hz.on hW
              have hown := hown.on hW
              have hsz := Nat.le_trans hsz hW.size
              have hb := hb.trans (hW.mono hb.size)
              have c0 := (hW.cell (p := ⟨_, _, none⟩) (block_lt_of_cell c0)).trans c0
              have c3 := (hW.cell (p := ⟨_, _, none⟩) (block_lt_of_cell c3)).trans c3
              simp only [fr, app, List.set_cons_succ, List.set_cons_zero]
              clear x1 x2 hpp hqq c1 c2 ha hga hgv2 hW hi hj
              obtain ⟨hv1, hv2⟩ := HI.out.bd (i := i + 1) (by omega)
              obtain ⟨hv3, hv4⟩ := HI.out.bd (i := j) hjn
              rw [atV_s] at hv1 hv2
              have ci := hown.cell i hin
              rw [Nat.zero_add] at ci
              have qi : (i : Int) < (k : Int) := by omega
              obtain ⟨a, hat⟩ : ∃ a, atV V j = a := ⟨_, rfl⟩
              have HAT := Lib.hid hat
              rw [hat] at hv3 hv4
              clear hat
              by_cases hy0 : 0 ≤ y
              · obtain ⟨jj, rfl⟩ : ∃ jj : Nat, y = (jj : Int) := ⟨y.toNat, by omega⟩
                have hjj : j = jj + 1 := by omega
                have hVa : V jj = a := by rw [← HAT.out, hjj, atV_s]
                have cj := hown.cell jj (by omega)
                rw [Nat.zero_add, hVa] at cj
                have qj : (jj : Int) < (k : Int) := by omega
                clear hVa
                have hrr3 := hrr2.out
                obtain hc0 | hc1 | hc2 | hc3 | hc4 : c = 0 ∨ c = 1 ∨ c = 2 ∨ c = 3 ∨ c = 4 := by omega
                · subst hc0
                  by_cases hxy : i + 1 = j
                  · have n1 : ((i : Int) == (jj : Int)) = true := by simp; omega
                    have n2 : ((i : Int) != (jj : Int)) = false := by simp; omega
                    have HI2 := HI
                    go_wp2_with (first
                      | (refine load_z rfl _ rfl rfl hz ?_)
                      | (go_at_call 34; ((with_reducible refine (has_own HI2.out hown).mono ?_); rintro e W9 ⟨rfl, hb5⟩; have hz := hz.on hb5; have hbc := hz.b_cell; have hown := hown.on hb5; have hsz := Nat.le_trans hsz hb5.size; have hb := hb.trans (hb5.mono hb.size); clear hb5))
                      | (refine store_z rfl _ _ rfl rfl rfl hz ?_; intro W10 hz6 hg6 hs6; have hown := hown.only hg6 hglt; have hsz := Nat.le_trans hsz hg6.size; have hb := below_only hb hg6 hb.size (by omega); clear hz; have hz := hz6; clear hz6 hg6 hs6)
                      | (refine store_own rfl _ _ rfl rfl rfl hown hin ?_; intro W11 hown6 hg6; have hz := hz.only hg6 (by omega); have hsz := Nat.le_trans hsz hg6.size; have hb := below_only hb hg6 hb.size (by omega); clear hown; have hown := hown6; clear hown6 hg6)
                      | fail)
                    have HB := Lib.hid hb
                    have HZ := Lib.hid hz
                    have HSZ := Lib.hid hsz
                    have HOWN := Lib.hid hown
                    clear hz hb hsz hown
                    go_roundw
                    case rel => exact ⟨m + 1, _, _, by omega, by omega, by go_num, HI2, HB, HSZ, HZ, HOWN⟩
                    case measure => simp [intOf]; omega
                  · have n1 : ((i : Int) == (jj : Int)) = false := by simp; omega
                    have n2 : ((i : Int) != (jj : Int)) = true := by simp; omega
                    obtain ⟨e, he⟩ : ∃ e, mx d 0 = e := ⟨_, rfl⟩
                    have he1 : 0 ≤ e ∧ e ≤ 1000 := by rw [← he]; unfold mx; split <;> omega
                    obtain ⟨he1, he2⟩ := he1
                    obtain ⟨vi, hvi⟩ : ∃ vi, V i = vi := ⟨_, rfl⟩
                    obtain ⟨z2, hz2⟩ : ∃ z2, boundZ z (i : Int) ((j : Int) - 1) (vi - a + e) = z2 := ⟨_, rfl⟩
                    have HI2 : Hid (HasI k z2 V) := by
                      rw [← hz2]
                      exact HI.out.bound hin hjn hxy (by omega) (by rw [HAT.out, hvi]; omega)
                    have HBD : Hid (∀ W : World, Calls Try.prog 22 #[.agg (zc k false z.D), .int .i64 (i : Int), .int .i64 ((jj : Int)), .int .i64 (vi - a + e)] W (Ret W (.agg (zc k false z2.D)))) := fun W => by
                      have := bound_any z HI.out.ok.n (i : Int) ((j : Int) - 1) (vi - a + e) W
                      rw [hz2, Zn.c, Zn.c, HI.out.n, HI.out.none, HI2.out.n, HI2.out.none, hy] at this
                      exact this
                    rw [hvi] at ci hv1 hv2
                    clear hz2 hvi
                    go_wp2
                    refine head0 13 (by kernel_rfl) (by kernel_rfl) (by kernel_rfl) (by kernel_rfl) ?_
                    simp only [List.take_succ_cons, List.take_zero, List.drop_succ_cons, List.drop_zero]
                    (refine o_start ?_; (iterate 13 (first | (refine o_skip rfl rfl rfl ?_) | (refine o_have rfl fun hw => ?_; (first | (refine o_move hw.out _ rfl rfl rfl rfl ?_) | (refine o_pickT hw.out _ _ _ rfl rfl rfl rfl rfl ?_) | (refine o_pickF hw.out _ _ _ rfl rfl rfl rfl rfl ?_) | (refine o_load_z hw.out _ rfl rfl hz rfl rfl ?_) | (refine o_loadc hw.out _ _ rfl rfl ci rfl rfl (by first | exact Try.underlying3 | exact Try.underlying4) rfl ?_) | (refine o_two hw.out _ _ _ _ rfl rfl rfl rfl rfl (v := .int .i64 e) (fun ρ W h1 h2 => by go_simp; done) ?_) | (refine o_bin hw.out _ _ _ _ _ rfl rfl rfl rfl rfl (v := .int .i64 (vi - a)) (fun W => by go_simp; exact IntWalk.i64_in _ (by omega)) ?_) | (refine o_bin hw.out _ _ _ _ _ rfl rfl rfl rfl rfl (v := .int .i64 (vi - a + e)) (fun W => by go_simp; exact IntWalk.i64_in _ (by omega)) ?_) | (refine o_bin hw.out _ _ _ _ _ rfl rfl rfl rfl rfl (fun W => by go_simp; first | done | rfl) ?_) | (refine o_un hw.out _ _ _ rfl rfl rfl rfl (fun W => by go_simp; first | done | rfl) ?_) | (refine o_field hw.out _ _ _ rfl rfl rfl rfl (fun W => by go_simp; first | done | rfl) ?_) | (refine o_index hw.out _ _ _ rfl rfl rfl rfl rfl (fun W => by go_simp; first | done | rfl) ?_) | (refine o_conv hw.out _ _ _ rfl rfl rfl rfl (fun W => by go_simp; first | done | rfl) ?_) | (refine o_call hw.out _ _ _ rfl rfl (fun W hW => HBD.out W) (by with_reducible rfl) (by with_reducible rfl) rfl rfl (fun ρ W hρ => by go_simp; done) ?_)); clear hw))); refine o_end ?_; simp only [app, List.set_cons_succ, List.set_cons_zero])
                    intro w8 hb8
                    have hz := hz.on hb8
                    have hown := hown.on hb8
                    have hsz := Nat.le_trans hsz hb8.size
                    have hb := hb.trans (hb8.mono hb.size)
                    clear hb8 HBD
                    go_wp2_with (first
                      | (refine load_z rfl _ rfl rfl hz ?_)
                      | (go_at_call 34; ((with_reducible refine (has_own HI2.out hown).mono ?_); rintro e W9 ⟨rfl, hb5⟩; have hz := hz.on hb5; have hbc := hz.b_cell; have hown := hown.on hb5; have hsz := Nat.le_trans hsz hb5.size; have hb := hb.trans (hb5.mono hb.size); clear hb5))
                      | (refine store_z rfl _ _ rfl rfl rfl hz ?_; intro W10 hz6 hg6 hs6; have hown := hown.only hg6 hglt; have hsz := Nat.le_trans hsz hg6.size; have hb := below_only hb hg6 hb.size (by omega); clear hz; have hz := hz6; clear hz6 hg6 hs6)
                      | (refine store_own rfl _ _ rfl rfl rfl hown hin ?_; intro W11 hown6 hg6; have hz := hz.only hg6 (by omega); have hsz := Nat.le_trans hsz hg6.size; have hb := below_only hb hg6 hb.size (by omega); clear hown; have hown := hown6; clear hown6 hg6)
                      | fail)
                    have HB := Lib.hid hb
                    have HZ := Lib.hid hz
                    have HSZ := Lib.hid hsz
                    have HOWN := Lib.hid hown
                    clear hz hb hsz hown
                    go_roundw
                    case rel => exact ⟨m + 1, _, _, by omega, by omega, by go_num, HI2, HB, HSZ, HZ, HOWN⟩
                    case measure => simp [intOf]; omega
                · subst hc1
                  by_cases hxy : i + 1 = j
                  · have n1 : ((i : Int) == (jj : Int)) = true := by simp; omega
                    have n2 : ((i : Int) != (jj : Int)) = false := by simp; omega
                    have HI2 := HI
                    go_wp2_with (first
                      | (refine load_z rfl _ rfl rfl hz ?_)
                      | (go_at_call 34; ((with_reducible refine (has_own HI2.out hown).mono ?_); rintro e W9 ⟨rfl, hb5⟩; have hz := hz.on hb5; have hbc := hz.b_cell; have hown := hown.on hb5; have hsz := Nat.le_trans hsz hb5.size; have hb := hb.trans (hb5.mono hb.size); clear hb5))
                      | (refine store_z rfl _ _ rfl rfl rfl hz ?_; intro W10 hz6 hg6 hs6; have hown := hown.only hg6 hglt; have hsz := Nat.le_trans hsz hg6.size; have hb := below_only hb hg6 hb.size (by omega); clear hz; have hz := hz6; clear hz6 hg6 hs6)
                      | (refine store_own rfl _ _ rfl rfl rfl hown hin ?_; intro W11 hown6 hg6; have hz := hz.only hg6 (by omega); have hsz := Nat.le_trans hsz hg6.size; have hb := below_only hb hg6 hb.size (by omega); clear hown; have hown := hown6; clear hown6 hg6)
                      | fail)
                    have HB := Lib.hid hb
                    have HZ := Lib.hid hz
                    have HSZ := Lib.hid hsz
                    have HOWN := Lib.hid hown
                    clear hz hb hsz hown
                    go_roundw
                    case rel => exact ⟨m + 1, _, _, by omega, by omega, by go_num, HI2, HB, HSZ, HZ, HOWN⟩
                    case measure => simp [intOf]; omega
                  · have n1 : ((i : Int) == (jj : Int)) = false := by simp; omega
                    have n2 : ((i : Int) != (jj : Int)) = true := by simp; omega
                    obtain ⟨e, he⟩ : ∃ e, mx d 0 = e := ⟨_, rfl⟩
                    have he1 : 0 ≤ e ∧ e ≤ 1000 := by rw [← he]; unfold mx; split <;> omega
                    obtain ⟨he1, he2⟩ := he1
                    obtain ⟨vi, hvi⟩ : ∃ vi, V i = vi := ⟨_, rfl⟩
                    obtain ⟨z2, hz2⟩ : ∃ z2, boundZ z (i : Int) ((j : Int) - 1) (vi - a + e) = z2 := ⟨_, rfl⟩
                    have HI2 : Hid (HasI k z2 V) := by
                      rw [← hz2]
                      exact HI.out.bound hin hjn hxy (by omega) (by rw [HAT.out, hvi]; omega)
                    have HBD : Hid (∀ W : World, Calls Try.prog 22 #[.agg (zc k false z.D), .int .i64 (i : Int), .int .i64 ((jj : Int)), .int .i64 (vi - a + e)] W (Ret W (.agg (zc k false z2.D)))) := fun W => by
                      have := bound_any z HI.out.ok.n (i : Int) ((j : Int) - 1) (vi - a + e) W
                      rw [hz2, Zn.c, Zn.c, HI.out.n, HI.out.none, HI2.out.n, HI2.out.none, hy] at this
                      exact this
                    rw [hvi] at ci hv1 hv2
                    clear hz2 hvi
                    go_wp2
                    refine head0 13 (by kernel_rfl) (by kernel_rfl) (by kernel_rfl) (by kernel_rfl) ?_
                    simp only [List.take_succ_cons, List.take_zero, List.drop_succ_cons, List.drop_zero]
                    (refine o_start ?_; (iterate 13 (first | (refine o_skip rfl rfl rfl ?_) | (refine o_have rfl fun hw => ?_; (first | (refine o_move hw.out _ rfl rfl rfl rfl ?_) | (refine o_pickT hw.out _ _ _ rfl rfl rfl rfl rfl ?_) | (refine o_pickF hw.out _ _ _ rfl rfl rfl rfl rfl ?_) | (refine o_load_z hw.out _ rfl rfl hz rfl rfl ?_) | (refine o_loadc hw.out _ _ rfl rfl ci rfl rfl (by first | exact Try.underlying3 | exact Try.underlying4) rfl ?_) | (refine o_two hw.out _ _ _ _ rfl rfl rfl rfl rfl (v := .int .i64 e) (fun ρ W h1 h2 => by go_simp; done) ?_) | (refine o_bin hw.out _ _ _ _ _ rfl rfl rfl rfl rfl (v := .int .i64 (vi - a)) (fun W => by go_simp; exact IntWalk.i64_in _ (by omega)) ?_) | (refine o_bin hw.out _ _ _ _ _ rfl rfl rfl rfl rfl (v := .int .i64 (vi - a + e)) (fun W => by go_simp; exact IntWalk.i64_in _ (by omega)) ?_) | (refine o_bin hw.out _ _ _ _ _ rfl rfl rfl rfl rfl (fun W => by go_simp; first | done | rfl) ?_) | (refine o_un hw.out _ _ _ rfl rfl rfl rfl (fun W => by go_simp; first | done | rfl) ?_) | (refine o_field hw.out _ _ _ rfl rfl rfl rfl (fun W => by go_simp; first | done | rfl) ?_) | (refine o_index hw.out _ _ _ rfl rfl rfl rfl rfl (fun W => by go_simp; first | done | rfl) ?_) | (refine o_conv hw.out _ _ _ rfl rfl rfl rfl (fun W => by go_simp; first | done | rfl) ?_) | (refine o_call hw.out _ _ _ rfl rfl (fun W hW => HBD.out W) (by with_reducible rfl) (by with_reducible rfl) rfl rfl (fun ρ W hρ => by go_simp; done) ?_)); clear hw))); refine o_end ?_; simp only [app, List.set_cons_succ, List.set_cons_zero])
                    intro w8 hb8
                    have hz := hz.on hb8
                    have hown := hown.on hb8
                    have hsz := Nat.le_trans hsz hb8.size
                    have hb := hb.trans (hb8.mono hb.size)
                    clear hb8 HBD
                    go_wp2_with (first
                      | (refine load_z rfl _ rfl rfl hz ?_)
                      | (go_at_call 34; ((with_reducible refine (has_own HI2.out hown).mono ?_); rintro e W9 ⟨rfl, hb5⟩; have hz := hz.on hb5; have hbc := hz.b_cell; have hown := hown.on hb5; have hsz := Nat.le_trans hsz hb5.size; have hb := hb.trans (hb5.mono hb.size); clear hb5))
                      | (refine store_z rfl _ _ rfl rfl rfl hz ?_; intro W10 hz6 hg6 hs6; have hown := hown.only hg6 hglt; have hsz := Nat.le_trans hsz hg6.size; have hb := below_only hb hg6 hb.size (by omega); clear hz; have hz := hz6; clear hz6 hg6 hs6)
                      | (refine store_own rfl _ _ rfl rfl rfl hown hin ?_; intro W11 hown6 hg6; have hz := hz.only hg6 (by omega); have hsz := Nat.le_trans hsz hg6.size; have hb := below_only hb hg6 hb.size (by omega); clear hown; have hown := hown6; clear hown6 hg6)
                      | fail)
                    have HB := Lib.hid hb
                    have HZ := Lib.hid hz
                    have HSZ := Lib.hid hsz
                    have HOWN := Lib.hid hown
                    clear hz hb hsz hown
                    go_roundw
                    case rel => exact ⟨m + 1, _, _, by omega, by omega, by go_num, HI2, HB, HSZ, HZ, HOWN⟩
                    case measure => simp [intOf]; omega
                · subst hc2
                  have HI2 : Hid (HasI k (forgetZ z (i : Int)) (setV V i d)) := HI.out.forget hin (by omega) (by omega)
                  have HFO : Hid (∀ W : World, Calls Try.prog 33 #[.agg (zc k false z.D), .int .i64 (i : Int)] W (Ret W (.agg (zc k false (forgetZ z (i : Int)).D)))) := fun W => by
                    have := forget_any z HI.out.ok.n (i : Int) W
                    rw [Zn.c, Zn.c, HI.out.n, HI.out.none, HI2.out.n, HI2.out.none] at this
                    exact this
                  generalize forgetZ z (i : Int) = z2 at *
                  go_wp2_with (first
                    | (go_at_call 33; ((with_reducible refine (HFO.out _).mono ?_); rintro e W8 ⟨rfl, hb5⟩; have hz := hz.on hb5; have hown := hown.on hb5; have hsz := Nat.le_trans hsz hb5.size; have hb := hb.trans (hb5.mono hb.size); clear hb5))
                    | (refine load_z rfl _ rfl rfl hz ?_)
                    | (go_at_call 34; ((with_reducible refine (has_own HI2.out hown).mono ?_); rintro e W9 ⟨rfl, hb5⟩; have hz := hz.on hb5; have hbc := hz.b_cell; have hown := hown.on hb5; have hsz := Nat.le_trans hsz hb5.size; have hb := hb.trans (hb5.mono hb.size); clear hb5))
                    | (refine store_z rfl _ _ rfl rfl rfl hz ?_; intro W10 hz6 hg6 hs6; have hown := hown.only hg6 hglt; have hsz := Nat.le_trans hsz hg6.size; have hb := below_only hb hg6 hb.size (by omega); clear hz; have hz := hz6; clear hz6 hg6 hs6)
                    | (refine store_own rfl _ _ rfl rfl rfl hown hin ?_; intro W11 hown6 hg6; have hz := hz.only hg6 (by omega); have hsz := Nat.le_trans hsz hg6.size; have hb := below_only hb hg6 hb.size (by omega); clear hown; have hown := hown6; clear hown6 hg6)
                    | fail)
                  have HB := Lib.hid hb
                  have HZ := Lib.hid hz
                  have HSZ := Lib.hid hsz
                  have HOWN := Lib.hid hown
                  clear hz hb hsz hown
                  go_roundw
                  case rel => exact ⟨m + 1, _, _, by omega, by omega, by go_num, HI2, HB, HSZ, HZ, HOWN⟩
                  case measure => simp [intOf]; omega
                · subst hc3
                  by_cases hlo : -2147483648 ≤ a + d
                  · by_cases hhi : a + d ≤ 2147483647
                    · have HI2 : Hid (HasI k (copyZ z (i : Int) ((j : Int) - 1) d) (setV V i (a + d))) := by
                        have := HI.out.copy hin hjn (d := d) ⟨by omega, by omega⟩ (by rw [HAT.out]; omega) (by rw [HAT.out]; omega)
                        rw [HAT.out] at this
                        exact this
                      have HCO : Hid (∀ W : World, Calls Try.prog 23 #[.agg (zc k false z.D), .int .i64 (i : Int), .int .i64 ((jj : Int)), .int .i64 d] W (Ret W (.agg (zc k false (copyZ z (i : Int) ((j : Int) - 1) d).D)))) := fun W => by
                        have := copy_any z HI.out.ok.n (i : Int) ((j : Int) - 1) d W
                        rw [Zn.c, Zn.c, HI.out.n, HI.out.none, HI2.out.n, HI2.out.none] at this
                        rw [hy] at this ⊢
                        exact this
                      generalize copyZ z (i : Int) ((j : Int) - 1) d = z2 at *
                      skip
                      go_wp2_with (first
                        | (go_at_call 23; ((with_reducible refine (HCO.out _).mono ?_); rintro e W8 ⟨rfl, hb5⟩; have hz := hz.on hb5; have hown := hown.on hb5; have hsz := Nat.le_trans hsz hb5.size; have hb := hb.trans (hb5.mono hb.size); clear hb5))
                        | (refine load_z rfl _ rfl rfl hz ?_)
                        | (go_at_call 34; ((with_reducible refine (has_own HI2.out hown).mono ?_); rintro e W9 ⟨rfl, hb5⟩; have hz := hz.on hb5; have hbc := hz.b_cell; have hown := hown.on hb5; have hsz := Nat.le_trans hsz hb5.size; have hb := hb.trans (hb5.mono hb.size); clear hb5))
                        | (refine store_z rfl _ _ rfl rfl rfl hz ?_; intro W10 hz6 hg6 hs6; have hown := hown.only hg6 hglt; have hsz := Nat.le_trans hsz hg6.size; have hb := below_only hb hg6 hb.size (by omega); clear hz; have hz := hz6; clear hz6 hg6 hs6)
                        | (refine store_own rfl _ _ rfl rfl rfl hown hin ?_; intro W11 hown6 hg6; have hz := hz.only hg6 (by omega); have hsz := Nat.le_trans hsz hg6.size; have hb := below_only hb hg6 hb.size (by omega); clear hown; have hown := hown6; clear hown6 hg6)
                        | fail)
                      have HB := Lib.hid hb
                      have HZ := Lib.hid hz
                      have HSZ := Lib.hid hsz
                      have HOWN := Lib.hid hown
                      clear hz hb hsz hown
                      go_roundw
                      case rel => exact ⟨m + 1, _, _, by omega, by omega, by go_num, HI2, HB, HSZ, HZ, HOWN⟩
                      case measure => simp [intOf]; omega
                    · have HI2 := HI
                      go_wp2_with (first
                        | (refine load_z rfl _ rfl rfl hz ?_)
                        | (go_at_call 34; ((with_reducible refine (has_own HI2.out hown).mono ?_); rintro e W9 ⟨rfl, hb5⟩; have hz := hz.on hb5; have hbc := hz.b_cell; have hown := hown.on hb5; have hsz := Nat.le_trans hsz hb5.size; have hb := hb.trans (hb5.mono hb.size); clear hb5))
                        | (refine store_z rfl _ _ rfl rfl rfl hz ?_; intro W10 hz6 hg6 hs6; have hown := hown.only hg6 hglt; have hsz := Nat.le_trans hsz hg6.size; have hb := below_only hb hg6 hb.size (by omega); clear hz; have hz := hz6; clear hz6 hg6 hs6)
                        | (refine store_own rfl _ _ rfl rfl rfl hown hin ?_; intro W11 hown6 hg6; have hz := hz.only hg6 (by omega); have hsz := Nat.le_trans hsz hg6.size; have hb := below_only hb hg6 hb.size (by omega); clear hown; have hown := hown6; clear hown6 hg6)
                        | fail)
                      have HB := Lib.hid hb
                      have HZ := Lib.hid hz
                      have HSZ := Lib.hid hsz
                      have HOWN := Lib.hid hown
                      clear hz hb hsz hown
                      go_roundw
                      case rel => exact ⟨m + 1, _, _, by omega, by omega, by go_num, HI2, HB, HSZ, HZ, HOWN⟩
                      case measure => simp [intOf]; omega
                  · have HI2 := HI
                    go_wp2_with (first
                      | (refine load_z rfl _ rfl rfl hz ?_)
                      | (go_at_call 34; ((with_reducible refine (has_own HI2.out hown).mono ?_); rintro e W9 ⟨rfl, hb5⟩; have hz := hz.on hb5; have hbc := hz.b_cell; have hown := hown.on hb5; have hsz := Nat.le_trans hsz hb5.size; have hb := hb.trans (hb5.mono hb.size); clear hb5))
                      | (refine store_z rfl _ _ rfl rfl rfl hz ?_; intro W10 hz6 hg6 hs6; have hown := hown.only hg6 hglt; have hsz := Nat.le_trans hsz hg6.size; have hb := below_only hb hg6 hb.size (by omega); clear hz; have hz := hz6; clear hz6 hg6 hs6)
                      | (refine store_own rfl _ _ rfl rfl rfl hown hin ?_; intro W11 hown6 hg6; have hz := hz.only hg6 (by omega); have hsz := Nat.le_trans hsz hg6.size; have hb := below_only hb hg6 hb.size (by omega); clear hown; have hown := hown6; clear hown6 hg6)
                      | fail)
                    have HB := Lib.hid hb
                    have HZ := Lib.hid hz
                    have HSZ := Lib.hid hsz
                    have HOWN := Lib.hid hown
                    clear hz hb hsz hown
                    go_roundw
                    case rel => exact ⟨m + 1, _, _, by omega, by omega, by go_num, HI2, HB, HSZ, HZ, HOWN⟩
                    case measure => simp [intOf]; omega
                · subst hc4
                  by_cases hlo : -2147483648 ≤ a + d
                  · by_cases hhi : a + d ≤ 2147483647
                    · have HI2 : Hid (HasI k (copyZ z (i : Int) ((j : Int) - 1) d) (setV V i (a + d))) := by
                        have := HI.out.copy hin hjn (d := d) ⟨by omega, by omega⟩ (by rw [HAT.out]; omega) (by rw [HAT.out]; omega)
                        rw [HAT.out] at this
                        exact this
                      have HCO : Hid (∀ W : World, Calls Try.prog 23 #[.agg (zc k false z.D), .int .i64 (i : Int), .int .i64 ((jj : Int)), .int .i64 d] W (Ret W (.agg (zc k false (copyZ z (i : Int) ((j : Int) - 1) d).D)))) := fun W => by
                        have := copy_any z HI.out.ok.n (i : Int) ((j : Int) - 1) d W
                        rw [Zn.c, Zn.c, HI.out.n, HI.out.none, HI2.out.n, HI2.out.none] at this
                        rw [hy] at this ⊢
                        exact this
                      generalize copyZ z (i : Int) ((j : Int) - 1) d = z2 at *
                      skip
                      go_wp2_with (first
                        | (go_at_call 23; ((with_reducible refine (HCO.out _).mono ?_); rintro e W8 ⟨rfl, hb5⟩; have hz := hz.on hb5; have hown := hown.on hb5; have hsz := Nat.le_trans hsz hb5.size; have hb := hb.trans (hb5.mono hb.size); clear hb5))
                        | (refine load_z rfl _ rfl rfl hz ?_)
                        | (go_at_call 34; ((with_reducible refine (has_own HI2.out hown).mono ?_); rintro e W9 ⟨rfl, hb5⟩; have hz := hz.on hb5; have hbc := hz.b_cell; have hown := hown.on hb5; have hsz := Nat.le_trans hsz hb5.size; have hb := hb.trans (hb5.mono hb.size); clear hb5))
                        | (refine store_z rfl _ _ rfl rfl rfl hz ?_; intro W10 hz6 hg6 hs6; have hown := hown.only hg6 hglt; have hsz := Nat.le_trans hsz hg6.size; have hb := below_only hb hg6 hb.size (by omega); clear hz; have hz := hz6; clear hz6 hg6 hs6)
                        | (refine store_own rfl _ _ rfl rfl rfl hown hin ?_; intro W11 hown6 hg6; have hz := hz.only hg6 (by omega); have hsz := Nat.le_trans hsz hg6.size; have hb := below_only hb hg6 hb.size (by omega); clear hown; have hown := hown6; clear hown6 hg6)
                        | fail)
                      have HB := Lib.hid hb
                      have HZ := Lib.hid hz
                      have HSZ := Lib.hid hsz
                      have HOWN := Lib.hid hown
                      clear hz hb hsz hown
                      go_roundw
                      case rel => exact ⟨m + 1, _, _, by omega, by omega, by go_num, HI2, HB, HSZ, HZ, HOWN⟩
                      case measure => simp [intOf]; omega
                    · have HI2 := HI
                      go_wp2_with (first
                        | (refine load_z rfl _ rfl rfl hz ?_)
                        | (go_at_call 34; ((with_reducible refine (has_own HI2.out hown).mono ?_); rintro e W9 ⟨rfl, hb5⟩; have hz := hz.on hb5; have hbc := hz.b_cell; have hown := hown.on hb5; have hsz := Nat.le_trans hsz hb5.size; have hb := hb.trans (hb5.mono hb.size); clear hb5))
                        | (refine store_z rfl _ _ rfl rfl rfl hz ?_; intro W10 hz6 hg6 hs6; have hown := hown.only hg6 hglt; have hsz := Nat.le_trans hsz hg6.size; have hb := below_only hb hg6 hb.size (by omega); clear hz; have hz := hz6; clear hz6 hg6 hs6)
                        | (refine store_own rfl _ _ rfl rfl rfl hown hin ?_; intro W11 hown6 hg6; have hz := hz.only hg6 (by omega); have hsz := Nat.le_trans hsz hg6.size; have hb := below_only hb hg6 hb.size (by omega); clear hown; have hown := hown6; clear hown6 hg6)
                        | fail)
                      have HB := Lib.hid hb
                      have HZ := Lib.hid hz
                      have HSZ := Lib.hid hsz
                      have HOWN := Lib.hid hown
                      clear hz hb hsz hown
                      go_roundw
                      case rel => exact ⟨m + 1, _, _, by omega, by omega, by go_num, HI2, HB, HSZ, HZ, HOWN⟩
                      case measure => simp [intOf]; omega
                  · have HI2 := HI
                    go_wp2_with (first
                      | (refine load_z rfl _ rfl rfl hz ?_)
                      | (go_at_call 34; ((with_reducible refine (has_own HI2.out hown).mono ?_); rintro e W9 ⟨rfl, hb5⟩; have hz := hz.on hb5; have hbc := hz.b_cell; have hown := hown.on hb5; have hsz := Nat.le_trans hsz hb5.size; have hb := hb.trans (hb5.mono hb.size); clear hb5))
                      | (refine store_z rfl _ _ rfl rfl rfl hz ?_; intro W10 hz6 hg6 hs6; have hown := hown.only hg6 hglt; have hsz := Nat.le_trans hsz hg6.size; have hb := below_only hb hg6 hb.size (by omega); clear hz; have hz := hz6; clear hz6 hg6 hs6)
                      | (refine store_own rfl _ _ rfl rfl rfl hown hin ?_; intro W11 hown6 hg6; have hz := hz.only hg6 (by omega); have hsz := Nat.le_trans hsz hg6.size; have hb := below_only hb hg6 hb.size (by omega); clear hown; have hown := hown6; clear hown6 hg6)
                      | fail)
                    have HB := Lib.hid hb
                    have HZ := Lib.hid hz
                    have HSZ := Lib.hid hsz
                    have HOWN := Lib.hid hown
                    clear hz hb hsz hown
                    go_roundw
                    case rel => exact ⟨m + 1, _, _, by omega, by omega, by go_num, HI2, HB, HSZ, HZ, HOWN⟩
                    case measure => simp [intOf]; omega
              · have hj0 : j = 0 := by omega
                obtain rfl : y = -1 := by omega
                obtain rfl : a = 0 := by rw [← HAT.out, hj0]; rfl
                have hrr3 := hrr2.out
                obtain hc0 | hc1 | hc2 | hc3 | hc4 : c = 0 ∨ c = 1 ∨ c = 2 ∨ c = 3 ∨ c = 4 := by omega
                · subst hc0
                  by_cases hxy : i + 1 = j
                  · exfalso; omega
                  · have n1 : ((i : Int) == (-1 : Int)) = false := by simp <;> omega
                    have n2 : ((i : Int) != (-1 : Int)) = true := by simp <;> omega
                    obtain ⟨e, he⟩ : ∃ e, mx d 0 = e := ⟨_, rfl⟩
                    have he1 : 0 ≤ e ∧ e ≤ 1000 := by rw [← he]; unfold mx; split <;> omega
                    obtain ⟨he1, he2⟩ := he1
                    obtain ⟨vi, hvi⟩ : ∃ vi, V i = vi := ⟨_, rfl⟩
                    obtain ⟨z2, hz2⟩ : ∃ z2, boundZ z (i : Int) ((j : Int) - 1) (vi + e) = z2 := ⟨_, rfl⟩
                    have HI2 : Hid (HasI k z2 V) := by
                      rw [← hz2]
                      exact HI.out.bound hin hjn hxy (by omega) (by rw [HAT.out, hvi]; omega)
                    have HBD : Hid (∀ W : World, Calls Try.prog 22 #[.agg (zc k false z.D), .int .i64 (i : Int), .int .i64 ((-1 : Int)), .int .i64 (vi + e)] W (Ret W (.agg (zc k false z2.D)))) := fun W => by
                      have := bound_any z HI.out.ok.n (i : Int) ((j : Int) - 1) (vi + e) W
                      rw [hz2, Zn.c, Zn.c, HI.out.n, HI.out.none, HI2.out.n, HI2.out.none, hy] at this
                      exact this
                    rw [hvi] at ci hv1 hv2
                    clear hz2 hvi
                    go_wp2
                    refine head0 13 (by kernel_rfl) (by kernel_rfl) (by kernel_rfl) (by kernel_rfl) ?_
                    simp only [List.take_succ_cons, List.take_zero, List.drop_succ_cons, List.drop_zero]
                    (refine o_start ?_; (iterate 13 (first | (refine o_skip rfl rfl rfl ?_) | (refine o_have rfl fun hw => ?_; (first | (refine o_move hw.out _ rfl rfl rfl rfl ?_) | (refine o_pickT hw.out _ _ _ rfl rfl rfl rfl rfl ?_) | (refine o_pickF hw.out _ _ _ rfl rfl rfl rfl rfl ?_) | (refine o_load_z hw.out _ rfl rfl hz rfl rfl ?_) | (refine o_loadc hw.out _ _ rfl rfl ci rfl rfl (by first | exact Try.underlying3 | exact Try.underlying4) rfl ?_) | (refine o_two hw.out _ _ _ _ rfl rfl rfl rfl rfl (v := .int .i64 e) (fun ρ W h1 h2 => by go_simp; done) ?_) | (refine o_bin hw.out _ _ _ _ _ rfl rfl rfl rfl rfl (v := .int .i64 (vi)) (fun W => by go_simp; exact IntWalk.i64_in _ (by omega)) ?_) | (refine o_bin hw.out _ _ _ _ _ rfl rfl rfl rfl rfl (v := .int .i64 (vi + e)) (fun W => by go_simp; exact IntWalk.i64_in _ (by omega)) ?_) | (refine o_bin hw.out _ _ _ _ _ rfl rfl rfl rfl rfl (fun W => by go_simp; first | done | rfl) ?_) | (refine o_un hw.out _ _ _ rfl rfl rfl rfl (fun W => by go_simp; first | done | rfl) ?_) | (refine o_field hw.out _ _ _ rfl rfl rfl rfl (fun W => by go_simp; first | done | rfl) ?_) | (refine o_index hw.out _ _ _ rfl rfl rfl rfl rfl (fun W => by go_simp; first | done | rfl) ?_) | (refine o_conv hw.out _ _ _ rfl rfl rfl rfl (fun W => by go_simp; first | done | rfl) ?_) | (refine o_call hw.out _ _ _ rfl rfl (fun W hW => HBD.out W) (by with_reducible rfl) (by with_reducible rfl) rfl rfl (fun ρ W hρ => by go_simp; done) ?_)); clear hw))); refine o_end ?_; simp only [app, List.set_cons_succ, List.set_cons_zero])
                    intro w8 hb8
                    have hz := hz.on hb8
                    have hown := hown.on hb8
                    have hsz := Nat.le_trans hsz hb8.size
                    have hb := hb.trans (hb8.mono hb.size)
                    clear hb8 HBD
                    go_wp2_with (first
                      | (refine load_z rfl _ rfl rfl hz ?_)
                      | (go_at_call 34; ((with_reducible refine (has_own HI2.out hown).mono ?_); rintro e W9 ⟨rfl, hb5⟩; have hz := hz.on hb5; have hbc := hz.b_cell; have hown := hown.on hb5; have hsz := Nat.le_trans hsz hb5.size; have hb := hb.trans (hb5.mono hb.size); clear hb5))
                      | (refine store_z rfl _ _ rfl rfl rfl hz ?_; intro W10 hz6 hg6 hs6; have hown := hown.only hg6 hglt; have hsz := Nat.le_trans hsz hg6.size; have hb := below_only hb hg6 hb.size (by omega); clear hz; have hz := hz6; clear hz6 hg6 hs6)
                      | (refine store_own rfl _ _ rfl rfl rfl hown hin ?_; intro W11 hown6 hg6; have hz := hz.only hg6 (by omega); have hsz := Nat.le_trans hsz hg6.size; have hb := below_only hb hg6 hb.size (by omega); clear hown; have hown := hown6; clear hown6 hg6)
                      | fail)
                    have HB := Lib.hid hb
                    have HZ := Lib.hid hz
                    have HSZ := Lib.hid hsz
                    have HOWN := Lib.hid hown
                    clear hz hb hsz hown
                    go_roundw
                    case rel => exact ⟨m + 1, _, _, by omega, by omega, by go_num, HI2, HB, HSZ, HZ, HOWN⟩
                    case measure => simp [intOf]; omega
                · subst hc1
                  by_cases hxy : i + 1 = j
                  · exfalso; omega
                  · have n1 : ((i : Int) == (-1 : Int)) = false := by simp <;> omega
                    have n2 : ((i : Int) != (-1 : Int)) = true := by simp <;> omega
                    obtain ⟨e, he⟩ : ∃ e, mx d 0 = e := ⟨_, rfl⟩
                    have he1 : 0 ≤ e ∧ e ≤ 1000 := by rw [← he]; unfold mx; split <;> omega
                    obtain ⟨he1, he2⟩ := he1
                    obtain ⟨vi, hvi⟩ : ∃ vi, V i = vi := ⟨_, rfl⟩
                    obtain ⟨z2, hz2⟩ : ∃ z2, boundZ z (i : Int) ((j : Int) - 1) (vi + e) = z2 := ⟨_, rfl⟩
                    have HI2 : Hid (HasI k z2 V) := by
                      rw [← hz2]
                      exact HI.out.bound hin hjn hxy (by omega) (by rw [HAT.out, hvi]; omega)
                    have HBD : Hid (∀ W : World, Calls Try.prog 22 #[.agg (zc k false z.D), .int .i64 (i : Int), .int .i64 ((-1 : Int)), .int .i64 (vi + e)] W (Ret W (.agg (zc k false z2.D)))) := fun W => by
                      have := bound_any z HI.out.ok.n (i : Int) ((j : Int) - 1) (vi + e) W
                      rw [hz2, Zn.c, Zn.c, HI.out.n, HI.out.none, HI2.out.n, HI2.out.none, hy] at this
                      exact this
                    rw [hvi] at ci hv1 hv2
                    clear hz2 hvi
                    go_wp2
                    refine head0 13 (by kernel_rfl) (by kernel_rfl) (by kernel_rfl) (by kernel_rfl) ?_
                    simp only [List.take_succ_cons, List.take_zero, List.drop_succ_cons, List.drop_zero]
                    (refine o_start ?_; (iterate 13 (first | (refine o_skip rfl rfl rfl ?_) | (refine o_have rfl fun hw => ?_; (first | (refine o_move hw.out _ rfl rfl rfl rfl ?_) | (refine o_pickT hw.out _ _ _ rfl rfl rfl rfl rfl ?_) | (refine o_pickF hw.out _ _ _ rfl rfl rfl rfl rfl ?_) | (refine o_load_z hw.out _ rfl rfl hz rfl rfl ?_) | (refine o_loadc hw.out _ _ rfl rfl ci rfl rfl (by first | exact Try.underlying3 | exact Try.underlying4) rfl ?_) | (refine o_two hw.out _ _ _ _ rfl rfl rfl rfl rfl (v := .int .i64 e) (fun ρ W h1 h2 => by go_simp; done) ?_) | (refine o_bin hw.out _ _ _ _ _ rfl rfl rfl rfl rfl (v := .int .i64 (vi)) (fun W => by go_simp; exact IntWalk.i64_in _ (by omega)) ?_) | (refine o_bin hw.out _ _ _ _ _ rfl rfl rfl rfl rfl (v := .int .i64 (vi + e)) (fun W => by go_simp; exact IntWalk.i64_in _ (by omega)) ?_) | (refine o_bin hw.out _ _ _ _ _ rfl rfl rfl rfl rfl (fun W => by go_simp; first | done | rfl) ?_) | (refine o_un hw.out _ _ _ rfl rfl rfl rfl (fun W => by go_simp; first | done | rfl) ?_) | (refine o_field hw.out _ _ _ rfl rfl rfl rfl (fun W => by go_simp; first | done | rfl) ?_) | (refine o_index hw.out _ _ _ rfl rfl rfl rfl rfl (fun W => by go_simp; first | done | rfl) ?_) | (refine o_conv hw.out _ _ _ rfl rfl rfl rfl (fun W => by go_simp; first | done | rfl) ?_) | (refine o_call hw.out _ _ _ rfl rfl (fun W hW => HBD.out W) (by with_reducible rfl) (by with_reducible rfl) rfl rfl (fun ρ W hρ => by go_simp; done) ?_)); clear hw))); refine o_end ?_; simp only [app, List.set_cons_succ, List.set_cons_zero])
                    intro w8 hb8
                    have hz := hz.on hb8
                    have hown := hown.on hb8
                    have hsz := Nat.le_trans hsz hb8.size
                    have hb := hb.trans (hb8.mono hb.size)
                    clear hb8 HBD
                    go_wp2_with (first
                      | (refine load_z rfl _ rfl rfl hz ?_)
                      | (go_at_call 34; ((with_reducible refine (has_own HI2.out hown).mono ?_); rintro e W9 ⟨rfl, hb5⟩; have hz := hz.on hb5; have hbc := hz.b_cell; have hown := hown.on hb5; have hsz := Nat.le_trans hsz hb5.size; have hb := hb.trans (hb5.mono hb.size); clear hb5))
                      | (refine store_z rfl _ _ rfl rfl rfl hz ?_; intro W10 hz6 hg6 hs6; have hown := hown.only hg6 hglt; have hsz := Nat.le_trans hsz hg6.size; have hb := below_only hb hg6 hb.size (by omega); clear hz; have hz := hz6; clear hz6 hg6 hs6)
                      | (refine store_own rfl _ _ rfl rfl rfl hown hin ?_; intro W11 hown6 hg6; have hz := hz.only hg6 (by omega); have hsz := Nat.le_trans hsz hg6.size; have hb := below_only hb hg6 hb.size (by omega); clear hown; have hown := hown6; clear hown6 hg6)
                      | fail)
                    have HB := Lib.hid hb
                    have HZ := Lib.hid hz
                    have HSZ := Lib.hid hsz
                    have HOWN := Lib.hid hown
                    clear hz hb hsz hown
                    go_roundw
                    case rel => exact ⟨m + 1, _, _, by omega, by omega, by go_num, HI2, HB, HSZ, HZ, HOWN⟩
                    case measure => simp [intOf]; omega
                · subst hc2
                  have HI2 : Hid (HasI k (forgetZ z (i : Int)) (setV V i d)) := HI.out.forget hin (by omega) (by omega)
                  have HFO : Hid (∀ W : World, Calls Try.prog 33 #[.agg (zc k false z.D), .int .i64 (i : Int)] W (Ret W (.agg (zc k false (forgetZ z (i : Int)).D)))) := fun W => by
                    have := forget_any z HI.out.ok.n (i : Int) W
                    rw [Zn.c, Zn.c, HI.out.n, HI.out.none, HI2.out.n, HI2.out.none] at this
                    exact this
                  generalize forgetZ z (i : Int) = z2 at *
                  go_wp2_with (first
                    | (go_at_call 33; ((with_reducible refine (HFO.out _).mono ?_); rintro e W8 ⟨rfl, hb5⟩; have hz := hz.on hb5; have hown := hown.on hb5; have hsz := Nat.le_trans hsz hb5.size; have hb := hb.trans (hb5.mono hb.size); clear hb5))
                    | (refine load_z rfl _ rfl rfl hz ?_)
                    | (go_at_call 34; ((with_reducible refine (has_own HI2.out hown).mono ?_); rintro e W9 ⟨rfl, hb5⟩; have hz := hz.on hb5; have hbc := hz.b_cell; have hown := hown.on hb5; have hsz := Nat.le_trans hsz hb5.size; have hb := hb.trans (hb5.mono hb.size); clear hb5))
                    | (refine store_z rfl _ _ rfl rfl rfl hz ?_; intro W10 hz6 hg6 hs6; have hown := hown.only hg6 hglt; have hsz := Nat.le_trans hsz hg6.size; have hb := below_only hb hg6 hb.size (by omega); clear hz; have hz := hz6; clear hz6 hg6 hs6)
                    | (refine store_own rfl _ _ rfl rfl rfl hown hin ?_; intro W11 hown6 hg6; have hz := hz.only hg6 (by omega); have hsz := Nat.le_trans hsz hg6.size; have hb := below_only hb hg6 hb.size (by omega); clear hown; have hown := hown6; clear hown6 hg6)
                    | fail)
                  have HB := Lib.hid hb
                  have HZ := Lib.hid hz
                  have HSZ := Lib.hid hsz
                  have HOWN := Lib.hid hown
                  clear hz hb hsz hown
                  go_roundw
                  case rel => exact ⟨m + 1, _, _, by omega, by omega, by go_num, HI2, HB, HSZ, HZ, HOWN⟩
                  case measure => simp [intOf]; omega
                · subst hc3
                  by_cases hlo : -2147483648 ≤ d
                  · by_cases hhi : d ≤ 2147483647
                    · have HI2 : Hid (HasI k (copyZ z (i : Int) ((j : Int) - 1) d) (setV V i (d))) := by
                        have := HI.out.copy hin hjn (d := d) ⟨by omega, by omega⟩ (by rw [HAT.out]; omega) (by rw [HAT.out]; omega)
                        rw [HAT.out, Int.zero_add] at this
                        exact this
                      have HCO : Hid (∀ W : World, Calls Try.prog 23 #[.agg (zc k false z.D), .int .i64 (i : Int), .int .i64 ((-1 : Int)), .int .i64 d] W (Ret W (.agg (zc k false (copyZ z (i : Int) ((j : Int) - 1) d).D)))) := fun W => by
                        have := copy_any z HI.out.ok.n (i : Int) ((j : Int) - 1) d W
                        rw [Zn.c, Zn.c, HI.out.n, HI.out.none, HI2.out.n, HI2.out.none] at this
                        rw [hy] at this ⊢
                        exact this
                      generalize copyZ z (i : Int) ((j : Int) - 1) d = z2 at *
                      skip
                      go_wp2_with (first
                        | (go_at_call 23; ((with_reducible refine (HCO.out _).mono ?_); rintro e W8 ⟨rfl, hb5⟩; have hz := hz.on hb5; have hown := hown.on hb5; have hsz := Nat.le_trans hsz hb5.size; have hb := hb.trans (hb5.mono hb.size); clear hb5))
                        | (refine load_z rfl _ rfl rfl hz ?_)
                        | (go_at_call 34; ((with_reducible refine (has_own HI2.out hown).mono ?_); rintro e W9 ⟨rfl, hb5⟩; have hz := hz.on hb5; have hbc := hz.b_cell; have hown := hown.on hb5; have hsz := Nat.le_trans hsz hb5.size; have hb := hb.trans (hb5.mono hb.size); clear hb5))
                        | (refine store_z rfl _ _ rfl rfl rfl hz ?_; intro W10 hz6 hg6 hs6; have hown := hown.only hg6 hglt; have hsz := Nat.le_trans hsz hg6.size; have hb := below_only hb hg6 hb.size (by omega); clear hz; have hz := hz6; clear hz6 hg6 hs6)
                        | (refine store_own rfl _ _ rfl rfl rfl hown hin ?_; intro W11 hown6 hg6; have hz := hz.only hg6 (by omega); have hsz := Nat.le_trans hsz hg6.size; have hb := below_only hb hg6 hb.size (by omega); clear hown; have hown := hown6; clear hown6 hg6)
                        | fail)
                      have HB := Lib.hid hb
                      have HZ := Lib.hid hz
                      have HSZ := Lib.hid hsz
                      have HOWN := Lib.hid hown
                      clear hz hb hsz hown
                      go_roundw
                      case rel => exact ⟨m + 1, _, _, by omega, by omega, by go_num, HI2, HB, HSZ, HZ, HOWN⟩
                      case measure => simp [intOf]; omega
                    · exfalso; omega
                  · exfalso; omega
                · subst hc4
                  by_cases hlo : -2147483648 ≤ d
                  · by_cases hhi : d ≤ 2147483647
                    · have HI2 : Hid (HasI k (copyZ z (i : Int) ((j : Int) - 1) d) (setV V i (d))) := by
                        have := HI.out.copy hin hjn (d := d) ⟨by omega, by omega⟩ (by rw [HAT.out]; omega) (by rw [HAT.out]; omega)
                        rw [HAT.out, Int.zero_add] at this
                        exact this
                      have HCO : Hid (∀ W : World, Calls Try.prog 23 #[.agg (zc k false z.D), .int .i64 (i : Int), .int .i64 ((-1 : Int)), .int .i64 d] W (Ret W (.agg (zc k false (copyZ z (i : Int) ((j : Int) - 1) d).D)))) := fun W => by
                        have := copy_any z HI.out.ok.n (i : Int) ((j : Int) - 1) d W
                        rw [Zn.c, Zn.c, HI.out.n, HI.out.none, HI2.out.n, HI2.out.none] at this
                        rw [hy] at this ⊢
                        exact this
                      generalize copyZ z (i : Int) ((j : Int) - 1) d = z2 at *
                      skip
                      go_wp2_with (first
                        | (go_at_call 23; ((with_reducible refine (HCO.out _).mono ?_); rintro e W8 ⟨rfl, hb5⟩; have hz := hz.on hb5; have hown := hown.on hb5; have hsz := Nat.le_trans hsz hb5.size; have hb := hb.trans (hb5.mono hb.size); clear hb5))
                        | (refine load_z rfl _ rfl rfl hz ?_)
                        | (go_at_call 34; ((with_reducible refine (has_own HI2.out hown).mono ?_); rintro e W9 ⟨rfl, hb5⟩; have hz := hz.on hb5; have hbc := hz.b_cell; have hown := hown.on hb5; have hsz := Nat.le_trans hsz hb5.size; have hb := hb.trans (hb5.mono hb.size); clear hb5))
                        | (refine store_z rfl _ _ rfl rfl rfl hz ?_; intro W10 hz6 hg6 hs6; have hown := hown.only hg6 hglt; have hsz := Nat.le_trans hsz hg6.size; have hb := below_only hb hg6 hb.size (by omega); clear hz; have hz := hz6; clear hz6 hg6 hs6)
                        | (refine store_own rfl _ _ rfl rfl rfl hown hin ?_; intro W11 hown6 hg6; have hz := hz.only hg6 (by omega); have hsz := Nat.le_trans hsz hg6.size; have hb := below_only hb hg6 hb.size (by omega); clear hown; have hown := hown6; clear hown6 hg6)
                        | fail)
                      have HB := Lib.hid hb
                      have HZ := Lib.hid hz
                      have HSZ := Lib.hid hsz
                      have HOWN := Lib.hid hown
                      clear hz hb hsz hown
                      go_roundw
                      case rel => exact ⟨m + 1, _, _, by omega, by omega, by go_num, HI2, HB, HSZ, HZ, HOWN⟩
                      case measure => simp [intOf]; omega
                    · exfalso; omega
                  · exfalso; omega
            · obtain rfl : m = len := by omega
              have hz := HZ.out
              have hown := HOWN.out
              have hb := HB.out
              clear HZ HOWN HB
              go_wp2
              apply region_LG (n := 17) (h := wr.heap.size) (Sx := fun t => Nat.beq t 8 || Nat.beq t 10 || Nat.beq t 11 || Nat.beq t 12 || Nat.beq t 13) (Ψ := HasP wr.heap.size k V (setV V k 1))
              case hh => exact Nat.le_refl _
              case hm => kernel_rfl
              case hB => kernel_rfl
              case hT => kernel_rfl
              case stab => exact fun Λ ρ W W' t v ht hb' _ hD => hD.stab (fun e => by subst e; exact absurd ht (by decide)) (fun e => by subst e; exact absurd ht (by decide)) (fun e => by subst e; exact absurd ht (by decide)) (fun e => by subst e; exact absurd ht (by decide)) hb'
              case h0 => exact fun W hW => HasP.zero
              simp only [List.take_succ_cons, List.take_zero, List.drop_succ_cons, List.drop_zero]
              iterate 8 ((apply g_det; (exact rfl); (exact rfl); (exact rfl); (exact rfl); focus (intro W0 hW0; (first | (refine o_skip rfl rfl rfl ?_) | (refine o_have rfl fun hw => ?_; (first | (refine o_assign hw.out _ rfl rfl rfl rfl ?_) | (refine o_move hw.out _ rfl rfl rfl rfl ?_) | (refine o_pickT hw.out _ _ _ rfl rfl rfl rfl rfl ?_) | (refine o_pickF hw.out _ _ _ rfl rfl rfl rfl rfl ?_) | (refine o_load_z hw.out _ rfl rfl (hz.on hW0) rfl rfl ?_) | (refine o_bin hw.out _ _ _ _ _ rfl rfl rfl rfl rfl (fun W => by go_simp; first | done | rfl) ?_) | (refine o_un hw.out _ _ _ rfl rfl rfl rfl (fun W => by go_simp; first | done | rfl) ?_) | (refine o_field hw.out _ _ _ rfl rfl rfl rfl (fun W => by go_simp; first | done | rfl) ?_) | (refine o_index hw.out _ _ _ rfl rfl rfl rfl rfl (fun W => by go_simp; first | done | rfl) ?_) | (refine o_conv hw.out _ _ _ rfl rfl rfl rfl (fun W => by go_simp; first | done | rfl) ?_) | (refine o_call hw.out _ _ _ rfl rfl (fun W hW => copies_any W) (by with_reducible rfl) (by with_reducible rfl) rfl rfl (fun ρ W hρ => by go_simp; done) ?_) | (refine o_call hw.out _ _ _ rfl rfl (fun W hW => has_own HI.out ((hown.on hW0).on hW)) (by with_reducible rfl) (by with_reducible rfl) rfl rfl (fun ρ W hρ => by go_simp; done) ?_)))); exact g_lk rfl)))
              apply g_spc (A := fun v => ∃ q, v = slc q 0)
              case hv => exact ⟨_, 0, rfl⟩
              case h1 =>
                intro hst Λ ρ W hW hD hk hdep hval
                refine step_run hst rfl (u := slc W.heap.size 0) (W' := W.alloc (.cells #[] 3)) ?_ ⟨⟨_, rfl⟩, hW.alloc hW.size _, hD.s8 hk hW.size⟩
                unfold execOp
                go_simp
                first | done | rfl
              rintro _ ⟨q8, rfl⟩
              dsimp only [putO]
              (apply g_det; (exact rfl); (exact rfl); (exact rfl); (exact rfl); focus (intro W0 hW0; (first | (refine o_skip rfl rfl rfl ?_) | (refine o_have rfl fun hw => ?_; (first | (refine o_assign hw.out _ rfl rfl rfl rfl ?_) | (refine o_move hw.out _ rfl rfl rfl rfl ?_) | (refine o_pickT hw.out _ _ _ rfl rfl rfl rfl rfl ?_) | (refine o_pickF hw.out _ _ _ rfl rfl rfl rfl rfl ?_) | (refine o_bin hw.out _ _ _ _ _ rfl rfl rfl rfl rfl (fun W => by go_simp; first | done | rfl) ?_) | (refine o_un hw.out _ _ _ rfl rfl rfl rfl (fun W => by go_simp; first | done | rfl) ?_) | (refine o_field hw.out _ _ _ rfl rfl rfl rfl (fun W => by go_simp; first | done | rfl) ?_) | (refine o_index hw.out _ _ _ rfl rfl rfl rfl rfl (fun W => by go_simp; first | done | rfl) ?_) | (refine o_conv hw.out _ _ _ rfl rfl rfl rfl (fun W => by go_simp; first | done | rfl) ?_)))); exact g_lk rfl))
              apply g_spc (A := fun v => ∃ ad c, v = .slice ad k c)
              case hv => exact ⟨_, none, 0, rfl⟩
              case h1 =>
                intro hst Λ ρ W hW hD hk hdep hval
                have h8 : Λ 8 = true := hdep { on := 8, ground := .data } (by simp) rfl
                have he : slc q8 0 = ρ 8 := by have := hval 8 _ 153 (by omega) rfl rfl h8; injection this
                obtain ⟨gg, a1, a2, _⟩ := hD.1 h8 hk
                have hgg := slc_inj (he.trans a1)
                subst hgg
                refine step_append_i hst rfl _ _ rfl wr.heap.size rfl a2 rfl (U := V) (V' := V) (m := k) (fun t ht => (hown.on hW).cell t ht) (by omega) hW.size (fun t ht => by omega) (fun t _ => by rw [Nat.zero_add]) fun v' W' ho hg hor => ?_
                rw [Nat.zero_add] at ho
                obtain ⟨ad, c, hv', _, _⟩ := ho.sl
                exact ⟨⟨ad, c, hv'⟩, below_only hW (show W.grownBy W' (some q8) from hg) hW.size a2.slc_lt.2, hD.s10 hk h8 ho (by rw [a1]; exact hg)⟩
              rintro _ ⟨ad10, c10, rfl⟩
              dsimp only [putO]
              apply g_spc (A := fun v => ∃ q, v = slc q 1)
              case hv => exact ⟨_, 0, rfl⟩
              case h1 =>
                intro hst Λ ρ W hW hD hk hdep hval
                refine step_run hst rfl (u := slc W.heap.size 1) (W' := W.alloc (.cells #[.int .i64 1] 3)) ?_ ⟨⟨_, rfl⟩, hW.alloc hW.size _, hD.s11 hk⟩
                unfold execOp
                go_simp
                first | done | rfl
              rintro _ ⟨q11, rfl⟩
              dsimp only [putO]
              apply g_spc (A := fun v => ∃ ad c, v = .slice ad (k + 1) c)
              case hv => exact ⟨_, none, 0, rfl⟩
              case h1 =>
                intro hst Λ ρ W hW hD hk hdep hval
                have h10 : Λ 10 = true := hdep { on := 10, ground := .data } (by simp) rfl
                have h11 : Λ 11 = true := hdep { on := 11, ground := .data } (by simp) rfl
                have he10 : Value.slice ad10 k c10 = ρ 10 := by have := hval 10 _ 155 (by omega) rfl rfl h10; injection this
                have he11 : slc q11 1 = ρ 11 := by have := hval 11 _ 156 (by omega) rfl rfl h11; injection this
                have own10 := hD.2.1 h10 hk
                rw [← he10] at own10
                obtain ⟨gg, b1, b2⟩ := hD.2.2.1 h11 hk
                have hgg := slc_inj (he11.trans b1)
                subst hgg
                refine step_append_i hst rfl _ _ rfl wr.heap.size rfl own10 rfl (U := fun _ => 1) (V' := setV V k 1) (m := 1) (fun t ht => ?_) (by omega) hW.size (fun t ht => ?_) (fun t ht => ?_) fun v' W' ho hg hor => ?_
                · obtain rfl : t = 0 := by omega
                  exact b2
                · unfold setV; rw [if_neg (by omega)]
                · obtain rfl : t = 0 := by omega
                  unfold setV; rw [if_pos (by omega)]
                · obtain ⟨ad, c, hv', _, _⟩ := ho.sl
                  exact ⟨⟨ad, c, hv'⟩, hW.grown hg hW.size (fun q hq => (World.ownsRow.lt own10 q hq).1), hD.s12 h10 h11 ho⟩
              rintro _ ⟨ad12, c12, rfl⟩
              dsimp only [putO]
              apply g_spc (A := fun v => v = .bool false)
              case hv => exact ⟨_, rfl⟩
              case h1 =>
                intro hst Λ ρ W hW hD hk hdep hval
                have h12 : Λ 12 = true := hdep { on := 12, ground := .data } (by simp) rfl
                have he12 : Value.slice ad12 (k + 1) c12 = ρ 12 := by have := hval 12 _ 157 (by omega) rfl rfl h12; injection this
                have own12 := hD.2.2.2.1 h12
                rw [← he12] at own12
                refine step_call hst rfl _ _ _ rfl rfl (fun ρ W hρ => by go_simp; done) ?_
                exact (has_long HI.out own12).mono fun e W' ⟨g1, g2⟩ => ⟨_, g1, rfl, hW.trans (g2.mono hW.size), hD.stab (by decide) (by decide) (by decide) (by decide) g2⟩
              rintro _ rfl
              dsimp only [putO]
              iterate 3 ((apply g_det; (exact rfl); (exact rfl); (exact rfl); (exact rfl); focus (intro W0 hW0; (first | (refine o_skip rfl rfl rfl ?_) | (refine o_have rfl fun hw => ?_; (first | (refine o_assign hw.out _ rfl rfl rfl rfl ?_) | (refine o_move hw.out _ rfl rfl rfl rfl ?_) | (refine o_pickT hw.out _ _ _ rfl rfl rfl rfl rfl ?_) | (refine o_pickF hw.out _ _ _ rfl rfl rfl rfl rfl ?_) | (refine o_bin hw.out _ _ _ _ _ rfl rfl rfl rfl rfl (fun W => by go_simp; first | done | rfl) ?_) | (refine o_un hw.out _ _ _ rfl rfl rfl rfl (fun W => by go_simp; first | done | rfl) ?_) | (refine o_field hw.out _ _ _ rfl rfl rfl rfl (fun W => by go_simp; first | done | rfl) ?_) | (refine o_index hw.out _ _ _ rfl rfl rfl rfl rfl (fun W => by go_simp; first | done | rfl) ?_) | (refine o_conv hw.out _ _ _ rfl rfl rfl rfl (fun W => by go_simp; first | done | rfl) ?_)))); exact g_lk rfl)))
              apply g_end
              intro w1 Λ ρ hW _ _ _
              simp only [fr, app, slc, List.set_cons_succ, List.set_cons_zero]
              go_wp2
              go_ret
              exact ⟨rfl, hb.trans (hW.mono hb.size)⟩
          · obtain rfl : m = 20 := by omega
            by_cases hll : (20 : Int) < (len : Int)
            · have hz := HZ.out
              have hown := HOWN.out
              have hb := HB.out
              clear HZ HOWN HB
              go_wp2
              apply region_LG (n := 17) (h := wr.heap.size) (Sx := fun t => Nat.beq t 8 || Nat.beq t 10 || Nat.beq t 11 || Nat.beq t 12 || Nat.beq t 13) (Ψ := HasP wr.heap.size k V (setV V k 1))
              case hh => exact Nat.le_refl _
              case hm => kernel_rfl
              case hB => kernel_rfl
              case hT => kernel_rfl
              case stab => exact fun Λ ρ W W' t v ht hb' _ hD => hD.stab (fun e => by subst e; exact absurd ht (by decide)) (fun e => by subst e; exact absurd ht (by decide)) (fun e => by subst e; exact absurd ht (by decide)) (fun e => by subst e; exact absurd ht (by decide)) hb'
              case h0 => exact fun W hW => HasP.zero
              simp only [List.take_succ_cons, List.take_zero, List.drop_succ_cons, List.drop_zero]
              iterate 8 ((apply g_det; (exact rfl); (exact rfl); (exact rfl); (exact rfl); focus (intro W0 hW0; (first | (refine o_skip rfl rfl rfl ?_) | (refine o_have rfl fun hw => ?_; (first | (refine o_assign hw.out _ rfl rfl rfl rfl ?_) | (refine o_move hw.out _ rfl rfl rfl rfl ?_) | (refine o_pickT hw.out _ _ _ rfl rfl rfl rfl rfl ?_) | (refine o_pickF hw.out _ _ _ rfl rfl rfl rfl rfl ?_) | (refine o_load_z hw.out _ rfl rfl (hz.on hW0) rfl rfl ?_) | (refine o_bin hw.out _ _ _ _ _ rfl rfl rfl rfl rfl (fun W => by go_simp; first | done | rfl) ?_) | (refine o_un hw.out _ _ _ rfl rfl rfl rfl (fun W => by go_simp; first | done | rfl) ?_) | (refine o_field hw.out _ _ _ rfl rfl rfl rfl (fun W => by go_simp; first | done | rfl) ?_) | (refine o_index hw.out _ _ _ rfl rfl rfl rfl rfl (fun W => by go_simp; first | done | rfl) ?_) | (refine o_conv hw.out _ _ _ rfl rfl rfl rfl (fun W => by go_simp; first | done | rfl) ?_) | (refine o_call hw.out _ _ _ rfl rfl (fun W hW => copies_any W) (by with_reducible rfl) (by with_reducible rfl) rfl rfl (fun ρ W hρ => by go_simp; done) ?_) | (refine o_call hw.out _ _ _ rfl rfl (fun W hW => has_own HI.out ((hown.on hW0).on hW)) (by with_reducible rfl) (by with_reducible rfl) rfl rfl (fun ρ W hρ => by go_simp; done) ?_)))); exact g_lk rfl)))
              apply g_spc (A := fun v => ∃ q, v = slc q 0)
              case hv => exact ⟨_, 0, rfl⟩
              case h1 =>
                intro hst Λ ρ W hW hD hk hdep hval
                refine step_run hst rfl (u := slc W.heap.size 0) (W' := W.alloc (.cells #[] 3)) ?_ ⟨⟨_, rfl⟩, hW.alloc hW.size _, hD.s8 hk hW.size⟩
                unfold execOp
                go_simp
                first | done | rfl
              rintro _ ⟨q8, rfl⟩
              dsimp only [putO]
              (apply g_det; (exact rfl); (exact rfl); (exact rfl); (exact rfl); focus (intro W0 hW0; (first | (refine o_skip rfl rfl rfl ?_) | (refine o_have rfl fun hw => ?_; (first | (refine o_assign hw.out _ rfl rfl rfl rfl ?_) | (refine o_move hw.out _ rfl rfl rfl rfl ?_) | (refine o_pickT hw.out _ _ _ rfl rfl rfl rfl rfl ?_) | (refine o_pickF hw.out _ _ _ rfl rfl rfl rfl rfl ?_) | (refine o_bin hw.out _ _ _ _ _ rfl rfl rfl rfl rfl (fun W => by go_simp; first | done | rfl) ?_) | (refine o_un hw.out _ _ _ rfl rfl rfl rfl (fun W => by go_simp; first | done | rfl) ?_) | (refine o_field hw.out _ _ _ rfl rfl rfl rfl (fun W => by go_simp; first | done | rfl) ?_) | (refine o_index hw.out _ _ _ rfl rfl rfl rfl rfl (fun W => by go_simp; first | done | rfl) ?_) | (refine o_conv hw.out _ _ _ rfl rfl rfl rfl (fun W => by go_simp; first | done | rfl) ?_)))); exact g_lk rfl))
              apply g_spc (A := fun v => ∃ ad c, v = .slice ad k c)
              case hv => exact ⟨_, none, 0, rfl⟩
              case h1 =>
                intro hst Λ ρ W hW hD hk hdep hval
                have h8 : Λ 8 = true := hdep { on := 8, ground := .data } (by simp) rfl
                have he : slc q8 0 = ρ 8 := by have := hval 8 _ 153 (by omega) rfl rfl h8; injection this
                obtain ⟨gg, a1, a2, _⟩ := hD.1 h8 hk
                have hgg := slc_inj (he.trans a1)
                subst hgg
                refine step_append_i hst rfl _ _ rfl wr.heap.size rfl a2 rfl (U := V) (V' := V) (m := k) (fun t ht => (hown.on hW).cell t ht) (by omega) hW.size (fun t ht => by omega) (fun t _ => by rw [Nat.zero_add]) fun v' W' ho hg hor => ?_
                rw [Nat.zero_add] at ho
                obtain ⟨ad, c, hv', _, _⟩ := ho.sl
                exact ⟨⟨ad, c, hv'⟩, below_only hW (show W.grownBy W' (some q8) from hg) hW.size a2.slc_lt.2, hD.s10 hk h8 ho (by rw [a1]; exact hg)⟩
              rintro _ ⟨ad10, c10, rfl⟩
              dsimp only [putO]
              apply g_spc (A := fun v => ∃ q, v = slc q 1)
              case hv => exact ⟨_, 0, rfl⟩
              case h1 =>
                intro hst Λ ρ W hW hD hk hdep hval
                refine step_run hst rfl (u := slc W.heap.size 1) (W' := W.alloc (.cells #[.int .i64 1] 3)) ?_ ⟨⟨_, rfl⟩, hW.alloc hW.size _, hD.s11 hk⟩
                unfold execOp
                go_simp
                first | done | rfl
              rintro _ ⟨q11, rfl⟩
              dsimp only [putO]
              apply g_spc (A := fun v => ∃ ad c, v = .slice ad (k + 1) c)
              case hv => exact ⟨_, none, 0, rfl⟩
              case h1 =>
                intro hst Λ ρ W hW hD hk hdep hval
                have h10 : Λ 10 = true := hdep { on := 10, ground := .data } (by simp) rfl
                have h11 : Λ 11 = true := hdep { on := 11, ground := .data } (by simp) rfl
                have he10 : Value.slice ad10 k c10 = ρ 10 := by have := hval 10 _ 155 (by omega) rfl rfl h10; injection this
                have he11 : slc q11 1 = ρ 11 := by have := hval 11 _ 156 (by omega) rfl rfl h11; injection this
                have own10 := hD.2.1 h10 hk
                rw [← he10] at own10
                obtain ⟨gg, b1, b2⟩ := hD.2.2.1 h11 hk
                have hgg := slc_inj (he11.trans b1)
                subst hgg
                refine step_append_i hst rfl _ _ rfl wr.heap.size rfl own10 rfl (U := fun _ => 1) (V' := setV V k 1) (m := 1) (fun t ht => ?_) (by omega) hW.size (fun t ht => ?_) (fun t ht => ?_) fun v' W' ho hg hor => ?_
                · obtain rfl : t = 0 := by omega
                  exact b2
                · unfold setV; rw [if_neg (by omega)]
                · obtain rfl : t = 0 := by omega
                  unfold setV; rw [if_pos (by omega)]
                · obtain ⟨ad, c, hv', _, _⟩ := ho.sl
                  exact ⟨⟨ad, c, hv'⟩, hW.grown hg hW.size (fun q hq => (World.ownsRow.lt own10 q hq).1), hD.s12 h10 h11 ho⟩
              rintro _ ⟨ad12, c12, rfl⟩
              dsimp only [putO]
              apply g_spc (A := fun v => v = .bool false)
              case hv => exact ⟨_, rfl⟩
              case h1 =>
                intro hst Λ ρ W hW hD hk hdep hval
                have h12 : Λ 12 = true := hdep { on := 12, ground := .data } (by simp) rfl
                have he12 : Value.slice ad12 (k + 1) c12 = ρ 12 := by have := hval 12 _ 157 (by omega) rfl rfl h12; injection this
                have own12 := hD.2.2.2.1 h12
                rw [← he12] at own12
                refine step_call hst rfl _ _ _ rfl rfl (fun ρ W hρ => by go_simp; done) ?_
                exact (has_long HI.out own12).mono fun e W' ⟨g1, g2⟩ => ⟨_, g1, rfl, hW.trans (g2.mono hW.size), hD.stab (by decide) (by decide) (by decide) (by decide) g2⟩
              rintro _ rfl
              dsimp only [putO]
              iterate 3 ((apply g_det; (exact rfl); (exact rfl); (exact rfl); (exact rfl); focus (intro W0 hW0; (first | (refine o_skip rfl rfl rfl ?_) | (refine o_have rfl fun hw => ?_; (first | (refine o_assign hw.out _ rfl rfl rfl rfl ?_) | (refine o_move hw.out _ rfl rfl rfl rfl ?_) | (refine o_pickT hw.out _ _ _ rfl rfl rfl rfl rfl ?_) | (refine o_pickF hw.out _ _ _ rfl rfl rfl rfl rfl ?_) | (refine o_bin hw.out _ _ _ _ _ rfl rfl rfl rfl rfl (fun W => by go_simp; first | done | rfl) ?_) | (refine o_un hw.out _ _ _ rfl rfl rfl rfl (fun W => by go_simp; first | done | rfl) ?_) | (refine o_field hw.out _ _ _ rfl rfl rfl rfl (fun W => by go_simp; first | done | rfl) ?_) | (refine o_index hw.out _ _ _ rfl rfl rfl rfl rfl (fun W => by go_simp; first | done | rfl) ?_) | (refine o_conv hw.out _ _ _ rfl rfl rfl rfl (fun W => by go_simp; first | done | rfl) ?_)))); exact g_lk rfl)))
              apply g_end
              intro w1 Λ ρ hW _ _ _
              simp only [fr, app, slc, List.set_cons_succ, List.set_cons_zero]
              go_wp2
              go_ret
              exact ⟨rfl, hb.trans (hW.mono hb.size)⟩
            · have hz := HZ.out
              have hown := HOWN.out
              have hb := HB.out
              clear HZ HOWN HB
              go_wp2
              apply region_LG (n := 17) (h := wr.heap.size) (Sx := fun t => Nat.beq t 8 || Nat.beq t 10 || Nat.beq t 11 || Nat.beq t 12 || Nat.beq t 13) (Ψ := HasP wr.heap.size k V (setV V k 1))
              case hh => exact Nat.le_refl _
              case hm => kernel_rfl
              case hB => kernel_rfl
              case hT => kernel_rfl
              case stab => exact fun Λ ρ W W' t v ht hb' _ hD => hD.stab (fun e => by subst e; exact absurd ht (by decide)) (fun e => by subst e; exact absurd ht (by decide)) (fun e => by subst e; exact absurd ht (by decide)) (fun e => by subst e; exact absurd ht (by decide)) hb'
              case h0 => exact fun W hW => HasP.zero
              simp only [List.take_succ_cons, List.take_zero, List.drop_succ_cons, List.drop_zero]
              iterate 8 ((apply g_det; (exact rfl); (exact rfl); (exact rfl); (exact rfl); focus (intro W0 hW0; (first | (refine o_skip rfl rfl rfl ?_) | (refine o_have rfl fun hw => ?_; (first | (refine o_assign hw.out _ rfl rfl rfl rfl ?_) | (refine o_move hw.out _ rfl rfl rfl rfl ?_) | (refine o_pickT hw.out _ _ _ rfl rfl rfl rfl rfl ?_) | (refine o_pickF hw.out _ _ _ rfl rfl rfl rfl rfl ?_) | (refine o_load_z hw.out _ rfl rfl (hz.on hW0) rfl rfl ?_) | (refine o_bin hw.out _ _ _ _ _ rfl rfl rfl rfl rfl (fun W => by go_simp; first | done | rfl) ?_) | (refine o_un hw.out _ _ _ rfl rfl rfl rfl (fun W => by go_simp; first | done | rfl) ?_) | (refine o_field hw.out _ _ _ rfl rfl rfl rfl (fun W => by go_simp; first | done | rfl) ?_) | (refine o_index hw.out _ _ _ rfl rfl rfl rfl rfl (fun W => by go_simp; first | done | rfl) ?_) | (refine o_conv hw.out _ _ _ rfl rfl rfl rfl (fun W => by go_simp; first | done | rfl) ?_) | (refine o_call hw.out _ _ _ rfl rfl (fun W hW => copies_any W) (by with_reducible rfl) (by with_reducible rfl) rfl rfl (fun ρ W hρ => by go_simp; done) ?_) | (refine o_call hw.out _ _ _ rfl rfl (fun W hW => has_own HI.out ((hown.on hW0).on hW)) (by with_reducible rfl) (by with_reducible rfl) rfl rfl (fun ρ W hρ => by go_simp; done) ?_)))); exact g_lk rfl)))
              apply g_spc (A := fun v => ∃ q, v = slc q 0)
              case hv => exact ⟨_, 0, rfl⟩
              case h1 =>
                intro hst Λ ρ W hW hD hk hdep hval
                refine step_run hst rfl (u := slc W.heap.size 0) (W' := W.alloc (.cells #[] 3)) ?_ ⟨⟨_, rfl⟩, hW.alloc hW.size _, hD.s8 hk hW.size⟩
                unfold execOp
                go_simp
                first | done | rfl
              rintro _ ⟨q8, rfl⟩
              dsimp only [putO]
              (apply g_det; (exact rfl); (exact rfl); (exact rfl); (exact rfl); focus (intro W0 hW0; (first | (refine o_skip rfl rfl rfl ?_) | (refine o_have rfl fun hw => ?_; (first | (refine o_assign hw.out _ rfl rfl rfl rfl ?_) | (refine o_move hw.out _ rfl rfl rfl rfl ?_) | (refine o_pickT hw.out _ _ _ rfl rfl rfl rfl rfl ?_) | (refine o_pickF hw.out _ _ _ rfl rfl rfl rfl rfl ?_) | (refine o_bin hw.out _ _ _ _ _ rfl rfl rfl rfl rfl (fun W => by go_simp; first | done | rfl) ?_) | (refine o_un hw.out _ _ _ rfl rfl rfl rfl (fun W => by go_simp; first | done | rfl) ?_) | (refine o_field hw.out _ _ _ rfl rfl rfl rfl (fun W => by go_simp; first | done | rfl) ?_) | (refine o_index hw.out _ _ _ rfl rfl rfl rfl rfl (fun W => by go_simp; first | done | rfl) ?_) | (refine o_conv hw.out _ _ _ rfl rfl rfl rfl (fun W => by go_simp; first | done | rfl) ?_)))); exact g_lk rfl))
              apply g_spc (A := fun v => ∃ ad c, v = .slice ad k c)
              case hv => exact ⟨_, none, 0, rfl⟩
              case h1 =>
                intro hst Λ ρ W hW hD hk hdep hval
                have h8 : Λ 8 = true := hdep { on := 8, ground := .data } (by simp) rfl
                have he : slc q8 0 = ρ 8 := by have := hval 8 _ 153 (by omega) rfl rfl h8; injection this
                obtain ⟨gg, a1, a2, _⟩ := hD.1 h8 hk
                have hgg := slc_inj (he.trans a1)
                subst hgg
                refine step_append_i hst rfl _ _ rfl wr.heap.size rfl a2 rfl (U := V) (V' := V) (m := k) (fun t ht => (hown.on hW).cell t ht) (by omega) hW.size (fun t ht => by omega) (fun t _ => by rw [Nat.zero_add]) fun v' W' ho hg hor => ?_
                rw [Nat.zero_add] at ho
                obtain ⟨ad, c, hv', _, _⟩ := ho.sl
                exact ⟨⟨ad, c, hv'⟩, below_only hW (show W.grownBy W' (some q8) from hg) hW.size a2.slc_lt.2, hD.s10 hk h8 ho (by rw [a1]; exact hg)⟩
              rintro _ ⟨ad10, c10, rfl⟩
              dsimp only [putO]
              apply g_spc (A := fun v => ∃ q, v = slc q 1)
              case hv => exact ⟨_, 0, rfl⟩
              case h1 =>
                intro hst Λ ρ W hW hD hk hdep hval
                refine step_run hst rfl (u := slc W.heap.size 1) (W' := W.alloc (.cells #[.int .i64 1] 3)) ?_ ⟨⟨_, rfl⟩, hW.alloc hW.size _, hD.s11 hk⟩
                unfold execOp
                go_simp
                first | done | rfl
              rintro _ ⟨q11, rfl⟩
              dsimp only [putO]
              apply g_spc (A := fun v => ∃ ad c, v = .slice ad (k + 1) c)
              case hv => exact ⟨_, none, 0, rfl⟩
              case h1 =>
                intro hst Λ ρ W hW hD hk hdep hval
                have h10 : Λ 10 = true := hdep { on := 10, ground := .data } (by simp) rfl
                have h11 : Λ 11 = true := hdep { on := 11, ground := .data } (by simp) rfl
                have he10 : Value.slice ad10 k c10 = ρ 10 := by have := hval 10 _ 155 (by omega) rfl rfl h10; injection this
                have he11 : slc q11 1 = ρ 11 := by have := hval 11 _ 156 (by omega) rfl rfl h11; injection this
                have own10 := hD.2.1 h10 hk
                rw [← he10] at own10
                obtain ⟨gg, b1, b2⟩ := hD.2.2.1 h11 hk
                have hgg := slc_inj (he11.trans b1)
                subst hgg
                refine step_append_i hst rfl _ _ rfl wr.heap.size rfl own10 rfl (U := fun _ => 1) (V' := setV V k 1) (m := 1) (fun t ht => ?_) (by omega) hW.size (fun t ht => ?_) (fun t ht => ?_) fun v' W' ho hg hor => ?_
                · obtain rfl : t = 0 := by omega
                  exact b2
                · unfold setV; rw [if_neg (by omega)]
                · obtain rfl : t = 0 := by omega
                  unfold setV; rw [if_pos (by omega)]
                · obtain ⟨ad, c, hv', _, _⟩ := ho.sl
                  exact ⟨⟨ad, c, hv'⟩, hW.grown hg hW.size (fun q hq => (World.ownsRow.lt own10 q hq).1), hD.s12 h10 h11 ho⟩
              rintro _ ⟨ad12, c12, rfl⟩
              dsimp only [putO]
              apply g_spc (A := fun v => v = .bool false)
              case hv => exact ⟨_, rfl⟩
              case h1 =>
                intro hst Λ ρ W hW hD hk hdep hval
                have h12 : Λ 12 = true := hdep { on := 12, ground := .data } (by simp) rfl
                have he12 : Value.slice ad12 (k + 1) c12 = ρ 12 := by have := hval 12 _ 157 (by omega) rfl rfl h12; injection this
                have own12 := hD.2.2.2.1 h12
                rw [← he12] at own12
                refine step_call hst rfl _ _ _ rfl rfl (fun ρ W hρ => by go_simp; done) ?_
                exact (has_long HI.out own12).mono fun e W' ⟨g1, g2⟩ => ⟨_, g1, rfl, hW.trans (g2.mono hW.size), hD.stab (by decide) (by decide) (by decide) (by decide) g2⟩
              rintro _ rfl
              dsimp only [putO]
              iterate 3 ((apply g_det; (exact rfl); (exact rfl); (exact rfl); (exact rfl); focus (intro W0 hW0; (first | (refine o_skip rfl rfl rfl ?_) | (refine o_have rfl fun hw => ?_; (first | (refine o_assign hw.out _ rfl rfl rfl rfl ?_) | (refine o_move hw.out _ rfl rfl rfl rfl ?_) | (refine o_pickT hw.out _ _ _ rfl rfl rfl rfl rfl ?_) | (refine o_pickF hw.out _ _ _ rfl rfl rfl rfl rfl ?_) | (refine o_bin hw.out _ _ _ _ _ rfl rfl rfl rfl rfl (fun W => by go_simp; first | done | rfl) ?_) | (refine o_un hw.out _ _ _ rfl rfl rfl rfl (fun W => by go_simp; first | done | rfl) ?_) | (refine o_field hw.out _ _ _ rfl rfl rfl rfl (fun W => by go_simp; first | done | rfl) ?_) | (refine o_index hw.out _ _ _ rfl rfl rfl rfl rfl (fun W => by go_simp; first | done | rfl) ?_) | (refine o_conv hw.out _ _ _ rfl rfl rfl rfl (fun W => by go_simp; first | done | rfl) ?_)))); exact g_lk rfl)))
              apply g_end
              intro w1 Λ ρ hW _ _ _
              simp only [fr, app, slc, List.set_cons_succ, List.set_cons_zero]
              go_wp2
              go_ret
              exact ⟨rfl, hb.trans (hW.mono hb.size)⟩
end Go.Proofs.Ytgnkhncogfppgaa
