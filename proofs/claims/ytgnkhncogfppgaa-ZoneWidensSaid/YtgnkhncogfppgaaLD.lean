import Derived.Test.YtgnkhncogfppgaaLB
import Derived.Test.YtgnkhncogfppgaaBF
import Derived.Test.YtgnkhncogfppgaaBE
namespace Go.Proofs.Ytgnkhncogfppgaa
open Go.RowKit
theorem zeq_ne {z w : Zn} (hz : OKZ z) (hw : OKZ w) (hne : z ≠ w) : zeq z.n z.none z.D w.n w.none w.D = false := by
  cases h : zeq z.n z.none z.D w.n w.none w.D with
  | false => rfl
  | true =>
    obtain ⟨h1, h2, h3⟩ := zc_inj (zeq_iff.1 h)
    have hn : z.n = w.n := by omega
    refine absurd (Zn.ext' hn h2 fun i j => ?_) hne
    by_cases hij : i < 7 ∧ j < 7
    · exact h3 i j hij.1 hij.2
    · have z6 := hz.n
      have w6 := hw.n
      rw [hz.out i j (by omega), hw.out i j (by omega)]
theorem uActs : Try.prog.underlying 36 = some (.slice 48) := Try.underlying36
/-- A slice of slices of acts. -/
def SlR (w : World) (ad : Option Addr) (len : Nat) (R : Nat → Option Addr × Nat × Nat) (A : Nat → Nat → Nat → Int) : Prop :=
  ∀ i, i < len → ∃ b off, ad = some ⟨b, off, none⟩ ∧ w.cell? ⟨b, off + i, none⟩ = some (.slice (R i).1 (R i).2.1 (R i).2.2) ∧ (R i).2.1 ≤ 9223372036854775807 ∧ SlA w (R i).1 (R i).2.1 (A i)
theorem SlR.on {w w' : World} {ad : Option Addr} {len : Nat} {R A} (h : SlR w ad len R A) (hb : Below w.heap.size w w') : SlR w' ad len R A := fun i hi => by
  obtain ⟨b, off, h1, h2, h3, h4⟩ := h i hi
  exact ⟨b, off, h1, (hb.cell (p := ⟨b, off + i, none⟩) (block_lt_of_cell h2)).trans h2, h3, h4.on hb⟩
section
variable {P : Program} {ops : Array Oper} {rest : List Oper} {o : Oper} {w0 : World} {L : Act → Prop} {l : List Value} {ov : List (Nat × Value)} {ds : List Deferred} {d : Nat} {v : Value}
theorem o_extract (hw : Region.wanted o (yO ops l ov) = true) (x : Operand) (i : Nat) (ho : o.op = .extract x i) {vs : Array Value} (hx : evalO l ov x = some (.tuple vs)) (hv : vs[i]? = some v) (hd : o.dst = some d) (hl : Nat.blt d l.length = true)
    (h : LX P ops w0 L rest l ((d, v) :: ov) ds) : LX P ops w0 L (o :: rest) l ov ds :=
  fun hst => lex_pure (by rw [yO_eq hst]; exact hw) (by simp [isNew, ho]) v (fun W => by
    unfold execOp
    simp only [ho, evalL_eval ((evalO_L hst x).trans hx), Instr.extract, hv, Sem.run_bind, Sem.run_pure, Result.andThen_ok]) (o_put hd hl h hst)
end
/-- A head that makes two variables of two types. -/
theorem head2y {P : Program} {id : Nat} {Q : Exit → Act → World → Prop} {a : Act} {w : World} {l : List Oper} (n : Nat) (hm : P.follows .mixedOrders = true) (hB : Region.lexTailB .any l.toArray n = true) (hN : newsB P l.toArray n = true) (k1 k2 : Nat) (h1 : newsIn l.toArray n = [k1, k2]) (hne : k1 ≠ k2)
    (d1 d2 : Nat) (hdd : d1 ≠ d2) (T1 T2 : TypeId) (hk1 : ((l[k1]?).bind fun o => match o.op with | .alloc T' => if T' = T1 then o.dst else none | _ => none) = some d1) (hk2 : ((l[k2]?).bind fun o => match o.op with | .alloc T' => if T' = T2 then o.dst else none | _ => none) = some d2)
    (v1 v2 : Value) (hv1 : (P.info? T1).bind (·.zero) = some v1) (hv2 : (P.info? T2).bind (·.zero) = some v2)
    (h : lexQ P l.toArray w (fun a' => ∀ w' r1 r2, Below w.heap.size w w' → w.heap.size ≤ r1 → w.heap.size ≤ r2 → r1 ≠ r2 → RowAt T1 w' r1 v1.cells → RowAt T2 w' r2 v2.cells → wpList P l.toArray Q (l.drop n) ((a'.put (some d1) (.pointer (some ⟨r1, 0, none⟩))).put (some d2) (.pointer (some ⟨r2, 0, none⟩))) w') (l.take n) a) :
    (Code.region id l.toArray true).wp P Q a w := by
  have key : ∀ (k d : Nat) (T : TypeId), ((l[k]?).bind fun (o : Oper) => match o.op with | .alloc T' => if T' = T then o.dst else none | _ => none) = some d → ∃ o, l.toArray[k]? = some o ∧ o.op = .alloc T ∧ o.dst = some d := fun k d T hk => by
    cases ho : l[k]? with
    | none => rw [ho] at hk; cases hk
    | some o =>
      rw [ho] at hk
      simp only [Option.bind_some] at hk
      split at hk
      · rename_i T' hop
        split at hk
        · rename_i hT
          subst hT
          exact ⟨o, by simpa using ho, hop, hk⟩
        · cases hk
      · cases hk
  obtain ⟨o1, ho1, hT1, hd1⟩ := key k1 d1 T1 hk1
  obtain ⟨o2, ho2, hT2, hd2⟩ := key k2 d2 T2 hk2
  refine head2 n hm hB hN k1 k2 h1 hne o1 o2 ho1 ho2 (fun d hd => by rw [hd1] at hd; injection hd with hd; subst hd; rw [hd2]; simpa using Ne.symm hdd) T1 T2 hT1 hT2 v1 v2 hv1 hv2 ?_
  rw [hd1, hd2]
  exact h
set_option maxRecDepth 100000 in
set_option maxHeartbeats 8000000 in
theorem widens_walk (nn : Int) (ad : Option Addr) (len cap : Nat) (hlen : len ≤ 9223372036854775807) (R : Nat → Option Addr × Nat × Nat) (A : Nat → Nat → Nat → Int) (w : World) (hA : SlR w ad len R A) :
    Calls Try.prog 14 #[.int .i64 nn, .slice ad len cap] w (Ret w (.bool true)) := by
  obtain ⟨r, hr0⟩ : ∃ r : Nat, (IntKind.u64.wrap nn).toNat = r := ⟨_, rfl⟩
  have hrr : IntKind.u64.wrap nn = (r : Int) := by rw [← hr0]; exact u64_nat _
  obtain ⟨k, hk⟩ : ∃ k : Nat, r % 7 = k := ⟨_, rfl⟩
  have x3 : (r : Int) % 7 = (k : Int) := by omega
  have hk6 : k ≤ 6 := by omega
  clear hr0 hk
  have HA := Lib.hid hA
  clear hA
  have HZS : Hid (∀ W : World, Calls Try.prog 28 #[.int .i64 (k : Int)] W (Ret W (.agg (zerosZ k).c))) := fun W => zeros_any k hk6 W
  have HZO : Hid (∀ W : World, Calls Try.prog 62 #[.int .i64 (k : Int)] W (Ret W (.agg (zerosZ k).c))) := fun W => zerosof_any k hk6 W
  have HBO : Hid (∀ W : World, Calls Try.prog 22 #[.agg (zerosZ k).c, .int .i64 0, .int .i64 (-1), .int .i64 (-1)] W (Ret W (.agg (boundZ (zerosZ k) 0 (-1) (-1)).c))) := fun W => bound_any (zerosZ k) hk6 0 (-1) (-1) W
  have HT0 : Hid (∀ W : World, Calls Try.prog 21 #[.int .i64 0] W (Ret W (.agg (topZ 0).c))) := fun W => top_any 0 (by omega) W
  have HMAIN : Hid (∀ z : Zn, OKZ z → z.n = k → ∀ i, i < len → ∃ X J V : Zn, OKZ V ∧ V.n = k ∧ (V ≠ z → muZ V < muZ z ∧ zeq k V.none V.D k z.none z.D = false) ∧
      (∀ W : World, Below w.heap.size w W → Calls Try.prog 31 #[.agg (zerosZ k).c, .agg (zerosZ k).c, .slice (R i).1 (R i).2.1 (R i).2.2] W (Ret W (.tuple #[.agg (zc k X.none X.D), .agg (zc k X.none X.D), .bool true]))) ∧
      (∀ W : World, Calls Try.prog 57 #[.agg (zc k z.none z.D), .agg (zc k X.none X.D)] W (Ret W (.agg (zc k J.none J.D)))) ∧
      (∀ W : World, Calls Try.prog 58 #[.agg (zc k z.none z.D), .agg (zc k J.none J.D)] W (Ret W (.agg (zc k V.none V.D)))) ∧
      (∀ W : World, Calls Try.prog 43 #[.agg (zc k X.none X.D), .agg (zc k V.none V.D)] W (Ret W (.bool true))) ∧
      (∀ W : World, Calls Try.prog 43 #[.agg (zc k z.none z.D), .agg (zc k V.none V.D)] W (Ret W (.bool true)))) := fun z hz hzn i hi => by
    obtain ⟨_, _, _, _, hl, hS⟩ := HA.out i hi
    obtain ⟨X, hX⟩ : ∃ X, X = actsZ (zerosZ k) (A i) (min (R i).2.1 20) := ⟨_, rfl⟩
    have hXK : OKZ X := by rw [hX]; exact acts_ok (zeros_ok hk6) _ _
    have hXN : X.n = k := by rw [hX, actsZ_n]; rfl
    have hn : z.n = X.n := hzn.trans hXN.symm
    have hJK := join_ok hz hXK
    have hJN : (joinZ z X).n = k := by rw [joinZ_n _ _ hn]; exact hzn
    have hnJ : z.n = (joinZ z X).n := hzn.trans hJN.symm
    have hVK := wid_ok hz hJK
    have hVN : (widZ z (joinZ z X)).n = k := by rw [widZ_n hz hnJ]; exact hzn
    have up1 := wid_up hz hJK hnJ
    have up2 : ∀ Y : Zn, withinB Y (joinZ z X) = true → withinB Y (widZ z (joinZ z X)) = true := fun Y hY => by
      have u1 : withinB (joinZ z X) (joinZ z (joinZ z X)) = true := join_upr hnJ
      obtain ⟨a1, a2⟩ := within_iff.1 hY
      obtain ⟨b1, b2⟩ := within_iff.1 u1
      obtain ⟨c1, c2⟩ := within_iff.1 up1
      refine within_iff.2 ⟨by omega, ?_⟩
      rcases a2 with a2 | ⟨a2, a3⟩
      · exact .inl a2
      · rcases b2 with b2 | ⟨b2, b3⟩
        · rw [a2] at b2; cases b2
        · rcases c2 with c2 | ⟨c2, c3⟩
          · rw [b2] at c2; cases c2
          · exact .inr ⟨c2, fun x hx y hy => Int.le_trans (a3 x hx y hy) (Int.le_trans (b3 x hx y hy) (c3 x hx y hy))⟩
    refine ⟨X, joinZ z X, widZ z (joinZ z X), hVK, hVN, fun hne => ⟨wid_falls hz hXK hn hne, by have := zeq_ne hVK hz hne; rw [hVN, hzn] at this; exact this⟩, fun W hW => ?_, fun W => ?_, fun W => ?_, fun W => ?_, fun W => ?_⟩
    · have := apply_any (zeros_ok hk6) (R i).1 (R i).2.1 (R i).2.2 hl (A i) W (hS.on hW)
      rw [← hX, show X.c = zc X.n X.none X.D from rfl, hXN] at this
      exact this
    · have := join_any hz hXK W
      rw [Zn.c, Zn.c, Zn.c, hzn, hXN, hJN] at this; exact this
    · have := widen_any hz hJK W
      rw [Zn.c, Zn.c, Zn.c, hzn, hJN, hVN] at this; exact this
    · have := within_any X (widZ z (joinZ z X)) hXK.n W
      rw [up2 X (join_upr hn), Zn.c, Zn.c, hXN, hVN] at this; exact this
    · have := within_any z (widZ z (joinZ z X)) hz.n W
      rw [up2 z (join_upl hn), Zn.c, Zn.c, hzn, hVN] at this; exact this
  -- the first zone
  obtain ⟨Z0, hZ0⟩ : ∃ Z0, Z0 = if k = 0 then topZ 0 else boundZ (zerosZ k) 0 (-1) (-1) := ⟨_, rfl⟩
  have HZ0K : Hid (OKZ Z0) := by
    rw [hZ0]
    by_cases hk0 : k = 0
    · rw [if_pos hk0]; exact top_ok (by omega)
    · rw [if_neg hk0]
      have := bound_ok (zeros_ok hk6) (i := 1) (j := 0) (by show 1 ≤ k; omega) (by show 0 ≤ k; omega) (by omega) (d := -1) (by omega)
      rw [show ((1 : Nat) : Int) - 1 = 0 by omega, show ((0 : Nat) : Int) - 1 = -1 by omega] at this
      exact this
  have HZ0N : Hid (Z0.n = k) := by
    rw [hZ0]
    by_cases hk0 : k = 0
    · rw [if_pos hk0, topZ_n]; exact hk0.symm
    · rw [if_neg hk0, boundZ_n]; rfl
  have HMU : Hid (0 + muZ Z0 ≤ 14) := by
    have := muZ_le HZ0K.out.n
    show 0 + muZ Z0 ≤ 14
    omega
  have hle : (len : Int) ≤ 9223372036854775807 := by omega
  by_cases hk0 : k = 0
  · have hk1 : ((k : Int) == 0) = true := by simpa using hk0
    have HZ0E : Hid (zc ((topZ 0).n : Int) (topZ 0).none (topZ 0).D = zc k Z0.none Z0.D) := by
      show zc _ _ _ = zc _ _ _
      rw [hZ0, if_pos hk0, topZ_n, hk0]
    clear hZ0 hk0
    go_enter Try.func14, Try.ntmps14
    go_wp2_with (first
      | (go_at_call 28; ((with_reducible refine (HZS.out _).mono ?_); rintro e W4 ⟨rfl, hb⟩))
      | (go_at_call 22; ((with_reducible refine (HBO.out _).mono ?_); rintro e W5 ⟨rfl, hb4⟩; have hb := hb.trans (hb4.mono hb.size); have hge := hb.size; clear hb4))
      | (go_at_call 21; ((with_reducible refine (HT0.out _).mono ?_); rintro e W6 ⟨rfl, hb4⟩; have hz := hz.on hb4; have hb := hb.trans (hb4.mono hb.size); clear hb4))
      | (refine wpList_alloc_zone rfl 26 rfl zz ?_; intro W9 hz hb4 hs4; have hb := hb.trans (hb4.mono hge); clear hb4)
      | (refine store_z rfl _ _ rfl rfl rfl hz ?_; intro W11 hz6 hg6 hs6; have hb := below_only hb hg6 hb.size (by omega); clear hz; have hz := hz6; clear hz6 hg6 hs6)
      | fail)
    generalize W5.heap.size = g at *
    clear HBO HT0
    unfold ZAt at hz; rw [HZ0E.out] at hz; have hz : ZAt 26 _ g k Z0.none Z0.D := hz
    have HB := Lib.hid hb
    have HZ := Lib.hid hz
    clear hb hz
    go_loopw [7, 8] (fun c_ i_ wr => ∃ (c i : Nat) (z : Zn), i ≤ 40 ∧ i ≤ len ∧ c_ = .int .i64 (c : Int) ∧ i_ = .int .i64 (i : Int) ∧ Hid (OKZ z) ∧ Hid (z.n = k) ∧ Hid (c + muZ z ≤ 14) ∧ Hid (Below w.heap.size w wr) ∧ Hid (ZAt 26 wr g k z.none z.D)) (fun _ i _ => 41 - (intOf i).toNat)
    case atStart => exact ⟨0, 0, Z0, by omega, by omega, rfl, rfl, HZ0K, HZ0N, HMU, HB, HZ⟩
    case round =>
      clear HB HZ HZ0K HZ0N HMU HZ0E
      obtain ⟨c, i, z, hi, hil, rfl, rfl, HZK, HZN, HMU, HB, HZ⟩ := hrel
      have hc14 : c ≤ 14 := by have := HMU.out; omega
      have hz := HZ.out
      have hb := HB.out
      clear HB HZ
      by_cases hlt : i < 40
      · by_cases hll : i < len
        · obtain ⟨X, J, V, hVK, hVN, hfall, a1, a2, a3, a4, a5⟩ := HMAIN.out z HZK.out HZN.out i hll
          have HVK := Lib.hid hVK
          have HVN := Lib.hid hVN
          have HFALL := Lib.hid hfall
          have A1 := Lib.hid a1
          have A2 := Lib.hid a2
          have A3 := Lib.hid a3
          have A4 := Lib.hid a4
          have A5 := Lib.hid a5
          clear hVK hVN hfall a1 a2 a3 a4 a5
          obtain ⟨b, off, rfl, hcell0, _, _⟩ := HA.out i hll
          have hcell := (hb.cell (p := ⟨b, off + i, none⟩) (block_lt_of_cell hcell0)).trans hcell0
          clear hcell0
          have q0 : (0 : Int) ≤ (i : Int) := by omega
          have q1 : (i : Int) < (len : Int) := by omega
          have q3 : (i : Int) < 40 := by omega
          go_wp2
          have hlw := hz.lt
          generalize hbase : wr.heap.size = base at *
          have HBS := Lib.hid hbase
          clear hbase
          apply region_LG (n := 18) (h := base) (Sx := fun j => Nat.beq j 13 || Nat.beq j 14 || Nat.beq j 15 || Nat.beq j 16) (Ψ := Duo 26 38 13 14 15 16 base (zc k X.none X.D) (zc 0 false fun _ _ => 0) (zc k X.none X.D) (zc 0 false fun _ _ => 0))
          case hh => exact Nat.le_of_eq HBS.out.symm
          case hm => kernel_rfl
          case hB => kernel_rfl
          case hT => kernel_rfl
          case stab => exact fun Λ ρ W W' j v hj hb' _ hD => hD.stab (fun e => by subst e; exact absurd hj (by decide)) (fun e => by subst e; exact absurd hj (by decide)) (fun e => by subst e; exact absurd hj (by decide)) (fun e => by subst e; exact absurd hj (by decide)) hb'
          case h0 => exact fun W hW => Duo.none rfl rfl rfl rfl
          simp only [List.take_succ_cons, List.take_zero, List.drop_succ_cons, List.drop_zero]
          iterate 13 ((apply g_det; (exact rfl); (exact rfl); (exact rfl); (exact rfl); focus (intro W0 hW0; (first | (refine o_skip rfl rfl rfl ?_) | (refine o_have rfl fun hw => ?_; (first | (refine o_assign hw.out _ rfl rfl rfl rfl ?_) | (refine o_move hw.out _ rfl rfl rfl rfl ?_) | (refine o_pickT hw.out _ _ _ rfl rfl rfl rfl rfl ?_) | (refine o_pickF hw.out _ _ _ rfl rfl rfl rfl rfl ?_) | (refine o_extract hw.out _ _ rfl rfl rfl rfl rfl ?_) | (refine o_loadc hw.out _ _ rfl rfl ((hW0.cell (p := ⟨_, _, none⟩) (Nat.lt_of_lt_of_eq (block_lt_of_cell hcell) HBS.out)).trans hcell) rfl rfl uActs rfl ?_) | (refine o_bin hw.out _ _ _ _ _ rfl rfl rfl rfl rfl (fun W => by go_simp; first | done | rfl) ?_) | (refine o_un hw.out _ _ _ rfl rfl rfl rfl (fun W => by go_simp; first | done | rfl) ?_) | (refine o_field hw.out _ _ _ rfl rfl rfl rfl (fun W => by go_simp; first | done | rfl) ?_) | (refine o_index hw.out _ _ _ rfl rfl rfl rfl rfl (fun W => by go_simp; first | done | rfl) ?_) | (refine o_conv hw.out _ _ _ rfl rfl rfl rfl (fun W => by go_simp; first | done | rfl) ?_) | (refine o_call hw.out _ _ _ rfl rfl (fun W hW => HZS.out W) (by with_reducible rfl) (by with_reducible rfl) rfl rfl (fun ρ W hρ => by go_simp; done) ?_) | (refine o_call hw.out _ _ _ rfl rfl (fun W hW => HZO.out W) (by with_reducible rfl) (by with_reducible rfl) rfl rfl (fun ρ W hρ => by go_simp; done) ?_) | (refine o_call hw.out _ _ _ rfl rfl (fun W hW => A1.out W ((hb.trans (hW0.mono (Nat.le_trans hb.size (Nat.le_of_eq HBS.out)))).trans (hW.mono (Nat.le_trans hb.size hW0.size)))) (by with_reducible rfl) (by with_reducible rfl) rfl rfl (fun ρ W hρ => by go_simp; done) ?_)))); exact g_lk rfl)))
          apply g_spc (A := fun v => ∃ g, v = pt g)
          case hv => exact ⟨pt 0, 0, rfl⟩
          case h1 => exact fun hst Λ ρ W hW hD hk hdep hval => step_alloc hst rfl 26 rfl zz fun W' hr hb' hs' => ⟨⟨_, rfl⟩, hW.trans (hb'.mono (Nat.le_trans (Nat.le_of_eq HBS.out.symm) hW.size)), hD.make1 hk (by decide) hr hb' (Nat.le_trans (Nat.le_of_eq HBS.out.symm) hW.size)⟩
          rintro _ ⟨u1, rfl⟩
          dsimp only [putO]
          apply g_spc (A := fun v => ∃ g, v = pt g)
          case hv => exact ⟨pt 0, 0, rfl⟩
          case h1 => exact fun hst Λ ρ W hW hD hk hdep hval => step_alloc hst rfl 38 rfl rz fun W' hr hb' hs' => ⟨⟨_, rfl⟩, hW.trans (hb'.mono (Nat.le_trans (Nat.le_of_eq HBS.out.symm) hW.size)), hD.make2 hk (by decide) hr hb' (Nat.le_trans (Nat.le_of_eq HBS.out.symm) hW.size)⟩
          rintro _ ⟨u2, rfl⟩
          dsimp only [putO]
          apply g_spc (A := fun v => v = undef)
          case hv => exact ⟨undef, rfl⟩
          case h1 =>
            intro hst Λ ρ W hW hD hk hdep hval
            have h13 : Λ 13 = true := hdep { on := 13, ground := .data } (by simp) rfl
            have he : pt u1 = ρ 13 := by have := hval 13 _ 9 (by omega) rfl rfl h13; injection this
            obtain ⟨hrow, hgb⟩ := hD.1.get h13 he.symm
            rw [show Λ 15 = false from hk] at hrow
            exact step_store_row hst rfl 26 _ _ rfl rfl rfl hrow (by simp [zc_size]) (by rw [zc_size]; exact zsz) (zc_one _ _ _) fun W' hr' hg' => ⟨rfl, below_only hW hg' (Nat.le_trans (Nat.le_of_eq HBS.out.symm) hW.size) hgb, hD.put1 h13 (by decide) he.symm hr' hg'⟩
          rintro _ rfl
          dsimp only [putO]
          apply g_spc (A := fun v => v = undef)
          case hv => exact ⟨undef, rfl⟩
          case h1 =>
            intro hst Λ ρ W hW hD hk hdep hval
            have h14 : Λ 14 = true := hdep { on := 14, ground := .data } (by simp) rfl
            have he : pt u2 = ρ 14 := by have := hval 14 _ 10 (by omega) rfl rfl h14; injection this
            obtain ⟨hrow, hgb⟩ := hD.2.1.get h14 he.symm
            rw [show Λ 16 = false from hk] at hrow
            exact step_store_row hst rfl 38 _ _ rfl rfl rfl hrow (by simp [zc_size]) (by rw [zc_size]; exact rsz) (zc_one _ _ _) fun W' hr' hg' => ⟨rfl, below_only hW hg' (Nat.le_trans (Nat.le_of_eq HBS.out.symm) hW.size) hgb, hD.put2 h14 (by decide) he.symm hr' hg'⟩
          rintro _ rfl
          dsimp only [putO]
          (apply g_det; (exact rfl); (exact rfl); (exact rfl); (exact rfl); focus (intro W0 hW0; (first | (refine o_skip rfl rfl rfl ?_) | (refine o_have rfl fun hw => ?_; (first | (refine o_assign hw.out _ rfl rfl rfl rfl ?_) | (refine o_move hw.out _ rfl rfl rfl rfl ?_) | (refine o_pickT hw.out _ _ _ rfl rfl rfl rfl rfl ?_) | (refine o_pickF hw.out _ _ _ rfl rfl rfl rfl rfl ?_) | (refine o_bin hw.out _ _ _ _ _ rfl rfl rfl rfl rfl (fun W => by go_simp; first | done | rfl) ?_) | (refine o_un hw.out _ _ _ rfl rfl rfl rfl (fun W => by go_simp; first | done | rfl) ?_) | (refine o_field hw.out _ _ _ rfl rfl rfl rfl (fun W => by go_simp; first | done | rfl) ?_) | (refine o_index hw.out _ _ _ rfl rfl rfl rfl rfl (fun W => by go_simp; first | done | rfl) ?_) | (refine o_conv hw.out _ _ _ rfl rfl rfl rfl (fun W => by go_simp; first | done | rfl) ?_)))); exact g_lk rfl))
          apply g_end
          intro w1 Λ ρ hW hD hall hval
          have he : pt u1 = ρ 13 := by have := hval 13 _ 9 (by omega) rfl rfl; injection this
          obtain ⟨hx, hgb⟩ := hD.1.get (hall 13 (by omega)) he.symm
          rw [hall 15 (by omega)] at hx
          have hx : ZAt 26 w1 u1 k X.none X.D := hx
          have hz := hz.below hW hlw
          have hb := hb.trans (hW.mono (by rw [← HBS.out]; exact hb.size))
          have hgu : g < u1 := Nat.lt_of_lt_of_le hlw hgb
          clear hcell hW hD hall hval he HBS hlw hgb
          simp only [fr, app, pt, List.set_cons_succ, List.set_cons_zero]
          go_wp2
          refine head1z 6 (by kernel_rfl) (by kernel_rfl) (by kernel_rfl) 5 (by kernel_rfl) 12 26 (by kernel_rfl) _ zz ?_
          simp only [List.take_succ_cons, List.take_zero, List.drop_succ_cons, List.drop_zero]
          (refine o_start ?_; (iterate 6 (first | (refine o_skip rfl rfl rfl ?_) | (refine o_have rfl fun hw => ?_; (first | (refine o_move hw.out _ rfl rfl rfl rfl ?_) | (refine o_pickT hw.out _ _ _ rfl rfl rfl rfl rfl ?_) | (refine o_pickF hw.out _ _ _ rfl rfl rfl rfl rfl ?_) | (refine o_new hw.out rfl rfl rfl ?_) | (refine o_load_z hw.out _ rfl rfl hz rfl rfl ?_) | (refine o_load_z hw.out _ rfl rfl hx rfl rfl ?_) | (refine o_bin hw.out _ _ _ _ _ rfl rfl rfl rfl rfl (fun W => by go_simp; first | done | rfl) ?_) | (refine o_un hw.out _ _ _ rfl rfl rfl rfl (fun W => by go_simp; first | done | rfl) ?_) | (refine o_field hw.out _ _ _ rfl rfl rfl rfl (fun W => by go_simp; first | done | rfl) ?_) | (refine o_index hw.out _ _ _ rfl rfl rfl rfl rfl (fun W => by go_simp; first | done | rfl) ?_) | (refine o_conv hw.out _ _ _ rfl rfl rfl rfl (fun W => by go_simp; first | done | rfl) ?_) | (refine o_call hw.out _ _ _ rfl rfl (fun W hW => A2.out W) (by with_reducible rfl) (by with_reducible rfl) rfl rfl (fun ρ W hρ => by go_simp; done) ?_) | (refine o_call hw.out _ _ _ rfl rfl (fun W hW => A3.out W) (by with_reducible rfl) (by with_reducible rfl) rfl rfl (fun ρ W hρ => by go_simp; done) ?_)); clear hw))); refine o_end ?_; simp only [app, List.set_cons_succ, List.set_cons_zero])
          intro w2 u3 hb2 hu3 hv
          have hv : ZAt 26 w2 u3 0 false (fun _ _ => 0) := hv
          have hl6 := hx.lt
          have hl7 := hz.lt
          have hl8 := hb.size
          have hz := hz.on hb2
          have hx := hx.on hb2
          have hb := hb.trans (hb2.mono hb.size)
          clear hb2
          simp only [Act.put, List.setIfInBounds_toArray, List.set_cons_succ, List.set_cons_zero]
          by_cases hvz : V = z
          · subst hvz
            go_wp2_with (first
              | (refine store_z rfl _ _ rfl rfl rfl hv ?_; intro W45 hv7 hg7 hs10; have hz := hz.only hg7 (by omega); have hx := hx.only hg7 (by omega); have hb := below_only hb hg7 hb.size (by omega); clear hv; have hv := hv7; clear hv7 hg7 hs10)
              | (refine store_z rfl _ _ rfl rfl rfl hz ?_; intro W48 hz7 hg7 hs10; have hb := below_only hb hg7 hb.size (by omega); clear hz; have hz := hz7; clear hz7 hg7 hs10)
              | (refine load_z rfl _ rfl rfl hz ?_)
              | (refine load_z rfl _ rfl rfl hx ?_)
              | (refine load_z rfl _ rfl rfl hv ?_)
              | (go_at_call 43; ((with_reducible refine (A4.out _).mono ?_); rintro e W46 ⟨rfl, hb3⟩; have hz := hz.on hb3; have hx := hx.on hb3; have hv := hv.on hb3; have hb := hb.trans (hb3.mono hb.size); clear hb3))
              | (go_at_call 43; ((with_reducible refine (A5.out _).mono ?_); rintro e W47 ⟨rfl, hb3⟩; have hz := hz.on hb3; have hx := hx.on hb3; have hv := hv.on hb3; have hb := hb.trans (hb3.mono hb.size); clear hb3))
              | fail)
            have HB := Lib.hid hb
            have HZ := Lib.hid hz
            clear hb hz hx hv
            go_roundw
            case rel => exact ⟨c, i + 1, V, by omega, by omega, rfl, by go_num, HZK, HZN, HMU, HB, HZ⟩
            case measure => simp [intOf]; omega
          · obtain ⟨hmu, hzq⟩ := HFALL.out hvz
            have HMU2 : Hid (c + 1 + muZ V ≤ 14) := by have := HMU.out; show c + 1 + muZ V ≤ 14; omega
            clear hmu HFALL hvz
            go_wp2_with (first
              | (refine store_z rfl _ _ rfl rfl rfl hv ?_; intro W45 hv7 hg7 hs10; have hz := hz.only hg7 (by omega); have hx := hx.only hg7 (by omega); have hb := below_only hb hg7 hb.size (by omega); clear hv; have hv := hv7; clear hv7 hg7 hs10)
              | (refine store_z rfl _ _ rfl rfl rfl hz ?_; intro W48 hz7 hg7 hs10; have hb := below_only hb hg7 hb.size (by omega); clear hz; have hz := hz7; clear hz7 hg7 hs10)
              | (refine load_z rfl _ rfl rfl hz ?_)
              | (refine load_z rfl _ rfl rfl hx ?_)
              | (refine load_z rfl _ rfl rfl hv ?_)
              | (go_at_call 43; ((with_reducible refine (A4.out _).mono ?_); rintro e W46 ⟨rfl, hb3⟩; have hz := hz.on hb3; have hx := hx.on hb3; have hv := hv.on hb3; have hb := hb.trans (hb3.mono hb.size); clear hb3))
              | (go_at_call 43; ((with_reducible refine (A5.out _).mono ?_); rintro e W47 ⟨rfl, hb3⟩; have hz := hz.on hb3; have hx := hx.on hb3; have hv := hv.on hb3; have hb := hb.trans (hb3.mono hb.size); clear hb3))
              | fail)
            have HB := Lib.hid hb
            have HZ := Lib.hid hz
            clear hb hz hx hv
            go_roundw
            case rel => exact ⟨c + 1, i + 1, V, by omega, by omega, by go_num, by go_num, HVK, HVN, HMU2, HB, HZ⟩
            case measure => simp [intOf]; omega
        · obtain rfl : i = len := by omega
          have q2 : (c : Int) ≤ 14 := by omega
          go_wp2_with (first
            | (go_at_call 24; ((with_reducible refine (copies_any _).mono ?_); rintro e W50 ⟨rfl, hb3⟩; have hb := hb.trans (hb3.mono hb.size); clear hb3))
            | fail)
          go_ret
          exact ⟨rfl, hb⟩
      · obtain rfl : i = 40 := by omega
        by_cases hll : (40 : Int) < (len : Int)
        · have q2 : (c : Int) ≤ 14 := by omega
          go_wp2_with (first
            | (go_at_call 24; ((with_reducible refine (copies_any _).mono ?_); rintro e W50 ⟨rfl, hb3⟩; have hb := hb.trans (hb3.mono hb.size); clear hb3))
            | fail)
          go_ret
          exact ⟨rfl, hb⟩
        · have q2 : (c : Int) ≤ 14 := by omega
          go_wp2_with (first
            | (go_at_call 24; ((with_reducible refine (copies_any _).mono ?_); rintro e W50 ⟨rfl, hb3⟩; have hb := hb.trans (hb3.mono hb.size); clear hb3))
            | fail)
          go_ret
          exact ⟨rfl, hb⟩
  · have hk1 : ((k : Int) == 0) = false := by simpa using hk0
    have HZ0E : Hid (zc ((boundZ (zerosZ k) 0 (-1) (-1)).n : Int) (boundZ (zerosZ k) 0 (-1) (-1)).none (boundZ (zerosZ k) 0 (-1) (-1)).D = zc k Z0.none Z0.D) := by
      show zc _ _ _ = zc _ _ _
      rw [hZ0, if_neg hk0, boundZ_n]; rfl
    clear hZ0 hk0
    go_enter Try.func14, Try.ntmps14
    go_wp2_with (first
      | (go_at_call 28; ((with_reducible refine (HZS.out _).mono ?_); rintro e W4 ⟨rfl, hb⟩))
      | (go_at_call 22; ((with_reducible refine (HBO.out _).mono ?_); rintro e W5 ⟨rfl, hb4⟩; have hb := hb.trans (hb4.mono hb.size); have hge := hb.size; clear hb4))
      | (go_at_call 21; ((with_reducible refine (HT0.out _).mono ?_); rintro e W6 ⟨rfl, hb4⟩; have hz := hz.on hb4; have hb := hb.trans (hb4.mono hb.size); clear hb4))
      | (refine wpList_alloc_zone rfl 26 rfl zz ?_; intro W9 hz hb4 hs4; have hb := hb.trans (hb4.mono hge); clear hb4)
      | (refine store_z rfl _ _ rfl rfl rfl hz ?_; intro W11 hz6 hg6 hs6; have hb := below_only hb hg6 hb.size (by omega); clear hz; have hz := hz6; clear hz6 hg6 hs6)
      | fail)
    generalize W5.heap.size = g at *
    clear HBO HT0
    unfold ZAt at hz; rw [HZ0E.out] at hz; have hz : ZAt 26 _ g k Z0.none Z0.D := hz
    have HB := Lib.hid hb
    have HZ := Lib.hid hz
    clear hb hz
    go_loopw [7, 8] (fun c_ i_ wr => ∃ (c i : Nat) (z : Zn), i ≤ 40 ∧ i ≤ len ∧ c_ = .int .i64 (c : Int) ∧ i_ = .int .i64 (i : Int) ∧ Hid (OKZ z) ∧ Hid (z.n = k) ∧ Hid (c + muZ z ≤ 14) ∧ Hid (Below w.heap.size w wr) ∧ Hid (ZAt 26 wr g k z.none z.D)) (fun _ i _ => 41 - (intOf i).toNat)
    case atStart => exact ⟨0, 0, Z0, by omega, by omega, rfl, rfl, HZ0K, HZ0N, HMU, HB, HZ⟩
    case round =>
      clear HB HZ HZ0K HZ0N HMU HZ0E
      obtain ⟨c, i, z, hi, hil, rfl, rfl, HZK, HZN, HMU, HB, HZ⟩ := hrel
      have hc14 : c ≤ 14 := by have := HMU.out; omega
      have hz := HZ.out
      have hb := HB.out
      clear HB HZ
      by_cases hlt : i < 40
      · by_cases hll : i < len
        · obtain ⟨X, J, V, hVK, hVN, hfall, a1, a2, a3, a4, a5⟩ := HMAIN.out z HZK.out HZN.out i hll
          have HVK := Lib.hid hVK
          have HVN := Lib.hid hVN
          have HFALL := Lib.hid hfall
          have A1 := Lib.hid a1
          have A2 := Lib.hid a2
          have A3 := Lib.hid a3
          have A4 := Lib.hid a4
          have A5 := Lib.hid a5
          clear hVK hVN hfall a1 a2 a3 a4 a5
          obtain ⟨b, off, rfl, hcell0, _, _⟩ := HA.out i hll
          have hcell := (hb.cell (p := ⟨b, off + i, none⟩) (block_lt_of_cell hcell0)).trans hcell0
          clear hcell0
          have q0 : (0 : Int) ≤ (i : Int) := by omega
          have q1 : (i : Int) < (len : Int) := by omega
          have q3 : (i : Int) < 40 := by omega
          go_wp2
          have hlw := hz.lt
          generalize hbase : wr.heap.size = base at *
          have HBS := Lib.hid hbase
          clear hbase
          apply region_LG (n := 18) (h := base) (Sx := fun j => Nat.beq j 13 || Nat.beq j 14 || Nat.beq j 15 || Nat.beq j 16) (Ψ := Duo 26 38 13 14 15 16 base (zc k X.none X.D) (zc 0 false fun _ _ => 0) (zc k X.none X.D) (zc 0 false fun _ _ => 0))
          case hh => exact Nat.le_of_eq HBS.out.symm
          case hm => kernel_rfl
          case hB => kernel_rfl
          case hT => kernel_rfl
          case stab => exact fun Λ ρ W W' j v hj hb' _ hD => hD.stab (fun e => by subst e; exact absurd hj (by decide)) (fun e => by subst e; exact absurd hj (by decide)) (fun e => by subst e; exact absurd hj (by decide)) (fun e => by subst e; exact absurd hj (by decide)) hb'
          case h0 => exact fun W hW => Duo.none rfl rfl rfl rfl
          simp only [List.take_succ_cons, List.take_zero, List.drop_succ_cons, List.drop_zero]
          iterate 13 ((apply g_det; (exact rfl); (exact rfl); (exact rfl); (exact rfl); focus (intro W0 hW0; (first | (refine o_skip rfl rfl rfl ?_) | (refine o_have rfl fun hw => ?_; (first | (refine o_assign hw.out _ rfl rfl rfl rfl ?_) | (refine o_move hw.out _ rfl rfl rfl rfl ?_) | (refine o_pickT hw.out _ _ _ rfl rfl rfl rfl rfl ?_) | (refine o_pickF hw.out _ _ _ rfl rfl rfl rfl rfl ?_) | (refine o_extract hw.out _ _ rfl rfl rfl rfl rfl ?_) | (refine o_loadc hw.out _ _ rfl rfl ((hW0.cell (p := ⟨_, _, none⟩) (Nat.lt_of_lt_of_eq (block_lt_of_cell hcell) HBS.out)).trans hcell) rfl rfl uActs rfl ?_) | (refine o_bin hw.out _ _ _ _ _ rfl rfl rfl rfl rfl (fun W => by go_simp; first | done | rfl) ?_) | (refine o_un hw.out _ _ _ rfl rfl rfl rfl (fun W => by go_simp; first | done | rfl) ?_) | (refine o_field hw.out _ _ _ rfl rfl rfl rfl (fun W => by go_simp; first | done | rfl) ?_) | (refine o_index hw.out _ _ _ rfl rfl rfl rfl rfl (fun W => by go_simp; first | done | rfl) ?_) | (refine o_conv hw.out _ _ _ rfl rfl rfl rfl (fun W => by go_simp; first | done | rfl) ?_) | (refine o_call hw.out _ _ _ rfl rfl (fun W hW => HZS.out W) (by with_reducible rfl) (by with_reducible rfl) rfl rfl (fun ρ W hρ => by go_simp; done) ?_) | (refine o_call hw.out _ _ _ rfl rfl (fun W hW => HZO.out W) (by with_reducible rfl) (by with_reducible rfl) rfl rfl (fun ρ W hρ => by go_simp; done) ?_) | (refine o_call hw.out _ _ _ rfl rfl (fun W hW => A1.out W ((hb.trans (hW0.mono (Nat.le_trans hb.size (Nat.le_of_eq HBS.out)))).trans (hW.mono (Nat.le_trans hb.size hW0.size)))) (by with_reducible rfl) (by with_reducible rfl) rfl rfl (fun ρ W hρ => by go_simp; done) ?_)))); exact g_lk rfl)))
          apply g_spc (A := fun v => ∃ g, v = pt g)
          case hv => exact ⟨pt 0, 0, rfl⟩
          case h1 => exact fun hst Λ ρ W hW hD hk hdep hval => step_alloc hst rfl 26 rfl zz fun W' hr hb' hs' => ⟨⟨_, rfl⟩, hW.trans (hb'.mono (Nat.le_trans (Nat.le_of_eq HBS.out.symm) hW.size)), hD.make1 hk (by decide) hr hb' (Nat.le_trans (Nat.le_of_eq HBS.out.symm) hW.size)⟩
          rintro _ ⟨u1, rfl⟩
          dsimp only [putO]
          apply g_spc (A := fun v => ∃ g, v = pt g)
          case hv => exact ⟨pt 0, 0, rfl⟩
          case h1 => exact fun hst Λ ρ W hW hD hk hdep hval => step_alloc hst rfl 38 rfl rz fun W' hr hb' hs' => ⟨⟨_, rfl⟩, hW.trans (hb'.mono (Nat.le_trans (Nat.le_of_eq HBS.out.symm) hW.size)), hD.make2 hk (by decide) hr hb' (Nat.le_trans (Nat.le_of_eq HBS.out.symm) hW.size)⟩
          rintro _ ⟨u2, rfl⟩
          dsimp only [putO]
          apply g_spc (A := fun v => v = undef)
          case hv => exact ⟨undef, rfl⟩
          case h1 =>
            intro hst Λ ρ W hW hD hk hdep hval
            have h13 : Λ 13 = true := hdep { on := 13, ground := .data } (by simp) rfl
            have he : pt u1 = ρ 13 := by have := hval 13 _ 9 (by omega) rfl rfl h13; injection this
            obtain ⟨hrow, hgb⟩ := hD.1.get h13 he.symm
            rw [show Λ 15 = false from hk] at hrow
            exact step_store_row hst rfl 26 _ _ rfl rfl rfl hrow (by simp [zc_size]) (by rw [zc_size]; exact zsz) (zc_one _ _ _) fun W' hr' hg' => ⟨rfl, below_only hW hg' (Nat.le_trans (Nat.le_of_eq HBS.out.symm) hW.size) hgb, hD.put1 h13 (by decide) he.symm hr' hg'⟩
          rintro _ rfl
          dsimp only [putO]
          apply g_spc (A := fun v => v = undef)
          case hv => exact ⟨undef, rfl⟩
          case h1 =>
            intro hst Λ ρ W hW hD hk hdep hval
            have h14 : Λ 14 = true := hdep { on := 14, ground := .data } (by simp) rfl
            have he : pt u2 = ρ 14 := by have := hval 14 _ 10 (by omega) rfl rfl h14; injection this
            obtain ⟨hrow, hgb⟩ := hD.2.1.get h14 he.symm
            rw [show Λ 16 = false from hk] at hrow
            exact step_store_row hst rfl 38 _ _ rfl rfl rfl hrow (by simp [zc_size]) (by rw [zc_size]; exact rsz) (zc_one _ _ _) fun W' hr' hg' => ⟨rfl, below_only hW hg' (Nat.le_trans (Nat.le_of_eq HBS.out.symm) hW.size) hgb, hD.put2 h14 (by decide) he.symm hr' hg'⟩
          rintro _ rfl
          dsimp only [putO]
          (apply g_det; (exact rfl); (exact rfl); (exact rfl); (exact rfl); focus (intro W0 hW0; (first | (refine o_skip rfl rfl rfl ?_) | (refine o_have rfl fun hw => ?_; (first | (refine o_assign hw.out _ rfl rfl rfl rfl ?_) | (refine o_move hw.out _ rfl rfl rfl rfl ?_) | (refine o_pickT hw.out _ _ _ rfl rfl rfl rfl rfl ?_) | (refine o_pickF hw.out _ _ _ rfl rfl rfl rfl rfl ?_) | (refine o_bin hw.out _ _ _ _ _ rfl rfl rfl rfl rfl (fun W => by go_simp; first | done | rfl) ?_) | (refine o_un hw.out _ _ _ rfl rfl rfl rfl (fun W => by go_simp; first | done | rfl) ?_) | (refine o_field hw.out _ _ _ rfl rfl rfl rfl (fun W => by go_simp; first | done | rfl) ?_) | (refine o_index hw.out _ _ _ rfl rfl rfl rfl rfl (fun W => by go_simp; first | done | rfl) ?_) | (refine o_conv hw.out _ _ _ rfl rfl rfl rfl (fun W => by go_simp; first | done | rfl) ?_)))); exact g_lk rfl))
          apply g_end
          intro w1 Λ ρ hW hD hall hval
          have he : pt u1 = ρ 13 := by have := hval 13 _ 9 (by omega) rfl rfl; injection this
          obtain ⟨hx, hgb⟩ := hD.1.get (hall 13 (by omega)) he.symm
          rw [hall 15 (by omega)] at hx
          have hx : ZAt 26 w1 u1 k X.none X.D := hx
          have hz := hz.below hW hlw
          have hb := hb.trans (hW.mono (by rw [← HBS.out]; exact hb.size))
          have hgu : g < u1 := Nat.lt_of_lt_of_le hlw hgb
          clear hcell hW hD hall hval he HBS hlw hgb
          simp only [fr, app, pt, List.set_cons_succ, List.set_cons_zero]
          go_wp2
          refine head1z 6 (by kernel_rfl) (by kernel_rfl) (by kernel_rfl) 5 (by kernel_rfl) 12 26 (by kernel_rfl) _ zz ?_
          simp only [List.take_succ_cons, List.take_zero, List.drop_succ_cons, List.drop_zero]
          (refine o_start ?_; (iterate 6 (first | (refine o_skip rfl rfl rfl ?_) | (refine o_have rfl fun hw => ?_; (first | (refine o_move hw.out _ rfl rfl rfl rfl ?_) | (refine o_pickT hw.out _ _ _ rfl rfl rfl rfl rfl ?_) | (refine o_pickF hw.out _ _ _ rfl rfl rfl rfl rfl ?_) | (refine o_new hw.out rfl rfl rfl ?_) | (refine o_load_z hw.out _ rfl rfl hz rfl rfl ?_) | (refine o_load_z hw.out _ rfl rfl hx rfl rfl ?_) | (refine o_bin hw.out _ _ _ _ _ rfl rfl rfl rfl rfl (fun W => by go_simp; first | done | rfl) ?_) | (refine o_un hw.out _ _ _ rfl rfl rfl rfl (fun W => by go_simp; first | done | rfl) ?_) | (refine o_field hw.out _ _ _ rfl rfl rfl rfl (fun W => by go_simp; first | done | rfl) ?_) | (refine o_index hw.out _ _ _ rfl rfl rfl rfl rfl (fun W => by go_simp; first | done | rfl) ?_) | (refine o_conv hw.out _ _ _ rfl rfl rfl rfl (fun W => by go_simp; first | done | rfl) ?_) | (refine o_call hw.out _ _ _ rfl rfl (fun W hW => A2.out W) (by with_reducible rfl) (by with_reducible rfl) rfl rfl (fun ρ W hρ => by go_simp; done) ?_) | (refine o_call hw.out _ _ _ rfl rfl (fun W hW => A3.out W) (by with_reducible rfl) (by with_reducible rfl) rfl rfl (fun ρ W hρ => by go_simp; done) ?_)); clear hw))); refine o_end ?_; simp only [app, List.set_cons_succ, List.set_cons_zero])
          intro w2 u3 hb2 hu3 hv
          have hv : ZAt 26 w2 u3 0 false (fun _ _ => 0) := hv
          have hl6 := hx.lt
          have hl7 := hz.lt
          have hl8 := hb.size
          have hz := hz.on hb2
          have hx := hx.on hb2
          have hb := hb.trans (hb2.mono hb.size)
          clear hb2
          simp only [Act.put, List.setIfInBounds_toArray, List.set_cons_succ, List.set_cons_zero]
          by_cases hvz : V = z
          · subst hvz
            go_wp2_with (first
              | (refine store_z rfl _ _ rfl rfl rfl hv ?_; intro W45 hv7 hg7 hs10; have hz := hz.only hg7 (by omega); have hx := hx.only hg7 (by omega); have hb := below_only hb hg7 hb.size (by omega); clear hv; have hv := hv7; clear hv7 hg7 hs10)
              | (refine store_z rfl _ _ rfl rfl rfl hz ?_; intro W48 hz7 hg7 hs10; have hb := below_only hb hg7 hb.size (by omega); clear hz; have hz := hz7; clear hz7 hg7 hs10)
              | (refine load_z rfl _ rfl rfl hz ?_)
              | (refine load_z rfl _ rfl rfl hx ?_)
              | (refine load_z rfl _ rfl rfl hv ?_)
              | (go_at_call 43; ((with_reducible refine (A4.out _).mono ?_); rintro e W46 ⟨rfl, hb3⟩; have hz := hz.on hb3; have hx := hx.on hb3; have hv := hv.on hb3; have hb := hb.trans (hb3.mono hb.size); clear hb3))
              | (go_at_call 43; ((with_reducible refine (A5.out _).mono ?_); rintro e W47 ⟨rfl, hb3⟩; have hz := hz.on hb3; have hx := hx.on hb3; have hv := hv.on hb3; have hb := hb.trans (hb3.mono hb.size); clear hb3))
              | fail)
            have HB := Lib.hid hb
            have HZ := Lib.hid hz
            clear hb hz hx hv
            go_roundw
            case rel => exact ⟨c, i + 1, V, by omega, by omega, rfl, by go_num, HZK, HZN, HMU, HB, HZ⟩
            case measure => simp [intOf]; omega
          · obtain ⟨hmu, hzq⟩ := HFALL.out hvz
            have HMU2 : Hid (c + 1 + muZ V ≤ 14) := by have := HMU.out; show c + 1 + muZ V ≤ 14; omega
            clear hmu HFALL hvz
            go_wp2_with (first
              | (refine store_z rfl _ _ rfl rfl rfl hv ?_; intro W45 hv7 hg7 hs10; have hz := hz.only hg7 (by omega); have hx := hx.only hg7 (by omega); have hb := below_only hb hg7 hb.size (by omega); clear hv; have hv := hv7; clear hv7 hg7 hs10)
              | (refine store_z rfl _ _ rfl rfl rfl hz ?_; intro W48 hz7 hg7 hs10; have hb := below_only hb hg7 hb.size (by omega); clear hz; have hz := hz7; clear hz7 hg7 hs10)
              | (refine load_z rfl _ rfl rfl hz ?_)
              | (refine load_z rfl _ rfl rfl hx ?_)
              | (refine load_z rfl _ rfl rfl hv ?_)
              | (go_at_call 43; ((with_reducible refine (A4.out _).mono ?_); rintro e W46 ⟨rfl, hb3⟩; have hz := hz.on hb3; have hx := hx.on hb3; have hv := hv.on hb3; have hb := hb.trans (hb3.mono hb.size); clear hb3))
              | (go_at_call 43; ((with_reducible refine (A5.out _).mono ?_); rintro e W47 ⟨rfl, hb3⟩; have hz := hz.on hb3; have hx := hx.on hb3; have hv := hv.on hb3; have hb := hb.trans (hb3.mono hb.size); clear hb3))
              | fail)
            have HB := Lib.hid hb
            have HZ := Lib.hid hz
            clear hb hz hx hv
            go_roundw
            case rel => exact ⟨c + 1, i + 1, V, by omega, by omega, by go_num, by go_num, HVK, HVN, HMU2, HB, HZ⟩
            case measure => simp [intOf]; omega
        · obtain rfl : i = len := by omega
          have q2 : (c : Int) ≤ 14 := by omega
          go_wp2_with (first
            | (go_at_call 24; ((with_reducible refine (copies_any _).mono ?_); rintro e W50 ⟨rfl, hb3⟩; have hb := hb.trans (hb3.mono hb.size); clear hb3))
            | fail)
          go_ret
          exact ⟨rfl, hb⟩
      · obtain rfl : i = 40 := by omega
        by_cases hll : (40 : Int) < (len : Int)
        · have q2 : (c : Int) ≤ 14 := by omega
          go_wp2_with (first
            | (go_at_call 24; ((with_reducible refine (copies_any _).mono ?_); rintro e W50 ⟨rfl, hb3⟩; have hb := hb.trans (hb3.mono hb.size); clear hb3))
            | fail)
          go_ret
          exact ⟨rfl, hb⟩
        · have q2 : (c : Int) ≤ 14 := by omega
          go_wp2_with (first
            | (go_at_call 24; ((with_reducible refine (copies_any _).mono ?_); rintro e W50 ⟨rfl, hb3⟩; have hb := hb.trans (hb3.mono hb.size); clear hb3))
            | fail)
          go_ret
          exact ⟨rfl, hb⟩
end Go.Proofs.Ytgnkhncogfppgaa
